/- The law of dynamics: the codes of the letters of each dynamic. -/
import Derived.Deep.RegionHeld3
import Derived.Test.YtejmliomagnjfaaDyn
namespace Go.Proofs.Ytejmliomagnjfaa
open Go Go.RowKit Go.Shelf

def codeOf (b : Int) : Nat := (60 + idxI letsL b).toNat
theorem dyn_codes (q : Nat) (hq : q < 9) : 1 ≤ (dynB (q + 1)).length ∧ ∀ (k : Nat) (b : Int), (dynB (q + 1))[k]? = some b → ∃ j : Nat, 60 + idxI letsL b = (j : Int) + 1 ∧ j < 68 ∧ nm j = ⟨#[108, 101, 116, 116, 101, 114, 46]⟩ ++ (dynS (q + 1)).extract k (k + 1) := by
  have hall : ∀ q : Fin 9, 1 ≤ (dynB (q.val + 1)).length ∧ ∀ k : Fin 3, ∀ b ∈ ((dynB (q.val + 1))[k.val]?).toList, (60 + idxI letsL b = ((59 + idxI letsL b).toNat : Int) + 1) ∧ (59 + idxI letsL b).toNat < 68 ∧ (nm (59 + idxI letsL b).toNat).data.toList = [108, 101, 116, 116, 101, 114, 46] ++ ((dynS (q.val + 1)).extract k.val (k.val + 1)).data.toList := by decide +kernel
  obtain ⟨h1, h2⟩ := hall ⟨q, hq⟩
  refine ⟨h1, fun k b hb => ?_⟩
  have hk : k < 3 := by
    have := (List.getElem?_eq_some_iff.1 hb).1
    have h3 := (dyn_facts (q + 1) (by omega)).2.1
    omega
  obtain ⟨g1, g2, g3⟩ := h2 ⟨k, hk⟩ b (by simp only; rw [hb]; simp)
  refine ⟨_, g1, g2, ByteArray.ext (Array.ext' ?_)⟩
  rw [g3]
  simp

def dynTab : Array Value := #[.string ⟨#[112, 112, 112]⟩, .string ⟨#[112, 112]⟩, .string ⟨#[112]⟩, .string ⟨#[109, 112]⟩, .string ⟨#[109, 102]⟩, .string ⟨#[102]⟩, .string ⟨#[102, 102]⟩, .string ⟨#[102, 102, 102]⟩, .string ⟨#[115, 102, 122]⟩]
theorem dynTab_get (q : Nat) (h : q < 9) : dynTab[q]? = some (.string (dynS (q + 1))) := by
  obtain h | h | h | h | h | h | h | h | h : q = 0 ∨ q = 1 ∨ q = 2 ∨ q = 3 ∨ q = 4 ∨ q = 5 ∨ q = 6 ∨ q = 7 ∨ q = 8 := by omega
  all_goals (subst h; rfl)

theorem size_RG : (Try.prog.info? 29).map (·.size) = some 3 := by kernel_rfl
theorem Kp.drewR {a b : World} (h : Kp a b) : Kp a b.drew := Below.drew h

set_option maxRecDepth 100000 in
set_option maxHeartbeats 2000000 in
theorem walk_dyn_out (a0 : Int) (w : World) (h : a0 < 1 ∨ 9 < a0) :
    Calls Try.prog 4 #[.int .i64 a0] w fun e w' => e = .returned (.bool true) ∧ Kp w w' := by
  have hd := fun W => Dynamic_out a0 W h
  rcases h with h | h
  all_goals
    go_enter Try.func4, Try.ntmps4
    go_wp2_with (first
      | (go_at_call 13; refine (hd _).mono ?_; rintro e w1 ⟨rfl, rfl⟩)
      | (go_at_call 12; refine (known23_any _).mono ?_; rintro e w2 ⟨rfl, hk2⟩; have Hk2 := Lib.hid hk2; clear hk2))
    go_ret
    exact ⟨retBool (by simp), Hk2.out⟩

set_option maxRecDepth 100000 in
set_option maxHeartbeats 4000000 in
theorem walk_dyn_in (q : Nat) (w : World) (hq : q < 9) :
    Calls Try.prog 4 #[.int .i64 ((q : Int) + 1)] w fun e w' => e = .returned (.bool true) ∧ Kp w w' := by
  have hd : ∀ W, Calls Try.prog 13 #[.int .i64 ((q : Int) + 1)] W fun e w' => ∃ v, e = .returned (.tuple #[v, .int .i64 0]) ∧ w'.ownsRow W.heap.size 3 1 v (dynB (q + 1)).length (ints (codesOf (dynB (q + 1)))) ∧ Kp W w' := fun W => Dynamic_in (q + 1) (by omega) (by omega) W
  obtain ⟨hlen1, hcodes⟩ := dyn_codes q hq
  obtain ⟨hsz, hl3, _⟩ := dyn_facts (q + 1) (by omega)
  have hcell : ∀ W : World, (W.alloc (.cells dynTab 9)).cell? ⟨W.heap.size, q, none⟩ = some (.string (dynS (q + 1))) := fun W => by
    rw [(HasRow.new W dynTab 9).cell]; exact dynTab_get q hq
  unfold dynTab at hcell
  obtain ⟨S, hS⟩ : ∃ S, dynS (q + 1) = S := ⟨_, rfl⟩
  obtain ⟨bs, hbs⟩ : ∃ bs, dynB (q + 1) = bs := ⟨_, rfl⟩
  obtain ⟨n, hn⟩ : ∃ n, bs.length = n + 1 := ⟨bs.length - 1, by rw [← hbs]; omega⟩
  rw [hS] at hcell hcodes hsz
  rw [hbs] at hd hcodes hsz hl3
  rw [hn] at hd hsz hl3
  have Hd := Lib.hid hd
  have Hcodes := Lib.hid hcodes
  have Hn := Lib.hid hn
  have hq9 : (q : Int) < 9 := by omega
  clear hd hcodes hlen1 hS hbs hn
  go_enter Try.func4, Try.ntmps4
  go_wp2_with (first
    | (go_at_call 13; refine (Hd.out _).mono ?_; rintro e w1 ⟨v, rfl, hown, hk1⟩; obtain ⟨Bv, cap, cur, rfl, _, hrow, hcur, _, _⟩ := owns_row hown; have Hk1 := Lib.hid hk1; have Hrow := Lib.hid hrow; have Hcur := Lib.hid hcur; clear hown hk1 hrow hcur)
    | (go_at_call 12; refine (known23_any _).mono ?_; rintro e w2 ⟨rfl, hk2⟩; have Hk2 := Lib.hid (Hk1.out.trans hk2); have Hrow2 := Lib.hid (Hrow.out.kp hk2); clear hk2))
  go_loopw [6] (fun i wr => ∃ k : Nat, k ≤ n + 1 ∧ i = .int .i64 k ∧ Kp w2 wr) (fun i _ => n + 1 - (intOf i).toNat)
  case atStart => exact ⟨0, Nat.zero_le _, rfl, Kp.alloc _ _⟩
  case round =>
    obtain ⟨k, hk, rfl, hkr⟩ := hrel
    by_cases hl : k < n + 1
    · obtain ⟨b, hb⟩ : ∃ b, bs[k]? = some b := ⟨bs[k]'(by rw [Hn.out]; exact hl), by simp⟩
      obtain ⟨j, hj1, hj2, hj3⟩ := Hcodes.out k b hb
      have hc0 : (ints (codesOf bs))[k]? = some (.int .i64 ((j : Int) + 1)) := by
        simp [ints, codesOf, hb, hj1]
      have hrow := Hrow2.out.kp hkr
      have hcw : wr.cell? ⟨Bv, k, none⟩ = some (.int .i64 ((j : Int) + 1)) := by
        rw [hrow.cell]; exact Hcur.out k _ hc0
      have Hok : Hid (∀ W', Kp wr W' → W'.cell? ⟨Bv, k, none⟩ = some (.int .i64 ((j : Int) + 1))) := Lib.hid (fun W' hk' => by
        rw [(hrow.kp hk').cell]; exact Hcur.out k _ hc0)
      have his := fun W => is_any ((j : Int) + 1) W
      have hi : isCode ((j : Int) + 1) = true := by simp only [isCode, Bool.and_eq_true, decide_eq_true_eq]; omega
      rw [hi] at his
      have Hkr := Lib.hid hkr
      obtain ⟨N, hN⟩ : ∃ N, nm j = N := ⟨_, rfl⟩
      rw [hN] at hj3
      have HN := Lib.hid hN
      have HN3 := Lib.hid hj3
      have hlb := hrow.lt
      have hj67 : (j : Int) < 68 := by omega
      have hj0 : (0 : Int) ≤ j := by omega
      have hjw2 : IntKind.i64.wrap (j : Int) = j := by simp [IntKind.wrap, IntKind.bits, IntKind.signed]; omega
      have hjw : IntKind.i64.wrap ((j : Int) + 1 - 1) = j := by simp [IntKind.wrap, IntKind.bits, IntKind.signed]; omega
      have hkw : IntKind.i64.wrap ((k : Int) + 1) = k + 1 := by simp [IntKind.wrap, IntKind.bits, IntKind.signed]; omega
      have hsl : ∀ W, (Instr.slice 9 (.string S) (some (.int .i64 k)) (some (.int .i64 ((k : Int) + 1))) none).run Try.prog W = .ok (.string (S.extract k (k + 1))) W := fun W => by
        have h := run_slice_string (P := Try.prog) W 9 S .i64 .i64 (k : Int) ((k : Int) + 1) Try.underlying9 (by omega) (by omega) (by omega)
        have e : ((k : Int) + 1).toNat = k + 1 := by omega
        rw [Int.toNat_natCast, e] at h
        exact h
      obtain ⟨E, hE⟩ : ∃ E, S.extract k (k + 1) = E := ⟨_, rfl⟩
      have hEs : E.size ≤ 3 := by rw [← hE, ByteArray.size_extract]; omega
      have hj3 := HN3.out
      rw [hE] at hj3 hsl
      have hcat : ∀ W, (Op.stringOp .add ⟨#[108, 101, 116, 116, 101, 114, 46]⟩ E).run Try.prog W = .ok (.string N) W := fun W => by
        have hm : IntKind.i64.max = 9223372036854775807 := rfl
        have h7 : (⟨#[108, 101, 116, 116, 101, 114, 46]⟩ : ByteArray).size = 7 := rfl
        unfold Op.stringOp
        simp only
        rw [if_neg (by rw [hm, h7]; omega), hj3]
        rfl
      have hia : ∀ B : Nat, ({ block := B, off := 0 } : Addr).add (j * 3) = ⟨B, j * 3, none⟩ := fun B => by unfold Addr.add; split <;> simp_all
      have hrg : ∀ (B : Nat) W, (Instr.indexAt 25 (.slice (some ⟨B, 0, none⟩) 68 68) (.int .i64 (j : Int))).run Try.prog W = .ok (.pointer (some ⟨B, j * 3, none⟩)) W := fun B W => by
        obtain ⟨i, hi, hs⟩ := Option.map_eq_some_iff.1 size_RG
        simp [Instr.indexAt, asIntOf, run_underlying Try.underlying25, sizeOf, typeInfo, hi, hs, hj0, hia, hj2]
      clear hE hj3 HN3 hia
      have hk0 : (0 : Int) ≤ k := by omega
      have hk00 : (0 : Int) ≤ (k : Int) + 1 := by omega
      have hk1 : (k : Int) ≤ (k : Int) + 1 := by omega
      have hk2 : (k : Int) + 1 ≤ (S.size : Int) := by omega
      have hk3 : (k : Int) + 1 ≤ ((n + 1 : Nat) : Int) := by omega
      clear hb hj1 hj3 hc0 hrow hkr hi hN
      go_wp2_with fail
      refine wp_region_held_drew (S := fun W' => W'.cell? ⟨Bv, k, none⟩ = some (.int .i64 ((j : Int) + 1))) (by kernel_rfl) (Hok.out _ (Kp.drewR (Kp.refl _))) (fun hHeld => ?_)
      refine wpAnyH_take (i := 0) (v := .slice (some ⟨Bv, 0, none⟩) (n + 1) cap) (by simp only [List.getElem?_toArray, List.getElem?_cons_zero]; rfl) (by kernel_rfl) (by kernel_rfl) (by kernel_rfl) (by intro _ _ _ h; exact h) (Or.inl ⟨by rfl, ?hy0⟩) (by assumption) ?rest0
      case hy0 => (intro w hSw; (try dsimp only at hSw); go_simp)
      simp only [Act.put, List.setIfInBounds_toArray, List.set_cons_zero, List.set_cons_succ]
      refine wpAnyH_take (i := 1) (v := .int .i64 k) (by simp only [List.getElem?_toArray, List.getElem?_cons_succ, List.getElem?_cons_zero]; rfl) (by kernel_rfl) (by kernel_rfl) (by kernel_rfl) (by intro _ _ _ h; exact h) (Or.inl ⟨by rfl, ?hy1⟩) (by assumption) ?rest1
      case hy1 => (intro w hSw; (try dsimp only at hSw); go_simp)
      simp only [Act.put, List.setIfInBounds_toArray, List.set_cons_zero, List.set_cons_succ]
      refine wpAnyH_take (i := 2) (v := .pointer (some ⟨Bv, k, none⟩)) (by simp only [List.getElem?_toArray, List.getElem?_cons_succ, List.getElem?_cons_zero]; rfl) (by kernel_rfl) (by kernel_rfl) (by kernel_rfl) (by intro _ _ _ h; exact h) (Or.inl ⟨by rfl, ?hy2⟩) (by assumption) ?rest2
      case hy2 => (intro w hSw; (try dsimp only at hSw); go_simp)
      simp only [Act.put, List.setIfInBounds_toArray, List.set_cons_zero, List.set_cons_succ]
      refine wpAnyH_take (i := 3) (v := .int .i64 ((j : Int) + 1)) (by simp only [List.getElem?_toArray, List.getElem?_cons_succ, List.getElem?_cons_zero]; rfl) (by kernel_rfl) (by kernel_rfl) (by kernel_rfl) (by intro _ _ _ h; exact h) (Or.inl ⟨by rfl, ?hy3⟩) (by assumption) ?rest3
      case hy3 => (intro w hSw; (try dsimp only at hSw); go_simp)
      simp only [Act.put, List.setIfInBounds_toArray, List.set_cons_zero, List.set_cons_succ]
      refine wpAnyH_ready (rs := [4]) (by kernel_rfl) (by simp) ?_
      refine AllReadyH.cons rfl (fun K hK => ?_) AllReadyH.nil
      go_simp
      go_wp2_with (go_at_call 14; refine (his _).mono ?_; rintro e w6 ⟨rfl, rfl⟩)
      refine hK.out _ _ (Hok.out _ (Kp.drewR (Kp.refl _))) (fun hHeld => ?_)
      clear hK K
      try simp only [Act.put, List.setIfInBounds_toArray, List.set_cons_zero, List.set_cons_succ]
      refine wpAnyH_take (i := 5) (v := .bool false) (by simp only [List.getElem?_toArray, List.getElem?_cons_succ, List.getElem?_cons_zero]; rfl) (by kernel_rfl) (by kernel_rfl) (by kernel_rfl) (by intro _ _ _ h; exact h) (Or.inl ⟨by rfl, ?hy5⟩) (by assumption) ?rest5
      case hy5 => (intro w hSw; (try dsimp only at hSw); go_simp)
      simp only [Act.put, List.setIfInBounds_toArray, List.set_cons_zero, List.set_cons_succ]
      refine wpAnyH_take (i := 6) (v := .bool false) (by simp only [List.getElem?_toArray, List.getElem?_cons_succ, List.getElem?_cons_zero]; rfl) (by kernel_rfl) (by kernel_rfl) (by kernel_rfl) (by intro _ _ _ h; exact h) (Or.inl ⟨by rfl, ?hy6⟩) (by assumption) ?rest6
      case hy6 => (intro w hSw; (try dsimp only at hSw); go_simp)
      simp only [Act.put, List.setIfInBounds_toArray, List.set_cons_zero, List.set_cons_succ]
      refine wpAnyH_take (i := 8) (v := .slice (some ⟨Bv, 0, none⟩) (n + 1) cap) (by simp only [List.getElem?_toArray, List.getElem?_cons_succ, List.getElem?_cons_zero]; rfl) (by kernel_rfl) (by kernel_rfl) (by kernel_rfl) (by intro _ _ _ h; exact h) (Or.inl ⟨by rfl, ?hy8⟩) (by assumption) ?rest8
      case hy8 => (intro w hSw; (try dsimp only at hSw); go_simp)
      simp only [Act.put, List.setIfInBounds_toArray, List.set_cons_zero, List.set_cons_succ]
      refine wpAnyH_take (i := 9) (v := .int .i64 k) (by simp only [List.getElem?_toArray, List.getElem?_cons_succ, List.getElem?_cons_zero]; rfl) (by kernel_rfl) (by kernel_rfl) (by kernel_rfl) (by intro _ _ _ h; exact h) (Or.inl ⟨by rfl, ?hy9⟩) (by assumption) ?rest9
      case hy9 => (intro w hSw; (try dsimp only at hSw); go_simp)
      simp only [Act.put, List.setIfInBounds_toArray, List.set_cons_zero, List.set_cons_succ]
      refine wpAnyH_take (i := 10) (v := .pointer (some ⟨Bv, k, none⟩)) (by simp only [List.getElem?_toArray, List.getElem?_cons_succ, List.getElem?_cons_zero]; rfl) (by kernel_rfl) (by kernel_rfl) (by kernel_rfl) (by intro _ _ _ h; exact h) (Or.inl ⟨by rfl, ?hy10⟩) (by assumption) ?rest10
      case hy10 => (intro w hSw; (try dsimp only at hSw); go_simp)
      simp only [Act.put, List.setIfInBounds_toArray, List.set_cons_zero, List.set_cons_succ]
      refine wpAnyH_take (i := 11) (v := .int .i64 ((j : Int) + 1)) (by simp only [List.getElem?_toArray, List.getElem?_cons_succ, List.getElem?_cons_zero]; rfl) (by kernel_rfl) (by kernel_rfl) (by kernel_rfl) (by intro _ _ _ h; exact h) (Or.inl ⟨by rfl, ?hy11⟩) (by assumption) ?rest11
      case hy11 => (intro w hSw; (try dsimp only at hSw); go_simp)
      simp only [Act.put, List.setIfInBounds_toArray, List.set_cons_zero, List.set_cons_succ]
      refine wpAnyH_take (i := 12) (v := .int .i64 j) (by simp only [List.getElem?_toArray, List.getElem?_cons_succ, List.getElem?_cons_zero]; rfl) (by kernel_rfl) (by kernel_rfl) (by kernel_rfl) (by intro _ _ _ h; exact h) (Or.inl ⟨by rfl, ?hy12⟩) (by assumption) ?rest12
      case hy12 => (intro w hSw; (try dsimp only at hSw); go_simp)
      simp only [Act.put, List.setIfInBounds_toArray, List.set_cons_zero, List.set_cons_succ]
      refine wpAnyH_take (i := 16) (v := .string S) (by simp only [List.getElem?_toArray, List.getElem?_cons_succ, List.getElem?_cons_zero]; rfl) (by kernel_rfl) (by kernel_rfl) (by kernel_rfl) (by intro _ _ _ h; exact h) (Or.inl ⟨by rfl, ?hy16⟩) (by assumption) ?rest16
      case hy16 => (intro w hSw; (try dsimp only at hSw); go_simp)
      simp only [Act.put, List.setIfInBounds_toArray, List.set_cons_zero, List.set_cons_succ]
      refine wpAnyH_take (i := 17) (v := .int .i64 k) (by simp only [List.getElem?_toArray, List.getElem?_cons_succ, List.getElem?_cons_zero]; rfl) (by kernel_rfl) (by kernel_rfl) (by kernel_rfl) (by intro _ _ _ h; exact h) (Or.inl ⟨by rfl, ?hy17⟩) (by assumption) ?rest17
      case hy17 => (intro w hSw; (try dsimp only at hSw); go_simp)
      simp only [Act.put, List.setIfInBounds_toArray, List.set_cons_zero, List.set_cons_succ]
      refine wpAnyH_take (i := 18) (v := .int .i64 k) (by simp only [List.getElem?_toArray, List.getElem?_cons_succ, List.getElem?_cons_zero]; rfl) (by kernel_rfl) (by kernel_rfl) (by kernel_rfl) (by intro _ _ _ h; exact h) (Or.inl ⟨by rfl, ?hy18⟩) (by assumption) ?rest18
      case hy18 => (intro w hSw; (try dsimp only at hSw); go_simp)
      simp only [Act.put, List.setIfInBounds_toArray, List.set_cons_zero, List.set_cons_succ]
      refine wpAnyH_take (i := 19) (v := .int .i64 ((k : Int) + 1)) (by simp only [List.getElem?_toArray, List.getElem?_cons_succ, List.getElem?_cons_zero]; rfl) (by kernel_rfl) (by kernel_rfl) (by kernel_rfl) (by intro _ _ _ h; exact h) (Or.inl ⟨by rfl, ?hy19⟩) (by assumption) ?rest19
      case hy19 => (intro w hSw; (try dsimp only at hSw); go_simp)
      simp only [Act.put, List.setIfInBounds_toArray, List.set_cons_zero, List.set_cons_succ]
      refine wpAnyH_take (i := 20) (v := .string E) (by simp only [List.getElem?_toArray, List.getElem?_cons_succ, List.getElem?_cons_zero]; rfl) (by kernel_rfl) (by kernel_rfl) (by kernel_rfl) (by intro _ _ _ h; exact h) (Or.inl ⟨by rfl, ?hy20⟩) (by assumption) ?rest20
      case hy20 => (intro w hSw; (try dsimp only at hSw); go_simp)
      simp only [Act.put, List.setIfInBounds_toArray, List.set_cons_zero, List.set_cons_succ]
      refine wpAnyH_take (i := 21) (v := .string N) (by simp only [List.getElem?_toArray, List.getElem?_cons_succ, List.getElem?_cons_zero]; rfl) (by kernel_rfl) (by kernel_rfl) (by kernel_rfl) (by intro _ _ _ h; exact h) (Or.inl ⟨by rfl, ?hy21⟩) (by assumption) ?rest21
      case hy21 => (intro w hSw; (try dsimp only at hSw); go_simp)
      simp only [Act.put, List.setIfInBounds_toArray, List.set_cons_zero, List.set_cons_succ]
      refine wpAnyH_ready (rs := [7]) (by kernel_rfl) (by simp) ?_
      refine AllReadyH.cons rfl (fun K hK => ?_) AllReadyH.nil
      go_simp
      go_wp2_with (go_at_call 11; refine (refAll_any _).mono ?_; rintro e w6 ⟨v6, rfl, hR, hk⟩; obtain ⟨B6, rfl, hB6⟩ := ref_name hR; have hc6 := hB6 j hj2; rw [HN.out] at hc6; have hk6 : Kp wr w6 := Kp.trans (Kp.drewR (Kp.refl _)) hk; clear hk hR hB6)
      refine hK.out _ _ (Hok.out _ hk6) (fun hHeld => ?_)
      clear hK K
      try simp only [Act.put, List.setIfInBounds_toArray, List.set_cons_zero, List.set_cons_succ]
      refine wpAnyH_take (i := 13) (v := .pointer (some ⟨B6, j * 3, none⟩)) (by simp only [List.getElem?_toArray, List.getElem?_cons_succ, List.getElem?_cons_zero]; rfl) (by kernel_rfl) (by kernel_rfl) (by kernel_rfl) (by intro _ _ _ h; exact h) (Or.inl ⟨by rfl, ?hy13⟩) (by assumption) ?rest13
      case hy13 => (intro w hSw; (try dsimp only at hSw); go_simp)
      simp only [Act.put, List.setIfInBounds_toArray, List.set_cons_zero, List.set_cons_succ]
      refine wpAnyH_take (i := 14) (v := .pointer (some ⟨B6, j * 3, none⟩)) (by simp only [List.getElem?_toArray, List.getElem?_cons_succ, List.getElem?_cons_zero]; rfl) (by kernel_rfl) (by kernel_rfl) (by kernel_rfl) (by intro _ _ _ h; exact h) (Or.inl ⟨by rfl, ?hy14⟩) (by assumption) ?rest14
      case hy14 => (intro w hSw; (try dsimp only at hSw); go_simp)
      simp only [Act.put, List.setIfInBounds_toArray, List.set_cons_zero, List.set_cons_succ]
      refine wpAnyH_ready (rs := [15]) (by kernel_rfl) (by simp) ?_
      refine AllReadyH.cons rfl (fun K hK => ?_) AllReadyH.nil
      go_simp
      refine hK.out _ _ (Hok.out _ hk6) (fun hHeld => ?_)
      clear hK K
      try simp only [Act.put, List.setIfInBounds_toArray, List.set_cons_zero, List.set_cons_succ]
      refine wpAnyH_take (i := 22) (v := .bool false) (by simp only [List.getElem?_toArray, List.getElem?_cons_succ, List.getElem?_cons_zero]; rfl) (by kernel_rfl) (by kernel_rfl) (by kernel_rfl) (by intro _ _ _ h; exact h) (Or.inl ⟨by rfl, ?hy22⟩) (by assumption) ?rest22
      case hy22 => (intro w hSw; (try dsimp only at hSw); go_simp)
      simp only [Act.put, List.setIfInBounds_toArray, List.set_cons_zero, List.set_cons_succ]
      refine wpAnyH_take (i := 23) (v := .bool false) (by simp only [List.getElem?_toArray, List.getElem?_cons_succ, List.getElem?_cons_zero]; rfl) (by kernel_rfl) (by kernel_rfl) (by kernel_rfl) (by intro _ _ _ h; exact h) (Or.inl ⟨by rfl, ?hy23⟩) (by assumption) ?rest23
      case hy23 => (intro w hSw; (try dsimp only at hSw); go_simp)
      simp only [Act.put, List.setIfInBounds_toArray, List.set_cons_zero, List.set_cons_succ]
      refine wpAnyH_done (by kernel_rfl) ?_ _
      have Hk6 := Lib.hid hk6
      clear hk6
      go_wp2_with fail
      go_roundw
      case rel => exact ⟨k + 1, by omega, by go_num, Hkr.out.trans Hk6.out⟩
      case measure => simp [intOf]; omega
    · obtain rfl : k = n + 1 := by omega
      go_wp2
      go_ret
      exact ⟨retBool (by simp), Hk2.out.trans hkr⟩

theorem walk_GlyphDynamics (a0 : Int) (w : World) (_w0 : (Lit.int .i64 a0).wf = true) :
    Calls Try.prog 4 #[.int .i64 a0] w fun e w' => e = .returned (.bool true) ∧ Kp w w' := by
  by_cases h : a0 < 1 ∨ 9 < a0
  · exact walk_dyn_out a0 w h
  · obtain ⟨q, hq, rfl⟩ : ∃ q : Nat, q < 9 ∧ a0 = (q : Int) + 1 := ⟨(a0 - 1).toNat, by omega, by omega⟩
    exact walk_dyn_in q w hq
end Go.Proofs.Ytejmliomagnjfaa
