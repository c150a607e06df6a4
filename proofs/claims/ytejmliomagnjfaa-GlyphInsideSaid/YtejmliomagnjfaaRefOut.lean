/- The reference's outline of a glyph: the slices of the points of its shapes, in order. -/
import Derived.Deep.RegionHeld3
import Derived.Test.YtejmliomagnjfaaRefPts
namespace Go.Proofs.Ytejmliomagnjfaa
open Go Go.RowKit Go.Shelf
set_option linter.unusedSimpArgs false

theorem Try.infoSlRP : (Try.prog.info? 79).map (fun i => (i.zero, i.size, i.bytes)) = some (some (.slice none 0 0), 1, 24) := by kernel_rfl
theorem tab_ok : (tab.all fun x => x.2.all fun s => decide (s.k ≤ 2) && decide (-1000 ≤ s.a) && decide (s.a ≤ 1000) && decide (-1000 ≤ s.b) && decide (s.b ≤ 1000) && decide (-1000 ≤ s.c) && decide (s.c ≤ 1000) && decide (-1000 ≤ s.d) && decide (s.d ≤ 1000) && decide (-1000 ≤ s.e) && decide (s.e ≤ 1000) && (decide (s.k ≠ 1) || (decide (s.a ≤ s.c) && decide (s.b ≤ s.d)))) = true := by decide +kernel
structure ShOk (s : Sh) : Prop where
  k : s.k ≤ 2
  a : -1000 ≤ s.a ∧ s.a ≤ 1000
  b : -1000 ≤ s.b ∧ s.b ≤ 1000
  c : -1000 ≤ s.c ∧ s.c ≤ 1000
  d : -1000 ≤ s.d ∧ s.d ≤ 1000
  e : -1000 ≤ s.e ∧ s.e ≤ 1000
  o : s.k = 1 → s.a ≤ s.c ∧ s.b ≤ s.d
theorem shOk_of {i : Nat} {x : List Nat × List Sh} (h : tab[i]? = some x) {s : Sh} (hs : s ∈ x.2) : ShOk s := by
  have h1 := List.all_eq_true.1 tab_ok x (List.mem_of_getElem? h)
  have h2 := List.all_eq_true.1 h1 s hs
  simp only [Bool.and_eq_true, Bool.or_eq_true, decide_eq_true_eq] at h2
  exact ⟨by omega, by omega, by omega, by omega, by omega, by omega, fun hk => by omega⟩

theorem refPts_any (s : Sh) (h : ShOk s) (E : Nat) (w : World) (hE : HasRow w E (ints (numsOf s)).toArray 3) :
    Calls Try.prog 37 #[.int .u8 (kindOf s : Nat), .slice (some ⟨E, 0, none⟩) (numsOf s).length (numsOf s).length] w fun e w' => ∃ v, e = .returned v ∧ PtsAt w.heap.size w' v s.pts ∧ Kp w w' := by
  obtain ⟨k, a, b, c, d, u⟩ := s
  obtain ⟨h0, h1, h2, h3, h4, h5, h6⟩ := h
  simp only at h0 h1 h2 h3 h4 h5 h6
  obtain rfl | rfl | rfl : k = 0 ∨ k = 1 ∨ k = 2 := by omega
  · exact refPts_box a b c d E w hE
  · exact refPts_oct a b c d h1 h2 h3 h4 (h6 rfl).1 (h6 rfl).2 E w hE
  · exact refPts_stroke a b c d u h2 h4 h5 E w hE

/-- A slice of the call's own of slices of points. -/
def OutAt (n₀ : Nat) (w : World) (v : Value) (L : List (List (Int × Int))) : Prop := ∃ xs, w.ownsRow n₀ 79 1 v L.length xs ∧ ∀ (j : Nat) (l : List (Int × Int)), L[j]? = some l → ∃ u, xs[j]? = some u ∧ PtsAt n₀ w u l
theorem PtsAt.kp {n₀ : Nat} {w w' : World} {v : Value} {l : List (Int × Int)} (h : PtsAt n₀ w v l) (hk : Kp w w') : PtsAt n₀ w' v l := by
  obtain ⟨B, h1, h2, h3⟩ := h
  exact ⟨B, h1, h2, h3.kp hk⟩
theorem PtsAt.base {n₀ n₁ : Nat} {w : World} {v : Value} {l : List (Int × Int)} (h : PtsAt n₀ w v l) (hn : n₁ ≤ n₀) : PtsAt n₁ w v l := by
  obtain ⟨B, h1, h2, h3⟩ := h
  exact ⟨B, h1, by omega, h3⟩
theorem owns_kp {w w' : World} {base : Nat} {e : TypeId} {size : Nat} {v : Value} {n : Nat} {xs : List Value} (h : w.ownsRow base e size v n xs) (hk : Kp w w') : w'.ownsRow base e size v n xs := by
  refine ⟨h.1, ?_⟩
  rcases h.2 with h0 | ⟨g, cap, cur, h1, h2, h3, h4⟩
  · exact .inl h0
  · exact .inr ⟨g, cap, cur, h1, h2, (hk.heap (Array.getElem?_eq_some_iff.1 h3).1).trans h3, h4⟩
theorem PtsAt.grown {n₀ : Nat} {w w' : World} {u v : Value} {l : List (Int × Int)} {base n : Nat} {xs : List Value} (h : PtsAt n₀ w u l) (ho : w.ownsRow base 79 1 v n xs) (hg : w.grownBy w' v.ownBlock) : PtsAt n₀ w' u l := by
  obtain ⟨B, h1, h2, h3⟩ := h
  refine ⟨B, h1, h2, h3.kept hg (fun e => ?_)⟩
  rcases ho.2 with ⟨rfl, _⟩ | ⟨g, cap, cur, rfl, _, hgb, _⟩
  · simp [Value.ownBlock] at e
  · have e' : B = g := by simpa [Value.ownBlock] using e
    subst e'
    rw [show w.heap[B]? = _ from h3] at hgb
    simp at hgb
theorem outAt_snoc {n₀ : Nat} {w w' : World} {v v' u : Value} {L : List (List (Int × Int))} {l : List (Int × Int)} {xs : List Value} (ho : w.ownsRow n₀ 79 1 v L.length xs) (hp : ∀ (j : Nat) (l : List (Int × Int)), L[j]? = some l → ∃ u, xs[j]? = some u ∧ PtsAt n₀ w u l)
    (hu : PtsAt n₀ w u l) (ho' : w'.ownsRow n₀ 79 1 v' (L.length + 1) (xs ++ [u])) (hg : w.grownBy w' v.ownBlock) : OutAt n₀ w' v' (L ++ [l]) := by
  have hl : xs.length = L.length := by have := ho.1; omega
  refine ⟨xs ++ [u], by rw [List.length_append]; exact ho', fun j l' hj => ?_⟩
  by_cases hjl : j < L.length
  · rw [List.getElem?_append_left hjl] at hj
    obtain ⟨u', h1, h2⟩ := hp j l' hj
    exact ⟨u', by rw [List.getElem?_append_left (by omega)]; exact h1, h2.grown ho hg⟩
  · rw [List.getElem?_append_right (by omega)] at hj
    have hj0 : j - L.length = 0 := by
      have := (List.getElem?_eq_some_iff.1 hj).1
      simp at this
      exact this
    rw [hj0] at hj
    simp at hj
    subst hj
    exact ⟨u, by rw [List.getElem?_append_right (by omega), hl, hj0]; rfl, hu.grown ho hg⟩

theorem OutAt.base {n₀ n₁ : Nat} {w : World} {v : Value} {L : List (List (Int × Int))} (h : OutAt n₀ w v L) (hn : n₁ ≤ n₀) : OutAt n₁ w v L := by
  obtain ⟨xs, h1, h2⟩ := h
  refine ⟨xs, ⟨h1.1, ?_⟩, fun j l hj => ?_⟩
  · rcases h1.2 with h | ⟨g, c, cur, q1, q2, q3⟩
    · exact .inl h
    · exact .inr ⟨g, c, cur, q1, by omega, q3⟩
  · obtain ⟨u, h3, h4⟩ := h2 j l hj
    exact ⟨u, h3, h4.base hn⟩
theorem index_kind (l : List Sh) (k : Nat) (s : Sh) (h : l[k]? = some s) (W : World) : (Instr.index 9 (.string (bytesOf (kindsOf l))) (.int .i64 (k : Int))).run Try.prog W = .ok (.int .u8 ((kindOf s : Nat) : Int)) W := by
  have hb : (bytesOf (kindsOf l))[k]? = some (UInt8.ofNat (kindOf s)) := by
    have : (bytesOf (kindsOf l)).data[k]? = some (UInt8.ofNat (kindOf s)) := by simp [bytesOf, kindsOf, h]
    exact this
  have hn : (UInt8.ofNat (kindOf s)).toNat = kindOf s := by unfold kindOf; split <;> (try split) <;> rfl
  simp [Instr.index, asIntOf, run_underlying Try.underlying9, hb, hn]

set_option maxRecDepth 100000 in
set_option maxHeartbeats 4000000 in
theorem refOut_any (q : Nat) (x : List Nat × List Sh) (hx : tab[q]? = some x) (w : World) :
    Calls Try.prog 27 #[.int .i64 ((q : Int) + 1)] w fun e w' => ∃ v, e = .returned v ∧ OutAt w.heap.size w' v (x.2.map Sh.pts) ∧ Kp w w' := by
  obtain ⟨i0, hi, hz0, hz1, hz2⟩ := info_parts Try.infoSlRP
  have Hi := Lib.hid hi
  have Hz0 := Lib.hid hz0
  have Hz1 := Lib.hid hz1
  have Hz2 := Lib.hid hz2
  have hq : q < 68 := by have := (List.getElem?_eq_some_iff.1 hx).1; exact this
  have hq68 : (q : Int) < 68 := by omega
  have hlen : x.2.length ≤ 20 := by
    have h1 := List.all_eq_true.1 tab_short x (List.mem_of_getElem? hx)
    simpa using h1
  have hok := fun s (hs : s ∈ x.2) => shOk_of hx hs
  obtain ⟨n, hn⟩ : ∃ n, x.2.length = n := ⟨_, rfl⟩
  rw [hn] at hlen
  have Hx := Lib.hid hx
  have Hn := Lib.hid hn
  have Hokk := Lib.hid hok
  clear hi hz0 hz1 hz2 hx hn hok
  go_enter Try.func27, Try.ntmps27
  go_wp2_with (go_at_call 11; refine (refAll_any _).mono ?_; rintro e w1 ⟨v, rfl, ⟨B, A, rfl, hA, hrows⟩, hk1⟩; obtain ⟨g1, g2, u, g3, ⟨C, AC, rfl, hAC, hcells⟩⟩ := hrows q x Hx.out; have c1 := (hA.cell (q * 3)).trans g1; have c2 := (hA.cell (q * 3 + 1)).trans g2; have c3 := (hA.cell (q * 3 + 2)).trans g3; rw [Hn.out] at c3; have Hk1 := Lib.hid hk1; have HAC := Lib.hid hAC; have Hcells := Lib.hid hcells; clear hk1 hA hrows hAC hcells g1 g2 g3)
  obtain ⟨ks, hks⟩ : ∃ ks, bytesOf (kindsOf x.2) = ks := ⟨_, rfl⟩
  rw [hks] at c2
  try rw [hks]
  obtain ⟨W1, hW1⟩ : ∃ W1, w1.alloc (.cells #[.string (bytesOf x.1), .string ks, .slice (some ⟨C, 0, none⟩) n n] 29) = W1 := ⟨_, rfl⟩
  have hk1 : Kp w W1 := by rw [← hW1]; exact Hk1.out.trans (Kp.alloc _ _)
  have hG : HasRow W1 w1.heap.size #[.string (bytesOf x.1), .string ks, .slice (some ⟨C, 0, none⟩) n n] 29 := by rw [← hW1]; exact HasRow.new _ _ _
  have hC : HasRow W1 C AC 32 := by rw [← hW1]; exact HAC.out.alloc _
  have hE : ∀ (j : Nat) (s : Sh), x.2[j]? = some s → ∃ E : Nat, AC[j]? = some (.slice (some ⟨E, 0, none⟩) (numsOf s).length (numsOf s).length) ∧ HasRow W1 E (ints (numsOf s)).toArray 3 := by
    intro j s hs
    obtain ⟨E, e1, e2⟩ := Hcells.out j s hs
    exact ⟨E, e1, by rw [← hW1]; exact e2.alloc _⟩
  rw [hW1]
  obtain ⟨G0, hG0⟩ : ∃ G0, w1.heap.size = G0 := ⟨_, rfl⟩
  rw [hG0] at hG ⊢
  have HG := Lib.hid hG
  have HC := Lib.hid hC
  have HE := Lib.hid hE
  have HK1 := Lib.hid hk1
  have Hks := Lib.hid hks
  clear hG hC hE hk1 hW1 hG0 Hk1 HAC Hcells c1 c2 c3 hks
  go_loopw [4, 5] (fun o i wr => ∃ k : Nat, k ≤ n ∧ i = .int .i64 k ∧ OutAt W1.heap.size wr o ((x.2.map Sh.pts).take k) ∧ Kp W1 wr) (fun _ i _ => n - (intOf i).toNat)
  case atStart => exact ⟨0, Nat.zero_le _, rfl, ⟨[], ⟨rfl, .inl ⟨rfl, by simp⟩⟩, by simp⟩, Kp.refl _⟩
  case round =>
    obtain ⟨k, hk, rfl, hout, hkr⟩ := hrel
    have hG2 := HG.out.kp hkr
    have p1 : wr.cell? ⟨G0, 1, none⟩ = some (.string ks) := hG2.cell 1
    have p2 : wr.cell? ⟨G0, 2, none⟩ = some (.slice (some ⟨C, 0, none⟩) n n) := hG2.cell 2
    have lG := hG2.lt
    by_cases hl : k < n
    · obtain ⟨s, hs⟩ : ∃ s, x.2[k]? = some s := ⟨x.2[k]'(by rw [Hn.out]; exact hl), by simp⟩
      obtain ⟨E, e1, e2⟩ := HE.out k s hs
      have hsok := Hokk.out s (List.mem_of_getElem? hs)
      have hpts := fun W hW => refPts_any s hsok E W hW
      have hki := fun W => index_kind x.2 k s hs W
      rw [Hks.out] at hki
      have p3 : wr.cell? ⟨C, k, none⟩ = some (.slice (some ⟨E, 0, none⟩) (numsOf s).length (numsOf s).length) := ((HC.out.kp hkr).cell k).trans e1
      have Hok : Hid (∀ W', Kp W1 W' → (W'.cell? ⟨G0, 1, none⟩ = some (.string ks) ∧ W'.cell? ⟨G0, 2, none⟩ = some (.slice (some ⟨C, 0, none⟩) n n) ∧ W'.cell? ⟨C, k, none⟩ = some (.slice (some ⟨E, 0, none⟩) (numsOf s).length (numsOf s).length))) :=
        Lib.hid (fun W' hk' => ⟨(HG.out.kp hk').cell 1, (HG.out.kp hk').cell 2, ((HC.out.kp hk').cell k).trans e1⟩)
      have htake : (x.2.map Sh.pts).take (k + 1) = (x.2.map Sh.pts).take k ++ [s.pts] := by
        rw [List.take_add_one]; simp [hs]
      have hlt : ((x.2.map Sh.pts).take k).length ≤ 20 := by simp; omega
      obtain ⟨L, hL⟩ : ∃ L, (x.2.map Sh.pts).take k = L := ⟨_, rfl⟩
      rw [hL] at hout htake hlt
      obtain ⟨xs, hown, hxs⟩ := hout
      have he2 := e2.kp hkr
      obtain ⟨m, hm⟩ : ∃ m, (numsOf s).length = m := ⟨_, rfl⟩
      rw [hm] at hpts p3 Hok
      obtain ⟨kb, hkb⟩ : ∃ kb, ((kindOf s : Nat) : Int) = kb := ⟨_, rfl⟩
      rw [hkb] at hpts hki
      obtain ⟨P, hP⟩ : ∃ P, s.pts = P := ⟨_, rfl⟩
      rw [hP] at hpts htake
      have Hpts := Lib.hid hpts
      have Hown := Lib.hid hown
      have Hxs := Lib.hid hxs
      have Hkr := Lib.hid hkr
      have He2 := Lib.hid he2
      have Htake := Lib.hid htake
      have hkn : (k : Int) < n := by omega
      have hk0 : (0 : Int) ≤ k := by omega
      clear hpts hown hxs hkr he2 htake hL hG2 hs e1 e2 hsok hm hkb hP
      go_wp2_with fail
      refine wp_region_held_drew (S := (fun W' => W'.cell? ⟨G0, 1, none⟩ = some (.string ks) ∧ W'.cell? ⟨G0, 2, none⟩ = some (.slice (some ⟨C, 0, none⟩) n n) ∧ W'.cell? ⟨C, k, none⟩ = some (.slice (some ⟨E, 0, none⟩) m m))) (by kernel_rfl) (Hok.out _ (Kp.drewQ Hkr.out)) (fun hHeld => ?_)
      refine wpAnyH_take (i := 0) (v := u4) (by simp only [List.getElem?_toArray, List.getElem?_cons_zero]; rfl) (by kernel_rfl) (by kernel_rfl) (by kernel_rfl) (by intro _ _ _ h; exact h) (Or.inl ⟨by rfl, ?hy0⟩) (by assumption) ?rest0
      case hy0 => (intro w hSw; (try dsimp only at hSw); go_simp)
      simp only [Act.put, List.setIfInBounds_toArray, List.set_cons_zero, List.set_cons_succ]
      refine wpAnyH_take (i := 1) (v := .pointer (some ⟨G0, 1, none⟩)) (by simp only [List.getElem?_toArray, List.getElem?_cons_succ, List.getElem?_cons_zero]; rfl) (by kernel_rfl) (by kernel_rfl) (by kernel_rfl) (by intro _ _ _ h; exact h) (Or.inl ⟨by rfl, ?hy1⟩) (by assumption) ?rest1
      case hy1 => (intro w hSw; (try dsimp only at hSw); go_simp)
      simp only [Act.put, List.setIfInBounds_toArray, List.set_cons_zero, List.set_cons_succ]
      refine wpAnyH_take (i := 2) (v := .string ks) (by simp only [List.getElem?_toArray, List.getElem?_cons_succ, List.getElem?_cons_zero]; rfl) (by kernel_rfl) (by kernel_rfl) (by kernel_rfl) (by intro _ _ _ h; exact h) (Or.inl ⟨by rfl, ?hy2⟩) (by assumption) ?rest2
      case hy2 => (intro w hSw; (try dsimp only at hSw); go_simp)
      simp only [Act.put, List.setIfInBounds_toArray, List.set_cons_zero, List.set_cons_succ]
      refine wpAnyH_take (i := 3) (v := .int .i64 k) (by simp only [List.getElem?_toArray, List.getElem?_cons_succ, List.getElem?_cons_zero]; rfl) (by kernel_rfl) (by kernel_rfl) (by kernel_rfl) (by intro _ _ _ h; exact h) (Or.inl ⟨by rfl, ?hy3⟩) (by assumption) ?rest3
      case hy3 => (intro w hSw; (try dsimp only at hSw); go_simp)
      simp only [Act.put, List.setIfInBounds_toArray, List.set_cons_zero, List.set_cons_succ]
      refine wpAnyH_take (i := 4) (v := .int .u8 kb) (by simp only [List.getElem?_toArray, List.getElem?_cons_succ, List.getElem?_cons_zero]; rfl) (by kernel_rfl) (by kernel_rfl) (by kernel_rfl) (by intro _ _ _ h; exact h) (Or.inl ⟨by rfl, ?hy4⟩) (by assumption) ?rest4
      case hy4 => (intro w hSw; (try dsimp only at hSw); go_simp)
      simp only [Act.put, List.setIfInBounds_toArray, List.set_cons_zero, List.set_cons_succ]
      refine wpAnyH_take (i := 5) (v := .pointer (some ⟨G0, 2, none⟩)) (by simp only [List.getElem?_toArray, List.getElem?_cons_succ, List.getElem?_cons_zero]; rfl) (by kernel_rfl) (by kernel_rfl) (by kernel_rfl) (by intro _ _ _ h; exact h) (Or.inl ⟨by rfl, ?hy5⟩) (by assumption) ?rest5
      case hy5 => (intro w hSw; (try dsimp only at hSw); go_simp)
      simp only [Act.put, List.setIfInBounds_toArray, List.set_cons_zero, List.set_cons_succ]
      refine wpAnyH_take (i := 6) (v := .slice (some ⟨C, 0, none⟩) n n) (by simp only [List.getElem?_toArray, List.getElem?_cons_succ, List.getElem?_cons_zero]; rfl) (by kernel_rfl) (by kernel_rfl) (by kernel_rfl) (by intro _ _ _ h; exact h) (Or.inl ⟨by rfl, ?hy6⟩) (by assumption) ?rest6
      case hy6 => (intro w hSw; (try dsimp only at hSw); go_simp)
      simp only [Act.put, List.setIfInBounds_toArray, List.set_cons_zero, List.set_cons_succ]
      refine wpAnyH_take (i := 7) (v := .int .i64 k) (by simp only [List.getElem?_toArray, List.getElem?_cons_succ, List.getElem?_cons_zero]; rfl) (by kernel_rfl) (by kernel_rfl) (by kernel_rfl) (by intro _ _ _ h; exact h) (Or.inl ⟨by rfl, ?hy7⟩) (by assumption) ?rest7
      case hy7 => (intro w hSw; (try dsimp only at hSw); go_simp)
      simp only [Act.put, List.setIfInBounds_toArray, List.set_cons_zero, List.set_cons_succ]
      refine wpAnyH_take (i := 8) (v := .pointer (some ⟨C, k, none⟩)) (by simp only [List.getElem?_toArray, List.getElem?_cons_succ, List.getElem?_cons_zero]; rfl) (by kernel_rfl) (by kernel_rfl) (by kernel_rfl) (by intro _ _ _ h; exact h) (Or.inl ⟨by rfl, ?hy8⟩) (by assumption) ?rest8
      case hy8 => (intro w hSw; (try dsimp only at hSw); go_simp)
      simp only [Act.put, List.setIfInBounds_toArray, List.set_cons_zero, List.set_cons_succ]
      refine wpAnyH_take (i := 9) (v := .slice (some ⟨E, 0, none⟩) m m) (by simp only [List.getElem?_toArray, List.getElem?_cons_succ, List.getElem?_cons_zero]; rfl) (by kernel_rfl) (by kernel_rfl) (by kernel_rfl) (by intro _ _ _ h; exact h) (Or.inl ⟨by rfl, ?hy9⟩) (by assumption) ?rest9
      case hy9 => (intro w hSw; (try dsimp only at hSw); go_simp)
      simp only [Act.put, List.setIfInBounds_toArray, List.set_cons_zero, List.set_cons_succ]
      refine wpAnyH_ready (rs := [10]) (by kernel_rfl) (by simp) ?_
      refine AllReadyH.cons rfl (fun K hK => ?_) AllReadyH.nil
      go_simp
      go_wp2_with (go_at_call 37; refine (Hpts.out _ (He2.out.kp (Kp.drewQ (Kp.refl _)))).mono ?_; rintro e w6 ⟨v6, rfl, ⟨B6, rfl, hb6, hr6⟩, hk6⟩; have Hk6 := Lib.hid (Kp.trans (Kp.drewQ (Kp.refl _)) hk6); have Hr6 := Lib.hid hr6; have Hb6 : Hid (wr.heap.size ≤ B6) := Lib.hid hb6; clear hk6 hr6 hb6)
      refine hK.out _ _ (Hok.out _ (Hkr.out.trans Hk6.out)) (fun hHeld => ?_)
      clear hK K
      try simp only [Act.put, List.setIfInBounds_toArray, List.set_cons_zero, List.set_cons_succ]
      refine wpAnyH_ready (rs := [11]) (by kernel_rfl) (by simp) ?_
      refine AllReadyH.cons rfl (fun K hK => ?_) AllReadyH.nil
      go_simp
      refine hK.out _ _ (Hok.out _ ((Hkr.out.trans Hk6.out).trans (Kp.alloc _ _))) (fun hHeld => ?_)
      clear hK K
      try simp only [Act.put, List.setIfInBounds_toArray, List.set_cons_zero, List.set_cons_succ]
      refine wpAnyH_ready (rs := [12]) (by kernel_rfl) (by simp) ?_
      refine AllReadyH.cons rfl (fun K hK => ?_) AllReadyH.nil
      rw [if_pos (by rfl)]
      refine wp_append_own _ _ _ 48 rfl W1.heap.size 79 i0 (.slice none 0 0) 1 24 Try.underlying48 Hi.out Hz0.out Hz1.out Hz2.out rfl (by decide) _ _ _ rfl ((owns_kp Hown.out Hk6.out).alloc _) ⟨w6.heap.size, 0, none⟩ 1 1 [.slice (some ⟨B6, 0, none⟩) P.length P.length] rfl rfl (cell_one_new _ _ _) (by simp [Value.oneCell']) (by unfold maxLen; omega) (by omega) (by have h1 := Hkr.out.size; have h2 := Hk6.out.size; simp only [World.size_alloc]; omega) ?_
      intro v' w7 hown' hgrow _
      have Hk7 : Hid (Kp W1 w7) := Lib.hid (Below.grown ((Hkr.out.trans Hk6.out).trans (Kp.alloc _ _)) hgrow (by have h1 := Hkr.out.size; have h2 := Hk6.out.size; simp only [World.size_alloc]; omega) (fun j e => (Hown.out.lt j e).1))
      have Hout : Hid (OutAt W1.heap.size w7 v' (L ++ [P])) := Lib.hid (outAt_snoc ((owns_kp Hown.out Hk6.out).alloc _) (fun j l hj => by
        obtain ⟨u, u1, u2⟩ := Hxs.out j l hj
        exact ⟨u, u1, (u2.kp Hk6.out).kp (Kp.alloc _ _)⟩) ⟨B6, rfl, by have h1 := Hkr.out.size; have h2 := Hb6.out; omega, Hr6.out.alloc _⟩ hown' hgrow)
      clear hown' hgrow
      refine hK.out _ _ (Hok.out _ Hk7.out) (fun hHeld => ?_)
      clear hK K
      try simp only [Act.put, List.setIfInBounds_toArray, List.set_cons_zero, List.set_cons_succ]
      refine wpAnyH_take (i := 13) (v := v') (by simp only [List.getElem?_toArray, List.getElem?_cons_succ, List.getElem?_cons_zero]; rfl) (by kernel_rfl) (by kernel_rfl) (by kernel_rfl) (by intro _ _ _ h; exact h) (Or.inl ⟨by rfl, ?hy13⟩) (by assumption) ?rest13
      case hy13 => (intro w hSw; (try dsimp only at hSw); go_simp)
      simp only [Act.put, List.setIfInBounds_toArray, List.set_cons_zero, List.set_cons_succ]
      refine wpAnyH_done (by kernel_rfl) ?_ _
      go_wp2_with fail
      go_roundw
      case rel => exact ⟨k + 1, by omega, by go_num, by rw [Htake.out]; exact Hout.out, Hk7.out⟩
      case measure => simp [intOf]; omega
    · obtain rfl : k = n := by omega
      have hfull : (x.2.map Sh.pts).take k = x.2.map Sh.pts := List.take_of_length_le (by simp [Hn.out])
      rw [hfull] at hout
      have Hout := Lib.hid hout
      have Hkr := Lib.hid hkr
      clear hout hkr hfull hG2
      go_wp2_with fail
      go_ret
      exact ⟨_, rfl, Hout.out.base HK1.out.size, HK1.out.trans Hkr.out⟩
end Go.Proofs.Ytejmliomagnjfaa
