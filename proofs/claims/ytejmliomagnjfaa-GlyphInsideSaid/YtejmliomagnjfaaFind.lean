/- glyph.Find, glyph.Name; the laws of names. -/
import Derived.Test.YtejmliomagnjfaaOutl
import Derived.Test.YtejmliomagnjfaaRefAll
namespace Go.Proofs.Ytejmliomagnjfaa
open Go Go.RowKit Go.Shelf

def nm (k : Nat) : ByteArray := bytesOf (tab.getD k ([], [])).1
theorem nm_at {k : Nat} {x : List Nat × List Sh} (h : tab[k]? = some x) : nm k = bytesOf x.1 := by simp [nm, List.getD, h]
theorem tab_get (k : Nat) (h : k < 68) : ∃ x, tab[k]? = some x := ⟨tab[k]'(by show _ < 68; omega), by simp⟩

theorem toList_inj {a b : ByteArray} (h : a.toList = b.toList) : a = b := by
  rw [ByteArray.toList_eq, ByteArray.toList_eq] at h
  exact ByteArray.ext (Array.ext' h)
/-- The first glyph of a name, or none. -/
def Found (s : ByteArray) (n e : Int) : Prop := (∃ k : Nat, k < 68 ∧ nm k = s ∧ (∀ j, j < k → nm j ≠ s) ∧ n = k + 1 ∧ e = 0) ∨ ((∀ j, j < 68 → nm j ≠ s) ∧ n = 0 ∧ e = 32)

set_option maxRecDepth 100000 in
set_option maxHeartbeats 1000000 in
theorem Find_any (s : ByteArray) (w : World) : Calls Try.prog 10 #[.string s] w fun e w' => Kp w w' ∧ ∃ n c, Found s n c ∧ e = .returned (.tuple #[.int .i64 n, .int .i64 c]) := by
  have hs := Lib.hid sizeG2
  go_enter Try.func10, Try.ntmps10
  go_wp2_with (go_at_call 29; refine (all_any _).mono ?_; rintro e w' ⟨C, rfl, hC, hk⟩; have HC := Lib.hid hC; have Hk := Lib.hid hk; clear hC hk)
  go_loopw [4, 5, 7] (fun _ _ i wr => ∃ k : Nat, k ≤ 68 ∧ i = .int .i64 k ∧ Hid (∀ j, j < k → nm j ≠ s) ∧ Kp w' wr) (fun _ _ i _ => 68 - (intOf i).toNat)
  case atStart => exact ⟨0, Nat.zero_le _, rfl, Lib.hid (fun j hj => absurd hj (Nat.not_lt_zero _)), Kp.refl _⟩
  case round =>
    obtain ⟨k, hk, rfl, hf, hkr⟩ := hrel
    by_cases hl : k < 68
    · obtain ⟨y, hy⟩ := tab_get k hl
      have hnm := nm_at hy
      obtain ⟨v, g1, g2, B, g3, g4, g5, g6⟩ := HC.out.2 k y hy
      subst g3
      rw [← hnm] at g1
      have Hx : Hid (C.toArray.extract ((k : Int).toNat * 2) ((k : Int).toNat * 2 + 2) = #[.string (nm k), .slice (some ⟨B, 0, none⟩) y.2.length y.2.length]) := Lib.hid (by rw [Int.toNat_natCast]; exact extract_two _ _ _ _ g1 g2)
      have hi0 : Hid ((0 : Int) ≤ k) := Lib.hid (by omega)
      have hi1 : Hid ((k : Int) < ((68 : Nat) : Int)) := Lib.hid (by omega)
      obtain ⟨nk, hnk⟩ : ∃ nk, nm k = nk := ⟨_, rfl⟩
      rw [hnk] at Hx
      have Hkr := Lib.hid hkr
      have Hnk := Lib.hid hnk
      clear hkr hnm hy g1 g2 g4 g5 g6 hnk
      by_cases heq : nk = s
      · subst heq
        have hq : (nk.toList == nk.toList) = true := by simp
        go_wp2_with (first
          | (refine wpList_index_arr (o := ⟨some 10, _, _, _, _, _⟩) rfl 59 (.tmp 6) (.tmp 7) rfl C.toArray .i64 k 68 58 2 rfl rfl Try.underlying59 hi0.out hi1.out hs.out _ Try.underlying58 rfl _ Hx.out ?_)
          | (refine wpList_store_new1 (o := ⟨none, _, _, _, _, _⟩) rfl 58 (.tmp 5) (.tmp 10) rfl #[.string nk, .slice (some ⟨B, 0, none⟩) y.2.length y.2.length] _ 58 rfl rfl hs.out rfl rfl ?_))
        go_ret2
        exact ⟨(Hk.out.trans Hkr.out).trans (Kp.alloc _ _), _, _, .inl ⟨k, hl, Hnk.out, hf.out, rfl, rfl⟩, rfl⟩
      · have hq : (nk.toList == s.toList) = false := by
          rw [Bool.eq_false_iff]
          intro h
          exact heq (toList_inj (by simpa using h))
        go_wp2_with (first
          | (refine wpList_index_arr (o := ⟨some 10, _, _, _, _, _⟩) rfl 59 (.tmp 6) (.tmp 7) rfl C.toArray .i64 k 68 58 2 rfl rfl Try.underlying59 hi0.out hi1.out hs.out _ Try.underlying58 rfl _ Hx.out ?_)
          | (refine wpList_store_new1 (o := ⟨none, _, _, _, _, _⟩) rfl 58 (.tmp 5) (.tmp 10) rfl #[.string nk, .slice (some ⟨B, 0, none⟩) y.2.length y.2.length] _ 58 rfl rfl hs.out rfl rfl ?_))
        go_roundw
        case rel =>
          refine ⟨k + 1, by omega, by go_num, Lib.hid (fun j hj => ?_), Hkr.out.trans (Kp.alloc _ _)⟩
          by_cases hjk : j = k
          · subst hjk; rw [Hnk.out]; exact heq
          · exact hf.out j (by omega)
        case measure => simp [intOf]; omega
    · obtain rfl : k = 68 := by omega
      go_wp2
      go_ret2
      exact ⟨Hk.out.trans hkr, _, _, .inr ⟨hf.out, rfl, rfl⟩, rfl⟩

theorem Name_out (code : Int) (w : World) (h : code < 1 ∨ 68 < code) : Calls Try.prog 15 #[.int .i64 code] w fun e w' => e = .returned (.tuple #[.string ⟨#[]⟩, .int .i64 11]) ∧ Kp w w' := by
  go_enter Try.func15, Try.ntmps15
  go_wp2_with (go_at_call 33; refine (get_out _ _ h).mono ?_; rintro e w' ⟨rfl, hk⟩; have Hk := Lib.hid hk; clear hk)
  go_ret2
  exact ⟨rfl, Hk.out.trans (Kp.alloc _ _)⟩
theorem Name_in (k : Nat) (w : World) (h : k < 68) : Calls Try.prog 15 #[.int .i64 ((k : Int) + 1)] w fun e w' => e = .returned (.tuple #[.string (nm k), .int .i64 0]) ∧ Kp w w' := by
  have hg := fun W => get_in (k + 1) W (by omega) (by omega)
  have hn : nameAt (k + 1) = nm k := rfl
  rw [hn] at hg
  obtain ⟨s, hs⟩ : ∃ s, nm k = s := ⟨_, rfl⟩
  rw [hs] at hg
  rw [hs]
  have Hg := Lib.hid hg
  clear hg hn hs
  go_enter Try.func15, Try.ntmps15
  go_wp2_with (go_at_call 33; refine (Hg.out _).mono ?_; rintro e w' ⟨v, rfl, ⟨B, rfl, _⟩, hk⟩; have Hk := Lib.hid hk; clear hk)
  go_ret2
  exact ⟨rfl, Hk.out.trans (Kp.alloc _ _)⟩

def isCode (c : Int) : Bool := decide (1 ≤ c) && decide (c ≤ 68)
theorem is_any (c : Int) (w : World) : Calls Try.prog 14 #[.int .i64 c] w fun e w' => e = .returned (.bool (isCode c)) ∧ w = w' := by
  by_cases h : 1 ≤ c
  · go_enter Try.func14, Try.ntmps14
    go_wp2
    go_ret
    exact ⟨retBool (by simp [isCode, h]), rfl⟩
  · have hf : isCode c = false := by simp only [isCode, Bool.and_eq_false_iff, decide_eq_false_iff_not]; exact .inl h
    rw [hf]
    go_enter Try.func14, Try.ntmps14
    go_wp2
    go_ret
    exact ⟨rfl, rfl⟩

/-- The name of the glyph of a number, read out of the reference's table. -/
theorem ref_name {w : World} {v : Value} (h : RefAt w v) : ∃ B, v = .slice (some ⟨B, 0, none⟩) 68 68 ∧ ∀ k, k < 68 → w.cell? ⟨B, k * 3, none⟩ = some (.string (nm k)) := by
  obtain ⟨B, A, hv, hA, h⟩ := h
  refine ⟨B, hv, fun k hk => ?_⟩
  obtain ⟨x, hx⟩ := tab_get k hk
  rw [hA.cell, nm_at hx]
  exact (h k x hx).1

set_option maxRecDepth 100000 in
set_option maxHeartbeats 2000000 in
theorem walk_GlyphFinds (a0 : ByteArray) (w : World) (w0 : a0.size ≤ maxLen) :
    Calls Try.prog 3 #[.string a0] w fun e w' => e = .returned (.bool true) ∧ Kp w w' := by
  unfold maxLen at w0
  have h0 : (a0.size : Int) ≤ 9223372036854775807 := by omega
  by_cases h40 : a0.size ≤ 40
  · go_enter Try.func3, Try.ntmps3
    go_wp2_with (first
      | (go_at_call 10; refine (Find_any _ _).mono ?_; rintro e w1 ⟨hk1, n, c, hF, rfl⟩; have Hk1 := Lib.hid hk1; have HF := Lib.hid hF; clear hk1 hF)
      | (go_at_call 11; refine (refAll_any _).mono ?_; rintro e w2 ⟨v, rfl, hR, hk2⟩; have HR := Lib.hid (ref_name hR); obtain ⟨B, rfl, hB⟩ := HR.out; have HB := Lib.hid hB; have Hk2 := Lib.hid hk2; clear hk2 hR hB HR))
    go_loop [6] (fun i => ∃ k : Nat, k ≤ 68 ∧ i = .int .i64 k ∧ Hid (∀ j, j < k → nm j ≠ a0)) (fun i => 68 - (intOf i).toNat)
    case atStart => exact ⟨0, Nat.zero_le _, rfl, Lib.hid (fun j hj => absurd hj (Nat.not_lt_zero _))⟩
    case round =>
      obtain ⟨k, hk, rfl, hf⟩ := hrel
      by_cases hl : k < 68
      · have hc := HB.out k hl
        obtain ⟨nk, hnk⟩ : ∃ nk, nm k = nk := ⟨_, rfl⟩
        rw [hnk] at hc
        have Hnk := Lib.hid hnk
        clear hnk
        by_cases heq : nk = a0
        · have hF : n = k + 1 ∧ c = 0 := by
            rcases HF.out with ⟨q, q1, q2, q3, q4, q5⟩ | ⟨q1, q2, q3⟩
            · have e : q = k := by
                rcases Nat.lt_trichotomy q k with h | h | h
                · exact absurd q2 (hf.out q h)
                · exact h
                · exact absurd (Hnk.out.trans heq) (q3 k h)
              subst e
              exact ⟨q4, q5⟩
            · exact absurd (Hnk.out.trans heq) (q1 k hl)
          obtain ⟨rfl, rfl⟩ := hF
          have hq : (nk.toList == (a0).toList) = true := by rw [heq]; simp
          go_wp2_with (go_at_call 12; refine (known23_any _).mono ?_; rintro e w3 ⟨rfl, hk3⟩; have Hk3 := Lib.hid hk3; clear hk3)
          go_ret
          exact ⟨retBool (by simp), (Hk1.out.trans Hk2.out).trans Hk3.out⟩
        · have hq : (nk.toList == (a0).toList) = false := by
            rw [Bool.eq_false_iff]
            intro h
            exact heq (toList_inj (by simpa using h))
          go_wp2_with fail
          go_round
          case rel =>
            refine ⟨k + 1, by omega, by go_num, Lib.hid (fun j hj => ?_)⟩
            by_cases hjk : j = k
            · subst hjk; rw [Hnk.out]; exact heq
            · exact hf.out j (by omega)
          case measure => simp [intOf]; omega
      · obtain rfl : k = 68 := by omega
        have hF : n = 0 ∧ c = 32 := by
          rcases HF.out with ⟨q, q1, q2, q3, q4, q5⟩ | ⟨q1, q2, q3⟩
          · exact absurd q2 (hf.out q q1)
          · exact ⟨q2, q3⟩
        obtain ⟨rfl, rfl⟩ := hF
        go_wp2_with (go_at_call 12; refine (known23_any _).mono ?_; rintro e w3 ⟨rfl, hk3⟩; have Hk3 := Lib.hid hk3; clear hk3)
        go_ret
        exact ⟨retBool (by simp), (Hk1.out.trans Hk2.out).trans Hk3.out⟩
  · have h41 : 40 < (a0.size : Int) := by omega
    go_enter Try.func3, Try.ntmps3
    go_wp2_with (first
      | (go_at_call 10; refine (Find_any _ _).mono ?_; rintro e w1 ⟨hk1, n, c, hF, rfl⟩; have Hk1 := Lib.hid hk1; have HF := Lib.hid hF; clear hk1 hF)
      | (go_at_call 11; refine (refAll_any _).mono ?_; rintro e w2 ⟨v, rfl, hR, hk2⟩; have HR := Lib.hid (ref_name hR); obtain ⟨B, rfl, hB⟩ := HR.out; have HB := Lib.hid hB; have Hk2 := Lib.hid hk2; clear hk2 hR hB HR))
    go_loop [6] (fun i => ∃ k : Nat, k ≤ 68 ∧ i = .int .i64 k ∧ Hid (∀ j, j < k → nm j ≠ a0.extract 0 40)) (fun i => 68 - (intOf i).toNat)
    case atStart => exact ⟨0, Nat.zero_le _, rfl, Lib.hid (fun j hj => absurd hj (Nat.not_lt_zero _))⟩
    case round =>
      obtain ⟨k, hk, rfl, hf⟩ := hrel
      by_cases hl : k < 68
      · have hc := HB.out k hl
        obtain ⟨nk, hnk⟩ : ∃ nk, nm k = nk := ⟨_, rfl⟩
        rw [hnk] at hc
        have Hnk := Lib.hid hnk
        clear hnk
        by_cases heq : nk = a0.extract 0 40
        · have hF : n = k + 1 ∧ c = 0 := by
            rcases HF.out with ⟨q, q1, q2, q3, q4, q5⟩ | ⟨q1, q2, q3⟩
            · have e : q = k := by
                rcases Nat.lt_trichotomy q k with h | h | h
                · exact absurd q2 (hf.out q h)
                · exact h
                · exact absurd (Hnk.out.trans heq) (q3 k h)
              subst e
              exact ⟨q4, q5⟩
            · exact absurd (Hnk.out.trans heq) (q1 k hl)
          obtain ⟨rfl, rfl⟩ := hF
          have hq : (nk.toList == (a0.extract 0 40).toList) = true := by rw [heq]; simp
          go_wp2_with (go_at_call 12; refine (known23_any _).mono ?_; rintro e w3 ⟨rfl, hk3⟩; have Hk3 := Lib.hid hk3; clear hk3)
          go_ret
          exact ⟨retBool (by simp), (Hk1.out.trans Hk2.out).trans Hk3.out⟩
        · have hq : (nk.toList == (a0.extract 0 40).toList) = false := by
            rw [Bool.eq_false_iff]
            intro h
            exact heq (toList_inj (by simpa using h))
          go_wp2_with fail
          go_round
          case rel =>
            refine ⟨k + 1, by omega, by go_num, Lib.hid (fun j hj => ?_)⟩
            by_cases hjk : j = k
            · subst hjk; rw [Hnk.out]; exact heq
            · exact hf.out j (by omega)
          case measure => simp [intOf]; omega
      · obtain rfl : k = 68 := by omega
        have hF : n = 0 ∧ c = 32 := by
          rcases HF.out with ⟨q, q1, q2, q3, q4, q5⟩ | ⟨q1, q2, q3⟩
          · exact absurd q2 (hf.out q q1)
          · exact ⟨q2, q3⟩
        obtain ⟨rfl, rfl⟩ := hF
        go_wp2_with (go_at_call 12; refine (known23_any _).mono ?_; rintro e w3 ⟨rfl, hk3⟩; have Hk3 := Lib.hid hk3; clear hk3)
        go_ret
        exact ⟨retBool (by simp), (Hk1.out.trans Hk2.out).trans Hk3.out⟩
end Go.Proofs.Ytejmliomagnjfaa
