/- The law of names: each code's name leads back to the code. -/
import Derived.Test.YtejmliomagnjfaaFind
namespace Go.Proofs.Ytejmliomagnjfaa
open Go Go.RowKit Go.Shelf

theorem names_apart : ((List.range 68).all fun i => (List.range i).all fun j => !((nm j).data.toList == (nm i).data.toList)) = true := by decide +kernel
theorem nm_ne {i j : Nat} (hi : i < 68) (hj : j < i) : nm j ≠ nm i := by
  intro e
  have h1 := List.all_eq_true.1 names_apart i (by simpa using hi)
  have h2 := List.all_eq_true.1 h1 j (by simpa using hj)
  rw [e] at h2
  simp at h2
theorem found_nm {k : Nat} (hk : k < 68) {n c : Int} (h : Found (nm k) n c) : n = k + 1 ∧ c = 0 := by
  rcases h with ⟨q, q1, q2, q3, q4, q5⟩ | ⟨q1, q2, q3⟩
  · have e : q = k := by
      rcases Nat.lt_trichotomy q k with h | h | h
      · exact absurd q2 (nm_ne hk h)
      · exact h
      · exact absurd rfl (q3 k h)
    subst e
    exact ⟨q4, q5⟩
  · exact absurd rfl (q1 k hk)

set_option maxRecDepth 100000 in
set_option maxHeartbeats 2000000 in
theorem walk_GlyphNames (a0 : Int) (w : World) (_w0 : (Lit.int .i64 a0).wf = true) :
    Calls Try.prog 5 #[.int .i64 a0] w fun e w' => e = .returned (.bool true) ∧ Kp w w' := by
  by_cases hin : 1 ≤ a0 ∧ a0 ≤ 68
  · obtain ⟨k, hk, rfl⟩ : ∃ k : Nat, k < 68 ∧ a0 = (k : Int) + 1 := ⟨(a0 - 1).toNat, by omega, by omega⟩
    have hname := fun W => Name_in k W hk
    have hfind := fun W => Find_any (nm k) W
    have hfn := fun n c (h : Found (nm k) n c) => found_nm hk h
    have hi : isCode ((k : Int) + 1) = true := by simp only [isCode, Bool.and_eq_true, decide_eq_true_eq]; omega
    have his := fun W => is_any ((k : Int) + 1) W
    rw [hi] at his
    obtain ⟨s, hs⟩ : ∃ s, nm k = s := ⟨_, rfl⟩
    rw [hs] at hname hfind hfn
    have Hs := Lib.hid hs
    have hq : (s.toList == s.toList) = true := by simp
    have hk2 : (k : Int) < 68 := by omega
    clear hi hs hin
    go_enter Try.func5, Try.ntmps5
    go_wp2_with (first
      | (go_at_call 15; refine (hname _).mono ?_; rintro e w1 ⟨rfl, hk1⟩; have Hk1 := Lib.hid hk1; clear hk1)
      | (go_at_call 12; refine (known23_any _).mono ?_; rintro e w2 ⟨rfl, hk2⟩; have Hk2 := Lib.hid (Hk1.out.trans hk2); clear hk2)
      | (go_at_call 14; refine (his _).mono ?_; rintro e w' ⟨rfl, rfl⟩)
      | (go_at_call 10; refine (hfind _).mono ?_; rintro e w4 ⟨hk4, n, c, hF, rfl⟩; obtain ⟨rfl, rfl⟩ := hfn n c hF; have Hk4 := Lib.hid (Hk3.out.trans hk4); clear hk4 hF)
      | (go_at_call 11; refine (refAll_any _).mono ?_; rintro e w3 ⟨v, rfl, hR, hk3⟩; obtain ⟨B, rfl, hB⟩ := ref_name hR; have hc := hB k hk; rw [Hs.out] at hc; (first | (have Hk3 := Lib.hid (Hk4.out.trans hk3)) | (have Hk3 := Lib.hid (Hk2.out.trans hk3))); clear hk3 hR hB))
    go_ret
    exact ⟨retBool (by simp), Hk3.out⟩
  · have hf : isCode a0 = false := by
      rw [Bool.eq_false_iff]; intro h
      simp only [isCode, Bool.and_eq_true, decide_eq_true_eq] at h
      exact hin h
    have his := fun W => is_any a0 W
    rw [hf] at his
    have hn := fun W => Name_out a0 W (by omega)
    clear hf hin
    go_enter Try.func5, Try.ntmps5
    go_wp2_with (first
      | (go_at_call 15; refine (hn _).mono ?_; rintro e w1 ⟨rfl, hk1⟩; have Hk1 := Lib.hid hk1; clear hk1)
      | (go_at_call 12; refine (known23_any _).mono ?_; rintro e w2 ⟨rfl, hk2⟩; have Hk2 := Lib.hid (Hk1.out.trans hk2); clear hk2)
      | (go_at_call 14; refine (his _).mono ?_; rintro e w' ⟨rfl, rfl⟩)
      | (go_at_call 11; refine (refAll_any _).mono ?_; rintro e w3 ⟨v, rfl, hR, hk3⟩; obtain ⟨B, rfl, hB⟩ := ref_name hR; have Hk3 := Lib.hid (Hk2.out.trans hk3); clear hk3 hR hB))
    go_ret
    exact ⟨retBool (by simp), Hk3.out⟩
end Go.Proofs.Ytejmliomagnjfaa
