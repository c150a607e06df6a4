/- The examples of the chapter (hemiolalaw25.known), slices that came in cut to a length, and the law of directions. -/
import Derived.Deep.QuietTactic
import Derived.BigQuiet
import Derived.Outline
import Derived.Test.YtdndehlhodigoaaRef
import Derived.Test.YtdndehlhodigoaaFlat
namespace Go.Proofs.Ytdndehlhodigoaa
open Go Go.RowKit Go.Shelf

theorem wf_i64 {n : Int} (h : (Lit.int .i64 n).wf = true) : -9223372036854775808 ≤ n ∧ n ≤ 9223372036854775807 := bounds_i64 h

/-- The first n of a slice that came in. -/
theorem IsRow.cut {w : World} {a : Option Addr} {len cap : Nat} {z : List Int} (h : IsRow .i64 w a len cap z) (n : Nat) (hn : n ≤ len) :
    ∃ l : List Int, l.length = n ∧ IsInts w a l ∧ (∀ x ∈ l, (Lit.int .i64 x).wf = true) ∧ len ≤ cap ∧ cap ≤ maxLen := by
  rcases h with ⟨rfl, rfl, rfl, rfl⟩ | ⟨x, rfl, hl, hm, hz, hc, hwf⟩
  · exact ⟨[], by simp; omega, Or.inl rfl, by simp, by omega, by unfold maxLen; omega⟩
  · refine ⟨z.take n, by rw [List.length_take]; omega, ?_, fun y hy => hwf y (List.mem_of_mem_take hy), hl, hm⟩
    by_cases h0 : n = 0
    · subst h0; exact Or.inl (by simp)
    · obtain ⟨b, off, spot⟩ := x
      have hc0 := hc 0 (by omega)
      have hspot : spot = none := by simpa [Addr.add] using World.cell?_spot hc0
      subst hspot
      refine Or.inr ⟨b, off, rfl, fun j y hj => ?_⟩
      have hjn : j < n := by have := (List.getElem?_eq_some_iff.1 hj).1; rw [List.length_take] at this; omega
      have h1 := hc j (by omega)
      rw [List.getElem?_take, if_pos hjn] at hj
      have h2 : z.getD j 0 = y := by simp [List.getD, hj]
      rw [h2] at h1
      have ha : (⟨b, off, none⟩ : Addr).add j = ⟨b, off + j, none⟩ := by unfold Addr.add; split <;> simp_all
      rw [ha] at h1
      exact h1

theorem IsInts.new (w : World) (l : List Int) (t : TypeId) : IsInts (w.alloc (.cells (ints l).toArray t)) (some ⟨w.heap.size, 0, none⟩) l := by
  refine Or.inr ⟨w.heap.size, 0, rfl, fun j x hx => ?_⟩
  have := (HasRow.new w (ints l).toArray t).cell j
  rw [Nat.zero_add, this]
  simp [ints, hx]

theorem IsInts.new2 (w : World) (o : Obj) (l : List Int) (t : TypeId) : IsInts ((w.alloc o).alloc (.cells (ints l).toArray t)) (some ⟨w.heap.size + 1, 0, none⟩) l := by
  have := IsInts.new (w.alloc o) l t
  rwa [World.size_alloc] at this

theorem ends_k1 : endsG [-3, 1] true 0 = .tuple #[.int .i64 (-96), .int .i64 256, .int .i64 0] := by kernel_rfl
theorem ends_k2 : endsG [-8] true 0 = .tuple #[.int .i64 (-256), .int .i64 0, .int .i64 0] := by kernel_rfl
theorem rest_k1 : restPut 2 0 0 2 [] = .tuple #[.int .i64 4, .int .i64 0] := by kernel_rfl
theorem rest_k2 : restPut 0 0 1 2 [] = .tuple #[.int .i64 (-2), .int .i64 0] := by kernel_rfl
theorem dir_k : dirG [-3, 1] 0 0 1 = true := by decide +kernel

theorem known_any (w : World) : Calls Try.prog 19 #[] w fun e w' => e = .returned (.bool true) ∧ Kp w w' := by
  go_enter Try.func19, Try.ntmps19
  go_wp2_with fail
  refine (Ends_any _ [-3, 1] _ _ _ _ (IsInts.new _ [-3, 1] _) (by simp)).mono ?_
  rw [ends_k1]
  rintro e w' ⟨rfl, rfl⟩
  go_wp2_with fail
  refine (Ends_any _ [-8] _ _ _ _ (IsInts.new2 _ _ [-8] _) (by simp)).mono ?_
  rw [ends_k2]
  rintro e w' ⟨rfl, rfl⟩
  go_wp2_with fail
  refine (Rest_all none [] 0 2 0 0 2 _ (Or.inl rfl) (by simp)).mono ?_
  rw [rest_k1]
  rintro e w1 ⟨rfl, hk⟩
  have Hk1 : Hid (Kp w w1) := Lib.hid (((Kp.alloc _ _).trans (Kp.alloc _ _)).trans hk)
  clear hk
  go_wp2_with fail
  refine (Rest_all none [] 0 0 0 1 2 _ (Or.inl rfl) (by simp)).mono ?_
  rw [rest_k2]
  rintro e w2 ⟨rfl, hk⟩
  have Hk2 : Hid (Kp w w2) := Lib.hid (Hk1.out.trans hk)
  clear hk
  go_wp2_with fail
  refine (Up_any _ [-3, 1] _ _ _ _ _ (IsInts.new _ [-3, 1] _) (by simp)).mono ?_
  rw [dir_k]
  rintro e w3 ⟨rfl, rfl⟩
  go_wp2
  go_ret
  exact ⟨rfl, Hk2.out.trans (Kp.alloc _ _)⟩
end Go.Proofs.Ytdndehlhodigoaa
