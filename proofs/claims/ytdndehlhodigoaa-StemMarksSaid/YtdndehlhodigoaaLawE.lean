/- The law of the marks of rests: the walk. -/
import Derived.Outline
import Derived.Test.YtdndehlhodigoaaMark
import Derived.Test.YtdndehlhodigoaaEq
namespace Go.Proofs.Ytdndehlhodigoaa
open Go Go.RowKit Go.Shelf

set_option maxRecDepth 100000 in
set_option maxHeartbeats 1000000 in
theorem walk_rm_bad (a0_0 a0_1 a0_2 a0_3 : Int) (a1_0 a1_1 : Int) (a2 : Int) (w : World) (h : a0_2 < 0 ∨ a0_3 < 0 ∨ a2 < -200 ∨ 200 < a2) :
    Calls Try.prog 8 #[.agg #[.int .i64 a0_0, .int .i64 a0_1, .int .i64 a0_2, .int .i64 a0_3], .agg #[.int .i64 a1_0, .int .i64 a1_1], .int .i64 a2] w fun e w' => e = .returned (.bool true) ∧ Kp w w' := by
  have hv : rmVal a0_0 a0_1 a0_2 a0_3 a1_0 a1_1 a2 = .tuple #[.agg #[.int .i64 0, .int .i64 0, .int .i64 0, .int .i64 0, .int .i64 0, .int .i64 0, .int .i64 0, .int .i64 0, .int .i64 0, .int .i64 0, .int .i64 0, .int .i64 0], .int .i64 2] := by
    unfold rmVal rmErr; simp only [if_pos h]; rfl
  have Hv := Lib.hid hv
  have Hs := Lib.hid sizeMark
  clear hv
  have hc : a0_2 < 0 ∨ (¬ a0_2 < 0 ∧ a0_3 < 0) ∨ ((¬ a0_2 < 0 ∧ ¬ a0_3 < 0) ∧ a2 < -200) ∨ ((¬ a0_2 < 0 ∧ ¬ a0_3 < 0) ∧ ¬ a2 < -200 ∧ 200 < a2) := by omega
  clear h
  have Hw := Lib.hid (((HasRow.new w #[.int .i64 a0_0, .int .i64 a0_1, .int .i64 a0_2, .int .i64 a0_3] 48)).alloc (.cells #[.int .i64 a1_0, .int .i64 a1_1] 28))
  rcases hc with h1 | ⟨h1, h2⟩ | ⟨⟨h1, h2⟩, h3⟩ | ⟨⟨h1, h2⟩, h3, h4⟩ <;>
  (go_enter Try.func8, Try.ntmps8
   go_wp2_with (first
     | (go_at_call 29; refine (RestMark_all _ _ _ _ _ _ _ _).mono ?_; rw [Hv.out]; rintro e w1 ⟨rfl, hk⟩; have Hk1 := Lib.hid (((Kp.alloc _ _).trans (Kp.alloc _ _)).trans hk); have Hr := Lib.hid (Hw.out.kp hk); clear hk)
     | ((with_reducible refine wpList_store_new1 (o := ⟨none, _, _, _, _, _⟩) ?_ 43 (.tmp 7) (.tmp 24) ?_ #[.int .i64 0, .int .i64 0, .int .i64 0, .int .i64 0, .int .i64 0, .int .i64 0, .int .i64 0, .int .i64 0, .int .i64 0, .int .i64 0, .int .i64 0, .int .i64 0] _ 43 ?_ ?_ Hs.out ?_ ?_ ?_); rfl; rfl; exact eval_tmp rfl; exact eval_tmp rfl; rfl; rfl)
     | (go_at_call 19; refine (known_any _).mono ?_; rintro e w3 ⟨rfl, hk⟩; have Hk3 := Lib.hid ((Hk1.out.trans (Kp.alloc _ _)).trans hk); have rw3 := (Hr.out.alloc _).kp hk; have c2 : w3.cell? ⟨w.heap.size, 2, none⟩ = some (.int .i64 a0_2) := rw3.cell 2; have c3 : w3.cell? ⟨w.heap.size, 3, none⟩ = some (.int .i64 a0_3) := rw3.cell 3; have Hm3 := Lib.hid ((HasRow.new w1 #[.int .i64 0, .int .i64 0, .int .i64 0, .int .i64 0, .int .i64 0, .int .i64 0, .int .i64 0, .int .i64 0, .int .i64 0, .int .i64 0, .int .i64 0, .int .i64 0] 43).kp hk); clear hk rw3)
     | ((with_reducible refine wpList_load_mark (o := ⟨some 44, _, _, _, _, _⟩) ?_ (.tmp 7) ?_ w1.heap.size ?_ #[.int .i64 0, .int .i64 0, .int .i64 0, .int .i64 0, .int .i64 0, .int .i64 0, .int .i64 0, .int .i64 0, .int .i64 0, .int .i64 0, .int .i64 0, .int .i64 0] Hm3.out ?_ ?_); rfl; rfl; exact eval_tmp rfl; rfl)
     | ((with_reducible refine wpList_eq_agg (o := ⟨some 46, _, _, _, _, _⟩) ?_ 43 43 (.tmp 44) (.tmp 45) ?_ (.agg #[.int .i64 0, .int .i64 0, .int .i64 0, .int .i64 0, .int .i64 0, .int .i64 0, .int .i64 0, .int .i64 0, .int .i64 0, .int .i64 0, .int .i64 0, .int .i64 0]) (.agg #[.int .i64 0, .int .i64 0, .int .i64 0, .int .i64 0, .int .i64 0, .int .i64 0, .int .i64 0, .int .i64 0, .int .i64 0, .int .i64 0, .int .i64 0, .int .i64 0]) true ?_ ?_ (eq_mark _ _ _ _ _ _ _ _ _ _ _ _) (guard_agg guard_mark _ _ _ _) ?_); rfl; rfl; exact eval_tmp rfl; exact eval_tmp rfl))
   go_ret
   exact ⟨ret_bool rfl, Hk3.out⟩)
set_option maxRecDepth 100000 in
set_option maxHeartbeats 1000000 in
theorem walk_rm_val (a0_0 a0_1 a0_2 a0_3 : Int) (a1_0 a1_1 : Int) (a2 : Int) (w : World) (h1 : ¬ a0_2 < 0) (h2 : ¬ a0_3 < 0) (h3 : ¬ a2 < -200) (h4 : ¬ 200 < a2) (hv : valG a1_0 a1_1 ≠ 0) :
    Calls Try.prog 8 #[.agg #[.int .i64 a0_0, .int .i64 a0_1, .int .i64 a0_2, .int .i64 a0_3], .agg #[.int .i64 a1_0, .int .i64 a1_1], .int .i64 a2] w fun e w' => e = .returned (.bool true) ∧ Kp w w' := by
  obtain ⟨V, hV⟩ : ∃ V, valG a1_0 a1_1 = V := ⟨_, rfl⟩
  have hrv : rmVal a0_0 a0_1 a0_2 a0_3 a1_0 a1_1 a2 = .tuple #[.agg #[.int .i64 0, .int .i64 0, .int .i64 0, .int .i64 0, .int .i64 0, .int .i64 0, .int .i64 0, .int .i64 0, .int .i64 0, .int .i64 0, .int .i64 0, .int .i64 0], .int .i64 V] := by
    have he : rmErr a0_2 a0_3 a1_0 a1_1 a2 = V := by unfold rmErr; rw [if_neg (by omega), hV]
    unfold rmVal; rw [he, if_neg (by rw [← hV]; exact hv)]; rfl
  rw [hV] at hv
  have Hv := Lib.hid hrv
  have HV := Lib.hid hV
  have Hs := Lib.hid sizeMark
  clear hrv hV
  have Hw := Lib.hid (((HasRow.new w #[.int .i64 a0_0, .int .i64 a0_1, .int .i64 a0_2, .int .i64 a0_3] 48)).alloc (.cells #[.int .i64 a1_0, .int .i64 a1_1] 28))
  have Hw1 : Hid (HasRow ((w.alloc (.cells #[.int .i64 a0_0, .int .i64 a0_1, .int .i64 a0_2, .int .i64 a0_3] 48)).alloc (.cells #[.int .i64 a1_0, .int .i64 a1_1] 28)) (w.heap.size + 1) #[.int .i64 a1_0, .int .i64 a1_1] 28) := Lib.hid (by
    have := HasRow.new (w.alloc (.cells #[.int .i64 a0_0, .int .i64 a0_1, .int .i64 a0_2, .int .i64 a0_3] 48)) #[.int .i64 a1_0, .int .i64 a1_1] 28; rwa [World.size_alloc] at this)
  go_enter Try.func8, Try.ntmps8
  go_wp2_with (first
     | (go_at_call 29; refine (RestMark_all _ _ _ _ _ _ _ _).mono ?_; rw [Hv.out]; rintro e w1 ⟨rfl, hk⟩; have Hk1 := Lib.hid (((Kp.alloc _ _).trans (Kp.alloc _ _)).trans hk); have Hr := Lib.hid (Hw.out.kp hk); have Hr1 := Lib.hid (Hw1.out.kp hk); clear hk)
     | ((with_reducible refine wpList_store_new1 (o := ⟨none, _, _, _, _, _⟩) ?_ 43 (.tmp 7) (.tmp 24) ?_ #[.int .i64 0, .int .i64 0, .int .i64 0, .int .i64 0, .int .i64 0, .int .i64 0, .int .i64 0, .int .i64 0, .int .i64 0, .int .i64 0, .int .i64 0, .int .i64 0] _ 43 ?_ ?_ Hs.out ?_ ?_ ?_); rfl; rfl; exact eval_tmp rfl; exact eval_tmp rfl; rfl; rfl)
     | (go_at_call 19; refine (known_any _).mono ?_; rintro e w3 ⟨rfl, hk⟩; have Hk3 := Lib.hid ((Hk1.out.trans (Kp.alloc _ _)).trans hk); have rw3 := (Hr.out.alloc _).kp hk; have c2 : w3.cell? ⟨w.heap.size, 2, none⟩ = some (.int .i64 a0_2) := rw3.cell 2; have c3 : w3.cell? ⟨w.heap.size, 3, none⟩ = some (.int .i64 a0_3) := rw3.cell 3; have rv3 := (Hr1.out.alloc _).kp hk; have v0 : w3.cell? ⟨w.heap.size + 1, 0, none⟩ = some (.int .i64 a1_0) := rv3.cell 0; have v1 : w3.cell? ⟨w.heap.size + 1, 1, none⟩ = some (.int .i64 a1_1) := rv3.cell 1; have Hm3 := Lib.hid ((HasRow.new w1 #[.int .i64 0, .int .i64 0, .int .i64 0, .int .i64 0, .int .i64 0, .int .i64 0, .int .i64 0, .int .i64 0, .int .i64 0, .int .i64 0, .int .i64 0, .int .i64 0] 43).kp hk); clear hk rw3 rv3)
     | (go_at_call 30; refine (Check_any _ _ _).mono ?_; rw [HV.out]; rintro e w4 ⟨rfl, hk⟩; have Hk4 := Lib.hid (Hk3.out.trans hk); have Hm4 := Lib.hid (Hm3.out.kp hk); clear hk)
     | ((with_reducible refine wpList_load_mark (o := ⟨some 55, _, _, _, _, _⟩) ?_ (.tmp 7) ?_ w1.heap.size ?_ #[.int .i64 0, .int .i64 0, .int .i64 0, .int .i64 0, .int .i64 0, .int .i64 0, .int .i64 0, .int .i64 0, .int .i64 0, .int .i64 0, .int .i64 0, .int .i64 0] Hm4.out ?_ ?_); rfl; rfl; exact eval_tmp rfl; rfl)
     | ((with_reducible refine wpList_eq_agg (o := ⟨some 57, _, _, _, _, _⟩) ?_ 43 43 (.tmp 55) (.tmp 56) ?_ (.agg #[.int .i64 0, .int .i64 0, .int .i64 0, .int .i64 0, .int .i64 0, .int .i64 0, .int .i64 0, .int .i64 0, .int .i64 0, .int .i64 0, .int .i64 0, .int .i64 0]) (.agg #[.int .i64 0, .int .i64 0, .int .i64 0, .int .i64 0, .int .i64 0, .int .i64 0, .int .i64 0, .int .i64 0, .int .i64 0, .int .i64 0, .int .i64 0, .int .i64 0]) true ?_ ?_ (eq_mark _ _ _ _ _ _ _ _ _ _ _ _) (guard_agg guard_mark _ _ _ _) ?_); rfl; rfl; exact eval_tmp rfl; exact eval_tmp rfl))
  go_ret
  exact ⟨ret_bool (by simp), Hk4.out⟩

theorem moved_any (l b r t x y : Int) (w : World) (hx : -1000000000 ≤ x ∧ x ≤ 1000000000) (hy : -1000000000 ≤ y ∧ y ≤ 1000000000) (hl : -100000 ≤ l ∧ l ≤ 100000) (hb : -100000 ≤ b ∧ b ≤ 100000) (hr : -100000 ≤ r ∧ r ≤ 100000) (ht : -100000 ≤ t ∧ t ≤ 100000) :
    Calls Try.prog 33 #[.agg #[.int .i64 l, .int .i64 b, .int .i64 r, .int .i64 t], .int .i64 x, .int .i64 y] w fun e w' => e = .returned (.agg #[.int .i64 (l + x), .int .i64 (b + y), .int .i64 (r + x), .int .i64 (t + y)]) ∧ Kp w w' := by
  obtain ⟨x1, x2⟩ := hx
  obtain ⟨y1, y2⟩ := hy
  obtain ⟨l1, l2⟩ := hl
  obtain ⟨b1, b2⟩ := hb
  obtain ⟨r1, r2⟩ := hr
  obtain ⟨t1, t2⟩ := ht
  go_enter Try.func33, Try.ntmps33
  go_wp2
  exact bodyPost_ret (v := .agg #[.int .i64 (l + x), .int .i64 (b + y), .int .i64 (r + x), .int .i64 (t + y)]) (by simp [results, Try.results33, go_sem]) rfl ⟨rfl, by repeat' (first | exact Kp.refl _ | refine Kp.trans ?_ (Kp.alloc _ _))⟩
end Go.Proofs.Ytdndehlhodigoaa
