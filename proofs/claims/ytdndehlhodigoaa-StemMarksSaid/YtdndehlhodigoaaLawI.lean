/- The law of the marks of stems: a stem alone. -/
import Derived.Test.YtdndehlhodigoaaLawH
namespace Go.Proofs.Ytdndehlhodigoaa
open Go Go.RowKit Go.Shelf

set_option maxRecDepth 100000 in
set_option maxHeartbeats 4000000 in
theorem walk_sm_one_up (a0_0 a0_1 a0_2 a0_3 : Int) (a1_0 a1_1 a1_2 : Int) (w : World) (h : MarkOk a0_2 a0_3 a1_0 a1_1 a1_2 0) (hlt : a1_1 < a1_2) :
    Calls Try.prog 9 #[.agg #[.int .i64 a0_0, .int .i64 a0_1, .int .i64 a0_2, .int .i64 a0_3], .agg #[.int .i64 a1_0, .int .i64 a1_1, .int .i64 a1_2], .int .i64 0] w fun e w' => e = .returned (.bool true) ∧ Kp w w' := by
  have hmn : min a1_1 a1_2 = a1_1 ∧ max a1_1 a1_2 = a1_2 := by omega
  have hm := fun W => Marks_one a0_0 a0_1 a0_2 a0_3 a1_0 a1_1 a1_2 W h (by omega)
  rw [hmn.1, hmn.2] at hm
  have Hm := Lib.hid hm
  obtain ⟨h1, h2, h3, h4, hx, hy, hz⟩ := h
  obtain ⟨x1, x2⟩ := (wrong_false _).1 hx
  obtain ⟨y1, y2⟩ := (wrong_false _).1 hy
  obtain ⟨z1, z2⟩ := (wrong_false _).1 hz
  have hne : ¬ a1_1 = a1_2 := by omega
  have Hs := Lib.hid sizeMark
  clear hx hy hz hmn hm
  have hmix : Try.prog.follows .mixedOrders = true := by kernel_rfl
  have Hw := Lib.hid (row_where w #[.int .i64 a0_0, .int .i64 a0_1, .int .i64 a0_2, .int .i64 a0_3] #[.int .i64 a1_0, .int .i64 a1_1, .int .i64 a1_2] 48 55)
  go_enter Try.func9, Try.ntmps9
  go_wp2_with fail
  go_quiet (fail)
  go_wp2_with (first
    | (go_at_call 34; refine (Hm.out _).mono ?_; rintro e w1 ⟨B, rfl, hB, hk⟩; have Hk1 := Lib.hid ((((Kp.alloc _ _).trans (Kp.alloc _ _)).trans (Kp.drewN _ _)).trans hk); have Hr := Lib.hid ((Hw.out.1.kp (Kp.drewN _ _)).kp hk); have HB := Lib.hid hB; clear hk hB)
    | (go_at_call 19; refine (known_any _).mono ?_; rintro e w3 ⟨rfl, hk⟩; have Hk3 := Lib.hid (Hk1.out.trans hk); have rw3 := Hr.out.kp hk; have HB3 := Lib.hid (HB.out.kp hk); have c0 : w3.cell? ⟨w.heap.size, 0, none⟩ = some (.int .i64 a0_0) := rw3.cell 0; have c1 : w3.cell? ⟨w.heap.size, 1, none⟩ = some (.int .i64 a0_1) := rw3.cell 1; have c2 : w3.cell? ⟨w.heap.size, 2, none⟩ = some (.int .i64 a0_2) := rw3.cell 2; have c3 : w3.cell? ⟨w.heap.size, 3, none⟩ = some (.int .i64 a0_3) := rw3.cell 3; clear hk rw3)
    | ((with_reducible refine wpList_store_new1 (o := ⟨none, _, _, _, _, _⟩) ?_ 43 (.tmp 13) (.tmp 119) ?_ _ _ 43 ?_ ?_ Hs.out ?_ ?_ ?_); rfl; rfl; exact eval_tmp rfl; exact eval_tmp rfl; rfl; rfl))
  obtain ⟨W0, hW0⟩ : ∃ W0, w3.alloc (.cells #[.int .i64 20, .int .i64 0, .int .i64 a0_2, .int .i64 a0_3, .int .i64 a0_3, .int .i64 0, .int .i64 a0_0, .int .i64 a0_1, .int .i64 a1_0, .int .i64 a1_1, .int .i64 (a1_0 + 8), .int .i64 a1_2] 43) = W0 := ⟨_, rfl⟩
  have rn : HasRow W0 w3.heap.size #[.int .i64 20, .int .i64 0, .int .i64 a0_2, .int .i64 a0_3, .int .i64 a0_3, .int .i64 0, .int .i64 a0_0, .int .i64 a0_1, .int .i64 a1_0, .int .i64 a1_1, .int .i64 (a1_0 + 8), .int .i64 a1_2] 43 := by rw [← hW0]; exact HasRow.new _ _ _
  have rm : HasRow W0 B #[.int .i64 20, .int .i64 0, .int .i64 a0_2, .int .i64 a0_3, .int .i64 a0_3, .int .i64 0, .int .i64 a0_0, .int .i64 a0_1, .int .i64 a1_0, .int .i64 a1_1, .int .i64 (a1_0 + 8), .int .i64 a1_2] 43 := by rw [← hW0]; exact HB3.out.alloc _
  have HK := Lib.hid (show Kp w W0 from by rw [← hW0]; exact Hk3.out.trans (Kp.alloc _ _))
  rw [hW0]
  clear hW0 c0 c1 c2 c3
  have m0 := cell_rg (rm.cell 0)
  have n0 := cell_rg (rn.cell 0)
  have m1 := cell_rg (rm.cell 1)
  have n1 := cell_rg (rn.cell 1)
  have m2 := cell_rg (rm.cell 2)
  have n2 := cell_rg (rn.cell 2)
  have m3 := cell_rg (rm.cell 3)
  have n3 := cell_rg (rn.cell 3)
  have m4 := cell_rg (rm.cell 4)
  have n4 := cell_rg (rn.cell 4)
  have m5 := cell_rg (rm.cell 5)
  have n5 := cell_rg (rn.cell 5)
  have m6 := cell_rg (rm.cell 6)
  have n6 := cell_rg (rn.cell 6)
  have m7 := cell_rg (rm.cell 7)
  have n7 := cell_rg (rn.cell 7)
  have m8 := cell_rg (rm.cell 8)
  have n8 := cell_rg (rn.cell 8)
  have m9 := cell_rg (rm.cell 9)
  have n9 := cell_rg (rn.cell 9)
  have m10 := cell_rg (rm.cell 10)
  have n10 := cell_rg (rn.cell 10)
  have m11 := cell_rg (rm.cell 11)
  have n11 := cell_rg (rn.cell 11)
  have gm := guard_mark
  clear rm rn
  refine wp_region_quiet_below (by kernel_rfl) (by kernel_rfl) ?_
  repeat (go_big_quiet_step (fail))
  refine wpQuiet_nil ?_
  intro _ hw'
  obtain ⟨⟨dq, osq⟩, hw''⟩ := hw'
  subst hw''
  go_wp2
  go_ret
  exact ⟨ret_bool (by simp), HK.out.trans (kp_rg _ _ _)⟩

set_option maxRecDepth 100000 in
set_option maxHeartbeats 4000000 in
theorem walk_sm_one_down (a0_0 a0_1 a0_2 a0_3 : Int) (a1_0 a1_1 a1_2 : Int) (w : World) (h : MarkOk a0_2 a0_3 a1_0 a1_1 a1_2 0) (hlt : a1_2 < a1_1) :
    Calls Try.prog 9 #[.agg #[.int .i64 a0_0, .int .i64 a0_1, .int .i64 a0_2, .int .i64 a0_3], .agg #[.int .i64 a1_0, .int .i64 a1_1, .int .i64 a1_2], .int .i64 0] w fun e w' => e = .returned (.bool true) ∧ Kp w w' := by
  have hmn : min a1_1 a1_2 = a1_2 ∧ max a1_1 a1_2 = a1_1 := by omega
  have hm := fun W => Marks_one a0_0 a0_1 a0_2 a0_3 a1_0 a1_1 a1_2 W h (by omega)
  rw [hmn.1, hmn.2] at hm
  have Hm := Lib.hid hm
  obtain ⟨h1, h2, h3, h4, hx, hy, hz⟩ := h
  obtain ⟨x1, x2⟩ := (wrong_false _).1 hx
  obtain ⟨y1, y2⟩ := (wrong_false _).1 hy
  obtain ⟨z1, z2⟩ := (wrong_false _).1 hz
  have hne : ¬ a1_1 = a1_2 := by omega
  have Hs := Lib.hid sizeMark
  clear hx hy hz hmn hm
  have hmix : Try.prog.follows .mixedOrders = true := by kernel_rfl
  have Hw := Lib.hid (row_where w #[.int .i64 a0_0, .int .i64 a0_1, .int .i64 a0_2, .int .i64 a0_3] #[.int .i64 a1_0, .int .i64 a1_1, .int .i64 a1_2] 48 55)
  go_enter Try.func9, Try.ntmps9
  go_wp2_with fail
  go_quiet (fail)
  go_wp2_with (first
    | (go_at_call 34; refine (Hm.out _).mono ?_; rintro e w1 ⟨B, rfl, hB, hk⟩; have Hk1 := Lib.hid ((((Kp.alloc _ _).trans (Kp.alloc _ _)).trans (Kp.drewN _ _)).trans hk); have Hr := Lib.hid ((Hw.out.1.kp (Kp.drewN _ _)).kp hk); have HB := Lib.hid hB; clear hk hB)
    | (go_at_call 19; refine (known_any _).mono ?_; rintro e w3 ⟨rfl, hk⟩; have Hk3 := Lib.hid (Hk1.out.trans hk); have rw3 := Hr.out.kp hk; have HB3 := Lib.hid (HB.out.kp hk); have c0 : w3.cell? ⟨w.heap.size, 0, none⟩ = some (.int .i64 a0_0) := rw3.cell 0; have c1 : w3.cell? ⟨w.heap.size, 1, none⟩ = some (.int .i64 a0_1) := rw3.cell 1; have c2 : w3.cell? ⟨w.heap.size, 2, none⟩ = some (.int .i64 a0_2) := rw3.cell 2; have c3 : w3.cell? ⟨w.heap.size, 3, none⟩ = some (.int .i64 a0_3) := rw3.cell 3; clear hk rw3)
    | ((with_reducible refine wpList_store_new1 (o := ⟨none, _, _, _, _, _⟩) ?_ 43 (.tmp 13) (.tmp 119) ?_ _ _ 43 ?_ ?_ Hs.out ?_ ?_ ?_); rfl; rfl; exact eval_tmp rfl; exact eval_tmp rfl; rfl; rfl))
  obtain ⟨W0, hW0⟩ : ∃ W0, w3.alloc (.cells #[.int .i64 20, .int .i64 0, .int .i64 a0_2, .int .i64 a0_3, .int .i64 a0_3, .int .i64 0, .int .i64 a0_0, .int .i64 a0_1, .int .i64 a1_0, .int .i64 a1_2, .int .i64 (a1_0 + 8), .int .i64 a1_1] 43) = W0 := ⟨_, rfl⟩
  have rn : HasRow W0 w3.heap.size #[.int .i64 20, .int .i64 0, .int .i64 a0_2, .int .i64 a0_3, .int .i64 a0_3, .int .i64 0, .int .i64 a0_0, .int .i64 a0_1, .int .i64 a1_0, .int .i64 a1_2, .int .i64 (a1_0 + 8), .int .i64 a1_1] 43 := by rw [← hW0]; exact HasRow.new _ _ _
  have rm : HasRow W0 B #[.int .i64 20, .int .i64 0, .int .i64 a0_2, .int .i64 a0_3, .int .i64 a0_3, .int .i64 0, .int .i64 a0_0, .int .i64 a0_1, .int .i64 a1_0, .int .i64 a1_2, .int .i64 (a1_0 + 8), .int .i64 a1_1] 43 := by rw [← hW0]; exact HB3.out.alloc _
  have HK := Lib.hid (show Kp w W0 from by rw [← hW0]; exact Hk3.out.trans (Kp.alloc _ _))
  rw [hW0]
  clear hW0 c0 c1 c2 c3
  have m0 := cell_rg (rm.cell 0)
  have n0 := cell_rg (rn.cell 0)
  have m1 := cell_rg (rm.cell 1)
  have n1 := cell_rg (rn.cell 1)
  have m2 := cell_rg (rm.cell 2)
  have n2 := cell_rg (rn.cell 2)
  have m3 := cell_rg (rm.cell 3)
  have n3 := cell_rg (rn.cell 3)
  have m4 := cell_rg (rm.cell 4)
  have n4 := cell_rg (rn.cell 4)
  have m5 := cell_rg (rm.cell 5)
  have n5 := cell_rg (rn.cell 5)
  have m6 := cell_rg (rm.cell 6)
  have n6 := cell_rg (rn.cell 6)
  have m7 := cell_rg (rm.cell 7)
  have n7 := cell_rg (rn.cell 7)
  have m8 := cell_rg (rm.cell 8)
  have n8 := cell_rg (rn.cell 8)
  have m9 := cell_rg (rm.cell 9)
  have n9 := cell_rg (rn.cell 9)
  have m10 := cell_rg (rm.cell 10)
  have n10 := cell_rg (rn.cell 10)
  have m11 := cell_rg (rm.cell 11)
  have n11 := cell_rg (rn.cell 11)
  have gm := guard_mark
  clear rm rn
  refine wp_region_quiet_below (by kernel_rfl) (by kernel_rfl) ?_
  repeat (go_big_quiet_step (fail))
  refine wpQuiet_nil ?_
  intro _ hw'
  obtain ⟨⟨dq, osq⟩, hw''⟩ := hw'
  subst hw''
  go_wp2
  go_ret
  exact ⟨ret_bool (by simp), HK.out.trans (kp_rg _ _ _)⟩

end Go.Proofs.Ytdndehlhodigoaa
