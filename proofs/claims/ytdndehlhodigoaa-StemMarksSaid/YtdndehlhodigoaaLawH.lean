/- The law of the marks of stems: the walks. -/
import Derived.Deep.RegionHeld3
import Derived.Test.YtdndehlhodigoaaMarks
namespace Go.Proofs.Ytdndehlhodigoaa
open Go Go.RowKit Go.Shelf

/-- The four numbers of a place, and the three heights, boxed. -/
theorem row_where (w : World) (A B : Array Value) (t u : TypeId) : HasRow ((w.alloc (.cells A t)).alloc (.cells B u)) w.heap.size A t ∧ HasRow ((w.alloc (.cells A t)).alloc (.cells B u)) (w.heap.size + 1) B u :=
  ⟨(HasRow.new w A t).alloc _, row2' _ _ _ _⟩

theorem wrong_cases (x y z : Int) (h : wrongB x = true ∨ wrongB y = true ∨ wrongB z = true) :
    (x < -1048576) ∨ (¬ x < -1048576 ∧ 1048576 < x) ∨ ((¬ x < -1048576 ∧ ¬ 1048576 < x) ∧ y < -1048576) ∨ ((¬ x < -1048576 ∧ ¬ 1048576 < x) ∧ ¬ y < -1048576 ∧ 1048576 < y) ∨
    ((¬ x < -1048576 ∧ ¬ 1048576 < x) ∧ (¬ y < -1048576 ∧ ¬ 1048576 < y) ∧ z < -1048576) ∨ ((¬ x < -1048576 ∧ ¬ 1048576 < x) ∧ (¬ y < -1048576 ∧ ¬ 1048576 < y) ∧ ¬ z < -1048576 ∧ 1048576 < z) := by
  unfold wrongB at h
  simp only [Bool.or_eq_true, decide_eq_true_eq] at h
  omega

set_option maxRecDepth 100000 in
set_option maxHeartbeats 4000000 in
theorem walk_sm_big (a0_0 a0_1 a0_2 a0_3 : Int) (a1_0 a1_1 a1_2 : Int) (a2 : Int) (w : World) (h : wrongB a1_0 = true ∨ wrongB a1_1 = true ∨ wrongB a1_2 = true) :
    Calls Try.prog 9 #[.agg #[.int .i64 a0_0, .int .i64 a0_1, .int .i64 a0_2, .int .i64 a0_3], .agg #[.int .i64 a1_0, .int .i64 a1_1, .int .i64 a1_2], .int .i64 a2] w fun e w' => e = .returned (.bool true) ∧ Kp w w' := by
  have Hm := Lib.hid fun W => Marks_rng a0_0 a0_1 a0_2 a0_3 a1_0 a1_1 a1_2 a2 W (Or.inr (Or.inr (Or.inr (Or.inr h))))
  have hc := wrong_cases a1_0 a1_1 a1_2 h
  clear h
  have hmix : Try.prog.follows .mixedOrders = true := by kernel_rfl
  have Hw := Lib.hid (row_where w #[.int .i64 a0_0, .int .i64 a0_1, .int .i64 a0_2, .int .i64 a0_3] #[.int .i64 a1_0, .int .i64 a1_1, .int .i64 a1_2] 48 55)
  rcases hc with h1 | ⟨h1, h2⟩ | ⟨⟨h1, h2⟩, h3⟩ | ⟨⟨h1, h2⟩, h3, h4⟩ | ⟨⟨h1, h2⟩, ⟨h3, h4⟩, h5⟩ | ⟨⟨h1, h2⟩, ⟨h3, h4⟩, h5, h6⟩ <;>
  (go_enter Try.func9, Try.ntmps9
   go_wp2_with fail
   go_quiet (fail)
   go_wp2_with (first
     | (go_at_call 34; refine (Hm.out _).mono ?_; rintro e w1 ⟨rfl, hk⟩; have Hk1 := Lib.hid ((((Kp.alloc _ _).trans (Kp.alloc _ _)).trans (Kp.drewN _ _)).trans hk); have Hr := Lib.hid ((Hw.out.1.kp (Kp.drewN _ _)).kp hk); clear hk)
     | (go_at_call 19; refine (known_any _).mono ?_; rintro e w3 ⟨rfl, hk⟩; have Hk3 := Lib.hid (Hk1.out.trans hk); have rw3 := Hr.out.kp hk; have c2 : w3.cell? ⟨w.heap.size, 2, none⟩ = some (.int .i64 a0_2) := rw3.cell 2; have c3 : w3.cell? ⟨w.heap.size, 3, none⟩ = some (.int .i64 a0_3) := rw3.cell 3; clear hk rw3))
   all_goals
     go_ret
     exact ⟨ret_bool (by simp), Hk3.out⟩)

set_option maxRecDepth 100000 in
set_option maxHeartbeats 4000000 in
theorem walk_sm_small (a0_0 a0_1 a0_2 a0_3 : Int) (a1_0 a1_1 a1_2 : Int) (a2 : Int) (w : World) (hx : wrongB a1_0 = false) (hy : wrongB a1_1 = false) (hz : wrongB a1_2 = false) (h : a0_2 < 0 ∨ a0_3 < 0 ∨ a2 < 0 ∨ 6 < a2) :
    Calls Try.prog 9 #[.agg #[.int .i64 a0_0, .int .i64 a0_1, .int .i64 a0_2, .int .i64 a0_3], .agg #[.int .i64 a1_0, .int .i64 a1_1, .int .i64 a1_2], .int .i64 a2] w fun e w' => e = .returned (.bool true) ∧ Kp w w' := by
  have Hm := Lib.hid fun W => Marks_rng a0_0 a0_1 a0_2 a0_3 a1_0 a1_1 a1_2 a2 W (by rcases h with h | h | h | h <;> simp [h])
  obtain ⟨x1, x2⟩ := (wrong_false _).1 hx
  obtain ⟨y1, y2⟩ := (wrong_false _).1 hy
  obtain ⟨z1, z2⟩ := (wrong_false _).1 hz
  have hc : (a0_2 < 0) ∨ (¬ a0_2 < 0 ∧ a0_3 < 0) ∨ ((¬ a0_2 < 0 ∧ ¬ a0_3 < 0) ∧ a2 < 0) ∨ ((¬ a0_2 < 0 ∧ ¬ a0_3 < 0) ∧ ¬ a2 < 0 ∧ 6 < a2) := by omega
  clear h hx hy hz
  have hmix : Try.prog.follows .mixedOrders = true := by kernel_rfl
  have Hw := Lib.hid (row_where w #[.int .i64 a0_0, .int .i64 a0_1, .int .i64 a0_2, .int .i64 a0_3] #[.int .i64 a1_0, .int .i64 a1_1, .int .i64 a1_2] 48 55)
  rcases hc with h1 | ⟨h1, h2⟩ | ⟨⟨h1, h2⟩, h3⟩ | ⟨⟨h1, h2⟩, h3, h4⟩ <;>
  (go_enter Try.func9, Try.ntmps9
   go_wp2_with fail
   go_quiet (fail)
   go_wp2_with (first
     | (go_at_call 34; refine (Hm.out _).mono ?_; rintro e w1 ⟨rfl, hk⟩; have Hk1 := Lib.hid ((((Kp.alloc _ _).trans (Kp.alloc _ _)).trans (Kp.drewN _ _)).trans hk); have Hr := Lib.hid ((Hw.out.1.kp (Kp.drewN _ _)).kp hk); clear hk)
     | (go_at_call 19; refine (known_any _).mono ?_; rintro e w3 ⟨rfl, hk⟩; have Hk3 := Lib.hid (Hk1.out.trans hk); have rw3 := Hr.out.kp hk; have c2 : w3.cell? ⟨w.heap.size, 2, none⟩ = some (.int .i64 a0_2) := rw3.cell 2; have c3 : w3.cell? ⟨w.heap.size, 3, none⟩ = some (.int .i64 a0_3) := rw3.cell 3; clear hk rw3))
   all_goals
     go_ret
     exact ⟨ret_bool (by simp), Hk3.out⟩)

set_option maxRecDepth 100000 in
set_option maxHeartbeats 4000000 in
theorem walk_sm_same (a0_0 a0_1 a0_2 a0_3 : Int) (a1_0 a1_1 : Int) (a2 : Int) (w : World) (h : MarkOk a0_2 a0_3 a1_0 a1_1 a1_1 a2) :
    Calls Try.prog 9 #[.agg #[.int .i64 a0_0, .int .i64 a0_1, .int .i64 a0_2, .int .i64 a0_3], .agg #[.int .i64 a1_0, .int .i64 a1_1, .int .i64 a1_1], .int .i64 a2] w fun e w' => e = .returned (.bool true) ∧ Kp w w' := by
  have Hm := Lib.hid fun W => Marks_same a0_0 a0_1 a0_2 a0_3 a1_0 a1_1 a2 W h
  obtain ⟨h1, h2, h3, h4, hx, hy, _⟩ := h
  obtain ⟨x1, x2⟩ := (wrong_false _).1 hx
  obtain ⟨y1, y2⟩ := (wrong_false _).1 hy
  clear hx hy
  have hmix : Try.prog.follows .mixedOrders = true := by kernel_rfl
  have Hw := Lib.hid (row_where w #[.int .i64 a0_0, .int .i64 a0_1, .int .i64 a0_2, .int .i64 a0_3] #[.int .i64 a1_0, .int .i64 a1_1, .int .i64 a1_1] 48 55)
  go_enter Try.func9, Try.ntmps9
  go_wp2_with fail
  go_quiet (fail)
  go_wp2_with (first
    | (go_at_call 34; refine (Hm.out _).mono ?_; rintro e w1 ⟨rfl, hk⟩; have Hk1 := Lib.hid ((((Kp.alloc _ _).trans (Kp.alloc _ _)).trans (Kp.drewN _ _)).trans hk); have Hr := Lib.hid ((Hw.out.1.kp (Kp.drewN _ _)).kp hk); clear hk)
    | (go_at_call 19; refine (known_any _).mono ?_; rintro e w3 ⟨rfl, hk⟩; have Hk3 := Lib.hid (Hk1.out.trans hk); have rw3 := Hr.out.kp hk; have c2 : w3.cell? ⟨w.heap.size, 2, none⟩ = some (.int .i64 a0_2) := rw3.cell 2; have c3 : w3.cell? ⟨w.heap.size, 3, none⟩ = some (.int .i64 a0_3) := rw3.cell 3; clear hk rw3))
  go_ret
  exact ⟨ret_bool (by simp), Hk3.out⟩
end Go.Proofs.Ytdndehlhodigoaa
