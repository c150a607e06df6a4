/- The law of the marks of rests: the good case, and the whole. -/
import Derived.Test.YtdndehlhodigoaaLawE
namespace Go.Proofs.Ytdndehlhodigoaa
open Go Go.RowKit Go.Shelf

theorem box_all_small : ((List.range 68).all fun i => let q := boxG (i + 1); decide (-1000 ≤ q.l) && decide (q.l ≤ 1000) && decide (-1000 ≤ q.b) && decide (q.b ≤ 1000) && decide (-1000 ≤ q.r) && decide (q.r ≤ 1000) && decide (-1000 ≤ q.t) && decide (q.t ≤ 1000)) = true := by decide +kernel
theorem box_small_all (c : Nat) (h1 : 1 ≤ c) (h2 : c ≤ 68) : (-1000 ≤ (boxG c).l ∧ (boxG c).l ≤ 1000) ∧ (-1000 ≤ (boxG c).b ∧ (boxG c).b ≤ 1000) ∧ (-1000 ≤ (boxG c).r ∧ (boxG c).r ≤ 1000) ∧ (-1000 ≤ (boxG c).t ∧ (boxG c).t ≤ 1000) := by
  have h := List.all_eq_true.1 box_all_small (c - 1) (by simp; omega)
  rw [show c - 1 + 1 = c by omega] at h
  simp only [Bool.and_eq_true, decide_eq_true_eq] at h
  omega

set_option maxRecDepth 100000 in
set_option maxHeartbeats 2000000 in
theorem walk_rm_ok (a0_0 a0_1 a0_2 a0_3 : Int) (a1_0 a1_1 : Int) (a2 : Int) (w : World) (h1 : ¬ a0_2 < 0) (h2 : ¬ a0_3 < 0) (h3 : ¬ a2 < -200) (h4 : ¬ 200 < a2) (hv : valG a1_0 a1_1 = 0) :
    Calls Try.prog 8 #[.agg #[.int .i64 a0_0, .int .i64 a0_1, .int .i64 a0_2, .int .i64 a0_3], .agg #[.int .i64 a1_0, .int .i64 a1_1], .int .i64 a2] w fun e w' => e = .returned (.bool true) ∧ Kp w w' := by
  have hlg : -1 ≤ a1_0 ∧ a1_0 ≤ 8 := by unfold valG at hv; split at hv <;> omega
  obtain ⟨c, hcd⟩ : ∃ c, (a1_0 + 6).toNat = c := ⟨_, rfl⟩
  have hc1 : 1 ≤ c := by omega
  have hc2 : c ≤ 68 := by omega
  have hlc : a1_0 + 6 = c := by omega
  have hrest : restG a1_0 = .tuple #[.int .i64 (c : Int), .int .i64 0] := by unfold restG; rw [if_neg (by omega), hlc]
  obtain ⟨bl, bb, br, bt, hbox⟩ : ∃ bl bb br bt, boxG c = ⟨bl, bb, br, bt⟩ := ⟨_, _, _, _, rfl⟩
  have hbs := box_small_all c hc1 hc2
  rw [hbox] at hbs
  obtain ⟨⟨hl1, hl2⟩, ⟨hb1, hb2⟩, ⟨hr1, hr2⟩, hb3, hb4⟩ := hbs
  simp only at hl1 hl2 hb1 hb2 hr1 hr2 hb3 hb4
  have hrv : rmVal a0_0 a0_1 a0_2 a0_3 a1_0 a1_1 a2 = .tuple #[.agg #[.int .i64 22, .int .i64 0, .int .i64 a0_2, .int .i64 a0_3, .int .i64 a0_3, .int .i64 c, .int .i64 a0_0, .int .i64 a0_1, .int .i64 bl, .int .i64 (bb + 32 * a2), .int .i64 br, .int .i64 (bt + 32 * a2)], .int .i64 0] := by
    have he : rmErr a0_2 a0_3 a1_0 a1_1 a2 = 0 := by unfold rmErr; rw [if_neg (by omega), hv]
    unfold rmVal; rw [he, if_pos rfl]; unfold rmCells; rw [hcd, hbox, hlc]; rfl
  have Hbox : Hid ((boxG c).cells = #[.int .i64 bl, .int .i64 bb, .int .i64 br, .int .i64 bt]) := Lib.hid (by rw [hbox]; rfl)
  have Hv := Lib.hid hrv
  have HV := Lib.hid hv
  have Hs := Lib.hid sizeMark
  have Hrest := Lib.hid hrest
  clear hrv hv hrest hbox hlc hcd
  have Hw := Lib.hid (((HasRow.new w #[.int .i64 a0_0, .int .i64 a0_1, .int .i64 a0_2, .int .i64 a0_3] 48)).alloc (.cells #[.int .i64 a1_0, .int .i64 a1_1] 28))
  have Hw1 : Hid (HasRow ((w.alloc (.cells #[.int .i64 a0_0, .int .i64 a0_1, .int .i64 a0_2, .int .i64 a0_3] 48)).alloc (.cells #[.int .i64 a1_0, .int .i64 a1_1] 28)) (w.heap.size + 1) #[.int .i64 a1_0, .int .i64 a1_1] 28) := Lib.hid (by
    have := HasRow.new (w.alloc (.cells #[.int .i64 a0_0, .int .i64 a0_1, .int .i64 a0_2, .int .i64 a0_3] 48)) #[.int .i64 a1_0, .int .i64 a1_1] 28; rwa [World.size_alloc] at this)
  go_enter Try.func8, Try.ntmps8
  go_wp2_with (first
     | (go_at_call 29; refine (RestMark_all _ _ _ _ _ _ _ _).mono ?_; rw [Hv.out]; rintro e w1 ⟨rfl, hk⟩; have Hk1 := Lib.hid (((Kp.alloc _ _).trans (Kp.alloc _ _)).trans hk); have Hr := Lib.hid (Hw.out.kp hk); have Hr1 := Lib.hid (Hw1.out.kp hk); clear hk)
     | ((with_reducible refine wpList_store_new1 (o := ⟨none, _, _, _, _, _⟩) ?_ 43 (.tmp 7) (.tmp 24) ?_ #[.int .i64 22, .int .i64 0, .int .i64 a0_2, .int .i64 a0_3, .int .i64 a0_3, .int .i64 c, .int .i64 a0_0, .int .i64 a0_1, .int .i64 bl, .int .i64 (bb + 32 * a2), .int .i64 br, .int .i64 (bt + 32 * a2)] _ 43 ?_ ?_ Hs.out ?_ ?_ ?_); rfl; rfl; exact eval_tmp rfl; exact eval_tmp rfl; rfl; rfl)
     | (go_at_call 19; refine (known_any _).mono ?_; rintro e w3 ⟨rfl, hk⟩; have Hk3 := Lib.hid ((Hk1.out.trans (Kp.alloc _ _)).trans hk); have rw3 := (Hr.out.alloc _).kp hk; have Hw3 := Lib.hid rw3; have c2 : w3.cell? ⟨w.heap.size, 2, none⟩ = some (.int .i64 a0_2) := rw3.cell 2; have c3 : w3.cell? ⟨w.heap.size, 3, none⟩ = some (.int .i64 a0_3) := rw3.cell 3; have rv3 := (Hr1.out.alloc _).kp hk; have Hv3 := Lib.hid rv3; have v0 : w3.cell? ⟨w.heap.size + 1, 0, none⟩ = some (.int .i64 a1_0) := rv3.cell 0; have v1 : w3.cell? ⟨w.heap.size + 1, 1, none⟩ = some (.int .i64 a1_1) := rv3.cell 1; have Hm3 := Lib.hid ((HasRow.new w1 #[.int .i64 22, .int .i64 0, .int .i64 a0_2, .int .i64 a0_3, .int .i64 a0_3, .int .i64 c, .int .i64 a0_0, .int .i64 a0_1, .int .i64 bl, .int .i64 (bb + 32 * a2), .int .i64 br, .int .i64 (bt + 32 * a2)] 43).kp hk); clear hk rw3 rv3)
     | (go_at_call 30; refine (Check_any _ _ _).mono ?_; rw [HV.out]; rintro e w4 ⟨rfl, hk⟩; have Hk4 := Lib.hid (Hk3.out.trans hk); have Hm4 := Lib.hid (Hm3.out.kp hk); have Hw4 := Lib.hid (Hw3.out.kp hk); have rv4 := Hv3.out.kp hk; have u0 : w4.cell? ⟨w.heap.size + 1, 0, none⟩ = some (.int .i64 a1_0) := rv4.cell 0; clear hk rv4)
     | (go_at_call 31; refine (Rest_any _ _).mono ?_; rw [Hrest.out]; rintro e w5 ⟨rfl, rfl⟩)
     | (go_at_call 32; refine (box_in c _ hc1 hc2).mono ?_; rw [Hbox.out]; rintro e w5 ⟨rfl, hk⟩; have Hk5 := Lib.hid (Hk4.out.trans hk); have Hm5 := Lib.hid (Hm4.out.kp hk); have Hw5 := Lib.hid (Hw4.out.kp hk); clear hk))
  obtain ⟨W0, hW0⟩ : ∃ W0, w5.alloc (.cells #[.int .i64 bl, .int .i64 bb, .int .i64 br, .int .i64 bt] 41) = W0 := ⟨_, rfl⟩
  have rb : HasRow W0 w5.heap.size #[.int .i64 bl, .int .i64 bb, .int .i64 br, .int .i64 bt] 41 := by rw [← hW0]; exact HasRow.new _ _ _
  have rm : HasRow W0 w1.heap.size #[.int .i64 22, .int .i64 0, .int .i64 a0_2, .int .i64 a0_3, .int .i64 a0_3, .int .i64 c, .int .i64 a0_0, .int .i64 a0_1, .int .i64 bl, .int .i64 (bb + 32 * a2), .int .i64 br, .int .i64 (bt + 32 * a2)] 43 := by rw [← hW0]; exact Hm5.out.alloc _
  have rw' : HasRow W0 w.heap.size #[.int .i64 a0_0, .int .i64 a0_1, .int .i64 a0_2, .int .i64 a0_3] 48 := by rw [← hW0]; exact Hw5.out.alloc _
  have HK := Lib.hid (show Kp w W0 from by rw [← hW0]; exact Hk5.out.trans (Kp.alloc _ _))
  rw [hW0]
  clear hW0
  have b0 := cell_rg (rb.cell 0)
  have b1 := cell_rg (rb.cell 1)
  have b2 := cell_rg (rb.cell 2)
  have b3 := cell_rg (rb.cell 3)
  have q0 := cell_rg (rw'.cell 0)
  have q1 := cell_rg (rw'.cell 1)
  have q2 := cell_rg (rw'.cell 2)
  have q3 := cell_rg (rw'.cell 3)
  have m0 := cell_rg (rm.cell 0)
  have m1 := cell_rg (rm.cell 1)
  have m2 := cell_rg (rm.cell 2)
  have m3 := cell_rg (rm.cell 3)
  have m4 := cell_rg (rm.cell 4)
  have m5 := cell_rg (rm.cell 5)
  have m6 := cell_rg (rm.cell 6)
  have m7 := cell_rg (rm.cell 7)
  have m8 := cell_rg (rm.cell 8)
  have m9 := cell_rg (rm.cell 9)
  have m10 := cell_rg (rm.cell 10)
  have m11 := cell_rg (rm.cell 11)
  have gm := guard_mark
  clear rb rm rw' c2 c3 v0 v1
  refine wp_region_quiet_below (by kernel_rfl) (by kernel_rfl) ?_
  repeat (go_big_quiet_step ((go_at_call 33; exact rg_of (moved_any bl bb br bt 0 (32 * a2) _ (by omega) (by omega) (by omega) (by omega) (by omega) (by omega)))))
  refine wpQuiet_nil ?_
  intro _ hw'
  obtain ⟨⟨dq, osq⟩, hw''⟩ := hw'
  subst hw''
  go_wp2
  go_ret
  exact ⟨ret_bool (by simp), HK.out.trans (kp_rg _ _ _)⟩

theorem walk_StemRestMarks (a0_0 a0_1 a0_2 a0_3 : Int) (a1_0 a1_1 : Int) (a2 : Int) (w : World) (_w0_0 : (Lit.int .i64 a0_0).wf = true) (_w0_1 : (Lit.int .i64 a0_1).wf = true) (_w0_2 : (Lit.int .i64 a0_2).wf = true) (_w0_3 : (Lit.int .i64 a0_3).wf = true) (_w1_0 : (Lit.int .i64 a1_0).wf = true) (_w1_1 : (Lit.int .i64 a1_1).wf = true) (_w2 : (Lit.int .i64 a2).wf = true) :
    Calls Try.prog 8 #[.agg #[.int .i64 a0_0, .int .i64 a0_1, .int .i64 a0_2, .int .i64 a0_3], .agg #[.int .i64 a1_0, .int .i64 a1_1], .int .i64 a2] w fun e w' => e = .returned (.bool true) ∧ Kp w w' := by
  by_cases h : a0_2 < 0 ∨ a0_3 < 0 ∨ a2 < -200 ∨ 200 < a2
  · exact walk_rm_bad a0_0 a0_1 a0_2 a0_3 a1_0 a1_1 a2 w h
  · by_cases hv : valG a1_0 a1_1 = 0
    · exact walk_rm_ok a0_0 a0_1 a0_2 a0_3 a1_0 a1_1 a2 w (by omega) (by omega) (by omega) (by omega) hv
    · exact walk_rm_val a0_0 a0_1 a0_2 a0_3 a1_0 a1_1 a2 w (by omega) (by omega) (by omega) (by omega) hv
end Go.Proofs.Ytdndehlhodigoaa
