/- The law of the marks of stems: a stem that points down with a flag, and the whole. -/
import Derived.Test.YtdndehlhodigoaaLawJ
namespace Go.Proofs.Ytdndehlhodigoaa
open Go Go.RowKit Go.Shelf

set_option maxRecDepth 100000 in
set_option maxHeartbeats 4000000 in
theorem walk_sm_two_down (a0_0 a0_1 a0_2 a0_3 : Int) (a1_0 a1_1 a1_2 : Int) (a2 : Int) (w : World) (h : MarkOk a0_2 a0_3 a1_0 a1_1 a1_2 a2) (hf : 0 < a2) (hlt : a1_2 < a1_1) :
    Calls Try.prog 9 #[.agg #[.int .i64 a0_0, .int .i64 a0_1, .int .i64 a0_2, .int .i64 a0_3], .agg #[.int .i64 a1_0, .int .i64 a1_1, .int .i64 a1_2], .int .i64 a2] w fun e w' => e = .returned (.bool true) ∧ Kp w w' := by
  have hmn : min a1_1 a1_2 = a1_2 ∧ max a1_1 a1_2 = a1_1 := by omega
  have hm := fun W => Marks_two a0_0 a0_1 a0_2 a0_3 a1_0 a1_1 a1_2 a2 W h hf (by omega)
  have hcd : flagCode a1_1 a1_2 a2 = a2 + 20 := by unfold flagCode; rw [if_neg (by omega)]
  obtain ⟨h1, h2, h3, h4, hx, hy, hz⟩ := h
  obtain ⟨x1, x2⟩ := (wrong_false _).1 hx
  obtain ⟨y1, y2⟩ := (wrong_false _).1 hy
  obtain ⟨z1, z2⟩ := (wrong_false _).1 hz
  obtain ⟨c, hcn⟩ : ∃ c : Nat, flagCode a1_1 a1_2 a2 = (c : Int) := ⟨(flagCode a1_1 a1_2 a2).toNat, by omega⟩
  have hc1 : 1 ≤ c := by omega
  have hc2 : c ≤ 68 := by omega
  rw [hmn.1, hmn.2, hcn, Int.toNat_natCast] at hm
  rw [hcn] at hcd
  obtain ⟨bl, bb, br, bt, hbox⟩ : ∃ bl bb br bt, boxG c = ⟨bl, bb, br, bt⟩ := ⟨_, _, _, _, rfl⟩
  have hbs := box_small_all c hc1 hc2
  rw [hbox] at hbs hm
  obtain ⟨⟨hl1, hl2⟩, ⟨hb1, hb2⟩, ⟨hr1, hr2⟩, hb3, hb4⟩ := hbs
  simp only at hl1 hl2 hb1 hb2 hr1 hr2 hb3 hb4 hm
  have Hm := Lib.hid hm
  have Hbox : Hid ((boxG c).cells = #[.int .i64 bl, .int .i64 bb, .int .i64 br, .int .i64 bt]) := Lib.hid (by rw [hbox]; rfl)
  have Hcd := Lib.hid hcd
  have hne : ¬ a1_1 = a1_2 := by omega
  have hne0 : ¬ a2 = 0 := by omega
  have Hs := Lib.hid sizeMark
  clear hx hy hz hmn hm hcn hcd hbox
  have hmix : Try.prog.follows .mixedOrders = true := by kernel_rfl
  have Hw := Lib.hid (row_where w #[.int .i64 a0_0, .int .i64 a0_1, .int .i64 a0_2, .int .i64 a0_3] #[.int .i64 a1_0, .int .i64 a1_1, .int .i64 a1_2] 48 55)
  go_enter Try.func9, Try.ntmps9
  go_wp2_with fail
  go_quiet (fail)
  go_wp2_with (first
    | (go_at_call 34; refine (Hm.out _).mono ?_; rintro e w1 ⟨B, rfl, hB, hk⟩; have Hk1 := Lib.hid ((((Kp.alloc _ _).trans (Kp.alloc _ _)).trans (Kp.drewN _ _)).trans hk); have Hr := Lib.hid ((Hw.out.1.kp (Kp.drewN _ _)).kp hk); have HB := Lib.hid hB; clear hk hB)
    | (go_at_call 19; refine (known_any _).mono ?_; rintro e w3 ⟨rfl, hk⟩; have Hk3 := Lib.hid (Hk1.out.trans hk); have rw3 := Hr.out.kp hk; have Hr3 := Lib.hid rw3; have HB3 := Lib.hid (HB.out.kp hk); have c0 : w3.cell? ⟨w.heap.size, 0, none⟩ = some (.int .i64 a0_0) := rw3.cell 0; have c1 : w3.cell? ⟨w.heap.size, 1, none⟩ = some (.int .i64 a0_1) := rw3.cell 1; have c2 : w3.cell? ⟨w.heap.size, 2, none⟩ = some (.int .i64 a0_2) := rw3.cell 2; have c3 : w3.cell? ⟨w.heap.size, 3, none⟩ = some (.int .i64 a0_3) := rw3.cell 3; clear hk rw3)
    | ((with_reducible refine wpList_store_new1 (o := ⟨none, _, _, _, _, _⟩) ?_ 43 (.tmp 13) (.tmp 119) ?_ _ _ 43 ?_ ?_ Hs.out ?_ ?_ ?_); rfl; rfl; exact eval_tmp rfl; exact eval_tmp rfl; rfl; rfl)
    | (go_at_call 35; refine (Flag_c (a2 + 2) c _ _ (by omega) (by omega) (by have := Hcd.out; simp; omega)).mono ?_; rintro e w' ⟨rfl, rfl⟩)
    | (go_at_call 32; refine (box_in c _ hc1 hc2).mono ?_; rw [Hbox.out]; rintro e w5 ⟨rfl, hk⟩; have Hk5 := Lib.hid ((Hk3.out.trans (Kp.alloc _ _)).trans hk); have Hr5 := Lib.hid ((Hr3.out.alloc _).kp hk); have HB5 := Lib.hid ((HB3.out.alloc _).kp hk); have Hn5 := Lib.hid ((HasRow.new w3 #[.int .i64 20, .int .i64 0, .int .i64 a0_2, .int .i64 a0_3, .int .i64 a0_3, .int .i64 0, .int .i64 a0_0, .int .i64 a0_1, .int .i64 a1_0, .int .i64 a1_2, .int .i64 (a1_0 + 8), .int .i64 a1_1] 43).kp hk); clear hk c0 c1 c2 c3))
  obtain ⟨W0, hW0⟩ : ∃ W0, w5.alloc (.cells #[.int .i64 bl, .int .i64 bb, .int .i64 br, .int .i64 bt] 41) = W0 := ⟨_, rfl⟩
  have rb : HasRow W0 w5.heap.size #[.int .i64 bl, .int .i64 bb, .int .i64 br, .int .i64 bt] 41 := by rw [← hW0]; exact HasRow.new _ _ _
  have rr : HasRow W0 w.heap.size #[.int .i64 a0_0, .int .i64 a0_1, .int .i64 a0_2, .int .i64 a0_3] 48 := by rw [← hW0]; exact Hr5.out.alloc _
  have HBw := Lib.hid (show HasRow W0 B (List.toArray _) 43 from by rw [← hW0]; exact HB5.out.alloc _)
  have Hnw := Lib.hid (show HasRow W0 w3.heap.size #[.int .i64 20, .int .i64 0, .int .i64 a0_2, .int .i64 a0_3, .int .i64 a0_3, .int .i64 0, .int .i64 a0_0, .int .i64 a0_1, .int .i64 a1_0, .int .i64 a1_2, .int .i64 (a1_0 + 8), .int .i64 a1_1] 43 from by rw [← hW0]; exact Hn5.out.alloc _)
  have HK := Lib.hid (show Kp w W0 from by rw [← hW0]; exact Hk5.out.trans (Kp.alloc _ _))
  rw [hW0]
  clear hW0
  have Hrb := Lib.hid rb
  have Hrr := Lib.hid rr
  have Hok : Hid (∀ W', Kp W0 W' → (W'.cell? ⟨w.heap.size, 0, none⟩ = some (.int .i64 a0_0) ∧ W'.cell? ⟨w.heap.size, 1, none⟩ = some (.int .i64 a0_1) ∧ W'.cell? ⟨w.heap.size, 2, none⟩ = some (.int .i64 a0_2) ∧ W'.cell? ⟨w.heap.size, 3, none⟩ = some (.int .i64 a0_3) ∧ W'.cell? ⟨w5.heap.size, 0, none⟩ = some (.int .i64 bl) ∧ W'.cell? ⟨w5.heap.size, 1, none⟩ = some (.int .i64 bb) ∧ W'.cell? ⟨w5.heap.size, 2, none⟩ = some (.int .i64 br) ∧ W'.cell? ⟨w5.heap.size, 3, none⟩ = some (.int .i64 bt))) := Lib.hid (fun W' hk => ⟨(rr.kp hk).cell 0, (rr.kp hk).cell 1, (rr.kp hk).cell 2, (rr.kp hk).cell 3, (rb.kp hk).cell 0, (rb.kp hk).cell 1, (rb.kp hk).cell 2, (rb.kp hk).cell 3⟩)
  have q0 : W0.cell? ⟨w.heap.size, 0, none⟩ = some (.int .i64 a0_0) := rr.cell 0
  have q1 : W0.cell? ⟨w.heap.size, 1, none⟩ = some (.int .i64 a0_1) := rr.cell 1
  have q2 : W0.cell? ⟨w.heap.size, 2, none⟩ = some (.int .i64 a0_2) := rr.cell 2
  have q3 : W0.cell? ⟨w.heap.size, 3, none⟩ = some (.int .i64 a0_3) := rr.cell 3
  have b0 : W0.cell? ⟨w5.heap.size, 0, none⟩ = some (.int .i64 bl) := rb.cell 0
  have b1 : W0.cell? ⟨w5.heap.size, 1, none⟩ = some (.int .i64 bb) := rb.cell 1
  have b2 : W0.cell? ⟨w5.heap.size, 2, none⟩ = some (.int .i64 br) := rb.cell 2
  have b3 : W0.cell? ⟨w5.heap.size, 3, none⟩ = some (.int .i64 bt) := rb.cell 3
  have lb := rb.lt
  have lr := rr.lt
  clear rb rr
  go_region_held3 (fun W' => W'.cell? ⟨w.heap.size, 0, none⟩ = some (.int .i64 a0_0) ∧ W'.cell? ⟨w.heap.size, 1, none⟩ = some (.int .i64 a0_1) ∧ W'.cell? ⟨w.heap.size, 2, none⟩ = some (.int .i64 a0_2) ∧ W'.cell? ⟨w.heap.size, 3, none⟩ = some (.int .i64 a0_3) ∧ W'.cell? ⟨w5.heap.size, 0, none⟩ = some (.int .i64 bl) ∧ W'.cell? ⟨w5.heap.size, 1, none⟩ = some (.int .i64 bb) ∧ W'.cell? ⟨w5.heap.size, 2, none⟩ = some (.int .i64 br) ∧ W'.cell? ⟨w5.heap.size, 3, none⟩ = some (.int .i64 bt))
    (((with_reducible refine Hok.out _ ?_); repeat' (first | (with_reducible exact Kp.refl _) | (with_reducible exact hk6) | (with_reducible refine Kp.set ?_ (Nat.le_refl _) _) | (with_reducible refine Kp.set ?_ hle6 _) | (with_reducible refine Kp.setRow ?_ (Nat.le_refl _) _) | (with_reducible refine Kp.setRow ?_ hle6 _) | (with_reducible refine Kp.trans ?_ (Kp.alloc _ _)) | (with_reducible refine Kp.drewR ?_))))
    ((go_at_call 33; refine (moved_any bl bb br bt a1_0 a1_2 _ (by omega) (by omega) (by omega) (by omega) (by omega) (by omega)).mono ?_; rintro e w6 ⟨rfl, hk⟩; have hk6 : Kp W0 w6 := Kp.trans (by repeat' (first | (with_reducible exact Kp.refl _) | (with_reducible refine Kp.drewR ?_) | (with_reducible refine Kp.trans ?_ (Kp.alloc _ _)))) hk; have hle6 := hk6.size; (first | (have hz6 : HasRow w6 W0.heap.size #[.int .i64 0, .int .i64 0, .int .i64 0, .int .i64 0, .int .i64 0, .int .i64 0, .int .i64 0, .int .i64 0, .int .i64 0, .int .i64 0, .int .i64 0, .int .i64 0] 43 := (show HasRow ((W0.alloc (.cells #[.int .i64 0, .int .i64 0, .int .i64 0, .int .i64 0, .int .i64 0, .int .i64 0, .int .i64 0, .int .i64 0, .int .i64 0, .int .i64 0, .int .i64 0, .int .i64 0] 43)).drew) W0.heap.size #[.int .i64 0, .int .i64 0, .int .i64 0, .int .i64 0, .int .i64 0, .int .i64 0, .int .i64 0, .int .i64 0, .int .i64 0, .int .i64 0, .int .i64 0, .int .i64 0] 43 from HasRow.new W0 #[.int .i64 0, .int .i64 0, .int .i64 0, .int .i64 0, .int .i64 0, .int .i64 0, .int .i64 0, .int .i64 0, .int .i64 0, .int .i64 0, .int .i64 0, .int .i64 0] 43).kp hk; have hl6 := hz6.lt; have zc0 : w6.cell? ⟨W0.heap.size, 0, none⟩ = some (.int .i64 0) := hz6.cell 0; have zf0 := hz6.frozen 0; have zc1 : w6.cell? ⟨W0.heap.size, 1, none⟩ = some (.int .i64 0) := hz6.cell 1; have zf1 := hz6.frozen 1; have zc2 : w6.cell? ⟨W0.heap.size, 2, none⟩ = some (.int .i64 0) := hz6.cell 2; have zf2 := hz6.frozen 2; have zc3 : w6.cell? ⟨W0.heap.size, 3, none⟩ = some (.int .i64 0) := hz6.cell 3; have zf3 := hz6.frozen 3; have zc4 : w6.cell? ⟨W0.heap.size, 4, none⟩ = some (.int .i64 0) := hz6.cell 4; have zf4 := hz6.frozen 4; have zc5 : w6.cell? ⟨W0.heap.size, 5, none⟩ = some (.int .i64 0) := hz6.cell 5; have zf5 := hz6.frozen 5; have zc6 : w6.cell? ⟨W0.heap.size, 6, none⟩ = some (.int .i64 0) := hz6.cell 6; have zf6 := hz6.frozen 6; have zc7 : w6.cell? ⟨W0.heap.size, 7, none⟩ = some (.int .i64 0) := hz6.cell 7; have zf7 := hz6.frozen 7; have zc8 : w6.cell? ⟨W0.heap.size, 8, none⟩ = some (.int .i64 0) := hz6.cell 8; have zf8 := hz6.frozen 8; have zc9 : w6.cell? ⟨W0.heap.size, 9, none⟩ = some (.int .i64 0) := hz6.cell 9; have zf9 := hz6.frozen 9; have zc10 : w6.cell? ⟨W0.heap.size, 10, none⟩ = some (.int .i64 0) := hz6.cell 10; have zf10 := hz6.frozen 10; have zc11 : w6.cell? ⟨W0.heap.size, 11, none⟩ = some (.int .i64 0) := hz6.cell 11; have zf11 := hz6.frozen 11; have Hz6 := Lib.hid hz6; clear hz6) | (have Hz6 := True.intro)); clear hk))
  · obtain ⟨W9, hW9⟩ : ∃ W9, w6.alloc (.cells #[.int .i64 21, .int .i64 0, .int .i64 a0_2, .int .i64 a0_3, .int .i64 a0_3, .int .i64 ↑c, .int .i64 a0_0, .int .i64 a0_1, .int .i64 (bl + a1_0), .int .i64 (bb + a1_2), .int .i64 (br + a1_0), .int .i64 (bt + a1_2)] 43) = W9 := ⟨_, rfl⟩
    have rf : HasRow W9 w6.heap.size #[.int .i64 21, .int .i64 0, .int .i64 a0_2, .int .i64 a0_3, .int .i64 a0_3, .int .i64 ↑c, .int .i64 a0_0, .int .i64 a0_1, .int .i64 (bl + a1_0), .int .i64 (bb + a1_2), .int .i64 (br + a1_0), .int .i64 (bt + a1_2)] 43 := by rw [← hW9]; exact HasRow.new _ _ _
    have hk9 : Kp W0 W9 := by rw [← hW9]; exact hk6.trans (Kp.alloc _ _)
    have rm : HasRow W9 B #[.int .i64 20, .int .i64 0, .int .i64 a0_2, .int .i64 a0_3, .int .i64 a0_3, .int .i64 0, .int .i64 a0_0, .int .i64 a0_1, .int .i64 a1_0, .int .i64 a1_2, .int .i64 (a1_0 + 8), .int .i64 a1_1, .int .i64 21, .int .i64 0, .int .i64 a0_2, .int .i64 a0_3, .int .i64 a0_3, .int .i64 ↑c, .int .i64 a0_0, .int .i64 a0_1, .int .i64 (bl + a1_0), .int .i64 (bb + a1_2), .int .i64 (br + a1_0), .int .i64 (bt + a1_2)] 43 := HBw.out.kp hk9
    have rn : HasRow W9 w3.heap.size #[.int .i64 20, .int .i64 0, .int .i64 a0_2, .int .i64 a0_3, .int .i64 a0_3, .int .i64 0, .int .i64 a0_0, .int .i64 a0_1, .int .i64 a1_0, .int .i64 a1_2, .int .i64 (a1_0 + 8), .int .i64 a1_1] 43 := Hnw.out.kp hk9
    have HK9 := Lib.hid (HK.out.trans hk9)
    rw [hW9]
    clear hW9 hk9 hk6 hle6 q0 q1 q2 q3 b0 b1 b2 b3
    go_wp2_with fail
    have m0 := cell_rg (rm.cell 0)
    have m1 := cell_rg (rm.cell 1)
    have m2 := cell_rg (rm.cell 2)
    have m3 := cell_rg (rm.cell 3)
    have m4 := cell_rg (rm.cell 4)
    have m5 := cell_rg (rm.cell 5)
    have m6 := cell_rg (rm.cell 6)
    have m7 := cell_rg (rm.cell 7)
    have m8 := cell_rg (rm.cell 8)
    have m9 := cell_rg (rm.cell 9)
    have m10 := cell_rg (rm.cell 10)
    have m11 := cell_rg (rm.cell 11)
    have m12 := cell_rg (rm.cell 12)
    have m13 := cell_rg (rm.cell 13)
    have m14 := cell_rg (rm.cell 14)
    have m15 := cell_rg (rm.cell 15)
    have m16 := cell_rg (rm.cell 16)
    have m17 := cell_rg (rm.cell 17)
    have m18 := cell_rg (rm.cell 18)
    have m19 := cell_rg (rm.cell 19)
    have m20 := cell_rg (rm.cell 20)
    have m21 := cell_rg (rm.cell 21)
    have m22 := cell_rg (rm.cell 22)
    have m23 := cell_rg (rm.cell 23)
    have n0 := cell_rg (rn.cell 0)
    have f0 := cell_rg (rf.cell 0)
    have n1 := cell_rg (rn.cell 1)
    have f1 := cell_rg (rf.cell 1)
    have n2 := cell_rg (rn.cell 2)
    have f2 := cell_rg (rf.cell 2)
    have n3 := cell_rg (rn.cell 3)
    have f3 := cell_rg (rf.cell 3)
    have n4 := cell_rg (rn.cell 4)
    have f4 := cell_rg (rf.cell 4)
    have n5 := cell_rg (rn.cell 5)
    have f5 := cell_rg (rf.cell 5)
    have n6 := cell_rg (rn.cell 6)
    have f6 := cell_rg (rf.cell 6)
    have n7 := cell_rg (rn.cell 7)
    have f7 := cell_rg (rf.cell 7)
    have n8 := cell_rg (rn.cell 8)
    have f8 := cell_rg (rf.cell 8)
    have n9 := cell_rg (rn.cell 9)
    have f9 := cell_rg (rf.cell 9)
    have n10 := cell_rg (rn.cell 10)
    have f10 := cell_rg (rf.cell 10)
    have n11 := cell_rg (rn.cell 11)
    have f11 := cell_rg (rf.cell 11)
    have gm := guard_mark
    clear rm rn rf
    refine wp_region_quiet_below (by kernel_rfl) (by kernel_rfl) ?_
    repeat (go_big_quiet_step (fail))
    refine wpQuiet_nil ?_
    intro _ hw'
    obtain ⟨⟨dq, osq⟩, hw''⟩ := hw'
    subst hw''
    go_wp2
    go_ret
    exact ⟨ret_bool (by simp), HK9.out.trans (kp_rg _ _ _)⟩
  · obtain ⟨W9, hW9⟩ : ∃ W9, ((((((((((((w6.setCell ⟨W0.heap.size, 0, none⟩ (.int .i64 21)).setCell ⟨W0.heap.size, 1, none⟩ (.int .i64 0)).setCell ⟨W0.heap.size, 2, none⟩ (.int .i64 a0_2)).setCell ⟨W0.heap.size, 3, none⟩ (.int .i64 a0_3)).setCell ⟨W0.heap.size, 4, none⟩ (.int .i64 a0_3)).setCell ⟨W0.heap.size, 5, none⟩ (.int .i64 ↑c)).setCell ⟨W0.heap.size, 6, none⟩ (.int .i64 a0_0)).setCell ⟨W0.heap.size, 7, none⟩ (.int .i64 a0_1)).setCell ⟨W0.heap.size, 8, none⟩ (.int .i64 (bl + a1_0))).setCell ⟨W0.heap.size, 9, none⟩ (.int .i64 (bb + a1_2))).setCell ⟨W0.heap.size, 10, none⟩ (.int .i64 (br + a1_0))).setCell ⟨W0.heap.size, 11, none⟩ (.int .i64 (bt + a1_2))) = W9 := ⟨_, rfl⟩
    have rf : HasRow W9 W0.heap.size #[.int .i64 21, .int .i64 0, .int .i64 a0_2, .int .i64 a0_3, .int .i64 a0_3, .int .i64 ↑c, .int .i64 a0_0, .int .i64 a0_1, .int .i64 (bl + a1_0), .int .i64 (bb + a1_2), .int .i64 (br + a1_0), .int .i64 (bt + a1_2)] 43 := by rw [← hW9]; exact mark_laid Hz6.out _ _ _ _ _ _ _ _ _ _ _ _
    have hk9 : Kp W0 W9 := by rw [← hW9]; exact (Kp.set (Kp.set (Kp.set (Kp.set (Kp.set (Kp.set (Kp.set (Kp.set (Kp.set (Kp.set (Kp.set (Kp.set hk6 (Nat.le_refl _) _) (Nat.le_refl _) _) (Nat.le_refl _) _) (Nat.le_refl _) _) (Nat.le_refl _) _) (Nat.le_refl _) _) (Nat.le_refl _) _) (Nat.le_refl _) _) (Nat.le_refl _) _) (Nat.le_refl _) _) (Nat.le_refl _) _) (Nat.le_refl _) _)
    have rm : HasRow W9 B #[.int .i64 20, .int .i64 0, .int .i64 a0_2, .int .i64 a0_3, .int .i64 a0_3, .int .i64 0, .int .i64 a0_0, .int .i64 a0_1, .int .i64 a1_0, .int .i64 a1_2, .int .i64 (a1_0 + 8), .int .i64 a1_1, .int .i64 21, .int .i64 0, .int .i64 a0_2, .int .i64 a0_3, .int .i64 a0_3, .int .i64 ↑c, .int .i64 a0_0, .int .i64 a0_1, .int .i64 (bl + a1_0), .int .i64 (bb + a1_2), .int .i64 (br + a1_0), .int .i64 (bt + a1_2)] 43 := HBw.out.kp hk9
    have rn : HasRow W9 w3.heap.size #[.int .i64 20, .int .i64 0, .int .i64 a0_2, .int .i64 a0_3, .int .i64 a0_3, .int .i64 0, .int .i64 a0_0, .int .i64 a0_1, .int .i64 a1_0, .int .i64 a1_2, .int .i64 (a1_0 + 8), .int .i64 a1_1] 43 := Hnw.out.kp hk9
    have HK9 := Lib.hid (HK.out.trans hk9)
    rw [hW9]
    clear hW9 hk9 hk6 hle6 q0 q1 q2 q3 b0 b1 b2 b3
    go_wp2_with fail
    have m0 := cell_rg (rm.cell 0)
    have m1 := cell_rg (rm.cell 1)
    have m2 := cell_rg (rm.cell 2)
    have m3 := cell_rg (rm.cell 3)
    have m4 := cell_rg (rm.cell 4)
    have m5 := cell_rg (rm.cell 5)
    have m6 := cell_rg (rm.cell 6)
    have m7 := cell_rg (rm.cell 7)
    have m8 := cell_rg (rm.cell 8)
    have m9 := cell_rg (rm.cell 9)
    have m10 := cell_rg (rm.cell 10)
    have m11 := cell_rg (rm.cell 11)
    have m12 := cell_rg (rm.cell 12)
    have m13 := cell_rg (rm.cell 13)
    have m14 := cell_rg (rm.cell 14)
    have m15 := cell_rg (rm.cell 15)
    have m16 := cell_rg (rm.cell 16)
    have m17 := cell_rg (rm.cell 17)
    have m18 := cell_rg (rm.cell 18)
    have m19 := cell_rg (rm.cell 19)
    have m20 := cell_rg (rm.cell 20)
    have m21 := cell_rg (rm.cell 21)
    have m22 := cell_rg (rm.cell 22)
    have m23 := cell_rg (rm.cell 23)
    have n0 := cell_rg (rn.cell 0)
    have f0 := cell_rg (rf.cell 0)
    have n1 := cell_rg (rn.cell 1)
    have f1 := cell_rg (rf.cell 1)
    have n2 := cell_rg (rn.cell 2)
    have f2 := cell_rg (rf.cell 2)
    have n3 := cell_rg (rn.cell 3)
    have f3 := cell_rg (rf.cell 3)
    have n4 := cell_rg (rn.cell 4)
    have f4 := cell_rg (rf.cell 4)
    have n5 := cell_rg (rn.cell 5)
    have f5 := cell_rg (rf.cell 5)
    have n6 := cell_rg (rn.cell 6)
    have f6 := cell_rg (rf.cell 6)
    have n7 := cell_rg (rn.cell 7)
    have f7 := cell_rg (rf.cell 7)
    have n8 := cell_rg (rn.cell 8)
    have f8 := cell_rg (rf.cell 8)
    have n9 := cell_rg (rn.cell 9)
    have f9 := cell_rg (rf.cell 9)
    have n10 := cell_rg (rn.cell 10)
    have f10 := cell_rg (rf.cell 10)
    have n11 := cell_rg (rn.cell 11)
    have f11 := cell_rg (rf.cell 11)
    have gm := guard_mark
    clear rm rn rf
    refine wp_region_quiet_below (by kernel_rfl) (by kernel_rfl) ?_
    repeat (go_big_quiet_step (fail))
    refine wpQuiet_nil ?_
    intro _ hw'
    obtain ⟨⟨dq, osq⟩, hw''⟩ := hw'
    subst hw''
    go_wp2
    go_ret
    exact ⟨ret_bool (by simp), HK9.out.trans (kp_rg _ _ _)⟩

theorem walk_StemMarks (a0_0 a0_1 a0_2 a0_3 : Int) (a1_0 a1_1 a1_2 : Int) (a2 : Int) (w : World) (_w0_0 : (Lit.int .i64 a0_0).wf = true) (_w0_1 : (Lit.int .i64 a0_1).wf = true) (_w0_2 : (Lit.int .i64 a0_2).wf = true) (_w0_3 : (Lit.int .i64 a0_3).wf = true) (_w1_0 : (Lit.int .i64 a1_0).wf = true) (_w1_1 : (Lit.int .i64 a1_1).wf = true) (_w1_2 : (Lit.int .i64 a1_2).wf = true) (_w2 : (Lit.int .i64 a2).wf = true) :
    Calls Try.prog 9 #[.agg #[.int .i64 a0_0, .int .i64 a0_1, .int .i64 a0_2, .int .i64 a0_3], .agg #[.int .i64 a1_0, .int .i64 a1_1, .int .i64 a1_2], .int .i64 a2] w fun e w' => e = .returned (.bool true) ∧ Kp w w' := by
  by_cases hb : wrongB a1_0 = true ∨ wrongB a1_1 = true ∨ wrongB a1_2 = true
  · exact walk_sm_big a0_0 a0_1 a0_2 a0_3 a1_0 a1_1 a1_2 a2 w hb
  have hx : wrongB a1_0 = false := by cases h : wrongB a1_0 <;> simp_all
  have hy : wrongB a1_1 = false := by cases h : wrongB a1_1 <;> simp_all
  have hz : wrongB a1_2 = false := by cases h : wrongB a1_2 <;> simp_all
  by_cases hs : a0_2 < 0 ∨ a0_3 < 0 ∨ a2 < 0 ∨ 6 < a2
  · exact walk_sm_small a0_0 a0_1 a0_2 a0_3 a1_0 a1_1 a1_2 a2 w hx hy hz hs
  have hm : MarkOk a0_2 a0_3 a1_0 a1_1 a1_2 a2 := ⟨by omega, by omega, by omega, by omega, hx, hy, hz⟩
  rcases Int.lt_trichotomy a1_1 a1_2 with hlt | heq | hlt
  · by_cases h0 : a2 = 0
    · subst h0; exact walk_sm_one_up a0_0 a0_1 a0_2 a0_3 a1_0 a1_1 a1_2 w hm hlt
    · exact walk_sm_two_up a0_0 a0_1 a0_2 a0_3 a1_0 a1_1 a1_2 a2 w hm (by omega) hlt
  · subst heq; exact walk_sm_same a0_0 a0_1 a0_2 a0_3 a1_0 a1_1 a2 w hm
  · by_cases h0 : a2 = 0
    · subst h0; exact walk_sm_one_down a0_0 a0_1 a0_2 a0_3 a1_0 a1_1 a1_2 w hm hlt
    · exact walk_sm_two_down a0_0 a0_1 a0_2 a0_3 a1_0 a1_1 a1_2 a2 w hm (by omega) hlt

end Go.Proofs.Ytdndehlhodigoaa
