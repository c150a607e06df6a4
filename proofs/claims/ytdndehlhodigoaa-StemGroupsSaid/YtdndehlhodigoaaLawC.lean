/- The laws of rests and ends: the walks. -/
import Derived.Test.YtdndehlhodigoaaLawB
namespace Go.Proofs.Ytdndehlhodigoaa
open Go Go.RowKit Go.Shelf

set_option maxRecDepth 100000 in
set_option maxHeartbeats 1000000 in
theorem walk_StemRests (a0_0 a0_1 : Int) (a1_0 a1_1 : Int) (a2 : Option Addr) (len2 cap2 : Nat) (z2 : List Int) (w : World) (_w0_0 : (Lit.int .i64 a0_0).wf = true) (_w0_1 : (Lit.int .i64 a0_1).wf = true) (_w1_0 : (Lit.int .i64 a1_0).wf = true) (_w1_1 : (Lit.int .i64 a1_1).wf = true) (w2 : IsRow .i64 w a2 len2 cap2 z2) :
    Calls Try.prog 4 #[.agg #[.int .i64 a0_0, .int .i64 a0_1], .agg #[.int .i64 a1_0, .int .i64 a1_1], .slice a2 len2 cap2] w fun e w' => e = .returned (.bool true) ∧ Kp w w' := by
  have hc := cut12 w2
  clear w2 _w0_0 _w0_1 _w1_0 _w1_1
  rcases hc with ⟨h12, l, hl, hI, hc, hm⟩ | ⟨h12, l, hl, hI, hc, hm⟩ <;>
  (have hr := fun (W : World) (hk : IsInts W a2 l) => Rest_all a2 l cap2 a0_0 a0_1 a1_0 a1_1 W hk (by omega)
   have hr2 := fun (W : World) (hk : IsInts W a2 l) => rest_all a2 l cap2 a0_0 a0_1 a1_0 a1_1 W hk (by omega)
   rw [hl] at hr hr2
   obtain ⟨P, E, hpq⟩ : ∃ P E, restPut a0_0 a0_1 a1_0 a1_1 l = .tuple #[.int .i64 P, .int .i64 E] := ⟨_, _, rfl⟩
   have Hpq := Lib.hid hpq
   have Hr := Lib.hid hr
   have Hr2 := Lib.hid hr2
   have H := Lib.hid hI
   clear hI hr hr2 hl hpq
   go_enter Try.func4, Try.ntmps4
   go_wp2_with fail
   refine (Hr.out _ (H.out.kp ((Kp.alloc _ _).trans (Kp.alloc _ _)))).mono ?_
   rw [Hpq.out]
   rintro e w1 ⟨rfl, hk⟩
   have Hk1 : Hid (Kp w w1) := Lib.hid (((Kp.alloc _ _).trans (Kp.alloc _ _)).trans hk)
   have r0 := (((HasRow.new w #[.int .i64 a0_0, .int .i64 a0_1] 28).alloc _)).kp hk
   have r1 := (HasRow.new (w.alloc (.cells #[.int .i64 a0_0, .int .i64 a0_1] 28)) #[.int .i64 a1_0, .int .i64 a1_1] 23).kp hk
   rw [World.size_alloc] at r1
   have c0 := r0.cell 0
   have c1 := r0.cell 1
   have c2 := r1.cell 0
   have c3 := r1.cell 1
   have l0 := r0.lt
   have l1 := r1.lt
   simp only [List.getElem?_toArray, List.getElem?_cons_zero, List.getElem?_cons_succ] at c0 c1 c2 c3
   clear hk r0 r1
   go_wp2_with fail
   refine (Hr2.out _ (H.out.kp Hk1.out)).mono ?_
   rw [Hpq.out]
   rintro e w2 ⟨rfl, hk⟩
   have Hk2 := Lib.hid (Hk1.out.trans hk)
   clear hk c0 c1 c2 c3 l0 l1
   go_wp2_with (go_at_call 19; refine (known_any _).mono ?_; rintro e w3 ⟨rfl, hk⟩; have Hk3 := Lib.hid (Hk2.out.trans hk); clear hk)
   go_ret
   exact ⟨ret_bool (by simp), Hk3.out⟩)

set_option maxRecDepth 100000 in
set_option maxHeartbeats 1000000 in
theorem walk_StemEnds (a0 : Option Addr) (len0 cap0 : Nat) (z0 : List Int) (a1 : Bool) (a2 : Int) (w : World) (w0 : IsRow .i64 w a0 len0 cap0 z0) (_w2 : (Lit.int .i64 a2).wf = true) :
    Calls Try.prog 5 #[.slice a0 len0 cap0, .bool a1, .int .i64 a2] w fun e w' => e = .returned (.bool true) ∧ Kp w w' := by
  have hc := cut12 w0
  clear w0 _w2
  rcases hc with ⟨h12, l, hl, hI, hc, hm⟩ | ⟨h12, l, hl, hI, hc, hm⟩ <;>
  (have h1 := fun (W : World) (fl : Int) (hk : IsInts W a0 l) => Ends_any a0 l cap0 a1 fl W hk (by omega)
   have h2 := fun (W : World) (fl : Int) (hk : IsInts W a0 l) => ends_any a0 l cap0 a1 fl W hk (by omega)
   have h3 := fun (W : World) (hk : IsInts W a0 l) => Head_any a0 l cap0 a1 W hk (by omega)
   have h4 := fun (W : World) (hk : IsInts W a0 l) => most_any a0 l cap0 W hk (by omega)
   have h5 := fun (W : World) (hk : IsInts W a0 l) => least_any a0 l cap0 W hk (by omega)
   rw [hl] at h1 h2 h3 h4 h5
   have H := Lib.hid hI
   obtain ⟨X, Y, Z, hE⟩ : ∃ X Y Z, endsG l a1 a2 = .tuple #[.int .i64 X, .int .i64 Y, .int .i64 Z] := by unfold endsG; split <;> exact ⟨_, _, _, rfl⟩
   have HE := Lib.hid hE
   clear hI hl hE
   by_cases hg : checkG l 0 = 0
   · have ⟨g1, g2, _, _⟩ := check_good l 0 hg
     have hb := ok_bound l g1 g2
     have hb1 : -200 ≤ mx l ∧ mx l ≤ 200 := by have := clamp_le (mx l); omega
     have hb2 : -200 ≤ mn l ∧ mn l ≤ 200 := by have := clamp_le (mn l); omega
     have hmo : mostG l = mx l := by unfold mostG; rw [if_neg g1]; exact hb.1
     have hle : leastG l = mn l := by unfold leastG; rw [if_neg g1]; exact hb.2
     have hh : headG l a1 = .tuple #[.int .i64 (if a1 then 32 * mx l else 32 * mn l), .int .i64 0] := by unfold headG; rw [if_pos hg]
     obtain ⟨X0, Y0, he0⟩ : ∃ X Y, endsG l a1 0 = .tuple #[.int .i64 X, .int .i64 Y, .int .i64 0] := by unfold endsG; rw [if_pos hg]; exact ⟨_, _, rfl⟩
     generalize mx l = M at hb1 hmo hh
     generalize mn l = m at hb2 hle hh
     rw [hmo] at h4
     rw [hle] at h5
     rw [hh] at h3
     obtain ⟨b1, b2⟩ := hb1
     obtain ⟨b3, b4⟩ := hb2
     have H1 := Lib.hid h1
     have H2 := Lib.hid h2
     have H3 := Lib.hid h3
     have H4 := Lib.hid h4
     have H5 := Lib.hid h5
     have HE0 := Lib.hid he0
     clear h1 h2 h3 h4 h5 hmo hle hh hb g1 g2 hg he0
     cases a1 <;>
     (go_enter Try.func5, Try.ntmps5
      go_wp2_with fail
      refine (H1.out _ _ H.out).mono ?_
      rw [HE.out]
      rintro e w1 ⟨rfl, rfl⟩
      go_wp2_with fail
      refine (H2.out _ _ H.out).mono ?_
      rw [HE.out]
      rintro e w1 ⟨rfl, rfl⟩
      go_wp2_with (go_at_call 19; refine (known_any _).mono ?_; rintro e w3 ⟨rfl, hk⟩; have Hk3 := Lib.hid hk; clear hk)
      refine (H3.out _ (H.out.kp Hk3.out)).mono ?_
      rintro e w1 ⟨rfl, rfl⟩
      go_wp2_with fail
      refine (H2.out _ _ (H.out.kp Hk3.out)).mono ?_
      rw [HE0.out]
      rintro e w1 ⟨rfl, rfl⟩
      go_wp2_with (first
        | (go_at_call 27; refine (H4.out _ (H.out.kp Hk3.out)).mono ?_; rintro e w1 ⟨rfl, rfl⟩)
        | (go_at_call 28; refine (H5.out _ (H.out.kp Hk3.out)).mono ?_; rintro e w1 ⟨rfl, rfl⟩))
      go_ret
      exact ⟨ret_bool (by simp), Hk3.out⟩)
   · have hh : headG l a1 = .tuple #[.int .i64 0, .int .i64 (checkG l 0)] := by unfold headG; rw [if_neg hg]
     have he0 : endsG l a1 0 = .tuple #[.int .i64 0, .int .i64 0, .int .i64 (checkG l 0)] := by unfold endsG; rw [if_neg hg]
     rw [hh] at h3
     generalize checkG l 0 = c at hg he0 h3
     have H1 := Lib.hid h1
     have H2 := Lib.hid h2
     have H3 := Lib.hid h3
     have HE0 := Lib.hid he0
     clear h1 h2 h3 h4 h5 hh he0
     go_enter Try.func5, Try.ntmps5
     go_wp2_with fail
     refine (H1.out _ _ H.out).mono ?_
     rw [HE.out]
     rintro e w1 ⟨rfl, rfl⟩
     go_wp2_with fail
     refine (H2.out _ _ H.out).mono ?_
     rw [HE.out]
     rintro e w1 ⟨rfl, rfl⟩
     go_wp2_with (go_at_call 19; refine (known_any _).mono ?_; rintro e w3 ⟨rfl, hk⟩; have Hk3 := Lib.hid hk; clear hk)
     refine (H3.out _ (H.out.kp Hk3.out)).mono ?_
     rintro e w1 ⟨rfl, rfl⟩
     go_wp2_with fail
     refine (H2.out _ _ (H.out.kp Hk3.out)).mono ?_
     rw [HE0.out]
     rintro e w1 ⟨rfl, rfl⟩
     go_wp2
     go_ret
     exact ⟨ret_bool (by simp), Hk3.out⟩)
end Go.Proofs.Ytdndehlhodigoaa
