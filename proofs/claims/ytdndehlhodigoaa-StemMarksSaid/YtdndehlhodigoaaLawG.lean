/- The law of rests beside another voice: the walk. -/
import Derived.Test.YtdndehlhodigoaaLawF
namespace Go.Proofs.Ytdndehlhodigoaa
open Go Go.RowKit Go.Shelf

/-- What stem.Rest gives for the second voice of two: an error, or a place beyond what is occupied. -/
theorem clear_cases (lg dots vo : Int) (l : List Int) : (∃ E, E ≠ 0 ∧ restPut lg dots vo 2 l = .tuple #[.int .i64 0, .int .i64 E]) ∨
    (∃ P, restPut lg dots vo 2 l = .tuple #[.int .i64 P, .int .i64 0] ∧ valG lg dots = 0 ∧ (-1000 ≤ P ∧ P ≤ 1000) ∧ (l ≠ [] → (-200 ≤ mostG l ∧ mostG l ≤ 200) ∧ (-200 ≤ leastG l ∧ leastG l ≤ 200) ∧
      ((vo = 0 ∧ 32 * mostG l + 32 ≤ (boxG (lg + 6).toNat).b + 32 * P) ∨ (vo = 1 ∧ (boxG (lg + 6).toNat).t + 32 * P ≤ 32 * leastG l - 32)))) := by
  by_cases he : restErr lg dots vo 2 l = 0
  · right
    have hv : valG lg dots = 0 := by
      unfold restErr at he; split at he
      · assumption
      · exact he
    have hin : ¬ ((2 : Int) < 1 ∨ (2 : Int) < 2 ∨ vo < 0 ∨ (2 : Int) ≤ vo ∨ okL l = false) := by
      intro hx
      unfold restErr at he
      rw [if_pos hv, if_pos hx] at he
      omega
    have hvo : vo = 0 ∨ vo = 1 := by omega
    have hok : okL l = true := by
      cases h : okL l with
      | true => rfl
      | false => exact absurd (Or.inr (Or.inr (Or.inr (Or.inr h)))) hin
    have hlg : -1 ≤ lg ∧ lg ≤ 8 := by unfold valG at hv; split at hv <;> omega
    have hb := box_rest lg hlg.1 hlg.2
    have h0 := base_le lg
    have hn : rounds (lackG lg vo l) ≤ 313 := by have := lack_le lg vo l hlg.1 hlg.2 hok; unfold rounds; omega
    refine ⟨placeG lg vo 2 l, by unfold restPut; rw [he, if_pos rfl], hv, ?_, fun hl => ?_⟩
    · rcases hvo with rfl | rfl
      · rw [placeG_up]; omega
      · rw [placeG_down]; omega
    · have hx := ok_bound l hl hok
      have c1 := clamp_le (mx l)
      have c2 := clamp_le (mn l)
      have hmo : mostG l = mx l := by unfold mostG; rw [if_neg hl]; exact hx.1
      have hle : leastG l = mn l := by unfold leastG; rw [if_neg hl]; exact hx.2
      rw [hmo, hle]
      refine ⟨by omega, by omega, ?_⟩
      have hr := (rounds_lt (lackG lg vo l) (rounds (lackG lg vo l))).2
      rcases hvo with rfl | rfl
      · left
        refine ⟨rfl, ?_⟩
        rw [placeG_up]
        have e : lackG lg 0 l = 32 * mx l + 32 - (boxG (lg + 6).toNat).b - 32 * (baseG lg + 4) := by unfold lackG; rw [if_neg hl]; simp
        have : ¬ 64 * (rounds (lackG lg 0 l) : Int) < lackG lg 0 l := fun h => Nat.lt_irrefl _ (hr h)
        omega
      · right
        refine ⟨rfl, ?_⟩
        rw [placeG_down]
        have e : lackG lg 1 l = 32 * (- mn l) + 32 - (- (boxG (lg + 6).toNat).t) - 32 * (4 - baseG lg) := by unfold lackG; rw [if_neg hl]; simp
        have : ¬ 64 * (rounds (lackG lg 1 l) : Int) < lackG lg 1 l := fun h => Nat.lt_irrefl _ (hr h)
        omega
  · left
    exact ⟨restErr lg dots vo 2 l, he, by unfold restPut; rw [if_neg he]⟩

set_option maxRecDepth 100000 in
set_option maxHeartbeats 2000000 in
theorem walk_clear_err (a0_0 a0_1 : Int) (a1 : Int) (a2 : Option Addr) (len2 cap2 : Nat) (l : List Int) (w : World) (hc : (len2 ≤ 12 ∧ l.length = len2) ∨ (12 < len2 ∧ l.length = 12)) (hI : IsInts w a2 l) (hcap : len2 ≤ cap2) (hm : cap2 ≤ 9223372036854775807) (E : Int) (hE : E ≠ 0) (hr : restPut a0_0 a0_1 a1 2 l = .tuple #[.int .i64 0, .int .i64 E]) :
    Calls Try.prog 7 #[.agg #[.int .i64 a0_0, .int .i64 a0_1], .int .i64 a1, .slice a2 len2 cap2] w fun e w' => e = .returned (.bool true) ∧ Kp w w' := by
  rcases hc with ⟨h12, hl⟩ | ⟨h12, hl⟩ <;>
  (have hrest := fun (W : World) (hk : IsInts W a2 l) => Rest_all a2 l cap2 a0_0 a0_1 a1 2 W hk (by omega)
   rw [hl, hr] at hrest
   have Hrest := Lib.hid hrest
   have H := Lib.hid hI
   have Hr := Lib.hid hr
   have Hl := Lib.hid hl
   clear hI hrest hr hl
   go_enter Try.func7, Try.ntmps7
   go_wp2_with (first
     | (go_at_call 22; refine (Hrest.out _ (H.out.kp (Kp.alloc _ _))).mono ?_; rintro e w1 ⟨rfl, hk⟩; have Hk1 := Lib.hid ((Kp.alloc _ _).trans hk); clear hk)
     | (go_at_call 19; refine (known_any _).mono ?_; rintro e w3 ⟨rfl, hk⟩; have Hk3 := Lib.hid (Hk1.out.trans hk); clear hk))
   go_ret
   exact ⟨ret_bool rfl, Hk3.out⟩)

set_option maxRecDepth 100000 in
set_option maxHeartbeats 2000000 in
theorem walk_clear_nil (a0_0 a0_1 : Int) (a1 : Int) (a2 : Option Addr) (cap2 : Nat) (w : World) (P : Int) (hr : restPut a0_0 a0_1 a1 2 [] = .tuple #[.int .i64 P, .int .i64 0]) :
    Calls Try.prog 7 #[.agg #[.int .i64 a0_0, .int .i64 a0_1], .int .i64 a1, .slice a2 0 cap2] w fun e w' => e = .returned (.bool true) ∧ Kp w w' := by
  have hrest := fun (W : World) => Rest_all a2 [] cap2 a0_0 a0_1 a1 2 W (Or.inl rfl) (by simp)
  rw [show ([] : List Int).length = 0 from rfl, hr] at hrest
  have Hrest := Lib.hid hrest
  have Hr := Lib.hid hr
  clear hrest hr
  go_enter Try.func7, Try.ntmps7
  go_wp2_with (first
     | (go_at_call 22; refine (Hrest.out _).mono ?_; rintro e w1 ⟨rfl, hk⟩; have Hk1 := Lib.hid ((Kp.alloc _ _).trans hk); clear hk)
     | (go_at_call 19; refine (known_any _).mono ?_; rintro e w3 ⟨rfl, hk⟩; have Hk3 := Lib.hid (Hk1.out.trans hk); clear hk))
  go_ret
  exact ⟨ret_bool rfl, Hk3.out⟩

set_option maxRecDepth 100000 in
set_option maxHeartbeats 4000000 in
theorem walk_clear_ok (a0_0 a0_1 : Int) (a1 : Int) (a2 : Option Addr) (len2 cap2 : Nat) (l : List Int) (w : World) (hc : (len2 ≤ 12 ∧ l.length = len2) ∨ (12 < len2 ∧ l.length = 12)) (hI : IsInts w a2 l) (hcap : len2 ≤ cap2) (hm : cap2 ≤ 9223372036854775807) (hne : l ≠ []) (P : Int) (hr : restPut a0_0 a0_1 a1 2 l = .tuple #[.int .i64 P, .int .i64 0])
    (hv : valG a0_0 a0_1 = 0) (hP : -1000 ≤ P ∧ P ≤ 1000) (h1 : -200 ≤ mostG l ∧ mostG l ≤ 200) (h2 : -200 ≤ leastG l ∧ leastG l ≤ 200)
    (h3 : (a1 = 0 ∧ 32 * mostG l + 32 ≤ (boxG (a0_0 + 6).toNat).b + 32 * P) ∨ (a1 = 1 ∧ (boxG (a0_0 + 6).toNat).t + 32 * P ≤ 32 * leastG l - 32)) :
    Calls Try.prog 7 #[.agg #[.int .i64 a0_0, .int .i64 a0_1], .int .i64 a1, .slice a2 len2 cap2] w fun e w' => e = .returned (.bool true) ∧ Kp w w' := by
  have hlg : -1 ≤ a0_0 ∧ a0_0 ≤ 8 := by unfold valG at hv; split at hv <;> omega
  obtain ⟨c, hcd⟩ : ∃ c, (a0_0 + 6).toNat = c := ⟨_, rfl⟩
  have hc1 : 1 ≤ c := by omega
  have hc2 : c ≤ 68 := by omega
  have hlc : a0_0 + 6 = c := by omega
  obtain ⟨bl, bb, br, bt, hbox⟩ : ∃ bl bb br bt, boxG c = ⟨bl, bb, br, bt⟩ := ⟨_, _, _, _, rfl⟩
  have hbs := box_small_all c hc1 hc2
  rw [hbox] at hbs
  obtain ⟨⟨hl1, hl2⟩, ⟨hb1, hb2⟩, ⟨hr1, hr2⟩, hb3, hb4⟩ := hbs
  simp only at hl1 hl2 hb1 hb2 hr1 hr2 hb3 hb4
  rw [hcd, hbox] at h3
  simp only at h3
  have hrv : ∀ p, -200 ≤ p → p ≤ 200 → rmVal 0 0 0 0 a0_0 a0_1 p = .tuple #[.agg #[.int .i64 22, .int .i64 0, .int .i64 0, .int .i64 0, .int .i64 0, .int .i64 c, .int .i64 0, .int .i64 0, .int .i64 bl, .int .i64 (bb + 32 * p), .int .i64 br, .int .i64 (bt + 32 * p)], .int .i64 0] := by
    intro p p1 p2
    have he : rmErr 0 0 a0_0 a0_1 p = 0 := by unfold rmErr; rw [if_neg (by omega), hv]
    unfold rmVal; rw [he, if_pos rfl]; unfold rmCells; rw [hcd, hbox, hlc]; rfl
  have Hrv := Lib.hid hrv
  have Hs := Lib.hid sizeMark
  have hrest := fun (W : World) (hk : IsInts W a2 l) (hm : l.length ≤ 1000) => Rest_all a2 l cap2 a0_0 a0_1 a1 2 W hk hm
  rw [hr] at hrest
  have hmo := fun (W : World) (hk : IsInts W a2 l) (hm : l.length ≤ 1000) => most_any a2 l cap2 W hk hm
  have hle := fun (W : World) (hk : IsInts W a2 l) (hm : l.length ≤ 1000) => least_any a2 l cap2 W hk hm
  generalize mostG l = M at h1 h3 hmo
  generalize leastG l = m at h2 h3 hle
  obtain ⟨P1, P2⟩ := hP
  obtain ⟨M1, M2⟩ := h1
  obtain ⟨m1, m2⟩ := h2
  have hpos := List.length_pos_iff.2 hne
  clear hrv hbox hcd hlc hv hne hr
  rcases hc with ⟨h12, hl⟩ | ⟨h12, hl⟩ <;> rcases h3 with ⟨rfl, h3⟩ | ⟨rfl, h3⟩ <;> by_cases hp1 : P < -200 <;> by_cases hp2 : 200 < P <;>
  (first
   | (exfalso; omega)
   | (rw [hl] at hpos
      have hposI : ¬ ((len2 : Int) = 0) := by omega
      rw [hl] at hrest hmo hle
      have Hmo := Lib.hid hmo
      have Hle := Lib.hid hle
      have Hrest := Lib.hid hrest
      have H := Lib.hid hI
      have Hl := Lib.hid hl
      have Hv0 := Lib.hid (HasRow.new w #[.int .i64 a0_0, .int .i64 a0_1] 28)
      have H3 := Lib.hid h3
      clear hI hrest hl hmo hle h3
      go_enter Try.func7, Try.ntmps7
      go_wp2_with (first
        | (go_at_call 22; refine (Hrest.out _ (H.out.kp (Kp.alloc _ _)) (by have := Hl.out; omega)).mono ?_; rintro e w1 ⟨rfl, hk⟩; have Hk1 := Lib.hid ((Kp.alloc _ _).trans hk); have Hv1 := Lib.hid (Hv0.out.kp hk); clear hk)
        | (go_at_call 19; refine (known_any _).mono ?_; rintro e w3 ⟨rfl, hk⟩; have Hk3 := Lib.hid (Hk1.out.trans hk); have rv := Hv1.out.kp hk; have v0 : w3.cell? ⟨w.heap.size, 0, none⟩ = some (.int .i64 a0_0) := rv.cell 0; have v1 : w3.cell? ⟨w.heap.size, 1, none⟩ = some (.int .i64 a0_1) := rv.cell 1; clear hk rv)
        | (go_at_call 29; refine (RestMark_all _ _ _ _ _ _ _ _).mono ?_; rw [Hrv.out _ (by omega) (by omega)]; rintro e w4 ⟨rfl, hk⟩; have Hk4 := Lib.hid (Hk3.out.trans hk); clear hk v0 v1)
        | ((with_reducible refine wpList_store_new1 (o := ⟨none, _, _, _, _, _⟩) ?_ 43 (.tmp 9) (.tmp 39) ?_ _ _ 43 ?_ ?_ Hs.out ?_ ?_ ?_); rfl; rfl; exact eval_tmp rfl; exact eval_tmp rfl; rfl; rfl))
      first
        | (go_ret
           exact ⟨ret_bool (by simp [*]), Hk4.out.trans (Kp.alloc _ _)⟩)
        | (obtain ⟨W0, hW0⟩ : ∃ W0, w4.alloc (.cells #[.int .i64 22, .int .i64 0, .int .i64 0, .int .i64 0, .int .i64 0, .int .i64 c, .int .i64 0, .int .i64 0, .int .i64 bl, .int .i64 (bb + 32 * P), .int .i64 br, .int .i64 (bt + 32 * P)] 43) = W0 := ⟨_, rfl⟩
           have rm : HasRow W0 w4.heap.size #[.int .i64 22, .int .i64 0, .int .i64 0, .int .i64 0, .int .i64 0, .int .i64 c, .int .i64 0, .int .i64 0, .int .i64 bl, .int .i64 (bb + 32 * P), .int .i64 br, .int .i64 (bt + 32 * P)] 43 := by rw [← hW0]; exact HasRow.new _ _ _
           have HK := Lib.hid (show Kp w W0 from by rw [← hW0]; exact Hk4.out.trans (Kp.alloc _ _))
           rw [hW0]
           clear hW0
           have k9 := cell_rg (rm.cell 9)
           have k11 := cell_rg (rm.cell 11)
           have h3 := H3.out
           have hD := decide_eq_true h3
           clear rm h3
           refine wp_region_quiet_below (by kernel_rfl) (by kernel_rfl) ?_
           repeat (go_big_quiet_step (first
             | (go_at_call 27; exact rg_same (Hmo.out _ (H.out.kp (HK.out.trans (kp_rg _ _ _))) (by have := Hl.out; omega)))
             | (go_at_call 28; exact rg_same (Hle.out _ (H.out.kp (HK.out.trans (kp_rg _ _ _))) (by have := Hl.out; omega)))))
           refine wpQuiet_nil ?_
           intro _ hw'
           obtain ⟨⟨dq, osq⟩, hw''⟩ := hw'
           subst hw''
           go_wp2
           go_ret
           exact ⟨ret_bool (by simp), HK.out.trans (kp_rg _ _ _)⟩)))

theorem walk_StemClear (a0_0 a0_1 : Int) (a1 : Int) (a2 : Option Addr) (len2 cap2 : Nat) (z2 : List Int) (w : World) (_w0_0 : (Lit.int .i64 a0_0).wf = true) (_w0_1 : (Lit.int .i64 a0_1).wf = true) (_w1 : (Lit.int .i64 a1).wf = true) (w2 : IsRow .i64 w a2 len2 cap2 z2) :
    Calls Try.prog 7 #[.agg #[.int .i64 a0_0, .int .i64 a0_1], .int .i64 a1, .slice a2 len2 cap2] w fun e w' => e = .returned (.bool true) ∧ Kp w w' := by
  obtain ⟨l, hc, hI, hcap, hm⟩ : ∃ l : List Int, ((len2 ≤ 12 ∧ l.length = len2) ∨ (12 < len2 ∧ l.length = 12)) ∧ IsInts w a2 l ∧ len2 ≤ cap2 ∧ cap2 ≤ 9223372036854775807 := by
    rcases cut12 w2 with ⟨h12, l, hl, hI, hc, hm⟩ | ⟨h12, l, hl, hI, hc, hm⟩
    · exact ⟨l, Or.inl ⟨h12, hl⟩, hI, hc, hm⟩
    · exact ⟨l, Or.inr ⟨h12, hl⟩, hI, hc, hm⟩
  rcases clear_cases a0_0 a0_1 a1 l with ⟨E, hE, hr⟩ | ⟨P, hr, hv, hP, hrest⟩
  · exact walk_clear_err a0_0 a0_1 a1 a2 len2 cap2 l w hc hI hcap hm E hE hr
  · by_cases hne : l = []
    · subst hne
      have h0 : len2 = 0 := by rcases hc with ⟨_, h⟩ | ⟨_, h⟩ <;> simp at h; omega
      subst h0
      exact walk_clear_nil a0_0 a0_1 a1 a2 cap2 w P hr
    · obtain ⟨h1, h2, h3⟩ := hrest hne
      exact walk_clear_ok a0_0 a0_1 a1 a2 len2 cap2 l w hc hI hcap hm hne P hr hv hP h1 h2 h3
end Go.Proofs.Ytdndehlhodigoaa
