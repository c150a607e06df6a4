/- stem.Rest with two voices and what the other voice occupies. -/
import Derived.RegionTactic
import Derived.Test.YtdndehlhodigoaaTwo
namespace Go.Proofs.Ytdndehlhodigoaa
open Go Go.RowKit Go.Shelf

/-- The position behind k rounds. -/
def PosAt (lg vo : Int) (k : Nat) (P : Int) : Prop := P = if vo = 0 then startG lg 0 + 2 * k else startG lg 1 - 2 * k
def LackOf (lg vo M m bb bt : Int) : Int := if vo = 0 then 32 * M + 32 - bb - 32 * (baseG lg + 4) else 32 * (-m) + 32 + bt - 32 * (4 - baseG lg)
theorem base_le (lg : Int) : 0 ≤ baseG lg ∧ baseG lg ≤ 2 := by unfold baseG; split <;> omega
theorem pos_bound {lg vo : Int} {k : Nat} {P : Int} (h : PosAt lg vo k P) (hk : k ≤ 400) : -1000 ≤ P ∧ P ≤ 1000 := by
  have := base_le lg
  unfold PosAt startG at h
  split at h <;> simp at h <;> omega
theorem pos_up {lg : Int} {k : Nat} {P P' : Int} (h : PosAt lg 0 k P) (e : P' = P + 2) : PosAt lg 0 (k + 1) P' := by
  unfold PosAt at *; simp at *; omega
theorem pos_down {lg : Int} {k : Nat} {P P' : Int} (h : PosAt lg 1 k P) (e : P' = P - 2) : PosAt lg 1 (k + 1) P' := by
  unfold PosAt at *; simp at *; omega
theorem test_up {lg M m bb bt : Int} {k : Nat} {P : Int} (h : PosAt lg 0 k P) : 32 * P + bb < 32 * M + 32 ↔ 64 * (k : Int) < LackOf lg 0 M m bb bt := by
  unfold PosAt startG at h; unfold LackOf; simp at *; omega
theorem test_down {lg M m bb bt : Int} {k : Nat} {P : Int} (h : PosAt lg 1 k P) : -(32 * P) - bt < -(32 * m) + 32 ↔ 64 * (k : Int) < LackOf lg 1 M m bb bt := by
  unfold PosAt startG at h; unfold LackOf; simp at *; omega
/-- A step of the walk back from the position to the round. -/
theorem pos_abs {lg vo : Int} {k : Nat} {P : Int} (h : PosAt lg vo k P) : (P - (if vo = 0 then startG lg 0 else startG lg 1)).natAbs = 2 * k := by
  unfold PosAt at h; split at h <;> simp_all <;> omega

theorem pos_fun {lg vo : Int} {k n : Nat} {P R : Int} (h : PosAt lg vo k P) (h' : PosAt lg vo n R) (e : k = n) : P = R := by
  subst e; unfold PosAt at *; omega
/-- The end of a round: one further, or the place of the definition. -/
theorem up_step {lg M m bb bt : Int} {k N : Nat} {P : Int} (h : PosAt lg 0 k P) (hl : k < N ↔ 64 * (k : Int) < LackOf lg 0 M m bb bt) (ht : 32 * P + bb < 32 * M + 32) :
    (∃ (k' : Nat) (P' : Int), k' ≤ N ∧ Value.int .i64 (P + 2) = .int .i64 P' ∧ PosAt lg 0 k' P') ∧
      N - (intOf (Value.int .i64 (P + 2)) - (if (0 : Int) = 0 then startG lg 0 else startG lg 1)).natAbs / 2 < N - (intOf (Value.int .i64 P) - (if (0 : Int) = 0 then startG lg 0 else startG lg 1)).natAbs / 2 := by
  have hk : k < N := hl.2 ((test_up h).1 ht)
  have h2 := pos_up h rfl
  refine ⟨⟨k + 1, _, hk, rfl, h2⟩, ?_⟩
  have a1 := pos_abs h
  have a2 := pos_abs h2
  rw [show intOf (Value.int .i64 (P + 2)) = P + 2 from rfl, show intOf (Value.int .i64 P) = P from rfl, a1, a2]
  omega
theorem down_step {lg M m bb bt : Int} {k N : Nat} {P : Int} (h : PosAt lg 1 k P) (hl : k < N ↔ 64 * (k : Int) < LackOf lg 1 M m bb bt) (ht : -(32 * P) - bt < -(32 * m) + 32) :
    (∃ (k' : Nat) (P' : Int), k' ≤ N ∧ Value.int .i64 (P - 2) = .int .i64 P' ∧ PosAt lg 1 k' P') ∧
      N - (intOf (Value.int .i64 (P - 2)) - (if (1 : Int) = 0 then startG lg 0 else startG lg 1)).natAbs / 2 < N - (intOf (Value.int .i64 P) - (if (1 : Int) = 0 then startG lg 0 else startG lg 1)).natAbs / 2 := by
  have hk : k < N := hl.2 ((test_down h).1 ht)
  have h2 := pos_down h rfl
  refine ⟨⟨k + 1, _, hk, rfl, h2⟩, ?_⟩
  have a1 := pos_abs h
  have a2 := pos_abs h2
  rw [show intOf (Value.int .i64 (P - 2)) = P - 2 from rfl, show intOf (Value.int .i64 P) = P from rfl, a1, a2]
  omega

set_option maxHeartbeats 2000000 in
theorem Rest_some (a : Option Addr) (l : List Int) (cap : Nat) (lg dots vo : Int) (w : World) (h : IsInts w a l) (hm : l.length ≤ 1000) (hvo : vo = 0 ∨ vo = 1) (hv : valG lg dots = 0) (hgood : okL l = true) (hne : l ≠ []) :
    Calls Try.prog 22 #[.agg #[.int .i64 lg, .int .i64 dots], .int .i64 vo, .int .i64 2, .slice a l.length cap] w fun e w' => e = .returned (restPut lg dots vo 2 l) ∧ Kp w w' := by
  have hlg : -1 ≤ lg ∧ lg ≤ 8 := by unfold valG at hv; split at hv <;> omega
  obtain ⟨c, hcd⟩ : ∃ c, (lg + 6).toNat = c := ⟨_, rfl⟩
  have hc1 : 1 ≤ c := by omega
  have hc2 : c ≤ 68 := by omega
  have hrest : restG lg = .tuple #[.int .i64 (c : Int), .int .i64 0] := by
    unfold restG; rw [if_neg (by omega), ← hcd, show (((lg + 6).toNat : Nat) : Int) = lg + 6 by omega]
  obtain ⟨bl, bb, br, bt, hbox⟩ : ∃ bl bb br bt, boxG c = ⟨bl, bb, br, bt⟩ := ⟨_, _, _, _, rfl⟩
  have hbs := box_rest lg hlg.1 hlg.2
  rw [hcd, hbox] at hbs
  obtain ⟨⟨hb1, hb2⟩, hb3, hb4⟩ := hbs
  simp only at hb1 hb2 hb3 hb4
  have Hbox : Hid ((boxG c).cells = #[.int .i64 bl, .int .i64 bb, .int .i64 br, .int .i64 bt]) := Lib.hid (by rw [hbox]; rfl)
  have hok := ok_bound l hne hgood
  have hM := clamp_le (mx l)
  have hm' := clamp_le (mn l)
  rw [hok.1] at hM
  rw [hok.2] at hm'
  obtain ⟨M, hMd⟩ : ∃ M, mx l = M := ⟨_, rfl⟩
  obtain ⟨m, hmd⟩ : ∃ m, mn l = m := ⟨_, rfl⟩
  rw [hMd] at hM
  rw [hmd] at hm'
  obtain ⟨hM1, hM2⟩ := hM
  obtain ⟨hm1, hm2⟩ := hm'
  have hput : ∃ N : Nat, N ≤ 313 ∧ (∀ k : Nat, k < N ↔ 64 * (k : Int) < LackOf lg vo M m bb bt) ∧
      ∃ R, PosAt lg vo N R ∧ restPut lg dots vo 2 l = .tuple #[.int .i64 R, .int .i64 0] := by
    refine ⟨rounds (lackG lg vo l), by have := lack_le lg vo l hlg.1 hlg.2 hgood; unfold rounds; omega, fun k => ?_, ?_⟩
    · rw [rounds_lt]
      have e : lackG lg vo l = LackOf lg vo M m bb bt := by
        unfold lackG LackOf
        rw [if_neg hne, hcd, hbox, hMd, hmd]
        rcases hvo with rfl | rfl
        · simp
        · simp
      rw [e]
    · refine ⟨_, rfl, ?_⟩
      rcases hvo with rfl | rfl <;> simp [restPut, restErr, hv, hgood, placeG, startG]
  obtain ⟨N, hN, hlt, R, hR, hput⟩ := hput
  have HR := Lib.hid hR
  have Hput := Lib.hid hput
  have Hlt := Lib.hid hlt
  have Hrest := Lib.hid hrest
  have Hv := Lib.hid hv
  have Hgood := Lib.hid hgood
  have Hg := Lib.hid (okTo_len l)
  have H := Lib.hid h
  have HM := Lib.hid hMd
  have Hm := Lib.hid hmd
  have hp : 0 < l.length := List.length_pos_iff.2 hne
  clear hput hrest hv hcd hbox hgood hok hMd hmd hlt hR
  rcases h with rfl | ⟨b, off, rfl, _⟩
  · exact absurd rfl hne
  have hmax := fun (w2 : World) (hw : IsInts w2 (some ⟨b, off, none⟩) l) => max_any (some ⟨b, off, none⟩) l cap w2 hw hp hm
  have hmin := fun (w2 : World) (hw : IsInts w2 (some ⟨b, off, none⟩) l) => min_any (some ⟨b, off, none⟩) l cap w2 hw hp hm
  have Hmax := Lib.hid hmax
  have Hmin := Lib.hid hmin
  clear hmax hmin
  obtain ⟨n, hn⟩ : ∃ n, l.length = n := ⟨_, rfl⟩
  have Hn := Lib.hid hn
  rw [hn] at hm hp ⊢
  have Hmax' : Hid (∀ (w2 : World), IsInts w2 (some ⟨b, off, none⟩) l → Calls Try.prog 61 #[.slice (some ⟨b, off, none⟩) n cap] w2 fun e w' => e = .returned (.int .i64 M) ∧ w2 = w') := Lib.hid (by rw [← hn, ← HM.out]; exact Hmax.out)
  have Hmin' : Hid (∀ (w2 : World), IsInts w2 (some ⟨b, off, none⟩) l → Calls Try.prog 62 #[.slice (some ⟨b, off, none⟩) n cap] w2 fun e w' => e = .returned (.int .i64 m) ∧ w2 = w') := Lib.hid (by rw [← hn, ← Hm.out]; exact Hmin.out)
  clear hn hne Hmax Hmin
  have hpI : (0 : Int) < (n : Int) := by omega
  obtain ⟨lgv, hlgv⟩ : ∃ lgv, lg = lgv := ⟨_, rfl⟩
  obtain ⟨vov, hvov⟩ : ∃ vov, vo = vov := ⟨_, rfl⟩
  rw [hlgv, hvov] at Hlt HR
  have HZ := Lib.hid hlgv.symm
  have HV := Lib.hid hvov.symm
  clear hlgv hvov
  by_cases hz : lg = 0 <;> rcases hvo with rfl | rfl <;>
  (try subst hz
   go_enter Try.func22, Try.ntmps22
   go_wp2_with (go_at_call 30; refine (Check_any _ _ _).mono ?_; rw [Hv.out]; rintro e w' ⟨rfl, hk⟩; have p0 := (HasRow.new w #[.int .i64 _, .int .i64 dots] 28).kp hk; have q0 := p0.cell 0; have l0 := p0.lt; have Hk : Hid (Kp w w') := Lib.hid ((Kp.alloc _ _).trans hk); clear hk p0)
   have hI := H.out.kp Hk.out
   have HI := Lib.hid hI
   have Hc : Hid (∀ j x, l[j]? = some x → w'.cell? ⟨b, off + j, none⟩ = some (.int .i64 x)) := Lib.hid (by
     rcases hI with h0 | ⟨b', off', h0, hc⟩
     · intro j x hx; rw [h0] at hx; simp at hx
     · cases h0; exact hc)
   clear hI
   go_loop [8, 9, 12, 42] (fun _ _ _ i => ∃ k : Nat, k ≤ n ∧ i = .int .i64 k ∧ okTo l k = true) (fun _ _ _ i => n - (intOf i).toNat)
   case atStart => exact ⟨0, by omega, rfl, rfl⟩
   case round =>
     obtain ⟨k, hk, rfl, hok⟩ := hrel
     have Hok := Lib.hid hok
     clear hok
     by_cases hlt : k < n
     · obtain ⟨x, hx⟩ : ∃ x, l[k]? = some x := ⟨l[k]'(by rw [Hn.out]; exact hlt), by simp⟩
       have hcx := Hc.out k x hx
       have Hx := Lib.hid hx
       clear hx
       by_cases hb : clamp x = x
       · have Hb := Lib.hid hb
         clear hb
         go_wp2_with (go_at_call 60; refine (permitted_any _ _).mono ?_; rw [Hb.out]; rintro e w' ⟨rfl, rfl⟩)
         all_goals
           go_round
           case rel => exact ⟨k + 1, by omega, by go_num, by rw [okTo_succ _ _ _ Hx.out, Hok.out]; simp [okX, Hb.out]⟩
           case measure => simp [intOf]; omega
       · exact absurd Hgood.out (by rw [ok_bad l k x Hx.out hb]; simp)
     · obtain rfl : k = n := by omega
       go_wp2_with (first
        | (go_at_call 31; refine (Rest_any _ _).mono ?_; rw [Hrest.out]; rintro e w' ⟨rfl, rfl⟩)
        | (go_at_call 32; refine (box_in c _ hc1 hc2).mono ?_; rw [Hbox.out]; rintro e w2 ⟨rfl, hk2⟩; have HI2 := Lib.hid (HI.out.kp hk2); have Hk2 := Lib.hid (Hk.out.trans hk2); clear hk2)
        | (go_at_call 61; refine (Hmax'.out _ (HI2.out.kp (Kp.alloc _ _))).mono ?_; rintro e w' ⟨rfl, rfl⟩)
        | (go_at_call 62; refine (Hmin'.out _ (HI2.out.kp (Kp.alloc _ _))).mono ?_; rintro e w' ⟨rfl, rfl⟩))
       have hmix : Try.prog.follows .mixedOrders = true := by kernel_rfl
       go_region
       go_wp2_with (go_at_call 61; refine (Hmax'.out _ ((HI2.out.kp (Kp.alloc _ _)).kp (Below.drew (Kp.refl _)))).mono ?_; rintro e w' ⟨rfl, rfl⟩)
       try (go_region
            go_wp2_with (go_at_call 62; refine (Hmin'.out _ (HI2.out.kp (by repeat' (first | exact Kp.refl _ | (refine Below.drew ?_) | (refine Kp.trans ?_ (Kp.alloc _ _)))))).mono ?_; rintro e w' ⟨rfl, rfl⟩))
       go_loop [15] (fun p => ∃ (k : Nat) (P : Int), k ≤ N ∧ p = .int .i64 P ∧ PosAt lgv vov k P) (fun p => N - (intOf p - (if vov = 0 then startG lgv 0 else startG lgv 1)).natAbs / 2)
       case atStart => exact ⟨0, _, Nat.zero_le _, rfl, by have h1 := HV.out; have h2 := HZ.out; simp [PosAt, startG, baseG, *]⟩
       case round =>
         obtain ⟨k, P, hk, rfl, hP⟩ := hrel
         have HP := Lib.hid hP
         have hPb := pos_bound hP (by omega)
         obtain ⟨hPb1, hPb2⟩ := hPb
         have HT := Lib.hid (Hlt.out k)
         clear hP
         go_wp2
         all_goals
           have hV := HV.out
           subst hV
           have hT := HT.out
           have hP := HP.out
           first
             | exact up_step hP hT (by omega)
             | (have e : P + -2 = P - 2 := by omega
                rw [e]
                exact down_step hP hT (by omega))
             | exact down_step hP hT (by omega)
             | (have hkN : k = N := by
                  first
                    | (have ht := @test_up lgv M m bb bt k P hP; omega)
                    | (have ht := @test_down lgv M m bb bt k P hP; omega)
                go_ret2
                exact ⟨by rw [Hput.out]; exact ret_two (pos_fun hP HR.out hkN) rfl, by repeat' (first | exact Hk2.out | (refine Below.drew ?_) | (refine Kp.trans ?_ (Kp.alloc _ _)))⟩))

/-- stem.Rest, whatever the arguments. -/
theorem Rest_all (a : Option Addr) (l : List Int) (cap : Nat) (lg dots vo vs : Int) (w : World) (h : IsInts w a l) (hm : l.length ≤ 1000) :
    Calls Try.prog 22 #[.agg #[.int .i64 lg, .int .i64 dots], .int .i64 vo, .int .i64 vs, .slice a l.length cap] w fun e w' => e = .returned (restPut lg dots vo vs l) ∧ Kp w w' := by
  by_cases hv : valG lg dots = 0
  · by_cases hr : vs < 1 ∨ 2 < vs ∨ vo < 0 ∨ vs ≤ vo
    · exact Rest_rng a l cap lg dots vo vs w hv hr
    · cases hok : okL l with
      | false => exact Rest_bad a l cap lg dots vo vs w h hm hv (by omega) hok
      | true =>
        by_cases h1 : vs = 1
        · obtain rfl : vo = 0 := by omega
          subst h1
          exact Rest_one a l cap lg dots w h hm hv hok
        · obtain rfl : vs = 2 := by omega
          have hvo : vo = 0 ∨ vo = 1 := by omega
          by_cases hl : l = []
          · subst hl
            exact Rest_none a cap lg dots vo w hvo hv
          · exact Rest_some a l cap lg dots vo w h hm hvo hv hok hl
  · exact Rest_err a l cap lg dots vo vs w hv

end Go.Proofs.Ytdndehlhodigoaa
