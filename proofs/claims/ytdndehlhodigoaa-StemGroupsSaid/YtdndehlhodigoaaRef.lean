/- The reference rest. -/
import Derived.RegionTactic
import Derived.Deep.QuietTactic
import Derived.BigQuiet
import Derived.Test.YtdndehlhodigoaaRestUp
namespace Go.Proofs.Ytdndehlhodigoaa
open Go Go.RowKit Go.Shelf

theorem Kp.drewN (w : World) : ∀ n, Kp w (w.drewN n)
  | 0 => Kp.refl w
  | n + 1 => by
    have h := Kp.drewN w n
    unfold World.drewN
    first
      | exact Below.drew h
      | exact Below.trans (Below.drew (Kp.refl w)) (Below.mono (Kp.drewN w.drew n) (by simp))
/-- A callee that leaves the world alone, within a region that only reads. -/
theorem quiet_same {P : Program} {f : FuncId} {args : Array Value} {w : World} {n : Nat} (v : Value)
    (h : Calls P f args (w.drewN n) fun e w' => e = .returned v ∧ w.drewN n = w') : Calls P f args (w.drewN n) fun e w'' => e = .returned v ∧ ∃ m, w'' = w.drewN m :=
  h.mono fun _ _ ⟨he, hm⟩ => ⟨he, n, hm.symm⟩

set_option maxHeartbeats 1000000 in
theorem rest_err (a : Option Addr) (l : List Int) (cap : Nat) (lg dots vo vs : Int) (w : World) (hv : valG lg dots ≠ 0) :
    Calls Try.prog 23 #[.agg #[.int .i64 lg, .int .i64 dots], .int .i64 vo, .int .i64 vs, .slice a l.length cap] w fun e w' => e = .returned (restPut lg dots vo vs l) ∧ Kp w w' := by
  rw [restErr_val _ _ _ _ _ hv]
  have hv17 : valG lg dots = 17 := by unfold valG at hv ⊢; split <;> simp_all
  rw [hv17]
  clear hv
  have Hv := Lib.hid hv17
  clear hv17
  go_enter Try.func23, Try.ntmps23
  go_wp2_with (go_at_call 30; refine (Check_any _ _ _).mono ?_; rw [Hv.out]; rintro e w' ⟨rfl, hk⟩; have Hk := Lib.hid hk; clear hk)
  go_ret2
  exact ⟨rfl, (Kp.alloc _ _).trans Hk.out⟩

set_option maxHeartbeats 1000000 in
theorem rest_rng (a : Option Addr) (l : List Int) (cap : Nat) (lg dots vo vs : Int) (w : World) (hv : valG lg dots = 0) (hr : vs < 1 ∨ 2 < vs ∨ vo < 0 ∨ vs ≤ vo) :
    Calls Try.prog 23 #[.agg #[.int .i64 lg, .int .i64 dots], .int .i64 vo, .int .i64 vs, .slice a l.length cap] w fun e w' => e = .returned (restPut lg dots vo vs l) ∧ Kp w w' := by
  rw [restErr_rng _ _ _ _ _ hv (by omega)]
  have Hv := Lib.hid hv
  clear hv
  have hc : vs < 1 ∨ (¬ vs < 1 ∧ 2 < vs) ∨ ((¬ vs < 1 ∧ ¬ 2 < vs) ∧ vo < 0) ∨ ((¬ vs < 1 ∧ ¬ 2 < vs) ∧ ¬ vo < 0 ∧ vs ≤ vo) := by omega
  clear hr
  rcases hc with h1 | ⟨h1, h2⟩ | ⟨⟨h1, h2⟩, h3⟩ | ⟨⟨h1, h2⟩, h3, h4⟩ <;>
    (go_enter Try.func23, Try.ntmps23
     go_wp2_with (go_at_call 30; refine (Check_any _ _ _).mono ?_; rw [Hv.out]; rintro e w' ⟨rfl, hk⟩; have Hk := Lib.hid hk; clear hk))
  all_goals
    go_ret2
    exact ⟨rfl, (Kp.alloc _ _).trans Hk.out⟩

set_option maxHeartbeats 1000000 in
theorem rest_bad (a : Option Addr) (l : List Int) (cap : Nat) (lg dots vo vs : Int) (w : World) (h : IsInts w a l) (hm : l.length ≤ 1000) (hv : valG lg dots = 0) (hs : 1 ≤ vs ∧ vs ≤ 2 ∧ 0 ≤ vo ∧ vo < vs) (hbad : okL l = false) :
    Calls Try.prog 23 #[.agg #[.int .i64 lg, .int .i64 dots], .int .i64 vo, .int .i64 vs, .slice a l.length cap] w fun e w' => e = .returned (restPut lg dots vo vs l) ∧ Kp w w' := by
  rw [restErr_rng _ _ _ _ _ hv (by simp [hbad])]
  have Hv := Lib.hid hv
  have Hbad := Lib.hid hbad
  have H := Lib.hid h
  clear hv hbad h
  obtain ⟨s1, s2, s3, s4⟩ := hs
  go_enter Try.func23, Try.ntmps23
  go_wp2_with (first
    | (go_at_call 30; refine (Check_any _ _ _).mono ?_; rw [Hv.out]; rintro e w' ⟨rfl, hk⟩; have Hk : Hid (Kp w w') := Lib.hid ((Kp.alloc _ _).trans hk); clear hk)
    | (go_at_call 63; refine (permittedL_any _ l _ _ (H.out.kp Hk.out) hm).mono ?_; rw [Hbad.out]; rintro e w' ⟨rfl, rfl⟩))
  go_ret2
  exact ⟨rfl, Hk.out⟩

set_option maxHeartbeats 2000000 in
theorem rest_alone (a : Option Addr) (l : List Int) (cap : Nat) (lg dots : Int) (w : World) (h : IsInts w a l) (hm : l.length ≤ 1000) (hv : valG lg dots = 0) (hgood : okL l = true) :
    Calls Try.prog 23 #[.agg #[.int .i64 lg, .int .i64 dots], .int .i64 0, .int .i64 1, .slice a l.length cap] w fun e w' => e = .returned (restPut lg dots 0 1 l) ∧ Kp w w' := by
  have hput : restPut lg dots 0 1 l = .tuple #[.int .i64 (baseG lg), .int .i64 0] := by simp [restPut, restErr, placeG, hv, hgood]
  have hlg : -1 ≤ lg ∧ lg ≤ 8 := by unfold valG at hv; split at hv <;> omega
  obtain ⟨c, hcd⟩ : ∃ c, (lg + 6).toNat = c := ⟨_, rfl⟩
  have hc1 : 1 ≤ c := by omega
  have hc2 : c ≤ 68 := by omega
  have hrest : restG lg = .tuple #[.int .i64 (c : Int), .int .i64 0] := by
    unfold restG; rw [if_neg (by omega), ← hcd, show (((lg + 6).toNat : Nat) : Int) = lg + 6 by omega]
  obtain ⟨bl, bb, br, bt, hbox⟩ : ∃ bl bb br bt, boxG c = ⟨bl, bb, br, bt⟩ := ⟨_, _, _, _, rfl⟩
  have Hbox : Hid ((boxG c).cells = #[.int .i64 bl, .int .i64 bb, .int .i64 br, .int .i64 bt]) := Lib.hid (by rw [hbox]; rfl)
  have Hrest := Lib.hid hrest
  have Hput := Lib.hid hput
  have Hv := Lib.hid hv
  have Hgood := Lib.hid hgood
  have H := Lib.hid h
  clear hput hrest hv hcd hbox hgood h
  by_cases hz : lg = 0 <;>
    (try subst hz
     go_enter Try.func23, Try.ntmps23
     go_wp2_with (first
      | (go_at_call 30; refine (Check_any _ _ _).mono ?_; rw [Hv.out]; rintro e w' ⟨rfl, hk⟩; have p0 := (HasRow.new w #[.int .i64 _, .int .i64 dots] 28).kp hk; have q0 := p0.cell 0; have l0 := p0.lt; have Hk : Hid (Kp w w') := Lib.hid ((Kp.alloc _ _).trans hk); clear hk p0)
      | (go_at_call 63; refine (permittedL_any _ l _ _ (H.out.kp Hk.out) hm).mono ?_; rw [Hgood.out]; rintro e w' ⟨rfl, rfl⟩)
      | (go_at_call 31; refine (Rest_any _ _).mono ?_; rw [Hrest.out]; rintro e w' ⟨rfl, rfl⟩)
      | (go_at_call 32; refine (box_in c _ hc1 hc2).mono ?_; rw [Hbox.out]; rintro e w2 ⟨rfl, hk2⟩; have q2 : w2.cell? ⟨w.heap.size, 0, none⟩ = w'.cell? ⟨w.heap.size, 0, none⟩ := Below.cell hk2 l0; have l2 := Nat.lt_of_lt_of_le l0 hk2.size; have Hk2 := Lib.hid (Hk.out.trans hk2); clear hk2))
     all_goals
       go_ret2
       exact ⟨by rw [Hput.out]; exact ret_two (by simp [baseG, *]) rfl, Hk2.out.trans (Kp.alloc _ _)⟩)

set_option maxRecDepth 100000 in
set_option maxHeartbeats 4000000 in
theorem rest_two (a : Option Addr) (l : List Int) (cap : Nat) (lg dots vo : Int) (w : World) (h : IsInts w a l) (hm : l.length ≤ 1000) (hvo : vo = 0 ∨ vo = 1) (hv : valG lg dots = 0) (hgood : okL l = true) (hne : l ≠ []) :
    Calls Try.prog 23 #[.agg #[.int .i64 lg, .int .i64 dots], .int .i64 vo, .int .i64 2, .slice a l.length cap] w fun e w' => e = .returned (restPut lg dots vo 2 l) ∧ Kp w w' := by
  have hlg : -1 ≤ lg ∧ lg ≤ 8 := by unfold valG at hv; split at hv <;> omega
  obtain ⟨c, hcd⟩ : ∃ c, (lg + 6).toNat = c := ⟨_, rfl⟩
  have hc1 : 1 ≤ c := by omega
  have hc2 : c ≤ 68 := by omega
  have hrest : restG lg = .tuple #[.int .i64 (c : Int), .int .i64 0] := by
    unfold restG; rw [if_neg (by omega), ← hcd, show (((lg + 6).toNat : Nat) : Int) = lg + 6 by omega]
  obtain ⟨bl, bb, br, bt, hbox⟩ : ∃ bl bb br bt, boxG c = ⟨bl, bb, br, bt⟩ := ⟨_, _, _, _, rfl⟩
  have hbs := box_rest lg hlg.1 hlg.2
  rw [hcd, hbox] at hbs
  obtain ⟨⟨hb1, hb2⟩, hb3, hb4⟩ := hbs
  simp only at hb1 hb2 hb3 hb4
  have Hbox : Hid ((boxG c).cells = #[.int .i64 bl, .int .i64 bb, .int .i64 br, .int .i64 bt]) := Lib.hid (by rw [hbox]; rfl)
  have hok := ok_bound l hne hgood
  have hM := clamp_le (mx l)
  have hm' := clamp_le (mn l)
  rw [hok.1] at hM
  rw [hok.2] at hm'
  obtain ⟨M, hMd⟩ : ∃ M, mx l = M := ⟨_, rfl⟩
  obtain ⟨m, hmd⟩ : ∃ m, mn l = m := ⟨_, rfl⟩
  rw [hMd] at hM
  rw [hmd] at hm'
  obtain ⟨hM1, hM2⟩ := hM
  obtain ⟨hm1, hm2⟩ := hm'
  have hmo : mostG l = M := by unfold mostG; rw [if_neg hne, hok.1, hMd]
  have hle : leastG l = m := by unfold leastG; rw [if_neg hne, hok.2, hmd]
  have hput : ∃ N : Nat, N ≤ 313 ∧ (∀ k : Nat, k < N ↔ 64 * (k : Int) < LackOf lg vo M m bb bt) ∧
      ∃ R, PosAt lg vo N R ∧ restPut lg dots vo 2 l = .tuple #[.int .i64 R, .int .i64 0] := by
    refine ⟨rounds (lackG lg vo l), by have := lack_le lg vo l hlg.1 hlg.2 hgood; unfold rounds; omega, fun k => ?_, ?_⟩
    · rw [rounds_lt]
      have e : lackG lg vo l = LackOf lg vo M m bb bt := by
        unfold lackG LackOf
        rw [if_neg hne, hcd, hbox, hMd, hmd]
        rcases hvo with rfl | rfl
        · simp
        · simp
      rw [e]
    · refine ⟨_, rfl, ?_⟩
      rcases hvo with rfl | rfl <;> simp [restPut, restErr, hv, hgood, placeG, startG]
  obtain ⟨N, hN, hlt, R, hR, hput⟩ := hput
  have HR := Lib.hid hR
  have Hput := Lib.hid hput
  have Hlt := Lib.hid hlt
  have Hrest := Lib.hid hrest
  have Hv := Lib.hid hv
  have Hgood := Lib.hid hgood
  have Hmo := Lib.hid hmo
  have Hle := Lib.hid hle
  have H := Lib.hid h
  have hp : 0 < l.length := List.length_pos_iff.2 hne
  have hpI : (0 : Int) < (l.length : Int) := by omega
  have hpD : decide ((0 : Int) < (l.length : Int)) = true := by simpa using hpI
  clear hput hrest hv hcd hbox hgood hok hMd hmd hlt hR h hmo hle hne
  obtain ⟨lgv, hlgv⟩ : ∃ lgv, lg = lgv := ⟨_, rfl⟩
  obtain ⟨vov, hvov⟩ : ∃ vov, vo = vov := ⟨_, rfl⟩
  rw [hlgv, hvov] at Hlt HR
  have HZ := Lib.hid hlgv.symm
  have HV := Lib.hid hvov.symm
  clear hlgv hvov
  rcases hvo with rfl | rfl
  · by_cases hz : lg = 0 <;>
    (try subst hz
     go_enter Try.func23, Try.ntmps23
     go_wp2_with (first
        | (go_at_call 30; refine (Check_any _ _ _).mono ?_; rw [Hv.out]; rintro e w' ⟨rfl, hk⟩; have p0 := (HasRow.new w #[.int .i64 _, .int .i64 dots] 28).kp hk; have q0 := p0.cell 0; have l0 := p0.lt; have Hk : Hid (Kp w w') := Lib.hid ((Kp.alloc _ _).trans hk); clear hk p0)
        | (go_at_call 63; refine (permittedL_any _ l _ _ (H.out.kp Hk.out) hm).mono ?_; rw [Hgood.out]; rintro e w' ⟨rfl, rfl⟩)
        | (go_at_call 31; refine (Rest_any _ _).mono ?_; rw [Hrest.out]; rintro e w' ⟨rfl, rfl⟩)
        | (go_at_call 32; refine (box_in c _ hc1 hc2).mono ?_; rw [Hbox.out]; rintro e w2 ⟨rfl, hk2⟩; have q2 : w2.cell? ⟨w.heap.size, 0, none⟩ = w'.cell? ⟨w.heap.size, 0, none⟩ := Below.cell hk2 l0; have l2 := Nat.lt_of_lt_of_le l0 hk2.size; have Hk2 := Lib.hid (Hk.out.trans hk2); clear hk2))
     obtain ⟨W1, hW1⟩ : ∃ W1, w2.alloc (.cells #[.int .i64 bl, .int .i64 bb, .int .i64 br, .int .i64 bt] 41) = W1 := ⟨_, rfl⟩
     have HB : Hid (HasRow W1 w2.heap.size #[.int .i64 bl, .int .i64 bb, .int .i64 br, .int .i64 bt] 41) := Lib.hid (by rw [← hW1]; exact HasRow.new _ _ _)
     have HI : Hid (IsInts W1 a l) := Lib.hid (by rw [← hW1]; exact H.out.kp (Hk2.out.trans (Kp.alloc _ _)))
     have HK : Hid (Kp w W1) := Lib.hid (by rw [← hW1]; exact Hk2.out.trans (Kp.alloc _ _))
     rw [hW1]
     clear hW1 q2 l2 q0 l0
     obtain ⟨B2, hB2⟩ : ∃ B2, w2.heap.size = B2 := ⟨_, rfl⟩
     rw [hB2] at HB ⊢
     clear hB2
     go_loopw [15, 16] (fun p i wr => ∃ (k : Nat) (P : Int), k ≤ N ∧ i = .int .i64 k ∧ p = .int .i64 P ∧ PosAt lgv vov k P ∧ Kp W1 wr) (fun _ i _ => N - (intOf i).toNat)
     case atStart => exact ⟨0, _, Nat.zero_le _, rfl, rfl, by have h1 := HV.out; have h2 := HZ.out; simp [PosAt, startG, baseG, *], Kp.refl _⟩
     case round =>
       obtain ⟨k, P, hk, rfl, rfl, hP, hkr⟩ := hrel
       have HP := Lib.hid hP
       have hPb := pos_bound hP (by omega)
       obtain ⟨hPb1, hPb2⟩ := hPb
       have HT := Lib.hid (Hlt.out k)
       have hkI : (k : Int) < 400 := by omega
       have hkD : decide ((k : Int) < 400) = true := by simpa using hkI
       have rB := HB.out.kp hkr
       have c1 : wr.cell? ⟨B2, 1, none⟩ = some (.int .i64 bb) := rB.cell 1
       have c3 : wr.cell? ⟨B2, 3, none⟩ = some (.int .i64 bt) := rB.cell 3
       have HIr := Lib.hid (HI.out.kp hkr)
       have Hkr := Lib.hid hkr
       clear hP hkr rB
       go_wp2
       go_quiet ((go_at_call 27; exact quiet_same (.int .i64 M) (by rw [← Hmo.out]; exact most_any _ l _ _ (HIr.out.kp (Kp.drewN _ _)) hm)))
       all_goals
         go_wp2
       all_goals
         have hV := HV.out
         subst hV
         have hT := HT.out
         have hP := HP.out
         have ht := @test_up lgv M m bb bt k P hP
         first
           | (go_roundw
              case rel => exact ⟨k + 1, _, by omega, by go_num, rfl, pos_up hP (by omega), Hkr.out.trans (Kp.drewN _ _)⟩
              case measure => simp [intOf]; omega)
           | (go_ret2
              exact ⟨by rw [Hput.out]; exact ret_two (pos_fun hP HR.out (by omega)) rfl, (HK.out.trans Hkr.out).trans (Kp.drewN _ _)⟩))
  · by_cases hz : lg = 0 <;>
    (try subst hz
     go_enter Try.func23, Try.ntmps23
     go_wp2_with (first
        | (go_at_call 30; refine (Check_any _ _ _).mono ?_; rw [Hv.out]; rintro e w' ⟨rfl, hk⟩; have p0 := (HasRow.new w #[.int .i64 _, .int .i64 dots] 28).kp hk; have q0 := p0.cell 0; have l0 := p0.lt; have Hk : Hid (Kp w w') := Lib.hid ((Kp.alloc _ _).trans hk); clear hk p0)
        | (go_at_call 63; refine (permittedL_any _ l _ _ (H.out.kp Hk.out) hm).mono ?_; rw [Hgood.out]; rintro e w' ⟨rfl, rfl⟩)
        | (go_at_call 31; refine (Rest_any _ _).mono ?_; rw [Hrest.out]; rintro e w' ⟨rfl, rfl⟩)
        | (go_at_call 32; refine (box_in c _ hc1 hc2).mono ?_; rw [Hbox.out]; rintro e w2 ⟨rfl, hk2⟩; have q2 : w2.cell? ⟨w.heap.size, 0, none⟩ = w'.cell? ⟨w.heap.size, 0, none⟩ := Below.cell hk2 l0; have l2 := Nat.lt_of_lt_of_le l0 hk2.size; have Hk2 := Lib.hid (Hk.out.trans hk2); clear hk2))
     obtain ⟨W1, hW1⟩ : ∃ W1, w2.alloc (.cells #[.int .i64 bl, .int .i64 bb, .int .i64 br, .int .i64 bt] 41) = W1 := ⟨_, rfl⟩
     have HB : Hid (HasRow W1 w2.heap.size #[.int .i64 bl, .int .i64 bb, .int .i64 br, .int .i64 bt] 41) := Lib.hid (by rw [← hW1]; exact HasRow.new _ _ _)
     have HI : Hid (IsInts W1 a l) := Lib.hid (by rw [← hW1]; exact H.out.kp (Hk2.out.trans (Kp.alloc _ _)))
     have HK : Hid (Kp w W1) := Lib.hid (by rw [← hW1]; exact Hk2.out.trans (Kp.alloc _ _))
     rw [hW1]
     clear hW1 q2 l2 q0 l0
     obtain ⟨B2, hB2⟩ : ∃ B2, w2.heap.size = B2 := ⟨_, rfl⟩
     rw [hB2] at HB ⊢
     clear hB2
     go_loopw [15, 17] (fun p i wr => ∃ (k : Nat) (P : Int), k ≤ N ∧ i = .int .i64 k ∧ p = .int .i64 P ∧ PosAt lgv vov k P ∧ Kp W1 wr) (fun _ i _ => N - (intOf i).toNat)
     case atStart => exact ⟨0, _, Nat.zero_le _, rfl, rfl, by have h1 := HV.out; have h2 := HZ.out; simp [PosAt, startG, baseG, *], Kp.refl _⟩
     case round =>
       obtain ⟨k, P, hk, rfl, rfl, hP, hkr⟩ := hrel
       have HP := Lib.hid hP
       have hPb := pos_bound hP (by omega)
       obtain ⟨hPb1, hPb2⟩ := hPb
       have HT := Lib.hid (Hlt.out k)
       have hkI : (k : Int) < 400 := by omega
       have hkD : decide ((k : Int) < 400) = true := by simpa using hkI
       have rB := HB.out.kp hkr
       have c1 : wr.cell? ⟨B2, 1, none⟩ = some (.int .i64 bb) := rB.cell 1
       have c3 : wr.cell? ⟨B2, 3, none⟩ = some (.int .i64 bt) := rB.cell 3
       have HIr := Lib.hid (HI.out.kp hkr)
       have Hkr := Lib.hid hkr
       clear hP hkr rB
       go_wp2
       go_quiet ((go_at_call 28; exact quiet_same (.int .i64 m) (by rw [← Hle.out]; exact least_any _ l _ _ (HIr.out.kp (Kp.drewN _ _)) hm)))
       all_goals
         go_wp2
       all_goals
         have hV := HV.out
         subst hV
         have hT := HT.out
         have hP := HP.out
         have ht := @test_down lgv M m bb bt k P hP
         first
           | (go_roundw
              case rel => exact ⟨k + 1, _, by omega, by go_num, rfl, pos_down hP (by omega), Hkr.out.trans (Kp.drewN _ _)⟩
              case measure => simp [intOf]; omega)
           | (go_ret2
              exact ⟨by rw [Hput.out]; exact ret_two (pos_fun hP HR.out (by omega)) rfl, (HK.out.trans Hkr.out).trans (Kp.drewN _ _)⟩))
set_option maxRecDepth 100000 in
set_option maxHeartbeats 4000000 in
theorem rest_empty (a : Option Addr) (cap : Nat) (lg dots vo : Int) (w : World) (hvo : vo = 0 ∨ vo = 1) (hv : valG lg dots = 0) :
    Calls Try.prog 23 #[.agg #[.int .i64 lg, .int .i64 dots], .int .i64 vo, .int .i64 2, .slice a 0 cap] w fun e w' => e = .returned (restPut lg dots vo 2 []) ∧ Kp w w' := by
  have hput : restPut lg dots vo 2 [] = .tuple #[.int .i64 (startG lg vo), .int .i64 0] := by
    rcases hvo with rfl | rfl <;> simp [restPut, restErr, hv, okL, placeG, lackG, rounds_zero, startG]
  have hlg : -1 ≤ lg ∧ lg ≤ 8 := by unfold valG at hv; split at hv <;> omega
  obtain ⟨c, hcd⟩ : ∃ c, (lg + 6).toNat = c := ⟨_, rfl⟩
  have hc1 : 1 ≤ c := by omega
  have hc2 : c ≤ 68 := by omega
  have hrest : restG lg = .tuple #[.int .i64 (c : Int), .int .i64 0] := by
    unfold restG; rw [if_neg (by omega), ← hcd, show (((lg + 6).toNat : Nat) : Int) = lg + 6 by omega]
  obtain ⟨bl, bb, br, bt, hbox⟩ : ∃ bl bb br bt, boxG c = ⟨bl, bb, br, bt⟩ := ⟨_, _, _, _, rfl⟩
  have Hbox : Hid ((boxG c).cells = #[.int .i64 bl, .int .i64 bb, .int .i64 br, .int .i64 bt]) := Lib.hid (by rw [hbox]; rfl)
  have Hrest := Lib.hid hrest
  obtain ⟨S, hS⟩ : ∃ S, startG lg vo = S := ⟨_, rfl⟩
  rw [hS] at hput
  have HS := Lib.hid hS
  have Hput := Lib.hid hput
  have Hv := Lib.hid hv
  have hnil : okL [] = true := rfl
  have Hgood := Lib.hid hnil
  have hz0 : (([] : List Int).length) = 0 := rfl
  have hperm := fun (w : World) => permittedL_any a [] cap w (Or.inl rfl) (by simp)
  rw [hz0] at hperm
  have Hperm := Lib.hid hperm
  have hD : decide ((0 : Int) < ((0 : Nat) : Int)) = false := rfl
  clear hput hrest hv hcd hbox hS hnil hz0 hperm
  by_cases hz : lg = 0 <;> rcases hvo with rfl | rfl <;>
  (try subst hz
   go_enter Try.func23, Try.ntmps23
   go_wp2_with (first
      | (go_at_call 30; refine (Check_any _ _ _).mono ?_; rw [Hv.out]; rintro e w' ⟨rfl, hk⟩; have p0 := (HasRow.new w #[.int .i64 _, .int .i64 dots] 28).kp hk; have q0 := p0.cell 0; have l0 := p0.lt; have Hk : Hid (Kp w w') := Lib.hid ((Kp.alloc _ _).trans hk); clear hk p0)
      | (go_at_call 63; refine (Hperm.out _).mono ?_; rw [Hgood.out]; rintro e w' ⟨rfl, rfl⟩)
      | (go_at_call 31; refine (Rest_any _ _).mono ?_; rw [Hrest.out]; rintro e w' ⟨rfl, rfl⟩)
      | (go_at_call 32; refine (box_in c _ hc1 hc2).mono ?_; rw [Hbox.out]; rintro e w2 ⟨rfl, hk2⟩; have q2 : w2.cell? ⟨w.heap.size, 0, none⟩ = w'.cell? ⟨w.heap.size, 0, none⟩ := Below.cell hk2 l0; have l2 := Nat.lt_of_lt_of_le l0 hk2.size; have Hk2 := Lib.hid (Hk.out.trans hk2); clear hk2))
   first
   | (go_loopw [15, 16] (fun p i wr => ∃ P : Int, p = .int .i64 P ∧ i = .int .i64 0 ∧ P = S ∧ wr = w2.alloc (.cells #[.int .i64 bl, .int .i64 bb, .int .i64 br, .int .i64 bt] 41)) (fun _ _ _ => 0)
      case atStart => exact ⟨_, rfl, rfl, by rw [← HS.out]; simp [startG, baseG, *], rfl⟩
      case round =>
        obtain ⟨P, rfl, rfl, hP, rfl⟩ := hrel
        have HP := Lib.hid hP
        clear hP
        go_wp2
        go_quiet (fail)
        go_wp2
        go_ret2
        exact ⟨by rw [Hput.out]; exact ret_two HP.out rfl, (Hk2.out.trans (Kp.alloc _ _)).trans (Kp.drewN _ _)⟩)
   | (go_loopw [15, 17] (fun p i wr => ∃ P : Int, p = .int .i64 P ∧ i = .int .i64 0 ∧ P = S ∧ wr = w2.alloc (.cells #[.int .i64 bl, .int .i64 bb, .int .i64 br, .int .i64 bt] 41)) (fun _ _ _ => 0)
      case atStart => exact ⟨_, rfl, rfl, by rw [← HS.out]; simp [startG, baseG, *], rfl⟩
      case round =>
        obtain ⟨P, rfl, rfl, hP, rfl⟩ := hrel
        have HP := Lib.hid hP
        clear hP
        go_wp2
        go_quiet (fail)
        go_wp2
        go_ret2
        exact ⟨by rw [Hput.out]; exact ret_two HP.out rfl, (Hk2.out.trans (Kp.alloc _ _)).trans (Kp.drewN _ _)⟩))

/-- The reference rest, whatever the arguments: the same. -/
theorem rest_all (a : Option Addr) (l : List Int) (cap : Nat) (lg dots vo vs : Int) (w : World) (h : IsInts w a l) (hm : l.length ≤ 1000) :
    Calls Try.prog 23 #[.agg #[.int .i64 lg, .int .i64 dots], .int .i64 vo, .int .i64 vs, .slice a l.length cap] w fun e w' => e = .returned (restPut lg dots vo vs l) ∧ Kp w w' := by
  by_cases hv : valG lg dots = 0
  · by_cases hr : vs < 1 ∨ 2 < vs ∨ vo < 0 ∨ vs ≤ vo
    · exact rest_rng a l cap lg dots vo vs w hv hr
    · cases hok : okL l with
      | false => exact rest_bad a l cap lg dots vo vs w h hm hv (by omega) hok
      | true =>
        by_cases h1 : vs = 1
        · obtain rfl : vo = 0 := by omega
          subst h1
          exact rest_alone a l cap lg dots w h hm hv hok
        · obtain rfl : vs = 2 := by omega
          have hvo : vo = 0 ∨ vo = 1 := by omega
          by_cases hl : l = []
          · subst hl
            exact rest_empty a cap lg dots vo w hvo hv
          · exact rest_two a l cap lg dots vo w h hm hvo hv hok hl
  · exact rest_err a l cap lg dots vo vs w hv

end Go.Proofs.Ytdndehlhodigoaa
