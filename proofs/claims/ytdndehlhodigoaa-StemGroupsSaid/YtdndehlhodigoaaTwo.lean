/- stem.Rest with two voices, and with any arguments; the reference rest. -/
import Derived.RegionTactic
import Derived.Test.YtdndehlhodigoaaRest
namespace Go.Proofs.Ytdndehlhodigoaa
open Go Go.RowKit Go.Shelf

theorem placeG_up (lg : Int) (l : List Int) : placeG lg 0 2 l = baseG lg + 4 + 2 * rounds (lackG lg 0 l) := by unfold placeG; simp
theorem placeG_down (lg : Int) (l : List Int) : placeG lg 1 2 l = baseG lg - 4 - 2 * rounds (lackG lg 1 l) := by unfold placeG; simp
theorem lackG_nil (lg vo : Int) : lackG lg vo [] = 0 := by simp [lackG]
theorem rounds_zero : rounds 0 = 0 := by decide

def startG (lg vo : Int) : Int := if vo = 0 then baseG lg + 4 else baseG lg - 4

set_option maxHeartbeats 2000000 in
theorem Rest_none (a : Option Addr) (cap : Nat) (lg dots vo : Int) (w : World) (hvo : vo = 0 ∨ vo = 1) (hv : valG lg dots = 0) :
    Calls Try.prog 22 #[.agg #[.int .i64 lg, .int .i64 dots], .int .i64 vo, .int .i64 2, .slice a 0 cap] w fun e w' => e = .returned (restPut lg dots vo 2 []) ∧ Kp w w' := by
  have hput : restPut lg dots vo 2 [] = .tuple #[.int .i64 (startG lg vo), .int .i64 0] := by
    rcases hvo with rfl | rfl <;> simp [restPut, restErr, hv, okL, placeG, lackG, rounds_zero, startG]
  have hlg : -1 ≤ lg ∧ lg ≤ 8 := by unfold valG at hv; split at hv <;> omega
  obtain ⟨c, hcd⟩ : ∃ c, (lg + 6).toNat = c := ⟨_, rfl⟩
  have hc1 : 1 ≤ c := by omega
  have hc2 : c ≤ 68 := by omega
  have hrest : restG lg = .tuple #[.int .i64 (c : Int), .int .i64 0] := by
    unfold restG; rw [if_neg (by omega), ← hcd, show (((lg + 6).toNat : Nat) : Int) = lg + 6 by omega]
  obtain ⟨bl, bb, br, bt, hbox⟩ : ∃ bl bb br bt, boxG c = ⟨bl, bb, br, bt⟩ := ⟨_, _, _, _, rfl⟩
  have hbs := box_rest lg hlg.1 hlg.2
  rw [hcd, hbox] at hbs
  obtain ⟨⟨hb1, hb2⟩, hb3, hb4⟩ := hbs
  simp only at hb1 hb2 hb3 hb4
  have Hbox : Hid ((boxG c).cells = #[.int .i64 bl, .int .i64 bb, .int .i64 br, .int .i64 bt]) := Lib.hid (by rw [hbox]; rfl)
  have Hrest := Lib.hid hrest
  obtain ⟨S, hS⟩ : ∃ S, startG lg vo = S := ⟨_, rfl⟩
  rw [hS] at hput
  have HS := Lib.hid hS
  have Hput := Lib.hid hput
  have Hv := Lib.hid hv
  clear hput hrest hv hcd hbox hS
  by_cases hz : lg = 0 <;> rcases hvo with rfl | rfl <;>
    (try subst hz
     go_enter Try.func22, Try.ntmps22
     go_wp2_with (go_at_call 30; refine (Check_any _ _ _).mono ?_; rw [Hv.out]; rintro e w' ⟨rfl, hk⟩; have p0 := (HasRow.new w #[.int .i64 _, .int .i64 dots] 28).kp hk; have q0 := p0.cell 0; have l0 := p0.lt; have Hk : Hid (Kp w w') := Lib.hid ((Kp.alloc _ _).trans hk); clear hk p0)
     go_loop [8, 9, 12, 42] (fun _ _ _ i => i = .int .i64 0) (fun _ _ _ _ => 0)
     case atStart => rfl
     case round =>
       obtain rfl := hrel
       go_wp2_with (first
        | (go_at_call 31; refine (Rest_any _ _).mono ?_; rw [Hrest.out]; rintro e w' ⟨rfl, rfl⟩)
        | (go_at_call 32; refine (box_in c _ hc1 hc2).mono ?_; rw [Hbox.out]; rintro e w2 ⟨rfl, hk2⟩; have Hk2 := Lib.hid hk2; clear hk2))
       have hmix : Try.prog.follows .mixedOrders = true := by kernel_rfl
       go_region
       go_wp2
       try (go_region
            go_wp2)
       go_loop [15] (fun p => ∃ P : Int, p = .int .i64 P ∧ P = S) (fun _ => 0)
       case atStart => exact ⟨_, rfl, by rw [← HS.out]; simp [startG, baseG, *]⟩
       case round =>
         obtain ⟨P, rfl, hP⟩ := hrel
         have HP := Lib.hid hP
         clear hP
         go_wp2
         go_ret2
         exact ⟨by rw [Hput.out]; exact ret_two HP.out rfl, by repeat' (first | exact Hk.out.trans Hk2.out | (refine Below.drew ?_) | (refine Kp.trans ?_ (Kp.alloc _ _)))⟩)

end Go.Proofs.Ytdndehlhodigoaa
