/- The law of directions: the walk; regions that draw their order, whose calls make memory but change none. -/
import Derived.Lib.QuietBelow
import Derived.Test.YtdndehlhodigoaaLawA
namespace Go.Proofs.Ytdndehlhodigoaa
open Go Go.RowKit Go.Shelf

theorem cell_rg {w : World} {a : Addr} {v : Value} (h : w.cell? a = some v) (d : Nat) (os : Array Obj) : (Go.Sort.grow (redrawn w d) os).cell? a = some v := cell_regrown h d os
theorem kp_rg (w : World) (d : Nat) (os : Array Obj) : Kp w (Go.Sort.grow (redrawn w d) os) := below_regrown w d os
/-- A callee that changes nothing that was there, or nothing at all, within such a region. -/
theorem rg_of {P : Program} {f : FuncId} {args : Array Value} {w : World} {d : Nat} {os : Array Obj} {v : Value}
    (h : Calls P f args (Go.Sort.grow (redrawn w d) os) fun e w' => e = .returned v ∧ Kp (Go.Sort.grow (redrawn w d) os) w') : Calls P f args (Go.Sort.grow (redrawn w d) os) fun e w'' => e = .returned v ∧ ∃ p : Regrown, w'' = Go.Sort.grow (redrawn w p.d) p.os :=
  Calls.regrown_of h
theorem rg_same {P : Program} {f : FuncId} {args : Array Value} {w : World} {d : Nat} {os : Array Obj} {v : Value}
    (h : Calls P f args (Go.Sort.grow (redrawn w d) os) fun e w' => e = .returned v ∧ Go.Sort.grow (redrawn w d) os = w') : Calls P f args (Go.Sort.grow (redrawn w d) os) fun e w'' => e = .returned v ∧ ∃ p : Regrown, w'' = Go.Sort.grow (redrawn w p.d) p.os :=
  rg_of (h.mono fun _ _ ⟨he, hw⟩ => ⟨he, hw ▸ Kp.refl _⟩)

theorem cut12 {w : World} {a : Option Addr} {len cap : Nat} {z : List Int} (h : IsRow .i64 w a len cap z) :
    (len ≤ 12 ∧ ∃ l : List Int, l.length = len ∧ IsInts w a l ∧ len ≤ cap ∧ cap ≤ 9223372036854775807) ∨ (12 < len ∧ ∃ l : List Int, l.length = 12 ∧ IsInts w a l ∧ len ≤ cap ∧ cap ≤ 9223372036854775807) := by
  by_cases h12 : len ≤ 12
  · obtain ⟨l, hl, hI, _, hc, hm⟩ := h.cut len (Nat.le_refl _)
    unfold maxLen at hm
    exact Or.inl ⟨h12, l, hl, hI, hc, by omega⟩
  · obtain ⟨l, hl, hI, _, hc, hm⟩ := h.cut 12 (by omega)
    unfold maxLen at hm
    exact Or.inr ⟨by omega, l, hl, hI, hc, by omega⟩

set_option maxRecDepth 100000 in
set_option maxHeartbeats 1000000 in
theorem walk_StemDirections (a0 : Option Addr) (len0 cap0 : Nat) (z0 : List Int) (a1 : Int) (a2_0 a2_1 : Int) (w : World) (w0 : IsRow .i64 w a0 len0 cap0 z0) (_w1 : (Lit.int .i64 a1).wf = true) (_w2_0 : (Lit.int .i64 a2_0).wf = true) (_w2_1 : (Lit.int .i64 a2_1).wf = true) :
    Calls Try.prog 3 #[.slice a0 len0 cap0, .int .i64 a1, .agg #[.int .i64 a2_0, .int .i64 a2_1]] w fun e w' => e = .returned (.bool true) ∧ Kp w w' := by
  have hc := cut12 w0
  clear w0
  rcases hc with ⟨h12, l, hl, hI, hc, hm⟩ | ⟨h12, l, hl, hI, hc, hm⟩ <;>
  (have hup := fun (W : World) (hk : IsInts W a0 l) => Up_any a0 l cap0 a1 a2_0 a2_1 W hk (by omega)
   have hup2 := fun (W : World) (hk : IsInts W a0 l) => up_any a0 l cap0 a1 a2_0 a2_1 W hk (by omega)
   rw [hl] at hup hup2
   have Hup := Lib.hid hup
   have Hup2 := Lib.hid hup2
   have H := Lib.hid hI
   clear hI hup hup2 hl
   go_enter Try.func3, Try.ntmps3
   go_wp2_with fail
   obtain ⟨W0, hW0⟩ : ∃ W0, w.alloc (.cells #[.int .i64 a2_0, .int .i64 a2_1] 23) = W0 := ⟨_, rfl⟩
   have hr : HasRow W0 w.heap.size #[.int .i64 a2_0, .int .i64 a2_1] 23 := by rw [← hW0]; exact HasRow.new _ _ _
   have k0 := cell_rg (hr.cell 0)
   have k1 := cell_rg (hr.cell 1)
   have HI := Lib.hid (show IsInts W0 a0 l from by rw [← hW0]; exact H.out.kp (Kp.alloc _ _))
   have Hk := Lib.hid (show Kp w W0 from by rw [← hW0]; exact Kp.alloc _ _)
   rw [hW0]
   clear hW0 hr
   refine wp_region_quiet_below (by kernel_rfl) (by kernel_rfl) ?_
   repeat (go_big_quiet_step (first
     | (go_at_call 19; exact rg_of (known_any _))
     | (go_at_call 20; exact rg_same (Hup.out _ (HI.out.kp (kp_rg _ _ _))))
     | (go_at_call 21; exact rg_same (Hup2.out _ (HI.out.kp (kp_rg _ _ _))))))
   refine wpQuiet_nil ?_
   intro _ hw'
   obtain ⟨⟨dq, osq⟩, hw''⟩ := hw'
   subst hw''
   go_wp2
   go_ret
   exact ⟨ret_bool (by simp), Hk.out.trans (kp_rg _ _ _)⟩)
end Go.Proofs.Ytdndehlhodigoaa
