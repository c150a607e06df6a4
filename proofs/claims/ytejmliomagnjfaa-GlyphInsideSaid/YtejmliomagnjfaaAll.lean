/- The contract of glyph.all: for every code the glyph's name and a slice of its shapes, in blocks of the call's own; what was there stays as it was. -/
import Derived.Test.YtejmliomagnjfaaShapes
namespace Go.Proofs.Ytejmliomagnjfaa
open Go Go.RowKit Go.Shelf

def inB (x : Int) : Bool := decide (-1000 ≤ x) && decide (x ≤ 1000)
theorem inB_iff {x : Int} (h : inB x = true) : -1000 ≤ x ∧ x ≤ 1000 := by simpa [inB] using h

/-- A shape's value. -/
def Sh.value (s : Sh) : Value := .agg (ints s.nums).toArray
def shD (s : Sh) : D := .val s.value

def callShape (f : FuncId) (args : List Value) : Option D :=
  match args with
  | [.int .i64 l, .int .i64 b, .int .i64 r, .int .i64 t] =>
    if f = 40 then some (shD ⟨0, l, b, r, t, 0⟩)
    else if f = 39 ∧ (inB l && inB b && inB r && inB t && decide (l ≤ r) && decide (b ≤ t)) = true then some (shD ⟨1, l, b, r, t, 0⟩)
    else none
  | [.int .i64 l, .int .i64 b, .int .i64 r, .int .i64 t, .int .i64 e] =>
    if f = 41 ∧ (inB b && inB t && inB e) = true then some (shD ⟨2, l, b, r, t, e⟩) else none
  | _ => none

def knownAll : Known where
  call := callShape
  bt := fun t => if t = 58 then some (([(0, 1), (1, 1)][·]?), 2) else if t = 59 then some ((fun i => some (i * 2, 2)), 136) else none
  st := fun t => if t = 56 then some (77, 17) else none

theorem enters_box : ∀ vs w, (callFunc 40 vs).run Try.prog w = .ok (.enter 40 vs) w := enters_of Try.func40 (by kernel_rfl) rfl
theorem enters_octagon : ∀ vs w, (callFunc 39 vs).run Try.prog w = .ok (.enter 39 vs) w := enters_of Try.func39 (by kernel_rfl) rfl
theorem enters_stroke : ∀ vs w, (callFunc 41 vs).run Try.prog w = .ok (.enter 41 vs) w := enters_of Try.func41 (by kernel_rfl) rfl

theorem call_holds : ∀ f args d, callShape f args = some d → (∀ vs w, (callFunc f vs).run Try.prog w = .ok (.enter f vs) w) ∧
    ∀ w, Calls Try.prog f args.toArray w fun e w' => ∃ v, e = .returned v ∧ (∀ n₀ w'', Rel n₀ w'' d v) ∧ Kp w w' := by
  intro f args d h
  unfold callShape at h
  split at h
  · rename_i l b r t
    split at h
    · rename_i hf
      subst hf
      simp only [Option.some.injEq] at h
      subst h
      refine ⟨enters_box, fun w => (box_any l b r t w).mono ?_⟩
      rintro e w' ⟨rfl, hk⟩
      exact ⟨_, rfl, fun _ _ => rfl, hk⟩
    · split at h
      · rename_i hf
        obtain ⟨rfl, hb⟩ := hf
        simp only [Option.some.injEq] at h
        subst h
        simp only [Bool.and_eq_true, decide_eq_true_eq] at hb
        obtain ⟨⟨⟨⟨⟨h1, h2⟩, h3⟩, h4⟩, h5⟩, h6⟩ := hb
        refine ⟨enters_octagon, fun w => (octagon_any l b r t (inB_iff h1) (inB_iff h2) (inB_iff h3) (inB_iff h4) h5 h6 w).mono ?_⟩
        rintro e w' ⟨rfl, hk⟩
        exact ⟨_, rfl, fun _ _ => rfl, hk⟩
      · simp at h
  · rename_i l b r t e
    split at h
    · rename_i hf
      obtain ⟨rfl, hb⟩ := hf
      simp only [Option.some.injEq] at h
      subst h
      simp only [Bool.and_eq_true] at hb
      obtain ⟨⟨h1, h2⟩, h3⟩ := hb
      refine ⟨enters_stroke, fun w => (stroke_any l b r t e (inB_iff h1) (inB_iff h2) (inB_iff h3) w).mono ?_⟩
      rintro e w' ⟨rfl, hk⟩
      exact ⟨_, rfl, fun _ _ => rfl, hk⟩
    · simp at h
  · simp at h

theorem zeroG : (Try.prog.info? 58).map (·.zero) = some (some (.agg #[.string ⟨#[]⟩, .slice none 0 0])) := by kernel_rfl
theorem zeroA : ((Try.prog.info? 59).bind (·.zero)).map (fun v => v.cells.size) = some 136 := by kernel_rfl
theorem sizeG : (Try.prog.info? 58).map (·.size) = some 2 := by kernel_rfl

theorem knownAll_holds : knownAll.Holds Try.prog where
  call := call_holds
  bt := by
    intro t pl n h
    simp only [knownAll] at h
    split at h
    · rename_i ht
      subst ht
      simp only [Option.some.injEq, Prod.mk.injEq] at h
      obtain ⟨rfl, rfl⟩ := h
      exact ⟨_, rfl, built_struct zeroG Try.underlying58 (by kernel_rfl)⟩
    · split at h
      · rename_i ht
        subst ht
        simp only [Option.some.injEq, Prod.mk.injEq] at h
        obtain ⟨rfl, rfl⟩ := h
        have hz := zeroA
        simp only [Option.map_eq_some_iff, Option.bind_eq_some_iff] at hz
        obtain ⟨z, ⟨i, hi, hz⟩, hs⟩ := hz
        exact ⟨z.cells, hs, built_array (by rw [hi]; simp [hz]) Try.underlying59 sizeG⟩
      · simp at h
  st := by
    intro t e s h
    simp only [knownAll] at h
    split at h
    · rename_i ht
      subst ht
      simp only [Option.some.injEq, Prod.mk.injEq] at h
      obtain ⟨rfl, rfl⟩ := h
      have hz : ((Try.prog.info? 77).map fun i => (i.zero.isSome, i.size)) = some (true, 17) := by kernel_rfl
      simp only [Option.map_eq_some_iff, Prod.mk.injEq] at hz
      obtain ⟨i, hi, h1, h2⟩ := hz
      obtain ⟨z, hz⟩ := Option.isSome_iff_exists.1 h1
      exact ⟨Try.underlying56, i, z, hi, hz, h2⟩
    · simp at h

end Go.Proofs.Ytejmliomagnjfaa
