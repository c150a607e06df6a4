/- Note values and the codes of rests and flags: contracts of duration.Check, glyph.Rest, glyph.Flag. -/
import Derived.Test.YtdndehlhodigoaaEnds
import Derived.Test.YtdndehlhodigoaaBoxIn
namespace Go.Proofs.Ytdndehlhodigoaa
open Go Go.RowKit Go.Shelf

def valG (lg dots : Int) : Int := if lg < -1 ∨ 8 < lg ∨ dots < 0 ∨ 3 < dots then 17 else 0
theorem val_cases (lg dots : Int) : (lg < -1 ∧ valG lg dots = 17) ∨ (¬ lg < -1 ∧ 8 < lg ∧ valG lg dots = 17) ∨ (¬ lg < -1 ∧ ¬ 8 < lg ∧ dots < 0 ∧ valG lg dots = 17) ∨ (¬ lg < -1 ∧ ¬ 8 < lg ∧ ¬ dots < 0 ∧ 3 < dots ∧ valG lg dots = 17) ∨ (¬ lg < -1 ∧ ¬ 8 < lg ∧ ¬ dots < 0 ∧ ¬ 3 < dots ∧ valG lg dots = 0) := by
  unfold valG
  by_cases a : lg < -1 <;> by_cases b : 8 < lg <;> by_cases c : dots < 0 <;> by_cases d : 3 < dots <;> simp [a, b, c, d]

theorem Check_any (lg dots : Int) (w : World) : Calls Try.prog 30 #[.agg #[.int .i64 lg, .int .i64 dots]] w fun e w' => e = .returned (.int .i64 (valG lg dots)) ∧ Kp w w' := by
  rcases val_cases lg dots with ⟨h1, hg⟩ | ⟨h1, h2, hg⟩ | ⟨h1, h2, h3, hg⟩ | ⟨h1, h2, h3, h4, hg⟩ | ⟨h1, h2, h3, h4, hg⟩ <;>
    (rw [hg]; go_enter Try.func30, Try.ntmps30; go_wp2)
  all_goals
    go_ret
    exact ⟨ret_int rfl, Kp.alloc _ _⟩

def restG (lg : Int) : Value := if lg < -1 ∨ 8 < lg then .tuple #[.int .i64 0, .int .i64 17] else .tuple #[.int .i64 (lg + 6), .int .i64 0]
theorem Rest_any (lg : Int) (w : World) : Calls Try.prog 31 #[.int .i64 lg] w fun e w' => e = .returned (restG lg) ∧ w = w' := by
  by_cases h1 : lg < -1
  · go_enter Try.func31, Try.ntmps31
    go_wp2
    go_ret2
    exact ⟨by unfold restG; rw [if_pos (Or.inl h1)]; rfl, rfl⟩
  by_cases h2 : 8 < lg
  · go_enter Try.func31, Try.ntmps31
    go_wp2
    go_ret2
    exact ⟨by unfold restG; rw [if_pos (Or.inr h2)]; rfl, rfl⟩
  · go_enter Try.func31, Try.ntmps31
    go_wp2
    go_ret2
    exact ⟨by unfold restG; rw [if_neg (by omega)]; rfl, rfl⟩
end Go.Proofs.Ytdndehlhodigoaa
