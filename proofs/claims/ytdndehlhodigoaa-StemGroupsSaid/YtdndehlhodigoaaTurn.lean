/- Mirror images of chords in plain numbers; a slice that the call has made, as integers. -/
import Derived.Laws.AppendOwn
import Derived.Test.YtdndehlhodigoaaLawC
namespace Go.Proofs.Ytdndehlhodigoaa
open Go Go.RowKit Go.Shelf

theorem mxTo_spec (l : List Int) : ∀ k, k < l.length → mxTo l (k + 1) ∈ l ∧ ∀ j x, j ≤ k → l[j]? = some x → x ≤ mxTo l (k + 1)
  | 0, h => by
    have e : l[0]? = some l[0] := by simp
    rw [mxTo_one l _ e]
    refine ⟨List.getElem_mem _, fun j x hj hx => ?_⟩
    obtain rfl : j = 0 := by omega
    rw [e] at hx; simp at hx; omega
  | k + 1, h => by
    have ⟨h1, h2⟩ := mxTo_spec l k (by omega)
    have e : l[k + 1]? = some l[k + 1] := by simp
    rw [mxTo_succ l (k + 1) _ e]
    refine ⟨?_, fun j x hj hx => ?_⟩
    · by_cases hle : mxTo l (k + 1) ≤ l[k + 1]
      · rw [Int.max_eq_right hle]; exact List.getElem_mem _
      · rw [Int.max_eq_left (by omega)]; exact h1
    · by_cases hj2 : j ≤ k
      · have := h2 j x hj2 hx; omega
      · obtain rfl : j = k + 1 := by omega
        rw [e] at hx; simp at hx; omega
theorem mnTo_spec (l : List Int) : ∀ k, k < l.length → mnTo l (k + 1) ∈ l ∧ ∀ j x, j ≤ k → l[j]? = some x → mnTo l (k + 1) ≤ x
  | 0, h => by
    have e : l[0]? = some l[0] := by simp
    rw [mnTo_one l _ e]
    refine ⟨List.getElem_mem _, fun j x hj hx => ?_⟩
    obtain rfl : j = 0 := by omega
    rw [e] at hx; simp at hx; omega
  | k + 1, h => by
    have ⟨h1, h2⟩ := mnTo_spec l k (by omega)
    have e : l[k + 1]? = some l[k + 1] := by simp
    rw [mnTo_succ l (k + 1) _ e]
    refine ⟨?_, fun j x hj hx => ?_⟩
    · by_cases hle : mnTo l (k + 1) ≤ l[k + 1]
      · rw [Int.min_eq_left hle]; exact h1
      · rw [Int.min_eq_right (by omega)]; exact List.getElem_mem _
    · by_cases hj2 : j ≤ k
      · have := h2 j x hj2 hx; omega
      · obtain rfl : j = k + 1 := by omega
        rw [e] at hx; simp at hx; omega
theorem mx_spec (l : List Int) (hl : l ≠ []) : mx l ∈ l ∧ ∀ x ∈ l, x ≤ mx l := by
  have hp : 0 < l.length := List.length_pos_iff.2 hl
  have ⟨h1, h2⟩ := mxTo_spec l (l.length - 1) (by omega)
  rw [show l.length - 1 + 1 = l.length by omega] at h1 h2
  refine ⟨h1, fun x hx => ?_⟩
  obtain ⟨j, hj, he⟩ := List.mem_iff_getElem.1 hx
  exact h2 j x (by omega) (by rw [List.getElem?_eq_getElem hj, he])
theorem mn_spec (l : List Int) (hl : l ≠ []) : mn l ∈ l ∧ ∀ x ∈ l, mn l ≤ x := by
  have hp : 0 < l.length := List.length_pos_iff.2 hl
  have ⟨h1, h2⟩ := mnTo_spec l (l.length - 1) (by omega)
  rw [show l.length - 1 + 1 = l.length by omega] at h1 h2
  refine ⟨h1, fun x hx => ?_⟩
  obtain ⟨j, hj, he⟩ := List.mem_iff_getElem.1 hx
  exact h2 j x (by omega) (by rw [List.getElem?_eq_getElem hj, he])

def turn1 (x : Int) : Int := -(min (max x (-300)) 300)
def turn (l : List Int) : List Int := l.reverse.map turn1
theorem turn_ok (x : Int) : okX (turn1 x) = okX x := by
  unfold okX turn1 clamp
  rw [Bool.eq_iff_iff]; simp only [decide_eq_true_eq]; omega
theorem turn_okL (l : List Int) : okL (turn l) = okL l := by
  unfold okL turn
  rw [List.all_map, List.all_reverse]
  congr 1
  funext x
  exact turn_ok x
theorem turn_nil (l : List Int) : turn l = [] ↔ l = [] := by simp [turn]
theorem turn_ext (l : List Int) (hl : l ≠ []) (hok : okL l = true) : mx (turn l) = -mn l ∧ mn (turn l) = -mx l := by
  have ht : turn l ≠ [] := fun h => hl ((turn_nil l).1 h)
  have hx : ∀ x ∈ l, turn1 x = -x := by
    intro x hx
    have := List.all_eq_true.1 hok x hx
    simp only [okX, decide_eq_true_eq] at this
    unfold clamp at this
    unfold turn1; omega
  have hin : ∀ y, y ∈ turn l → ∃ x ∈ l, y = -x := by
    intro y hy
    obtain ⟨x, hxm, rfl⟩ := List.mem_map.1 hy
    exact ⟨x, by simpa using hxm, hx x (by simpa using hxm)⟩
  have hout : ∀ x ∈ l, -x ∈ turn l := fun x hm => by
    rw [← hx x hm]; exact List.mem_map.2 ⟨x, by simpa using hm, rfl⟩
  have ⟨a1, a2⟩ := mx_spec (turn l) ht
  have ⟨b1, b2⟩ := mn_spec (turn l) ht
  have ⟨c1, c2⟩ := mx_spec l hl
  have ⟨d1, d2⟩ := mn_spec l hl
  constructor
  · obtain ⟨x, h1, h2⟩ := hin _ a1
    have h3 := d2 x h1
    have h4 := a2 _ (hout _ d1)
    omega
  · obtain ⟨x, h1, h2⟩ := hin _ b1
    have h3 := c2 x h1
    have h4 := b2 _ (hout _ c1)
    omega
theorem turn_check (l : List Int) (fl : Int) : checkG (turn l) fl = checkG l fl := by
  unfold checkG
  rw [turn_okL]
  by_cases h : l = []
  · rw [if_pos h, if_pos ((turn_nil l).2 h)]
  · rw [if_neg h, if_neg (fun e => h ((turn_nil l).1 e))]

/-- Both stems: the one of the chord and the one of its mirror image. -/
theorem turn_ends (l : List Int) (up : Bool) (fl : Int) : ∃ X Y, endsG l up fl = .tuple #[.int .i64 X, .int .i64 Y, .int .i64 (checkG l fl)] ∧
    endsG (turn l) (!up) fl = .tuple #[.int .i64 (-X), .int .i64 (-Y), .int .i64 (checkG l fl)] ∧ (-10000 ≤ X ∧ X ≤ 10000) ∧ (-10000 ≤ Y ∧ Y ≤ 10000) ∧
    (checkG l fl ≠ 0 → X = 0 ∧ Y = 0) ∧
    (checkG l fl = 0 → (up = true → 224 ≤ Y - 32 * mx l ∧ 0 ≤ Y) ∧ (up = false → 224 ≤ 32 * mn l - Y ∧ Y ≤ 0)) := by
  by_cases hg : checkG l fl = 0
  · have ⟨h1, h2, h3, h4⟩ := check_good l fl hg
    have hb := ok_bound l h1 h2
    have hb1 := clamp_le (mx l)
    have hb2 := clamp_le (mn l)
    have ⟨t1, t2⟩ := turn_ext l h1 h2
    unfold endsG
    rw [turn_check, if_pos hg, if_pos hg, hg, t1, t2]
    refine ⟨_, _, rfl, ?_, ?_, ?_, fun h => absurd rfl h, fun _ => ⟨fun hu => ?_, fun hu => ?_⟩⟩
    · cases up
      · refine congrArg Value.tuple ?_
        congr 3
        · simp; omega
        · congr 2
          · simp; omega
      · refine congrArg Value.tuple ?_
        congr 3
        · simp; omega
        · congr 2
          · simp; omega
    · cases up <;> simp <;> omega
    · cases up <;> simp <;> omega
    · subst hu; simp; omega
    · subst hu; simp; omega
  · unfold endsG
    rw [turn_check, if_neg hg, if_neg hg]
    exact ⟨0, 0, rfl, rfl, by omega, by omega, fun _ => ⟨rfl, rfl⟩, fun h => absurd h hg⟩

theorem owns_ints {w : World} {base : Nat} {e : TypeId} {v : Value} {n : Nat} {l : List Int} (h : w.ownsRow base e 1 v n (ints l)) : ∃ a c, v = .slice a n c ∧ IsInts w a l ∧ l.length = n := by
  obtain ⟨hl, h⟩ := h
  have hl' : l.length = n := by simpa [ints] using hl
  rcases h with ⟨rfl, rfl⟩ | ⟨g, cap, cur, rfl, _, hg, _, _, _, hc⟩
  · exact ⟨none, 0, rfl, Or.inl (by simpa using hl'), hl'⟩
  · refine ⟨_, _, rfl, Or.inr ⟨g, 0, rfl, fun j x hx => ?_⟩, hl'⟩
    have hj : j < l.length := (List.getElem?_eq_some_iff.1 hx).1
    have hx2 : (ints l)[j]? = some (.int .i64 x) := by simp [ints, hx]
    rw [← hc, List.getElem?_take, if_pos (by omega)] at hx2
    rw [Nat.zero_add]
    simp only [World.cell?, hg]
    simpa using hx2
end Go.Proofs.Ytdndehlhodigoaa
