/- Closed polygons and points outside of their boxes: the edges met are even in number. Plain numbers. -/
import Derived.Test.YtejmliomagnjfaaBox
namespace Go.Proofs.Ytejmliomagnjfaa
open Go

theorem nl_ge {u v t D : Int} (hu : 0 ≤ u) (hv : v ≤ u) (ht : 0 ≤ t) (hD : t ≤ D) : t * v ≤ u * D := by
  have h1 : t * v ≤ t * u := Int.mul_le_mul_of_nonneg_left hv ht
  have h2 : u * t ≤ u * D := Int.mul_le_mul_of_nonneg_left hD hu
  have h3 : t * u = u * t := Int.mul_comm _ _
  omega
theorem nl_lt {u v t D : Int} (hu : u < 0) (hv : u < v) (ht : 0 ≤ t) (hD : t < D) : u * D < t * v := by
  have h1 : u * (D - t) < 0 := Int.mul_neg_of_neg_of_pos hu (by omega)
  have h2 : t * u ≤ t * v := Int.mul_le_mul_of_nonneg_left (by omega) ht
  have h3 : u * D = u * (D - t) + u * t := by rw [← Int.mul_add]; congr 1; omega
  have h4 : t * u = u * t := Int.mul_comm _ _
  omega

theorem edge_low {a b : Int × Int} {px py B : Int} (ha : B ≤ a.2) (hb : B ≤ b.2) (h : py < B) : edge a b px py = false := by
  rw [Bool.eq_false_iff]; intro he
  unfold edge at he
  split at he <;> simp only [Bool.and_eq_true, decide_eq_true_eq] at he <;> omega
theorem edge_high {a b : Int × Int} {px py T : Int} (ha : a.2 ≤ T) (hb : b.2 ≤ T) (h : T ≤ py) : edge a b px py = false := by
  rw [Bool.eq_false_iff]; intro he
  unfold edge at he
  split at he <;> simp only [Bool.and_eq_true, decide_eq_true_eq] at he <;> omega
theorem edge_right {a b : Int × Int} {px py R : Int} (ha : a.1 ≤ R) (hb : b.1 ≤ R) (h : R ≤ px) : edge a b px py = false := by
  rw [Bool.eq_false_iff]; intro he
  unfold edge at he
  split at he
  · simp only [Bool.and_eq_true, decide_eq_true_eq] at he
    have := @nl_ge (px - b.1) (a.1 - b.1) (py - b.2) (a.2 - b.2) (by omega) (by omega) (by omega) (by omega)
    omega
  · simp only [Bool.and_eq_true, decide_eq_true_eq] at he
    have := @nl_ge (px - a.1) (b.1 - a.1) (py - a.2) (b.2 - a.2) (by omega) (by omega) (by omega) (by omega)
    omega
def side (p : Int × Int) (py : Int) : Bool := decide (p.2 ≤ py)
theorem edge_left {a b : Int × Int} {px py L : Int} (ha : L ≤ a.1) (hb : L ≤ b.1) (h : px < L) : edge a b px py = (side a py != side b py) := by
  unfold edge side
  split
  · rename_i hlt
    by_cases h1 : b.2 ≤ py
    · by_cases h2 : py < a.2
      · have h3 := @nl_lt (px - b.1) (a.1 - b.1) (py - b.2) (a.2 - b.2) (by omega) (by omega) (by omega) (by omega)
        have h4 : ¬ a.2 ≤ py := by omega
        simp [h1, h2, h3, h4]
      · have h4 : a.2 ≤ py := by omega
        simp [h1, h2, h4]
    · have h4 : ¬ a.2 ≤ py := by omega
      simp [h1, h4]
  · rename_i hlt
    by_cases h1 : a.2 ≤ py
    · by_cases h2 : py < b.2
      · have h3 := @nl_lt (px - a.1) (b.1 - a.1) (py - a.2) (b.2 - a.2) (by omega) (by omega) (by omega) (by omega)
        have h4 : ¬ b.2 ≤ py := by omega
        simp [h1, h2, h3, h4]
      · have h4 : b.2 ≤ py := by omega
        simp [h1, h2, h4]
    · have h4 : ¬ b.2 ≤ py := by omega
      simp [h1, h4]

theorem walkTo_cons (px py : Int) (s : (Int × Int) × Nat) (b : Int × Int) (l : List (Int × Int)) :
    walkTo px py s (b :: l) = walkTo px py (b, s.2 + if edge s.1 b px py then 1 else 0) l := rfl
theorem walkTo_none (px py : Int) : ∀ (l : List (Int × Int)) (s : (Int × Int) × Nat), (∀ a b, a ∈ s.1 :: l → b ∈ s.1 :: l → edge a b px py = false) → (walkTo px py s l).2 = s.2
  | [], s, _ => rfl
  | b :: l, s, h => by
    rw [walkTo_cons, h s.1 b (by simp) (by simp)]
    rw [walkTo_none px py l _ (fun a c ha hc => h a c (by simp at ha ⊢; exact Or.inr ha) (by simp at hc ⊢; exact Or.inr hc))]
    rfl
theorem walkTo_last (px py : Int) : ∀ (l : List (Int × Int)) (s : (Int × Int) × Nat), (walkTo px py s l).1 = l.getLastD s.1
  | [], s => rfl
  | b :: l, s => by
    rw [walkTo_cons, walkTo_last px py l]
    cases l <;> rfl
theorem walkTo_sides (px py L : Int) (hp : px < L) : ∀ (l : List (Int × Int)) (s : (Int × Int) × Nat), (∀ a, a ∈ s.1 :: l → L ≤ a.1) →
    (walkTo px py s l).2 % 2 = (s.2 + if side s.1 py != side (l.getLastD s.1) py then 1 else 0) % 2
  | [], s, _ => by simp [walkTo]
  | b :: l, s, h => by
    rw [walkTo_cons, walkTo_sides px py L hp l _ (fun a ha => h a (by simp at ha ⊢; exact Or.inr ha)), edge_left (h s.1 (by simp)) (h b (by simp)) hp]
    have e : (b :: l).getLastD s.1 = l.getLastD b := by cases l <;> rfl
    rw [e]
    simp only
    generalize side s.1 py = x
    generalize side b py = y
    generalize side (l.getLastD b) py = z
    cases x <;> cases y <;> cases z <;> simp <;> omega

/-- Within a box that holds all points of a closed polygon, or else an even number of edges. -/
theorem closed_even (px py : Int) (l : List (Int × Int)) (s : Int × Int) (hs : l.getLastD s = s) (q : Bx) (hq : ∀ a ∈ s :: l, q.l ≤ a.1 ∧ a.1 ≤ q.r ∧ q.b ≤ a.2 ∧ a.2 ≤ q.t)
    (h : px < q.l ∨ q.r ≤ px ∨ py < q.b ∨ q.t ≤ py) : (walkTo px py (s, 0) l).2 % 2 = 0 := by
  rcases h with h | h | h | h
  · rw [walkTo_sides px py q.l h l (s, 0) (fun a ha => (hq a ha).1)]
    have e : (s, 0).1 = s := rfl
    rw [e, hs]
    simp
  · rw [walkTo_none px py l (s, 0) (fun a b ha hb => edge_right (hq a ha).2.1 (hq b hb).2.1 h)]; rfl
  · rw [walkTo_none px py l (s, 0) (fun a b ha hb => edge_low (hq a ha).2.2.1 (hq b hb).2.2.1 h)]; rfl
  · rw [walkTo_none px py l (s, 0) (fun a b ha hb => edge_high (hq a ha).2.2.2 (hq b hb).2.2.2 h)]; rfl

def Bx.has (q : Bx) (p : Int × Int) : Prop := q.l ≤ p.1 ∧ p.1 ≤ q.r ∧ q.b ≤ p.2 ∧ p.2 ≤ q.t
def Bx.le (a c : Bx) : Prop := c.l ≤ a.l ∧ a.r ≤ c.r ∧ c.b ≤ a.b ∧ a.t ≤ c.t
theorem Bx.le_add (q : Bx) (p : Int × Int) : q.le (q.add p) ∧ (q.add p).has p := by unfold Bx.le Bx.has Bx.add; simp only; omega
theorem Bx.le_trans {a b c : Bx} (h : a.le b) (k : b.le c) : a.le c := by unfold Bx.le at *; omega
theorem Bx.has_le {a c : Bx} {p : Int × Int} (h : a.has p) (k : a.le c) : c.has p := by unfold Bx.le Bx.has at *; omega
theorem Bx.le_adds : ∀ (l : List (Int × Int)) (q : Bx), q.le (q.adds l) ∧ ∀ p ∈ l, (q.adds l).has p
  | [], q => ⟨by unfold Bx.le Bx.adds; simp, by simp⟩
  | p :: l, q => by
    have h := Bx.le_adds l (q.add p)
    have k := Bx.le_add q p
    have e : q.adds (p :: l) = (q.add p).adds l := rfl
    rw [e]
    refine ⟨Bx.le_trans k.1 h.1, fun x hx => ?_⟩
    rcases List.mem_cons.1 hx with rfl | hx
    · exact Bx.has_le k.2 h.1
    · exact h.2 x hx
theorem boxOf_le : ∀ (l : List Sh) (q : Bx), q.le (boxOf q l) ∧ ∀ s ∈ l, ∀ p ∈ s.pts, (boxOf q l).has p
  | [], q => ⟨by unfold Bx.le boxOf; simp, by simp⟩
  | s :: l, q => by
    have h := boxOf_le l (q.adds s.pts)
    have k := Bx.le_adds s.pts q
    have e : boxOf q (s :: l) = boxOf (q.adds s.pts) l := rfl
    rw [e]
    refine ⟨Bx.le_trans k.1 h.1, fun x hx p hp => ?_⟩
    rcases List.mem_cons.1 hx with rfl | hx
    · exact Bx.has_le (k.2 p hp) h.1
    · exact h.2 x hx p hp

theorem last_mem (s : Sh) : s.last ∈ s.pts ∧ s.pts.getLastD s.last = s.last := by
  unfold Sh.last pt
  rcases pts_length s with h | h
  · obtain ⟨a, b, c, d, e⟩ : ∃ a b c d, s.pts = [a, b, c, d] := by
      match hp : s.pts, h with
      | [a, b, c, d], _ => exact ⟨a, b, c, d, rfl⟩
    simp [e]
  · obtain ⟨a, b, c, d, a', b', c', d', e⟩ : ∃ a b c d a' b' c' d', s.pts = [a, b, c, d, a', b', c', d'] := by
      match hp : s.pts, h with
      | [a, b, c, d, a', b', c', d'], _ => exact ⟨a, b, c, d, a', b', c', d', rfl⟩
    simp [e]

theorem crossed_even (s : Sh) (q : Bx) (hq : ∀ p ∈ s.pts, q.has p) (px py : Int) (h : px < q.l ∨ q.r ≤ px ∨ py < q.b ∨ q.t ≤ py) : s.crossed px py % 2 = 0 := by
  have ⟨h1, h2⟩ := last_mem s
  refine closed_even px py s.pts s.last h2 q (fun a ha => ?_) h
  rcases List.mem_cons.1 ha with rfl | ha
  · exact hq _ h1
  · exact hq _ ha
theorem insideN_even : ∀ (l : List Sh) (q : Bx), (∀ s ∈ l, ∀ p ∈ s.pts, q.has p) → ∀ px py, (px < q.l ∨ q.r ≤ px ∨ py < q.b ∨ q.t ≤ py) → insideN l px py % 2 = 0
  | [], q, _, px, py, _ => by simp [insideN]
  | s :: l, q, hq, px, py, h => by
    have h1 := crossed_even s q (hq s (by simp)) px py h
    have h2 := insideN_even l q (fun x hx => hq x (by simp [hx])) px py h
    have e : insideN (s :: l) px py = s.crossed px py + insideN l px py := by simp [insideN]
    omega

/-- A point inside of a glyph lies within its box. -/
theorem inside_box (code : Nat) (px py : Int) (h : insideG code px py = true) : (boxG code).l ≤ px ∧ px < (boxG code).r ∧ (boxG code).b ≤ py ∧ py < (boxG code).t := by
  have hb := (boxOf_le (shapesAt code) Bx.start).2
  by_cases ho : px < (boxG code).l ∨ (boxG code).r ≤ px ∨ py < (boxG code).b ∨ (boxG code).t ≤ py
  · have := insideN_even (shapesAt code) (boxG code) hb px py ho
    unfold insideG at h
    simp [this] at h
  · omega
end Go.Proofs.Ytejmliomagnjfaa
