/- Edges, crossings in plain numbers; rows of new blocks; what a round of shape.crossed keeps. -/
import Derived.RegionTactic
import Derived.Test.YtejmliomagnjfaaPoints
namespace Go.Proofs.Ytejmliomagnjfaa
open Go Go.RowKit Go.Shelf

attribute [local go_sem] Oper.semAt_some

/-- Does an edge from a to b lie to the right of a point, at its height? -/
def edge (a b : Int × Int) (px py : Int) : Bool :=
  if b.2 < a.2 then decide (b.2 ≤ py) && decide (py < a.2) && decide ((px - b.1) * (a.2 - b.2) < (py - b.2) * (a.1 - b.1))
  else decide (a.2 ≤ py) && decide (py < b.2) && decide ((px - a.1) * (b.2 - a.2) < (py - a.2) * (b.1 - a.1))

/-- The walk along the points: the last one, and how many edges so far. -/
def walkTo (px py : Int) (s : (Int × Int) × Nat) (l : List (Int × Int)) : (Int × Int) × Nat :=
  l.foldl (fun s b => (b, s.2 + if edge s.1 b px py then 1 else 0)) s
theorem walkTo_snoc (px py : Int) (s : (Int × Int) × Nat) (l : List (Int × Int)) (b : Int × Int) :
    walkTo px py s (l ++ [b]) = (b, (walkTo px py s l).2 + if edge (walkTo px py s l).1 b px py then 1 else 0) := by simp only [walkTo, List.foldl_append]; rfl
theorem walkTo_le (px py : Int) (s : (Int × Int) × Nat) (l : List (Int × Int)) : (walkTo px py s l).2 ≤ s.2 + l.length := by
  induction l generalizing s with
  | nil => simp [walkTo]
  | cons b l ih =>
    have := ih (b, s.2 + if edge s.1 b px py then 1 else 0)
    have e : walkTo px py s (b :: l) = walkTo px py (b, s.2 + if edge s.1 b px py then 1 else 0) l := rfl
    rw [e, List.length_cons]
    have h1 : (if edge s.1 b px py then 1 else 0 : Nat) ≤ 1 := by split <;> omega
    simp only at this
    omega

def Sh.last (s : Sh) : Int × Int := pt s (s.pts.length - 1)
def Sh.crossed (s : Sh) (px py : Int) : Nat := (walkTo px py (s.last, 0) s.pts).2

theorem calls_of_wp_marks {P : Program} {f : FuncId} {fn : Func} {c : Code} {args : Array Value} {w : World} {R : Ending → World → Prop}
    (hf : P.funcs[f]? = some fn) (hb : fn.body = some c)
    (h : c.wp P (bodyPostM Fence.wide 9 P fn R) { tmps := args ++ Array.replicate (fn.ntmps - args.size) undef, defers := [] } w) : Calls P f args w R :=
  callsIn_wide.1 (callsIn_of_wp_marks hf hb trivial (wpIn_wide.2 h))

/-- A block of the call's own, known whole. -/
def HasRow (W : World) (b : Nat) (A : Array Value) (t : TypeId) : Prop := W.heap[b]? = some (.cells A t (0, 0))
theorem HasRow.lt {W : World} {b : Nat} {A : Array Value} {t : TypeId} (h : HasRow W b A t) : b < W.heap.size := (Array.getElem?_eq_some_iff.1 h).1
theorem HasRow.new (W : World) (A : Array Value) (t : TypeId) : HasRow (W.alloc (.cells A t)) W.heap.size A t := heap_alloc_new _ _
theorem HasRow.kept {W W' : World} {row : Option Nat} {b : Nat} {A : Array Value} {t : TypeId} (h : HasRow W b A t) (hg : W.grownBy W' row) (hne : some b ≠ row) : HasRow W' b A t := (hg.block b h.lt hne).trans h
theorem HasRow.alloc {W : World} {b : Nat} {A : Array Value} {t : TypeId} (h : HasRow W b A t) (o : Obj) : HasRow (W.alloc o) b A t := ((Kp.alloc W o).heap h.lt).trans h
theorem HasRow.cell {W : World} {b : Nat} {A : Array Value} {t : TypeId} (h : HasRow W b A t) (j : Nat) : W.cell? ⟨b, j, none⟩ = A[j]? := by simp [World.cell?, show W.heap[b]? = _ from h]
theorem HasRow.frozen {W : World} {b : Nat} {A : Array Value} {t : TypeId} (h : HasRow W b A t) (j : Nat) : W.frozen? ⟨b, j, none⟩ = false := by simp [World.frozen?, show W.heap[b]? = _ from h]
theorem HasRow.set {W : World} {b : Nat} {A : Array Value} {t : TypeId} (h : HasRow W b A t) (j : Nat) (v : Value) : HasRow (W.setCell ⟨b, j, none⟩ v) b (A.setIfInBounds j v) t := heap_setCell_same _ _ _ _ _ _ h
theorem HasRow.other {W : World} {b : Nat} {A : Array Value} {t : TypeId} (h : HasRow W b A t) (a : Addr) (v : Value) (hne : b ≠ a.block) : HasRow (W.setCell a v) b A t := (heap_setCell_other _ _ _ _ hne).trans h
theorem HasRow.kp {W W' : World} {b : Nat} {A : Array Value} {t : TypeId} (h : HasRow W b A t) (hk : Kp W W') : HasRow W' b A t := (hk.heap h.lt).trans h
theorem HasRow.own (b : Nat) (t : TypeId) {β : Type} (f : β → Array Value) : Own (fun (s : β) W => HasRow W b (f s) t) := fun s X Y row hs hg hrow =>
  hs.kept hg (fun e' => by obtain ⟨o, ho, hc⟩ := hrow b e'.symm; rw [show X.heap[b]? = _ from hs] at ho; cases ho; cases hc)

theorem enters_points1 : ∀ vs w, (callFunc 44 vs).run Try.prog w = .ok (.enter 44 vs) w := enters_of Try.func44 (by kernel_rfl) rfl

/-- Between two rounds: the point, the count, the last point, the boxed shape; what was there is as it was. -/
def CrossI (w : World) (px py : Int) (a0 : Int × Int) (cs : Array Value) (b1 b2 b3 b4 : Nat) (pre : List BP) (W : World) : Prop :=
  HasRow W b1 #[.int .i64 px, .int .i64 py] 44 ∧ HasRow W b2 #[.int .i64 ((walkTo px py (a0, 0) (pre.map Subtype.val)).2 : Int)] 3 ∧
  HasRow W b3 #[.int .i64 (walkTo px py (a0, 0) (pre.map Subtype.val)).1.1, .int .i64 (walkTo px py (a0, 0) (pre.map Subtype.val)).1.2] 44 ∧ HasRow W b4 cs 77 ∧ BdP (walkTo px py (a0, 0) (pre.map Subtype.val)).1 ∧ Kp w W

theorem crossI_own (w : World) (px py : Int) (a0 : Int × Int) (cs : Array Value) (b1 b2 b3 b4 : Nat) (W0 : World) (h : w.heap.size ≤ W0.heap.size) : OwnFrom W0.heap.size (fun pre W => CrossI w px py a0 cs b1 b2 b3 b4 pre W) :=
  OwnFrom.and ((HasRow.own b1 _ _).from _) (OwnFrom.and ((HasRow.own b2 _ _).from _) (OwnFrom.and ((HasRow.own b3 _ _).from _) (OwnFrom.and ((HasRow.own b4 _ _).from _) (OwnFrom.and (fun _ _ _ _ h _ _ => h) (ownFrom_below (Nat.le_refl _) h)))))

/-- Behind the two new variables: they hold the last point and the point, in either order of their making. -/
def CrossMid (W : World) (p q : Int × Int) (fr : Nat → Nat → Array Value) (e : Exit) (a' : Act) (W' : World) : Prop :=
  e = .normal ∧ ∃ B8 B9, a' = { tmps := fr B8 B9, defers := [] } ∧ W.heap.size ≤ B8 ∧ W.heap.size ≤ B9 ∧ B8 ≠ B9 ∧ HasRow W' B8 #[.int .i64 p.1, .int .i64 p.2] 44 ∧ HasRow W' B9 #[.int .i64 q.1, .int .i64 q.2] 44 ∧ Kp W W' ∧ KeepsOthers W W'
theorem crossMid_a (W : World) (p q : Int × Int) (fr : Nat → Nat → Array Value) :
    CrossMid W p q fr .normal { tmps := fr (W.heap.size + 1) W.heap.size, defers := [] } ((W.alloc (.cells #[.int .i64 q.1, .int .i64 q.2] 44)).alloc (.cells #[.int .i64 p.1, .int .i64 p.2] 44)).drew :=
  ⟨rfl, _, _, rfl, by omega, by omega, by omega, by have := HasRow.new (W.alloc (.cells #[.int .i64 q.1, .int .i64 q.2] 44)) #[.int .i64 p.1, .int .i64 p.2] 44; rwa [World.size_alloc] at this, (HasRow.new W _ _).alloc _, ((Kp.alloc _ _).trans (Kp.alloc _ _)).drew, ((KeepsOthers.alloc _ _).trans (KeepsOthers.alloc _ _)).trans (KeepsOthers.drew _)⟩
theorem crossMid_b (W : World) (p q : Int × Int) (fr : Nat → Nat → Array Value) :
    CrossMid W p q fr .normal { tmps := fr W.heap.size (W.heap.size + 1), defers := [] } ((W.alloc (.cells #[.int .i64 p.1, .int .i64 p.2] 44)).alloc (.cells #[.int .i64 q.1, .int .i64 q.2] 44)).drew :=
  ⟨rfl, _, _, rfl, by omega, by omega, by omega, (HasRow.new W _ _).alloc _, by have := HasRow.new (W.alloc (.cells #[.int .i64 p.1, .int .i64 p.2] 44)) #[.int .i64 q.1, .int .i64 q.2] 44; rwa [World.size_alloc] at this, ((Kp.alloc _ _).trans (Kp.alloc _ _)).drew, ((KeepsOthers.alloc _ _).trans (KeepsOthers.alloc _ _)).trans (KeepsOthers.drew _)⟩

theorem wrapMul {A B : Int} (h1 : -200000 ≤ A) (h2 : A ≤ 200000) (h3 : -200000 ≤ B) (h4 : B ≤ 200000) : wrap64 (A * B) = A * B := by
  have ha : A.natAbs ≤ 200000 := by omega
  have hb : B.natAbs ≤ 200000 := by omega
  have hm : (A * B).natAbs ≤ 40000000000 := by
    rw [Int.natAbs_mul]
    exact Nat.le_trans (Nat.mul_le_mul ha hb) (by decide)
  generalize A * B = c at hm ⊢
  unfold wrap64; omega

/-- What the rows hold within a round, the two new variables apart. -/
structure CrossZ (w : World) (px py : Int) (p : Int × Int) (cs : Array Value) (W Z : World) (m : Int) : Prop where
  r1 : HasRow Z (w.heap.size + 1) #[.int .i64 px, .int .i64 py] 44
  r2 : HasRow Z (w.heap.size + 1 + 1) #[.int .i64 m] 3
  r3 : HasRow Z (w.heap.size + 1 + 1 + 1) #[.int .i64 p.1, .int .i64 p.2] 44
  r4 : HasRow Z (w.heap.size + 1 + 1 + 1 + 1) cs 77
  kp : Kp w Z
  others : KeepsOthers W Z
  lt : w.heap.size + 1 + 1 + 1 + 1 < W.heap.size
  row : HasRow W (w.heap.size + 1 + 1 + 1 + 1) cs 77
theorem kp_putObj {w : World} {D : Nat} {o o' : Obj} (h : w.heap.size ≤ D) {W : World} (hk : Kp w W) (_ : W.heap[D]? = some o) : Kp w (W.putObj D o') :=
  Below.trans hk ⟨rfl, rfl, rfl, by simp, fun k hk' => World.putObj_heap_other (by omega)⟩
theorem Kp.set {w Z : World} (h : Kp w Z) {a : Addr} (ha : w.heap.size ≤ a.block) (v : Value) : Kp w (Z.setCell a v) := Below.setCell h ha v
theorem CrossZ.new {w : World} {px py : Int} {p : Int × Int} {cs : Array Value} {W Z : World} {m : Int} (h : CrossZ w px py p cs W Z m) {B : Nat} (hB : W.heap.size ≤ B) (j : Nat) (v : Value) : CrossZ w px py p cs W (Z.setCell ⟨B, j, none⟩ v) m := by
  have := h.lt
  exact ⟨h.r1.other _ _ (by dsimp only; omega), h.r2.other _ _ (by dsimp only; omega), h.r3.other _ _ (by dsimp only; omega), h.r4.other _ _ (by dsimp only; omega), h.kp.set (by dsimp only; omega) _, h.others.trans (KeepsOthers.setCell _ _ _), h.lt, h.row⟩
theorem CrossZ.n {w : World} {px py : Int} {p : Int × Int} {cs : Array Value} {W Z : World} {m : Int} (h : CrossZ w px py p cs W Z m) (m' : Int) : CrossZ w px py p cs W (Z.setCell ⟨w.heap.size + 1 + 1, 0, none⟩ (.int .i64 m')) m' := by
  have := h.lt
  exact ⟨h.r1.other _ _ (by dsimp only; omega), h.r2.set 0 _, h.r3.other _ _ (by dsimp only; omega), h.r4.other _ _ (by dsimp only; omega), h.kp.set (by dsimp only; omega) _, h.others.trans (KeepsOthers.setCell _ _ _), h.lt, h.row⟩

theorem crossEnd {w : World} {px py : Int} {a0 p : Int × Int} {na : Nat} {cs : Array Value} {W Z : World} {m : Int} {pre : List BP} {x : BP} (hw : walkTo px py (a0, 0) (pre.map Subtype.val) = (p, na)) (h : CrossZ w px py p cs W Z m)
    (hm : m = ((na + if edge p x.1 px py then 1 else 0 : Nat) : Int)) (B : Nat) (a' : Act) :
    ownPostG B (fun W W' => W'.heap[w.heap.size + 1 + 1 + 1 + 1]? = W.heap[w.heap.size + 1 + 1 + 1 + 1]?)
      (fun pre W => CrossI w px py a0 cs (w.heap.size + 1) (w.heap.size + 1 + 1) (w.heap.size + 1 + 1 + 1) (w.heap.size + 1 + 1 + 1 + 1) pre W) (fun _ _ _ => False) (pre ++ [x]) W Exit.normal a'
      ((Z.setCell ⟨w.heap.size + 1 + 1 + 1, 0, none⟩ (.int .i64 x.1.1)).setCell ⟨w.heap.size + 1 + 1 + 1, 1, none⟩ (.int .i64 x.1.2)) := by
  have e : walkTo px py (a0, 0) ((pre ++ [x]).map Subtype.val) = (x.1, na + if edge p x.1 px py then 1 else 0) := by
    rw [List.map_append, List.map_cons, List.map_nil, walkTo_snoc, hw]
  refine ⟨((h.others.trans (KeepsOthers.setCell _ _ _)).trans (KeepsOthers.setCell _ _ _)).from _, ?_, ?_⟩
  · exact ((h.r4.other _ _ (by dsimp only; omega)).other _ _ (by dsimp only; omega)).trans h.row.symm
  · refine ⟨(h.r1.other _ _ (by dsimp only; omega)).other _ _ (by dsimp only; omega), ?_, ?_, (h.r4.other _ _ (by dsimp only; omega)).other _ _ (by dsimp only; omega), ?_, (h.kp.set (by dsimp only; omega) _).set (by dsimp only; omega) _⟩
    · rw [e, ← hm]; exact (h.r2.other _ _ (by dsimp only; omega)).other _ _ (by dsimp only; omega)
    · rw [e]; exact (h.r3.set 0 _).set 1 _
    · rw [e]; exact x.2

section
variable {ax ay bx cy px py : Int}
theorem eg1 (h1 : cy < ay) (h2 : cy ≤ py) (h3 : py < ay) (h4 : (px - bx) * (ay - cy) < (py - cy) * (ax - bx)) : edge (ax, ay) (bx, cy) px py = true := by simp [edge, h1, h2, h3, h4]
theorem eg2 (h1 : cy < ay) (h2 : cy ≤ py) (h3 : py < ay) (h4 : (py - cy) * (ax - bx) ≤ (px - bx) * (ay - cy)) : edge (ax, ay) (bx, cy) px py = false := by simp [edge, h1, h2, h3, h4]
theorem eg3 (h1 : cy < ay) (_ : cy ≤ py) (h3 : ay ≤ py) : edge (ax, ay) (bx, cy) px py = false := by simp only [edge, h1, if_true]; simp; intros; omega
theorem eg4 (h1 : cy < ay) (h2 : py < cy) : edge (ax, ay) (bx, cy) px py = false := by simp only [edge, h1, if_true]; simp; intros; omega
theorem eg5 (h1 : ay ≤ cy) (h2 : ay ≤ py) (h3 : py < cy) (h4 : (px - ax) * (cy - ay) < (py - ay) * (bx - ax)) : edge (ax, ay) (bx, cy) px py = true := by simp [edge, Int.not_lt.2 h1, h2, h3, h4]
theorem eg6 (h1 : ay ≤ cy) (h2 : ay ≤ py) (h3 : py < cy) (h4 : (py - ay) * (bx - ax) ≤ (px - ax) * (cy - ay)) : edge (ax, ay) (bx, cy) px py = false := by simp [edge, Int.not_lt.2 h1, h2, h3, h4]
theorem eg7 (h1 : ay ≤ cy) (_ : ay ≤ py) (h3 : cy ≤ py) : edge (ax, ay) (bx, cy) px py = false := by simp only [edge, Int.not_lt.2 h1, if_false]; simp; intros; omega
theorem eg8 (h1 : ay ≤ cy) (h2 : py < ay) : edge (ax, ay) (bx, cy) px py = false := by simp only [edge, Int.not_lt.2 h1, if_false]; simp; intros; omega
end

end Go.Proofs.Ytejmliomagnjfaa
