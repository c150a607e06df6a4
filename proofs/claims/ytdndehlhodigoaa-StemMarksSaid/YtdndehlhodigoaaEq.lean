/- '==' at structs whose cells are integers: a value equals itself. -/
import Derived.Test.YtdndehlhodigoaaMark
namespace Go.Proofs.Ytdndehlhodigoaa
open Go Go.RowKit Go.Shelf

set_option maxHeartbeats 1000000 in
theorem eq_id (x0 x1 : Int) (w : World) : (binOp .eql 39 (.agg #[.int .i64 x0, .int .i64 x1]) (.agg #[.int .i64 x0, .int .i64 x1])).run Try.prog w = .ok (.bool true) w := by
  simp [go_sem]

set_option maxHeartbeats 4000000 in
theorem eq_mark (x0 x1 x2 x3 x4 x5 x6 x7 x8 x9 x10 x11 : Int) (w : World) : (binOp .eql 43 (.agg #[.int .i64 x0, .int .i64 x1, .int .i64 x2, .int .i64 x3, .int .i64 x4, .int .i64 x5, .int .i64 x6, .int .i64 x7, .int .i64 x8, .int .i64 x9, .int .i64 x10, .int .i64 x11])
    (.agg #[.int .i64 x0, .int .i64 x1, .int .i64 x2, .int .i64 x3, .int .i64 x4, .int .i64 x5, .int .i64 x6, .int .i64 x7, .int .i64 x8, .int .i64 x9, .int .i64 x10, .int .i64 x11])).run Try.prog w = .ok (.bool true) w := by
  simp [go_sem]

theorem guard_mark : Try.prog.eqGuardType Try.prog.depth 43 = false := by kernel_rfl
theorem guard_id : Try.prog.eqGuardType Try.prog.depth 39 = false := by kernel_rfl
theorem guard_agg {T : TypeId} (h : Try.prog.eqGuardType Try.prog.depth T = false) (x y : Operand) (A B : Array Value) (w : World) : (eqGuard .eql T x y (.agg A) (.agg B)).run Try.prog w = .ok () w := by
  simp [eqGuard, h]

/-- A slot of a frame that is written out. -/
theorem eval_tmp {tmps : Array Value} {df : List Deferred} {t : Tmp} {v : Value} (h : tmps.toList[t]? = some v) : ({ tmps := tmps, defers := df } : Act).eval (.tmp t) = v := by
  simp [Act.eval, ← Array.getElem?_toList, h]

section
variable {w : World} {ops : Array Oper} {rest : List Oper} {o : Oper} {a : Act} {Q : Exit → Act → World → Prop}
/-- A whole mark loaded, stored, out of and into a block known as a row. -/
theorem wpList_load_mark (hgd : o.guard = none) (x : Operand) (ho : o.op = .load 43 x) (g : Nat) (hx : a.eval x = .pointer (some ⟨g, 0, none⟩)) (cs : Array Value) (hg : HasRow w g cs 43) (hs : cs.size = 12)
    (h : wpList Try.prog ops Q rest (a.put o.dst (.agg cs)) w) : wpList Try.prog ops Q (o :: rest) a w :=
  wpList_load_row hgd 43 x ho g hx 43 cs (0, 0) _ hg Try.underlying43 rfl (by rw [hs]; exact sizeMark) h
theorem wpList_store_mark (hgd : o.guard = none) (x y : Operand) (ho : o.op = .store 43 x y) (g : Nat) (cells cur : Array Value) (hx : a.eval x = .pointer (some ⟨g, 0, none⟩)) (hy : a.eval y = .agg cells) (hg : HasRow w g cur 43)
    (hold : cur.size = 12) (hs : cells.size = 12) (h1 : cells.toList.all (·.oneCell') = true)
    (h : wpList Try.prog ops Q rest (a.put o.dst undef) (w.setRow g cells)) : wpList Try.prog ops Q (o :: rest) a w :=
  wpList_store_at hgd 43 x y ho g cells cur 43 hx hy hg (by rw [hs]; exact sizeMark) (by rw [hold, hs]) h1 h
end

/-- '==' of two structs at one operation. -/
theorem wpList_eq_agg {P : Program} {w : World} {ops : Array Oper} {rest : List Oper} {o : Oper} {a : Act} {Q : Exit → Act → World → Prop} (hgd : o.guard = none) (T U : TypeId) (x y : Operand) (ho : o.op = .binOp .eql T x y U) (A B : Value) (r : Bool)
    (hx : a.eval x = A) (hy : a.eval y = B) (hrun : ∀ w, (binOp .eql T A B).run P w = .ok (.bool r) w) (hguard : ∀ w, (eqGuard .eql T x y A B).run P w = .ok () w)
    (h : wpList P ops Q rest (a.put o.dst (.bool r)) w) : wpList P ops Q (o :: rest) a w := by
  refine wpList_plain hgd fun K hK => ?_
  have hr : (execOp a.eval o).run P w = .ok (.value (.bool r)) w := by
    unfold execOp
    simp only [ho, hx, hy]
    simp [hrun, hguard]
  unfold Oper.wp
  rw [hr, Oper.upon_value]
  exact hK _ _ h
end Go.Proofs.Ytdndehlhodigoaa
