/- Laws of single operations that the kit lacks: copy between rows at elements of several cells; rows of new blocks. -/
import Derived.WalkKit
import Derived.WalkLawsBesides
import Derived.WalkSpells
import Derived.Lib.Hide
import Derived.Test.YtejmliomagnjfaaEval
namespace Go.Proofs.Ytejmliomagnjfaa
open Go Go.RowKit

theorem run_copy_rows {P : Program} (w : World) (dT sT ty elem : TypeId) (inf : TypeInfo) (g o dLen dCap : Nat) (a : Addr) (sLen sCap : Nat) (cur : Array Value) (t : TypeId) (cs : List Value)
    (hu : P.underlying dT = some (.slice elem)) (hi : P.info? elem = some inf)
    (hg : w.heap[g]? = some (.cells cur t (0, 0))) (hn : cs.length = Nat.min sLen dLen * inf.size)
    (hsrc : ∀ j v, cs[j]? = some v → w.cell? (a.add j) = some v) (hfit : o + cs.length ≤ cur.size) (h1 : ∀ v ∈ cs, v.oneCell' = true) :
    (Builtin.copy_ #[dT, sT] ty #[.slice (some ⟨g, o, none⟩) dLen dCap, .slice (some a) sLen sCap]).run P w =
      .ok (goInt (Nat.min sLen dLen)) (w.setRow g (cur.toList.take o ++ cs ++ cur.toList.drop (o + cs.length)).toArray) := by
  have hl := run_loadCells_list (P := P) w a cs hsrc
  have hst := run_storeCells_at (P := P) g o t cs 0 cur w hg (by simpa using hfit) h1
  rw [hn] at hl
  simp [Builtin.copy_, run_underlying hu, Builtin.lenOf, Builtin.firstCells, sizeOf, typeInfo, hi, hl, hst]

theorem wpList_copy_rows {P : Program} {w : World} {ops : Array Oper} {rest : List Oper} {o : Oper} {a : Act} {Q : Exit → Act → World → Prop} (hgd : o.guard = none) (d s : Operand) (dT sT : TypeId)
    (ho : o.op = .call { callee := .builtin .copy, args := #[d, s], argTypes := #[dT, sT] }) (elem : TypeId) (inf : TypeInfo) (hu : P.underlying dT = some (.slice elem)) (hi : P.info? elem = some inf)
    (g off dLen dCap : Nat) (ad : Addr) (sLen sCap : Nat) (hd : a.eval d = .slice (some ⟨g, off, none⟩) dLen dCap) (hs : a.eval s = .slice (some ad) sLen sCap)
    (cur : Array Value) (t : TypeId) (hg : w.heap[g]? = some (.cells cur t (0, 0))) (cs : List Value) (hn : cs.length = Nat.min sLen dLen * inf.size)
    (hsrc : ∀ j v, cs[j]? = some v → w.cell? (ad.add j) = some v) (hfit : off + cs.length ≤ cur.size) (h1 : ∀ v ∈ cs, v.oneCell' = true)
    (h : wpList P ops Q rest (a.put o.dst (goInt (Nat.min sLen dLen))) (w.setRow g (cur.toList.take off ++ cs ++ cur.toList.drop (off + cs.length)).toArray)) : wpList P ops Q (o :: rest) a w := by
  refine wpList_plain hgd fun K hK => ?_
  have hrun := run_copy_rows (P := P) w dT sT o.type elem inf g off dLen dCap ad sLen sCap cur t cs hu hi hg hn hsrc hfit h1
  unfold Oper.wp
  simp [execOp, ho, resolve, invoke, builtin, hd, hs, hrun, Result.andThen]
  exact hK _ _ (by simpa only [List.append_assoc] using h)

theorem push_modify_same {α : Type} (A : Array α) (x : α) (f : α → α) : (A.push x).modify A.size f = A.push (f x) := by
  apply Array.ext_getElem?
  intro i
  rw [Array.getElem?_modify, Array.getElem?_push, Array.getElem?_push]
  by_cases h : A.size = i
  · subst h; simp
  · rw [if_neg h, if_neg (by omega), if_neg (by omega)]

theorem push_modify_other {α : Type} (A : Array α) (x : α) (f : α → α) (g : Nat) (hg : g < A.size) : (A.push x).modify g f = (A.modify g f).push x := by
  apply Array.ext_getElem?
  intro i
  rw [Array.getElem?_modify, Array.getElem?_push, Array.getElem?_push, Array.getElem?_modify, Array.size_modify]
  by_cases h : g = i
  · subst h; rw [if_pos rfl, if_neg (by omega), if_neg (by omega), if_pos rfl]
  · rw [if_neg h, if_neg h]

theorem setRow_alloc (w : World) (A : Array Value) (t : TypeId) (fr : Nat × Nat) (cs : Array Value) : (w.alloc (.cells A t fr)).setRow w.heap.size cs = w.alloc (.cells cs t fr) := by
  unfold World.setRow
  show World.mk ((w.heap.push _).modify w.heap.size _) _ _ _ _ = World.mk (w.heap.push _) _ _ _ _
  rw [push_modify_same]
  rfl

theorem setRow_alloc2 (w : World) (o : Obj) (A : Array Value) (t : TypeId) (fr : Nat × Nat) (cs : Array Value) : ((w.alloc o).alloc (.cells A t fr)).setRow (w.heap.size + 1) cs = (w.alloc o).alloc (.cells cs t fr) := by
  have h := setRow_alloc (w.alloc o) A t fr cs
  rwa [World.size_alloc] at h

theorem Kp.setRow {w w' : World} (h : Kp w w') {g : Nat} (hg : w.heap.size ≤ g) (cs : Array Value) : Kp w (w'.setRow g cs) :=
  Below.trans h ⟨rfl, rfl, rfl, by simp [World.setRow], fun k hk => setRow_other w' g k cs (by omega)⟩

theorem setRow_alloc_old (w : World) (g : Nat) (o : Obj) (cs : Array Value) (h : g < w.heap.size) : (w.alloc o).setRow g cs = (w.setRow g cs).alloc o := by
  unfold World.setRow
  show World.mk ((w.heap.push _).modify g _) _ _ _ _ = World.mk ((w.heap.modify g _).push _) _ _ _ _
  rw [push_modify_other _ _ _ _ h]
  rfl

section
variable {P : Program} {w : World} {ops : Array Oper} {rest : List Oper} {o : Oper} {a : Act} {Q : Exit → Act → World → Prop}
/-- A whole struct stored into the block that was made last, that one alone. -/
theorem wpList_store_new1 (hgd : o.guard = none) (ty : TypeId) (x y : Operand) (ho : o.op = .store ty x y) (cells : Array Value)
    (cur : Array Value) (t : TypeId) (hx : a.eval x = .pointer (some ⟨w.heap.size, 0, none⟩)) (hy : a.eval y = .agg cells) (hi : (P.info? ty).map (·.size) = some cells.size)
    (hold : cur.size = cells.size) (h1 : cells.toList.all (·.oneCell') = true)
    (h : wpList P ops Q rest (a.put o.dst undef) (w.alloc (.cells cells t))) : wpList P ops Q (o :: rest) a (w.alloc (.cells cur t)) := by
  refine wpList_store_row hgd ty x y ho w.heap.size cells hx hy t cur (heap_alloc_new _ _) hi hold (by rw [← Array.all_toList]; exact h1) ?_
  rw [setRow_alloc]; exact h
/-- .. the one before it made just ahead. -/
theorem wpList_store_new2 (hgd : o.guard = none) (ty : TypeId) (x y : Operand) (ho : o.op = .store ty x y) (cells : Array Value)
    (o1 : Obj) (cur : Array Value) (t : TypeId) (hx : a.eval x = .pointer (some ⟨w.heap.size + 1, 0, none⟩)) (hy : a.eval y = .agg cells) (hi : (P.info? ty).map (·.size) = some cells.size)
    (hold : cur.size = cells.size) (h1 : cells.toList.all (·.oneCell') = true)
    (h : wpList P ops Q rest (a.put o.dst undef) ((w.alloc o1).alloc (.cells cells t))) : wpList P ops Q (o :: rest) a ((w.alloc o1).alloc (.cells cur t)) := by
  refine wpList_store_row hgd ty x y ho (w.heap.size + 1) cells hx hy t cur (heap_alloc2_new _ _ _) hi hold (by rw [← Array.all_toList]; exact h1) ?_
  rw [setRow_alloc2]; exact h
/-- .. into the block before the last. -/
theorem wpList_store_old2 (hgd : o.guard = none) (ty : TypeId) (x y : Operand) (ho : o.op = .store ty x y) (cells : Array Value)
    (o2 : Obj) (cur : Array Value) (t : TypeId) (hx : a.eval x = .pointer (some ⟨w.heap.size, 0, none⟩)) (hy : a.eval y = .agg cells) (hi : (P.info? ty).map (·.size) = some cells.size)
    (hold : cur.size = cells.size) (h1 : cells.toList.all (·.oneCell') = true)
    (h : wpList P ops Q rest (a.put o.dst undef) ((w.alloc (.cells cells t)).alloc o2)) : wpList P ops Q (o :: rest) a ((w.alloc (.cells cur t)).alloc o2) := by
  refine wpList_store_row hgd ty x y ho w.heap.size cells hx hy t cur (heap_alloc2_old _ _ _) hi hold (by rw [← Array.all_toList]; exact h1) ?_
  rw [setRow_alloc_old _ _ _ _ (by simp), setRow_alloc]; exact h
/-- An element of an array value, the element a struct or an array. -/
theorem wpList_index_arr (hgd : o.guard = none) (T : TypeId) (x ix : Operand) (ho : o.op = .index T x ix) (cs : Array Value) (k : IntKind) (i : Int) (n e s : Nat) (hx : a.eval x = .agg cs) (hix : a.eval ix = .int k i)
    (hu : P.underlying T = some (.array n e)) (h0 : 0 ≤ i) (hn : i < (n : Int)) (hs : (P.info? e).map (·.size) = some s) (d : TypeDesc) (hd : P.underlying e = some d) (hag : (match d with | .struct _ | .array _ _ => true | _ => false) = true) (new : Array Value) (hnew : cs.extract (i.toNat * s) (i.toNat * s + s) = new)
    (h : wpList P ops Q rest (a.put o.dst (.agg new)) w) : wpList P ops Q (o :: rest) a w := by
  refine wpList_plain hgd fun K hK => ?_
  cases hi : P.info? e with
  | none => simp [hi] at hs
  | some inf =>
    have hz' : inf.size = s := by simpa [hi] using hs
    have hrun : (execOp a.eval o).run P w = .ok (.value (.agg new)) w := by
      rw [← hnew]
      unfold execOp
      simp only [ho, hx, hix]
      cases d <;> first | (simp at hag; done) | simp [Instr.index, asIntOf, run_underlying hu, run_underlying hd, h0, hn, sizeOf, typeInfo, hi, hz', part, isAgg]
    unfold Oper.wp
    rw [hrun, Oper.upon_value]
    exact hK _ _ h

/-- A whole struct loaded from wherever its cells lie. -/
theorem wpList_load_cells (hgd : o.guard = none) (ty : TypeId) (x : Operand) (ho : o.op = .load ty x) (ad : Addr) (cs : List Value) (hx : a.eval x = .pointer (some ad)) (hsrc : ∀ j v, cs[j]? = some v → w.cell? (ad.add j) = some v) (d : TypeDesc)
    (hu : P.underlying ty = some d) (hd : (match d with | .struct _ | .array _ _ => true | _ => false) = true) (hi : (P.info? ty).map (·.size) = some cs.length)
    (h : wpList P ops Q rest (a.put o.dst (.agg cs.toArray)) w) : wpList P ops Q (o :: rest) a w := by
  refine wpList_plain hgd fun K hK => ?_
  have hl := run_loadCells_list (P := P) w ad cs hsrc
  cases hq : P.info? ty with
  | none => simp [hq] at hi
  | some i =>
    have hs : i.size = cs.length := by simpa [hq] using hi
    have hrun : (execOp a.eval o).run P w = .ok (.value (.agg cs.toArray)) w := by
      unfold execOp
      simp only [ho, hx]
      cases d <;> first | (simp at hd; done) | simp [Instr.loadAt, Instr.sureAddr, loadVar, isAgg, run_underlying hu, sizeOf, typeInfo, hq, hs, hl]
    unfold Oper.wp
    rw [hrun, Oper.upon_value]
    exact hK _ _ h

/-- A new variable at its zero value. -/
theorem wpList_alloc (hgd : o.guard = none) (e : TypeId) (ho : o.op = .alloc e) (z : Value) (hz : (P.info? e).map (·.zero) = some (some z))
    (h : wpList P ops Q rest (a.put o.dst (.pointer (some ⟨w.heap.size, 0, none⟩))) (w.alloc (.cells z.cells e))) : wpList P ops Q (o :: rest) a w := by
  refine wpList_plain hgd fun K hK => ?_
  cases hi : P.info? e with
  | none => simp [hi] at hz
  | some i =>
    have hz' : i.zero = some z := by simpa [hi] using hz
    have hrun : (execOp a.eval o).run P w = .ok (.value (.pointer (some ⟨w.heap.size, 0, none⟩))) (w.alloc (.cells z.cells e)) := by
      unfold execOp
      simp [ho, Instr.alloc, zeroValue, typeInfo, hi, hz', newVar, newRow, newObj, Sem.run]
    unfold Oper.wp
    rw [hrun, Oper.upon_value]
    exact hK _ _ h

/-- A whole struct stored into a block known as a row. -/
theorem wpList_store_at (hgd : o.guard = none) (ty : TypeId) (x y : Operand) (ho : o.op = .store ty x y) (g : Nat) (cells : Array Value)
    (cur : Array Value) (t : TypeId) (hx : a.eval x = .pointer (some ⟨g, 0, none⟩)) (hy : a.eval y = .agg cells) (hg : w.heap[g]? = some (.cells cur t (0, 0))) (hi : (P.info? ty).map (·.size) = some cells.size)
    (hold : cur.size = cells.size) (h1 : cells.toList.all (·.oneCell') = true)
    (h : wpList P ops Q rest (a.put o.dst undef) (w.setRow g cells)) : wpList P ops Q (o :: rest) a w :=
  wpList_store_row hgd ty x y ho g cells hx hy t cur hg hi hold (by rw [← Array.all_toList]; exact h1) h
/-- A whole struct loaded out of the block that was made last. -/
theorem wpList_load_new2 (hgd : o.guard = none) (ty : TypeId) (x : Operand) (ho : o.op = .load ty x) (o1 : Obj) (cs : Array Value) (t : TypeId) (d : TypeDesc) (hx : a.eval x = .pointer (some ⟨w.heap.size + 1, 0, none⟩))
    (hu : P.underlying ty = some d) (hd : (match d with | .struct _ | .array _ _ => true | _ => false) = true) (hi : (P.info? ty).map (·.size) = some cs.size)
    (h : wpList P ops Q rest (a.put o.dst (.agg cs)) ((w.alloc o1).alloc (.cells cs t))) : wpList P ops Q (o :: rest) a ((w.alloc o1).alloc (.cells cs t)) :=
  wpList_load_row hgd ty x ho (w.heap.size + 1) hx t cs (0, 0) d (heap_alloc2_new _ _ _) hu hd hi h
end

/-- copy into the block that was made last, the one before it made just ahead. -/
theorem wpList_copy_new2 {P : Program} {w : World} {ops : Array Oper} {rest : List Oper} {o : Oper} {a : Act} {Q : Exit → Act → World → Prop} (hgd : o.guard = none) (d s : Operand) (dT sT : TypeId)
    (ho : o.op = .call { callee := .builtin .copy, args := #[d, s], argTypes := #[dT, sT] }) (elem : TypeId) (inf : TypeInfo) (hu : P.underlying dT = some (.slice elem)) (hi : P.info? elem = some inf)
    (off dLen dCap : Nat) (ad : Addr) (sLen sCap : Nat) (hd : a.eval d = .slice (some ⟨w.heap.size + 1, off, none⟩) dLen dCap) (hs : a.eval s = .slice (some ad) sLen sCap)
    (o1 : Obj) (cur : Array Value) (t : TypeId) (cs : List Value) (new : Array Value) (hn : cs.length = Nat.min sLen dLen * inf.size)
    (hsrc : ∀ j v, cs[j]? = some v → ((w.alloc o1).alloc (.cells cur t)).cell? (ad.add j) = some v) (hfit : off + cs.length ≤ cur.size) (h1 : ∀ v ∈ cs, v.oneCell' = true)
    (hnew : new = (cur.toList.take off ++ cs ++ cur.toList.drop (off + cs.length)).toArray)
    (h : wpList P ops Q rest (a.put o.dst (goInt (Nat.min sLen dLen))) ((w.alloc o1).alloc (.cells new t))) : wpList P ops Q (o :: rest) a ((w.alloc o1).alloc (.cells cur t)) := by
  refine wpList_copy_rows hgd d s dT sT ho elem inf hu hi (w.heap.size + 1) off dLen dCap ad sLen sCap hd hs cur t (heap_alloc2_new _ _ _) cs hn hsrc hfit h1 ?_
  rw [setRow_alloc2, ← hnew]
  exact h

theorem heap_alloc4_first (w : World) (A : Obj) (o2 o3 o4 : Obj) : ((((w.alloc A).alloc o2).alloc o3).alloc o4).heap[w.heap.size]? = some A :=
  ((((Kp.alloc _ o2).trans (Kp.alloc _ o3)).trans (Kp.alloc _ o4)).heap (by simp)).trans (heap_alloc_new _ _)

theorem extract_two (l : List Value) (i : Nat) (a b : Value) (ha : l[2 * i]? = some a) (hb : l[2 * i + 1]? = some b) : l.toArray.extract (i * 2) (i * 2 + 2) = #[a, b] := by
  apply Array.ext'
  simp only [Array.toList_extract, List.extract_eq_take_drop]
  apply List.ext_getElem?
  intro j
  rw [List.getElem?_take, List.getElem?_drop]
  match j with
  | 0 => simpa [Nat.mul_comm] using ha
  | 1 => simpa [Nat.mul_comm] using hb
  | j + 2 => simp; omega

theorem results_cell_row_tmp {P : Program} {fn : Func} {p u : Tmp} {ty : TypeId} (h : fn.results = #[.cell p ty, .tmp u]) (tmps : Array Value) (w : World) (g : Nat) (t : TypeId) (cs : Array Value) (fr : Nat × Nat) (d : TypeDesc)
    (hp : tmps.getD p undef = .pointer (some ⟨g, 0, none⟩)) (hg : w.heap[g]? = some (.cells cs t fr))
    (hu : P.underlying ty = some d) (hd : (match d with | .struct _ | .array _ _ => true | _ => false) = true) (hi : (P.info? ty).map (·.size) = some cs.size) :
    (results fn tmps).run P w = .ok (.tuple #[.agg cs, tmps.getD u undef]) w := by
  have hp' : tmps[p]?.getD undef = .pointer (some ⟨g, 0, none⟩) := by simpa using hp
  rw [results_cell_tmp h]
  simp [hp', asAddr, run_loadVar_row w g t ty cs fr d hg hu hd hi, Result.andThen]

end Go.Proofs.Ytejmliomagnjfaa
