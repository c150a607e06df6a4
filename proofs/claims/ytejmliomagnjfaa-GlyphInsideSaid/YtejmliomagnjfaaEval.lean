/- A list of operations that only calls known functions, builds slices and builds structs and arrays, evaluated at once: what each temporary reads as (a tree of data), by one function that the kernel computes; the soundness of that function. -/
import Derived.Laws.Tables
import Derived.Below
import Derived.Shelf.Abstract
namespace Go.Proofs.Ytejmliomagnjfaa
open Go Go.RowKit

/-- What a value reads as: a known value; a slice over a new block; a struct or an array of such. -/
inductive D where
  | val (v : Value)
  | sl (e : TypeId) (ds : List D)
  | ag (ds : List D)

mutual
def D.sz : D → Nat
  | .val v => v.cells.size
  | .sl _ _ => 1
  | .ag ds => D.szL ds
def D.szL : List D → Nat
  | [] => 0
  | d :: ds => d.sz + D.szL ds
end

/-- The values' cells, one behind the other. -/
def cat (vs : List Value) : List Value := vs.flatMap (·.cells.toList)

mutual
def Rel (n₀ : Nat) (w : World) : D → Value → Prop
  | .val x, v => v = x
  | .sl e ds, v => ∃ B vs, v = .slice (some ⟨B, 0, none⟩) ds.length ds.length ∧ n₀ ≤ B ∧ B < w.heap.size ∧ w.heap[B]? = some (.cells (cat vs).toArray e (0, 0)) ∧ RelL n₀ w ds vs
  | .ag ds, v => ∃ vs, v = .agg (cat vs).toArray ∧ RelL n₀ w ds vs
def RelL (n₀ : Nat) (w : World) : List D → List Value → Prop
  | [], vs => vs = []
  | d :: ds, vs => ∃ v r, vs = v :: r ∧ Rel n₀ w d v ∧ RelL n₀ w ds r
end

/-- Later worlds that keep the blocks that were there. -/
def Kp (w w' : World) : Prop := Below w.heap.size w w'
theorem Kp.refl (w : World) : Kp w w := Below.refl _ _
theorem Kp.trans {a b c : World} (h : Kp a b) (k : Kp b c) : Kp a c := Below.trans h (Below.mono k h.size)
theorem Kp.heap {a b : World} (h : Kp a b) {k : Nat} (hk : k < a.heap.size) : b.heap[k]? = a.heap[k]? := h.block k hk
theorem Kp.alloc (w : World) (o : Obj) : Kp w (w.alloc o) := (Below.refl _ _).alloc (Nat.le_refl _) o

mutual
theorem Rel.later {n₀ : Nat} {w w' : World} (h : Kp w w') : ∀ (d : D) (v : Value), Rel n₀ w d v → Rel n₀ w' d v
  | .val _, _, r => r
  | .sl _ ds, _, ⟨B, vs, hv, hB, hlt, hb, hl⟩ => ⟨B, vs, hv, hB, Nat.lt_of_lt_of_le hlt h.size, (h.heap hlt).trans hb, RelL.later h ds vs hl⟩
  | .ag ds, _, ⟨vs, hv, hl⟩ => ⟨vs, hv, RelL.later h ds vs hl⟩
theorem RelL.later {n₀ : Nat} {w w' : World} (h : Kp w w') : ∀ (ds : List D) (vs : List Value), RelL n₀ w ds vs → RelL n₀ w' ds vs
  | [], _, r => r
  | d :: ds, _, ⟨v, r, hv, hd, hr⟩ => ⟨v, r, hv, Rel.later h d v hd, RelL.later h ds r hr⟩
end

mutual
theorem Rel.size {n₀ : Nat} {w : World} : ∀ (d : D) (v : Value), Rel n₀ w d v → v.cells.size = d.sz
  | .val _, v, r => by have r' : v = _ := r; rw [r']; rfl
  | .sl _ _, _, ⟨_, _, hv, _⟩ => by subst hv; rfl
  | .ag ds, _, ⟨vs, hv, hl⟩ => by subst hv; have := RelL.size ds vs hl; simpa [D.sz, Value.cells, cat, List.length_flatMap] using this
theorem RelL.size {n₀ : Nat} {w : World} : ∀ (ds : List D) (vs : List Value), RelL n₀ w ds vs → (cat vs).length = D.szL ds
  | [], _, r => by have r' : _ = [] := r; subst r'; rfl
  | d :: ds, _, ⟨v, r, hv, hd, hr⟩ => by
    subst hv
    have h1 := Rel.size d v hd
    have h2 := RelL.size ds r hr
    rw [show cat (v :: r) = v.cells.toList ++ cat r from rfl, List.length_append, h2, D.szL, Array.length_toList, h1]
end

theorem RelL.length {n₀ : Nat} {w : World} : ∀ (ds : List D) (vs : List Value), RelL n₀ w ds vs → vs.length = ds.length
  | [], _, r => by have r' : _ = [] := r; subst r'; rfl
  | _ :: ds, _, ⟨v, r, hv, _, hr⟩ => by subst hv; simp [RelL.length ds r hr]

theorem RelL.get {n₀ : Nat} {w : World} : ∀ (ds : List D) (vs : List Value), RelL n₀ w ds vs → ∀ (i : Nat) (d : D), ds[i]? = some d → ∃ v, vs[i]? = some v ∧ Rel n₀ w d v
  | [], _, _, i, d, h => by simp at h
  | d0 :: ds, _, ⟨v, r, hv, hd, hr⟩, i, d, h => by
    subst hv
    cases i with
    | zero => simp at h; subst h; exact ⟨v, by simp, hd⟩
    | succ i => simp at h; obtain ⟨v', h1, h2⟩ := RelL.get ds r hr i d h; exact ⟨v', by simpa using h1, h2⟩

/-! ### 'fill' over parts that lie one behind the other -/

theorem setFold (off : Nat) : ∀ (c : List Value) (j : Nat) (A : Array Value), off + j + c.length ≤ A.size →
    (((c.zipIdx j).foldl (fun cs (x : Value × Nat) => cs.setIfInBounds (off + x.2) x.1) A).toList = A.toList.take (off + j) ++ c ++ A.toList.drop (off + j + c.length))
  | [], j, A, _ => by simp
  | x :: c, j, A, h => by
    simp only [List.length_cons] at h
    have ih := setFold off c (j + 1) (A.setIfInBounds (off + j) x) (by simp; omega)
    simp only [List.zipIdx_cons, List.foldl_cons, ih]
    apply List.ext_getElem?
    intro k
    simp only [Array.toList_setIfInBounds, List.getElem?_append, List.getElem?_take, List.getElem?_drop, List.length_append, List.length_take, List.length_set, Array.length_toList, List.length_cons, List.getElem?_set, List.getElem?_cons]
    have e1 : min (off + (j + 1)) A.size = off + (j + 1) := by omega
    have e2 : min (off + j) A.size = off + j := by omega
    simp only [e1, e2]
    by_cases h1 : k < off + j
    · simp [h1, show k < off + (j + 1) by omega, show k < off + (j + 1) + c.length by omega, show k < off + j + (c.length + 1) by omega, show off + j ≠ k by omega]
    · by_cases h2 : k = off + j
      · subst h2
        simp [show off + j < A.size by omega, show off + j < off + (j + 1) by omega, show off + j < off + (j + 1) + c.length by omega]
      · by_cases h3 : k < off + j + (c.length + 1)
        · simp [h1, h3, show ¬ k < off + (j + 1) by omega, show k < off + (j + 1) + c.length by omega, show k - (off + j) ≠ 0 by omega, show k - (off + (j + 1)) = k - (off + j) - 1 by omega]
        · simp [h3, show ¬ k < off + (j + 1) + c.length by omega, show off + (j + 1) + c.length + (k - (off + (j + 1) + c.length)) = off + j + (c.length + 1) + (k - (off + j + (c.length + 1))) by omega]
          all_goals (intro h4; omega)

/-- The parts' places, from number k and place off on: each behind the one before. -/
def placed (place : Nat → Option (Nat × Nat)) : Nat → Nat → List Nat → Bool
  | _, _, [] => true
  | k, off, s :: ss => (place k == some (off, s)) && placed place (k + 1) (off + s) ss

theorem fill_seq (place : Nat → Option (Nat × Nat)) : ∀ (vs : List Value) (k : Nat) (pre post : List Value),
    placed place k pre.length (vs.map (·.cells.size)) = true → (cat vs).length ≤ post.length →
    Instr.fill place (pre ++ post).toArray ((vs.zipIdx k).map fun x => (x.2, x.1)) = some (pre ++ cat vs ++ post.drop (cat vs).length).toArray
  | [], k, pre, post, _, _ => by simp [Instr.fill, cat]
  | v :: vs, k, pre, post, hp, hl => by
    simp only [List.map_cons, placed, Bool.and_eq_true, beq_iff_eq] at hp
    obtain ⟨h1, h2⟩ := hp
    have hc : (cat (v :: vs)).length = v.cells.size + (cat vs).length := by simp [cat]
    rw [hc] at hl
    have hf := setFold pre.length v.cells.toList 0 (pre ++ post).toArray (by simp; omega)
    have e : (v.cells.zipIdx.foldl (fun cs (x : Value × Nat) => cs.setIfInBounds (pre.length + x.2) x.1) (pre ++ post).toArray) = ((pre ++ v.cells.toList) ++ post.drop v.cells.size).toArray := by
      apply Array.ext'
      rw [← Array.foldl_toList, Array.toList_zipIdx, hf]
      simp [List.drop_append]
    have ih := fill_seq place vs (k + 1) (pre ++ v.cells.toList) (post.drop v.cells.size) (by simpa using h2) (by simp; omega)
    simp only [List.zipIdx_cons, List.map_cons, Instr.fill, h1]
    rw [if_neg (by simp; omega)]
    have e' : (v.cells.zipIdx.foldl (fun cs x => match x with | (c, j) => cs.setIfInBounds (pre.length + j) c) (pre ++ post).toArray) = ((pre ++ v.cells.toList) ++ post.drop v.cells.size).toArray := e
    rw [e', ih, hc]
    simp [cat, List.drop_drop]

theorem run_buildSlice {P : Program} (w : World) (t e : TypeId) (inf : TypeInfo) (len : Nat) (vs : List Value) (z : Value)
    (hu : P.underlying t = some (.slice e)) (hi : P.info? e = some inf) (hz : inf.zero = some z) (hsz : 0 < inf.size)
    (hlen : vs.length = len) (hl : len * inf.size ≤ 2 ^ 24) (hs : ∀ v ∈ vs, v.cells.size = inf.size) :
    (Instr.buildSlice t len ((vs.zipIdx 0).map fun x => (x.2, x.1)).toArray).run P w = .ok (.slice (some ⟨w.heap.size, 0, none⟩) len len) (w.alloc (.cells (cat vs).toArray e)) := by
  have hcat : ∀ (l : List Value), (∀ v ∈ l, v.cells.size = inf.size) → (cat l).length = l.length * inf.size := by
    intro l
    induction l with
    | nil => intro _; simp [cat]
    | cons v l ih =>
      intro h
      have h1 := h v (by simp)
      have h2 := ih (fun x hx => h x (by simp [hx]))
      simp only [cat, List.flatMap_cons, List.length_append, List.length_cons, Array.length_toList] at *
      rw [h1, h2, Nat.add_mul, Nat.one_mul, Nat.add_comm]
  have hpl : ∀ (l : List Value) (k : Nat), (∀ v ∈ l, v.cells.size = inf.size) → placed (fun i => some (i * inf.size, inf.size)) k (k * inf.size) (l.map (·.cells.size)) = true := by
    intro l
    induction l with
    | nil => intro k _; rfl
    | cons v l ih =>
      intro k h
      have h1 := h v (by simp)
      have h2 := ih (k + 1) (fun x hx => h x (by simp [hx]))
      simp only [List.map_cons, placed, h1, beq_self_eq_true, Bool.true_and]
      rw [Nat.add_mul, Nat.one_mul] at h2
      exact h2
  by_cases h0 : len = 0
  · subst h0
    have hv : vs = [] := List.eq_nil_of_length_eq_zero hlen
    subst hv
    simp [Instr.buildSlice, run_underlying hu, sizeOf, typeInfo, hi, Instr.fill, newRow, newObj, Sem.run, cat]
    exact congrArg (fun c => w.alloc (Obj.cells c e)) (by apply Array.ext'; simp)
  · have hne : len * inf.size ≠ 0 := by
      intro h; rcases Nat.mul_eq_zero.1 h with h | h <;> omega
    obtain ⟨A, hA⟩ : ∃ A : List Value, A.toArray = (Array.range (len * inf.size)).map (z.cells[· % z.cells.size]!) := ⟨_, Array.toArray_toList⟩
    have hAl : A.length = len * inf.size := by
      have := congrArg Array.size hA; simpa using this
    have hf := fill_seq (fun i => some (i * inf.size, inf.size)) vs 0 [] A (by simpa using hpl vs 0 hs) (by rw [hcat vs hs, hlen, hAl]; exact Nat.le_refl _)
    have hd : A.drop (cat vs).length = [] := List.drop_of_length_le (by rw [hcat vs hs, hlen, hAl]; exact Nat.le_refl _)
    rw [hd] at hf
    simp only [List.nil_append, List.append_nil] at hf
    have hgt : ¬ (len * inf.size > 2 ^ 24) := by omega
    simp only [Instr.buildSlice, Sem.run_bind, run_underlying hu, Result.andThen_ok, sizeOf, typeInfo, zeroValue, Sem.run_pure]
    simp [hgt, hne, hi, hz, ← hA, hf, newRow, newObj, Sem.run]
    all_goals trivial

theorem built_struct {P : Program} {t : TypeId} {fields : Array Field} {z : Value} {pl : List (Nat × Nat)} (h1 : (P.info? t).map (·.zero) = some (some z)) (h2 : P.underlying t = some (.struct fields))
    (h4 : fields.toList.mapM (fun f => (P.info? f.type).map fun i => (f.offset, i.size)) = some pl) (parts : List (Nat × Value)) : P.built t parts = Instr.fill (pl[·]?) z.cells parts := by
  cases hi : P.info? t with
  | none => simp [hi] at h1
  | some it =>
    have hz : it.zero = some z := by simpa [hi] using h1
    simp [Program.built, hi, h2, hz, h4]

theorem built_array {P : Program} {t e : TypeId} {n s : Nat} {z : Value} (h1 : (P.info? t).map (·.zero) = some (some z)) (h2 : P.underlying t = some (.array n e)) (h3 : (P.info? e).map (·.size) = some s)
    (parts : List (Nat × Value)) : P.built t parts = Instr.fill (fun i => some (i * s, s)) z.cells parts := by
  cases hi : P.info? t with
  | none => simp [hi] at h1
  | some it =>
    have hz : it.zero = some z := by simpa [hi] using h1
    cases he : P.info? e with
    | none => simp [he] at h3
    | some ie =>
      have hs : ie.size = s := by simpa [he] using h3
      simp [Program.built, hi, h2, hz, he, hs]

/-! ### The evaluator -/

abbrev Env := List (Tmp × D)
def Env.get (E : Env) (t : Tmp) : Option D := (E.find? (·.1 == t)).map (·.2)

/-- What a constant operand reads as; a temporary's reading. -/
def opd (E : Env) : Operand → Option D
  | .tmp t => E.get t
  | .const v => some (.val v)
  | _ => none

def opds (E : Env) : Nat → List (Nat × Operand) → Option (List D)
  | _, [] => some []
  | k, (i, x) :: r => if i = k then match opd E x, opds E (k + 1) r with | some d, some ds => some (d :: ds) | _, _ => none else none

def consts : List Operand → Option (List Value)
  | [] => some []
  | .const v :: r => (consts r).map (v :: ·)
  | _ => none

/-- What is known of the program: calls of functions at constants; struct and array types (the places of the parts, the cells in all); slice types (the element, its cells). -/
structure Known where
  call : FuncId → List Value → Option D
  bt : TypeId → Option ((Nat → Option (Nat × Nat)) × Nat)
  st : TypeId → Option (TypeId × Nat)

def evalOp (K : Known) (E : Env) (o : Oper) : Option (Tmp × D) :=
  match o.guard, o.dst, o.op with
  | none, some d, .call { callee := .value (.func f), args, .. } => ((consts args.toList).bind (K.call f)).map (d, ·)
  | none, some d, .buildSlice t len parts =>
    match K.st t, opds E 0 parts.toList with
    | some (e, s), some ds => if ds.length = len ∧ 0 < s ∧ len * s ≤ 2 ^ 24 ∧ (ds.all fun x => x.sz == s) = true then some (d, .sl e ds) else none
    | _, _ => none
  | none, some d, .build t parts =>
    match K.bt t, opds E 0 parts.toList with
    | some (pl, n), some ds => if placed pl 0 0 (ds.map D.sz) = true ∧ D.szL ds = n then some (d, .ag ds) else none
    | _, _ => none
  | none, some d, .move x => (opd E x).map (d, ·)
  | none, some d, .assign x => (opd E x).map (d, ·)
  | _, _, _ => none

/-- As far as the operations are of these kinds: what is known then, and what is left. -/
def evalOps (K : Known) (N : Nat) : Env → List Oper → Env × List Oper
  | E, [] => (E, [])
  | E, o :: r => match evalOp K E o with
    | some (d, x) => if d < N then evalOps K N ((d, x) :: E) r else (E, o :: r)
    | none => (E, o :: r)

/-- What the known facts say, over a program. -/
structure Known.Holds (K : Known) (P : Program) : Prop where
  call : ∀ f args d, K.call f args = some d → (∀ vs w, (callFunc f vs).run P w = .ok (.enter f vs) w) ∧
    ∀ w, Calls P f args.toArray w fun e w' => ∃ v, e = .returned v ∧ (∀ n₀ w'', Rel n₀ w'' d v) ∧ Kp w w'
  bt : ∀ t pl n, K.bt t = some (pl, n) → ∃ z : Array Value, z.size = n ∧ ∀ parts, P.built t parts = Instr.fill pl z parts
  st : ∀ t e s, K.st t = some (e, s) → P.underlying t = some (.slice e) ∧ ∃ i z, P.info? e = some i ∧ i.zero = some z ∧ i.size = s

theorem opd_rel {E : Env} {n₀ : Nat} {w : World} {a : Act} (hE : ∀ t d, E.get t = some d → Rel n₀ w d (a.tmps.getD t undef)) : ∀ x d, opd E x = some d → Rel n₀ w d (a.eval x)
  | .tmp t, d, h => hE t d h
  | .const v, d, h => by simp only [opd, Option.some.injEq] at h; subst h; exact rfl
  | .global _, d, h => by simp [opd] at h
  | .func _, d, h => by simp [opd] at h

theorem opds_rel {E : Env} {n₀ : Nat} {w : World} {a : Act} (hE : ∀ t d, E.get t = some d → Rel n₀ w d (a.tmps.getD t undef)) : ∀ (ps : List (Nat × Operand)) (k : Nat) ds, opds E k ps = some ds →
    ∃ vs, RelL n₀ w ds vs ∧ (ps.map fun (i, x) => (i, a.eval x)) = (vs.zipIdx k).map fun x => (x.2, x.1)
  | [], k, ds, h => by simp only [opds, Option.some.injEq] at h; subst h; exact ⟨[], rfl, rfl⟩
  | (i, x) :: r, k, ds, h => by
    unfold opds at h
    split at h
    · rename_i hik
      subst hik
      split at h
      · rename_i d ds' h1 h2
        simp only [Option.some.injEq] at h
        subst h
        obtain ⟨vs, hr, he⟩ := opds_rel hE r (i + 1) ds' h2
        exact ⟨a.eval x :: vs, ⟨_, _, rfl, opd_rel hE x d h1, hr⟩, by simp only [List.map_cons, List.zipIdx_cons, he]⟩
      · simp at h
    · simp at h

theorem consts_eval {a : Act} : ∀ (l : List Operand) vs, consts l = some vs → l.map a.eval = vs
  | [], vs, h => by simp only [consts, Option.some.injEq] at h; subst h; rfl
  | .const v :: r, vs, h => by
    simp only [consts, Option.map_eq_some_iff] at h
    obtain ⟨l, hl, rfl⟩ := h
    simp [consts_eval r l hl, Act.eval]
  | .tmp _ :: _, _, h => by simp [consts] at h
  | .global _ :: _, _, h => by simp [consts] at h
  | .func _ :: _, _, h => by simp [consts] at h

theorem put_get {E : Env} {n₀ : Nat} {w w' : World} {a : Act} {d : Tmp} {x : D} {v : Value} (hd : d < a.tmps.size) (hk : Kp w w') (hv : Rel n₀ w' x v)
    (hE : ∀ t d, E.get t = some d → Rel n₀ w d (a.tmps.getD t undef)) : ∀ t y, Env.get ((d, x) :: E) t = some y → Rel n₀ w' y ((a.put (some d) v).tmps.getD t undef) := by
  intro t y h
  by_cases e : d = t
  · subst e
    simp [Env.get] at h
    subst h
    simpa [Act.put, hd] using hv
  · have h' : Env.get E t = some y := by simpa [Env.get, List.find?_cons, e] using h
    have := (hE t y h').later hk
    simpa [Act.put, Array.getD_eq_getD_getElem?, Array.getElem?_setIfInBounds, e] using this

theorem evalOps_sound {P : Program} {K : Known} (hK : K.Holds P) {ops : Array Oper} {Q : Exit → Act → World → Prop} {N n₀ : Nat} : ∀ (l : List Oper) (E E' : Env) (l' : List Oper) (a : Act) (w : World),
    evalOps K N E l = (E', l') → a.tmps.size = N → a.defers = [] → n₀ ≤ w.heap.size → (∀ t d, E.get t = some d → Rel n₀ w d (a.tmps.getD t undef)) →
    (∀ a' w', a'.tmps.size = N → a'.defers = [] → Kp w w' → (∀ t d, E'.get t = some d → Rel n₀ w' d (a'.tmps.getD t undef)) → wpList P ops Q l' a' w') → wpList P ops Q l a w
  | [], E, E', l', a, w, he, hs, hd, _, hE, hq => by
    simp only [evalOps, Prod.mk.injEq] at he
    obtain ⟨rfl, rfl⟩ := he
    exact hq a w hs hd (Kp.refl w) hE
  | o :: r, E, E', l', a, w, he, hs, hd, hn, hE, hq => by
    unfold evalOps at he
    split at he
    · rename_i d x hx
      split at he
      · rename_i hdN
        have goOn : ∀ v w', Kp w w' → Rel n₀ w' x v → wpList P ops Q r (a.put (some d) v) w' := fun v w' hk hv =>
          evalOps_sound hK r ((d, x) :: E) E' l' (a.put (some d) v) w' he (by simpa [Act.put] using hs) (by simpa [Act.put] using hd) (Nat.le_trans hn hk.size)
            (put_get (by rw [hs]; exact hdN) hk hv hE) (fun a' w'' h1 h2 h3 h4 => hq a' w'' h1 h2 (hk.trans h3) h4)
        unfold evalOp at hx
        split at hx
        · -- a call
          rename_i d' f args targs hgu hdst hop
          simp only [Option.map_eq_some_iff, Option.bind_eq_some_iff, Prod.mk.injEq] at hx
          obtain ⟨y, ⟨vs, hvs, hc⟩, rfl, rfl⟩ := hx
          obtain ⟨hent, hcall⟩ := hK.call f vs y hc
          have hargs : args.map a.eval = vs.toArray := by
            apply Array.ext'; simpa using consts_eval args.toList vs hvs
          refine wpList_plain hgu fun K' hK' => ?_
          have hrun : (execOp a.eval o).run P w = .ok (.enter f vs.toArray) w := by
            unfold execOp
            simp only [hop, resolve, Sem.run_bind, hargs]
            simp [Act.eval, Deferred.ofValue, invoke, hent]
          unfold Oper.wp
          rw [hrun, Oper.upon_enter, hdst]
          refine (hcall w).mono ?_
          rintro e w' ⟨v, rfl, hv, hk⟩
          exact hK' _ _ (goOn v w' hk (hv n₀ w'))
        · -- a slice
          rename_i d' t len parts hgu hdst hop
          split at hx
          · rename_i e s ds hst hds
            split at hx
            · rename_i hc
              simp only [Option.some.injEq, Prod.mk.injEq] at hx
              obtain ⟨rfl, rfl⟩ := hx
              obtain ⟨hu, i, z, hi, hz, rfl⟩ := hK.st t e s hst
              obtain ⟨vs, hr, hp⟩ := opds_rel hE parts.toList 0 ds hds
              obtain ⟨hl, hs0, hbig, hall⟩ := hc
              have hvl := hr.length
              have hsz : ∀ v ∈ vs, v.cells.size = i.size := by
                intro v hv
                obtain ⟨j, hj⟩ := List.mem_iff_getElem?.1 hv
                have hjl : j < ds.length := by have := (List.getElem?_eq_some_iff.1 hj).1; omega
                obtain ⟨v', h1, h2⟩ := RelL.get ds vs hr j ds[j] (by simp [hjl])
                rw [hj] at h1
                simp only [Option.some.injEq] at h1
                subst h1
                rw [h2.size]
                have := List.all_eq_true.1 hall ds[j] (by simp)
                simpa using this
              have hrun := run_buildSlice (P := P) w t e i len vs z hu hi hz hs0 (by omega) hbig hsz
              have hpa : (parts.map fun (i, x) => (i, a.eval x)) = ((vs.zipIdx 0).map fun x => (x.2, x.1)).toArray := by
                apply Array.ext'; simpa using hp
              refine wpList_plain hgu fun K' hK' => ?_
              have hrun' : (execOp a.eval o).run P w = .ok (.value (.slice (some ⟨w.heap.size, 0, none⟩) len len)) (w.alloc (.cells (cat vs).toArray e)) := by
                unfold execOp
                simp only [hop]
                rw [hpa]
                simp only [Sem.run_bind, hrun, Result.andThen_ok, Sem.run_pure]
              unfold Oper.wp
              rw [hrun', Oper.upon_value, hdst]
              refine hK' _ _ (goOn _ _ (Kp.alloc _ _) ?_)
              refine ⟨w.heap.size, vs, by rw [hl], hn, by simp, ?_, hr.later (Kp.alloc _ _)⟩
              show (w.heap.push _)[w.heap.size]? = _
              simp
            · simp at hx
          · simp at hx
        · -- a struct, an array
          rename_i d' t parts hgu hdst hop
          split at hx
          · rename_i pl n ds hbt hds
            split at hx
            · rename_i hc
              simp only [Option.some.injEq, Prod.mk.injEq] at hx
              obtain ⟨rfl, rfl⟩ := hx
              obtain ⟨z, hz, hb⟩ := hK.bt t pl n hbt
              obtain ⟨vs, hr, hp⟩ := opds_rel hE parts.toList 0 ds hds
              obtain ⟨hpl, hsum⟩ := hc
              have hmap : vs.map (·.cells.size) = ds.map D.sz := by
                apply List.ext_getElem?
                intro j
                have hvl := hr.length
                by_cases hj : j < ds.length
                · obtain ⟨v', h1, h2⟩ := RelL.get ds vs hr j ds[j] (by simp [hj])
                  simp [h1, hj, h2.size]
                · simp [List.getElem?_eq_none (l := vs) (i := j) (by omega), List.getElem?_eq_none (l := ds) (i := j) (by omega)]
              have hcl : (cat vs).length = z.size := by rw [hr.size, hsum, hz]
              have hf := fill_seq pl vs 0 [] z.toList (by rw [hmap]; exact hpl) (by simp [hcl])
              have hdr : z.toList.drop (cat vs).length = [] := List.drop_of_length_le (by simp [hcl])
              rw [hdr] at hf
              simp only [List.nil_append, List.append_nil, Array.toArray_toList] at hf
              have hrun := run_build (P := P) w t ((vs.zipIdx 0).map fun x => (x.2, x.1)).toArray (cat vs).toArray (by rw [hb]; simpa using hf)
              have hpa : (parts.map fun (i, x) => (i, a.eval x)) = ((vs.zipIdx 0).map fun x => (x.2, x.1)).toArray := by
                apply Array.ext'; simpa using hp
              refine wpList_plain hgu fun K' hK' => ?_
              have hrun' : (execOp a.eval o).run P w = .ok (.value (.agg (cat vs).toArray)) w := by
                unfold execOp
                simp only [hop]
                rw [hpa]
                simp only [Sem.run_bind, hrun, Result.andThen_ok, Sem.run_pure]
              unfold Oper.wp
              rw [hrun', Oper.upon_value, hdst]
              exact hK' _ _ (goOn _ _ (Kp.refl _) ⟨vs, rfl, hr⟩)
            · simp at hx
          · simp at hx
        · -- a move
          rename_i d' x' hgu hdst hop
          simp only [Option.map_eq_some_iff, Prod.mk.injEq] at hx
          obtain ⟨y, hy, rfl, rfl⟩ := hx
          refine wpList_plain hgu fun K' hK' => ?_
          have hrun' : (execOp a.eval o).run P w = .ok (.value (a.eval x')) w := by
            unfold execOp
            simp only [hop, Sem.run_pure]
          unfold Oper.wp
          rw [hrun', Oper.upon_value, hdst]
          exact hK' _ _ (goOn _ _ (Kp.refl _) (opd_rel hE x' y hy))
        · rename_i d' x' hgu hdst hop
          simp only [Option.map_eq_some_iff, Prod.mk.injEq] at hx
          obtain ⟨y, hy, rfl, rfl⟩ := hx
          refine wpList_plain hgu fun K' hK' => ?_
          have hrun' : (execOp a.eval o).run P w = .ok (.value (a.eval x')) w := by
            unfold execOp
            simp only [hop, Sem.run_pure]
          unfold Oper.wp
          rw [hrun', Oper.upon_value, hdst]
          exact hK' _ _ (goOn _ _ (Kp.refl _) (opd_rel hE x' y hy))
        · simp at hx
      · simp only [Prod.mk.injEq] at he
        obtain ⟨rfl, rfl⟩ := he
        exact hq a w hs hd (Kp.refl w) hE
    · simp only [Prod.mk.injEq] at he
      obtain ⟨rfl, rfl⟩ := he
      exact hq a w hs hd (Kp.refl w) hE

end Go.Proofs.Ytejmliomagnjfaa
