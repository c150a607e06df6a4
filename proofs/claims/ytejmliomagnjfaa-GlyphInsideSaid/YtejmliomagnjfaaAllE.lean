/- The evaluation of glyph.all's operations by the kernel. -/
import Derived.Test.YtejmliomagnjfaaAll
namespace Go.Proofs.Ytejmliomagnjfaa
open Go Go.RowKit Go.Shelf

noncomputable def opsAll : List Oper := match Try.f29.body with | some (.seq _ (.seq (.region _ ops _) _)) => ops.toList | _ => []
def glyD (x : List Nat × List Sh) : D := .ag [.val (.string (bytesOf x.1)), .sl 77 (x.2.map shD)]
def allD : D := .ag (tab.map glyD)
def ptrD (n : Nat) : D := .val (.pointer (some ⟨n, 0, none⟩))
noncomputable def lastAll : Oper := (opsAll.drop 410).headD default

theorem body_all : Try.f29.body = some (.seq (.region 0 #[{ dst := some 0, op := Op.alloc 59, type := 0, pos := "glyph.go:74", after := #[], guard := none }] false) (.seq (.region 1 opsAll.toArray false) .ret)) := by kernel_rfl
theorem eval_all (n : Nat) : (evalOps knownAll 411 [(0, ptrD n)] opsAll).1.get 410 = some allD := by kernel_rfl
theorem eval_ptr (n : Nat) : (evalOps knownAll 411 [(0, ptrD n)] opsAll).1.get 0 = some (ptrD n) := by kernel_rfl
theorem left_all (n : Nat) : (evalOps knownAll 411 [(0, ptrD n)] opsAll).2 = [lastAll] := by kernel_rfl
theorem last_op : lastAll.op = .store 59 (.tmp 0) (.tmp 410) := by kernel_rfl
theorem last_guard : lastAll.guard = none := by kernel_rfl
theorem last_dst : lastAll.dst = none := by kernel_rfl
theorem size_all : (Try.prog.info? 59).map (·.size) = some 136 := by kernel_rfl
theorem size_allD : allD.sz = 136 := by kernel_rfl

/-- A slice over a block of the call's own that holds these shapes. -/
def ShRow (n₀ : Nat) (w : World) (v : Value) (l : List Sh) : Prop :=
  ∃ B, v = .slice (some ⟨B, 0, none⟩) l.length l.length ∧ n₀ ≤ B ∧ B < w.heap.size ∧ w.heap[B]? = some (.cells (l.flatMap fun s => ints s.nums).toArray 77 (0, 0))
theorem ShRow.later {n₀ : Nat} {w w' : World} {v : Value} {l : List Sh} (hk : Kp w w') : ShRow n₀ w v l → ShRow n₀ w' v l
  | ⟨B, h1, h2, h3, h4⟩ => ⟨B, h1, h2, Nat.lt_of_lt_of_le h3 hk.size, (hk.heap h3).trans h4⟩

theorem cat_shapes {n₀ : Nat} {w : World} : ∀ (l : List Sh) (vs : List Value), RelL n₀ w (l.map shD) vs → cat vs = l.flatMap fun s => ints s.nums
  | [], vs, h => by have h' : vs = [] := h; subst h'; rfl
  | s :: l, vs, ⟨v, r, hv, hd, hr⟩ => by
    have hd' : v = s.value := hd
    subst hv; subst hd'
    rw [show cat (s.value :: r) = ints s.nums ++ cat r from by simp [cat, Sh.value, Value.cells], cat_shapes l r hr]
    rfl

theorem shRow_of {n₀ : Nat} {w : World} {l : List Sh} {v : Value} (h : Rel n₀ w (.sl 77 (l.map shD)) v) : ShRow n₀ w v l := by
  obtain ⟨B, vs, hv, hB, hlt, hb, hr⟩ := h
  refine ⟨B, by simpa using hv, hB, hlt, ?_⟩
  rw [hb, cat_shapes l vs hr]

/-- What the array of the glyphs reads as: for every number, the name, the shapes. -/
def GlyphsAt (n₀ : Nat) (w : World) (C : List Value) : Prop :=
  C.length = 136 ∧ ∀ i x, tab[i]? = some x → ∃ v, C[2 * i]? = some (.string (bytesOf x.1)) ∧ C[2 * i + 1]? = some v ∧ ShRow n₀ w v x.2

theorem glyphs_cells {n₀ : Nat} {w : World} : ∀ (l : List (List Nat × List Sh)) (vs : List Value), RelL n₀ w (l.map glyD) vs →
    (cat vs).length = 2 * l.length ∧ ∀ i x, l[i]? = some x → ∃ v, (cat vs)[2 * i]? = some (.string (bytesOf x.1)) ∧ (cat vs)[2 * i + 1]? = some v ∧ ShRow n₀ w v x.2
  | [], vs, h => by have h' : vs = [] := h; subst h'; exact ⟨rfl, by simp⟩
  | y :: l, vs, ⟨v, r, hv, hd, hr⟩ => by
    obtain ⟨us, hu, u1, r1, rfl, h1, u2, r2, rfl, h2, h3⟩ := hd
    have h1' : u1 = _ := h1
    have h3' : r2 = [] := h3
    subst hv; subst hu; subst h1'; subst h3'
    have hs := shRow_of h2
    obtain ⟨B, hB, _⟩ := id hs
    have hc : cat (Value.agg (cat [Value.string (bytesOf y.1), u2]).toArray :: r) = Value.string (bytesOf y.1) :: u2 :: cat r := by
      subst hB; simp [cat, Value.cells]
    obtain ⟨ih1, ih2⟩ := glyphs_cells l r hr
    rw [hc]
    refine ⟨by simp [ih1]; omega, ?_⟩
    intro i x hx
    cases i with
    | zero => simp at hx; subst hx; exact ⟨u2, rfl, rfl, hs⟩
    | succ i =>
      simp at hx
      obtain ⟨v, h1, h2, h3⟩ := ih2 i x hx
      exact ⟨v, by simpa [Nat.mul_add] using h1, by simpa [Nat.mul_add] using h2, h3⟩

set_option maxRecDepth 100000 in
theorem all_any (w : World) : Calls Try.prog 29 #[] w fun e w' => ∃ C : List Value, e = .returned (.agg C.toArray) ∧ GlyphsAt w.heap.size w' C ∧ Kp w w' := by
  have hz := zeroA
  simp only [Option.map_eq_some_iff, Option.bind_eq_some_iff] at hz
  obtain ⟨z, ⟨i, hi, hz⟩, hsz⟩ := hz
  refine calls_of_wp Try.func29 body_all ?_
  refine wp_seq_k fun K hK => ?_
  refine wp_region_lit ?_
  refine wpList_alloc rfl 59 rfl z (by rw [hi]; simp [hz]) ?_
  refine wpList_nil ?_
  refine hK _ _ ?_
  refine wp_seq_k fun K2 hK2 => ?_
  refine wp_region_lit ?_
  have hw1 : w.heap.size ≤ (w.alloc (.cells z.cells 59)).heap.size := (Kp.alloc w _).size
  refine evalOps_sound (N := 411) (n₀ := w.heap.size) knownAll_holds opsAll [(0, ptrD w.heap.size)] _ [lastAll] _ _ (Prod.ext rfl (left_all _)) (by simp [Act.put, Try.ntmps29]) (by rfl) hw1 ?_ ?_
  · intro t d h
    by_cases ht : t = 0
    · subst ht
      have : d = ptrD w.heap.size := by simpa [Env.get] using h.symm
      subst this
      simp [Act.put, Try.ntmps29, ptrD, Rel]
    · have h' : (0 == t) = false := by simpa using fun e => ht e.symm
      simp [Env.get, h'] at h
  · intro a w' hs hd hk hE
    obtain ⟨vs, hv, hr⟩ := hE 410 _ (eval_all _)
    have hp : a.tmps.getD 0 undef = .pointer (some ⟨w.heap.size, 0, none⟩) := hE 0 _ (eval_ptr _)
    have hsz2 : (cat vs).length = 136 := by rw [hr.size]; exact size_allD
    have hb : w'.heap[w.heap.size]? = some (.cells z.cells 59 (0, 0)) := (hk.heap (by simp)).trans (heap_alloc_new _ _)
    obtain ⟨h1, h2⟩ := glyphs_cells tab vs hr
    have hone : (cat vs).toArray.all (·.oneCell') = true := by
      rw [Array.all_eq_true_iff_forall_mem]
      intro x hx
      simp only [List.mem_toArray] at hx
      obtain ⟨j, hj⟩ := List.mem_iff_getElem?.1 hx
      have hj2 : j < 136 := by have := (List.getElem?_eq_some_iff.1 hj).1; omega
      obtain ⟨y, hy⟩ : ∃ y, tab[j / 2]? = some y := ⟨tab[j / 2]'(by show _ < 68; omega), by simp⟩
      obtain ⟨v, e1, e2, ⟨B, e3, _⟩⟩ := h2 (j / 2) y hy
      rcases Nat.mod_two_eq_zero_or_one j with hm | hm
      · rw [show 2 * (j / 2) = j by omega, hj] at e1
        simp only [Option.some.injEq] at e1
        subst e1; rfl
      · rw [show 2 * (j / 2) + 1 = j by omega, hj] at e2
        simp only [Option.some.injEq] at e2
        subst e2; subst e3; rfl
    refine wpList_store_row last_guard 59 (.tmp 0) (.tmp 410) last_op w.heap.size (cat vs).toArray hp hv 59 z.cells hb (by rw [size_all]; simp [hsz2]) (by simp [hsz2, hsz]) hone ?_
    refine wpList_nil ?_
    refine hK2 _ _ ?_
    refine wp_ret ?_
    rw [last_dst]
    have hk2 : Kp w' (w'.setRow w.heap.size (cat vs).toArray) → True := fun _ => trivial
    refine bodyPost_ret (v := .agg (cat vs).toArray) (results_cell_row rfl _ _ w.heap.size 59 _ (0, 0) _ hp (setRow_heap _ _ _ _ _ _ hb) Try.underlying59 rfl (by rw [size_all]; simp [hsz2])) hd ?_
    refine ⟨cat vs, rfl, ⟨hsz2, ?_⟩, ((Kp.alloc w _).trans hk).setRow (Nat.le_refl _) _⟩
    intro i x hx
    obtain ⟨v, e1, e2, ⟨B, e3, e4, e5, e6⟩⟩ := h2 i x hx
    refine ⟨v, e1, e2, B, e3, e4, by simpa using e5, ?_⟩
    rw [setRow_other _ _ _ _ (by intro e; subst e; rw [hb] at e6; simp at e6)]
    exact e6
end Go.Proofs.Ytejmliomagnjfaa
