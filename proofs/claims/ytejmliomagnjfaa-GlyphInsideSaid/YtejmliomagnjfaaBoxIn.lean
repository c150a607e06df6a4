/- The contract of glyph.Box at the codes of the table: the least box around the points of all its shapes. -/
import Derived.Test.YtejmliomagnjfaaBox
namespace Go.Proofs.Ytejmliomagnjfaa
open Go Go.RowKit Go.Shelf

attribute [local go_sem] Oper.semAt_some

/-- The marks that the loops over the points have left: each block for deferred calls is there, none twice. -/
def Dfs (ds : List Nat) (W : World) : Prop := ∀ D ∈ ds, W.heap[D]? = some (.deferred (some []))
def marks (ds : List Nat) : List Deferred := ds.map fun D => { target := .collected D, args := #[] }

theorem leaves_marks {P : Program} {fn : Func} {tmps : Array Value} {R : Ending → World → Prop} {n : Nat} : ∀ (ds : List Nat) (W : World), ds.Nodup → Dfs ds W →
    (∀ W', (∀ (b : Nat) (A : Array Value) (t : TypeId), HasRow W b A t → HasRow W' b A t) → (∀ w : World, (∀ D ∈ ds, w.heap.size ≤ D) → Kp w W → Kp w W') → ∃ v, (results fn tmps).run P W' = .ok v W' ∧ R (.returned v) W') →
    LeavesInM Fence.wide n P fn tmps R (marks ds) .returning W
  | [], W, _, _, h => by
    obtain ⟨v, h1, h2⟩ := h W (fun _ _ _ h => h) (fun _ _ h => h)
    exact ⟨v, h1, h2⟩
  | D :: ds, W, hn, hd, h => by
    have hD : W.heap[D]? = some (.deferred (some [])) := hd D (by simp)
    obtain ⟨hn1, hn2⟩ := List.nodup_cons.1 hn
    refine ⟨by simp, .inl ⟨D, _, rfl, run_takeDeferred hD, ?_⟩⟩
    refine leaves_marks ds _ hn2 (fun E hE => ?_) (fun W' hr hk => ?_)
    · rw [World.putObj_heap_other (fun e => by subst e; exact hn1 hE)]
      exact hd E (by simp [hE])
    · refine h W' (fun b A t hb => hr b A t ?_) (fun w hw hkw => hk w (fun E hE => hw E (by simp [hE])) (kp_putObj (hw D (by simp)) hkw hD))
      unfold HasRow
      rw [World.putObj_heap_other (fun e => by subst e; rw [show W.heap[b]? = _ from hb] at hD; simp at hD)]
      exact hb

/-- What stands between two rounds, of either loop. -/
structure BoxI (w : World) (n₀ b2 b6 B : Nat) (shp : Array Value) (ds : List Nat) (q : Bx) (W : World) : Prop where
  r2 : HasRow W b2 #[.int .i64 0, .int .i64 0, .int .i64 0, .int .i64 0] 52
  r6 : HasRow W b6 q.cells 52
  rB : HasRow W B shp 77
  dfs : Dfs ds W
  lt : ∀ D ∈ ds, D < n₀
  kp : Kp w W

theorem dfs_own (n₀ : Nat) (ds : List Nat) (hlt : ∀ D ∈ ds, D < n₀) {W W' : World} {row : Option Nat} (hd : Dfs ds W) (hg : W.grownBy W' row) (hr : ∀ r, row = some r → n₀ ≤ r) : Dfs ds W' := by
  intro D hD
  have h := hd D hD
  rw [hg.block D (Array.getElem?_eq_some_iff.1 h).1 (fun e => by have := hr D e.symm; have := hlt D hD; omega)]
  exact h

theorem BoxI.grown {w : World} {n₀ b2 b6 B : Nat} {shp : Array Value} {ds : List Nat} {q : Bx} {W W' : World} {row : Option Nat} (h : BoxI w n₀ b2 b6 B shp ds q W) (hw : w.heap.size ≤ n₀) (hg : W.grownBy W' row) (hr : ∀ r, row = some r → n₀ ≤ r ∧ ∃ o : Obj, W.heap[r]? = some o ∧ o.isCells = false) : BoxI w n₀ b2 b6 B shp ds q W' := by
  have hk : ∀ {b : Nat} {A : Array Value} {t : TypeId}, HasRow W b A t → HasRow W' b A t := fun hb => hb.kept hg (fun e' => by
    obtain ⟨o, ho, hc⟩ := (hr _ e'.symm).2
    rw [show W.heap[_]? = _ from hb] at ho; cases ho; cases hc)
  exact ⟨hk h.r2, hk h.r6, hk h.rB, dfs_own n₀ ds h.lt h.dfs hg (fun r e => (hr r e).1), h.lt,
    h.kp.grown hg h.kp.size (fun k e => by have := (hr k e).1; omega)⟩
theorem BoxI.alloc {w : World} {n₀ b2 b6 B : Nat} {shp : Array Value} {ds : List Nat} {q : Bx} {W : World} (h : BoxI w n₀ b2 b6 B shp ds q W) (o : Obj) : BoxI w n₀ b2 b6 B shp ds q (W.alloc o) :=
  ⟨h.r2.alloc o, h.r6.alloc o, h.rB.alloc o, fun D hD => ((Kp.alloc W o).heap (Array.getElem?_eq_some_iff.1 (h.dfs D hD)).1).trans (h.dfs D hD), h.lt, h.kp.trans (Kp.alloc _ _)⟩
theorem BoxI.raise {w : World} {n₀ n₁ b2 b6 B : Nat} {shp : Array Value} {ds : List Nat} {q : Bx} {W : World} (h : BoxI w n₀ b2 b6 B shp ds q W) (hn : n₀ ≤ n₁) : BoxI w n₁ b2 b6 B shp ds q W :=
  ⟨h.r2, h.r6, h.rB, h.dfs, fun D hD => Nat.lt_of_lt_of_le (h.lt D hD) hn, h.kp⟩

theorem Bx.adds_snoc (q : Bx) (l : List (Int × Int)) (p : Int × Int) : q.adds (l ++ [p]) = (q.adds l).add p := by simp [Bx.adds, List.foldl_append]
theorem HasRow.ne {W : World} {b c : Nat} {A C : Array Value} {t u : TypeId} (h : HasRow W b A t) (k : HasRow W c C u) (hne : t ≠ u) : b ≠ c := fun e => by
  subst e
  have h' : W.heap[b]? = _ := h
  have k' : W.heap[b]? = _ := k
  rw [h'] at k'
  simp at k'
  exact hne k'.2
theorem dfs_set {W : World} {ds : List Nat} (h : Dfs ds W) {b : Nat} {A : Array Value} {t : TypeId} (hr : HasRow W b A t) (j : Nat) (v : Value) : Dfs ds (W.setCell ⟨b, j, none⟩ v) := by
  intro D hD
  rw [heap_setCell_other _ _ _ _ (fun e => by
    have := h D hD
    rw [show D = b from e, show W.heap[b]? = _ from hr] at this
    simp at this)]
  exact h D hD

theorem boxEnd {w W : World} {n₀ b2 b6 B B4 Bk : Nat} {shp cs : Array Value} {ds : List Nat} {q0 q : Bx} {pre : List BP} {x : BP} (hq : q0.adds (pre.map Subtype.val) = q) (h : BoxI w n₀ b2 b6 B shp ds q W) (h4 : HasRow W B4 cs 77) (hb : b2 < b6) (hw : w.heap.size ≤ b2)
    {l' c' r' t' : Int} (e : (⟨l', c', r', t'⟩ : Bx) = q.add x.1) (a' : Act) :
    ownPostG Bk (fun W W' => W'.heap[B4]? = W.heap[B4]?) (fun pre W => BoxI w n₀ b2 b6 B shp ds (q0.adds (pre.map Subtype.val)) W ∧ HasRow W B4 cs 77) (fun _ _ _ => False) (pre ++ [x]) W Exit.normal a'
      ((((W.setCell ⟨b6, 0, none⟩ (.int .i64 l')).setCell ⟨b6, 1, none⟩ (.int .i64 c')).setCell ⟨b6, 2, none⟩ (.int .i64 r')).setCell ⟨b6, 3, none⟩ (.int .i64 t')) := by
  have n1 : B ≠ b6 := h.rB.ne h.r6 (by decide)
  have n2 : B4 ≠ b6 := h4.ne h.r6 (by decide)
  have k1 := h.r6.set 0 (.int .i64 l')
  have k2 := k1.set 1 (.int .i64 c')
  have k3 := k2.set 2 (.int .i64 r')
  have k4 := k3.set 3 (.int .i64 t')
  have r4 := (((h4.other ⟨b6, 0, none⟩ (.int .i64 l') n2).other ⟨b6, 1, none⟩ (.int .i64 c') n2).other ⟨b6, 2, none⟩ (.int .i64 r') n2).other ⟨b6, 3, none⟩ (.int .i64 t') n2
  refine ⟨((((KeepsOthers.setCell _ _ _).trans (KeepsOthers.setCell _ _ _)).trans (KeepsOthers.setCell _ _ _)).trans (KeepsOthers.setCell _ _ _)).from _, r4.trans h4.symm, ?_, r4⟩
  have n3 : b2 ≠ b6 := by omega
  refine ⟨(((h.r2.other _ _ n3).other _ _ n3).other _ _ n3).other _ _ n3, ?_, (((h.rB.other _ _ n1).other _ _ n1).other _ _ n1).other _ _ n1, dfs_set (dfs_set (dfs_set (dfs_set h.dfs h.r6 _ _) k1 _ _) k2 _ _) k3 _ _, h.lt, (((h.kp.set (by dsimp only; omega) _).set (by dsimp only; omega) _).set (by dsimp only; omega) _).set (by dsimp only; omega) _⟩
  rw [List.map_append, List.map_cons, List.map_nil, Bx.adds_snoc, hq, ← e]
  exact k4

theorem boxOf_take (q : Bx) (l : List Sh) (k : Nat) (s : Sh) (h : l[k]? = some s) : boxOf q (l.take (k + 1)) = (boxOf q (l.take k)).adds s.pts := by
  unfold boxOf
  rw [List.take_add_one, h]
  simp [List.foldl_append]


def boxFrame (code : Nat) (b2 b4 b6 B len : Nat) (nm : ByteArray) (k : Nat) (u : Nat → Value) : Array Value := #[.int .i64 code, undef, .pointer (some ⟨b2, 0, none⟩), .int .i64 0, .pointer (some ⟨b4, 0, none⟩), .int .i64 0, .pointer (some ⟨b6, 0, none⟩), undef, u 8, u 9, .tuple #[.agg #[.string nm, .slice (some ⟨B, 0, none⟩) len len], .int .i64 0], .int .i64 code, .tuple #[.agg #[.string nm, .slice (some ⟨B, 0, none⟩) len len], .int .i64 0], .agg #[.string nm, .slice (some ⟨B, 0, none⟩) len len], .int .i64 0, .int .i64 0, .bool false, undef, undef, .agg #[.int .i64 100000, .int .i64 100000, .int .i64 (-100000), .int .i64 (-100000)], .pointer (some ⟨b4, 1, none⟩), .slice (some ⟨B, 0, none⟩) len len, .int .i64 len, .int .i64 (k : Int), u 24, u 25, u 26, u 27, u 28, u 29, u 30, u 31, u 32, u 33, u 34, u 35, u 36, u 37, u 38, u 39, u 40, u 41, u 42, u 43, u 44, u 45, u 46, u 47, u 48, u 49, u 50, u 51, undef]

set_option maxRecDepth 100000 in
set_option maxHeartbeats 4000000 in
theorem box_in (code : Nat) (w : World) (h1 : 1 ≤ code) (h2 : code ≤ 68) :
    Calls Try.prog 28 #[.int .i64 code] w fun e w' => e = .returned (.tuple #[.agg (boxG code).cells, .int .i64 0]) ∧ Kp w w' := by
  have hlen := shapes_short code
  have hsz := Lib.hid Try.sizeS
  refine calls_of_wp_marks Try.func28 rfl ?_
  simp only [Try.ntmps28, List.size_toArray, List.length_cons, List.length_nil, Nat.reduceAdd, Nat.reduceSub, Array.replicate_succ, Array.replicate_zero, List.push_toArray, List.append_toArray, List.nil_append, List.cons_append]
  go_wp2_with (go_at_call 33; refine (get_in code _ h1 h2).mono ?_; rintro e w' ⟨v, rfl, ⟨B, rfl, g1, g2, g3⟩, hk⟩; have p0 := (HasRow.new w #[.int .i64 0, .int .i64 0, .int .i64 0, .int .i64 0] 52).kp hk; have l0 := p0.lt; have Hk := Lib.hid hk; have P0 := Lib.hid p0; have G3 := Lib.hid g3; clear hk p0 g3)
  obtain ⟨len, hl⟩ : ∃ len, (shapesAt code).length = len := ⟨_, rfl⟩
  obtain ⟨W1, hW1⟩ : ∃ W1, (w'.alloc (.cells #[.string (nameAt code), .slice (some ⟨B, 0, none⟩) (shapesAt code).length (shapesAt code).length] 58)).alloc (.cells #[.int .i64 100000, .int .i64 100000, .int .i64 (-100000), .int .i64 (-100000)] 52) = W1 := ⟨_, rfl⟩
  have hI : BoxI w W1.heap.size w.heap.size (w'.heap.size + 1) B ((shapesAt code).flatMap fun s => ints s.nums).toArray [] Bx.start W1 := by
    rw [← hW1]
    refine ⟨(P0.out.alloc _).alloc _, ?_, (HasRow.alloc (show HasRow w' B _ _ from G3.out) _).alloc _, fun D hD => by simp at hD, fun D hD => by simp at hD, (((Kp.alloc _ _).trans Hk.out).trans (Kp.alloc _ _)).trans (Kp.alloc _ _)⟩
    have := HasRow.new (w'.alloc (.cells #[.string (nameAt code), .slice (some ⟨B, 0, none⟩) (shapesAt code).length (shapesAt code).length] 58)) Bx.start.cells 52
    rwa [World.size_alloc] at this
  rw [hW1]
  obtain ⟨b2, hb2⟩ : ∃ b2, w.heap.size = b2 := ⟨_, rfl⟩
  obtain ⟨b4, hb4⟩ : ∃ b4, w'.heap.size = b4 := ⟨_, rfl⟩
  obtain ⟨b6, hb6⟩ : ∃ b6, b4 + 1 = b6 := ⟨_, rfl⟩
  obtain ⟨nm, hnm⟩ : ∃ nm, nameAt code = nm := ⟨_, rfl⟩
  have hb26 : b2 < b6 := by omega
  rw [hb4, hb6] at hI
  rw [hl] at hlen
  rw [hb4, hb6, hnm, hl]
  rw [hb2] at hI ⊢
  obtain ⟨shp, hshp⟩ : ∃ shp, ((shapesAt code).flatMap fun s => ints s.nums).toArray = shp := ⟨_, rfl⟩
  rw [hshp] at hI
  have Hshp := Lib.hid hshp
  have Hl := Lib.hid hl
  have HI := Lib.hid hI
  have Hb2 := Lib.hid hb2
  have hl20 : (len : Int) ≤ 20 := by omega
  clear hI hshp hl hW1 hb4 hb6 hnm hb2 Hk P0 G3 g1 g2 l0 hlen
  refine wp_loop (fun a wr => ∃ k u ds, k ≤ len ∧ a = { tmps := boxFrame code b2 b4 b6 B len nm k u, defers := marks ds } ∧ ds.Nodup ∧ (∀ D ∈ ds, w.heap.size ≤ D) ∧ BoxI w wr.heap.size b2 b6 B shp ds (boxOf Bx.start ((shapesAt code).take k)) wr)
    (fun a _ => len - (intOf (a.tmps.getD 23 undef)).toNat) ⟨0, fun _ => undef, [], Nat.zero_le _, rfl, List.nodup_nil, fun D hD => by simp at hD, HI.out⟩ ?_
  rintro a wr ⟨k, u, ds, hk, rfl, hnd, hge, hI⟩
  have HI := Lib.hid hI
  have Hge := Lib.hid hge
  have Hnd := Lib.hid hnd
  clear hI hge hnd
  unfold boxFrame
  by_cases hlt : k < len
  · obtain ⟨s, hs⟩ : ∃ s, (shapesAt code)[k]? = some s := ⟨(shapesAt code)[k]'(by rw [Hl.out]; exact hlt), by simp⟩
    obtain ⟨ps, hps⟩ := shape_ps (List.mem_of_getElem? hs)
    obtain ⟨cs, hcs⟩ : ∃ cs, ints s.nums = cs := ⟨_, rfl⟩
    have hc17 : cs.length = 17 := by rw [← hcs]; simp [ints, nums_length]
    have hsrc : Hid (∀ j v, cs[j]? = some v → wr.cell? (({ block := B, off := k * 17 } : Addr).add j) = some v) := Lib.hid (by
      intro j v hj
      have hj17 : j < 17 := by have := (List.getElem?_eq_some_iff.1 hj).1; omega
      have ha : ({ block := B, off := k * 17 } : Addr).add j = ⟨B, k * 17 + j, none⟩ := by unfold Addr.add; split <;> simp_all
      rw [ha, HI.out.rB.cell, ← Hshp.out]
      simp only [List.getElem?_toArray]
      rw [flatMap17 (fun s => ints s.nums) (fun s => by simp [ints, nums_length]) _ k j s hs hj17, hcs]
      exact hj)
    have hone : Hid (cs.toArray.toList.all (·.oneCell') = true) := Lib.hid (by rw [← hcs]; simp [ints, Value.oneCell'])
    have hsz2 : Hid ((Try.prog.info? 77).map (·.size) = some cs.length) := Lib.hid (by rw [hsz.out, hc17])
    have hsz3 : Hid ((Try.prog.info? 77).map (·.size) = some cs.toArray.size) := Lib.hid (by rw [hsz.out]; simp [hc17])
    have hold : Hid ((#[.int .i64 0, .int .i64 0, .int .i64 0, .int .i64 0, .int .i64 0, .int .i64 0, .int .i64 0, .int .i64 0, .int .i64 0, .int .i64 0, .int .i64 0, .int .i64 0, .int .i64 0, .int .i64 0, .int .i64 0, .int .i64 0, .int .i64 0] : Array Value).size = cs.toArray.size) := Lib.hid (by simp [hc17])
    have hnext := Lib.hid (boxOf_take Bx.start (shapesAt code) k s hs)
    have Hps := Lib.hid hps
    have Hcs := Lib.hid hcs
    clear hs hps hcs hc17
    go_wp2_with (first
      | (refine wpList_load_cells (o := ⟨some 26, _, _, _, _, _⟩) rfl 77 (.tmp 25) rfl ⟨B, k * 17, none⟩ cs rfl hsrc.out _ Try.underlying77 rfl hsz2.out ?_)
      | (refine wpList_store_new1 (o := ⟨none, _, _, _, _, _⟩) rfl 77 (.tmp 8) (.tmp 26) rfl cs.toArray _ 77 rfl rfl hsz3.out hold.out hone.out ?_)
      | (refine wpList_load_row (o := ⟨some 27, _, _, _, _, _⟩) rfl 77 (.tmp 8) rfl wr.heap.size rfl 77 cs.toArray (0, 0) _ (heap_alloc_new _ _) Try.underlying77 rfl hsz3.out ?_)
      | (go_at_call 38; refine (points_any _ _).mono ?_; rintro e w3 ⟨rfl, rfl⟩))
    obtain ⟨W0, hW0⟩ : ∃ W0, (wr.alloc (.cells cs.toArray 77)).alloc (.cells cs.toArray 77) = W0 := ⟨_, rfl⟩
    have hsz0 : W0.heap.size = wr.heap.size + 1 + 1 := by rw [← hW0]; simp
    have hI0 : BoxI w W0.heap.size b2 b6 B shp ds (boxOf Bx.start ((shapesAt code).take k)) W0 := by
      rw [← hW0]; exact ((HI.out.alloc _).alloc _).raise (by simp; omega)
    have r4 : HasRow W0 (wr.heap.size + 1) cs.toArray 77 := by
      rw [← hW0]; have := HasRow.new (wr.alloc (.cells cs.toArray 77)) cs.toArray 77; rwa [World.size_alloc] at this
    have hB : HasSh W0 (wr.heap.size + 1) s := by unfold HasSh; rw [Hcs.out]; exact r4
    rw [hW0]
    have hwle : w.heap.size ≤ W0.heap.size := hI0.kp.size
    refine wpIn_wide.1 (wpIn_rangeFunc_ownH (F := Fence.wide) (n := 9) (gf := 44) (lb := #[.pointer (some ⟨wr.heap.size + 1, 0, none⟩)]) rfl (by omega) rfl trivial enters_points1
      (points_stops Fence.wide 8 trivial rfl (by omega) (wr.heap.size + 1) s ps Hps.out W0 hB) (fun h k => k.trans h) ?hKb (Below.refl _ _) (fun _ => rfl)
      (fun pre W => BoxI w W0.heap.size b2 b6 B shp ds ((boxOf Bx.start ((shapesAt code).take k)).adds (pre.map Subtype.val)) W ∧ HasRow W (wr.heap.size + 1) cs.toArray 77)
      (fun _ _ _ => False)
      (fun pre A B' row hs hg hr => ⟨hs.1.grown hwle hg hr, (HasRow.own (wr.heap.size + 1) 77 (fun (_ : Unit) => cs.toArray)) () A B' row hs.2 hg (fun r e => (hr r e).2)⟩) (fun _ _ _ _ _ h _ _ => h) ⟨hI0, r4⟩
      (fun x a' W => ∃ Bq, W0.heap.size ≤ Bq ∧ HasRow W Bq #[.int .i64 x.1.1, .int .i64 x.1.2] 44 ∧ a' = { tmps := #[.int .i64 code, undef, .pointer (some ⟨b2, 0, none⟩), .int .i64 0, .pointer (some ⟨b4, 0, none⟩), .int .i64 0, .pointer (some ⟨b6, 0, none⟩), undef, .pointer (some ⟨wr.heap.size, 0, none⟩), .pointer (some ⟨Bq, 0, none⟩), .tuple #[.agg #[.string nm, .slice (some ⟨B, 0, none⟩) len len], .int .i64 0], .int .i64 code, .tuple #[.agg #[.string nm, .slice (some ⟨B, 0, none⟩) len len], .int .i64 0], .agg #[.string nm, .slice (some ⟨B, 0, none⟩) len len], .int .i64 0, .int .i64 0, .bool false, undef, undef, .agg #[.int .i64 100000, .int .i64 100000, .int .i64 (-100000), .int .i64 (-100000)], .pointer (some ⟨b4, 1, none⟩), .slice (some ⟨B, 0, none⟩) len len, .int .i64 len, .int .i64 (k : Int), .bool true, .pointer (some ⟨B, k * 17, none⟩), .agg cs.toArray, .agg cs.toArray, .func (.func 44) #[] #[.pointer (some ⟨wr.heap.size + 1, 0, none⟩)], .agg #[.int .i64 x.1.1, .int .i64 x.1.2], u 30, u 31, u 32, u 33, u 34, u 35, u 36, u 37, u 38, u 39, u 40, u 41, u 42, u 43, u 44, u 45, u 46, u 47, u 48, u 49, u 50, u 51, undef], defers := [] })
      ?hAx ?assign ?body ?done ?stop)
    case hKb =>
      intro W l o o' hl' _ _ _
      exact World.putObj_heap_other (by omega)
    case hAx =>
      rintro x a' _ X Y row ⟨Bq, h1, h2, h3⟩ hg hr
      exact ⟨Bq, h1, h2.kept hg (fun e => by obtain ⟨_, o, ho, hc⟩ := hr Bq e.symm; rw [show X.heap[Bq]? = _ from h2] at ho; cases ho; cases hc), h3⟩
    case assign =>
      rintro l pre x W K ⟨hi, h4⟩ hK
      unfold encP
      have HIi := Lib.hid hi
      have H4 := Lib.hid h4
      clear hi h4 hI0 r4 hB
      gi_wp2
      have := H4.out.lt
      have := HIi.out.kp.size
      refine hK _ _ ((KeepsOthers.alloc _ _).from _) ((Kp.alloc _ _).heap H4.out.lt) ⟨HIi.out.alloc _, H4.out.alloc _⟩ ⟨W.heap.size, ?_, HasRow.new W _ _, rfl⟩
      omega
    case body =>
      rintro l pre x a' W hl' _ ⟨hi, h4⟩ ⟨Bq, hBq, hrow, rfl⟩ hpl
      obtain ⟨⟨bx, cy⟩, hbx⟩ := x
      obtain ⟨q, hq⟩ : ∃ q, (boxOf Bx.start ((shapesAt code).take k)).adds (pre.map Subtype.val) = q := ⟨_, rfl⟩
      rw [hq] at hi
      have p60 : W.cell? ⟨b6, 0, none⟩ = some (.int .i64 q.l) := hi.r6.cell 0
      have p61 : W.cell? ⟨b6, 1, none⟩ = some (.int .i64 q.b) := hi.r6.cell 1
      have p62 : W.cell? ⟨b6, 2, none⟩ = some (.int .i64 q.r) := hi.r6.cell 2
      have p63 : W.cell? ⟨b6, 3, none⟩ = some (.int .i64 q.t) := hi.r6.cell 3
      have f60 := hi.r6.frozen 0
      have f61 := hi.r6.frozen 1
      have f62 := hi.r6.frozen 2
      have f63 := hi.r6.frozen 3
      have px0 : W.cell? ⟨Bq, 0, none⟩ = some (.int .i64 bx) := hrow.cell 0
      have px1 : W.cell? ⟨Bq, 1, none⟩ = some (.int .i64 cy) := hrow.cell 1
      have HIi := Lib.hid hi
      have H4 := Lib.hid h4
      have Hq := Lib.hid hq
      clear hi h4 hq hI0 r4 hB hrow hsz0
      gi_wp2
      all_goals (refine boxEnd Hq.out HIi.out H4.out hb26 (Nat.le_of_eq Hb2.out) ?_ _; dsimp only [Bx.add]; rw [Bx.mk.injEq]; refine ⟨?_, ?_, ?_, ?_⟩ <;> omega)
    case done =>
      rintro D ys W hD rfl ⟨hi, h4⟩ hDd
      rw [Hps.out] at hi
      have HIi := Lib.hid hi
      have HDd := Lib.hid hDd
      clear hi hDd hI0 r4 hB h4
      go_wp2
      have hDlt : D < W.heap.size := (Array.getElem?_eq_some_iff.1 HDd.out).1
      refine ⟨⟨k + 1, fun i => if i = 8 then .pointer (some ⟨wr.heap.size, 0, none⟩) else if i = 24 then .bool true else if i = 25 then .pointer (some ⟨B, k * 17, none⟩) else if i = 26 then .agg cs.toArray else if i = 27 then .agg cs.toArray else if i = 28 then .func (.func 44) #[] #[.pointer (some ⟨wr.heap.size + 1, 0, none⟩)] else if i = 51 then .int .i64 (k + 1) else u i, D :: ds, by omega, rfl, ?_, ?_, ?_⟩, ?_⟩
      · refine List.nodup_cons.2 ⟨fun hm => ?_, Hnd.out⟩
        have := HIi.out.lt D hm
        omega
      · intro E hE
        rcases List.mem_cons.1 hE with rfl | hE
        · omega
        · exact Hge.out E hE
      · have h := HIi.out
        refine ⟨h.r2, ?_, h.rB, ?_, ?_, h.kp⟩
        · rw [hnext.out]; exact h.r6
        · intro E hE
          rcases List.mem_cons.1 hE with rfl | hE
          · exact HDd.out
          · exact h.dfs E hE
        · intro E hE
          rcases List.mem_cons.1 hE with rfl | hE
          · exact hDlt
          · have := h.lt E hE; omega
      · show len - (intOf (.int .i64 ((k : Int) + 1))).toNat < len - (intOf (.int .i64 (k : Int))).toNat
        simp [intOf]; omega
    case stop =>
      rintro D c pre W _ _ h _
      exact h.elim
  · obtain rfl : k = len := by omega
    have h := HI.out
    have hall : (shapesAt code).take k = shapesAt code := List.take_of_length_le (by rw [Hl.out]; exact Nat.le_refl _)
    rw [hall] at h
    obtain ⟨q, hq⟩ : ∃ q, boxOf Bx.start (shapesAt code) = q := ⟨_, rfl⟩
    rw [hq] at h
    have p60 : wr.cell? ⟨b6, 0, none⟩ = some (.int .i64 q.l) := h.r6.cell 0
    have p61 : wr.cell? ⟨b6, 1, none⟩ = some (.int .i64 q.b) := h.r6.cell 1
    have p62 : wr.cell? ⟨b6, 2, none⟩ = some (.int .i64 q.r) := h.r6.cell 2
    have p63 : wr.cell? ⟨b6, 3, none⟩ = some (.int .i64 q.t) := h.r6.cell 3
    have p20 : wr.cell? ⟨b2, 0, none⟩ = some (.int .i64 0) := h.r2.cell 0
    have p21 : wr.cell? ⟨b2, 1, none⟩ = some (.int .i64 0) := h.r2.cell 1
    have p22 : wr.cell? ⟨b2, 2, none⟩ = some (.int .i64 0) := h.r2.cell 2
    have p23 : wr.cell? ⟨b2, 3, none⟩ = some (.int .i64 0) := h.r2.cell 3
    have f20 := h.r2.frozen 0
    have f21 := h.r2.frozen 1
    have f22 := h.r2.frozen 2
    have f23 := h.r2.frozen 3
    have Hh := Lib.hid h
    have Hq := Lib.hid hq
    have hs4 := Lib.hid sizeBox
    clear h hq hall
    go_wp2
    have k1 := Hh.out.r2.set 0 (.int .i64 q.l)
    have k2 := k1.set 1 (.int .i64 q.b)
    have k3 := k2.set 2 (.int .i64 q.r)
    have k4 := k3.set 3 (.int .i64 q.t)
    have hkk := ((((Hh.out.kp.set (a := ⟨b2, 0, none⟩) (Nat.le_of_eq Hb2.out) (.int .i64 q.l)).set (a := ⟨b2, 1, none⟩) (Nat.le_of_eq Hb2.out) (.int .i64 q.b)).set (a := ⟨b2, 2, none⟩) (Nat.le_of_eq Hb2.out) (.int .i64 q.r)).set (a := ⟨b2, 3, none⟩) (Nat.le_of_eq Hb2.out) (.int .i64 q.t))
    refine leaves_marks ds _ Hnd.out (dfs_set (dfs_set (dfs_set (dfs_set Hh.out.dfs Hh.out.r2 0 _) k1 1 _) k2 2 _) k3 3 _) (fun W' hr hk => ⟨_, results_cell_row_tmp rfl _ _ b2 52 q.cells (0, 0) _ rfl (hr _ _ _ k4) Try.underlying52 rfl hs4.out, ?_, hk w Hge.out hkk⟩)
    unfold boxG
    rw [Hq.out]
    rfl
end Go.Proofs.Ytejmliomagnjfaa
