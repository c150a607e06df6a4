/- The contracts of slices.AppendSeq and slices.Collect over the points of a shape, and of glyph.Outline at the dot's code. -/
import Derived.Maps.AppendAt
import Derived.Test.YtejmliomagnjfaaBoxIn
namespace Go.Proofs.Ytejmliomagnjfaa
open Go Go.RowKit Go.Shelf

attribute [local go_sem] Oper.semAt_some

def ptCells (ps : List BP) : List Value := ps.flatMap fun p => [.int .i64 p.1.1, .int .i64 p.1.2]
theorem ptCells_snoc (ps : List BP) (x : BP) : ptCells (ps ++ [x]) = ptCells ps ++ [.int .i64 x.1.1, .int .i64 x.1.2] := by simp [ptCells]
theorem cell_two_new (w : World) (x y : Value) (t : TypeId) : ∀ j u, [x, y][j]? = some u → (w.alloc (.cells #[x, y] t)).cell? ((⟨w.heap.size, 0, none⟩ : Addr).add j) = some u := by
  intro j u hj
  have ha : ({ block := w.heap.size, off := 0 } : Addr).add j = ⟨w.heap.size, j, none⟩ := by unfold Addr.add; split <;> simp_all
  rw [ha, (HasRow.new w #[x, y] t).cell]
  simpa using hj

theorem slP_ne : 64 ≠ 44 := by decide

set_option maxRecDepth 100000 in
set_option maxHeartbeats 2000000 in
theorem appendSeq_any (s : Sh) (ps : List BP) (hps : ps.map Subtype.val = s.pts) (Bs : Nat) (w : World) (hB : HasSh w Bs s) :
    Calls Try.prog 46 #[.slice none 0 0, .func (.func 44) #[] #[.pointer (some ⟨Bs, 0, none⟩)]] w fun e w' =>
      ∃ v, e = .returned v ∧ w'.ownsRow w.heap.size 44 2 v ps.length (ptCells ps) ∧ Kp w w' := by
  obtain ⟨i0, hi, hz0, hz1, hz2⟩ := info_parts Try.infoP
  have Hi := Lib.hid hi
  have Hz0 := Lib.hid hz0
  have Hz1 := Lib.hid hz1
  have Hz2 := Lib.hid hz2
  have hlt : Bs < w.heap.size := (Array.getElem?_eq_some_iff.1 (show w.heap[Bs]? = _ from hB)).1
  have h8 : ps.length ≤ 8 := by
    have h1 := congrArg List.length hps
    rw [List.length_map] at h1
    rcases pts_length s with h | h <;> omega
  have Hps := Lib.hid hps
  clear hi hz0 hz1 hz2 hps
  refine calls_of_wp_marks Try.func46 rfl ?_
  simp only [Try.ntmps46, List.size_toArray, List.length_cons, List.length_nil, Nat.reduceAdd, Nat.reduceSub, Array.replicate_succ, Array.replicate_zero, List.push_toArray, List.append_toArray, List.nil_append, List.cons_append]
  go_wp2
  obtain ⟨W0, hW0⟩ : ∃ W0, w.alloc (.cells #[.slice none 0 0] 64) = W0 := ⟨_, rfl⟩
  have hsz0 : W0.heap.size = w.heap.size + 1 := by rw [← hW0]; simp
  have hk0 : Kp w W0 := by rw [← hW0]; exact Kp.alloc _ _
  have b0 : Boxed W0 w.heap.size 64 (.slice none 0 0) := by rw [← hW0]; exact Boxed.new _ _ _
  have hB0 : HasSh W0 Bs s := by rw [← hW0]; exact HasRow.alloc hB _
  rw [hW0]
  refine wpIn_wide.1 (wpIn_rangeFunc_ownH (F := Fence.wide) (n := 9) (gf := 44) (lb := #[.pointer (some ⟨Bs, 0, none⟩)]) rfl (by omega) rfl trivial enters_points1
    (points_stops Fence.wide 8 trivial rfl (by omega) Bs s ps Hps.out W0 hB0) (fun h k => k.trans h) ?hKb (Below.refl _ _) (fun _ => rfl)
    (fun pre W => (∃ v, Boxed W w.heap.size 64 v ∧ W.ownsRow w.heap.size 44 2 v pre.length (ptCells pre) ∧ True) ∧ Below w.heap.size w W) (fun _ _ _ => False)
    (OwnFrom.and ((holdsRow_own w.heap.size w.heap.size 64 44 2 (fun pre => pre.length) (fun pre => ptCells pre) (fun _ _ => True)).from _) (ownFrom_below (Nat.le_refl _) hk0.size)) (fun _ _ _ _ _ h _ _ => h) ⟨⟨_, b0, ⟨rfl, .inl ⟨rfl, rfl⟩⟩, trivial⟩, hk0⟩
    (fun x a' W => ∃ Bx, w.heap.size + 1 ≤ Bx ∧ HasRow W Bx #[.int .i64 x.1.1, .int .i64 x.1.2] 44 ∧ a' = { tmps := #[.slice none 0 0, .func (.func 44) #[] #[.pointer (some ⟨Bs, 0, none⟩)], .pointer (some ⟨w.heap.size, 0, none⟩), undef, .slice none 0 0, .pointer (some ⟨Bx, 0, none⟩), .func (.func 44) #[] #[.pointer (some ⟨Bs, 0, none⟩)], .agg #[.int .i64 x.1.1, .int .i64 x.1.2], undef, undef, undef, undef, undef], defers := [] })
    ?hAx ?assign ?body ?done ?stop)
  case hKb =>
    intro W l o o' hl _ _ _
    exact World.putObj_heap_other (by omega)
  case hAx =>
    rintro x a' _ X Y row ⟨Bx, h1, h2, h3⟩ hg hr
    exact ⟨Bx, h1, h2.kept hg (fun e => by obtain ⟨_, o, ho, hc⟩ := hr Bx e.symm; rw [show X.heap[Bx]? = _ from h2] at ho; cases ho; cases hc), h3⟩
  case assign =>
    rintro l pre x W K ⟨⟨v, hv, hrow, _⟩, hbel⟩ hK
    unfold encP
    gi_wp2
    refine hK _ _ ((KeepsOthers.alloc _ _).from _) ((Kp.alloc _ _).heap (by have := hbel.size; omega)) ⟨⟨v, hv.alloc _, hrow.alloc _, trivial⟩, hbel.trans (Below.mono (Kp.alloc _ _) hbel.size)⟩ ⟨W.heap.size, ?_, HasRow.new W _ _, rfl⟩
    have := hv.lt; omega
  case body =>
    rintro l pre x a' W hl _ ⟨⟨v, hv, hrow, _⟩, hbel⟩ ⟨Bx, hBx, hx, rfl⟩ hpl
    have hBsz := hbel.size
    have hvc := hv.cell
    have hvf := hv.frozen
    have x0 := hx.cell 0
    have x1 := hx.cell 1
    simp only [List.getElem?_toArray, List.getElem?_cons_zero, List.getElem?_cons_succ] at x0 x1
    have hxl := hx.lt
    have hpl8 : pre.length ≤ 7 := by omega
    have Hbel := Lib.hid hbel
    clear hbel
    gi_wp2_with (gi_at_builtin; refine wpListIn_append_own _ rfl _ _ 64 rfl w.heap.size 44 i0 (.agg #[.int .i64 0, .int .i64 0]) 2 16 Try.underlying64 Hi.out Hz0.out Hz1.out Hz2.out rfl (by decide) _ _ _ rfl (hrow.alloc _) ⟨W.heap.size, 0, none⟩ 1 1 [.int .i64 x.1.1, .int .i64 x.1.2] rfl rfl (cell_two_new _ _ _ _) (by simp [Value.oneCell']) (by unfold maxLen; omega) (by omega) (by simp; omega) ?_; intro v' w1 hown' hgrow _; obtain ⟨g', cap', rfl⟩ := ownsRow_succ hown'; obtain ⟨hv1, hv2, hr2, hk2, hb2⟩ := hv.appended slP_ne hrow hBsz (Nat.le_refl _) hown' hgrow; have hc1 := hv1.cell; have hf1 := hv1.frozen; have Hr2 := Lib.hid hr2; have Hk2 := Lib.hid hk2; have Hb2 := Lib.hid hb2; have Hv2 := Lib.hid hv2; clear hr2 hk2 hb2 hv2 hgrow)
    refine ⟨Hk2.out.from _, Hb2.out.block Bs hlt, ⟨_, Hv2.out, ?_, trivial⟩, Hbel.out.trans Hb2.out⟩
    have := Hr2.out
    rw [ptCells_snoc, List.length_append]
    exact this
  case done =>
    rintro D ys W hD rfl ⟨⟨v, hv, hrow, _⟩, hbel⟩ hDd
    have hvc := hv.cell
    have HD := Lib.hid hDd
    have Hr := Lib.hid hrow
    have Hb := Lib.hid hbel
    clear hDd hrow hbel
    go_wp2
    refine ⟨by simp, .inl ⟨_, _, rfl, run_takeDeferred HD.out, ?_⟩⟩
    exact ⟨_, results_tmp rfl _ _ _, _, rfl, ownsRow_putObj Hr.out _ HD.out rfl, kp_putObj (by omega) Hb.out HD.out⟩
  case stop =>
    rintro D c pre W _ _ h _
    exact h.elim

theorem collect_any (s : Sh) (ps : List BP) (hps : ps.map Subtype.val = s.pts) (Bs : Nat) (w : World) (hB : HasSh w Bs s) :
    Calls Try.prog 42 #[.func (.func 44) #[] #[.pointer (some ⟨Bs, 0, none⟩)]] w fun e w' =>
      ∃ v, e = .returned v ∧ w'.ownsRow w.heap.size 44 2 v ps.length (ptCells ps) ∧ Kp w w' := by
  have hc := appendSeq_any s ps hps Bs w hB
  have Hb := Lib.hid hB
  clear hps hB
  go_enter Try.func42, Try.ntmps42
  go_wp2_with (go_at_call 46; refine hc.mono ?_; rintro e w' ⟨v, rfl, h1, h2⟩; have H1 := Lib.hid h1; have H2 := Lib.hid h2; clear h1 h2)
  go_ret
  exact ⟨_, rfl, H1.out, H2.out⟩
end Go.Proofs.Ytejmliomagnjfaa
