/- The contract of shape.crossed: how many edges a point meets. -/
import Derived.RegionTactic
import Derived.Test.YtejmliomagnjfaaCross
namespace Go.Proofs.Ytejmliomagnjfaa
open Go Go.RowKit Go.Shelf

attribute [local go_sem] Oper.semAt_some

set_option maxRecDepth 100000 in
set_option maxHeartbeats 2000000 in
theorem crossed_any (s : Sh) (ps : List BP) (hps : ps.map Subtype.val = s.pts) (px py : Int) (hx : -100000 ≤ px ∧ px ≤ 100000) (hy : -100000 ≤ py ∧ py ≤ 100000) (w : World) :
    Calls Try.prog 36 #[s.value, .agg #[.int .i64 px, .int .i64 py]] w fun e w' => e = .returned (.int .i64 (s.crossed px py)) ∧ Kp w w' := by
  obtain ⟨len, hlen⟩ : ∃ len, s.pts.length = len := ⟨_, rfl⟩
  have h8 : len = 4 ∨ len = 8 := by rw [← hlen]; exact pts_length s
  have hl0 : (1 : Int) ≤ (len : Int) := by omega
  have hl8 : (len : Int) ≤ 8 := by omega
  obtain ⟨cs, hcs⟩ : ∃ cs, (ints s.nums).toArray = cs := ⟨_, rfl⟩
  have hc16 : cs[16]? = some (.int .i64 len) := by rw [← hcs]; simp [ints, nums_count, hlen]
  have hsz : cs.size = 17 := by rw [← hcs]; simp [ints, nums_length]
  have hs17 : Hid ((Try.prog.info? 77).map (·.size) = some cs.size) := Lib.hid (by rw [hsz]; exact Try.sizeS)
  obtain ⟨g0, g1⟩ := nums_get s (len - 1) (by omega)
  have hlast : pt s (len - 1) = s.last := by rw [← hlen]; rfl
  rw [hlast] at g0 g1
  have hcl0 : cs[(len - 1) * 2]? = some (.int .i64 s.last.1) := by rw [← hcs, Nat.mul_comm]; simp [ints, g0]
  have hcl1 : cs[(len - 1) * 2 + 1]? = some (.int .i64 s.last.2) := by rw [← hcs, Nat.mul_comm]; simp [ints, g1]
  obtain ⟨a0, ha0⟩ : ∃ a0, s.last = a0 := ⟨_, rfl⟩
  rw [ha0] at hcl0 hcl1
  have hbd : BdP a0 := by
    rw [← ha0]
    have hp : len - 1 < ps.length := by have := congrArg List.length hps; simp at this; omega
    have : s.last = (ps[len - 1]).1 := by
      rw [← hlast]; unfold pt; rw [← hps]; simp [List.getD, hp]
    rw [this]; exact (ps[len - 1]).2
  have Ha0 := Lib.hid ha0
  have hs17 := hs17
  have hv : s.value = .agg cs := by unfold Sh.value; rw [hcs]
  rw [hv]
  have Hv := Lib.hid hv
  have Hcs := Lib.hid hcs
  have Hlen := Lib.hid hlen
  have Hps := Lib.hid hps
  clear hv hcs hlen hps g0 g1 hlast ha0 hsz
  refine calls_of_wp_marks Try.func36 rfl ?_
  simp only [Try.ntmps36, List.size_toArray, List.length_cons, List.length_nil, Nat.reduceAdd, Nat.reduceSub, Array.replicate_succ, Array.replicate_zero, List.push_toArray, List.append_toArray, List.nil_append, List.cons_append]
  go_wp2_with (first | (go_at_call 38; refine (points_any _ _).mono ?_; rintro e w' ⟨rfl, rfl⟩) | (refine wpList_load_row (o := ⟨some 16, _, _, _, _, _⟩) rfl 77 (.tmp 2) rfl w.heap.size rfl 77 cs (0, 0) _ (heap_alloc4_first _ _ _ _ _) Try.underlying77 rfl hs17.out ?_))
  obtain ⟨W0, hW0⟩ : ∃ W0, (((((w.alloc (.cells cs 77)).alloc (.cells #[.int .i64 px, .int .i64 py] 44)).alloc (.cells #[.int .i64 0] 3)).alloc (.cells #[.int .i64 a0.1, .int .i64 a0.2] 44)).alloc (.cells cs 77)) = W0 := ⟨_, rfl⟩
  have hsz0 : W0.heap.size = w.heap.size + 1 + 1 + 1 + 1 + 1 := by rw [← hW0]; simp
  have hk0 : Kp w W0 := by rw [← hW0]; exact ((((Kp.alloc _ _).trans (Kp.alloc _ _)).trans (Kp.alloc _ _)).trans (Kp.alloc _ _)).trans (Kp.alloc _ _)
  have r1 : HasRow W0 (w.heap.size + 1) #[.int .i64 px, .int .i64 py] 44 := by
    rw [← hW0]; have := HasRow.new (w.alloc (.cells cs 77)) #[.int .i64 px, .int .i64 py] 44; rw [World.size_alloc] at this; exact ((this.alloc _).alloc _).alloc _
  have r2 : HasRow W0 (w.heap.size + 1 + 1) #[.int .i64 0] 3 := by
    rw [← hW0]; have := HasRow.new ((w.alloc (.cells cs 77)).alloc (.cells #[.int .i64 px, .int .i64 py] 44)) #[.int .i64 0] 3; rw [World.size_alloc, World.size_alloc] at this; exact (this.alloc _).alloc _
  have r3 : HasRow W0 (w.heap.size + 1 + 1 + 1) #[.int .i64 a0.1, .int .i64 a0.2] 44 := by
    rw [← hW0]; have := HasRow.new (((w.alloc (.cells cs 77)).alloc (.cells #[.int .i64 px, .int .i64 py] 44)).alloc (.cells #[.int .i64 0] 3)) #[.int .i64 a0.1, .int .i64 a0.2] 44; rw [World.size_alloc, World.size_alloc, World.size_alloc] at this; exact this.alloc _
  have r4 : HasRow W0 (w.heap.size + 1 + 1 + 1 + 1) cs 77 := by
    rw [← hW0]; have := HasRow.new ((((w.alloc (.cells cs 77)).alloc (.cells #[.int .i64 px, .int .i64 py] 44)).alloc (.cells #[.int .i64 0] 3)).alloc (.cells #[.int .i64 a0.1, .int .i64 a0.2] 44)) cs 77; rwa [World.size_alloc, World.size_alloc, World.size_alloc, World.size_alloc] at this
  have hB : HasSh W0 (w.heap.size + 1 + 1 + 1 + 1) s := by unfold HasSh; rw [Hcs.out]; exact r4
  rw [hW0]
  refine wpIn_wide.1 (wpIn_rangeFunc_ownH (F := Fence.wide) (n := 9) (gf := 44) (lb := #[.pointer (some ⟨w.heap.size + 1 + 1 + 1 + 1, 0, none⟩)]) rfl (by omega) rfl trivial enters_points1
    (points_stops Fence.wide 8 trivial rfl (by omega) (w.heap.size + 1 + 1 + 1 + 1) s ps Hps.out W0 hB) (fun h k => k.trans h) ?hKb (Below.refl _ _) (fun _ => rfl)
    (fun pre W => CrossI w px py a0 cs (w.heap.size + 1) (w.heap.size + 1 + 1) (w.heap.size + 1 + 1 + 1) (w.heap.size + 1 + 1 + 1 + 1) pre W) (fun _ _ _ => False)
    (crossI_own _ _ _ _ _ _ _ _ _ _ hk0.size) (fun _ _ _ _ _ h _ _ => h) ⟨r1, r2, r3, r4, hbd, hk0⟩
    (fun x a' W => ∃ Bx, w.heap.size + 1 + 1 + 1 + 1 + 1 ≤ Bx ∧ HasRow W Bx #[.int .i64 x.1.1, .int .i64 x.1.2] 44 ∧ a' = { tmps := #[.agg cs, .agg #[.int .i64 px, .int .i64 py], .pointer (some ⟨w.heap.size, 0, none⟩), .pointer (some ⟨w.heap.size + 1, 0, none⟩), .int .i64 0, .pointer (some ⟨w.heap.size + 1 + 1, 0, none⟩), .pointer (some ⟨w.heap.size + 1 + 1 + 1, 0, none⟩), .pointer (some ⟨Bx, 0, none⟩), undef, undef, .pointer (some ⟨w.heap.size, 16, none⟩), .int .i64 len, .int .i64 (len - 1), .pointer (some ⟨w.heap.size, 0, none⟩), .pointer (some ⟨w.heap.size, (len - 1) * 2, none⟩), .agg #[.int .i64 a0.1, .int .i64 a0.2], .agg cs, .func (.func 44) #[] #[.pointer (some ⟨w.heap.size + 1 + 1 + 1 + 1, 0, none⟩)], .agg #[.int .i64 x.1.1, .int .i64 x.1.2], undef, undef, undef, undef, undef, undef, undef, undef, undef, undef, undef, undef, undef, undef, undef, undef, undef, undef, undef, undef, undef, undef, undef, undef, undef, undef, undef, undef, undef, undef, undef, undef, undef, undef, undef, undef, undef, undef, undef, undef, undef, undef, undef, undef, undef, undef, undef, undef, undef, undef], defers := [] })
    ?hAx ?assign ?body ?done ?stop)
  case hKb =>
    intro W l o o' hl _ _ _
    exact World.putObj_heap_other (by omega)
  case hAx =>
    rintro x a' _ X Y row ⟨Bx, h1, h2, h3⟩ hg hr
    exact ⟨Bx, h1, h2.kept hg (fun e => by obtain ⟨_, o, ho, hc⟩ := hr Bx e.symm; rw [show X.heap[Bx]? = _ from h2] at ho; cases ho; cases hc), h3⟩
  case assign =>
    rintro l pre x W K hi hK
    unfold encP
    gi_wp2
    obtain ⟨q1, q2, q3, q4, q6, q5⟩ := hi
    refine hK _ _ ((KeepsOthers.alloc _ _).from _) ((Kp.alloc _ _).heap q4.lt) ⟨q1.alloc _, q2.alloc _, q3.alloc _, q4.alloc _, q6, q5.trans (Kp.alloc _ _)⟩ ⟨W.heap.size, ?_, HasRow.new W _ _, rfl⟩
    have := q4.lt; omega
  case body =>
    rintro l pre x a' W hl _ hi ⟨Bx, hBx, hrow, rfl⟩ hpl
    obtain ⟨q1, q2, q3, q4, q6, q5⟩ := hi
    obtain ⟨ab, hab⟩ : ∃ ab, walkTo px py (a0, 0) (pre.map Subtype.val) = ab := ⟨_, rfl⟩
    rw [hab] at q2 q3 q6
    obtain ⟨⟨ax, ay⟩, na⟩ := ab
    have Hna : Hid (na ≤ 1000) := Lib.hid (by
      have h1 := walkTo_le px py (a0, 0) (pre.map Subtype.val)
      rw [hab] at h1
      have h2 := congrArg List.length Hps.out
      have h3 := Hlen.out
      simp at h1 h2
      omega)
    have H4 := Lib.hid q4
    have Hab := Lib.hid hab
    clear hab
    obtain ⟨⟨bx, cy⟩, hbx⟩ := x
    simp only at q2 q3 q6 hrow
    have l1 := q1.lt
    have l2 := q2.lt
    have l3 := q3.lt
    have lB := hrow.lt
    have p10 := q1.cell 0
    have p11 := q1.cell 1
    have p20 := q2.cell 0
    have p30 := q3.cell 0
    have p31 := q3.cell 1
    have px0 := hrow.cell 0
    have px1 := hrow.cell 1
    simp only [List.getElem?_toArray, List.getElem?_cons_zero, List.getElem?_cons_succ] at p10 p11 p20 p30 p31 px0 px1
    gi_wp2
    refine wpIn_mono (Q := CrossMid W (ax, ay) (bx, cy) (fun B8 B9 => #[.agg cs, .agg #[.int .i64 px, .int .i64 py], .pointer (some ⟨w.heap.size, 0, none⟩), .pointer (some ⟨w.heap.size + 1, 0, none⟩), .int .i64 0, .pointer (some ⟨w.heap.size + 1 + 1, 0, none⟩), .pointer (some ⟨w.heap.size + 1 + 1 + 1, 0, none⟩), .pointer (some ⟨Bx, 0, none⟩), .pointer (some ⟨B8, 0, none⟩), .pointer (some ⟨B9, 0, none⟩), .pointer (some ⟨w.heap.size, 16, none⟩), .int .i64 len, .int .i64 (len - 1), .pointer (some ⟨w.heap.size, 0, none⟩), .pointer (some ⟨w.heap.size, (len - 1) * 2, none⟩), .agg #[.int .i64 a0.1, .int .i64 a0.2], .agg cs, .func (.func 44) #[] #[.pointer (some ⟨w.heap.size + 1 + 1 + 1 + 1, 0, none⟩)], .agg #[.int .i64 bx, .int .i64 cy], .agg #[.int .i64 ax, .int .i64 ay], .agg #[.int .i64 bx, .int .i64 cy], undef, undef, undef, undef, undef, undef, undef, undef, undef, undef, undef, undef, undef, undef, undef, undef, undef, undef, undef, undef, undef, undef, undef, undef, undef, undef, undef, undef, undef, undef, undef, undef, undef, undef, undef, undef, undef, undef, undef, undef, undef, undef, undef, undef, undef, undef, undef, undef])) ?_ ?_
    case refine_1 =>
      have hmix : Try.prog.follows .mixedOrders = true := by kernel_rfl
      gi_region_with_o (fail)
      all_goals first | exact crossMid_a _ _ _ _ | exact crossMid_b _ _ _ _
    rintro e a' W' ⟨rfl, B8, B9, rfl, h8', h9', h89, r8, r9, hk', ho'⟩
    have s1 : HasRow W' (w.heap.size + 1) #[.int .i64 px, .int .i64 py] 44 := (hk'.heap l1).trans q1
    have s2 : HasRow W' (w.heap.size + 1 + 1) #[.int .i64 (na : Int)] 3 := (hk'.heap l2).trans q2
    have s3 : HasRow W' (w.heap.size + 1 + 1 + 1) #[.int .i64 ax, .int .i64 ay] 44 := (hk'.heap l3).trans q3
    have s4 : HasRow W' (w.heap.size + 1 + 1 + 1 + 1) cs 77 := (hk'.heap q4.lt).trans q4
    have sx : HasRow W' Bx #[.int .i64 bx, .int .i64 cy] 44 := (hk'.heap lB).trans hrow
    have l4 := q4.lt
    clear p10 p11 p20 p30 p31 px0 px1 q1 q2 q3 q4 hrow
    have p10 := s1.cell 0
    have p11 := s1.cell 1
    have p20 := s2.cell 0
    have p80 := r8.cell 0
    have p81 := r8.cell 1
    have p90 := r9.cell 0
    have p91 := r9.cell 1
    have px0 := sx.cell 0
    have px1 := sx.cell 1
    have p30 := s3.cell 0
    have p31 := s3.cell 1
    simp only [List.getElem?_toArray, List.getElem?_cons_zero, List.getElem?_cons_succ] at p10 p11 p20 p30 p31 p80 p81 p90 p91 px0 px1
    have f20 := s2.frozen 0
    have f30 := s3.frozen 0
    have f31 := s3.frozen 1
    have f80 := r8.frozen 0
    have f81 := r8.frozen 1
    have f90 := r9.frozen 0
    have f91 := r9.frozen 1
    have d2 : (w.heap.size + 1 + 1 = B8) = False := by simp; omega
    have d2' : (w.heap.size + 1 + 1 = B9) = False := by simp; omega
    obtain ⟨b1, b2, b3, b4⟩ := q6
    obtain ⟨b5, b6, b7, b8⟩ := id hbx
    obtain ⟨b9, b10⟩ := hx
    obtain ⟨b11, b12⟩ := hy
    simp only at b1 b2 b3 b4 b5 b6 b7 b8
    have cz : CrossZ w px py (ax, ay) cs W W' (na : Int) := ⟨s1, s2, s3, s4, q5.trans hk', ho', l4, H4.out⟩
    have hna : Hid (na ≤ 1000) := Hna
    have Hcz := Lib.hid cz
    clear cz s1 s2 s3 s4 sx r8 r9 hk' ho' q5
    have w1 : wrap64 ((px - bx) * (ay - cy)) = (px - bx) * (ay - cy) := wrapMul (by omega) (by omega) (by omega) (by omega)
    have w2 : wrap64 ((py - cy) * (ax - bx)) = (py - cy) * (ax - bx) := wrapMul (by omega) (by omega) (by omega) (by omega)
    have w3 : wrap64 ((px - ax) * (cy - ay)) = (px - ax) * (cy - ay) := wrapMul (by omega) (by omega) (by omega) (by omega)
    have w4 : wrap64 ((py - ay) * (bx - ax)) = (py - ay) * (bx - ax) := wrapMul (by omega) (by omega) (by omega) (by omega)
    have hnb : (na : Int) ≤ 1000 := by have := Hna.out; omega
    gi_wp2
    all_goals first
      | (with_reducible refine crossEnd Hab.out Hcz.out ?_ _ _
         first
           | (rw [@eg6 ax ay bx cy px py ‹_› ‹_› ‹_› ‹_›]; simp; done)
           | (rw [@eg7 ax ay bx cy px py ‹_› ‹_› ‹_›]; simp; done)
           | (rw [@eg8 ax ay bx cy px py ‹_› ‹_›]; simp; done))
      | (with_reducible refine crossEnd Hab.out (Hcz.out.n _) ?_ _ _
         rw [@eg5 ax ay bx cy px py ‹_› ‹_› ‹_› ‹_›]; simp; done)
      | (with_reducible refine crossEnd Hab.out ((((Hcz.out.new h8' _ _).new h8' _ _).new h9' _ _).new h9' _ _) ?_ _ _
         first
           | (rw [@eg2 ax ay bx cy px py ‹_› ‹_› ‹_› ‹_›]; simp; done)
           | (rw [@eg3 ax ay bx cy px py ‹_› ‹_› ‹_›]; simp; done)
           | (rw [@eg4 ax ay bx cy px py ‹_› ‹_›]; simp; done))
      | (with_reducible refine crossEnd Hab.out (((((Hcz.out.new h8' _ _).new h8' _ _).new h9' _ _).new h9' _ _).n _) ?_ _ _
         rw [@eg1 ax ay bx cy px py ‹_› ‹_› ‹_› ‹_›]; simp; done)
  case done =>
    rintro D ys W hD rfl ⟨q1, q2, q3, q4, q6, q5⟩ hDd
    have e : (walkTo px py (a0, 0) (ys.map Subtype.val)).2 = s.crossed px py := by unfold Sh.crossed; rw [Ha0.out, Hps.out]
    rw [e] at q2
    have p20 := q2.cell 0
    simp only [List.getElem?_toArray, List.getElem?_cons_zero] at p20
    have HD := Lib.hid hDd
    have Q5 := Lib.hid q5
    clear hDd q5 q1 q2 q3 q4 q6 e
    go_wp2
    refine ⟨by simp, .inl ⟨_, _, rfl, run_takeDeferred HD.out, ?_⟩⟩
    exact ⟨_, results_tmp rfl _ _ _, rfl, kp_putObj (by omega) Q5.out HD.out⟩
  case stop =>
    rintro D c pre W _ _ h _
    exact h.elim
end Go.Proofs.Ytejmliomagnjfaa
