/- The contract of glyph.Outline at the dot's code; the known examples of layer 23. -/
import Derived.Test.YtejmliomagnjfaaCollect
import Derived.Test.YtejmliomagnjfaaGByte
namespace Go.Proofs.Ytejmliomagnjfaa
open Go Go.RowKit Go.Shelf

theorem Try.infoSlP : (Try.prog.info? 64).map (fun i => (i.zero, i.size, i.bytes)) = some (some (.slice none 0 0), 1, 24) := by kernel_rfl

/-- What a slice owns lies in a block of its own. -/
theorem owns_row {w : World} {base : Nat} {e : TypeId} {size : Nat} {v : Value} {n : Nat} {xs : List Value} (h : w.ownsRow base e size v (n + 1) xs) :
    ∃ (g cap : Nat) (cur : Array Value), v = .slice (some ⟨g, 0, none⟩) (n + 1) cap ∧ base ≤ g ∧ HasRow w g cur e ∧ (∀ (j : Nat) (u : Value), xs[j]? = some u → cur[j]? = some u) ∧ n + 1 ≤ cap ∧ cap ≤ maxLen := by
  rcases h.2 with ⟨_, h0⟩ | ⟨g, cap, cur, rfl, hb, hg, hc, hm, hs, ht⟩
  · omega
  · refine ⟨g, cap, cur, rfl, hb, hg, fun j u hj => ?_, hc, hm⟩
    rw [← ht, List.getElem?_take] at hj
    split at hj
    · simpa using hj
    · simp at hj

def dotSh : Sh := ⟨1, 0, -12, 24, 12, 0⟩
theorem shapes_dot : shapesAt 34 = [dotSh] := by decide +kernel
theorem dot_ps : ∃ ps : List BP, ps.map Subtype.val = dotSh.pts ∧ ps.length = 8 ∧ (ptCells ps)[0]? = some (.int .i64 6) ∧ (ptCells ps)[1]? = some (.int .i64 (-12)) := by
  obtain ⟨ps, hps⟩ := shape_ps (code := 34) (s := dotSh) (by rw [shapes_dot]; simp)
  have hl : ps.length = 8 := by
    have := congrArg List.length hps
    rw [List.length_map] at this
    exact this
  cases ps with
  | nil => simp at hl
  | cons p ps =>
    have h0 : p.1 = (6, -12) := by
      have := congrArg (fun l => l[0]?) hps
      simp only [List.map_cons, List.getElem?_cons_zero] at this
      have e : dotSh.pts[0]? = some (6, -12) := by decide +kernel
      rw [e] at this
      exact Option.some.inj this
    refine ⟨p :: ps, hps, hl, ?_, ?_⟩
    · simp [ptCells, h0]
    · simp [ptCells, h0]
theorem get_34 (w : World) : Calls Try.prog 33 #[.int .i64 34] w fun e w' => ∃ v nm, e = .returned (.tuple #[.agg #[.string nm, v], .int .i64 0]) ∧ ShRow w.heap.size w' v [dotSh] ∧ Kp w w' := by
  refine (get_in 34 w (by decide) (by decide)).mono ?_
  rintro e w' ⟨v, rfl, h1, h2⟩
  rw [shapes_dot] at h1
  exact ⟨v, _, rfl, h1, h2⟩

/-- The first of the dot's polygons. -/
structure DotAt (w0 W : World) (v : Value) : Prop where
  at_ : ∃ B cap A C cap2 D, v = .slice (some ⟨B, 0, none⟩) 1 cap ∧ HasRow W B A 64 ∧ A[0]? = some (.slice (some ⟨C, 0, none⟩) 8 cap2) ∧ HasRow W C D 44 ∧ D[0]? = some (.int .i64 6) ∧ D[1]? = some (.int .i64 (-12))

set_option maxRecDepth 100000 in
set_option maxHeartbeats 2000000 in
theorem Outline_dot (w : World) : Calls Try.prog 30 #[.int .i64 34] w fun e w' => ∃ v, e = .returned (.tuple #[v, .int .i64 0]) ∧ DotAt w w' v ∧ Kp w w' := by
  obtain ⟨ps, hps, hp8, hp0, hp1⟩ := dot_ps
  obtain ⟨i0, hi, hz0, hz1, hz2⟩ := info_parts Try.infoSlP
  have Hi := Lib.hid hi
  have Hz0 := Lib.hid hz0
  have Hz1 := Lib.hid hz1
  have Hz2 := Lib.hid hz2
  obtain ⟨cs, hcs⟩ : ∃ cs, ints dotSh.nums = cs := ⟨_, rfl⟩
  have hc17 : cs.length = 17 := by rw [← hcs]; simp [ints, nums_length]
  have hone : Hid (cs.toArray.toList.all (·.oneCell') = true) := Lib.hid (by rw [← hcs]; simp [ints, Value.oneCell'])
  have hsz2 : Hid ((Try.prog.info? 77).map (·.size) = some cs.length) := Lib.hid (by rw [Try.sizeS, hc17])
  have hcol := fun Bs W hB => collect_any dotSh ps hps Bs W hB
  rw [hp8] at hcol
  have Hcol := Lib.hid hcol
  have Hp0 := Lib.hid hp0
  have Hp1 := Lib.hid hp1
  have Hcs := Lib.hid hcs
  have Hc17 := Lib.hid hc17
  clear hi hz0 hz1 hz2 hcol hp0 hp1 hcs hps hc17 hp8
  go_enter Try.func30, Try.ntmps30
  go_wp2_with (go_at_call 33; refine (get_34 _).mono ?_; rintro e w' ⟨v, nm, rfl, ⟨B, rfl, g1, g2, g3⟩, hk⟩; have Hk := Lib.hid hk; have G3 := Lib.hid g3; clear hk g3)
  obtain ⟨W1, hW1⟩ : ∃ W1, w'.alloc (.cells #[.string nm, .slice (some ⟨B, 0, none⟩) 1 1] 58) = W1 := ⟨_, rfl⟩
  have hk1 : Kp w W1 := by rw [← hW1]; exact Hk.out.trans (Kp.alloc _ _)
  have G1 : HasRow W1 B cs.toArray 77 := by
    rw [← hW1]
    have h := HasRow.alloc (show HasRow w' B _ _ from G3.out) (.cells #[.string nm, .slice (some ⟨B, 0, none⟩) 1 1] 58)
    simpa [Hcs.out] using h
  have hsrc : Hid (∀ wr, Kp W1 wr → ∀ j v, cs[j]? = some v → wr.cell? (({ block := B, off := 0 } : Addr).add j) = some v) := Lib.hid (by
    intro wr hkr j v hj
    have ha : ({ block := B, off := 0 } : Addr).add j = ⟨B, j, none⟩ := by unfold Addr.add; split <;> simp_all
    rw [ha, (G1.kp hkr).cell]
    simpa using hj)
  try rw [hW1]
  have Hk1 := Lib.hid hk1
  clear hk1 G1 hW1 Hk G3
  go_loopw [6, 20] (fun o i wr => Kp W1 wr ∧ ((i = .int .i64 0 ∧ o = .slice none 0 0) ∨ (i = .int .i64 1 ∧ DotAt w wr o))) (fun _ i _ => 1 - (intOf i).toNat)
  case atStart => exact ⟨Kp.refl _, .inl ⟨rfl, rfl⟩⟩
  case round =>
    obtain ⟨hkr, ⟨rfl, rfl⟩ | ⟨rfl, hd⟩⟩ := hrel
    · have hs0 := Lib.hid (hsrc.out wr hkr)
      have Hkr := Lib.hid hkr
      clear hkr
      go_wp2_with (first
        | (refine wpList_load_cells (o := ⟨some 23, _, _, _, _, _⟩) rfl 77 (.tmp 22) rfl ⟨B, 0, none⟩ cs rfl hs0.out _ Try.underlying77 rfl hsz2.out ?_)
        | (refine wpList_store_new1 (o := ⟨none, _, _, _, _, _⟩) rfl 77 (.tmp 8) (.tmp 23) rfl cs.toArray _ 77 rfl rfl (by simpa using hsz2.out) (by simp [Hc17.out]) hone.out ?_)
        | (refine wpList_load_row (o := ⟨some 25, _, _, _, _, _⟩) rfl 77 (.tmp 8) rfl wr.heap.size rfl 77 cs.toArray (0, 0) _ (heap_alloc_new _ _) Try.underlying77 rfl (by simpa using hsz2.out) ?_)
        | (go_at_call 38; refine (points_any _ _).mono ?_; rintro e w3 ⟨rfl, rfl⟩)
        | (go_at_call 42; refine (Hcol.out _ _ (by
            have h := HasRow.new (wr.alloc (.cells cs.toArray 77)) cs.toArray 77
            rw [World.size_alloc] at h
            unfold HasSh; rw [Hcs.out]; exact h)).mono ?_; rintro e w4 ⟨v, rfl, hown, hk4⟩; obtain ⟨C, cap2, D, rfl, hC1, hC2, hC3, _, _⟩ := owns_row hown; have HC2 := Lib.hid hC2; have HC3 := Lib.hid hC3; have Hk4 := Lib.hid hk4; clear hown hC2 hC3 hk4)
        | (at_builtin; go_must (refine wpList_append_own _ rfl _ _ 61 rfl w.heap.size 64 i0 (.slice none 0 0) 1 24 Try.underlying61 Hi.out Hz0.out Hz1.out Hz2.out rfl (by decide) _ 0 [] rfl ⟨rfl, .inl ⟨rfl, rfl⟩⟩ ⟨w4.heap.size, 0, none⟩ 1 1 [.slice (some ⟨C, 0, none⟩) 8 cap2] rfl rfl (cell_one_new _ _ _) (by simp [Value.oneCell']) (by unfold maxLen; omega) (by omega) (by simp only [World.size_alloc]; have h1 := Hk1.out.size; have h2 := Hkr.out.size; have h3 := Hk4.out.size; simp only [World.size_alloc] at h3; omega) ?_); (intro v' w5 hown' hgrow _; have Hown := Lib.hid hown'; have Hgrow := Lib.hid hgrow; clear hown' hgrow)))
      go_roundw
      case rel =>
        have hg : (w4.alloc (.cells #[.slice (some ⟨C, 0, none⟩) 8 cap2] 64)).grownBy w5 none := Hgrow.out
        have k5 : Kp w4 w5 := Below.grown (Kp.alloc w4 _) hg (Kp.alloc w4 _).size (fun j e => by cases e)
        obtain ⟨B2, cap, A, rfl, hB1, hB2, hB3, _, _⟩ := owns_row (n := 0) Hown.out
        refine ⟨?_, .inr ⟨by go_num, ⟨B2, cap, A, C, cap2, D, rfl, hB2, hB3 0 _ rfl, HC2.out.kp k5, HC3.out 0 _ Hp0.out, HC3.out 1 _ Hp1.out⟩⟩⟩
        exact (((Hkr.out.trans (Kp.alloc _ _)).trans (Kp.alloc _ _)).trans Hk4.out).trans k5
      case measure => simp [intOf]
    · have Hd := Lib.hid hd
      have Hkr := Lib.hid hkr
      clear hd hkr
      go_wp2
      go_ret2
      exact ⟨_, rfl, Hd.out, Hk1.out.trans Hkr.out⟩

theorem box4 (w : World) : Calls Try.prog 28 #[.int .i64 4] w fun e w' => e = .returned (.tuple #[.agg #[.int .i64 0, .int .i64 (-32), .int .i64 76, .int .i64 32], .int .i64 0]) ∧ Kp w w' := by
  have e : (boxG 4).cells = #[.int .i64 0, .int .i64 (-32), .int .i64 76, .int .i64 32] := by
    have : boxG 4 = ⟨0, -32, 76, 32⟩ := by decide +kernel
    rw [this]; rfl
  have h := box_in 4 w (by decide) (by decide)
  rw [e] at h
  exact h

set_option maxRecDepth 100000 in
set_option maxHeartbeats 2000000 in
theorem known23_any (w : World) : Calls Try.prog 12 #[] w fun e w' => e = .returned (.bool true) ∧ Kp w w' := by
  go_enter Try.func12, Try.ntmps12
  go_wp2_with (first
    | (go_at_call 28; refine (box4 _).mono ?_; rintro e w1 ⟨rfl, hk1⟩; have Hk1 := Lib.hid hk1; clear hk1)
    | (go_at_call 30; refine (Outline_dot _).mono ?_; rintro e w2 ⟨v, rfl, ⟨B, cap, A, C, cap2, D, rfl, r1, c1, r2, c2, c3⟩, hk2⟩; have q1 := (r1.cell 0).trans c1; have q2 := (r2.cell 0).trans c2; have q3 := (r2.cell 1).trans c3; have p0 := (HasRow.new w1 #[.int .i64 0, .int .i64 (-32), .int .i64 76, .int .i64 32] 52).kp hk2; have s0 := p0.cell 0; have s1 := p0.cell 1; have s2 := p0.cell 2; have s3 := p0.cell 3; simp only [List.getElem?_toArray, List.getElem?_cons_zero, List.getElem?_cons_succ] at s0 s1 s2 s3; have Hk2 := Lib.hid hk2; clear hk2 p0 r1 c1 r2 c2 c3)
    | (go_at_call 31; refine (Text_la _).mono ?_; rintro e w3 ⟨rfl, hk3⟩; have Hk3 := Lib.hid hk3; clear hk3))
  go_ret
  exact ⟨retBool (by simp), ((Hk1.out.trans (Kp.alloc _ _)).trans Hk2.out).trans Hk3.out⟩
end Go.Proofs.Ytejmliomagnjfaa
