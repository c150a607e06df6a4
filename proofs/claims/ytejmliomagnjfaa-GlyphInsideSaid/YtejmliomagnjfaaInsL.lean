/- The law of the inside: the glyph's own answer agrees with the definition. -/
import Derived.Deep.RegionHeld3
import Derived.Test.YtejmliomagnjfaaRefIn
import Derived.Test.YtejmliomagnjfaaInBoxL
namespace Go.Proofs.Ytejmliomagnjfaa
open Go Go.RowKit Go.Shelf
set_option linter.unusedSimpArgs false

/-- Turned once for every edge. -/
theorem edgesTo_xor (l : List (Int × Int)) (px py : Int) (b : Bool) : ∀ k, edgesTo l px py b (k + 1) = (edgesTo l px py b k != edgeAt l px py k)
  | k => by
    show (if edgeAt l px py k = true then _ else _) = _
    cases edgeAt l px py k <;> cases edgesTo l px py b k <;> rfl
theorem walkTo_par (px py : Int) (s : (Int × Int) × Nat) (b : Int × Int) (l : List (Int × Int)) : ((walkTo px py s (b :: l)).2 % 2 == 1) = ((s.2 % 2 == 1) != ((walkTo px py (s.1, 0) (b :: l)).2 % 2 == 1)) := by
  have h : ∀ (l : List (Int × Int)) (s : (Int × Int) × Nat), (walkTo px py s l).2 = s.2 + (walkTo px py (s.1, 0) l).2 := by
    intro l
    induction l with
    | nil => intro s; simp [walkTo]
    | cons b l ih =>
      intro s
      rw [walkTo_cons, walkTo_cons, ih, ih (b, (s.1, 0).2 + _)]
      simp only
      omega
  rw [h (b :: l) s]
  rcases Nat.mod_two_eq_zero_or_one s.2 with h1 | h1 <;> rcases Nat.mod_two_eq_zero_or_one (walkTo px py (s.1, 0) (b :: l)).2 with h2 | h2 <;> simp [Nat.add_mod, h1, h2]
theorem bit_par (e : Bool) : ((0 + if e = true then 1 else 0 : Nat) % 2 == 1) = e := by cases e <;> rfl
theorem walkTo_one (px py : Int) (a b : Int × Int) : ((walkTo px py (a, 0) [b]).2 % 2 == 1) = edge a b px py := by
  show ((0 + if edge a b px py = true then 1 else 0 : Nat) % 2 == 1) = _
  exact bit_par _
theorem walkTo_two (px py : Int) (a b c : Int × Int) (l : List (Int × Int)) : ((walkTo px py (a, 0) (b :: c :: l)).2 % 2 == 1) = (edge a b px py != ((walkTo px py (b, 0) (c :: l)).2 % 2 == 1)) := by
  rw [walkTo_cons, walkTo_par]
  congr 1
  exact bit_par _
theorem edgesTo4 (l : List (Int × Int)) (px py : Int) (b : Bool) : edgesTo l px py b 4 = ((((b != edgeAt l px py 0) != edgeAt l px py 1) != edgeAt l px py 2) != edgeAt l px py 3) := by
  have h := edgesTo_xor l px py b
  rw [(h 3 : edgesTo l px py b 4 = _), (h 2 : edgesTo l px py b 3 = _), (h 1 : edgesTo l px py b 2 = _), (h 0 : edgesTo l px py b 1 = _)]
  rfl
theorem edgesTo8 (l : List (Int × Int)) (px py : Int) (b : Bool) : edgesTo l px py b 8 = ((((((((b != edgeAt l px py 0) != edgeAt l px py 1) != edgeAt l px py 2) != edgeAt l px py 3) != edgeAt l px py 4) != edgeAt l px py 5) != edgeAt l px py 6) != edgeAt l px py 7) := by
  have h := edgesTo_xor l px py b
  rw [(h 7 : edgesTo l px py b 8 = _), (h 6 : edgesTo l px py b 7 = _), (h 5 : edgesTo l px py b 6 = _), (h 4 : edgesTo l px py b 5 = _), (h 3 : edgesTo l px py b 4 = _), (h 2 : edgesTo l px py b 3 = _), (h 1 : edgesTo l px py b 2 = _), (h 0 : edgesTo l px py b 1 = _)]
  rfl
theorem edges_cyc (s : Sh) (px py : Int) (b : Bool) : edgesTo s.pts px py b s.pts.length = (b != (s.crossed px py % 2 == 1)) := by
  unfold Sh.crossed Sh.last pt
  rcases pts_length s with h | h
  · obtain ⟨a0, a1, a2, a3, e⟩ : ∃ a b c d, s.pts = [a, b, c, d] := by
      match hp : s.pts, h with
      | [a, b, c, d], _ => exact ⟨a, b, c, d, rfl⟩
    rw [e]
    simp only [List.length_cons, List.length_nil, Nat.reduceAdd, Nat.reduceSub, walkTo_two, walkTo_one, edgesTo4]
    simp only [edgeAt, ptOf, List.length_cons, List.length_nil, Nat.reduceAdd, Nat.reduceMod, List.getD_cons_zero, List.getD_cons_succ]
    generalize edge a0 a1 px py = x0
    generalize edge a1 a2 px py = x1
    generalize edge a2 a3 px py = x2
    generalize edge a3 a0 px py = x3
    revert b x0 x1 x2 x3
    decide
  · obtain ⟨a0, a1, a2, a3, a4, a5, a6, a7, e⟩ : ∃ a b c d a' b' c' d', s.pts = [a, b, c, d, a', b', c', d'] := by
      match hp : s.pts, h with
      | [a, b, c, d, a', b', c', d'], _ => exact ⟨a, b, c, d, a', b', c', d', rfl⟩
    rw [e]
    simp only [List.length_cons, List.length_nil, Nat.reduceAdd, Nat.reduceSub, walkTo_two, walkTo_one, edgesTo8]
    simp only [edgeAt, ptOf, List.length_cons, List.length_nil, Nat.reduceAdd, Nat.reduceMod, List.getD_cons_zero, List.getD_cons_succ]
    generalize edge a0 a1 px py = x0
    generalize edge a1 a2 px py = x1
    generalize edge a2 a3 px py = x2
    generalize edge a3 a4 px py = x3
    generalize edge a4 a5 px py = x4
    generalize edge a5 a6 px py = x5
    generalize edge a6 a7 px py = x6
    generalize edge a7 a0 px py = x7
    revert b x0 x1 x2 x3 x4 x5 x6 x7
    decide +kernel

theorem polys_inside (l : List Sh) (px py : Int) : ∀ j, j ≤ l.length → polysTo (l.map Sh.pts) px py j = (insideN (l.take j) px py % 2 == 1)
  | 0, _ => by simp [polysTo, insideN]
  | j + 1, h => by
    obtain ⟨s, hs⟩ : ∃ s, l[j]? = some s := ⟨l[j]'(by omega), by simp⟩
    have hg : (l.map Sh.pts).getD j [] = s.pts := by simp [List.getD, hs]
    show edgesTo ((l.map Sh.pts).getD j []) px py (polysTo (l.map Sh.pts) px py j) ((l.map Sh.pts).getD j []).length = _
    rw [hg, edges_cyc, polys_inside l px py j (by omega), insideN_take l px py j s hs]
    rcases Nat.mod_two_eq_zero_or_one (insideN (l.take j) px py) with h1 | h1 <;> rcases Nat.mod_two_eq_zero_or_one (s.crossed px py) with h2 | h2 <;> simp [Nat.add_mod, h1, h2]

theorem tab_some : (tab.all fun x => decide (1 ≤ x.2.length)) = true := by decide +kernel

set_option maxRecDepth 100000 in
set_option maxHeartbeats 2000000 in
theorem walk_ins_out (a0 px py : Int) (w : World) (h : a0 < 1 ∨ 68 < a0) :
    Calls Try.prog 8 #[.int .i64 a0, .agg #[.int .i64 px, .int .i64 py]] w fun e w' => e = .returned (.bool true) ∧ Kp w w' := by
  have hf : isCode a0 = false := by
    rw [Bool.eq_false_iff]; intro h'
    simp only [isCode, Bool.and_eq_true, decide_eq_true_eq] at h'
    omega
  have his := fun W => is_any a0 W
  rw [hf] at his
  have hi := fun W => inside_out a0 px py W h
  clear hf h
  go_enter Try.func8, Try.ntmps8
  go_wp2_with (first
    | (go_at_call 25; refine (hi _).mono ?_; rintro e w1 ⟨rfl, hk1⟩; have Hk1 := Lib.hid ((Kp.alloc w (.cells #[.int .i64 px, .int .i64 py] 44)).trans hk1); clear hk1)
    | (go_at_call 12; refine (known23_any _).mono ?_; rintro e w2 ⟨rfl, hk2⟩; have Hk2 := Lib.hid (Hk1.out.trans hk2); clear hk2)
    | (go_at_call 14; refine (his _).mono ?_; rintro e w' ⟨rfl, rfl⟩))
  go_ret
  exact ⟨retBool (by simp), Hk2.out⟩

set_option maxRecDepth 100000 in
set_option maxHeartbeats 2000000 in
theorem walk_ins_far (q : Nat) (px py : Int) (w : World) (hq : q < 68) (h : (px < -100000 ∨ 100000 < px) ∨ (py < -100000 ∨ 100000 < py)) :
    Calls Try.prog 8 #[.int .i64 ((q : Int) + 1), .agg #[.int .i64 px, .int .i64 py]] w fun e w' => e = .returned (.bool true) ∧ Kp w w' := by
  have hf : isCode ((q : Int) + 1) = true := by simp only [isCode, Bool.and_eq_true, decide_eq_true_eq]; omega
  have his := fun W => is_any ((q : Int) + 1) W
  rw [hf] at his
  have hi : ∀ W, Calls Try.prog 25 #[.int .i64 ((q : Int) + 1), .agg #[.int .i64 px, .int .i64 py]] W fun e w' => e = .returned (.tuple #[.bool false, .int .i64 0]) ∧ Kp W w' := fun W => inside_far (q + 1) px py W (by omega) (by omega) h
  have hc : px < -100000 ∨ (-100000 ≤ px ∧ 100000 < px) ∨ ((-100000 ≤ px ∧ px ≤ 100000) ∧ py < -100000) ∨ ((-100000 ≤ px ∧ px ≤ 100000) ∧ -100000 ≤ py ∧ 100000 < py) := by omega
  clear hf h
  rcases hc with h1 | ⟨h0, h1⟩ | ⟨⟨h0, h1⟩, h2⟩ | ⟨⟨h0, h1⟩, h2, h3⟩
  all_goals
    go_enter Try.func8, Try.ntmps8
    go_wp2_with (first
      | (go_at_call 25; refine (hi _).mono ?_; rintro e w1 ⟨rfl, hk1⟩; have Hk1 := Lib.hid ((Kp.alloc w (.cells #[.int .i64 px, .int .i64 py] 44)).trans hk1); have Hp1 := Lib.hid ((HasRow.new w #[.int .i64 px, .int .i64 py] 44).kp hk1); clear hk1)
      | (go_at_call 12; refine (known23_any _).mono ?_; rintro e w2 ⟨rfl, hk2⟩; have hp2 := Hp1.out.kp hk2; have p0 := hp2.cell 0; have p1 := hp2.cell 1; simp only [List.getElem?_toArray, List.getElem?_cons_zero, List.getElem?_cons_succ] at p0 p1; have Hk2 := Lib.hid (Hk1.out.trans hk2); clear hk2 hp2)
      | (go_at_call 14; refine (his _).mono ?_; rintro e w' ⟨rfl, rfl⟩))
    go_ret
    exact ⟨retBool (by simp), Hk2.out⟩

set_option maxRecDepth 100000 in
set_option maxHeartbeats 4000000 in
theorem walk_ins_near (q : Nat) (px py : Int) (w : World) (hq : q < 68) (hx : -100000 ≤ px ∧ px ≤ 100000) (hy : -100000 ≤ py ∧ py ≤ 100000) :
    Calls Try.prog 8 #[.int .i64 ((q : Int) + 1), .agg #[.int .i64 px, .int .i64 py]] w fun e w' => e = .returned (.bool true) ∧ Kp w w' := by
  have hf : isCode ((q : Int) + 1) = true := by simp only [isCode, Bool.and_eq_true, decide_eq_true_eq]; omega
  have his := fun W => is_any ((q : Int) + 1) W
  rw [hf] at his
  have hi : ∀ W, Calls Try.prog 25 #[.int .i64 ((q : Int) + 1), .agg #[.int .i64 px, .int .i64 py]] W fun e w' => e = .returned (.tuple #[.bool (insideG (q + 1) px py), .int .i64 0]) ∧ Kp W w' := fun W => inside_in (q + 1) px py W (by omega) (by omega) hx hy
  obtain ⟨x, hxt⟩ := tab_get q hq
  have hsh : shapesAt (q + 1) = x.2 := by simp [shapesAt, List.getD, hxt]
  have hlen : 1 ≤ (x.2.map Sh.pts).length ∧ (x.2.map Sh.pts).length ≤ 20 := by
    have h1 := List.all_eq_true.1 tab_some x (List.mem_of_getElem? hxt)
    have h2 := List.all_eq_true.1 tab_short x (List.mem_of_getElem? hxt)
    simp only [decide_eq_true_eq] at h1 h2
    simp only [List.length_map]
    omega
  have hb : ∀ l ∈ x.2.map Sh.pts, ∀ p ∈ l, BdP p := by
    intro l hl p hp
    obtain ⟨s, hs, rfl⟩ := List.mem_map.1 hl
    obtain ⟨ps, hps⟩ := shape_ps (code := q + 1) (s := s) (by rw [hsh]; exact hs)
    rw [← hps] at hp
    obtain ⟨b, _, rfl⟩ := List.mem_map.1 hp
    exact b.2
  have hl8 : ∀ l ∈ x.2.map Sh.pts, 1 ≤ l.length ∧ l.length ≤ 8 := by
    intro l hl
    obtain ⟨s, hs, rfl⟩ := List.mem_map.1 hl
    rcases pts_length s with h | h <;> omega
  have hri := fun n₀ v W hv => refIn_any (x.2.map Sh.pts) hb hlen hl8 px py hx hy n₀ v W hv
  have hpar : polysTo (x.2.map Sh.pts) px py (x.2.map Sh.pts).length = insideG (q + 1) px py := by
    rw [List.length_map, polys_inside x.2 px py x.2.length (Nat.le_refl _), List.take_length]
    unfold insideG
    rw [hsh]
  rw [hpar] at hri
  obtain ⟨r, hr⟩ : ∃ r, insideG (q + 1) px py = r := ⟨_, rfl⟩
  rw [hr] at hri hi
  have hout := fun W => refOut_any q x hxt W
  have Hri := Lib.hid hri
  have Hout := Lib.hid hout
  obtain ⟨x1, x2⟩ := hx
  obtain ⟨y1, y2⟩ := hy
  clear hf hsh hlen hb hl8 hri hpar hr hout hxt
  go_enter Try.func8, Try.ntmps8
  go_wp2_with (first
    | (go_at_call 25; refine (hi _).mono ?_; rintro e w1 ⟨rfl, hk1⟩; have Hk1 := Lib.hid ((Kp.alloc w (.cells #[.int .i64 px, .int .i64 py] 44)).trans hk1); have Hp1 := Lib.hid ((HasRow.new w #[.int .i64 px, .int .i64 py] 44).kp hk1); clear hk1)
    | (go_at_call 12; refine (known23_any _).mono ?_; rintro e w2 ⟨rfl, hk2⟩; have Hp2 := Lib.hid (Hp1.out.kp hk2); have p0 := Hp2.out.cell 0; have p1 := Hp2.out.cell 1; simp only [List.getElem?_toArray, List.getElem?_cons_zero, List.getElem?_cons_succ] at p0 p1; have Hk2 := Lib.hid (Hk1.out.trans hk2); clear hk2)
    | (go_at_call 14; refine (his _).mono ?_; rintro e w' ⟨rfl, rfl⟩))
  · have Hok : Hid (∀ W', Kp w2 W' → (W'.cell? ⟨w.heap.size, 0, none⟩ = some (.int .i64 px) ∧ W'.cell? ⟨w.heap.size, 1, none⟩ = some (.int .i64 py))) := Lib.hid (fun W' hk' => ⟨(Hp2.out.kp hk').cell 0, (Hp2.out.kp hk').cell 1⟩)
    have Hk3 : Hid (Kp w2 w2) := Lib.hid (Kp.refl _)
    refine wp_region_held_drew (S := (fun W' => W'.cell? ⟨w.heap.size, 0, none⟩ = some (.int .i64 px) ∧ W'.cell? ⟨w.heap.size, 1, none⟩ = some (.int .i64 py))) (by kernel_rfl) (Hok.out _ (Kp.drewQ Hk3.out)) (fun hHeld => ?_)
    refine wpAnyH_take (i := 0) (v := .int .i64 0) (by simp only [List.getElem?_toArray, List.getElem?_cons_zero]; rfl) (by kernel_rfl) (by kernel_rfl) (by kernel_rfl) (by intro _ _ _ h; exact h) (Or.inl ⟨by rfl, ?hy0⟩) (by assumption) ?rest0
    case hy0 => (intro w hSw; (try dsimp only at hSw); go_simp)
    simp only [Act.put, List.setIfInBounds_toArray, List.set_cons_zero, List.set_cons_succ]
    refine wpAnyH_take (i := 1) (v := .bool true) (by simp only [List.getElem?_toArray, List.getElem?_cons_succ, List.getElem?_cons_zero]; rfl) (by kernel_rfl) (by kernel_rfl) (by kernel_rfl) (by intro _ _ _ h; exact h) (Or.inl ⟨by rfl, ?hy1⟩) (by assumption) ?rest1
    case hy1 => (intro w hSw; (try dsimp only at hSw); go_simp)
    simp only [Act.put, List.setIfInBounds_toArray, List.set_cons_zero, List.set_cons_succ]
    refine wpAnyH_take (i := 2) (v := .bool true) (by simp only [List.getElem?_toArray, List.getElem?_cons_succ, List.getElem?_cons_zero]; rfl) (by kernel_rfl) (by kernel_rfl) (by kernel_rfl) (by intro _ _ _ h; exact h) (Or.inl ⟨by rfl, ?hy2⟩) (by assumption) ?rest2
    case hy2 => (intro w hSw; (try dsimp only at hSw); go_simp)
    simp only [Act.put, List.setIfInBounds_toArray, List.set_cons_zero, List.set_cons_succ]
    refine wpAnyH_take (i := 3) (v := .bool r) (by simp only [List.getElem?_toArray, List.getElem?_cons_succ, List.getElem?_cons_zero]; rfl) (by kernel_rfl) (by kernel_rfl) (by kernel_rfl) (by intro _ _ _ h; exact h) (Or.inl ⟨by rfl, ?hy3⟩) (by assumption) ?rest3
    case hy3 => (intro w hSw; (try dsimp only at hSw); go_simp)
    simp only [Act.put, List.setIfInBounds_toArray, List.set_cons_zero, List.set_cons_succ]
    refine wpAnyH_take (i := 4) (v := .int .i64 ((q : Int) + 1)) (by simp only [List.getElem?_toArray, List.getElem?_cons_succ, List.getElem?_cons_zero]; rfl) (by kernel_rfl) (by kernel_rfl) (by kernel_rfl) (by intro _ _ _ h; exact h) (Or.inl ⟨by rfl, ?hy4⟩) (by assumption) ?rest4
    case hy4 => (intro w hSw; (try dsimp only at hSw); go_simp)
    simp only [Act.put, List.setIfInBounds_toArray, List.set_cons_zero, List.set_cons_succ]
    refine wpAnyH_take (i := 6) (v := .pointer (some ⟨w.heap.size, 0, none⟩)) (by simp only [List.getElem?_toArray, List.getElem?_cons_succ, List.getElem?_cons_zero]; rfl) (by kernel_rfl) (by kernel_rfl) (by kernel_rfl) (by intro _ _ _ h; exact h) (Or.inl ⟨by rfl, ?hy6⟩) (by assumption) ?rest6
    case hy6 => (intro w hSw; (try dsimp only at hSw); go_simp)
    simp only [Act.put, List.setIfInBounds_toArray, List.set_cons_zero, List.set_cons_succ]
    refine wpAnyH_take (i := 7) (v := .int .i64 px) (by simp only [List.getElem?_toArray, List.getElem?_cons_succ, List.getElem?_cons_zero]; rfl) (by kernel_rfl) (by kernel_rfl) (by kernel_rfl) (by intro _ _ _ h; exact h) (Or.inl ⟨by rfl, ?hy7⟩) (by assumption) ?rest7
    case hy7 => (intro w hSw; (try dsimp only at hSw); go_simp)
    simp only [Act.put, List.setIfInBounds_toArray, List.set_cons_zero, List.set_cons_succ]
    refine wpAnyH_take (i := 8) (v := .pointer (some ⟨w.heap.size, 1, none⟩)) (by simp only [List.getElem?_toArray, List.getElem?_cons_succ, List.getElem?_cons_zero]; rfl) (by kernel_rfl) (by kernel_rfl) (by kernel_rfl) (by intro _ _ _ h; exact h) (Or.inl ⟨by rfl, ?hy8⟩) (by assumption) ?rest8
    case hy8 => (intro w hSw; (try dsimp only at hSw); go_simp)
    simp only [Act.put, List.setIfInBounds_toArray, List.set_cons_zero, List.set_cons_succ]
    refine wpAnyH_take (i := 9) (v := .int .i64 py) (by simp only [List.getElem?_toArray, List.getElem?_cons_succ, List.getElem?_cons_zero]; rfl) (by kernel_rfl) (by kernel_rfl) (by kernel_rfl) (by intro _ _ _ h; exact h) (Or.inl ⟨by rfl, ?hy9⟩) (by assumption) ?rest9
    case hy9 => (intro w hSw; (try dsimp only at hSw); go_simp)
    simp only [Act.put, List.setIfInBounds_toArray, List.set_cons_zero, List.set_cons_succ]
    refine wpAnyH_ready (rs := [5]) (by kernel_rfl) (by simp) ?_
    refine AllReadyH.cons rfl (fun K hK => ?_) AllReadyH.nil
    go_simp
    go_wp2_with (go_at_call 27; refine (Hout.out _).mono ?_; rintro e w6 ⟨v6, rfl, ho6, hk6⟩; have Hk6 := Lib.hid (Hk3.out.trans (Kp.trans (Kp.drewQ (Kp.refl _)) hk6)); have Ho6 := Lib.hid ho6; clear ho6 hk6)
    refine hK.out _ _ (Hok.out _ Hk6.out) (fun hHeld => ?_)
    clear hK K
    try simp only [Act.put, List.setIfInBounds_toArray, List.set_cons_zero, List.set_cons_succ]
    refine wpAnyH_ready (rs := [10]) (by kernel_rfl) (by simp) ?_
    refine AllReadyH.cons rfl (fun K hK => ?_) AllReadyH.nil
    go_simp
    go_wp2_with (go_at_call 26; refine (Hri.out _ _ _ Ho6.out).mono ?_; rintro e w7 ⟨rfl, hk7⟩; have Hk7 := Lib.hid (Hk6.out.trans hk7); clear hk7)
    refine hK.out _ _ (Hok.out _ Hk7.out) (fun hHeld => ?_)
    clear hK K
    try simp only [Act.put, List.setIfInBounds_toArray, List.set_cons_zero, List.set_cons_succ]
    refine wpAnyH_take (i := 11) (v := .bool true) (by simp only [List.getElem?_toArray, List.getElem?_cons_succ, List.getElem?_cons_zero]; rfl) (by kernel_rfl) (by kernel_rfl) (by kernel_rfl) (by intro _ _ _ h; exact h) (Or.inl ⟨by rfl, ?hy11⟩) (by assumption) ?rest11
    case hy11 => (intro w hSw; (try dsimp only at hSw); go_simp)
    simp only [Act.put, List.setIfInBounds_toArray, List.set_cons_zero, List.set_cons_succ]
    refine wpAnyH_take (i := 12) (v := .bool true) (by simp only [List.getElem?_toArray, List.getElem?_cons_succ, List.getElem?_cons_zero]; rfl) (by kernel_rfl) (by kernel_rfl) (by kernel_rfl) (by intro _ _ _ h; exact h) (Or.inl ⟨by rfl, ?hy12⟩) (by assumption) ?rest12
    case hy12 => (intro w hSw; (try dsimp only at hSw); go_simp)
    simp only [Act.put, List.setIfInBounds_toArray, List.set_cons_zero, List.set_cons_succ]
    refine wpAnyH_take (i := 13) (v := .bool true) (by simp only [List.getElem?_toArray, List.getElem?_cons_succ, List.getElem?_cons_zero]; rfl) (by kernel_rfl) (by kernel_rfl) (by kernel_rfl) (by intro _ _ _ h; exact h) (Or.inl ⟨by rfl, ?hy13⟩) (by assumption) ?rest13
    case hy13 => (intro w hSw; (try dsimp only at hSw); go_simp)
    simp only [Act.put, List.setIfInBounds_toArray, List.set_cons_zero, List.set_cons_succ]
    refine wpAnyH_done (by kernel_rfl) ?_ _
    go_wp2_with fail
    go_ret
    exact ⟨retBool rfl, Hk2.out.trans Hk7.out⟩

theorem walk_GlyphInside (a0 : Int) (a1_0 a1_1 : Int) (w : World) (_w0 : (Lit.int .i64 a0).wf = true) (_w1_0 : (Lit.int .i64 a1_0).wf = true) (_w1_1 : (Lit.int .i64 a1_1).wf = true) :
    Calls Try.prog 8 #[.int .i64 a0, .agg #[.int .i64 a1_0, .int .i64 a1_1]] w fun e w' => e = .returned (.bool true) ∧ Kp w w' := by
  by_cases h : a0 < 1 ∨ 68 < a0
  · exact walk_ins_out a0 a1_0 a1_1 w h
  · obtain ⟨q, hq, rfl⟩ : ∃ q : Nat, q < 68 ∧ a0 = (q : Int) + 1 := ⟨(a0 - 1).toNat, by omega, by omega⟩
    by_cases hf : (a1_0 < -100000 ∨ 100000 < a1_0) ∨ (a1_1 < -100000 ∨ 100000 < a1_1)
    · exact walk_ins_far q a1_0 a1_1 w hq hf
    · exact walk_ins_near q a1_0 a1_1 w hq (by omega) (by omega)
end Go.Proofs.Ytejmliomagnjfaa
