/- The contract of glyph.Inside. -/
import Derived.Test.YtejmliomagnjfaaCrossed
namespace Go.Proofs.Ytejmliomagnjfaa
open Go Go.RowKit Go.Shelf

def insideN (l : List Sh) (px py : Int) : Nat := (l.map fun s => s.crossed px py).sum
def insideG (code : Nat) (px py : Int) : Bool := insideN (shapesAt code) px py % 2 == 1

theorem flatMap17 {α : Type} (f : Sh → List α) (hf : ∀ s, (f s).length = 17) : ∀ (l : List Sh) (k j : Nat) (s : Sh), l[k]? = some s → j < 17 → (l.flatMap f)[k * 17 + j]? = (f s)[j]?
  | [], k, j, s, h, _ => by simp at h
  | x :: l, 0, j, s, h, hj => by
    simp at h; subst h
    rw [List.flatMap_cons, Nat.zero_mul, Nat.zero_add, List.getElem?_append_left (by rw [hf]; exact hj)]
  | x :: l, k + 1, j, s, h, hj => by
    simp at h
    rw [List.flatMap_cons, List.getElem?_append_right (by rw [hf]; omega), hf, show (k + 1) * 17 + j - 17 = k * 17 + j by omega]
    exact flatMap17 f hf l k j s h hj

theorem tab_bounded : (tab.all fun x => x.2.all fun s => s.pts.all fun p => decide (-1000 ≤ p.1) && decide (p.1 ≤ 1000) && decide (-1000 ≤ p.2) && decide (p.2 ≤ 1000)) = true := by decide +kernel
theorem tab_short : (tab.all fun x => decide (x.2.length ≤ 20)) = true := by decide +kernel

theorem shapes_mem {code : Nat} {s : Sh} (h : s ∈ shapesAt code) : ∃ x ∈ tab, s ∈ x.2 := by
  unfold shapesAt at h
  by_cases hc : code - 1 < tab.length
  · exact ⟨tab[code - 1], by simp, by simpa [List.getD, hc] using h⟩
  · simp [List.getD, List.getElem?_eq_none (Nat.le_of_not_lt hc)] at h

theorem shape_ps {code : Nat} {s : Sh} (h : s ∈ shapesAt code) : ∃ ps : List BP, ps.map Subtype.val = s.pts := by
  obtain ⟨x, hx, hs⟩ := shapes_mem h
  have hb : ∀ p ∈ s.pts, BdP p := by
    intro p hp
    have h1 := List.all_eq_true.1 tab_bounded x hx
    have h2 := List.all_eq_true.1 h1 s hs
    have h3 := List.all_eq_true.1 h2 p hp
    simp only [Bool.and_eq_true, decide_eq_true_eq] at h3
    exact ⟨h3.1.1.1, h3.1.1.2, h3.1.2, h3.2⟩
  exact ⟨s.pts.attachWith BdP hb, List.attachWith_map_subtype_val _⟩

theorem shapes_short (code : Nat) : (shapesAt code).length ≤ 20 := by
  unfold shapesAt
  by_cases hc : code - 1 < tab.length
  · have := List.all_eq_true.1 tab_short tab[code - 1] (by simp)
    simpa [List.getD, hc] using this
  · simp [List.getD, List.getElem?_eq_none (Nat.le_of_not_lt hc)]

theorem crossed_le (s : Sh) (px py : Int) : s.crossed px py ≤ 8 := by
  have := walkTo_le px py (s.last, 0) s.pts
  unfold Sh.crossed
  rcases pts_length s with h | h <;> simp [h] at this <;> omega

theorem insideN_take (l : List Sh) (px py : Int) (k : Nat) (s : Sh) (h : l[k]? = some s) : insideN (l.take (k + 1)) px py = insideN (l.take k) px py + s.crossed px py := by
  unfold insideN
  rw [List.take_add_one, h]
  simp

theorem insideN_le (l : List Sh) (px py : Int) : insideN l px py ≤ 8 * l.length := by
  induction l with
  | nil => simp [insideN]
  | cons s l ih =>
    have := crossed_le s px py
    simp only [insideN, List.map_cons, List.sum_cons, List.length_cons] at *
    omega

set_option maxRecDepth 100000 in
set_option maxHeartbeats 400000 in
theorem inside_out (code px py : Int) (w : World) (h : code < 1 ∨ 68 < code) :
    Calls Try.prog 25 #[.int .i64 code, .agg #[.int .i64 px, .int .i64 py]] w fun e w' => e = .returned (.tuple #[.bool false, .int .i64 11]) ∧ Kp w w' := by
  go_enter Try.func25, Try.ntmps25
  go_wp2_with (go_at_call 33; refine (get_out _ _ h).mono ?_; rintro e w' ⟨rfl, hk⟩; have Hk := Lib.hid hk; clear hk)
  go_ret2
  exact ⟨rfl, ((Kp.alloc _ _).trans Hk.out).trans (Kp.alloc _ _)⟩

set_option maxRecDepth 100000 in
set_option maxHeartbeats 1000000 in
theorem inside_far (code : Nat) (px py : Int) (w : World) (h1 : 1 ≤ code) (h2 : code ≤ 68) (h : (px < -100000 ∨ 100000 < px) ∨ (py < -100000 ∨ 100000 < py)) :
    Calls Try.prog 25 #[.int .i64 code, .agg #[.int .i64 px, .int .i64 py]] w fun e w' => e = .returned (.tuple #[.bool false, .int .i64 0]) ∧ Kp w w' := by
  by_cases c1 : px < -100000
  · go_enter Try.func25, Try.ntmps25
    go_wp2_with (go_at_call 33; refine (get_in code _ h1 h2).mono ?_; rintro e w' ⟨v, rfl, ⟨B, rfl, _⟩, hk⟩; have p0 := (HasRow.new w #[.int .i64 px, .int .i64 py] 44).kp hk; have p00 : w'.cell? ⟨w.heap.size, 0, none⟩ = some (.int .i64 px) := p0.cell 0; have p01 : w'.cell? ⟨w.heap.size, 1, none⟩ = some (.int .i64 py) := p0.cell 1; have l0 := p0.lt; have Hk := Lib.hid hk; clear hk p0)
    go_ret2
    exact ⟨rfl, ((Kp.alloc _ _).trans Hk.out).trans (Kp.alloc _ _)⟩
  by_cases c2 : 100000 < px
  · go_enter Try.func25, Try.ntmps25
    go_wp2_with (go_at_call 33; refine (get_in code _ h1 h2).mono ?_; rintro e w' ⟨v, rfl, ⟨B, rfl, _⟩, hk⟩; have p0 := (HasRow.new w #[.int .i64 px, .int .i64 py] 44).kp hk; have p00 : w'.cell? ⟨w.heap.size, 0, none⟩ = some (.int .i64 px) := p0.cell 0; have p01 : w'.cell? ⟨w.heap.size, 1, none⟩ = some (.int .i64 py) := p0.cell 1; have l0 := p0.lt; have Hk := Lib.hid hk; clear hk p0)
    go_ret2
    exact ⟨rfl, ((Kp.alloc _ _).trans Hk.out).trans (Kp.alloc _ _)⟩
  by_cases c3 : py < -100000
  · go_enter Try.func25, Try.ntmps25
    go_wp2_with (go_at_call 33; refine (get_in code _ h1 h2).mono ?_; rintro e w' ⟨v, rfl, ⟨B, rfl, _⟩, hk⟩; have p0 := (HasRow.new w #[.int .i64 px, .int .i64 py] 44).kp hk; have p00 : w'.cell? ⟨w.heap.size, 0, none⟩ = some (.int .i64 px) := p0.cell 0; have p01 : w'.cell? ⟨w.heap.size, 1, none⟩ = some (.int .i64 py) := p0.cell 1; have l0 := p0.lt; have Hk := Lib.hid hk; clear hk p0)
    go_ret2
    exact ⟨rfl, ((Kp.alloc _ _).trans Hk.out).trans (Kp.alloc _ _)⟩
  · have c4 : 100000 < py := by omega
    go_enter Try.func25, Try.ntmps25
    go_wp2_with (go_at_call 33; refine (get_in code _ h1 h2).mono ?_; rintro e w' ⟨v, rfl, ⟨B, rfl, _⟩, hk⟩; have p0 := (HasRow.new w #[.int .i64 px, .int .i64 py] 44).kp hk; have p00 : w'.cell? ⟨w.heap.size, 0, none⟩ = some (.int .i64 px) := p0.cell 0; have p01 : w'.cell? ⟨w.heap.size, 1, none⟩ = some (.int .i64 py) := p0.cell 1; have l0 := p0.lt; have Hk := Lib.hid hk; clear hk p0)
    go_ret2
    exact ⟨rfl, ((Kp.alloc _ _).trans Hk.out).trans (Kp.alloc _ _)⟩

set_option maxRecDepth 100000 in
set_option maxHeartbeats 2000000 in
theorem inside_in (code : Nat) (px py : Int) (w : World) (h1 : 1 ≤ code) (h2 : code ≤ 68) (hx : -100000 ≤ px ∧ px ≤ 100000) (hy : -100000 ≤ py ∧ py ≤ 100000) :
    Calls Try.prog 25 #[.int .i64 code, .agg #[.int .i64 px, .int .i64 py]] w fun e w' => e = .returned (.tuple #[.bool (insideG code px py), .int .i64 0]) ∧ Kp w w' := by
  have hlen := shapes_short code
  obtain ⟨x1, x2⟩ := hx
  obtain ⟨y1, y2⟩ := hy
  have hsz := Lib.hid Try.sizeS
  go_enter Try.func25, Try.ntmps25
  go_wp2_with (go_at_call 33; refine (get_in code _ h1 h2).mono ?_; rintro e w' ⟨v, rfl, ⟨B, rfl, g1, g2, g3⟩, hk⟩; have p0 := (HasRow.new w #[.int .i64 px, .int .i64 py] 44).kp hk; have p00 : w'.cell? ⟨w.heap.size, 0, none⟩ = some (.int .i64 px) := p0.cell 0; have p01 : w'.cell? ⟨w.heap.size, 1, none⟩ = some (.int .i64 py) := p0.cell 1; have l0 := p0.lt; have Hk := Lib.hid hk; have P0 := Lib.hid p0; have G3 := Lib.hid g3; clear hk p0 g3)
  obtain ⟨len, hl⟩ : ∃ len, (shapesAt code).length = len := ⟨_, rfl⟩
  obtain ⟨W1, hW1⟩ : ∃ W1, w'.alloc (.cells #[.string (nameAt code), .slice (some ⟨B, 0, none⟩) (shapesAt code).length (shapesAt code).length] 58) = W1 := ⟨_, rfl⟩
  have hk1 : Kp w W1 := by rw [← hW1]; exact ((Kp.alloc _ _).trans Hk.out).trans (Kp.alloc _ _)
  have P1 : HasRow W1 w.heap.size #[.int .i64 px, .int .i64 py] 44 := by rw [← hW1]; exact P0.out.alloc _
  have G1 : HasRow W1 B ((shapesAt code).flatMap fun s => ints s.nums).toArray 77 := by rw [← hW1]; exact HasRow.alloc G3.out _
  rw [hW1]
  have Hl := Lib.hid hl
  have HP1 := Lib.hid P1
  have HG1 := Lib.hid G1
  have Hk1 := Lib.hid hk1
  rw [hl] at hlen ⊢
  have hl20 : (len : Int) ≤ 20 := by omega
  clear hl hW1 P1 G1 hk1 Hk P0 G3 p00 p01 l0 g1 g2
  go_loopw [8, 42] (fun n i wr => ∃ k : Nat, k ≤ len ∧ i = .int .i64 k ∧ n = .int .i64 ((insideN ((shapesAt code).take k) px py : Nat) : Int) ∧ Kp W1 wr) (fun _ i _ => len - (intOf i).toNat)
  case atStart => exact ⟨0, Nat.zero_le _, rfl, rfl, Kp.refl _⟩
  case round =>
    obtain ⟨k, hk, rfl, rfl, hkr⟩ := hrel
    have p0 := HP1.out.kp hkr
    have p00 : wr.cell? ⟨w.heap.size, 0, none⟩ = some (.int .i64 px) := p0.cell 0
    have p01 : wr.cell? ⟨w.heap.size, 1, none⟩ = some (.int .i64 py) := p0.cell 1
    have l0 := p0.lt
    have hin := insideN_le ((shapesAt code).take k) px py
    have hin2 : (insideN ((shapesAt code).take k) px py : Int) ≤ 1000 := by
      have : ((shapesAt code).take k).length ≤ 20 := by simp; omega
      omega
    by_cases hlt : k < len
    · obtain ⟨s, hs⟩ : ∃ s, (shapesAt code)[k]? = some s := ⟨(shapesAt code)[k]'(by rw [Hl.out]; exact hlt), by simp⟩
      obtain ⟨ps, hps⟩ := shape_ps (List.mem_of_getElem? hs)
      have hsrc : Hid (∀ j v, (ints s.nums)[j]? = some v → wr.cell? (({ block := B, off := k * 17 } : Addr).add j) = some v) := Lib.hid (by
        intro j v hj
        have hj17 : j < 17 := by have := (List.getElem?_eq_some_iff.1 hj).1; simpa [ints, nums_length] using this
        have ha : ({ block := B, off := k * 17 } : Addr).add j = ⟨B, k * 17 + j, none⟩ := by unfold Addr.add; split <;> simp_all
        rw [ha, (HG1.out.kp hkr).cell]
        simp only [List.getElem?_toArray]
        rw [flatMap17 (fun s => ints s.nums) (fun s => by simp [ints, nums_length]) _ k j s hs hj17]
        exact hj)
      have hone : Hid ((ints s.nums).toArray.toList.all (·.oneCell') = true) := Lib.hid (by simp [ints, Value.oneCell'])
      have hsz2 : Hid ((Try.prog.info? 77).map (·.size) = some (ints s.nums).length) := Lib.hid (by rw [hsz.out]; simp [ints, nums_length])
      have hnext := Lib.hid (insideN_take (shapesAt code) px py k s hs)
      have hcl := crossed_le s px py
      have Hps := Lib.hid hps
      have Hkr := Lib.hid hkr
      clear hs hps hkr hin p0
      go_wp2_with (first
        | (refine wpList_load_cells (o := ⟨some 45, _, _, _, _, _⟩) rfl 77 (.tmp 44) rfl ⟨B, k * 17, none⟩ (ints s.nums) rfl hsrc.out _ Try.underlying77 rfl hsz2.out ?_)
        | (refine wpList_store_new1 (o := ⟨none, _, _, _, _, _⟩) rfl 77 (.tmp 10) (.tmp 45) rfl (ints s.nums).toArray _ 77 rfl rfl (by simpa using hsz2.out) (by simp [ints, nums_length]) hone.out ?_)
        | (refine wpList_load_row (o := ⟨some 47, _, _, _, _, _⟩) rfl 77 (.tmp 10) rfl wr.heap.size rfl 77 (ints s.nums).toArray (0, 0) _ (heap_alloc_new _ _) Try.underlying77 rfl (by simpa using hsz2.out) ?_)
        | (go_at_call 36; refine (crossed_any s ps Hps.out px py ⟨x1, x2⟩ ⟨y1, y2⟩ _).mono ?_; rintro e w3 ⟨rfl, hk3⟩; have Hk3 := Lib.hid hk3; clear hk3))
      go_roundw
      case rel => exact ⟨k + 1, by omega, by go_num, by rw [hnext.out]; simp, (Hkr.out.trans (Kp.alloc _ _)).trans Hk3.out⟩
      case measure => simp [intOf]; omega
    · obtain rfl : k = len := by omega
      have hn : (shapesAt code).take k = shapesAt code := List.take_of_length_le (by rw [Hl.out]; exact Nat.le_refl _)
      rw [hn] at hin hin2 ⊢
      obtain ⟨m, hm⟩ : ∃ m, insideN (shapesAt code) px py = m := ⟨_, rfl⟩
      have hg : insideG code px py = (m % 2 == 1) := by unfold insideG; rw [hm]
      rw [hm] at hin hin2 ⊢
      have Hg := Lib.hid hg
      have Hkr := Lib.hid hkr
      clear hn hm hg hkr hin p0
      go_wp2
      go_ret2
      refine ⟨?_, Hk1.out.trans Hkr.out⟩
      rw [Hg.out]
      have e : ((m : Int) % 2 == 1) = (m % 2 == 1) := by rw [Bool.eq_iff_iff]; simp; omega
      show Ending.returned (.tuple #[.bool ((m : Int) % 2 == 1), .int .i64 0]) = _
      rw [e]
end Go.Proofs.Ytejmliomagnjfaa
