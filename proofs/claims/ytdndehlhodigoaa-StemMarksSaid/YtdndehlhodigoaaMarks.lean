/- The marks of stems and flags: the contract of stem.Marks. -/
import Derived.Test.YtdndehlhodigoaaLawG
namespace Go.Proofs.Ytdndehlhodigoaa
open Go Go.RowKit Go.Shelf

def wrongB (n : Int) : Bool := decide (n < -1048576) || decide (1048576 < n)
theorem wrong_any (n : Int) (w : World) : Calls Try.prog 67 #[.int .i64 n] w fun e w' => e = .returned (.bool (wrongB n)) ∧ w = w' := by
  by_cases h1 : n < -1048576
  · go_enter Try.func67, Try.ntmps67
    go_wp2
    go_ret
    exact ⟨ret_bool (by simp [wrongB, h1]), rfl⟩
  by_cases h2 : 1048576 < n
  · go_enter Try.func67, Try.ntmps67
    go_wp2
    go_ret
    exact ⟨ret_bool (by simp [wrongB, h2]), rfl⟩
  · go_enter Try.func67, Try.ntmps67
    go_wp2
    go_ret
    exact ⟨ret_bool (by simp [wrongB]; omega), rfl⟩
theorem wrong_false (n : Int) : wrongB n = false ↔ -1048576 ≤ n ∧ n ≤ 1048576 := by unfold wrongB; simp

set_option maxRecDepth 100000 in
set_option maxHeartbeats 2000000 in
theorem Marks_rng (site number staff column x from' to' flags : Int) (w : World) (h : staff < 0 ∨ column < 0 ∨ flags < 0 ∨ 6 < flags ∨ wrongB x = true ∨ wrongB from' = true ∨ wrongB to' = true) :
    Calls Try.prog 34 #[.agg #[.int .i64 site, .int .i64 number], .int .i64 staff, .int .i64 column, .int .i64 x, .int .i64 from', .int .i64 to', .int .i64 flags] w fun e w' => e = .returned (.tuple #[.slice none 0 0, .int .i64 2]) ∧ Kp w w' := by
  have hc : (staff < 0) ∨ (¬ staff < 0 ∧ column < 0) ∨ ((¬ staff < 0 ∧ ¬ column < 0) ∧ flags < 0) ∨ ((¬ staff < 0 ∧ ¬ column < 0) ∧ ¬ flags < 0 ∧ 6 < flags) ∨ ((¬ staff < 0 ∧ ¬ column < 0) ∧ (¬ flags < 0 ∧ ¬ 6 < flags) ∧ (wrongB x = true ∨ (wrongB x = false ∧ wrongB from' = true) ∨ (wrongB x = false ∧ wrongB from' = false ∧ wrongB to' = true))) := by
    by_cases q1 : staff < 0
    · exact Or.inl q1
    by_cases q2 : column < 0
    · exact Or.inr (Or.inl ⟨q1, q2⟩)
    by_cases q3 : flags < 0
    · exact Or.inr (Or.inr (Or.inl ⟨⟨q1, q2⟩, q3⟩))
    by_cases q4 : 6 < flags
    · exact Or.inr (Or.inr (Or.inr (Or.inl ⟨⟨q1, q2⟩, q3, q4⟩)))
    refine Or.inr (Or.inr (Or.inr (Or.inr ⟨⟨q1, q2⟩, ⟨q3, q4⟩, ?_⟩)))
    have h' : wrongB x = true ∨ wrongB from' = true ∨ wrongB to' = true := by
      rcases h with h | h | h | h | h
      · exact absurd h q1
      · exact absurd h q2
      · exact absurd h q3
      · exact absurd h q4
      · exact h
    generalize wrongB x = a at *
    generalize wrongB from' = b at *
    generalize wrongB to' = c at *
    cases a <;> cases b <;> cases c <;> simp at h' ⊢
  clear h
  rcases hc with h1 | ⟨h1, h2⟩ | ⟨⟨h1, h2⟩, h3⟩ | ⟨⟨h1, h2⟩, h3, h4⟩ | ⟨⟨h1, h2⟩, ⟨h3, h4⟩, h5⟩
  · go_enter Try.func34, Try.ntmps34
    go_wp2
    go_ret2
    exact ⟨rfl, Kp.alloc _ _⟩
  · go_enter Try.func34, Try.ntmps34
    go_wp2
    go_ret2
    exact ⟨rfl, Kp.alloc _ _⟩
  · go_enter Try.func34, Try.ntmps34
    go_wp2
    go_ret2
    exact ⟨rfl, Kp.alloc _ _⟩
  · go_enter Try.func34, Try.ntmps34
    go_wp2
    go_ret2
    exact ⟨rfl, Kp.alloc _ _⟩
  rcases h5 with h5 | ⟨h5, h6⟩ | ⟨h5, h6, h7⟩
  · have H5 := Lib.hid h5
    clear h5
    go_enter Try.func34, Try.ntmps34
    go_wp2_with (go_at_call 67; refine (wrong_any _ _).mono ?_; rw [H5.out]; rintro e w' ⟨rfl, rfl⟩)
    go_ret2
    exact ⟨rfl, Kp.alloc _ _⟩
  · have H5 := Lib.hid h5
    have H6 := Lib.hid h6
    clear h5 h6
    go_enter Try.func34, Try.ntmps34
    go_wp2_with (go_at_call 67; refine (wrong_any _ _).mono ?_; (first | rw [H5.out] | rw [H6.out]); rintro e w' ⟨rfl, rfl⟩)
    go_ret2
    exact ⟨rfl, Kp.alloc _ _⟩
  · have H5 := Lib.hid h5
    have H6 := Lib.hid h6
    have H7 := Lib.hid h7
    clear h5 h6 h7
    go_enter Try.func34, Try.ntmps34
    go_wp2_with (go_at_call 67; refine (wrong_any _ _).mono ?_; (first | rw [H5.out] | rw [H6.out] | rw [H7.out]); rintro e w' ⟨rfl, rfl⟩)
    go_ret2
    exact ⟨rfl, Kp.alloc _ _⟩

/-- What the later cases have in common: all numbers are permitted. -/
structure MarkOk (staff column x from' to' flags : Int) : Prop where
  s : ¬ staff < 0
  c : ¬ column < 0
  f1 : ¬ flags < 0
  f2 : ¬ 6 < flags
  x : wrongB x = false
  fr : wrongB from' = false
  t : wrongB to' = false

theorem Marks_same (site number staff column x from' flags : Int) (w : World) (h : MarkOk staff column x from' from' flags) :
    Calls Try.prog 34 #[.agg #[.int .i64 site, .int .i64 number], .int .i64 staff, .int .i64 column, .int .i64 x, .int .i64 from', .int .i64 from', .int .i64 flags] w fun e w' => e = .returned (.tuple #[.slice none 0 0, .int .i64 10]) ∧ Kp w w' := by
  obtain ⟨h1, h2, h3, h4, h5, h6, h7⟩ := h
  have H5 := Lib.hid h5
  have H6 := Lib.hid h6
  clear h5 h6 h7
  go_enter Try.func34, Try.ntmps34
  go_wp2_with (go_at_call 67; refine (wrong_any _ _).mono ?_; (first | rw [H5.out] | rw [H6.out]); rintro e w' ⟨rfl, rfl⟩)
  go_ret2
  exact ⟨rfl, Kp.alloc _ _⟩
/-- The cells of the mark of a stem. -/
def stemCells (site number staff column x lo hi : Int) : List Value := [.int .i64 20, .int .i64 0, .int .i64 staff, .int .i64 column, .int .i64 column, .int .i64 0, .int .i64 site, .int .i64 number, .int .i64 x, .int .i64 lo, .int .i64 (x + 8), .int .i64 hi]
def flagCells (site number staff column c l b r t : Int) : List Value := [.int .i64 21, .int .i64 0, .int .i64 staff, .int .i64 column, .int .i64 column, .int .i64 c, .int .i64 site, .int .i64 number, .int .i64 l, .int .i64 b, .int .i64 r, .int .i64 t]

theorem row2' (w : World) (a : Obj) (A : Array Value) (t : TypeId) : HasRow ((w.alloc a).alloc (.cells A t)) (w.heap.size + 1) A t := by
  have := HasRow.new (w.alloc a) A t
  rwa [World.size_alloc] at this

set_option maxRecDepth 100000 in
set_option maxHeartbeats 2000000 in
theorem Marks_one (site number staff column x from' to' : Int) (w : World) (h : MarkOk staff column x from' to' 0) (hne : from' ≠ to') :
    Calls Try.prog 34 #[.agg #[.int .i64 site, .int .i64 number], .int .i64 staff, .int .i64 column, .int .i64 x, .int .i64 from', .int .i64 to', .int .i64 0] w fun e w' =>
      ∃ B, e = .returned (.tuple #[.slice (some ⟨B, 0, none⟩) 1 1, .int .i64 0]) ∧ HasRow w' B (stemCells site number staff column x (min from' to') (max from' to')).toArray 43 ∧ Kp w w' := by
  obtain ⟨h1, h2, h3, h4, h5, h6, h7⟩ := h
  have hx := (wrong_false x).1 h5
  obtain ⟨x1, x2⟩ := hx
  have H5 := Lib.hid h5
  have H6 := Lib.hid h6
  have H7 := Lib.hid h7
  have Hs := Lib.hid sizeMark
  clear h5 h6 h7
  have hc : (from' < to' ∧ min from' to' = from' ∧ max from' to' = to') ∨ (to' < from' ∧ min from' to' = to' ∧ max from' to' = from') := by omega
  rcases hc with ⟨hlt, hmn, hmx⟩ | ⟨hlt, hmn, hmx⟩ <;>
  (rw [hmn, hmx]
   clear hmn hmx
   have hne' : ¬ from' = to' := hne
   go_enter Try.func34, Try.ntmps34
   go_wp2_with (first
     | (go_at_call 67; refine (wrong_any _ _).mono ?_; (first | rw [H5.out] | rw [H6.out] | rw [H7.out]); rintro e w' ⟨rfl, rfl⟩)
     | ((with_reducible refine wpList_store_new2 (o := ⟨none, _, _, _, _, _⟩) ?_ 43 (.tmp 16) (.tmp 66) ?_ _ _ _ 43 ?_ ?_ Hs.out ?_ ?_ ?_); rfl; rfl; exact eval_tmp rfl; exact eval_tmp rfl; rfl; rfl)
     | ((with_reducible refine wpList_load_mark (o := ⟨some 69, _, _, _, _, _⟩) ?_ (.tmp 16) ?_ (w.heap.size + 1) ?_ _ (row2' _ _ _ _) ?_ ?_); rfl; rfl; exact eval_tmp rfl; rfl))
   go_ret2
   exact ⟨w.heap.size + 1 + 1, rfl, row3 _ _ _ _ _, ((Kp.alloc _ _).trans (Kp.alloc _ _)).trans (Kp.alloc _ _)⟩)

theorem Flag_up (lg c : Int) (w : World) (h1 : 3 ≤ lg) (h2 : lg ≤ 8) (hc : c = lg + 12) : Calls Try.prog 35 #[.int .i64 lg, .bool true] w fun e w' => e = .returned (.tuple #[.int .i64 c, .int .i64 0]) ∧ w = w' := by
  subst hc
  go_enter Try.func35, Try.ntmps35
  go_wp2
  go_ret2
  exact ⟨rfl, rfl⟩
theorem Flag_down (lg c : Int) (w : World) (h1 : 3 ≤ lg) (h2 : lg ≤ 8) (hc : c = lg + 18) : Calls Try.prog 35 #[.int .i64 lg, .bool false] w fun e w' => e = .returned (.tuple #[.int .i64 c, .int .i64 0]) ∧ w = w' := by
  subst hc
  go_enter Try.func35, Try.ntmps35
  go_wp2
  go_ret2
  exact ⟨rfl, rfl⟩
theorem Flag_c (lg c : Int) (up : Bool) (w : World) (h1 : 3 ≤ lg) (h2 : lg ≤ 8) (hc : (up = true → c = lg + 12) ∧ (up = false → c = lg + 18)) : Calls Try.prog 35 #[.int .i64 lg, .bool up] w fun e w' => e = .returned (.tuple #[.int .i64 c, .int .i64 0]) ∧ w = w' := by
  cases up
  · exact Flag_down lg c w h1 h2 (hc.2 rfl)
  · exact Flag_up lg c w h1 h2 (hc.1 rfl)

/-- The code of the flag. -/
def flagCode (from' to' flags : Int) : Int := if from' < to' then flags + 14 else flags + 20

set_option maxRecDepth 100000 in
set_option maxHeartbeats 4000000 in
theorem Marks_two (site number staff column x from' to' flags : Int) (w : World) (h : MarkOk staff column x from' to' flags) (hf : 0 < flags) (hne : from' ≠ to') :
    Calls Try.prog 34 #[.agg #[.int .i64 site, .int .i64 number], .int .i64 staff, .int .i64 column, .int .i64 x, .int .i64 from', .int .i64 to', .int .i64 flags] w fun e w' =>
      ∃ B, e = .returned (.tuple #[.slice (some ⟨B, 0, none⟩) 2 2, .int .i64 0]) ∧ HasRow w' B (stemCells site number staff column x (min from' to') (max from' to') ++ flagCells site number staff column (flagCode from' to' flags) ((boxG (flagCode from' to' flags).toNat).l + x) ((boxG (flagCode from' to' flags).toNat).b + to') ((boxG (flagCode from' to' flags).toNat).r + x) ((boxG (flagCode from' to' flags).toNat).t + to')).toArray 43 ∧ Kp w w' := by
  obtain ⟨h1, h2, h3, h4, h5, h6, h7⟩ := h
  obtain ⟨x1, x2⟩ := (wrong_false x).1 h5
  obtain ⟨x3, x4⟩ := (wrong_false to').1 h7
  have H5 := Lib.hid h5
  have H6 := Lib.hid h6
  have H7 := Lib.hid h7
  have Hs := Lib.hid sizeMark
  have hf0 : ¬ flags = 0 := by omega
  clear h5 h6 h7
  have hc : (from' < to' ∧ min from' to' = from' ∧ max from' to' = to' ∧ flagCode from' to' flags = flags + 14 ∧ decide (from' < to') = true) ∨ (to' < from' ∧ min from' to' = to' ∧ max from' to' = from' ∧ flagCode from' to' flags = flags + 20 ∧ decide (from' < to') = false) := by
    unfold flagCode
    by_cases hl : from' < to'
    · left; simp [hl]; omega
    · right; simp [hl]; omega
  obtain ⟨c, hcn⟩ : ∃ c : Nat, flagCode from' to' flags = (c : Int) := ⟨(flagCode from' to' flags).toNat, by omega⟩
  have hc1 : 1 ≤ c := by omega
  have hc2 : c ≤ 68 := by omega
  rw [hcn] at hc ⊢
  rw [Int.toNat_natCast]
  obtain ⟨bl, bb, br, bt, hbox⟩ : ∃ bl bb br bt, boxG c = ⟨bl, bb, br, bt⟩ := ⟨_, _, _, _, rfl⟩
  have hbs := box_small_all c hc1 hc2
  rw [hbox] at hbs ⊢
  obtain ⟨⟨hl1, hl2⟩, ⟨hb1, hb2⟩, ⟨hr1, hr2⟩, hb3, hb4⟩ := hbs
  simp only at hl1 hl2 hb1 hb2 hr1 hr2 hb3 hb4 ⊢
  have Hbox : Hid ((boxG c).cells = #[.int .i64 bl, .int .i64 bb, .int .i64 br, .int .i64 bt]) := Lib.hid (by rw [hbox]; rfl)
  clear hbox hcn
  rcases hc with ⟨hlt, hmn, hmx, hcd, hD⟩ | ⟨hlt, hmn, hmx, hcd, hD⟩ <;>
  (rw [hmn, hmx]
   have hne' : ¬ from' = to' := hne
   have Hcd := Lib.hid hcd
   clear hmn hmx hcd
   go_enter Try.func34, Try.ntmps34
   go_wp2_with (first
     | (go_at_call 67; refine (wrong_any _ _).mono ?_; (first | rw [H5.out] | rw [H6.out] | rw [H7.out]); rintro e w' ⟨rfl, rfl⟩)
     | ((with_reducible refine wpList_store_new2 (o := ⟨none, _, _, _, _, _⟩) ?_ 43 (.tmp 16) (.tmp 66) ?_ _ _ _ 43 ?_ ?_ Hs.out ?_ ?_ ?_); rfl; rfl; exact eval_tmp rfl; exact eval_tmp rfl; rfl; rfl)
     | (go_at_call 35; refine (Flag_c (flags + 2) c _ _ (by omega) (by omega) (by have := Hcd.out; simp; omega)).mono ?_; rintro e w' ⟨rfl, rfl⟩)
     | (go_at_call 32; refine (box_in c _ hc1 hc2).mono ?_; rw [Hbox.out]; rintro e w2 ⟨rfl, hk⟩; have Hk2 := Lib.hid (((Kp.alloc _ _).trans (Kp.alloc _ _)).trans hk); have Hm2 := Lib.hid ((row2' _ _ _ _).kp hk); clear hk)
     | ((with_reducible refine wpList_load_mark (o := ⟨some 91, _, _, _, _, _⟩) ?_ (.tmp 16) ?_ (w.heap.size + 1) ?_ _ (Hm2.out.alloc _) ?_ ?_); rfl; rfl; exact eval_tmp rfl; rfl)
     | ((with_reducible refine wpList_store_new2 (o := ⟨none, _, _, _, _, _⟩) ?_ 43 (.tmp 20) (.tmp 91) ?_ _ _ _ 43 ?_ ?_ Hs.out ?_ ?_ ?_); rfl; rfl; exact eval_tmp rfl; exact eval_tmp rfl; rfl; rfl)
     | ((with_reducible refine wpList_load_mark (o := ⟨some 113, _, _, _, _, _⟩) ?_ (.tmp 16) ?_ (w.heap.size + 1) ?_ _ ((Hm2.out.alloc _).alloc _) ?_ ?_); rfl; rfl; exact eval_tmp rfl; rfl)
     | ((with_reducible refine wpList_load_mark (o := ⟨some 114, _, _, _, _, _⟩) ?_ (.tmp 20) ?_ (w2.heap.size + 1) ?_ _ (row2' _ _ _ _) ?_ ?_); rfl; rfl; exact eval_tmp rfl; rfl))
   go_ret2
   exact ⟨w2.heap.size + 1 + 1, rfl, row3 _ _ _ _ _, ((Hk2.out.trans (Kp.alloc _ _)).trans (Kp.alloc _ _)).trans (Kp.alloc _ _)⟩)
end Go.Proofs.Ytdndehlhodigoaa
