/- The laws of values (noteheads, rests, flags) and of signs (accidentals, clefs, digits, articulations, ornaments). -/
import Derived.Test.YtejmliomagnjfaaOutl
namespace Go.Proofs.Ytejmliomagnjfaa
open Go Go.RowKit Go.Shelf

set_option maxRecDepth 100000 in
set_option maxHeartbeats 2000000 in
theorem walk_GlyphValues (a0 : Int) (a1 : Bool) (w : World) (_w0 : (Lit.int .i64 a0).wf = true) :
    Calls Try.prog 6 #[.int .i64 a0, .bool a1] w fun e w' => e = .returned (.bool true) ∧ Kp w w' := by
  have hc : a0 < -1 ∨ (-1 ≤ a0 ∧ a0 < 3) ∨ (3 ≤ a0 ∧ a0 ≤ 8) ∨ 8 < a0 := by omega
  rcases hc with h | ⟨h1, h2⟩ | ⟨h1, h2⟩ | h <;> cases a1 <;>
  (go_enter Try.func6, Try.ntmps6
   go_wp2_with (first
     | (go_at_call 12; refine (known23_any _).mono ?_; rintro e w3 ⟨rfl, hk3⟩; have Hk3 := Lib.hid hk3; clear hk3)
     | go_in)
   all_goals
     go_ret
     exact ⟨retBool (by first | rfl | (simp; done) | (simp; omega)), Hk3.out⟩)

/-- What the codes of a range of numbers are. -/
def CodeR (n lo hi first er A E : Int) : Prop := ((n < lo ∨ hi < n) ∧ A = 0 ∧ E = er) ∨ ((lo ≤ n ∧ n ≤ hi) ∧ A = n - lo + first ∧ E = 0)
theorem gcode_any (n lo hi first er : Int) (b1 : -1000 ≤ lo) (b2 : lo ≤ hi) (b3 : hi ≤ 1000) (b4 : -1000 ≤ first) (b5 : first ≤ 1000) (w : World) :
    Calls Try.prog 34 #[.int .i64 n, .int .i64 lo, .int .i64 hi, .int .i64 first, .int .i64 er] w fun e w' => ∃ A E, e = .returned (.tuple #[.int .i64 A, .int .i64 E]) ∧ w = w' ∧ CodeR n lo hi first er A E := by
  by_cases h1 : n < lo
  · go_enter Try.func34, Try.ntmps34
    go_wp2
    go_ret2
    exact ⟨_, _, rfl, rfl, by unfold CodeR; omega⟩
  · by_cases h2 : hi < n
    · go_enter Try.func34, Try.ntmps34
      go_wp2
      go_ret2
      exact ⟨_, _, rfl, rfl, by unfold CodeR; omega⟩
    · go_enter Try.func34, Try.ntmps34
      go_wp2
      go_ret2
      exact ⟨_, _, rfl, rfl, by unfold CodeR; omega⟩

theorem Accidental_any (n : Int) (w : World) : Calls Try.prog 19 #[.int .i64 n] w fun e w' => ∃ A E, e = .returned (.tuple #[.int .i64 A, .int .i64 E]) ∧ w = w' ∧ CodeR n (-2) 2 27 18 A E := by
  go_enter Try.func19, Try.ntmps19
  go_wp2_with (go_at_call 34; refine (gcode_any n (-2) 2 27 18 (by omega) (by omega) (by omega) (by omega) (by omega) _).mono ?_; rintro e w' ⟨A, E, rfl, rfl, h⟩)
  go_ret2
  exact ⟨_, _, rfl, rfl, h⟩
theorem Digit_any (n : Int) (w : World) : Calls Try.prog 21 #[.int .i64 n] w fun e w' => ∃ A E, e = .returned (.tuple #[.int .i64 A, .int .i64 E]) ∧ w = w' ∧ CodeR n 0 9 40 2 A E := by
  go_enter Try.func21, Try.ntmps21
  go_wp2_with (go_at_call 34; refine (gcode_any n 0 9 40 2 (by omega) (by omega) (by omega) (by omega) (by omega) _).mono ?_; rintro e w' ⟨A, E, rfl, rfl, h⟩)
  go_ret2
  exact ⟨_, _, rfl, rfl, h⟩
theorem Ornament_any (n : Int) (w : World) : Calls Try.prog 23 #[.int .i64 n] w fun e w' => ∃ A E, e = .returned (.tuple #[.int .i64 A, .int .i64 E]) ∧ w = w' ∧ CodeR n 1 4 56 11 A E := by
  go_enter Try.func23, Try.ntmps23
  go_wp2_with (go_at_call 34; refine (gcode_any n 1 4 56 11 (by omega) (by omega) (by omega) (by omega) (by omega) _).mono ?_; rintro e w' ⟨A, E, rfl, rfl, h⟩)
  go_ret2
  exact ⟨_, _, rfl, rfl, h⟩

def clefL : List Int := [0, 35, 36, 37, 37, 37, 37, 37, 38, 39]
def clefN (m : Nat) : Int := clefL.getD m 0
theorem Clef_out (n : Int) (w : World) (h : n < 1 ∨ 9 < n) : Calls Try.prog 20 #[.int .i64 n] w fun e w' => e = .returned (.tuple #[.int .i64 0, .int .i64 11]) ∧ w = w' := by
  rcases h with h | h
  · go_enter Try.func20, Try.ntmps20
    go_wp2
    go_ret2
    exact ⟨rfl, rfl⟩
  · go_enter Try.func20, Try.ntmps20
    go_wp2
    go_ret2
    exact ⟨rfl, rfl⟩
theorem size_int1 : (Try.prog.info? 3).map (·.size) = some 1 := by kernel_rfl
theorem Clef_in (m : Nat) (w : World) (h : 1 ≤ m ∧ m ≤ 9) : Calls Try.prog 20 #[.int .i64 m] w fun e w' => e = .returned (.tuple #[.int .i64 (clefN m), .int .i64 0]) ∧ w = w' := by
  have hv : (#[.int .i64 0, .int .i64 35, .int .i64 36, .int .i64 37, .int .i64 37, .int .i64 37, .int .i64 37, .int .i64 37, .int .i64 38, .int .i64 39] : Array Value)[((m : Int)).toNat]? = some (.int .i64 (clefN m)) := by
    obtain h | h | h | h | h | h | h | h | h : m = 1 ∨ m = 2 ∨ m = 3 ∨ m = 4 ∨ m = 5 ∨ m = 6 ∨ m = 7 ∨ m = 8 ∨ m = 9 := by omega
    all_goals (subst h; rfl)
  have hix := fun W => run_index_one (P := Try.prog) W 73 3 10 _ .i64 (m : Int) _ Try.underlying73 size_int1 _ Try.underlying3 rfl (by omega) (by omega) hv
  have h1 : (1 : Int) ≤ m := by omega
  have h9 : (m : Int) ≤ 9 := by omega
  obtain ⟨c, hc⟩ : ∃ c, clefN m = c := ⟨_, rfl⟩
  rw [hc] at hix ⊢
  clear hv hc h
  go_enter Try.func20, Try.ntmps20
  go_wp2
  go_ret2
  exact ⟨rfl, rfl⟩

set_option maxHeartbeats 400000 in
theorem IndexI_any (b : Nat) (l : List Int) (cap : Nat) (x : Int) (w : World) (h : ∀ (j : Nat) (y : Int), l[j]? = some y → w.cell? ⟨b, j, none⟩ = some (.int .i64 y)) (hm : l.length ≤ 1000) :
    Calls Try.prog 35 #[.slice (some ⟨b, 0, none⟩) l.length cap, .int .i64 x] w fun e w' => e = .returned (.int .i64 (idxI l x)) ∧ w = w' := by
  have Hc := Lib.hid h
  obtain ⟨n, hn⟩ : ∃ n, l.length = n := ⟨_, rfl⟩
  have Hn := Lib.hid hn
  rw [hn] at hm ⊢
  clear h hn
  go_enter Try.func35, Try.ntmps35
  go_wp2
  go_loop [5, 8] (fun _ i => ∃ k : Nat, k ≤ n ∧ i = .int .i64 k ∧ Hid (x ∉ l.take k)) (fun _ i => n - (intOf i).toNat)
  case atStart => exact ⟨0, Nat.zero_le _, rfl, Lib.hid (by simp)⟩
  case round =>
    obtain ⟨k, hk, rfl, hf⟩ := hrel
    by_cases hl : k < n
    · obtain ⟨y, hy⟩ : ∃ y, l[k]? = some y := ⟨l[k]'(by rw [Hn.out]; exact hl), by simp⟩
      have hcy := Hc.out k y hy
      have Hy := Lib.hid hy
      clear hy
      by_cases hxy : x = y
      · subst hxy
        go_wp2
        go_ret
        exact ⟨retInt (idxI_hit Hy.out hf.out).symm, rfl⟩
      · go_wp2
        go_round
        case rel => exact ⟨k + 1, by omega, by go_num, Lib.hid (notin_step hf.out Hy.out hxy)⟩
        case measure => simp [intOf]; omega
    · obtain rfl : k = n := by omega
      go_wp2
      go_ret
      exact ⟨retInt (idxI_none (by rw [Hn.out]; exact hf.out)).symm, rfl⟩

/-- The number of an articulation by its bit, or 0. -/
def bitTo (n : Int) : Nat → Int
  | 0 => 0
  | k + 1 => if n = 2 ^ k then 51 + k else bitTo n k
theorem bit_idx (n : Int) : (idxI [1, 2, 4, 8, 16] n = -1 ∧ bitTo n 5 = 0) ∨ (0 ≤ idxI [1, 2, 4, 8, 16] n ∧ idxI [1, 2, 4, 8, 16] n ≤ 4 ∧ bitTo n 5 = 51 + idxI [1, 2, 4, 8, 16] n) := by
  by_cases h : n = 1 ∨ n = 2 ∨ n = 4 ∨ n = 8 ∨ n = 16
  · rcases h with rfl | rfl | rfl | rfl | rfl <;> decide
  · left
    have h' : n ≠ 1 ∧ n ≠ 2 ∧ n ≠ 4 ∧ n ≠ 8 ∧ n ≠ 16 := by omega
    obtain ⟨h1, h2, h3, h4, h5⟩ := h'
    simp [idxI, bitTo, h1, h2, h3, h4, h5]

def ArtR (b A E : Int) : Prop := (b = 0 ∧ A = 0 ∧ E = 11) ∨ (0 < b ∧ A = b ∧ E = 0)
theorem Articulation_any (n : Int) (w : World) : Calls Try.prog 22 #[.int .i64 n] w fun e w' => ∃ A E, e = .returned (.tuple #[.int .i64 A, .int .i64 E]) ∧ Kp w w' ∧ ArtR (bitTo n 5) A E := by
  have hx := fun W => IndexI_any w.heap.size [1, 2, 4, 8, 16] 5 n W
  have hn := IndexI_any w.heap.size [1, 2, 4, 8, 16] 5 n (w.alloc (.cells #[.int .i64 1, .int .i64 2, .int .i64 4, .int .i64 8, .int .i64 16] 3)) (fun j y hy => by
    rw [(HasRow.new w #[.int .i64 1, .int .i64 2, .int .i64 4, .int .i64 8, .int .i64 16] 3).cell j]
    have e : (#[.int .i64 1, .int .i64 2, .int .i64 4, .int .i64 8, .int .i64 16] : Array Value) = (ints [1, 2, 4, 8, 16]).toArray := rfl
    rw [e]
    simp only [List.getElem?_toArray, ints, List.getElem?_map, hy, Option.map_some]) (by decide)
  clear hx
  have hb := bit_idx n
  obtain ⟨r, hr⟩ : ∃ r, idxI [1, 2, 4, 8, 16] n = r := ⟨_, rfl⟩
  obtain ⟨b, hb5⟩ : ∃ b, bitTo n 5 = b := ⟨_, rfl⟩
  rw [hr] at hn hb
  rw [hb5] at hb ⊢
  clear hr hb5
  rcases hb with ⟨rfl, hb⟩ | ⟨h0, h4, hb⟩
  · have Hb := Lib.hid hb
    clear hb
    go_enter Try.func22, Try.ntmps22
    go_wp2_with (go_at_call 35; refine hn.mono ?_; rintro e w' ⟨rfl, rfl⟩)
    go_ret2
    exact ⟨_, _, rfl, Kp.alloc _ _, by unfold ArtR; have := Hb.out; omega⟩
  · have Hb := Lib.hid hb
    clear hb
    go_enter Try.func22, Try.ntmps22
    go_wp2_with (go_at_call 35; refine hn.mono ?_; rintro e w' ⟨rfl, rfl⟩)
    go_ret2
    exact ⟨_, _, rfl, Kp.alloc _ _, by unfold ArtR; have := Hb.out; omega⟩

theorem code_true (A E : Int) (P : Bool) (want wrong : Int) (w : World) (h : (P = true → A = want ∧ E = 0) ∧ (P = false → A = 0 ∧ E = wrong)) :
    Calls Try.prog 24 #[.int .i64 A, .int .i64 E, .bool P, .int .i64 want, .int .i64 wrong] w fun e w' => e = .returned (.bool true) ∧ w = w' := by
  cases P with
  | true =>
    obtain ⟨rfl, rfl⟩ := h.1 rfl
    clear h
    go_enter Try.func24, Try.ntmps24
    go_wp2
    go_ret
    exact ⟨retBool (by simp), rfl⟩
  | false =>
    obtain ⟨rfl, rfl⟩ := h.2 rfl
    clear h
    go_enter Try.func24, Try.ntmps24
    go_wp2
    go_ret
    exact ⟨retBool (by simp), rfl⟩

set_option maxRecDepth 100000 in
set_option maxHeartbeats 4000000 in
theorem walk_GlyphSigns (a0 : Int) (w : World) (w0 : (Lit.int .i64 a0).wf = true) :
    Calls Try.prog 7 #[.int .i64 a0] w fun e w' => e = .returned (.bool true) ∧ Kp w w' := by
  have hcl : ∃ C F, (∀ W, Calls Try.prog 20 #[.int .i64 a0] W fun e w' => e = .returned (.tuple #[.int .i64 C, .int .i64 F]) ∧ W = w') ∧ (((a0 < 1 ∨ 9 < a0) ∧ C = 0 ∧ F = 11) ∨ ((1 ≤ a0 ∧ a0 ≤ 9) ∧ 0 < C ∧ C ≤ 100 ∧ F = 0 ∧ C = clefN a0.toNat)) := by
    by_cases h : a0 < 1 ∨ 9 < a0
    · exact ⟨0, 11, fun W => Clef_out a0 W h, .inl ⟨h, rfl, rfl⟩⟩
    · obtain ⟨m, rfl⟩ : ∃ m : Nat, a0 = m := ⟨a0.toNat, by omega⟩
      refine ⟨clefN m, 0, fun W => Clef_in m W ⟨by omega, by omega⟩, .inr ⟨⟨by omega, by omega⟩, ?_, ?_, rfl, rfl⟩⟩ <;>
      · obtain h | h | h | h | h | h | h | h | h : m = 1 ∨ m = 2 ∨ m = 3 ∨ m = 4 ∨ m = 5 ∨ m = 6 ∨ m = 7 ∨ m = 8 ∨ m = 9 := by omega
        all_goals (subst h; decide)
  obtain ⟨C, F, hclef, hC⟩ := hcl
  have hcell : ∀ W : World, 1 ≤ a0 → a0 ≤ 9 → (W.alloc (.cells #[.int .i64 0, .int .i64 35, .int .i64 36, .int .i64 37, .int .i64 37, .int .i64 37, .int .i64 37, .int .i64 37, .int .i64 38, .int .i64 39] 3)).cell? ⟨W.heap.size, a0.toNat, none⟩ = some (.int .i64 C) := by
    intro W h1 h2
    have hC' : C = clefN a0.toNat := by omega
    rw [(HasRow.new W _ 3).cell, hC']
    obtain ⟨m, rfl⟩ : ∃ m : Nat, a0 = m := ⟨a0.toNat, by omega⟩
    obtain h | h | h | h | h | h | h | h | h : m = 1 ∨ m = 2 ∨ m = 3 ∨ m = 4 ∨ m = 5 ∨ m = 6 ∨ m = 7 ∨ m = 8 ∨ m = 9 := by omega
    all_goals (subst h; rfl)
  have HC := Lib.hid hC
  have hbt := bit_idx a0
  have hz : Hid (bitTo a0 0 = 0) := Lib.hid rfl
  have hst : ∀ k : Nat, Hid (bitTo a0 (k + 1) = if a0 = 2 ^ k then (51 : Int) + (k : Int) else bitTo a0 k) := fun k => Lib.hid rfl
  have hbd : ∀ k : Nat, k ≤ 5 → Hid (0 ≤ bitTo a0 k ∧ bitTo a0 k ≤ 100) := fun k hk => Lib.hid (by
    clear hC hcell hclef hbt
    induction k with
    | zero => simp [bitTo]
    | succ k ih =>
      have := ih (by omega)
      unfold bitTo
      split <;> omega)
  have Hst := Lib.hid hst
  clear hC hst hbt
  by_cases h19 : 1 ≤ a0 ∧ a0 ≤ 9
  · have hcell2 : ∀ W : World, (W.alloc (.cells #[.int .i64 0, .int .i64 35, .int .i64 36, .int .i64 37, .int .i64 37, .int .i64 37, .int .i64 37, .int .i64 37, .int .i64 38, .int .i64 39] 3)).cell? ⟨W.heap.size, a0.toNat, none⟩ = some (.int .i64 C) := fun W => hcell W h19.1 h19.2
    obtain ⟨h1, h9⟩ := h19
    clear hcell
    go_enter Try.func7, Try.ntmps7
    go_wp2_with (first
      | (go_at_call 19; refine (Accidental_any _ _).mono ?_; rintro e w' ⟨A1, E1, rfl, rfl, g1⟩; have G1 := Lib.hid g1; clear g1)
      | (go_at_call 20; refine (hclef _).mono ?_; rintro e w' ⟨rfl, rfl⟩)
      | (go_at_call 21; refine (Digit_any _ _).mono ?_; rintro e w' ⟨A2, E2, rfl, rfl, g2⟩; have G2 := Lib.hid g2; clear g2)
      | (go_at_call 22; refine (Articulation_any _ _).mono ?_; rintro e w1 ⟨A3, E3, rfl, hk1, g3⟩; have Hk1 := Lib.hid hk1; have G3 := Lib.hid g3; clear g3 hk1)
      | (go_at_call 23; refine (Ornament_any _ _).mono ?_; rintro e w' ⟨A4, E4, rfl, rfl, g4⟩; have G4 := Lib.hid g4; clear g4))
    go_loop [15, 16] (fun b i => ∃ k : Nat, k ≤ 5 ∧ i = .int .i64 k ∧ b = .int .i64 (bitTo a0 k)) (fun _ i => 5 - (intOf i).toNat)
    case atStart => exact ⟨0, Nat.zero_le _, rfl, rfl⟩
    case round =>
      obtain ⟨k, hk, rfl, rfl⟩ := hrel
      by_cases hl : k < 5
      · have hs := Hst.out k
        have hb := (hbd k (by omega)).out
        obtain ⟨b, hbk⟩ : ∃ b, bitTo a0 k = b := ⟨_, rfl⟩
        rw [hbk] at hs hb ⊢
        clear hbk
        obtain ⟨k1, hk1⟩ : ∃ k1, k + 1 = k1 := ⟨_, rfl⟩
        have Hkk := Lib.hid hk1
        have hk5 : k1 ≤ 5 := by omega
        clear hk1
        obtain rfl | rfl | rfl | rfl | rfl : k = 0 ∨ k = 1 ∨ k = 2 ∨ k = 3 ∨ k = 4 := by omega
        all_goals
          (go_wp2_with fail
           all_goals
             go_round
             case rel => exact ⟨k1, hk5, by rw [← Hkk.out]; go_num, by rw [← Hkk.out, hs.out]; (first | (rw [if_pos (by simpa using ‹(a0 == _) = true›)]; rfl) | (rw [if_neg (by simpa using ‹(a0 == _) = false›)]))⟩
             case measure => simp [intOf])
      · obtain rfl : k = 5 := by omega
        have hb := (hbd 5 (by omega)).out
        obtain ⟨b, hbk⟩ : ∃ b, bitTo a0 5 = b := ⟨_, rfl⟩
        rw [hbk] at hb G3 ⊢
        clear hbk
        go_wp2_with (first
          | (go_at_call 12; refine (known23_any _).mono ?_; rintro e w3 ⟨rfl, hk3⟩; have Hk3 := Lib.hid hk3; clear hk3)
          | (go_at_call 24; refine (code_true _ _ _ _ _ _ (by have q1 := G1.out; have q2 := G2.out; have q3 := G3.out; have q4 := G4.out; have q5 := HC.out; unfold CodeR at q1 q2 q4; unfold ArtR at q3; constructor <;> intro hp <;> simp at hp <;> omega)).mono ?_; rintro e w' ⟨rfl, rfl⟩))
        all_goals
          go_ret
          exact ⟨retBool (by simp), (Hk1.out.trans (Kp.alloc _ _)).trans Hk3.out⟩
  · clear hcell
    have h19' : a0 < 1 ∨ 9 < a0 := by omega
    clear h19
    rcases h19' with h19 | h19
    · have h9 : ¬ (1 ≤ a0) := by omega
      go_enter Try.func7, Try.ntmps7
      go_wp2_with (first
        | (go_at_call 19; refine (Accidental_any _ _).mono ?_; rintro e w' ⟨A1, E1, rfl, rfl, g1⟩; have G1 := Lib.hid g1; clear g1)
        | (go_at_call 20; refine (hclef _).mono ?_; rintro e w' ⟨rfl, rfl⟩)
        | (go_at_call 21; refine (Digit_any _ _).mono ?_; rintro e w' ⟨A2, E2, rfl, rfl, g2⟩; have G2 := Lib.hid g2; clear g2)
        | (go_at_call 22; refine (Articulation_any _ _).mono ?_; rintro e w1 ⟨A3, E3, rfl, hk1, g3⟩; have Hk1 := Lib.hid hk1; have G3 := Lib.hid g3; clear g3 hk1)
        | (go_at_call 23; refine (Ornament_any _ _).mono ?_; rintro e w' ⟨A4, E4, rfl, rfl, g4⟩; have G4 := Lib.hid g4; clear g4))
      go_loop [15, 16] (fun b i => ∃ k : Nat, k ≤ 5 ∧ i = .int .i64 k ∧ b = .int .i64 (bitTo a0 k)) (fun _ i => 5 - (intOf i).toNat)
      case atStart => exact ⟨0, Nat.zero_le _, rfl, rfl⟩
      case round =>
        obtain ⟨k, hk, rfl, rfl⟩ := hrel
        by_cases hl : k < 5
        · have hs := Hst.out k
          have hb := (hbd k (by omega)).out
          obtain ⟨b, hbk⟩ : ∃ b, bitTo a0 k = b := ⟨_, rfl⟩
          rw [hbk] at hs hb ⊢
          clear hbk
          obtain ⟨k1, hk1⟩ : ∃ k1, k + 1 = k1 := ⟨_, rfl⟩
          have Hkk := Lib.hid hk1
          have hk5 : k1 ≤ 5 := by omega
          clear hk1
          obtain rfl | rfl | rfl | rfl | rfl : k = 0 ∨ k = 1 ∨ k = 2 ∨ k = 3 ∨ k = 4 := by omega
          all_goals
            (go_wp2_with fail
             all_goals
               go_round
               case rel => exact ⟨k1, hk5, by rw [← Hkk.out]; go_num, by rw [← Hkk.out, hs.out]; (first | (rw [if_pos (by simpa using ‹(a0 == _) = true›)]; rfl) | (rw [if_neg (by simpa using ‹(a0 == _) = false›)]))⟩
               case measure => simp [intOf])
        · obtain rfl : k = 5 := by omega
          have hb := (hbd 5 (by omega)).out
          obtain ⟨b, hbk⟩ : ∃ b, bitTo a0 5 = b := ⟨_, rfl⟩
          rw [hbk] at hb G3 ⊢
          clear hbk
          go_wp2_with (first
            | (go_at_call 12; refine (known23_any _).mono ?_; rintro e w3 ⟨rfl, hk3⟩; have Hk3 := Lib.hid hk3; clear hk3)
            | (go_at_call 24; refine (code_true _ _ _ _ _ _ (by have q1 := G1.out; have q2 := G2.out; have q3 := G3.out; have q4 := G4.out; have q5 := HC.out; unfold CodeR at q1 q2 q4; unfold ArtR at q3; constructor <;> intro hp <;> simp at hp <;> omega)).mono ?_; rintro e w' ⟨rfl, rfl⟩))
          all_goals
            go_ret
            exact ⟨retBool (by simp), (Hk1.out.trans (Kp.alloc _ _)).trans Hk3.out⟩
    · have h1 : 1 ≤ a0 := by omega
      go_enter Try.func7, Try.ntmps7
      go_wp2_with (first
        | (go_at_call 19; refine (Accidental_any _ _).mono ?_; rintro e w' ⟨A1, E1, rfl, rfl, g1⟩; have G1 := Lib.hid g1; clear g1)
        | (go_at_call 20; refine (hclef _).mono ?_; rintro e w' ⟨rfl, rfl⟩)
        | (go_at_call 21; refine (Digit_any _ _).mono ?_; rintro e w' ⟨A2, E2, rfl, rfl, g2⟩; have G2 := Lib.hid g2; clear g2)
        | (go_at_call 22; refine (Articulation_any _ _).mono ?_; rintro e w1 ⟨A3, E3, rfl, hk1, g3⟩; have Hk1 := Lib.hid hk1; have G3 := Lib.hid g3; clear g3 hk1)
        | (go_at_call 23; refine (Ornament_any _ _).mono ?_; rintro e w' ⟨A4, E4, rfl, rfl, g4⟩; have G4 := Lib.hid g4; clear g4))
      go_loop [15, 16] (fun b i => ∃ k : Nat, k ≤ 5 ∧ i = .int .i64 k ∧ b = .int .i64 (bitTo a0 k)) (fun _ i => 5 - (intOf i).toNat)
      case atStart => exact ⟨0, Nat.zero_le _, rfl, rfl⟩
      case round =>
        obtain ⟨k, hk, rfl, rfl⟩ := hrel
        by_cases hl : k < 5
        · have hs := Hst.out k
          have hb := (hbd k (by omega)).out
          obtain ⟨b, hbk⟩ : ∃ b, bitTo a0 k = b := ⟨_, rfl⟩
          rw [hbk] at hs hb ⊢
          clear hbk
          obtain ⟨k1, hk1⟩ : ∃ k1, k + 1 = k1 := ⟨_, rfl⟩
          have Hkk := Lib.hid hk1
          have hk5 : k1 ≤ 5 := by omega
          clear hk1
          obtain rfl | rfl | rfl | rfl | rfl : k = 0 ∨ k = 1 ∨ k = 2 ∨ k = 3 ∨ k = 4 := by omega
          all_goals
            (go_wp2_with fail
             all_goals
               go_round
               case rel => exact ⟨k1, hk5, by rw [← Hkk.out]; go_num, by rw [← Hkk.out, hs.out]; (first | (rw [if_pos (by simpa using ‹(a0 == _) = true›)]; rfl) | (rw [if_neg (by simpa using ‹(a0 == _) = false›)]))⟩
               case measure => simp [intOf])
        · obtain rfl : k = 5 := by omega
          have hb := (hbd 5 (by omega)).out
          obtain ⟨b, hbk⟩ : ∃ b, bitTo a0 5 = b := ⟨_, rfl⟩
          rw [hbk] at hb G3 ⊢
          clear hbk
          go_wp2_with (first
            | (go_at_call 12; refine (known23_any _).mono ?_; rintro e w3 ⟨rfl, hk3⟩; have Hk3 := Lib.hid hk3; clear hk3)
            | (go_at_call 24; refine (code_true _ _ _ _ _ _ (by have q1 := G1.out; have q2 := G2.out; have q3 := G3.out; have q4 := G4.out; have q5 := HC.out; unfold CodeR at q1 q2 q4; unfold ArtR at q3; constructor <;> intro hp <;> simp at hp <;> omega)).mono ?_; rintro e w' ⟨rfl, rfl⟩))
          all_goals
            go_ret
            exact ⟨retBool (by simp), (Hk1.out.trans (Kp.alloc _ _)).trans Hk3.out⟩
end Go.Proofs.Ytejmliomagnjfaa
