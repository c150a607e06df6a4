/- The law of points outside of boxes. -/
import Derived.Test.YtejmliomagnjfaaOutl
import Derived.Test.YtejmliomagnjfaaParity
namespace Go.Proofs.Ytejmliomagnjfaa
open Go Go.RowKit Go.Shelf

theorem inside_known (c : Nat) (h1 : 1 ≤ c) (h2 : c ≤ 68) (px py : Int) : ∃ r : Bool, (∀ W, Calls Try.prog 25 #[.int .i64 c, .agg #[.int .i64 px, .int .i64 py]] W fun e w' => e = .returned (.tuple #[.bool r, .int .i64 0]) ∧ Kp W w') ∧
    (r = true → (boxG c).l ≤ px ∧ px < (boxG c).r ∧ (boxG c).b ≤ py ∧ py < (boxG c).t) ∧ r = (decide (-100000 ≤ px ∧ px ≤ 100000 ∧ -100000 ≤ py ∧ py ≤ 100000) && insideG c px py) := by
  by_cases h : (px < -100000 ∨ 100000 < px) ∨ (py < -100000 ∨ 100000 < py)
  · refine ⟨false, fun W => inside_far c px py W h1 h2 h, (fun e => by cases e), ?_⟩
    have : ¬ (-100000 ≤ px ∧ px ≤ 100000 ∧ -100000 ≤ py ∧ py ≤ 100000) := by omega
    simp [this]
  · refine ⟨insideG c px py, fun W => inside_in c px py W h1 h2 (by omega) (by omega), (fun e => inside_box c px py e), ?_⟩
    have : (-100000 ≤ px ∧ px ≤ 100000 ∧ -100000 ≤ py ∧ py ≤ 100000) := by omega
    simp [this]

set_option maxRecDepth 100000 in
set_option maxHeartbeats 2000000 in
theorem walk_GlyphInBoxes (a0 : Int) (a1_0 a1_1 : Int) (w : World) (w0 : (Lit.int .u8 a0).wf = true) (_w1_0 : (Lit.int .i64 a1_0).wf = true) (_w1_1 : (Lit.int .i64 a1_1).wf = true) :
    Calls Try.prog 9 #[.int .u8 a0, .agg #[.int .i64 a1_0, .int .i64 a1_1]] w fun e w' => e = .returned (.bool true) ∧ Kp w w' := by
  have ha : 0 ≤ a0 ∧ a0 ≤ 255 := by
    have e0 : IntKind.u8.min = 0 := rfl
    have e1 : IntKind.u8.max = 255 := rfl
    simp [Lit.wf] at w0
    omega
  clear w0
  obtain ⟨a, rfl⟩ : ∃ a : Nat, a0 = a := ⟨a0.toNat, by omega⟩
  obtain ⟨m, hm⟩ : ∃ m : Nat, a % 68 = m := ⟨_, rfl⟩
  have hm67 : m ≤ 67 := by omega
  have hrem : (a : Int).tmod 68 = (m : Int) := by rw [Int.tmod_eq_emod_of_nonneg (by omega)]; omega
  obtain ⟨r, hin, hb, hx⟩ := inside_known (1 + m) (by omega) (by omega) a1_0 a1_1
  clear hx
  have hbox := fun W => box_in (1 + m) W (by omega) (by omega)
  obtain ⟨⟨l, b, rr, t⟩, hq⟩ : ∃ q, boxG (1 + m) = q := ⟨_, rfl⟩
  rw [hq] at hbox hb
  simp only [Bx.cells, Int.natCast_add, Int.cast_ofNat_Int] at hin hbox hb
  have hin' : ∀ W, Calls Try.prog 25 #[.int .i64 (1 + (m : Int)), .agg #[.int .i64 a1_0, .int .i64 a1_1]] W fun e w' => e = .returned (.tuple #[.bool r, .int .i64 0]) ∧ Kp W w' := hin
  have hbox' : ∀ W, Calls Try.prog 28 #[.int .i64 (1 + (m : Int))] W fun e w' => e = .returned (.tuple #[.agg #[.int .i64 l, .int .i64 b, .int .i64 rr, .int .i64 t], .int .i64 0]) ∧ Kp W w' := hbox
  clear hin hbox hq hm
  cases r
  · clear hb
    go_enter Try.func9, Try.ntmps9
    go_wp2_with (first
      | (go_at_call 28; refine (hbox' _).mono ?_; rintro e w1 ⟨rfl, hk1⟩; have Pa := Lib.hid ((HasRow.new w #[.int .i64 a1_0, .int .i64 a1_1] 44).kp hk1); have pa0 := Pa.out.cell 0; have pa1 := Pa.out.cell 1; simp only [List.getElem?_toArray, List.getElem?_cons_zero, List.getElem?_cons_succ] at pa0 pa1; have lpa := Pa.out.lt; have Hk1 := Lib.hid hk1; clear hk1)
      | (go_at_call 25; refine (hin' _).mono ?_; rintro e w2 ⟨rfl, hk2⟩; have Hk2 := Lib.hid hk2; clear hk2)
      | (go_at_call 12; refine (known23_any _).mono ?_; rintro e w3 ⟨rfl, hk3⟩; have Hk3 := Lib.hid hk3; clear hk3))
    go_ret
    exact ⟨retBool (by simp), ((((Kp.alloc _ _).trans Hk1.out).trans (Kp.alloc _ _)).trans Hk2.out).trans Hk3.out⟩
  · obtain ⟨b1, b2, b3, b4⟩ := hb rfl
    clear hb
    go_enter Try.func9, Try.ntmps9
    go_wp2_with (first
      | (go_at_call 28; refine (hbox' _).mono ?_; rintro e w1 ⟨rfl, hk1⟩; have Pa := Lib.hid ((HasRow.new w #[.int .i64 a1_0, .int .i64 a1_1] 44).kp hk1); have pa0 := Pa.out.cell 0; have pa1 := Pa.out.cell 1; simp only [List.getElem?_toArray, List.getElem?_cons_zero, List.getElem?_cons_succ] at pa0 pa1; have lpa := Pa.out.lt; have Hk1 := Lib.hid hk1; clear hk1)
      | (go_at_call 25; refine (hin' _).mono ?_; rintro e w2 ⟨rfl, hk2⟩; have Pb := Lib.hid ((Pa.out.alloc (.cells #[.int .i64 l, .int .i64 b, .int .i64 rr, .int .i64 t] 52)).kp hk2); have Qb := Lib.hid ((HasRow.new w1 #[.int .i64 l, .int .i64 b, .int .i64 rr, .int .i64 t] 52).kp hk2); have Hk2 := Lib.hid hk2; clear hk2)
      | (go_at_call 12; refine (known23_any _).mono ?_; rintro e w3 ⟨rfl, hk3⟩; have Pc := Pb.out.kp hk3; have Qc := Qb.out.kp hk3; have pc0 := Pc.cell 0; have pc1 := Pc.cell 1; have qc0 := Qc.cell 0; have qc1 := Qc.cell 1; have qc2 := Qc.cell 2; have qc3 := Qc.cell 3; simp only [List.getElem?_toArray, List.getElem?_cons_zero, List.getElem?_cons_succ] at pc0 pc1 qc0 qc1 qc2 qc3; have Hk3 := Lib.hid hk3; clear hk3 Pc Qc))
    go_ret
    exact ⟨retBool (by simp), ((((Kp.alloc _ _).trans Hk1.out).trans (Kp.alloc _ _)).trans Hk2.out).trans Hk3.out⟩
end Go.Proofs.Ytejmliomagnjfaa
