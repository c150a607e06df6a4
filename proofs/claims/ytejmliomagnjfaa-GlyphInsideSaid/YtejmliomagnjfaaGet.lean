/- The contract of glyph.get. -/
import Derived.Test.YtejmliomagnjfaaAllE
namespace Go.Proofs.Ytejmliomagnjfaa
open Go Go.RowKit Go.Shelf

theorem sizeG2 : (Try.prog.info? 58).map (·.size) = some 2 := by kernel_rfl

set_option maxRecDepth 100000 in
set_option maxHeartbeats 400000 in
theorem get_out (code : Int) (w : World) (h : code < 1 ∨ 68 < code) :
    Calls Try.prog 33 #[.int .i64 code] w fun e w' => e = .returned (.tuple #[.agg #[.string ⟨#[]⟩, .slice none 0 0], .int .i64 11]) ∧ Kp w w' := by
  have hs := Lib.hid sizeG2
  rcases h with h | h
  · go_enter Try.func33, Try.ntmps33
    go_wp2
    refine bodyPost_ret (results_cell_row_tmp rfl _ _ w.heap.size 58 _ (0, 0) _ rfl (heap_alloc_new _ _) Try.underlying58 rfl hs.out) rfl ⟨rfl, Kp.alloc _ _⟩
  · have h' : ¬ code < 1 := by omega
    go_enter Try.func33, Try.ntmps33
    go_wp2
    refine bodyPost_ret (results_cell_row_tmp rfl _ _ w.heap.size 58 _ (0, 0) _ rfl (heap_alloc_new _ _) Try.underlying58 rfl hs.out) rfl ⟨rfl, Kp.alloc _ _⟩

set_option maxRecDepth 100000 in
set_option maxHeartbeats 400000 in
theorem get_in (code : Nat) (w : World) (h1 : 1 ≤ code) (h2 : code ≤ 68) :
    Calls Try.prog 33 #[.int .i64 code] w fun e w' => ∃ v, e = .returned (.tuple #[.agg #[.string (nameAt code), v], .int .i64 0]) ∧ ShRow w.heap.size w' v (shapesAt code) ∧ Kp w w' := by
  have hs := Lib.hid sizeG2
  obtain ⟨y, hy⟩ : ∃ y, tab[code - 1]? = some y := ⟨tab[code - 1]'(by show _ < 68; omega), by simp⟩
  have e1 : nameAt code = bytesOf y.1 := by simp [nameAt, List.getD, hy]
  have e2 : shapesAt code = y.2 := by simp [shapesAt, List.getD, hy]
  have hc1 : decide ((code : Int) < 1) = false := by simp; omega
  have hc2 : decide (68 < (code : Int)) = false := by simp; omega
  have hi0 : Hid ((0 : Int) ≤ code - 1) := Lib.hid (by omega)
  have hi1 : Hid ((code : Int) - 1 < ((68 : Nat) : Int)) := Lib.hid (by omega)
  have hi2 : Hid (((code : Int) - 1).toNat = code - 1) := Lib.hid (by omega)
  have hb0 : -1 ≤ (code : Int) := by omega
  have hb1 : (code : Int) ≤ 68 := by omega
  have Hy := Lib.hid hy
  clear hy
  have E1 := Lib.hid e1
  have E2 := Lib.hid e2
  clear e1 e2
  go_enter Try.func33, Try.ntmps33
  go_wp2_with (first
    | (go_at_call 29; refine (all_any _).mono ?_; rintro e w' ⟨C, rfl, hC, hk⟩; obtain ⟨v, g1, g2, B, g3, g4, g5, g6⟩ := hC.2 (code - 1) y Hy.out; have Hs : Hid (w'.heap[w.heap.size]? = some (.cells #[.string ⟨#[]⟩, .slice none 0 0] 58 (0, 0))) := Lib.hid ((hk.heap (by simp only [World.size_alloc]; omega)).trans (heap_alloc_new _ _)); subst g3; have Hx : Hid (C.toArray.extract (((code : Int) - 1).toNat * 2) (((code : Int) - 1).toNat * 2 + 2) = #[.string (bytesOf y.1), .slice (some ⟨B, 0, none⟩) y.2.length y.2.length]) := Lib.hid (by rw [hi2.out]; exact extract_two _ _ _ _ g1 g2); have Hk := Lib.hid hk; have G := Lib.hid (And.intro g4 (And.intro g5 g6)); clear hk hC g1 g2 g4 g5 g6)
    | (refine wpList_index_arr rfl 59 (.tmp 11) (.tmp 13) rfl C.toArray .i64 (code - 1) 68 58 2 rfl rfl Try.underlying59 hi0.out hi1.out hs.out _ Try.underlying58 rfl _ Hx.out ?_)
    | (refine wpList_store_at rfl 58 (.tmp 2) (.tmp 14) rfl w.heap.size #[.string (bytesOf y.1), .slice (some ⟨B, 0, none⟩) y.2.length y.2.length] #[.string ⟨#[]⟩, .slice none 0 0] 58 rfl rfl Hs.out hs.out rfl rfl ?_))
  refine bodyPost_ret (results_cell_row_tmp rfl _ _ w.heap.size 58 _ (0, 0) _ rfl (setRow_heap _ _ _ _ _ _ Hs.out) Try.underlying58 rfl hs.out) rfl ?_
  obtain ⟨g4, g5, g6⟩ := G.out
  refine ⟨.slice (some ⟨B, 0, none⟩) y.2.length y.2.length, by rw [E1.out]; rfl, ?_, ((Kp.alloc w _).trans Hk.out).setRow (Nat.le_refl _) _⟩
  rw [E2.out]
  simp only [World.size_alloc] at g4
  refine ⟨B, rfl, by omega, by simpa using g5, ?_⟩
  rw [setRow_other _ _ _ _ (by omega)]
  exact g6

end Go.Proofs.Ytejmliomagnjfaa
