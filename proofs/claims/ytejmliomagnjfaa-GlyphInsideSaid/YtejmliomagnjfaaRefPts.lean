/- The reference's points of a shape: a new slice of the same corners. -/
import Derived.Deep.RegionHeld3
import Derived.Deep.QuietTactic
import Derived.BigQuiet
import Derived.Test.YtejmliomagnjfaaNames
namespace Go.Proofs.Ytejmliomagnjfaa
open Go Go.RowKit Go.Shelf

theorem Kp.drewQ {a b : World} (h : Kp a b) : Kp a b.drew := Below.drew h
theorem Kp.drewNQ (a : World) (n : Nat) : Kp a (a.drewN n) := ⟨rfl, rfl, rfl, Nat.le_refl _, fun _ _ => rfl⟩

/-- A new slice of points. -/
def PtsAt (n₀ : Nat) (w : World) (v : Value) (l : List (Int × Int)) : Prop := ∃ B, v = .slice (some ⟨B, 0, none⟩) l.length l.length ∧ n₀ ≤ B ∧ HasRow w B (ints (flat2 l)).toArray 80

set_option maxRecDepth 100000 in
set_option maxHeartbeats 2000000 in
theorem refPts_box (a b c d : Int) (E : Nat) (w : World) (hE : HasRow w E (ints [a, b, c, d]).toArray 3) :
    Calls Try.prog 37 #[.int .u8 98, .slice (some ⟨E, 0, none⟩) 4 4] w fun e w' => ∃ v, e = .returned v ∧ PtsAt w.heap.size w' v [(a, b), (c, b), (c, d), (a, d)] ∧ Kp w w' := by
  have q0 : w.cell? ⟨E, 0, none⟩ = some (.int .i64 a) := hE.cell 0
  have q1 : w.cell? ⟨E, 1, none⟩ = some (.int .i64 b) := hE.cell 1
  have q2 : w.cell? ⟨E, 2, none⟩ = some (.int .i64 c) := hE.cell 2
  have q3 : w.cell? ⟨E, 3, none⟩ = some (.int .i64 d) := hE.cell 3
  clear hE
  go_enter Try.func37, Try.ntmps37
  go_wp2_with fail
  go_quiet (fail)
  go_wp2_with fail
  go_ret
  exact ⟨_, rfl, ⟨_, rfl, by simp, HasRow.new _ _ _⟩, Kp.trans (Kp.drewNQ _ _) (Kp.alloc _ _)⟩

set_option maxRecDepth 100000 in
set_option maxHeartbeats 2000000 in
theorem refPts_oct (a b c d : Int) (ha : -1000 ≤ a ∧ a ≤ 1000) (hb : -1000 ≤ b ∧ b ≤ 1000) (hc : -1000 ≤ c ∧ c ≤ 1000) (hd : -1000 ≤ d ∧ d ≤ 1000) (hac : a ≤ c) (hbd : b ≤ d) (E : Nat) (w : World) (hE : HasRow w E (ints [a, b, c, d]).toArray 3) :
    Calls Try.prog 37 #[.int .u8 111, .slice (some ⟨E, 0, none⟩) 4 4] w fun e w' => ∃ v, e = .returned v ∧ PtsAt w.heap.size w' v [(a + (c - a) / 4, b), (c - (c - a) / 4, b), (c, b + (d - b) / 4), (c, d - (d - b) / 4), (c - (c - a) / 4, d), (a + (c - a) / 4, d), (a, d - (d - b) / 4), (a, b + (d - b) / 4)] ∧ Kp w w' := by
  have q0 : w.cell? ⟨E, 0, none⟩ = some (.int .i64 a) := hE.cell 0
  have q1 : w.cell? ⟨E, 1, none⟩ = some (.int .i64 b) := hE.cell 1
  have q2 : w.cell? ⟨E, 2, none⟩ = some (.int .i64 c) := hE.cell 2
  have q3 : w.cell? ⟨E, 3, none⟩ = some (.int .i64 d) := hE.cell 3
  clear hE
  go_enter Try.func37, Try.ntmps37
  go_wp2_with fail
  go_quiet (fail)
  go_wp2_with fail
  go_ret
  exact ⟨_, rfl, ⟨_, rfl, by simp, HasRow.new _ _ _⟩, Kp.trans (Kp.drewNQ _ _) (Kp.alloc _ _)⟩

set_option maxRecDepth 100000 in
set_option maxHeartbeats 2000000 in
theorem refPts_stroke (a b c d u : Int) (hb : -1000 ≤ b ∧ b ≤ 1000) (hd : -1000 ≤ d ∧ d ≤ 1000) (hu : -1000 ≤ u ∧ u ≤ 1000) (E : Nat) (w : World) (hE : HasRow w E (ints [a, b, c, d, u]).toArray 3) :
    Calls Try.prog 37 #[.int .u8 115, .slice (some ⟨E, 0, none⟩) 5 5] w fun e w' => ∃ v, e = .returned v ∧ PtsAt w.heap.size w' v [(a, b), (c, d), (c, d + u), (a, b + u)] ∧ Kp w w' := by
  have q0 : w.cell? ⟨E, 0, none⟩ = some (.int .i64 a) := hE.cell 0
  have q1 : w.cell? ⟨E, 1, none⟩ = some (.int .i64 b) := hE.cell 1
  have q2 : w.cell? ⟨E, 2, none⟩ = some (.int .i64 c) := hE.cell 2
  have q3 : w.cell? ⟨E, 3, none⟩ = some (.int .i64 d) := hE.cell 3
  have q4 : w.cell? ⟨E, 4, none⟩ = some (.int .i64 u) := hE.cell 4
  have hw1 : IntKind.i64.wrap (d + u) = d + u := by simp [IntKind.wrap, IntKind.bits, IntKind.signed]; omega
  have hw2 : IntKind.i64.wrap (b + u) = b + u := by simp [IntKind.wrap, IntKind.bits, IntKind.signed]; omega
  have Hok : Hid (∀ W', Kp w W' → (W'.cell? ⟨E, 0, none⟩ = some (.int .i64 a) ∧ W'.cell? ⟨E, 1, none⟩ = some (.int .i64 b) ∧ W'.cell? ⟨E, 2, none⟩ = some (.int .i64 c) ∧ W'.cell? ⟨E, 3, none⟩ = some (.int .i64 d) ∧ W'.cell? ⟨E, 4, none⟩ = some (.int .i64 u))) :=
    Lib.hid (fun W' hk => ⟨(hE.kp hk).cell 0, (hE.kp hk).cell 1, (hE.kp hk).cell 2, (hE.kp hk).cell 3, (hE.kp hk).cell 4⟩)
  clear hE
  go_enter Try.func37, Try.ntmps37
  go_wp2_with fail
  go_region_held3 (fun W' => W'.cell? ⟨E, 0, none⟩ = some (.int .i64 a) ∧ W'.cell? ⟨E, 1, none⟩ = some (.int .i64 b) ∧ W'.cell? ⟨E, 2, none⟩ = some (.int .i64 c) ∧ W'.cell? ⟨E, 3, none⟩ = some (.int .i64 d) ∧ W'.cell? ⟨E, 4, none⟩ = some (.int .i64 u))
    (((with_reducible refine Hok.out _ ?_); repeat' (first | (with_reducible exact Kp.refl _) | (with_reducible refine Kp.drewQ ?_) | (with_reducible refine Kp.trans ?_ (Kp.alloc _ _)))))
    (fail)
  all_goals
    go_wp2_with fail
    go_ret
    exact ⟨_, rfl, ⟨_, rfl, by simp, HasRow.new _ _ _⟩, Kp.trans (Kp.drewQ (Kp.refl _)) (Kp.alloc _ _)⟩
end Go.Proofs.Ytejmliomagnjfaa
