/- The points of a shape as an iterator: shape.points boxes the shape and hands back a closure; the closure yields the points in order. -/
import Derived.RangeFuncNested
import Derived.RangeFuncBound
import Derived.RangeFuncCalls
import Derived.RangeFuncLeaves
import Derived.RangeFuncBox
import Derived.Shelf.Abstract
import Derived.Shelf.RegionOpen
import Derived.WalkKit
import Derived.OwnWalkIn
import Derived.TacticsInMore
import Derived.LoopNIn
import Derived.LoopIn
import Derived.Test.YtejmliomagnjfaaGet
namespace Go.Proofs.Ytejmliomagnjfaa
open Go Go.RowKit Go.Shelf

attribute [local go_sem] Oper.semAt_some

/-- What has come when k rounds are over. -/
def upto {α : Type} (f : Nat → α) (k : Nat) : List α := (List.range k).map f
theorem upto_succ {α : Type} (f : Nat → α) (k : Nat) : upto f (k + 1) = upto f k ++ [f k] := by simp [upto, List.range_succ]
theorem upto_length {α : Type} (f : Nat → α) (k : Nat) : (upto f k).length = k := by simp [upto]
theorem upto_take {α : Type} (l : List α) (d : α) (k : Nat) (hk : k ≤ l.length) : upto (fun j => l.getD j d) k = l.take k := by
  apply List.ext_getElem
  · simp [upto, hk]
  · intro i h1 h2
    have : i < l.length := by simp [upto] at h1; omega
    simp [upto, this]

/-- A point within the limits of the shapes' points. -/
def BdP (p : Int × Int) : Prop := -1000 ≤ p.1 ∧ p.1 ≤ 1000 ∧ -1000 ≤ p.2 ∧ p.2 ≤ 1000
abbrev BP := { p : Int × Int // BdP p }
def bp0 : BP := ⟨(0, 0), by unfold BdP; decide⟩
def pt (s : Sh) (j : Nat) : Int × Int := s.pts.getD j (0, 0)
def encP (p : BP) : Array Value := #[.agg #[.int .i64 p.1.1, .int .i64 p.1.2]]
def bpt (ps : List BP) (j : Nat) : BP := ps.getD j bp0

theorem pts_length (s : Sh) : s.pts.length = 4 ∨ s.pts.length = 8 := by
  unfold Sh.pts
  split <;> simp

theorem nums_length (s : Sh) : s.nums.length = 17 := by
  rcases pts_length s with h | h <;> simp [Sh.nums, flat2, List.length_flatMap, h]

theorem flat2_get : ∀ (l : List (Int × Int)) (j : Nat), j < l.length → (flat2 l)[2 * j]? = some (l.getD j (0, 0)).1 ∧ (flat2 l)[2 * j + 1]? = some (l.getD j (0, 0)).2
  | [], j, h => by simp at h
  | p :: l, 0, _ => by simp [flat2]
  | p :: l, j + 1, h => by
    have ih := flat2_get l j (by simpa using h)
    simp only [flat2, List.flatMap_cons] at *
    constructor
    · have := ih.1; simpa [Nat.mul_add] using this
    · have := ih.2; simpa [Nat.mul_add] using this

theorem flat2_length (l : List (Int × Int)) : (flat2 l).length = 2 * l.length := by
  induction l with
  | nil => rfl
  | cons p l ih => simp only [flat2, List.flatMap_cons, List.length_append, List.length_cons, List.length_nil] at *; omega

theorem nums_get (s : Sh) (j : Nat) (h : j < s.pts.length) : s.nums[2 * j]? = some (pt s j).1 ∧ s.nums[2 * j + 1]? = some (pt s j).2 := by
  have hl := flat2_length s.pts
  have h8 : s.pts.length ≤ 8 := by rcases pts_length s with h | h <;> omega
  obtain ⟨h1, h2⟩ := flat2_get s.pts j h
  unfold Sh.nums pt
  constructor
  · rw [List.getElem?_append_left (by simp [hl]; omega), List.getElem?_take, if_pos (by omega), List.getElem?_append_left (by omega)]; exact h1
  · rw [List.getElem?_append_left (by simp [hl]; omega), List.getElem?_take, if_pos (by omega), List.getElem?_append_left (by omega)]; exact h2

theorem nums_count (s : Sh) : s.nums[16]? = some (s.pts.length : Int) := by
  have hl := flat2_length s.pts
  have h8 : s.pts.length ≤ 8 := by rcases pts_length s with h | h <;> omega
  unfold Sh.nums
  rw [List.getElem?_append_right (by simp [hl])]
  simp [hl]

/-- The cells of a block that holds a shape. -/
def HasSh (w : World) (b : Nat) (s : Sh) : Prop := w.heap[b]? = some (.cells (ints s.nums).toArray 77 (0, 0))
theorem HasSh.cell {w : World} {b : Nat} {s : Sh} (h : HasSh w b s) {j : Nat} {x : Int} (hx : s.nums[j]? = some x) : w.cell? ⟨b, j, none⟩ = some (.int .i64 x) := by
  simp [World.cell?, show w.heap[b]? = _ from h, ints, hx]

theorem points_any (cs : Array Value) (w : World) : Calls Try.prog 38 #[.agg cs] w fun e w' =>
    e = .returned (.func (.func 44) #[] #[.pointer (some ⟨w.heap.size, 0, none⟩)]) ∧ w.alloc (.cells cs 77) = w' := by
  go_enter Try.func38, Try.ntmps38
  go_wp2
  go_ret
  exact ⟨rfl, rfl⟩

set_option maxRecDepth 100000 in
set_option maxHeartbeats 2000000 in
theorem points1_in (F : Fence) (n : Nat) (hF : F.fn 44) (hro : F.round = none) (hn : 1 ≤ n) (l Bs : Nat) (s : Sh) (ps : List BP) (hps : ps.map Subtype.val = s.pts) (J Jx : List BP → World → Prop) (W : World)
    (hJ : AbidesFrom W.heap.size J)
    (hY : ∀ pre x W1, J pre W1 → pre.length < ps.length → YieldAt F (n - 1) Try.prog l (encP x) W1 fun e W' =>
      (e = .returned (.bool true) ∧ J (pre ++ [x]) W' ∧ W'.heap[Bs]? = W1.heap[Bs]?) ∨ (e = .returned (.bool false) ∧ Jx (pre ++ [x]) W'))
    (hBs : HasSh W Bs s) (h0 : J [] W) :
    CallsIn F n Try.prog 44 #[.func (.yield l) #[] #[], .pointer (some ⟨Bs, 0, none⟩)] W fun e W' => (∃ v, e = .returned v) ∧
      ((∃ ys, ys = ps ∧ J ys W') ∨ (∃ pre, pre <+: ps ∧ Jx pre W')) := by
  obtain ⟨len, hlen⟩ : ∃ len, s.pts.length = len := ⟨_, rfl⟩
  have h8 : len ≤ 8 := by rcases pts_length s with h | h <;> omega
  have hl8 : (len : Int) ≤ 8 := by omega
  have hcount := hBs.cell (nums_count s)
  rw [hlen] at hcount
  have hlp : ps.length = len := by rw [← hlen, ← hps, List.length_map]
  have hup : Hid (upto (bpt ps) len = ps) := Lib.hid (by
    have := upto_take ps bp0 ps.length (Nat.le_refl _)
    rw [List.take_length, hlp] at this; exact this)
  have hpre : Hid (∀ k, k ≤ len → upto (bpt ps) k <+: ps) := Lib.hid fun k hk => by
    have := upto_take ps bp0 k (by omega)
    exact this ▸ List.take_prefix _ _
  have hpt : Hid (∀ k, pt s k = (bpt ps k).1) := Lib.hid fun k => by
    unfold pt bpt
    rw [← hps]
    by_cases h : k < ps.length
    · simp [List.getD, h]
    · simp [List.getD, List.getElem?_eq_none (Nat.le_of_not_lt h)]; rfl
  have Hlp := Lib.hid hlp
  have Hlen := Lib.hid hlen
  have HY := Lib.hid hY
  have HJ := Lib.hid hJ
  have HBs := Lib.hid hBs
  clear hlen hY hJ hBs hlp hps
  refine callsIn_of_wp Try.func44 rfl hF ?_ hro
  simp only [Try.ntmps44, List.size_toArray, List.length_cons, List.length_nil, Nat.reduceAdd, Nat.reduceSub, Array.replicate_succ, Array.replicate_zero, List.push_toArray, List.append_toArray, List.nil_append, List.cons_append]
  gi_wp2
  gi_loopw [4, 10] (fun _ i wr => ∃ k : Nat, k ≤ len ∧ i = .int .i64 k ∧ J (upto (bpt ps) k) wr ∧ wr.heap[Bs]? = W.heap[Bs]?)
    (fun _ i _ => len - (intOf i).toNat)
  case atStart => exact ⟨0, Nat.zero_le _, rfl, h0, rfl⟩
  case round =>
    obtain ⟨k, hk, rfl, hJs, hsame⟩ := hrel
    by_cases hlt : k < len
    · have hB2 : HasSh wr Bs s := hsame.trans HBs.out
      obtain ⟨g0, g1⟩ := nums_get s k (by rw [Hlen.out]; exact hlt)
      rw [hpt.out] at g0 g1
      have hc0 : wr.cell? ⟨Bs, k * 2, none⟩ = some (.int .i64 (bpt ps k).1.1) := by rw [Nat.mul_comm]; exact hB2.cell g0
      have hc1 : wr.cell? ⟨Bs, k * 2 + 1, none⟩ = some (.int .i64 (bpt ps k).1.2) := by rw [Nat.mul_comm]; exact hB2.cell g1
      have hbl : Bs < wr.heap.size := (Array.getElem?_eq_some_iff.1 (show wr.heap[Bs]? = _ from hB2)).1
      have hJa : J (upto (bpt ps) k) (wr.alloc (.cells #[.int .i64 (bpt ps k).1.1, .int .i64 (bpt ps k).1.2] 44)) := HJ.out _ _ _ none hJs (World.grownBy_alloc _ _ none) (fun r e => by cases e)
      obtain ⟨fn, tmps, assign, body, hy, hR⟩ := HY.out (upto (bpt ps) k) (bpt ps k) _ hJa (by rw [upto_length, Hlp.out]; exact hlt)
      unfold encP at hy
      have hkeep : (wr.alloc (.cells #[.int .i64 (bpt ps k).1.1, .int .i64 (bpt ps k).1.2] 44)).heap[Bs]? = wr.heap[Bs]? := (Kp.alloc _ _).heap hbl
      have Hkeep := Lib.hid hkeep
      have Hsame := Lib.hid hsame
      clear hkeep hsame g0 g1
      gi_wp2
      refine hR.mono ?_
      rintro e W3 (⟨rfl, hJ3, hk3⟩ | ⟨rfl, hJx3⟩)
      · gi_wp2
        go_roundw
        case rel => exact ⟨k + 1, by omega, by simp, by rw [upto_succ]; exact hJ3, hk3.trans (Hkeep.out.trans Hsame.out)⟩
        case measure => simp [intOf]; omega
      · gi_wp2
        refine bodyPost_ret (results_none rfl _ _ _) rfl ?_
        exact ⟨⟨_, rfl⟩, .inr ⟨_, hpre.out (k + 1) (by omega), by rw [upto_succ]; exact hJx3⟩⟩
    · obtain rfl : k = len := by omega
      gi_wp2
      go_end0
      exact ⟨⟨_, rfl⟩, .inl ⟨_, rfl, by rw [← hup.out]; exact hJs⟩⟩

/-- The iterator of a shape's points: for every loop body that leaves the boxed shape alone. -/
theorem points_stops (F : Fence) (n : Nat) (hF : F.fn 44) (hro : F.round = none) (hn : 1 ≤ n) (Bs : Nat) (s : Sh) (ps : List BP) (hps : ps.map Subtype.val = s.pts) (w : World) (hB : HasSh w Bs s) :
    SeqStopsK F n Try.prog 44 #[.pointer (some ⟨Bs, 0, none⟩)] encP (fun W W' => W'.heap[Bs]? = W.heap[Bs]?) (fun ys => ys = ps) (fun pre => pre <+: ps) ps.length w :=
  fun l J Jx W hW hJ _ hY h0 => by
    have hlt : Bs < w.heap.size := (Array.getElem?_eq_some_iff.1 (show w.heap[Bs]? = _ from hB)).1
    exact points1_in F n hF hro hn l Bs s ps hps J Jx W hJ hY ((hW.block Bs hlt).trans hB) h0

end Go.Proofs.Ytejmliomagnjfaa
