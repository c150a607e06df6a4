/- The reference's inside: every edge of every polygon that lies to the right of the point turns the answer. -/
import Derived.Deep.RegionHeld3
import Derived.Test.YtejmliomagnjfaaRefOut
namespace Go.Proofs.Ytejmliomagnjfaa
open Go Go.RowKit Go.Shelf
set_option linter.unusedSimpArgs false

def ptOf (l : List (Int × Int)) (k : Nat) : Int × Int := l.getD k (0, 0)
def edgeAt (l : List (Int × Int)) (px py : Int) (k : Nat) : Bool := edge (ptOf l k) (ptOf l ((k + 1) % l.length)) px py
def edgesTo (l : List (Int × Int)) (px py : Int) (b : Bool) : Nat → Bool
  | 0 => b
  | k + 1 => if edgeAt l px py k then !(edgesTo l px py b k) else edgesTo l px py b k
def polysTo (L : List (List (Int × Int))) (px py : Int) : Nat → Bool
  | 0 => false
  | i + 1 => edgesTo (L.getD i []) px py (polysTo L px py i) (L.getD i []).length

theorem pts_cell {l : List (Int × Int)} {k : Nat} (h : k < l.length) : (ints (flat2 l))[k * 2]? = some (.int .i64 (ptOf l k).1) ∧ (ints (flat2 l))[k * 2 + 1]? = some (.int .i64 (ptOf l k).2) := by
  have := flat2_get l k h
  rw [Nat.mul_comm k 2]
  simp [ints, this.1, this.2, ptOf]

set_option maxRecDepth 100000 in
set_option maxHeartbeats 4000000 in
theorem refIn_any (L : List (List (Int × Int))) (hb : ∀ l ∈ L, ∀ p ∈ l, BdP p) (hN : 1 ≤ L.length ∧ L.length ≤ 20) (hl : ∀ l ∈ L, 1 ≤ l.length ∧ l.length ≤ 8) (px py : Int) (hx : -100000 ≤ px ∧ px ≤ 100000) (hy : -100000 ≤ py ∧ py ≤ 100000)
    (n₀ : Nat) (v : Value) (w : World) (hv : OutAt n₀ w v L) :
    Calls Try.prog 26 #[v, .int .i64 px, .int .i64 py] w fun e w' => e = .returned (.bool (polysTo L px py L.length)) ∧ Kp w w' := by
  obtain ⟨xs, hown, hxs⟩ := hv
  obtain ⟨N, hNn⟩ : ∃ N, L.length = N + 1 := ⟨L.length - 1, by omega⟩
  rw [hNn] at hown hN ⊢
  obtain ⟨g, cap, cur, rfl, _, hrow, hcur, _, _⟩ := owns_row hown
  obtain ⟨x1, x2⟩ := hx
  obtain ⟨y1, y2⟩ := hy
  have hpoly : ∀ (i : Nat) (l : List (Int × Int)), L[i]? = some l → ∃ B : Nat, cur[i]? = some (.slice (some ⟨B, 0, none⟩) l.length l.length) ∧ HasRow w B (ints (flat2 l)).toArray 80 := by
    intro i l hi
    obtain ⟨u, h1, B, rfl, _, h2⟩ := hxs i l hi
    exact ⟨B, hcur i _ h1, h2⟩
  have Hpoly := Lib.hid hpoly
  have Hrow := Lib.hid hrow
  have Hb := Lib.hid hb
  have Hl := Lib.hid hl
  have HN := Lib.hid hNn
  have hN20 : N ≤ 19 := by omega
  clear hpoly hown hxs hcur hb hl hNn hrow hN
  go_enter Try.func26, Try.ntmps26
  go_wp2
  go_loopw [7, 8] (fun b i wr => ∃ j : Nat, j ≤ N + 1 ∧ i = .int .i64 j ∧ b = .bool (polysTo L px py j) ∧ Kp w wr) (fun _ i _ => N + 1 - (intOf i).toNat)
  case atStart => exact ⟨0, Nat.zero_le _, rfl, rfl, Kp.refl _⟩
  case round =>
    obtain ⟨j, hj, rfl, rfl, hkr⟩ := hrel
    by_cases hlt : j < N + 1
    · obtain ⟨l, hl⟩ : ∃ l, L[j]? = some l := ⟨L[j]'(by rw [HN.out]; exact hlt), by simp⟩
      obtain ⟨B, hB1, hB2⟩ := Hpoly.out j l hl
      obtain ⟨len1, len8⟩ := Hl.out l (List.mem_of_getElem? hl)
      have hbd := Hb.out l (List.mem_of_getElem? hl)
      have hgd : L.getD j [] = l := by simp [List.getD, hl]
      have hstep : polysTo L px py (j + 1) = edgesTo l px py (polysTo L px py j) l.length := by
        show edgesTo (L.getD j []) px py (polysTo L px py j) (L.getD j []).length = _
        rw [hgd]
      obtain ⟨b0, hb0⟩ : ∃ b0, polysTo L px py j = b0 := ⟨_, rfl⟩
      rw [hb0] at hstep ⊢
      obtain ⟨len, hlen⟩ : ∃ len, l.length = len := ⟨_, rfl⟩
      rw [hlen] at hB1 len1 len8 hstep
      have cg : wr.cell? ⟨g, j, none⟩ = some (.slice (some ⟨B, 0, none⟩) len len) := ((Hrow.out.kp hkr).cell j).trans hB1
      have Hcg : Hid (∀ W', Kp w W' → W'.cell? ⟨g, j, none⟩ = some (.slice (some ⟨B, 0, none⟩) len len)) := Lib.hid (fun W' hk' => ((Hrow.out.kp hk').cell j).trans hB1)
      have HB := Lib.hid hB2
      have Hstep := Lib.hid hstep
      have Hbd := Lib.hid hbd
      have Hlen := Lib.hid hlen
      have Hkr := Lib.hid hkr
      have hjn : (j : Int) < (N : Int) + 1 := by omega
      clear hl hB1 hB2 hbd hgd hstep hb0 hlen hkr
      go_wp2_with fail
      go_loopw [7, 9] (fun b k wr => ∃ m : Nat, m ≤ len ∧ k = .int .i64 m ∧ b = .bool (edgesTo l px py b0 m) ∧ Kp w wr) (fun _ k _ => len - (intOf k).toNat)
      case atStart => exact ⟨0, Nat.zero_le _, rfl, rfl, Hkr.out⟩
      case round =>
        obtain ⟨m, hm, rfl, rfl, hkr2⟩ := hrel
        have cg2 := Hcg.out _ hkr2
        by_cases hml : m < len
        · obtain ⟨m', hm'⟩ : ∃ m', (m + 1) % len = m' := ⟨_, rfl⟩
          have hm'l : m' < len := by rw [← hm']; exact Nat.mod_lt _ (by omega)
          have hE : edgeAt l px py m = edge (ptOf l m) (ptOf l m') px py := by unfold edgeAt; rw [Hlen.out, hm']
          have hst : edgesTo l px py b0 (m + 1) = if edge (ptOf l m) (ptOf l m') px py then !(edgesTo l px py b0 m) else edgesTo l px py b0 m := by rw [← hE]; rfl
          have hp := pts_cell (l := l) (k := m) (by rw [Hlen.out]; exact hml)
          have hp' := pts_cell (l := l) (k := m') (by rw [Hlen.out]; exact hm'l)
          have hbm : BdP (ptOf l m) := Hbd.out _ (by unfold ptOf; rw [List.getD_eq_getElem?_getD, List.getElem?_eq_getElem (by rw [Hlen.out]; exact hml)]; simp)
          have hbm' : BdP (ptOf l m') := Hbd.out _ (by unfold ptOf; rw [List.getD_eq_getElem?_getD, List.getElem?_eq_getElem (by rw [Hlen.out]; exact hm'l)]; simp)
          obtain ⟨⟨ax, ay⟩, hA⟩ : ∃ a, ptOf l m = a := ⟨_, rfl⟩
          obtain ⟨⟨bx, cy⟩, hB⟩ : ∃ a, ptOf l m' = a := ⟨_, rfl⟩
          rw [hA] at hst hp hbm
          rw [hB] at hst hp' hbm'
          obtain ⟨b1, hb1⟩ : ∃ b1, edgesTo l px py b0 m = b1 := ⟨_, rfl⟩
          rw [hb1] at hst ⊢
          have Hok : Hid (∀ W', Kp w W' → (W'.cell? ⟨g, j, none⟩ = some (.slice (some ⟨B, 0, none⟩) len len) ∧ W'.cell? ⟨B, m * 2, none⟩ = some (.int .i64 ax) ∧ W'.cell? ⟨B, m * 2 + 1, none⟩ = some (.int .i64 ay) ∧ W'.cell? ⟨B, m' * 2, none⟩ = some (.int .i64 bx) ∧ W'.cell? ⟨B, m' * 2 + 1, none⟩ = some (.int .i64 cy))) :=
            Lib.hid (fun W' hk' => ⟨Hcg.out _ hk', ((HB.out.kp hk').cell _).trans (by simpa using hp.1), ((HB.out.kp hk').cell _).trans (by simpa using hp.2), ((HB.out.kp hk').cell _).trans (by simpa using hp'.1), ((HB.out.kp hk').cell _).trans (by simpa using hp'.2)⟩)
          obtain ⟨_, q1, q2, q3, q4⟩ := Hok.out _ hkr2
          obtain ⟨a1, a2, a3, a4⟩ := hbm
          obtain ⟨c1, c2, c3, c4⟩ := hbm'
          simp only at a1 a2 a3 a4 c1 c2 c3 c4
          have Hst := Lib.hid hst
          have Hkr2 := Lib.hid hkr2
          have hdiv : ∀ W, (Op.intDiv .rem .i64 ((m : Int) + 1) (len : Int)).run Try.prog W = .ok (.int .i64 (m' : Int)) W := fun W => by
            have h1 : ((m : Int) + 1).tmod len = m' := by
              rw [Int.tmod_eq_emod_of_nonneg (by omega), ← hm']
              simp
            unfold Op.intDiv
            rw [if_neg (by omega), h1]
            rfl
          have hwm : IntKind.i64.wrap ((m : Int) + 1) = m + 1 := by simp [IntKind.wrap, IntKind.bits, IntKind.signed]; omega
          have hwm' : IntKind.i64.wrap (m' : Int) = m' := by simp [IntKind.wrap, IntKind.bits, IntKind.signed]; omega
          have hlen0 : ¬ len = 0 := by omega
          have htm : ((m : Int) + 1).tmod len = m' := by
            rw [Int.tmod_eq_emod_of_nonneg (by omega), ← hm']
            simp
          have hml' : (m : Int) < len := by omega
          have hm'l' : (m' : Int) < len := by omega
          clear hE hst hp hp' hA hB hb1 hkr2
          go_wp2_with fail
          go_region_held3 (fun W' => W'.cell? ⟨g, j, none⟩ = some (.slice (some ⟨B, 0, none⟩) len len) ∧ W'.cell? ⟨B, m * 2, none⟩ = some (.int .i64 ax) ∧ W'.cell? ⟨B, m * 2 + 1, none⟩ = some (.int .i64 ay) ∧ W'.cell? ⟨B, m' * 2, none⟩ = some (.int .i64 bx) ∧ W'.cell? ⟨B, m' * 2 + 1, none⟩ = some (.int .i64 cy))
            (((with_reducible refine Hok.out _ ?_); repeat' (first | (with_reducible exact Hkr2.out) | (with_reducible refine Kp.set ?_ (by simp only [World.size_alloc]; have := Hkr2.out.size; omega) _) | (with_reducible refine Kp.drewQ ?_) | (with_reducible refine Kp.trans ?_ (Kp.alloc _ _)))))
            (fail)
          all_goals
            (have w1 : wrap64 ((px - bx) * (ay - cy)) = (px - bx) * (ay - cy) := wrapMul (by omega) (by omega) (by omega) (by omega)
             have w2 : wrap64 ((py - cy) * (ax - bx)) = (py - cy) * (ax - bx) := wrapMul (by omega) (by omega) (by omega) (by omega)
             have w3 : wrap64 ((px - ax) * (cy - ay)) = (px - ax) * (cy - ay) := wrapMul (by omega) (by omega) (by omega) (by omega)
             have w4 : wrap64 ((py - ay) * (bx - ax)) = (py - ay) * (bx - ax) := wrapMul (by omega) (by omega) (by omega) (by omega)
             go_wp2_with fail
             all_goals
               (go_roundw
                case rel =>
                  refine ⟨m + 1, by omega, by go_num, ?_, ?_⟩
                  · rw [Hst.out]
                    first
                      | (rw [@eg1 ax ay bx cy px py ‹_› ‹_› ‹_› ‹_›]; simp; done)
                      | (rw [@eg2 ax ay bx cy px py ‹_› ‹_› ‹_› ‹_›]; simp; done)
                      | (rw [@eg3 ax ay bx cy px py ‹_› ‹_› (Int.not_lt.1 ‹¬ py < ay›)]; simp; done)
                      | (rw [@eg4 ax ay bx cy px py ‹_› (Int.not_le.1 ‹¬ cy ≤ py›)]; simp; done)
                      | (rw [@eg5 ax ay bx cy px py ‹_› ‹_› ‹_› ‹_›]; simp; done)
                      | (rw [@eg6 ax ay bx cy px py ‹_› ‹_› ‹_› ‹_›]; simp; done)
                      | (rw [@eg7 ax ay bx cy px py ‹_› ‹_› (Int.not_lt.1 ‹¬ py < cy›)]; simp; done)
                      | (rw [@eg8 ax ay bx cy px py ‹_› (Int.not_le.1 ‹¬ ay ≤ py›)]; simp; done)
                  · repeat' (first | (with_reducible exact Hkr2.out) | (with_reducible refine Kp.drewQ ?_) | (with_reducible refine Kp.trans ?_ (Kp.alloc _ _)) | (refine Kp.set ?_ (by dsimp only; have := Hkr2.out.size; omega) _))
                case measure => simp [intOf]; omega))
        · obtain rfl : m = len := by omega
          have Hkr2 := Lib.hid hkr2
          clear hkr2
          go_wp2_with fail
          go_roundw
          case rel => exact ⟨j + 1, by omega, by go_num, by rw [Hstep.out], Hkr2.out⟩
          case measure => simp [intOf]; omega
    · obtain rfl : j = N + 1 := by omega
      go_wp2
      go_ret
      exact ⟨rfl, hkr⟩
end Go.Proofs.Ytejmliomagnjfaa
