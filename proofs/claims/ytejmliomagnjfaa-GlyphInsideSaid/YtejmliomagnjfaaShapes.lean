/- The contracts of the makers of shapes: polygon at four and at eight points, box, octagon, stroke: each hands back the seventeen numbers of its shape, and leaves what was there as it was. -/
import Derived.Test.YtejmliomagnjfaaProg
import Derived.Test.YtejmliomagnjfaaLaws
import Derived.Test.YtejmliomagnjfaaPlain
namespace Go.Proofs.Ytejmliomagnjfaa
open Go Go.RowKit

theorem Try.sizeS : (Try.prog.info? 77).map (·.size) = some 17 := by kernel_rfl
theorem Try.infoP : (Try.prog.info? 44).map (fun i => (i.zero, i.size, i.bytes)) = some (some (.agg #[.int .i64 0, .int .i64 0]), 2, 16) := by kernel_rfl

set_option maxRecDepth 100000 in
set_option maxHeartbeats 2000000 in
theorem polygon4 (b : Nat) (x0 x1 x2 x3 x4 x5 x6 x7 : Int) (w : World) (hb : b < w.heap.size)
    (h : w.heap[b]? = some (.cells #[.int .i64 x0, .int .i64 x1, .int .i64 x2, .int .i64 x3, .int .i64 x4, .int .i64 x5, .int .i64 x6, .int .i64 x7] 44 (0, 0))) :
    Calls Try.prog 45 #[.slice (some ⟨b, 0, none⟩) 4 4] w fun e w' => e = .returned (.agg #[.int .i64 x0, .int .i64 x1, .int .i64 x2, .int .i64 x3, .int .i64 x4, .int .i64 x5, .int .i64 x6, .int .i64 x7, .int .i64 0, .int .i64 0, .int .i64 0, .int .i64 0, .int .i64 0, .int .i64 0, .int .i64 0, .int .i64 0, .int .i64 4]) ∧ Kp w w' := by
  obtain ⟨i0, hi, hz0, hz1, hz2⟩ := info_parts Try.infoP
  have H := Lib.hid h
  clear h
  have Hi := Lib.hid hi
  clear hi hz0 hz2
  have Hz := Lib.hid hz1
  clear hz1
  have hcells : ∀ (A B : Obj) (j : Nat) (v : Value), ([.int .i64 x0, .int .i64 x1, .int .i64 x2, .int .i64 x3, .int .i64 x4, .int .i64 x5, .int .i64 x6, .int .i64 x7] : List Value)[j]? = some v → ((w.alloc A).alloc B).cell? (({ block := b, off := 0 } : Addr).add j) = some v := by
    intro A B j v hj
    have hbb : ((w.alloc A).alloc B).heap[b]? = w.heap[b]? := ((Kp.alloc w A).trans (Kp.alloc _ B)).heap hb
    have ha : ({ block := b, off := 0 } : Addr).add j = ⟨b, j, none⟩ := by unfold Addr.add; split <;> simp_all
    rw [ha]
    simp only [World.cell?, hbb, H.out]
    simpa using hj
  have Hc := Lib.hid hcells
  clear hcells
  have hone : Hid (∀ v ∈ ([.int .i64 x0, .int .i64 x1, .int .i64 x2, .int .i64 x3, .int .i64 x4, .int .i64 x5, .int .i64 x6, .int .i64 x7] : List Value), v.oneCell' = true) := by
    apply Lib.hid
    intro v hv
    simp only [List.mem_cons, List.not_mem_nil, or_false] at hv
    rcases hv with rfl | rfl | rfl | rfl | rfl | rfl | rfl | rfl <;> rfl
  have hlen : Hid (([.int .i64 x0, .int .i64 x1, .int .i64 x2, .int .i64 x3, .int .i64 x4, .int .i64 x5, .int .i64 x6, .int .i64 x7] : List Value).length = Nat.min 4 8 * i0.size) := by
    apply Lib.hid; rw [Hz.out]; rfl
  have hfit : Hid (0 + ([.int .i64 x0, .int .i64 x1, .int .i64 x2, .int .i64 x3, .int .i64 x4, .int .i64 x5, .int .i64 x6, .int .i64 x7] : List Value).length ≤ (#[.int .i64 0, .int .i64 0, .int .i64 0, .int .i64 0, .int .i64 0, .int .i64 0, .int .i64 0, .int .i64 0, .int .i64 0, .int .i64 0, .int .i64 0, .int .i64 0, .int .i64 0, .int .i64 0, .int .i64 0, .int .i64 0, .int .i64 4] : Array Value).size) := Lib.hid (Nat.le_of_ble_eq_true rfl)
  have hnew : Hid ((#[.int .i64 x0, .int .i64 x1, .int .i64 x2, .int .i64 x3, .int .i64 x4, .int .i64 x5, .int .i64 x6, .int .i64 x7, .int .i64 0, .int .i64 0, .int .i64 0, .int .i64 0, .int .i64 0, .int .i64 0, .int .i64 0, .int .i64 0, .int .i64 4] : Array Value) = ((#[.int .i64 0, .int .i64 0, .int .i64 0, .int .i64 0, .int .i64 0, .int .i64 0, .int .i64 0, .int .i64 0, .int .i64 0, .int .i64 0, .int .i64 0, .int .i64 0, .int .i64 0, .int .i64 0, .int .i64 0, .int .i64 0, .int .i64 4] : Array Value).toList.take 0 ++ ([.int .i64 x0, .int .i64 x1, .int .i64 x2, .int .i64 x3, .int .i64 x4, .int .i64 x5, .int .i64 x6, .int .i64 x7] : List Value) ++ (#[.int .i64 0, .int .i64 0, .int .i64 0, .int .i64 0, .int .i64 0, .int .i64 0, .int .i64 0, .int .i64 0, .int .i64 0, .int .i64 0, .int .i64 0, .int .i64 0, .int .i64 0, .int .i64 0, .int .i64 0, .int .i64 0, .int .i64 4] : Array Value).toList.drop (0 + ([.int .i64 x0, .int .i64 x1, .int .i64 x2, .int .i64 x3, .int .i64 x4, .int .i64 x5, .int .i64 x6, .int .i64 x7] : List Value).length)).toArray) := Lib.hid rfl
  clear H Hz
  go_enter Try.func45, Try.ntmps45
  have hs := Lib.hid Try.sizeS
  go_wp2_with (first
    | (refine wpList_store_new2 rfl 77 (.tmp 3) (.tmp 6) rfl #[.int .i64 0, .int .i64 0, .int .i64 0, .int .i64 0, .int .i64 0, .int .i64 0, .int .i64 0, .int .i64 0, .int .i64 0, .int .i64 0, .int .i64 0, .int .i64 0, .int .i64 0, .int .i64 0, .int .i64 0, .int .i64 0, .int .i64 4] _ #[.int .i64 0, .int .i64 0, .int .i64 0, .int .i64 0, .int .i64 0, .int .i64 0, .int .i64 0, .int .i64 0, .int .i64 0, .int .i64 0, .int .i64 0, .int .i64 0, .int .i64 0, .int .i64 0, .int .i64 0, .int .i64 0, .int .i64 0] 77 rfl rfl hs.out rfl rfl ?_)
    | (refine wpList_store_old2 rfl 77 (.tmp 2) (.tmp 11) rfl #[.int .i64 x0, .int .i64 x1, .int .i64 x2, .int .i64 x3, .int .i64 x4, .int .i64 x5, .int .i64 x6, .int .i64 x7, .int .i64 0, .int .i64 0, .int .i64 0, .int .i64 0, .int .i64 0, .int .i64 0, .int .i64 0, .int .i64 0, .int .i64 4] _ #[.int .i64 0, .int .i64 0, .int .i64 0, .int .i64 0, .int .i64 0, .int .i64 0, .int .i64 0, .int .i64 0, .int .i64 0, .int .i64 0, .int .i64 0, .int .i64 0, .int .i64 0, .int .i64 0, .int .i64 0, .int .i64 0, .int .i64 0] 77 rfl rfl hs.out rfl rfl ?_)
    | (refine wpList_load_new2 rfl 77 (.tmp 3) rfl _ #[.int .i64 x0, .int .i64 x1, .int .i64 x2, .int .i64 x3, .int .i64 x4, .int .i64 x5, .int .i64 x6, .int .i64 x7, .int .i64 0, .int .i64 0, .int .i64 0, .int .i64 0, .int .i64 0, .int .i64 0, .int .i64 0, .int .i64 0, .int .i64 4] 77 _ rfl Try.underlying77 rfl hs.out ?_)
    | refine wpList_copy_new2 rfl (.tmp 8) (.tmp 9) 64 64 rfl 44 i0 Try.underlying64 Hi.out 0 8 8 ⟨b, 0, none⟩ 4 4 rfl rfl _ #[.int .i64 0, .int .i64 0, .int .i64 0, .int .i64 0, .int .i64 0, .int .i64 0, .int .i64 0, .int .i64 0, .int .i64 0, .int .i64 0, .int .i64 0, .int .i64 0, .int .i64 0, .int .i64 0, .int .i64 0, .int .i64 0, .int .i64 4] 77 [.int .i64 x0, .int .i64 x1, .int .i64 x2, .int .i64 x3, .int .i64 x4, .int .i64 x5, .int .i64 x6, .int .i64 x7] #[.int .i64 x0, .int .i64 x1, .int .i64 x2, .int .i64 x3, .int .i64 x4, .int .i64 x5, .int .i64 x6, .int .i64 x7, .int .i64 0, .int .i64 0, .int .i64 0, .int .i64 0, .int .i64 0, .int .i64 0, .int .i64 0, .int .i64 0, .int .i64 4] hlen.out (Hc.out _ _) hfit.out hone.out hnew.out ?_)
  refine bodyPost_ret (results_cell_row rfl _ _ w.heap.size 77 #[.int .i64 x0, .int .i64 x1, .int .i64 x2, .int .i64 x3, .int .i64 x4, .int .i64 x5, .int .i64 x6, .int .i64 x7, .int .i64 0, .int .i64 0, .int .i64 0, .int .i64 0, .int .i64 0, .int .i64 0, .int .i64 0, .int .i64 0, .int .i64 4] (0, 0) _ rfl (heap_alloc2_old _ _ _) Try.underlying77 rfl hs.out) rfl ⟨rfl, ?_⟩
  exact (Kp.alloc w _).trans (Kp.alloc _ _)

set_option maxRecDepth 100000 in
set_option maxHeartbeats 2000000 in
theorem polygon8 (b : Nat) (x0 x1 x2 x3 x4 x5 x6 x7 x8 x9 x10 x11 x12 x13 x14 x15 : Int) (w : World) (hb : b < w.heap.size)
    (h : w.heap[b]? = some (.cells #[.int .i64 x0, .int .i64 x1, .int .i64 x2, .int .i64 x3, .int .i64 x4, .int .i64 x5, .int .i64 x6, .int .i64 x7, .int .i64 x8, .int .i64 x9, .int .i64 x10, .int .i64 x11, .int .i64 x12, .int .i64 x13, .int .i64 x14, .int .i64 x15] 44 (0, 0))) :
    Calls Try.prog 45 #[.slice (some ⟨b, 0, none⟩) 8 8] w fun e w' => e = .returned (.agg #[.int .i64 x0, .int .i64 x1, .int .i64 x2, .int .i64 x3, .int .i64 x4, .int .i64 x5, .int .i64 x6, .int .i64 x7, .int .i64 x8, .int .i64 x9, .int .i64 x10, .int .i64 x11, .int .i64 x12, .int .i64 x13, .int .i64 x14, .int .i64 x15, .int .i64 8]) ∧ Kp w w' := by
  obtain ⟨i0, hi, hz0, hz1, hz2⟩ := info_parts Try.infoP
  have H := Lib.hid h
  clear h
  have Hi := Lib.hid hi
  clear hi hz0 hz2
  have Hz := Lib.hid hz1
  clear hz1
  have hcells : ∀ (A B : Obj) (j : Nat) (v : Value), ([.int .i64 x0, .int .i64 x1, .int .i64 x2, .int .i64 x3, .int .i64 x4, .int .i64 x5, .int .i64 x6, .int .i64 x7, .int .i64 x8, .int .i64 x9, .int .i64 x10, .int .i64 x11, .int .i64 x12, .int .i64 x13, .int .i64 x14, .int .i64 x15] : List Value)[j]? = some v → ((w.alloc A).alloc B).cell? (({ block := b, off := 0 } : Addr).add j) = some v := by
    intro A B j v hj
    have hbb : ((w.alloc A).alloc B).heap[b]? = w.heap[b]? := ((Kp.alloc w A).trans (Kp.alloc _ B)).heap hb
    have ha : ({ block := b, off := 0 } : Addr).add j = ⟨b, j, none⟩ := by unfold Addr.add; split <;> simp_all
    rw [ha]
    simp only [World.cell?, hbb, H.out]
    simpa using hj
  have Hc := Lib.hid hcells
  clear hcells
  have hone : Hid (∀ v ∈ ([.int .i64 x0, .int .i64 x1, .int .i64 x2, .int .i64 x3, .int .i64 x4, .int .i64 x5, .int .i64 x6, .int .i64 x7, .int .i64 x8, .int .i64 x9, .int .i64 x10, .int .i64 x11, .int .i64 x12, .int .i64 x13, .int .i64 x14, .int .i64 x15] : List Value), v.oneCell' = true) := by
    apply Lib.hid
    intro v hv
    simp only [List.mem_cons, List.not_mem_nil, or_false] at hv
    rcases hv with rfl | rfl | rfl | rfl | rfl | rfl | rfl | rfl | rfl | rfl | rfl | rfl | rfl | rfl | rfl | rfl <;> rfl
  have hlen : Hid (([.int .i64 x0, .int .i64 x1, .int .i64 x2, .int .i64 x3, .int .i64 x4, .int .i64 x5, .int .i64 x6, .int .i64 x7, .int .i64 x8, .int .i64 x9, .int .i64 x10, .int .i64 x11, .int .i64 x12, .int .i64 x13, .int .i64 x14, .int .i64 x15] : List Value).length = Nat.min 8 8 * i0.size) := by
    apply Lib.hid; rw [Hz.out]; rfl
  have hfit : Hid (0 + ([.int .i64 x0, .int .i64 x1, .int .i64 x2, .int .i64 x3, .int .i64 x4, .int .i64 x5, .int .i64 x6, .int .i64 x7, .int .i64 x8, .int .i64 x9, .int .i64 x10, .int .i64 x11, .int .i64 x12, .int .i64 x13, .int .i64 x14, .int .i64 x15] : List Value).length ≤ (#[.int .i64 0, .int .i64 0, .int .i64 0, .int .i64 0, .int .i64 0, .int .i64 0, .int .i64 0, .int .i64 0, .int .i64 0, .int .i64 0, .int .i64 0, .int .i64 0, .int .i64 0, .int .i64 0, .int .i64 0, .int .i64 0, .int .i64 8] : Array Value).size) := Lib.hid (Nat.le_of_ble_eq_true rfl)
  have hnew : Hid ((#[.int .i64 x0, .int .i64 x1, .int .i64 x2, .int .i64 x3, .int .i64 x4, .int .i64 x5, .int .i64 x6, .int .i64 x7, .int .i64 x8, .int .i64 x9, .int .i64 x10, .int .i64 x11, .int .i64 x12, .int .i64 x13, .int .i64 x14, .int .i64 x15, .int .i64 8] : Array Value) = ((#[.int .i64 0, .int .i64 0, .int .i64 0, .int .i64 0, .int .i64 0, .int .i64 0, .int .i64 0, .int .i64 0, .int .i64 0, .int .i64 0, .int .i64 0, .int .i64 0, .int .i64 0, .int .i64 0, .int .i64 0, .int .i64 0, .int .i64 8] : Array Value).toList.take 0 ++ ([.int .i64 x0, .int .i64 x1, .int .i64 x2, .int .i64 x3, .int .i64 x4, .int .i64 x5, .int .i64 x6, .int .i64 x7, .int .i64 x8, .int .i64 x9, .int .i64 x10, .int .i64 x11, .int .i64 x12, .int .i64 x13, .int .i64 x14, .int .i64 x15] : List Value) ++ (#[.int .i64 0, .int .i64 0, .int .i64 0, .int .i64 0, .int .i64 0, .int .i64 0, .int .i64 0, .int .i64 0, .int .i64 0, .int .i64 0, .int .i64 0, .int .i64 0, .int .i64 0, .int .i64 0, .int .i64 0, .int .i64 0, .int .i64 8] : Array Value).toList.drop (0 + ([.int .i64 x0, .int .i64 x1, .int .i64 x2, .int .i64 x3, .int .i64 x4, .int .i64 x5, .int .i64 x6, .int .i64 x7, .int .i64 x8, .int .i64 x9, .int .i64 x10, .int .i64 x11, .int .i64 x12, .int .i64 x13, .int .i64 x14, .int .i64 x15] : List Value).length)).toArray) := Lib.hid rfl
  clear H Hz
  go_enter Try.func45, Try.ntmps45
  have hs := Lib.hid Try.sizeS
  go_wp2_with (first
    | (refine wpList_store_new2 rfl 77 (.tmp 3) (.tmp 6) rfl #[.int .i64 0, .int .i64 0, .int .i64 0, .int .i64 0, .int .i64 0, .int .i64 0, .int .i64 0, .int .i64 0, .int .i64 0, .int .i64 0, .int .i64 0, .int .i64 0, .int .i64 0, .int .i64 0, .int .i64 0, .int .i64 0, .int .i64 8] _ #[.int .i64 0, .int .i64 0, .int .i64 0, .int .i64 0, .int .i64 0, .int .i64 0, .int .i64 0, .int .i64 0, .int .i64 0, .int .i64 0, .int .i64 0, .int .i64 0, .int .i64 0, .int .i64 0, .int .i64 0, .int .i64 0, .int .i64 0] 77 rfl rfl hs.out rfl rfl ?_)
    | (refine wpList_store_old2 rfl 77 (.tmp 2) (.tmp 11) rfl #[.int .i64 x0, .int .i64 x1, .int .i64 x2, .int .i64 x3, .int .i64 x4, .int .i64 x5, .int .i64 x6, .int .i64 x7, .int .i64 x8, .int .i64 x9, .int .i64 x10, .int .i64 x11, .int .i64 x12, .int .i64 x13, .int .i64 x14, .int .i64 x15, .int .i64 8] _ #[.int .i64 0, .int .i64 0, .int .i64 0, .int .i64 0, .int .i64 0, .int .i64 0, .int .i64 0, .int .i64 0, .int .i64 0, .int .i64 0, .int .i64 0, .int .i64 0, .int .i64 0, .int .i64 0, .int .i64 0, .int .i64 0, .int .i64 0] 77 rfl rfl hs.out rfl rfl ?_)
    | (refine wpList_load_new2 rfl 77 (.tmp 3) rfl _ #[.int .i64 x0, .int .i64 x1, .int .i64 x2, .int .i64 x3, .int .i64 x4, .int .i64 x5, .int .i64 x6, .int .i64 x7, .int .i64 x8, .int .i64 x9, .int .i64 x10, .int .i64 x11, .int .i64 x12, .int .i64 x13, .int .i64 x14, .int .i64 x15, .int .i64 8] 77 _ rfl Try.underlying77 rfl hs.out ?_)
    | refine wpList_copy_new2 rfl (.tmp 8) (.tmp 9) 64 64 rfl 44 i0 Try.underlying64 Hi.out 0 8 8 ⟨b, 0, none⟩ 8 8 rfl rfl _ #[.int .i64 0, .int .i64 0, .int .i64 0, .int .i64 0, .int .i64 0, .int .i64 0, .int .i64 0, .int .i64 0, .int .i64 0, .int .i64 0, .int .i64 0, .int .i64 0, .int .i64 0, .int .i64 0, .int .i64 0, .int .i64 0, .int .i64 8] 77 [.int .i64 x0, .int .i64 x1, .int .i64 x2, .int .i64 x3, .int .i64 x4, .int .i64 x5, .int .i64 x6, .int .i64 x7, .int .i64 x8, .int .i64 x9, .int .i64 x10, .int .i64 x11, .int .i64 x12, .int .i64 x13, .int .i64 x14, .int .i64 x15] #[.int .i64 x0, .int .i64 x1, .int .i64 x2, .int .i64 x3, .int .i64 x4, .int .i64 x5, .int .i64 x6, .int .i64 x7, .int .i64 x8, .int .i64 x9, .int .i64 x10, .int .i64 x11, .int .i64 x12, .int .i64 x13, .int .i64 x14, .int .i64 x15, .int .i64 8] hlen.out (Hc.out _ _) hfit.out hone.out hnew.out ?_)
  refine bodyPost_ret (results_cell_row rfl _ _ w.heap.size 77 #[.int .i64 x0, .int .i64 x1, .int .i64 x2, .int .i64 x3, .int .i64 x4, .int .i64 x5, .int .i64 x6, .int .i64 x7, .int .i64 x8, .int .i64 x9, .int .i64 x10, .int .i64 x11, .int .i64 x12, .int .i64 x13, .int .i64 x14, .int .i64 x15, .int .i64 8] (0, 0) _ rfl (heap_alloc2_old _ _ _) Try.underlying77 rfl hs.out) rfl ⟨rfl, ?_⟩
  exact (Kp.alloc w _).trans (Kp.alloc _ _)

set_option maxRecDepth 100000 in
set_option maxHeartbeats 2000000 in
theorem box_any (l b r t : Int)  (w : World) :
    Calls Try.prog 40 #[.int .i64 l, .int .i64 b, .int .i64 r, .int .i64 t] w fun e w' => e = .returned (.agg #[.int .i64 (l), .int .i64 (b), .int .i64 (r), .int .i64 (b), .int .i64 (r), .int .i64 (t), .int .i64 (l), .int .i64 (t), .int .i64 0, .int .i64 0, .int .i64 0, .int .i64 0, .int .i64 0, .int .i64 0, .int .i64 0, .int .i64 0, .int .i64 4]) ∧ Kp w w' := by
  have hs := Lib.hid Try.sizeS
  go_enter Try.func40, Try.ntmps40
  go_wp2_with (first
    | (go_at_call 45; refine (polygon4 (w.heap.size + 1) (l) (b) (r) (b) (r) (t) (l) (t) _ (by simp) (heap_alloc2_new _ _ _)).mono ?_; rintro e w' ⟨rfl, hk⟩; have Hs : Hid (w'.heap[w.heap.size]? = some (.cells #[.int .i64 0, .int .i64 0, .int .i64 0, .int .i64 0, .int .i64 0, .int .i64 0, .int .i64 0, .int .i64 0, .int .i64 0, .int .i64 0, .int .i64 0, .int .i64 0, .int .i64 0, .int .i64 0, .int .i64 0, .int .i64 0, .int .i64 0] 77 (0, 0))) := Lib.hid ((hk.heap (by simp only [World.size_alloc]; omega)).trans (heap_alloc2_old _ _ _)); have Hk := Lib.hid hk; clear hk)
    | (refine wpList_store_at rfl 77 (.tmp 8) (.tmp 22) rfl w.heap.size #[.int .i64 (l), .int .i64 (b), .int .i64 (r), .int .i64 (b), .int .i64 (r), .int .i64 (t), .int .i64 (l), .int .i64 (t), .int .i64 0, .int .i64 0, .int .i64 0, .int .i64 0, .int .i64 0, .int .i64 0, .int .i64 0, .int .i64 0, .int .i64 4] #[.int .i64 0, .int .i64 0, .int .i64 0, .int .i64 0, .int .i64 0, .int .i64 0, .int .i64 0, .int .i64 0, .int .i64 0, .int .i64 0, .int .i64 0, .int .i64 0, .int .i64 0, .int .i64 0, .int .i64 0, .int .i64 0, .int .i64 0] 77 rfl rfl Hs.out hs.out rfl rfl ?_))
  refine bodyPost_ret (results_cell_row rfl _ _ w.heap.size 77 #[.int .i64 (l), .int .i64 (b), .int .i64 (r), .int .i64 (b), .int .i64 (r), .int .i64 (t), .int .i64 (l), .int .i64 (t), .int .i64 0, .int .i64 0, .int .i64 0, .int .i64 0, .int .i64 0, .int .i64 0, .int .i64 0, .int .i64 0, .int .i64 4] (0, 0) _ rfl (setRow_heap _ _ _ _ _ _ Hs.out) Try.underlying77 rfl hs.out) rfl ⟨rfl, ?_⟩
  exact (((Kp.alloc w _).trans (Kp.alloc _ _)).trans Hk.out).setRow (Nat.le_refl _) _

set_option maxRecDepth 100000 in
set_option maxHeartbeats 2000000 in
theorem stroke_any (x1 y1 x2 y2 u : Int) (hy1 : -1000 ≤ y1 ∧ y1 ≤ 1000) (hy2 : -1000 ≤ y2 ∧ y2 ≤ 1000) (hu : -1000 ≤ u ∧ u ≤ 1000) (w : World) :
    Calls Try.prog 41 #[.int .i64 x1, .int .i64 y1, .int .i64 x2, .int .i64 y2, .int .i64 u] w fun e w' => e = .returned (.agg #[.int .i64 (x1), .int .i64 (y1), .int .i64 (x2), .int .i64 (y2), .int .i64 (x2), .int .i64 (y2 + u), .int .i64 (x1), .int .i64 (y1 + u), .int .i64 0, .int .i64 0, .int .i64 0, .int .i64 0, .int .i64 0, .int .i64 0, .int .i64 0, .int .i64 0, .int .i64 4]) ∧ Kp w w' := by
  have hs := Lib.hid Try.sizeS
  go_enter Try.func41, Try.ntmps41
  go_wp2_with (first
    | (go_at_call 45; refine (polygon4 (w.heap.size + 1) (x1) (y1) (x2) (y2) (x2) (y2 + u) (x1) (y1 + u) _ (by simp) (heap_alloc2_new _ _ _)).mono ?_; rintro e w' ⟨rfl, hk⟩; have Hs : Hid (w'.heap[w.heap.size]? = some (.cells #[.int .i64 0, .int .i64 0, .int .i64 0, .int .i64 0, .int .i64 0, .int .i64 0, .int .i64 0, .int .i64 0, .int .i64 0, .int .i64 0, .int .i64 0, .int .i64 0, .int .i64 0, .int .i64 0, .int .i64 0, .int .i64 0, .int .i64 0] 77 (0, 0))) := Lib.hid ((hk.heap (by simp only [World.size_alloc]; omega)).trans (heap_alloc2_old _ _ _)); have Hk := Lib.hid hk; clear hk)
    | (refine wpList_store_at rfl 77 (.tmp 10) (.tmp 28) rfl w.heap.size #[.int .i64 (x1), .int .i64 (y1), .int .i64 (x2), .int .i64 (y2), .int .i64 (x2), .int .i64 (y2 + u), .int .i64 (x1), .int .i64 (y1 + u), .int .i64 0, .int .i64 0, .int .i64 0, .int .i64 0, .int .i64 0, .int .i64 0, .int .i64 0, .int .i64 0, .int .i64 4] #[.int .i64 0, .int .i64 0, .int .i64 0, .int .i64 0, .int .i64 0, .int .i64 0, .int .i64 0, .int .i64 0, .int .i64 0, .int .i64 0, .int .i64 0, .int .i64 0, .int .i64 0, .int .i64 0, .int .i64 0, .int .i64 0, .int .i64 0] 77 rfl rfl Hs.out hs.out rfl rfl ?_))
  refine bodyPost_ret (results_cell_row rfl _ _ w.heap.size 77 #[.int .i64 (x1), .int .i64 (y1), .int .i64 (x2), .int .i64 (y2), .int .i64 (x2), .int .i64 (y2 + u), .int .i64 (x1), .int .i64 (y1 + u), .int .i64 0, .int .i64 0, .int .i64 0, .int .i64 0, .int .i64 0, .int .i64 0, .int .i64 0, .int .i64 0, .int .i64 4] (0, 0) _ rfl (setRow_heap _ _ _ _ _ _ Hs.out) Try.underlying77 rfl hs.out) rfl ⟨rfl, ?_⟩
  exact (((Kp.alloc w _).trans (Kp.alloc _ _)).trans Hk.out).setRow (Nat.le_refl _) _

set_option maxRecDepth 100000 in
set_option maxHeartbeats 2000000 in
theorem octagon_any (l b r t : Int) (hl : -1000 ≤ l ∧ l ≤ 1000) (hb : -1000 ≤ b ∧ b ≤ 1000) (hr : -1000 ≤ r ∧ r ≤ 1000) (ht : -1000 ≤ t ∧ t ≤ 1000) (hlr : l ≤ r) (hbt : b ≤ t) (w : World) :
    Calls Try.prog 39 #[.int .i64 l, .int .i64 b, .int .i64 r, .int .i64 t] w fun e w' => e = .returned (.agg #[.int .i64 (l + (r - l) / 4), .int .i64 (b), .int .i64 (r - (r - l) / 4), .int .i64 (b), .int .i64 (r), .int .i64 (b + (t - b) / 4), .int .i64 (r), .int .i64 (t - (t - b) / 4), .int .i64 (r - (r - l) / 4), .int .i64 (t), .int .i64 (l + (r - l) / 4), .int .i64 (t), .int .i64 (l), .int .i64 (t - (t - b) / 4), .int .i64 (l), .int .i64 (b + (t - b) / 4), .int .i64 8]) ∧ Kp w w' := by
  have hs := Lib.hid Try.sizeS
  go_enter Try.func39, Try.ntmps39
  go_wp2_with (first
    | (go_at_call 45; refine (polygon8 (w.heap.size + 1) (l + (r - l) / 4) (b) (r - (r - l) / 4) (b) (r) (b + (t - b) / 4) (r) (t - (t - b) / 4) (r - (r - l) / 4) (t) (l + (r - l) / 4) (t) (l) (t - (t - b) / 4) (l) (b + (t - b) / 4) _ (by simp) (heap_alloc2_new _ _ _)).mono ?_; rintro e w' ⟨rfl, hk⟩; have Hs : Hid (w'.heap[w.heap.size]? = some (.cells #[.int .i64 0, .int .i64 0, .int .i64 0, .int .i64 0, .int .i64 0, .int .i64 0, .int .i64 0, .int .i64 0, .int .i64 0, .int .i64 0, .int .i64 0, .int .i64 0, .int .i64 0, .int .i64 0, .int .i64 0, .int .i64 0, .int .i64 0] 77 (0, 0))) := Lib.hid ((hk.heap (by simp only [World.size_alloc]; omega)).trans (heap_alloc2_old _ _ _)); have Hk := Lib.hid hk; clear hk)
    | (refine wpList_store_at rfl 77 (.tmp 8) (.tmp 60) rfl w.heap.size #[.int .i64 (l + (r - l) / 4), .int .i64 (b), .int .i64 (r - (r - l) / 4), .int .i64 (b), .int .i64 (r), .int .i64 (b + (t - b) / 4), .int .i64 (r), .int .i64 (t - (t - b) / 4), .int .i64 (r - (r - l) / 4), .int .i64 (t), .int .i64 (l + (r - l) / 4), .int .i64 (t), .int .i64 (l), .int .i64 (t - (t - b) / 4), .int .i64 (l), .int .i64 (b + (t - b) / 4), .int .i64 8] #[.int .i64 0, .int .i64 0, .int .i64 0, .int .i64 0, .int .i64 0, .int .i64 0, .int .i64 0, .int .i64 0, .int .i64 0, .int .i64 0, .int .i64 0, .int .i64 0, .int .i64 0, .int .i64 0, .int .i64 0, .int .i64 0, .int .i64 0] 77 rfl rfl Hs.out hs.out rfl rfl ?_))
  refine bodyPost_ret (results_cell_row rfl _ _ w.heap.size 77 #[.int .i64 (l + (r - l) / 4), .int .i64 (b), .int .i64 (r - (r - l) / 4), .int .i64 (b), .int .i64 (r), .int .i64 (b + (t - b) / 4), .int .i64 (r), .int .i64 (t - (t - b) / 4), .int .i64 (r - (r - l) / 4), .int .i64 (t), .int .i64 (l + (r - l) / 4), .int .i64 (t), .int .i64 (l), .int .i64 (t - (t - b) / 4), .int .i64 (l), .int .i64 (b + (t - b) / 4), .int .i64 8] (0, 0) _ rfl (setRow_heap _ _ _ _ _ _ Hs.out) Try.underlying77 rfl hs.out) rfl ⟨rfl, ?_⟩
  exact (((Kp.alloc w _).trans (Kp.alloc _ _)).trans Hk.out).setRow (Nat.le_refl _) _

end Go.Proofs.Ytejmliomagnjfaa
