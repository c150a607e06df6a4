/- slices.Index and slices.Contains over bytes; glyph.Text at the text 'la'. -/
import Derived.Lib.SlBytesConst
import Derived.Test.YtejmliomagnjfaaBoxIn
namespace Go.Proofs.Ytejmliomagnjfaa
open Go Go.RowKit Go.Shelf

theorem retInt {k : IntKind} {a b : Int} (h : a = b) : Ending.returned (.int k a) = .returned (.int k b) := by rw [h]
theorem retBool {a b : Bool} (h : a = b) : Ending.returned (.bool a) = .returned (.bool b) := by rw [h]

/-- An element of an array value, the element of one cell. -/
theorem run_index_one {P : Program} (w : World) (T e : TypeId) (n : Nat) (cs : Array Value) (k : IntKind) (i : Int) (v : Value) (hu : P.underlying T = some (.array n e)) (hs : (P.info? e).map (·.size) = some 1) (d : TypeDesc) (hd : P.underlying e = some d)
    (hag : (match d with | .struct _ | .array _ _ => true | _ => false) = false) (h0 : 0 ≤ i) (hn : i < (n : Int)) (hv : cs[i.toNat]? = some v) : (Instr.index T (.agg cs) (.int k i)).run P w = .ok v w := by
  cases hi : P.info? e with
  | none => simp [hi] at hs
  | some inf =>
    have hz' : inf.size = 1 := by simpa [hi] using hs
    cases d <;> first | (simp at hag; done) | simp [Instr.index, asIntOf, run_underlying hu, run_underlying hd, h0, hn, sizeOf, typeInfo, hi, hz', part, isAgg, hv]

/-- Where a number stands first in a list, or -1. -/
def idxI (l : List Int) (x : Int) : Int := if x ∈ l then (l.idxOf x : Int) else -1
theorem idxOf_at : ∀ (l : List Int) (k : Nat) (x : Int), l[k]? = some x → x ∉ l.take k → l.idxOf x = k
  | [], k, x, h, _ => by simp at h
  | y :: l, 0, x, h, _ => by simp at h; subst h; simp
  | y :: l, k + 1, x, h, hn => by
    simp only [List.take_succ_cons, List.mem_cons, not_or] at hn
    have hne : ¬ y = x := fun e => hn.1 e.symm
    have ih := idxOf_at l k x (by simpa using h) hn.2
    rw [List.idxOf_cons, ih]
    have hb : (y == x) = false := by simpa using hne
    rw [hb]
    rfl
theorem idxI_hit {l : List Int} {k : Nat} {x : Int} (h : l[k]? = some x) (hn : x ∉ l.take k) : idxI l x = k := by
  unfold idxI
  rw [if_pos (List.mem_of_getElem? h), idxOf_at l k x h hn]
theorem idxI_none {l : List Int} {x : Int} (hn : x ∉ l.take l.length) : idxI l x = -1 := by
  rw [List.take_length] at hn
  unfold idxI
  rw [if_neg hn]
theorem notin_step {l : List Int} {k : Nat} {x y : Int} (hn : x ∉ l.take k) (h : l[k]? = some y) (hne : ¬ x = y) : x ∉ l.take (k + 1) := by
  rw [List.take_add_one, h]
  simp [hn, hne]
theorem idxI_lt (l : List Int) (x : Int) : -1 ≤ idxI l x ∧ idxI l x < l.length := by
  unfold idxI
  split
  · rename_i h; have := List.idxOf_lt_length_iff.2 h; omega
  · omega

/-- Cells of bytes from a block's head on. -/
def IsU8s (w : World) (b : Nat) (l : List Int) : Prop := ∀ (j : Nat) (x : Int), l[j]? = some x → w.cell? ⟨b, j, none⟩ = some (.int .u8 x)
theorem IsU8s.kp {w w' : World} {b : Nat} {l : List Int} (h : IsU8s w b l) (hk : Kp w w') : IsU8s w' b l := fun j x hx => (Below.cell hk (p := ⟨b, j, none⟩) (World.block_lt_of_cell? _ _ (h j x hx))).trans (h j x hx)

set_option maxHeartbeats 400000 in
theorem IndexB_any (b : Nat) (l : List Int) (cap : Nat) (x : Int) (w : World) (h : IsU8s w b l) (hm : l.length ≤ 1000) :
    Calls Try.prog 32 #[.slice (some ⟨b, 0, none⟩) l.length cap, .int .u8 x] w fun e w' => e = .returned (.int .i64 (idxI l x)) ∧ w = w' := by
  have Hc := Lib.hid h
  obtain ⟨n, hn⟩ : ∃ n, l.length = n := ⟨_, rfl⟩
  have Hn := Lib.hid hn
  rw [hn] at hm ⊢
  clear h hn
  go_enter Try.func32, Try.ntmps32
  go_wp2
  go_loop [5, 8] (fun _ i => ∃ k : Nat, k ≤ n ∧ i = .int .i64 k ∧ Hid (x ∉ l.take k)) (fun _ i => n - (intOf i).toNat)
  case atStart => exact ⟨0, Nat.zero_le _, rfl, Lib.hid (by simp)⟩
  case round =>
    obtain ⟨k, hk, rfl, hf⟩ := hrel
    by_cases hl : k < n
    · obtain ⟨y, hy⟩ : ∃ y, l[k]? = some y := ⟨l[k]'(by rw [Hn.out]; exact hl), by simp⟩
      have hcy := Hc.out k y hy
      have Hy := Lib.hid hy
      clear hy
      by_cases hxy : x = y
      · subst hxy
        go_wp2
        go_ret
        exact ⟨retInt (idxI_hit Hy.out hf.out).symm, rfl⟩
      · go_wp2
        go_round
        case rel => exact ⟨k + 1, by omega, by go_num, Lib.hid (notin_step hf.out Hy.out hxy)⟩
        case measure => simp [intOf]; omega
    · obtain rfl : k = n := by omega
      go_wp2
      go_ret
      exact ⟨retInt (idxI_none (by rw [Hn.out]; exact hf.out)).symm, rfl⟩

theorem ContainsB_any (b : Nat) (l : List Int) (cap : Nat) (x : Int) (w : World) (h : IsU8s w b l) (hm : l.length ≤ 1000) :
    Calls Try.prog 43 #[.slice (some ⟨b, 0, none⟩) l.length cap, .int .u8 x] w fun e w' => e = .returned (.bool (decide (0 ≤ idxI l x))) ∧ w = w' := by
  have hc := IndexB_any b l cap x w h hm
  obtain ⟨n, hn⟩ : ∃ n, l.length = n := ⟨_, rfl⟩
  obtain ⟨r, hr⟩ : ∃ r, idxI l x = r := ⟨_, rfl⟩
  rw [hn, hr] at hc
  rw [hn, hr]
  clear h hm hn hr
  go_enter Try.func43, Try.ntmps43
  go_wp2_with (go_at_call 32; refine hc.mono ?_; rintro e w' ⟨rfl, rfl⟩)
  go_ret
  exact ⟨retBool (by simp), rfl⟩

def narrow : List Int := [32, 33, 39, 40, 41, 44, 46, 58, 59, 73, 105, 106, 108, 124]
theorem narrow_l : decide (0 ≤ idxI narrow 108) = true := by decide +kernel
theorem narrow_a : decide (0 ≤ idxI narrow 97) = false := by decide +kernel
theorem u8s_mark (w : World) (l : List Int) (t : TypeId) (fr : Nat × Nat) : IsU8s (w.alloc (.cells (l.map fun x => Value.int .u8 x).toArray t fr)) w.heap.size l := by
  intro j x hx
  rw [World.cell?_alloc_mark]
  simp [hx]
theorem narrow_any (x : Int) (w : World) (fr : Nat × Nat) : Calls Try.prog 43 #[.slice (some ⟨w.heap.size, 0, none⟩) 14 14, .int .u8 x] (w.alloc (.cells #[.int .u8 32, .int .u8 33, .int .u8 39, .int .u8 40, .int .u8 41, .int .u8 44, .int .u8 46, .int .u8 58, .int .u8 59, .int .u8 73, .int .u8 105, .int .u8 106, .int .u8 108, .int .u8 124] 5 fr)) fun e w' => e = .returned (.bool (decide (0 ≤ idxI narrow x))) ∧ (w.alloc (.cells #[.int .u8 32, .int .u8 33, .int .u8 39, .int .u8 40, .int .u8 41, .int .u8 44, .int .u8 46, .int .u8 58, .int .u8 59, .int .u8 73, .int .u8 105, .int .u8 106, .int .u8 108, .int .u8 124] 5 fr)) = w' :=
  ContainsB_any w.heap.size narrow 14 x _ (u8s_mark w narrow 5 fr) (by decide)

set_option maxHeartbeats 1000000 in
theorem Text_la (w : World) : Calls Try.prog 31 #[.string ⟨#[108, 97]⟩] w fun e w' => e = .returned (.int .i64 60) ∧ Kp w w' := by
  have kc := fun (w : World) (C : Array Value) (n c : Nat) => Lib.run_convert_bytes_const (P := Try.prog) w 67 5 C n c Try.underlying67 Try.underlying5
  go_enter Try.func31, Try.ntmps31
  go_wp2
  go_loopw [3, 4, 5, 8] (fun n _ _ i wr => Kp w wr ∧ ((i = .int .i64 0 ∧ n = .int .i64 0) ∨ (i = .int .i64 1 ∧ n = .int .i64 20) ∨ (i = .int .i64 2 ∧ n = .int .i64 60))) (fun _ _ _ i _ => 2 - (intOf i).toNat)
  case atStart => exact ⟨Kp.refl _, .inl ⟨rfl, rfl⟩⟩
  case round =>
    obtain ⟨hk, ⟨rfl, rfl⟩ | ⟨rfl, rfl⟩ | ⟨rfl, rfl⟩⟩ := hrel
    · have hn := narrow_any 108 wr (14, 15)
      rw [narrow_l] at hn
      have Hk := Lib.hid hk
      clear hk
      go_wp2_with (go_at_call 43; refine hn.mono ?_; rintro e w' ⟨rfl, rfl⟩)
      go_roundw
      case rel => exact ⟨Hk.out.trans (Kp.alloc _ _), .inr (.inl ⟨by go_num, by go_num⟩)⟩
      case measure => simp [intOf]
    · have hn := narrow_any 97 wr (14, 15)
      rw [narrow_a] at hn
      have Hk := Lib.hid hk
      clear hk
      go_wp2_with (go_at_call 43; refine hn.mono ?_; rintro e w' ⟨rfl, rfl⟩)
      go_roundw
      case rel => exact ⟨Hk.out.trans (Kp.alloc _ _), .inr (.inr ⟨by go_num, by go_num⟩)⟩
      case measure => simp [intOf]
    · go_wp2
      go_ret
      exact ⟨rfl, hk⟩
end Go.Proofs.Ytejmliomagnjfaa
