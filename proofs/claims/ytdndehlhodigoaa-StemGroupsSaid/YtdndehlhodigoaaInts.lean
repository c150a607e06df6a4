/- Slices of integers that are only read: greatest, least, clamped; the references' loops. -/
import Derived.WalkKit
import Derived.WalkLawsBesides
import Derived.WalkSpells
import Derived.Lib.Hide
import Derived.Deep.QuietTactic
import Derived.BigQuiet
import Derived.Test.YtdndehlhodigoaaProg
namespace Go.Proofs.Ytdndehlhodigoaa
open Go Go.RowKit

/-- A slice that reads as these integers: none, or cells one behind the other. -/
def IsInts (w : World) (a : Option Addr) (l : List Int) : Prop :=
  l = [] ∨ ∃ b off, a = some ⟨b, off, none⟩ ∧ ∀ j x, l[j]? = some x → w.cell? ⟨b, off + j, none⟩ = some (.int .i64 x)

def clamp (x : Int) : Int := max (-200) (min 200 x)
def mxTo (l : List Int) (k : Nat) : Int := (l.take k).foldl max (l.headD 0)
def mnTo (l : List Int) (k : Nat) : Int := (l.take k).foldl min (l.headD 0)
def mx (l : List Int) : Int := mxTo l l.length
def mn (l : List Int) : Int := mnTo l l.length
theorem mxTo_succ (l : List Int) (k : Nat) (x : Int) (h : l[k]? = some x) : mxTo l (k + 1) = max (mxTo l k) x := by
  unfold mxTo; rw [List.take_add_one, h]; simp [List.foldl_append]
theorem mnTo_succ (l : List Int) (k : Nat) (x : Int) (h : l[k]? = some x) : mnTo l (k + 1) = min (mnTo l k) x := by
  unfold mnTo; rw [List.take_add_one, h]; simp [List.foldl_append]
theorem mxTo_one (l : List Int) (x : Int) (h : l[0]? = some x) : mxTo l 1 = x := by
  cases l with
  | nil => simp at h
  | cons y l => simp at h; subst h; simp [mxTo]
theorem mnTo_one (l : List Int) (x : Int) (h : l[0]? = some x) : mnTo l 1 = x := by
  cases l with
  | nil => simp at h
  | cons y l => simp at h; subst h; simp [mnTo]

theorem ret_int {k : IntKind} {a b : Int} (h : a = b) : Ending.returned (.int k a) = .returned (.int k b) := by rw [h]

theorem permitted_any (p : Int) (w : World) : Calls Try.prog 60 #[.int .i64 p] w fun e w' => e = .returned (.int .i64 (clamp p)) ∧ w = w' := by
  go_enter Try.func60, Try.ntmps60
  go_wp2
  all_goals
    go_ret
    exact ⟨ret_int (by unfold clamp; omega), rfl⟩

set_option maxHeartbeats 400000 in
theorem max_any (a : Option Addr) (l : List Int) (cap : Nat) (w : World) (h : IsInts w a l) (hne : 0 < l.length) (hm : l.length ≤ 1000) :
    Calls Try.prog 61 #[.slice a l.length cap] w fun e w' => e = .returned (.int .i64 (mx l)) ∧ w = w' := by
  rcases h with rfl | ⟨b, off, rfl, hc⟩
  · simp at hne
  obtain ⟨x0, hx0⟩ : ∃ x, l[0]? = some x := ⟨l[0], by simp [hne]⟩
  have hc0 : w.cell? ⟨b, off, none⟩ = some (.int .i64 x0) := by have := hc 0 x0 hx0; simpa using this
  have h1 := Lib.hid (mxTo_one l x0 hx0)
  have Hc := Lib.hid hc
  obtain ⟨n, hn⟩ : ∃ n, l.length = n := ⟨_, rfl⟩
  have Hn := Lib.hid hn
  rw [hn] at hne hm ⊢
  clear hc hn hx0
  have hlt : ¬ (n : Int) < 1 := by omega
  go_enter Try.func61, Try.ntmps61
  go_wp2
  go_loop [3, 4] (fun m i => ∃ k : Nat, 1 ≤ k ∧ k ≤ n ∧ i = .int .i64 k ∧ m = .int .i64 (mxTo l k)) (fun _ i => n - (intOf i).toNat)
  case atStart => exact ⟨1, Nat.le_refl _, by omega, rfl, by rw [h1.out]⟩
  case round =>
    obtain ⟨k, hk1, hk, rfl, rfl⟩ := hrel
    by_cases hl : k < n
    · obtain ⟨x, hx⟩ : ∃ x, l[k]? = some x := ⟨l[k]'(by rw [Hn.out]; exact hl), by simp⟩
      have hcx := Hc.out k x hx
      have hs := Lib.hid (mxTo_succ l k x hx)
      clear hx
      go_wp2
      all_goals
        go_round
        case rel => exact ⟨k + 1, by omega, by omega, by go_num, by rw [hs.out]; congr 1; omega⟩
        case measure => simp [intOf]; omega
    · obtain rfl : k = n := by omega
      go_wp2
      go_ret
      exact ⟨ret_int (by unfold mx; rw [Hn.out]), rfl⟩

set_option maxHeartbeats 400000 in
theorem min_any (a : Option Addr) (l : List Int) (cap : Nat) (w : World) (h : IsInts w a l) (hne : 0 < l.length) (hm : l.length ≤ 1000) :
    Calls Try.prog 62 #[.slice a l.length cap] w fun e w' => e = .returned (.int .i64 (mn l)) ∧ w = w' := by
  rcases h with rfl | ⟨b, off, rfl, hc⟩
  · simp at hne
  obtain ⟨x0, hx0⟩ : ∃ x, l[0]? = some x := ⟨l[0], by simp [hne]⟩
  have hc0 : w.cell? ⟨b, off, none⟩ = some (.int .i64 x0) := by have := hc 0 x0 hx0; simpa using this
  have h1 := Lib.hid (mnTo_one l x0 hx0)
  have Hc := Lib.hid hc
  obtain ⟨n, hn⟩ : ∃ n, l.length = n := ⟨_, rfl⟩
  have Hn := Lib.hid hn
  rw [hn] at hne hm ⊢
  clear hc hn hx0
  have hlt : ¬ (n : Int) < 1 := by omega
  go_enter Try.func62, Try.ntmps62
  go_wp2
  go_loop [3, 4] (fun m i => ∃ k : Nat, 1 ≤ k ∧ k ≤ n ∧ i = .int .i64 k ∧ m = .int .i64 (mnTo l k)) (fun _ i => n - (intOf i).toNat)
  case atStart => exact ⟨1, Nat.le_refl _, by omega, rfl, by rw [h1.out]⟩
  case round =>
    obtain ⟨k, hk1, hk, rfl, rfl⟩ := hrel
    by_cases hl : k < n
    · obtain ⟨x, hx⟩ : ∃ x, l[k]? = some x := ⟨l[k]'(by rw [Hn.out]; exact hl), by simp⟩
      have hcx := Hc.out k x hx
      have hs := Lib.hid (mnTo_succ l k x hx)
      clear hx
      go_wp2
      all_goals
        go_round
        case rel => exact ⟨k + 1, by omega, by omega, by go_num, by rw [hs.out]; congr 1; omega⟩
        case measure => simp [intOf]; omega
    · obtain rfl : k = n := by omega
      go_wp2
      go_ret
      exact ⟨ret_int (by unfold mn; rw [Hn.out]), rfl⟩
end Go.Proofs.Ytdndehlhodigoaa
