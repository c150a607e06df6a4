/- The directions of stems: contracts of stem.direction, Up and of the references most, least, up. -/
import Derived.Test.YtdndehlhodigoaaInts
namespace Go.Proofs.Ytdndehlhodigoaa
open Go Go.RowKit

theorem ret_bool {a b : Bool} (h : a = b) : Ending.returned (.bool a) = .returned (.bool b) := by rw [h]

def mostG (l : List Int) : Int := if l = [] then 0 else clamp (mx l)
def leastG (l : List Int) : Int := if l = [] then 0 else clamp (mn l)
def dirG (l : List Int) (s vo vs : Int) : Bool :=
  if s = 1 then true else if s = 2 then false else if vs = 2 then decide (vo = 0) else decide (mostG l + leastG l < 0)
theorem clamp_le (x : Int) : -200 ≤ clamp x ∧ clamp x ≤ 200 := by unfold clamp; omega
theorem clamp_max (x y : Int) : clamp (max x y) = max (clamp x) (clamp y) := by unfold clamp; omega
theorem clamp_min (x y : Int) : clamp (min x y) = min (clamp x) (clamp y) := by unfold clamp; omega
theorem clamp_cases (x : Int) : (x < -200 ∧ clamp x = -200) ∨ (¬ x < -200 ∧ ¬ 200 < x ∧ clamp x = x) ∨ (¬ x < -200 ∧ 200 < x ∧ clamp x = 200) := by unfold clamp; omega
theorem clamp_eq (x : Int) : min (max x (-200)) 200 = clamp x := by unfold clamp; omega

def moTo (l : List Int) (k : Nat) : Int := if k = 0 then 0 else clamp (mxTo l k)
def leTo (l : List Int) (k : Nat) : Int := if k = 0 then 0 else clamp (mnTo l k)
theorem moTo_succ (l : List Int) (k : Nat) (x : Int) (h : l[k]? = some x) : moTo l (k + 1) = if k = 0 ∨ moTo l k < clamp x then clamp x else moTo l k := by
  unfold moTo
  rw [if_neg (by omega), mxTo_succ l k x h]
  by_cases h0 : k = 0
  · subst h0
    have := mxTo_one l x h
    rw [mxTo_succ l 0 x h] at this
    simp [this]
  · rw [if_neg h0, clamp_max]
    simp only [h0, false_or]
    split <;> omega
theorem leTo_succ (l : List Int) (k : Nat) (x : Int) (h : l[k]? = some x) : leTo l (k + 1) = if k = 0 ∨ clamp x < leTo l k then clamp x else leTo l k := by
  unfold leTo
  rw [if_neg (by omega), mnTo_succ l k x h]
  by_cases h0 : k = 0
  · subst h0
    have := mnTo_one l x h
    rw [mnTo_succ l 0 x h] at this
    simp [this]
  · rw [if_neg h0, clamp_min]
    simp only [h0, false_or]
    split <;> omega
theorem moTo_len (l : List Int) : moTo l l.length = mostG l := by
  unfold moTo mostG mx
  cases l <;> simp
theorem leTo_len (l : List Int) : leTo l l.length = leastG l := by
  unfold leTo leastG mn
  cases l <;> simp

set_option maxHeartbeats 400000 in
theorem most_any (a : Option Addr) (l : List Int) (cap : Nat) (w : World) (h : IsInts w a l) (hm : l.length ≤ 1000) :
    Calls Try.prog 27 #[.slice a l.length cap] w fun e w' => e = .returned (.int .i64 (mostG l)) ∧ w = w' := by
  have Hg := Lib.hid (moTo_len l)
  rcases h with rfl | ⟨b, off, rfl, hc⟩
  · have hz : (([] : List Int).length) = 0 := rfl
    rw [hz]
    go_enter Try.func27, Try.ntmps27
    go_wp2
    go_loop [3, 4, 5] (fun m i _ => i = .int .i64 0 ∧ m = .int .i64 0) (fun _ _ _ => 0)
    case atStart => exact ⟨rfl, rfl⟩
    case round =>
      obtain ⟨rfl, rfl⟩ := hrel
      go_wp2
      go_ret
      exact ⟨ret_int (by simp [mostG]), rfl⟩
  have Hc := Lib.hid hc
  obtain ⟨n, hn⟩ : ∃ n, l.length = n := ⟨_, rfl⟩
  have Hn := Lib.hid hn
  rw [hn] at hm ⊢
  clear hc hn
  go_enter Try.func27, Try.ntmps27
  go_wp2
  go_loop [3, 4, 5] (fun m i _ => ∃ k : Nat, k ≤ n ∧ i = .int .i64 k ∧ m = .int .i64 (moTo l k)) (fun _ i _ => n - (intOf i).toNat)
  case atStart => exact ⟨0, by omega, rfl, rfl⟩
  case round =>
    obtain ⟨k, hk, rfl, rfl⟩ := hrel
    by_cases hl : k < n
    · obtain ⟨x, hx⟩ : ∃ x, l[k]? = some x := ⟨l[k]'(by rw [Hn.out]; exact hl), by simp⟩
      have hcx := Hc.out k x hx
      have hs := Lib.hid (moTo_succ l k x hx)
      clear hx
      rcases clamp_cases x with ⟨h1, hcl⟩ | ⟨h1, h2, hcl⟩ | ⟨h1, h2, hcl⟩ <;> go_wp2
      all_goals
        go_round
        case rel => exact ⟨k + 1, by omega, by go_num, by rw [hs.out, hcl]; congr 1; (try simp only [beq_iff_eq] at *); split <;> omega⟩
        case measure => simp [intOf]; omega
    · obtain rfl : k = n := by omega
      go_wp2
      go_ret
      exact ⟨ret_int (by rw [← Hg.out, Hn.out]), rfl⟩

set_option maxHeartbeats 400000 in
theorem least_any (a : Option Addr) (l : List Int) (cap : Nat) (w : World) (h : IsInts w a l) (hm : l.length ≤ 1000) :
    Calls Try.prog 28 #[.slice a l.length cap] w fun e w' => e = .returned (.int .i64 (leastG l)) ∧ w = w' := by
  have Hg := Lib.hid (leTo_len l)
  rcases h with rfl | ⟨b, off, rfl, hc⟩
  · have hz : (([] : List Int).length) = 0 := rfl
    rw [hz]
    go_enter Try.func28, Try.ntmps28
    go_wp2
    go_loop [3, 4, 5] (fun m i _ => i = .int .i64 0 ∧ m = .int .i64 0) (fun _ _ _ => 0)
    case atStart => exact ⟨rfl, rfl⟩
    case round =>
      obtain ⟨rfl, rfl⟩ := hrel
      go_wp2
      go_ret
      exact ⟨ret_int (by simp [leastG]), rfl⟩
  have Hc := Lib.hid hc
  obtain ⟨n, hn⟩ : ∃ n, l.length = n := ⟨_, rfl⟩
  have Hn := Lib.hid hn
  rw [hn] at hm ⊢
  clear hc hn
  go_enter Try.func28, Try.ntmps28
  go_wp2
  go_loop [3, 4, 5] (fun m i _ => ∃ k : Nat, k ≤ n ∧ i = .int .i64 k ∧ m = .int .i64 (leTo l k)) (fun _ i _ => n - (intOf i).toNat)
  case atStart => exact ⟨0, by omega, rfl, rfl⟩
  case round =>
    obtain ⟨k, hk, rfl, rfl⟩ := hrel
    by_cases hl : k < n
    · obtain ⟨x, hx⟩ : ∃ x, l[k]? = some x := ⟨l[k]'(by rw [Hn.out]; exact hl), by simp⟩
      have hcx := Hc.out k x hx
      have hs := Lib.hid (leTo_succ l k x hx)
      clear hx
      rcases clamp_cases x with ⟨h1, hcl⟩ | ⟨h1, h2, hcl⟩ | ⟨h1, h2, hcl⟩ <;> go_wp2
      all_goals
        go_round
        case rel => exact ⟨k + 1, by omega, by go_num, by rw [hs.out, hcl]; congr 1; (try simp only [beq_iff_eq] at *); split <;> omega⟩
        case measure => simp [intOf]; omega
    · obtain rfl : k = n := by omega
      go_wp2
      go_ret
      exact ⟨ret_int (by rw [← Hg.out, Hn.out]), rfl⟩

theorem dir_cases (s vs : Int) : (s = 1) ∨ (s = 2) ∨ ((¬ s = 1 ∧ ¬ s = 2) ∧ vs = 2) ∨ ((¬ s = 1 ∧ ¬ s = 2) ∧ ¬ vs = 2) := by omega
theorem direction_any (a : Option Addr) (l : List Int) (cap : Nat) (s vo vs : Int) (w : World) (h : IsInts w a l) (hm : l.length ≤ 1000) :
    Calls Try.prog 59 #[.slice a l.length cap, .int .i64 s, .int .i64 vo, .int .i64 vs] w fun e w' => e = .returned (.bool (dirG l s vo vs)) ∧ w = w' := by
  have hc1 := clamp_le (mx l)
  have hc2 := clamp_le (mn l)
  by_cases hl : l = []
  · subst hl
    have hz : (([] : List Int).length) = 0 := rfl
    rw [hz]
    rcases dir_cases s vs with rfl | rfl | ⟨⟨h1, h2⟩, rfl⟩ | ⟨⟨h1, h2⟩, h3⟩ <;>
      (go_enter Try.func59, Try.ntmps59; go_wp2)
    all_goals
      go_ret
      refine ⟨ret_bool ?_, rfl⟩
      rw [Bool.eq_iff_iff]; first | (simp [dirG, mostG, leastG, *]; done) | (rename_i hh; simp [*] at hh; done)
  · have hne : 0 < l.length := by cases l <;> simp_all
    have hne' : ¬ ((l.length : Int) = 0) := by omega
    have Hl := Lib.hid hl
    clear hl
    rcases dir_cases s vs with rfl | rfl | ⟨⟨h1, h2⟩, rfl⟩ | ⟨⟨h1, h2⟩, h3⟩ <;>
      (go_enter Try.func59, Try.ntmps59
       go_wp2_with (first
      | (go_at_call 61; refine (max_any _ l _ _ h hne hm).mono ?_; rintro e w' ⟨rfl, rfl⟩)
      | (go_at_call 62; refine (min_any _ l _ _ h hne hm).mono ?_; rintro e w' ⟨rfl, rfl⟩)
      | (go_at_call 60; refine (permitted_any _ _).mono ?_; rintro e w' ⟨rfl, rfl⟩)))
    all_goals
      go_ret
      refine ⟨ret_bool ?_, rfl⟩
      rw [Bool.eq_iff_iff]; first | (simp [dirG, mostG, leastG, Hl.out, *]; done) | (rename_i hh; simp [*] at hh; done)

theorem Up_any (a : Option Addr) (l : List Int) (cap : Nat) (s vo vs : Int) (w : World) (h : IsInts w a l) (hm : l.length ≤ 1000) :
    Calls Try.prog 20 #[.slice a l.length cap, .int .i64 s, .int .i64 vo, .int .i64 vs] w fun e w' => e = .returned (.bool (dirG l s vo vs)) ∧ w = w' := by
  go_enter Try.func20, Try.ntmps20
  go_wp2_with (go_at_call 59; refine (direction_any _ l _ _ _ _ _ h hm).mono ?_; rintro e w' ⟨rfl, rfl⟩)
  go_ret
  exact ⟨ret_bool rfl, rfl⟩

theorem up_any (a : Option Addr) (l : List Int) (cap : Nat) (s vo vs : Int) (w : World) (h : IsInts w a l) (hm : l.length ≤ 1000) :
    Calls Try.prog 21 #[.slice a l.length cap, .int .i64 s, .int .i64 vo, .int .i64 vs] w fun e w' => e = .returned (.bool (dirG l s vo vs)) ∧ w = w' := by
  have hc1 : -200 ≤ mostG l ∧ mostG l ≤ 200 := by have := clamp_le (mx l); unfold mostG; split <;> omega
  have hc2 : -200 ≤ leastG l ∧ leastG l ≤ 200 := by have := clamp_le (mn l); unfold leastG; split <;> omega
  rcases dir_cases s vs with rfl | rfl | ⟨⟨h1, h2⟩, rfl⟩ | ⟨⟨h1, h2⟩, h3⟩ <;>
    (go_enter Try.func21, Try.ntmps21
     go_wp2_with (first
      | (go_at_call 27; refine (most_any _ l _ _ h hm).mono ?_; rintro e w' ⟨rfl, rfl⟩)
      | (go_at_call 28; refine (least_any _ l _ _ h hm).mono ?_; rintro e w' ⟨rfl, rfl⟩)))
  all_goals
    go_ret
    refine ⟨ret_bool ?_, rfl⟩
    rw [Bool.eq_iff_iff]; first | (simp [dirG, *]; done) | (rename_i hh; simp [*] at hh; done)
end Go.Proofs.Ytdndehlhodigoaa
