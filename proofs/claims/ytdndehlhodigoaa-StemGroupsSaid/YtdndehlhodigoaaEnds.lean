/- The ends of stems: contracts of stem.check, Ends, Head, the references permitted and ends; duration.Check, glyph.Rest. -/
import Derived.Test.YtdndehlhodigoaaStem
namespace Go.Proofs.Ytdndehlhodigoaa
open Go Go.RowKit

def okX (x : Int) : Bool := decide (clamp x = x)
def okL (l : List Int) : Bool := l.all okX
def okTo (l : List Int) (k : Nat) : Bool := (l.take k).all okX
theorem okTo_succ (l : List Int) (k : Nat) (x : Int) (h : l[k]? = some x) : okTo l (k + 1) = (okTo l k && okX x) := by
  unfold okTo; rw [List.take_add_one, h]; simp
theorem okTo_len (l : List Int) : okTo l l.length = okL l := by unfold okTo okL; rw [List.take_length]
theorem ok_bad (l : List Int) (k : Nat) (x : Int) (h : l[k]? = some x) (hx : ¬ clamp x = x) : okL l = false := by
  rw [Bool.eq_false_iff]
  intro ha
  have := List.all_eq_true.1 ha x (List.mem_of_getElem? h)
  simp [okX] at this
  exact hx this
def checkG (l : List Int) (fl : Int) : Int := if l = [] then 1 else if okL l = false then 2 else if fl < 0 ∨ 6 < fl then 2 else 0
theorem ok_bound (l : List Int) (hl : l ≠ []) (h : okL l = true) : clamp (mx l) = mx l ∧ clamp (mn l) = mn l := by
  have hx : ∀ (k : Nat) (x : Int), l[k]? = some x → clamp x = x := by
    intro k x hk
    have := List.all_eq_true.1 h x (List.mem_of_getElem? hk)
    simpa [okX] using this
  have hk : ∀ k : Nat, k < l.length → clamp (mxTo l (k + 1)) = mxTo l (k + 1) ∧ clamp (mnTo l (k + 1)) = mnTo l (k + 1) := by
    intro k
    induction k with
    | zero =>
      intro h0
      have e : l[0]? = some l[0] := by simp
      rw [mxTo_one l _ e, mnTo_one l _ e]
      exact ⟨hx 0 _ e, hx 0 _ e⟩
    | succ k ih =>
      intro h1
      have e : l[k + 1]? = some l[k + 1] := by simp
      have ⟨i1, i2⟩ := ih (by omega)
      rw [mxTo_succ l (k + 1) _ e, mnTo_succ l (k + 1) _ e, clamp_max, clamp_min, i1, i2, hx _ _ e]
      exact ⟨rfl, rfl⟩
  have hp : 0 < l.length := List.length_pos_iff.2 hl
  have := hk (l.length - 1) (by omega)
  rw [show l.length - 1 + 1 = l.length by omega] at this
  exact this

set_option maxHeartbeats 400000 in
theorem check_any (a : Option Addr) (l : List Int) (cap : Nat) (fl : Int) (w : World) (h : IsInts w a l) (hm : l.length ≤ 1000) :
    Calls Try.prog 64 #[.slice a l.length cap, .int .i64 fl] w fun e w' => e = .returned (.int .i64 (checkG l fl)) ∧ w = w' := by
  rcases h with rfl | ⟨b, off, rfl, hc⟩
  · have hz : (([] : List Int).length) = 0 := rfl
    rw [hz]
    go_enter Try.func64, Try.ntmps64
    go_wp2
    go_ret
    exact ⟨ret_int (by simp [checkG]), rfl⟩
  by_cases hl : l = []
  · subst hl
    have hz : (([] : List Int).length) = 0 := rfl
    rw [hz]
    clear hc
    go_enter Try.func64, Try.ntmps64
    go_wp2
    go_ret
    exact ⟨ret_int (by simp [checkG]), rfl⟩
  have Hc := Lib.hid hc
  have Hl := Lib.hid hl
  have Hg := Lib.hid (okTo_len l)
  have hp : 0 < l.length := List.length_pos_iff.2 hl
  obtain ⟨n, hn⟩ : ∃ n, l.length = n := ⟨_, rfl⟩
  have Hn := Lib.hid hn
  rw [hn] at hm hp ⊢
  clear hc hn hl
  have hne : ¬ ((n : Int) = 0) := by omega
  have hne2 : ((n : Int) == 0) = false := by simpa using hne
  go_enter Try.func64, Try.ntmps64
  go_wp2
  try rw [hne2]
  go_loop [4, 6, 12] (fun _ _ i => ∃ k : Nat, k ≤ n ∧ i = .int .i64 k ∧ okTo l k = true) (fun _ _ i => n - (intOf i).toNat)
  case atStart => exact ⟨0, by omega, rfl, rfl⟩
  case round =>
    obtain ⟨k, hk, rfl, hok⟩ := hrel
    have Hok := Lib.hid hok
    clear hok
    by_cases hlt : k < n
    · obtain ⟨x, hx⟩ : ∃ x, l[k]? = some x := ⟨l[k]'(by rw [Hn.out]; exact hlt), by simp⟩
      have hcx := Hc.out k x hx
      have Hx := Lib.hid hx
      clear hx
      by_cases hb : clamp x = x
      · have Hb := Lib.hid hb
        clear hb
        go_wp2_with (go_at_call 60; refine (permitted_any _ _).mono ?_; rw [Hb.out]; rintro e w' ⟨rfl, rfl⟩)
        all_goals
          go_round
          case rel => exact ⟨k + 1, by omega, by go_num, by rw [okTo_succ _ _ _ Hx.out, Hok.out]; simp [okX, Hb.out]⟩
          case measure => simp [intOf]; omega
      · have hb' : ¬ x = clamp x := fun e => hb e.symm
        have Hb := Lib.hid hb
        clear hb
        go_wp2_with (go_at_call 60; refine (permitted_any _ _).mono ?_; rintro e w' ⟨rfl, rfl⟩)
        all_goals
          go_ret
          exact ⟨ret_int (by simp [checkG, Hl.out, ok_bad l k x Hx.out Hb.out]), rfl⟩
    · obtain rfl : k = n := by omega
      have hgood : okL l = true := by rw [← Hg.out, Hn.out]; exact Hok.out
      have Hgood := Lib.hid hgood
      clear hgood
      by_cases hf : fl < 0
      · go_wp2
        all_goals
          go_ret
          exact ⟨ret_int (by simp [checkG, Hl.out, Hgood.out, hf]), rfl⟩
      by_cases hf2 : 6 < fl
      · go_wp2
        all_goals
          go_ret
          exact ⟨ret_int (by simp [checkG, Hl.out, Hgood.out, hf2]), rfl⟩
      · go_wp2
        all_goals
          go_ret
          exact ⟨ret_int (by simp [checkG, Hl.out, Hgood.out, hf, hf2]), rfl⟩

theorem permittedL_any (a : Option Addr) (l : List Int) (cap : Nat) (w : World) (h : IsInts w a l) (hm : l.length ≤ 1000) :
    Calls Try.prog 63 #[.slice a l.length cap] w fun e w' => e = .returned (.bool (okL l)) ∧ w = w' := by
  have Hg := Lib.hid (okTo_len l)
  rcases h with rfl | ⟨b, off, rfl, hc⟩
  · have hz : (([] : List Int).length) = 0 := rfl
    rw [hz]
    go_enter Try.func63, Try.ntmps63
    go_wp2
    go_loop [3] (fun i => i = .int .i64 0) (fun _ => 0)
    case atStart => rfl
    case round =>
      obtain rfl := hrel
      go_wp2
      go_ret
      exact ⟨ret_bool (by simp [okL]), rfl⟩
  have Hc := Lib.hid hc
  obtain ⟨n, hn⟩ : ∃ n, l.length = n := ⟨_, rfl⟩
  have Hn := Lib.hid hn
  rw [hn] at hm ⊢
  clear hc hn
  go_enter Try.func63, Try.ntmps63
  go_wp2
  go_loop [3] (fun i => ∃ k : Nat, k ≤ n ∧ i = .int .i64 k ∧ okTo l k = true) (fun i => n - (intOf i).toNat)
  case atStart => exact ⟨0, by omega, rfl, rfl⟩
  case round =>
    obtain ⟨k, hk, rfl, hok⟩ := hrel
    have Hok := Lib.hid hok
    clear hok
    by_cases hlt : k < n
    · obtain ⟨x, hx⟩ : ∃ x, l[k]? = some x := ⟨l[k]'(by rw [Hn.out]; exact hlt), by simp⟩
      have hcx := Hc.out k x hx
      have Hx := Lib.hid hx
      clear hx
      rcases clamp_cases x with ⟨h1, hcl⟩ | ⟨h1, h2, hcl⟩ | ⟨h1, h2, hcl⟩
      · have Hb : Hid (¬ clamp x = x) := Lib.hid (by rw [hcl]; omega)
        clear hcl
        go_wp2
        all_goals
          go_ret
          exact ⟨ret_bool (ok_bad l k x Hx.out Hb.out).symm, rfl⟩
      · have Hb := Lib.hid hcl
        clear hcl
        go_wp2
        all_goals
          go_round
          case rel => exact ⟨k + 1, by omega, by go_num, by rw [okTo_succ _ _ _ Hx.out, Hok.out]; simp [okX, Hb.out]⟩
          case measure => simp [intOf]; omega
      · have Hb : Hid (¬ clamp x = x) := Lib.hid (by rw [hcl]; omega)
        clear hcl
        go_wp2
        all_goals
          go_ret
          exact ⟨ret_bool (ok_bad l k x Hx.out Hb.out).symm, rfl⟩
    · obtain rfl : k = n := by omega
      go_wp2
      go_ret
      exact ⟨ret_bool (by rw [← Hg.out, Hn.out]; exact Hok.out.symm), rfl⟩

def endsG (l : List Int) (up : Bool) (fl : Int) : Value :=
  if checkG l fl = 0 then
    .tuple #[.int .i64 (if up then 32 * mn l else 32 * mx l), .int .i64 (if up then max (32 * mx l + (224 + 48 * max 0 (fl - 2))) 0 else min (32 * mn l - (224 + 48 * max 0 (fl - 2))) 0), .int .i64 0]
  else .tuple #[.int .i64 0, .int .i64 0, .int .i64 (checkG l fl)]
def headG (l : List Int) (up : Bool) : Value :=
  if checkG l 0 = 0 then .tuple #[.int .i64 (if up then 32 * mx l else 32 * mn l), .int .i64 0] else .tuple #[.int .i64 0, .int .i64 (checkG l 0)]
theorem ret_three {a a' b b' c c' : Int} (h1 : a = a') (h2 : b = b') (h3 : c = c') : Ending.returned (.tuple #[.int .i64 a, .int .i64 b, .int .i64 c]) = .returned (.tuple #[.int .i64 a', .int .i64 b', .int .i64 c']) := by rw [h1, h2, h3]
theorem check_good (l : List Int) (fl : Int) (h : checkG l fl = 0) : l ≠ [] ∧ okL l = true ∧ 0 ≤ fl ∧ fl ≤ 6 := by
  unfold checkG at h
  by_cases a : l = []
  · rw [if_pos a] at h; omega
  rw [if_neg a] at h
  by_cases b : okL l = false
  · rw [if_pos b] at h; omega
  rw [if_neg b] at h
  by_cases c : fl < 0 ∨ 6 < fl
  · rw [if_pos c] at h; omega
  exact ⟨a, by simpa using b, by omega, by omega⟩
theorem check_rng (l : List Int) (fl : Int) : 0 ≤ checkG l fl ∧ checkG l fl ≤ 2 := by
  unfold checkG; repeat' split <;> omega

theorem Ends_any (a : Option Addr) (l : List Int) (cap : Nat) (up : Bool) (fl : Int) (w : World) (h : IsInts w a l) (hm : l.length ≤ 1000) :
    Calls Try.prog 24 #[.slice a l.length cap, .bool up, .int .i64 fl] w fun e w' => e = .returned (endsG l up fl) ∧ w = w' := by
  by_cases hg : checkG l fl = 0
  · have ⟨h1, h2, h3, h4⟩ := check_good l fl hg
    have hb := ok_bound l h1 h2
    have hb1 : -200 ≤ mx l ∧ mx l ≤ 200 := by have := clamp_le (mx l); omega
    have hb2 : -200 ≤ mn l ∧ mn l ≤ 200 := by have := clamp_le (mn l); omega
    have hp : 0 < l.length := List.length_pos_iff.2 h1
    have Hg := Lib.hid hg
    clear hb h2 hg h1
    generalize hmx : mx l = M at hb1
    generalize hmn : mn l = m at hb2
    have Hmx := Lib.hid hmx
    have Hmn := Lib.hid hmn
    clear hmx hmn
    cases up <;>
      (go_enter Try.func24, Try.ntmps24
       go_wp2_with (first
        | (go_at_call 64; refine (check_any _ l _ _ _ h hm).mono ?_; rw [Hg.out]; rintro e w' ⟨rfl, rfl⟩)
        | (go_at_call 61; refine (max_any _ l _ _ h hp hm).mono ?_; rw [Hmx.out]; rintro e w' ⟨rfl, rfl⟩)
        | (go_at_call 62; refine (min_any _ l _ _ h hp hm).mono ?_; rw [Hmn.out]; rintro e w' ⟨rfl, rfl⟩)))
    all_goals
      go_ret3
      refine ⟨?_, rfl⟩
      unfold endsG
      rw [if_pos Hg.out, Hmx.out, Hmn.out]
      refine ret_three ?_ ?_ rfl <;> (try simp only [Bool.false_eq_true, if_false, if_true]) <;> omega
  · have hr := check_rng l fl
    have Hg := Lib.hid hg
    go_enter Try.func24, Try.ntmps24
    go_wp2_with (go_at_call 64; refine (check_any _ l _ _ _ h hm).mono ?_; rintro e w' ⟨rfl, rfl⟩)
    go_ret3
    refine ⟨?_, rfl⟩
    unfold endsG
    rw [if_neg Hg.out]
    rfl

theorem ret_two {a a' b b' : Int} (h1 : a = a') (h2 : b = b') : Ending.returned (.tuple #[.int .i64 a, .int .i64 b]) = .returned (.tuple #[.int .i64 a', .int .i64 b']) := by rw [h1, h2]

theorem Head_any (a : Option Addr) (l : List Int) (cap : Nat) (up : Bool) (w : World) (h : IsInts w a l) (hm : l.length ≤ 1000) :
    Calls Try.prog 26 #[.slice a l.length cap, .bool up] w fun e w' => e = .returned (headG l up) ∧ w = w' := by
  by_cases hg : checkG l 0 = 0
  · have ⟨h1, h2, h3, h4⟩ := check_good l 0 hg
    have hb := ok_bound l h1 h2
    have hb1 : -200 ≤ mx l ∧ mx l ≤ 200 := by have := clamp_le (mx l); omega
    have hb2 : -200 ≤ mn l ∧ mn l ≤ 200 := by have := clamp_le (mn l); omega
    have hp : 0 < l.length := List.length_pos_iff.2 h1
    have Hg := Lib.hid hg
    clear hb h2 hg h1 h3 h4
    generalize hmx : mx l = M at hb1
    generalize hmn : mn l = m at hb2
    have Hmx := Lib.hid hmx
    have Hmn := Lib.hid hmn
    clear hmx hmn
    cases up <;>
      (go_enter Try.func26, Try.ntmps26
       go_wp2_with (first
        | (go_at_call 64; refine (check_any _ l _ _ _ h hm).mono ?_; rw [Hg.out]; rintro e w' ⟨rfl, rfl⟩)
        | (go_at_call 61; refine (max_any _ l _ _ h hp hm).mono ?_; rw [Hmx.out]; rintro e w' ⟨rfl, rfl⟩)
        | (go_at_call 62; refine (min_any _ l _ _ h hp hm).mono ?_; rw [Hmn.out]; rintro e w' ⟨rfl, rfl⟩)))
    all_goals
      go_ret2
      refine ⟨?_, rfl⟩
      unfold headG
      rw [if_pos Hg.out, Hmx.out, Hmn.out]
      refine ret_two ?_ rfl <;> (try simp only [Bool.false_eq_true, if_false, if_true]) <;> omega
  · have hr := check_rng l 0
    have Hg := Lib.hid hg
    go_enter Try.func26, Try.ntmps26
    go_wp2_with (go_at_call 64; refine (check_any _ l _ _ _ h hm).mono ?_; rintro e w' ⟨rfl, rfl⟩)
    go_ret2
    refine ⟨?_, rfl⟩
    unfold headG
    rw [if_neg Hg.out]
    rfl

theorem check_cases (l : List Int) (fl : Int) : (l = [] ∧ checkG l fl = 1) ∨ (l ≠ [] ∧ okL l = false ∧ checkG l fl = 2) ∨ (l ≠ [] ∧ okL l = true ∧ fl < 0 ∧ checkG l fl = 2) ∨ (l ≠ [] ∧ okL l = true ∧ ¬ fl < 0 ∧ 6 < fl ∧ checkG l fl = 2) ∨ (l ≠ [] ∧ okL l = true ∧ ¬ fl < 0 ∧ ¬ 6 < fl ∧ checkG l fl = 0) := by
  unfold checkG
  by_cases a : l = [] <;> by_cases b : okL l = true <;> by_cases c : fl < 0 <;> by_cases d : 6 < fl <;> simp [a, b, c, d]

theorem ends_any (a : Option Addr) (l : List Int) (cap : Nat) (up : Bool) (fl : Int) (w : World) (h : IsInts w a l) (hm : l.length ≤ 1000) :
    Calls Try.prog 25 #[.slice a l.length cap, .bool up, .int .i64 fl] w fun e w' => e = .returned (endsG l up fl) ∧ w = w' := by
  rcases check_cases l fl with ⟨rfl, hg⟩ | ⟨hl, hok, hg⟩ | ⟨hl, hok, hf, hg⟩ | ⟨hl, hok, hf, hf2, hg⟩ | ⟨hl, hok, hf, hf2, hg⟩
  · have hz : (([] : List Int).length) = 0 := rfl
    rw [hz]
    have Hg := Lib.hid hg
    clear hg
    go_enter Try.func25, Try.ntmps25
    go_wp2
    go_ret3
    refine ⟨?_, rfl⟩
    unfold endsG
    rw [if_neg (by rw [Hg.out]; omega), Hg.out]
    rfl
  · have hp : ¬ ((l.length : Int) = 0) := by have := List.length_pos_iff.2 hl; omega
    have Hg := Lib.hid hg
    have Hok := Lib.hid hok
    clear hg hl hok
    go_enter Try.func25, Try.ntmps25
    go_wp2_with (go_at_call 63; refine (permittedL_any _ l _ _ h hm).mono ?_; rw [Hok.out]; rintro e w' ⟨rfl, rfl⟩)
    go_ret3
    refine ⟨?_, rfl⟩
    unfold endsG
    rw [if_neg (by rw [Hg.out]; omega), Hg.out]
    rfl
  · have hp : ¬ ((l.length : Int) = 0) := by have := List.length_pos_iff.2 hl; omega
    have Hg := Lib.hid hg
    have Hok := Lib.hid hok
    clear hg hl hok
    go_enter Try.func25, Try.ntmps25
    go_wp2_with (go_at_call 63; refine (permittedL_any _ l _ _ h hm).mono ?_; rw [Hok.out]; rintro e w' ⟨rfl, rfl⟩)
    go_ret3
    refine ⟨?_, rfl⟩
    unfold endsG
    rw [if_neg (by rw [Hg.out]; omega), Hg.out]
    rfl
  · have hp : ¬ ((l.length : Int) = 0) := by have := List.length_pos_iff.2 hl; omega
    have Hg := Lib.hid hg
    have Hok := Lib.hid hok
    clear hg hl hok
    go_enter Try.func25, Try.ntmps25
    go_wp2_with (go_at_call 63; refine (permittedL_any _ l _ _ h hm).mono ?_; rw [Hok.out]; rintro e w' ⟨rfl, rfl⟩)
    go_ret3
    refine ⟨?_, rfl⟩
    unfold endsG
    rw [if_neg (by rw [Hg.out]; omega), Hg.out]
    rfl
  · have hp : ¬ ((l.length : Int) = 0) := by have := List.length_pos_iff.2 hl; omega
    have hb := ok_bound l hl hok
    have hb1 : -200 ≤ mx l ∧ mx l ≤ 200 := by have := clamp_le (mx l); omega
    have hb2 : -200 ≤ mn l ∧ mn l ≤ 200 := by have := clamp_le (mn l); omega
    have Hmo := Lib.hid (show mostG l = mx l by unfold mostG; rw [if_neg hl]; exact hb.1)
    have Hle := Lib.hid (show leastG l = mn l by unfold leastG; rw [if_neg hl]; exact hb.2)
    have Hg := Lib.hid hg
    have Hok := Lib.hid hok
    clear hb hg hl hok
    generalize hmx : mx l = M at hb1
    generalize hmn : mn l = m at hb2
    have Hmx := Lib.hid hmx
    have Hmn := Lib.hid hmn
    clear hmx hmn
    cases up <;>
      (go_enter Try.func25, Try.ntmps25
       go_wp2_with (first
        | (go_at_call 63; refine (permittedL_any _ l _ _ h hm).mono ?_; rw [Hok.out]; rintro e w' ⟨rfl, rfl⟩)
        | (go_at_call 27; refine (most_any _ l _ _ h hm).mono ?_; rw [Hmo.out, Hmx.out]; rintro e w' ⟨rfl, rfl⟩)
        | (go_at_call 28; refine (least_any _ l _ _ h hm).mono ?_; rw [Hle.out, Hmn.out]; rintro e w' ⟨rfl, rfl⟩)))
    all_goals
      go_ret3
      refine ⟨?_, rfl⟩
      unfold endsG
      rw [if_pos Hg.out, Hmx.out, Hmn.out]
      refine ret_three ?_ ?_ rfl <;> (try simp only [Bool.false_eq_true, if_false, if_true]) <;> omega
end Go.Proofs.Ytdndehlhodigoaa
