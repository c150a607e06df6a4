/- The positions of rests: what stem.Rest and the reference rest compute. -/
import Derived.Test.YtdndehlhodigoaaValue
namespace Go.Proofs.Ytdndehlhodigoaa
open Go Go.RowKit Go.Shelf

/-- How many rounds a rest is moved by: the first k at which 64 k is no longer below d. -/
def rounds (d : Int) : Nat := ((d + 63) / 64).toNat
theorem rounds_lt (d : Int) (k : Nat) : k < rounds d ↔ 64 * (k : Int) < d := by unfold rounds; omega
theorem rounds_le (d : Int) (h : d ≤ 25600) : rounds d ≤ 400 := by unfold rounds; omega

def baseG (lg : Int) : Int := if lg = 0 then 2 else 0
/-- Seen from the side of the voice: the height that is still lacking at the start. -/
def lackG (lg vo : Int) (l : List Int) : Int :=
  if l = [] then 0
  else if vo = 1 then 32 * (- mn l) + 32 - (- (boxG (lg + 6).toNat).t) - 32 * (4 - baseG lg)
  else 32 * mx l + 32 - (boxG (lg + 6).toNat).b - 32 * (baseG lg + 4)
def placeG (lg vo vs : Int) (l : List Int) : Int :=
  if vs = 1 then baseG lg
  else if vo = 1 then baseG lg - 4 - 2 * rounds (lackG lg vo l)
  else baseG lg + 4 + 2 * rounds (lackG lg vo l)
def restErr (lg dots vo vs : Int) (l : List Int) : Int :=
  if valG lg dots = 0 then (if vs < 1 ∨ 2 < vs ∨ vo < 0 ∨ vs ≤ vo ∨ okL l = false then 2 else 0) else valG lg dots
def restPut (lg dots vo vs : Int) (l : List Int) : Value :=
  .tuple #[.int .i64 (if restErr lg dots vo vs l = 0 then placeG lg vo vs l else 0), .int .i64 (restErr lg dots vo vs l)]

theorem box_small : ((List.range 10).all fun i => let q := boxG (i + 5); decide (-1000 ≤ q.b) && decide (q.b ≤ 1000) && decide (-1000 ≤ q.t) && decide (q.t ≤ 1000)) = true := by decide +kernel
theorem box_rest (lg : Int) (h1 : -1 ≤ lg) (h2 : lg ≤ 8) : (-1000 ≤ (boxG (lg + 6).toNat).b ∧ (boxG (lg + 6).toNat).b ≤ 1000) ∧ -1000 ≤ (boxG (lg + 6).toNat).t ∧ (boxG (lg + 6).toNat).t ≤ 1000 := by
  have h := List.all_eq_true.1 box_small ((lg + 6).toNat - 5) (by simp; omega)
  rw [show (lg + 6).toNat - 5 + 5 = (lg + 6).toNat by omega] at h
  simp only [Bool.and_eq_true, decide_eq_true_eq] at h
  exact ⟨⟨h.1.1.1, h.1.1.2⟩, h.1.2, h.2⟩
theorem lack_le (lg vo : Int) (l : List Int) (h1 : -1 ≤ lg) (h2 : lg ≤ 8) (hok : okL l = true) : lackG lg vo l ≤ 20000 := by
  have hb := box_rest lg h1 h2
  have h0 : 0 ≤ baseG lg ∧ baseG lg ≤ 2 := by unfold baseG; split <;> omega
  unfold lackG
  split
  · omega
  · rename_i hl
    have hx := ok_bound l hl hok
    have c1 := clamp_le (mx l)
    have c2 := clamp_le (mn l)
    split <;> omega

theorem restErr_val (lg dots vo vs : Int) (l : List Int) (h : valG lg dots ≠ 0) : restPut lg dots vo vs l = .tuple #[.int .i64 0, .int .i64 (valG lg dots)] := by
  unfold restPut restErr
  rw [if_neg h, if_neg h]
theorem restErr_rng (lg dots vo vs : Int) (l : List Int) (h : valG lg dots = 0) (h2 : vs < 1 ∨ 2 < vs ∨ vo < 0 ∨ vs ≤ vo ∨ okL l = false) : restPut lg dots vo vs l = .tuple #[.int .i64 0, .int .i64 2] := by
  unfold restPut restErr
  rw [if_pos h, if_pos h2]
  rfl

set_option maxHeartbeats 1000000 in
theorem Rest_err (a : Option Addr) (l : List Int) (cap : Nat) (lg dots vo vs : Int) (w : World) (hv : valG lg dots ≠ 0) :
    Calls Try.prog 22 #[.agg #[.int .i64 lg, .int .i64 dots], .int .i64 vo, .int .i64 vs, .slice a l.length cap] w fun e w' => e = .returned (restPut lg dots vo vs l) ∧ Kp w w' := by
  rw [restErr_val _ _ _ _ _ hv]
  have hv17 : valG lg dots = 17 := by unfold valG at hv ⊢; split <;> simp_all
  rw [hv17]
  clear hv
  have Hv := Lib.hid hv17
  clear hv17
  go_enter Try.func22, Try.ntmps22
  go_wp2_with (go_at_call 30; refine (Check_any _ _ _).mono ?_; rw [Hv.out]; rintro e w' ⟨rfl, hk⟩; have Hk := Lib.hid hk; clear hk)
  go_ret2
  exact ⟨rfl, (Kp.alloc _ _).trans Hk.out⟩

set_option maxHeartbeats 1000000 in
theorem Rest_rng (a : Option Addr) (l : List Int) (cap : Nat) (lg dots vo vs : Int) (w : World) (hv : valG lg dots = 0) (hr : vs < 1 ∨ 2 < vs ∨ vo < 0 ∨ vs ≤ vo) :
    Calls Try.prog 22 #[.agg #[.int .i64 lg, .int .i64 dots], .int .i64 vo, .int .i64 vs, .slice a l.length cap] w fun e w' => e = .returned (restPut lg dots vo vs l) ∧ Kp w w' := by
  rw [restErr_rng _ _ _ _ _ hv (by omega)]
  have Hv := Lib.hid hv
  clear hv
  have hc : vs < 1 ∨ (¬ vs < 1 ∧ 2 < vs) ∨ ((¬ vs < 1 ∧ ¬ 2 < vs) ∧ vo < 0) ∨ ((¬ vs < 1 ∧ ¬ 2 < vs) ∧ ¬ vo < 0 ∧ vs ≤ vo) := by omega
  clear hr
  rcases hc with h1 | ⟨h1, h2⟩ | ⟨⟨h1, h2⟩, h3⟩ | ⟨⟨h1, h2⟩, h3, h4⟩ <;>
    (go_enter Try.func22, Try.ntmps22
     go_wp2_with (go_at_call 30; refine (Check_any _ _ _).mono ?_; rw [Hv.out]; rintro e w' ⟨rfl, hk⟩; have Hk := Lib.hid hk; clear hk))
  all_goals
    go_ret2
    exact ⟨rfl, (Kp.alloc _ _).trans Hk.out⟩

theorem cell_some_lt {w : World} {b o : Nat} {v : Value} (h : w.cell? ⟨b, o, none⟩ = some v) : b < w.heap.size := by
  by_cases hb : b < w.heap.size
  · exact hb
  · exfalso
    simp [World.cell?, Array.getElem?_eq_none (Nat.le_of_not_lt hb)] at h
theorem IsInts.kp {w w' : World} {a : Option Addr} {l : List Int} (h : IsInts w a l) (hk : Kp w w') : IsInts w' a l := by
  rcases h with h | ⟨b, off, rfl, hc⟩
  · exact Or.inl h
  · refine Or.inr ⟨b, off, rfl, fun j x hx => ?_⟩
    have h1 := hc j x hx
    rw [← h1]
    exact Below.cell hk (cell_some_lt h1)

set_option maxHeartbeats 1000000 in
theorem Rest_bad (a : Option Addr) (l : List Int) (cap : Nat) (lg dots vo vs : Int) (w : World) (h : IsInts w a l) (hm : l.length ≤ 1000) (hv : valG lg dots = 0) (hs : 1 ≤ vs ∧ vs ≤ 2 ∧ 0 ≤ vo ∧ vo < vs) (hbad : okL l = false) :
    Calls Try.prog 22 #[.agg #[.int .i64 lg, .int .i64 dots], .int .i64 vo, .int .i64 vs, .slice a l.length cap] w fun e w' => e = .returned (restPut lg dots vo vs l) ∧ Kp w w' := by
  rw [restErr_rng _ _ _ _ _ hv (by simp [hbad])]
  have Hv := Lib.hid hv
  have Hbad := Lib.hid hbad
  have Hg := Lib.hid (okTo_len l)
  have H := Lib.hid h
  clear hv hbad
  obtain ⟨s1, s2, s3, s4⟩ := hs
  rcases h with rfl | ⟨b, off, rfl, _⟩
  · exact absurd Hbad.out (by simp [okL])
  obtain ⟨n, hn⟩ : ∃ n, l.length = n := ⟨_, rfl⟩
  have Hn := Lib.hid hn
  rw [hn] at hm ⊢
  clear hn
  go_enter Try.func22, Try.ntmps22
  go_wp2_with (go_at_call 30; refine (Check_any _ _ _).mono ?_; rw [Hv.out]; rintro e w' ⟨rfl, hk⟩; have Hk : Hid (Kp w w') := Lib.hid ((Kp.alloc _ _).trans hk); clear hk)
  have hc' := (H.out.kp Hk.out)
  have Hc : Hid (∀ j x, l[j]? = some x → w'.cell? ⟨b, off + j, none⟩ = some (.int .i64 x)) := Lib.hid (by
    rcases hc' with h0 | ⟨b', off', h0, hc⟩
    · intro j x hx; rw [h0] at hx; simp at hx
    · cases h0; exact hc)
  clear hc'
  go_loop [8, 9, 12, 42] (fun _ _ _ i => ∃ k : Nat, k ≤ n ∧ i = .int .i64 k ∧ okTo l k = true) (fun _ _ _ i => n - (intOf i).toNat)
  case atStart => exact ⟨0, by omega, rfl, rfl⟩
  case round =>
    obtain ⟨k, hk, rfl, hok⟩ := hrel
    have Hok := Lib.hid hok
    clear hok
    by_cases hlt : k < n
    · obtain ⟨x, hx⟩ : ∃ x, l[k]? = some x := ⟨l[k]'(by rw [Hn.out]; exact hlt), by simp⟩
      have hcx := Hc.out k x hx
      have Hx := Lib.hid hx
      clear hx
      by_cases hb : clamp x = x
      · have Hb := Lib.hid hb
        clear hb
        go_wp2_with (go_at_call 60; refine (permitted_any _ _).mono ?_; rw [Hb.out]; rintro e w' ⟨rfl, rfl⟩)
        all_goals
          go_round
          case rel => exact ⟨k + 1, by omega, by go_num, by rw [okTo_succ _ _ _ Hx.out, Hok.out]; simp [okX, Hb.out]⟩
          case measure => simp [intOf]; omega
      · have hb' : ¬ x = clamp x := fun e => hb e.symm
        clear hb
        go_wp2_with (go_at_call 60; refine (permitted_any _ _).mono ?_; rintro e w' ⟨rfl, rfl⟩)
        all_goals
          go_ret2
          exact ⟨rfl, Hk.out⟩
    · obtain rfl : k = n := by omega
      have : okL l = true := by rw [← Hg.out, Hn.out]; exact Hok.out
      rw [Hbad.out] at this
      exact absurd this (by simp)

set_option maxHeartbeats 1000000 in
theorem Rest_one (a : Option Addr) (l : List Int) (cap : Nat) (lg dots : Int) (w : World) (h : IsInts w a l) (hm : l.length ≤ 1000) (hv : valG lg dots = 0) (hgood : okL l = true) :
    Calls Try.prog 22 #[.agg #[.int .i64 lg, .int .i64 dots], .int .i64 0, .int .i64 1, .slice a l.length cap] w fun e w' => e = .returned (restPut lg dots 0 1 l) ∧ Kp w w' := by
  have hput : restPut lg dots 0 1 l = .tuple #[.int .i64 (baseG lg), .int .i64 0] := by simp [restPut, restErr, placeG, hv, hgood]
  rw [hput]
  have hlg : -1 ≤ lg ∧ lg ≤ 8 := by unfold valG at hv; split at hv <;> omega
  have hrest : restG lg = .tuple #[.int .i64 (lg + 6), .int .i64 0] := by unfold restG; rw [if_neg (by omega)]
  have Hrest := Lib.hid hrest
  clear hput hrest
  have Hv := Lib.hid hv
  have Hgood := Lib.hid hgood
  have Hg := Lib.hid (okTo_len l)
  have H := Lib.hid h
  clear hv hgood
  rcases h with rfl | ⟨b, off, rfl, _⟩
  · have hz0 : (([] : List Int).length) = 0 := rfl
    rw [hz0]
    by_cases hz : lg = 0 <;>
      (try subst hz
       go_enter Try.func22, Try.ntmps22
       go_wp2_with (go_at_call 30; refine (Check_any _ _ _).mono ?_; rw [Hv.out]; rintro e w' ⟨rfl, hk⟩; have p0 := (HasRow.new w #[.int .i64 _, .int .i64 dots] 28).kp hk; have q0 := p0.cell 0; have l0 := p0.lt; have Hk : Hid (Kp w w') := Lib.hid ((Kp.alloc _ _).trans hk); clear hk p0)
       go_loop [8, 9, 12, 42] (fun _ _ _ i => i = .int .i64 0) (fun _ _ _ _ => 0)
       case atStart => rfl
       case round =>
         obtain rfl := hrel
         go_wp2_with (go_at_call 31; refine (Rest_any _ _).mono ?_; rw [Hrest.out]; rintro e w' ⟨rfl, rfl⟩)
         go_ret2
         exact ⟨ret_two (by simp [baseG, *]) rfl, Hk.out⟩)
  obtain ⟨n, hn⟩ : ∃ n, l.length = n := ⟨_, rfl⟩
  have Hn := Lib.hid hn
  rw [hn] at hm ⊢
  clear hn
  go_enter Try.func22, Try.ntmps22
  go_wp2_with (go_at_call 30; refine (Check_any _ _ _).mono ?_; rw [Hv.out]; rintro e w' ⟨rfl, hk⟩; have p0 := (HasRow.new w #[.int .i64 lg, .int .i64 dots] 28).kp hk; have q0 : w'.cell? ⟨w.heap.size, 0, none⟩ = some (.int .i64 lg) := p0.cell 0; have l0 := p0.lt; have Hk : Hid (Kp w w') := Lib.hid ((Kp.alloc _ _).trans hk); clear hk p0)
  have hc' := (H.out.kp Hk.out)
  have Hc : Hid (∀ j x, l[j]? = some x → w'.cell? ⟨b, off + j, none⟩ = some (.int .i64 x)) := Lib.hid (by
    rcases hc' with h0 | ⟨b', off', h0, hc⟩
    · intro j x hx; rw [h0] at hx; simp at hx
    · cases h0; exact hc)
  clear hc'
  go_loop [8, 9, 12, 42] (fun _ _ _ i => ∃ k : Nat, k ≤ n ∧ i = .int .i64 k ∧ okTo l k = true) (fun _ _ _ i => n - (intOf i).toNat)
  case atStart => exact ⟨0, by omega, rfl, rfl⟩
  case round =>
    obtain ⟨k, hk, rfl, hok⟩ := hrel
    have Hok := Lib.hid hok
    clear hok
    by_cases hlt : k < n
    · obtain ⟨x, hx⟩ : ∃ x, l[k]? = some x := ⟨l[k]'(by rw [Hn.out]; exact hlt), by simp⟩
      have hcx := Hc.out k x hx
      have Hx := Lib.hid hx
      clear hx
      by_cases hb : clamp x = x
      · have Hb := Lib.hid hb
        clear hb
        go_wp2_with (go_at_call 60; refine (permitted_any _ _).mono ?_; rw [Hb.out]; rintro e w' ⟨rfl, rfl⟩)
        all_goals
          go_round
          case rel => exact ⟨k + 1, by omega, by go_num, by rw [okTo_succ _ _ _ Hx.out, Hok.out]; simp [okX, Hb.out]⟩
          case measure => simp [intOf]; omega
      · exact absurd Hgood.out (by rw [ok_bad l k x Hx.out hb]; simp)
    · obtain rfl : k = n := by omega
      by_cases hz : lg = 0
      · subst hz
        go_wp2_with (go_at_call 31; refine (Rest_any _ _).mono ?_; rw [Hrest.out]; rintro e w' ⟨rfl, rfl⟩)
        go_ret2
        exact ⟨rfl, Hk.out⟩
      · go_wp2_with (go_at_call 31; refine (Rest_any _ _).mono ?_; rw [Hrest.out]; rintro e w' ⟨rfl, rfl⟩)
        go_ret2
        exact ⟨ret_two (by unfold baseG; rw [if_neg hz]) rfl, Hk.out⟩

end Go.Proofs.Ytdndehlhodigoaa
