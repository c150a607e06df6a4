/- Chords under one beam: slices.IndexFunc, slices.Grow, slices.Concat, stem.GroupUp. -/
import Derived.Lib.AppendZerosOnto
import Derived.Lib.SliceRun
import Derived.Laws.AppendOwnNone

import Derived.Test.YtdndehlhodigoaaLawD
namespace Go.Proofs.Ytdndehlhodigoaa
open Go Go.RowKit Go.Shelf

def isSet (x : Int) : Bool := decide (x = 1) || decide (x = 2)
theorem isSet_any (x : Int) (w : World) : Calls Try.prog 69 #[.int .i64 x] w fun e w' => e = .returned (.bool (isSet x)) ∧ w = w' := by
  by_cases h1 : x = 1
  · subst h1
    go_enter Try.func69, Try.ntmps69
    go_wp2
    go_ret
    exact ⟨ret_bool (by simp [isSet]), rfl⟩
  · go_enter Try.func69, Try.ntmps69
    go_wp2
    go_ret
    exact ⟨ret_bool (by rw [Bool.eq_iff_iff]; simp [isSet, h1]), rfl⟩

/-- A new slice for n elements that is empty. -/
theorem Grow_nil (n : Nat) (w : World) (hn : n ≤ 1000) :
    Calls Try.prog 86 #[.slice none 0 0, .int .i64 n] w fun e w' => ∃ v, e = .returned v ∧ w'.ownsRow w.heap.size 3 1 v 0 [] ∧ Kp w w' := by
  obtain ⟨i0, hi, hz0, hz1, hz2⟩ := info_parts Try.info_int
  by_cases h0 : n = 0
  · subst h0
    go_enter Try.func86, Try.ntmps86
    go_wp2
    go_ret
    exact ⟨_, rfl, ⟨rfl, Or.inl ⟨rfl, rfl⟩⟩, Kp.refl _⟩
  · obtain ⟨G, hG⟩ : ∃ G, grownCap w (0 + n) 0 3 = G := ⟨_, rfl⟩
    have hGn : 0 + n ≤ G := by rw [← hG]; exact grownCap_ge w _ _ _
    have hGm : G ≤ maxLen := by rw [← hG]; exact grownCap_le_maxLen w (0 + n) 0 3 (by unfold maxLen; omega)
    have hG63 : G ≤ 9223372036854775807 := by unfold maxLen at hGm; omega
    have hrz : ∀ ty, (Builtin.append_ #[22, 3] ty #[.slice none 0 0, .int .i64 (n : Int)]).run Try.prog w = _ := fun ty =>
      Lib.run_append_grow_zeros w 22 3 ty 3 i0 (.int .i64 0) .i64 .i64 Try.underlying22 Try.underlying3 hi hz0 none 0 0 [] (run_firstCells_none w.drew i0.size 0 0 0) n (by omega) (by omega) (by omega) (by omega) (by rw [hz2]; omega) (growslice_fits (by omega) (by rw [hz2]; omega))
    have hsz : ∃ cells : Array Value, #[] ++ Builtin.zeroCells (Value.int .i64 0).cells n ++ Builtin.zeroCells (Value.int .i64 0).cells (G - (0 + n)) = cells ∧ cells.size = G := ⟨_, rfl, by simp [Builtin.zeroCells, Value.cells]; omega⟩
    rw [hG] at hrz
    obtain ⟨cells, hc, hcs⟩ := hsz
    rw [hc] at hrz
    have Hcs := Lib.hid hcs
    have Hgm := Lib.hid hGm
    have hn0 : ¬ ((n : Int) < 0) := by omega
    have hn1 : (n : Int) > 0 := by omega
    clear hc hcs hGm hi hz0 hz1 hz2 hG
    go_enter Try.func86, Try.ntmps86
    go_wp2_with (at_builtin; refine Lib.wpList_append_run _ rfl _ _ _ _ rfl _ _ rfl rfl _ _ (hrz _) ?_)
    go_ret
    exact ⟨_, rfl, ⟨rfl, Or.inr ⟨w.heap.size, G, cells, rfl, Nat.le_refl _, (by have := HasRow.new w.drew cells 3; exact this), Nat.zero_le _, Hgm.out, (by rw [Hcs.out, Nat.mul_one]), rfl⟩⟩, Kp.trans (Below.drew (Kp.refl _)) (Kp.alloc _ _)⟩

def firstSet (l : List Int) : Int := (l.find? isSet).getD 0
theorem find_step {l : List Int} {k : Nat} {x : Int} (h : (l.take k).find? isSet = none) (hx : l[k]? = some x) (hn : isSet x = false) : (l.take (k + 1)).find? isSet = none := by
  rw [List.take_add_one, List.find?_append, h, hx]
  simp [hn]
theorem find_hit {l : List Int} {k : Nat} {x : Int} (h : (l.take k).find? isSet = none) (hx : l[k]? = some x) (hn : isSet x = true) : firstSet l = x := by
  have h1 : (l.take (k + 1)).find? isSet = some x := by
    rw [List.take_add_one, List.find?_append, h, hx]
    simp [hn]
  have h2 : l.find? isSet = some x := by
    rw [← List.take_append_drop (k + 1) l, List.find?_append, h1]
    rfl
  unfold firstSet
  rw [h2]
  rfl
theorem find_none {l : List Int} (h : (l.take l.length).find? isSet = none) : firstSet l = 0 := by
  rw [List.take_length] at h
  unfold firstSet
  rw [h]
  rfl

set_option maxHeartbeats 1000000 in
theorem IndexFunc_any (a : Option Addr) (l : List Int) (cap : Nat) (w : World) (h : IsInts w a l) (hm : l.length ≤ 1000) :
    Calls Try.prog 68 #[.slice a l.length cap, .func (.func 69) #[] #[]] w fun e w' =>
      ∃ r : Int, e = .returned (.int .i64 r) ∧ w = w' ∧ ((r = -1 ∧ firstSet l = 0) ∨ ∃ k : Nat, r = k ∧ k < l.length ∧ l[k]? = some (firstSet l)) := by
  obtain ⟨n, hn⟩ : ∃ n, l.length = n := ⟨_, rfl⟩
  have Hn := Lib.hid hn
  obtain ⟨hb, Hb⟩ : ∃ hb : Option (Nat × Nat), Hid (match hb with | none => n = 0 | some (b, off) => a = some ⟨b, off, none⟩ ∧ ∀ j x, l[j]? = some x → w.cell? ⟨b, off + j, none⟩ = some (.int .i64 x)) := by
    rcases h with h | ⟨b, off, h, hcell⟩
    · exact ⟨none, Lib.hid (by rw [← hn, h]; rfl)⟩
    · exact ⟨some (b, off), Lib.hid ⟨h, hcell⟩⟩
  rw [hn] at hm ⊢
  clear hn h
  go_enter Try.func68, Try.ntmps68
  go_wp2
  go_loop [5, 8] (fun _ i => ∃ k : Nat, k ≤ n ∧ i = .int .i64 k ∧ Hid ((l.take k).find? isSet = none)) (fun _ i => n - (intOf i).toNat)
  case atStart => exact ⟨0, Nat.zero_le _, rfl, Lib.hid rfl⟩
  case round =>
    obtain ⟨k, hk, rfl, hf⟩ := hrel
    by_cases hl : k < n
    · cases hb with
      | none => exfalso; have := Hb.out; simp at this; omega
      | some q =>
        obtain ⟨b, off⟩ := q
        obtain ⟨ha, hcell⟩ := Hb.out
        subst ha
        obtain ⟨x, hx⟩ : ∃ x, l[k]? = some x := ⟨l[k]'(by rw [Hn.out]; exact hl), by simp⟩
        have hcx := hcell k x hx
        have Hx := Lib.hid hx
        have hs := fun W => isSet_any x W
        clear hx hcell
        cases hset : isSet x with
        | true =>
          rw [hset] at hs
          have Hset := Lib.hid hset
          clear hset
          go_wp2_with (go_at_call 69; refine (hs _).mono ?_; rintro e w' ⟨rfl, rfl⟩)
          go_ret
          exact ⟨_, rfl, rfl, Or.inr ⟨k, rfl, hl, by rw [find_hit hf.out Hx.out Hset.out]; exact Hx.out⟩⟩
        | false =>
          rw [hset] at hs
          have Hset := Lib.hid hset
          clear hset
          go_wp2_with (go_at_call 69; refine (hs _).mono ?_; rintro e w' ⟨rfl, rfl⟩)
          go_round
          case rel => exact ⟨k + 1, by omega, by go_num, Lib.hid (find_step hf.out Hx.out Hset.out)⟩
          case measure => simp [intOf]; omega
    · obtain rfl : k = n := by omega
      go_wp2
      go_ret
      exact ⟨_, rfl, rfl, Or.inl ⟨rfl, find_none (by rw [Hn.out]; exact hf.out)⟩⟩

abbrev Sl := Option Addr × List Int × Nat
def RowsAt (w : World) (a : Option Addr) (L : List Sl) : Prop :=
  L = [] ∨ ∃ b off, a = some ⟨b, off, none⟩ ∧ ∀ j p, L[j]? = some p → w.cell? ⟨b, off + j, none⟩ = some (.slice p.1 p.2.1.length p.2.2) ∧ IsInts w p.1 p.2.1 ∧ (p.1 = none → p.2.2 = 0)
theorem ints_news {w : World} {ad : Addr} {l : List Int} (h : IsInts w (some ad) l) : ∀ j u, (ints l)[j]? = some u → w.cell? (ad.add j) = some u := by
  intro j u hu
  rcases h with rfl | ⟨b, off, ha, hc⟩
  · simp [ints] at hu
  · simp only [Option.some.injEq] at ha
    subst ha
    simp only [ints, List.getElem?_map, Option.map_eq_some_iff] at hu
    obtain ⟨x, hx, rfl⟩ := hu
    unfold Addr.add
    split
    · rename_i h0; subst h0; simpa using hc 0 x hx
    · exact hc j x hx
theorem ints_one (l : List Int) : ∀ u ∈ ints l, u.oneCell' = true := by
  intro u hu
  simp only [ints, List.mem_map] at hu
  obtain ⟨x, _, rfl⟩ := hu
  rfl
def flatG (L : List Sl) : List Int := (L.map (fun p => p.2.1)).flatten
theorem flat_step {L : List Sl} {k : Nat} {p : Sl} (h : L[k]? = some p) : flatG (L.take (k + 1)) = flatG (L.take k) ++ p.2.1 := by
  unfold flatG
  rw [List.take_add_one, h]
  simp
theorem flat_len (L : List Sl) (h : ∀ p ∈ L, p.2.1.length ≤ 6) : (flatG L).length ≤ 6 * L.length := by
  induction L with
  | nil => simp [flatG]
  | cons q L ih =>
    have h1 := h q (by simp)
    have h2 := ih (fun p hp => h p (by simp [hp]))
    simp [flatG] at h2 ⊢
    omega

set_option maxHeartbeats 2000000 in
theorem Concat_any (a : Option Addr) (L : List Sl) (cap : Nat) (w : World) (h : RowsAt w a L) (hm : L.length ≤ 8) (h6 : ∀ p ∈ L, p.2.1.length ≤ 6) :
    Calls Try.prog 70 #[.slice a L.length cap] w fun e w' => ∃ a' c', e = .returned (.slice a' (flatG L).length c') ∧ IsInts w' a' (flatG L) ∧ Kp w w' := by
  obtain ⟨i0, hi, hz0, hz1, hz2⟩ := info_parts Try.info_int
  have Hi := Lib.hid hi
  have Hz0 := Lib.hid hz0
  have Hz1 := Lib.hid hz1
  have Hz2 := Lib.hid hz2
  have hfl := Lib.hid (fun k => flat_len (L.take k) (fun p hp => h6 p (List.mem_of_mem_take hp)))
  obtain ⟨n, hn⟩ : ∃ n, L.length = n := ⟨_, rfl⟩
  have Hn := Lib.hid hn
  have hk48 : ∀ k, (flatG (L.take k)).length ≤ 48 := fun k => by have h1 := hfl.out k; rw [List.length_take] at h1; omega
  have H48 := Lib.hid hk48
  obtain ⟨hb, Hb⟩ : ∃ hb : Option (Nat × Nat), Hid (match hb with | none => n = 0 | some (b, off) => a = some ⟨b, off, none⟩ ∧ ∀ j p, L[j]? = some p → w.cell? ⟨b, off + j, none⟩ = some (.slice p.1 p.2.1.length p.2.2) ∧ IsInts w p.1 p.2.1 ∧ (p.1 = none → p.2.2 = 0)) := by
    rcases h with h | ⟨b, off, h, hcell⟩
    · exact ⟨none, Lib.hid (by rw [← hn, h]; rfl)⟩
    · exact ⟨some (b, off), Lib.hid ⟨h, hcell⟩⟩
  rw [hn] at hm ⊢
  clear hn h hi hz0 hz1 hz2 hfl hk48 h6
  go_enter Try.func70, Try.ntmps70
  go_wp2
  go_loop [3, 5, 11] (fun s _ i => ∃ k m : Nat, k ≤ n ∧ i = .int .i64 k ∧ s = .int .i64 m ∧ Hid (m = (flatG (L.take k)).length)) (fun _ _ i => n - (intOf i).toNat)
  case atStart => exact ⟨0, 0, Nat.zero_le _, rfl, rfl, Lib.hid rfl⟩
  case round =>
    obtain ⟨k, m, hk, rfl, rfl, hs⟩ := hrel
    have hm48 : m ≤ 48 := by rw [hs.out]; exact H48.out k
    by_cases hl : k < n
    · cases hb with
      | none => exfalso; have := Hb.out; simp at this; omega
      | some q =>
        obtain ⟨b, off⟩ := q
        obtain ⟨ha, hcell⟩ := Hb.out
        subst ha
        obtain ⟨p, hx⟩ : ∃ p, L[k]? = some p := ⟨L[k]'(by rw [Hn.out]; exact hl), by simp⟩
        have hcx := (hcell k p hx).1
        have Hx := Lib.hid (flat_step hx)
        obtain ⟨m1, hm1⟩ : ∃ m1, p.2.1.length = m1 := ⟨_, rfl⟩
        have hb1 : m + m1 ≤ 48 := by have h1 := H48.out (k + 1); rw [Hx.out, List.length_append, ← hs.out, hm1] at h1; exact h1
        rw [hm1] at hcx
        have Hm1 := Lib.hid hm1
        have hng : ¬ ((m : Int) + (m1 : Int) < 0) := by omega
        clear hx hcell hm1
        go_wp2
        go_round
        case rel => exact ⟨k + 1, m + m1, by omega, by go_num, by go_num, Lib.hid (by rw [Hx.out, List.length_append, ← hs.out, Hm1.out])⟩
        case measure => simp [intOf]; omega
    · obtain rfl : k = n := by omega
      have hfull : L.take k = L := List.take_of_length_le (by rw [Hn.out]; exact Nat.le_refl _)
      rw [hfull] at hs
      clear hfull
      have Hs := hs
      clear hs
      go_wp2_with (go_at_call 86; refine (Grow_nil m _ (by omega)).mono ?_; rintro e w1 ⟨v1, rfl, hown, hk1⟩; have Hown := Lib.hid hown; have Hk1 := Lib.hid hk1; clear hown hk1)
      go_loopw [6, 8, 27] (fun v _ i wr => ∃ j : Nat, j ≤ k ∧ i = .int .i64 j ∧ wr.ownsRow w.heap.size 3 1 v (flatG (L.take j)).length (ints (flatG (L.take j))) ∧ Kp w wr) (fun _ _ i _ => k - (intOf i).toNat)
      case atStart => exact ⟨0, Nat.zero_le _, rfl, Hown.out, Hk1.out⟩
      case round =>
        obtain ⟨j, hj, rfl, hown, hkp⟩ := hrel
        have Hown := Lib.hid hown
        have Hkp := Lib.hid hkp
        clear hown hkp
        by_cases hl : j < k
        · cases hb with
          | none => exfalso; have := Hb.out; simp at this; omega
          | some q =>
            obtain ⟨b, off⟩ := q
            obtain ⟨ha, hcell⟩ := Hb.out
            subst ha
            obtain ⟨p, hx⟩ : ∃ p, L[j]? = some p := ⟨L[j]'(by rw [Hn.out]; exact hl), by simp⟩
            obtain ⟨hc1, hc2, hc3⟩ := hcell j p hx
            have hcx : wr.cell? ⟨b, off + j, none⟩ = some (.slice p.1 p.2.1.length p.2.2) := (Below.cell (p := ⟨b, off + j, none⟩) Hkp.out (cell_some_lt hc1)).trans hc1
            have Hx := Lib.hid (flat_step hx)
            have hb1 := H48.out (j + 1)
            rw [Hx.out, List.length_append] at hb1
            obtain ⟨p1, l1, c1⟩ := p
            simp only at hcx hc2 hc3 Hx hb1
            clear hx hcell hc1
            cases p1 with
            | none =>
              have hl1 : l1 = [] := by
                rcases hc2 with h | ⟨_, _, h, _⟩
                · exact h
                · cases h
              subst hl1
              obtain rfl : c1 = 0 := hc3 rfl
              have hcx' : wr.cell? ⟨b, off + j, none⟩ = some (.slice none 0 0) := hcx
              have Hx' := Lib.hid (Hx.out.trans (List.append_nil _))
              clear hcx hc2 hc3 Hx
              go_wp2_with (at_builtin; go_must (refine wpList_append_own_none rfl _ _ 22 rfl w.heap.size 3 i0 1 Try.underlying22 Hi.out _ _ _ rfl Hown.out rfl ?_))
              go_roundw
              case rel => exact ⟨j + 1, by omega, by go_num, by rw [Hx'.out]; exact Hown.out, Hkp.out⟩
              case measure => simp [intOf]; omega
            | some ad =>
              have Hc2 := Lib.hid (ints_news (IsInts.kp hc2 Hkp.out))
              obtain ⟨m1, hm1⟩ : ∃ m1, l1.length = m1 := ⟨_, rfl⟩
              rw [hm1] at hcx hb1
              have Hm1 := Lib.hid hm1
              clear hc2 hc3 hm1
              go_wp2_with (at_builtin; go_must (refine wpList_append_own _ rfl _ _ 22 rfl w.heap.size 3 i0 (.int .i64 0) 1 8 Try.underlying22 Hi.out Hz0.out Hz1.out Hz2.out rfl (by decide) _ _ _ rfl Hown.out ad m1 c1 (ints l1) rfl (by simp [ints, Hm1.out]) Hc2.out (ints_one l1) (by unfold maxLen; omega) (by omega) Hkp.out.size ?_); (intro v' w3 hown1 hgrow _; have Hown1 := Lib.hid hown1; have Hkp1 : Hid (Kp w w3) := Lib.hid (Below.grown Hkp.out hgrow Hkp.out.size (owns_block Hown.out)); clear hown1 hgrow))
              go_roundw
              case rel => exact ⟨j + 1, by omega, by go_num, by rw [Hx.out, List.length_append, Hm1.out]; simpa [ints] using Hown1.out, Hkp1.out⟩
              case measure => simp [intOf]; omega
        · obtain rfl : j = k := by omega
          have hfull : L.take j = L := List.take_of_length_le (by rw [Hn.out]; exact Nat.le_refl _)
          have hown := Hown.out
          rw [hfull] at hown
          obtain ⟨at', ct, rfl, hIt, _⟩ := owns_ints hown
          have HIt := Lib.hid hIt
          clear hown hIt Hown hfull
          go_wp2
          go_ret
          exact ⟨_, ⟨_, rfl⟩, HIt.out, Hkp.out⟩

set_option maxHeartbeats 1000000 in
theorem GroupUp_any (a : Option Addr) (L : List Sl) (cap : Nat) (s : Option Addr) (l : List Int) (cap2 : Nat) (x y : Int) (w : World) (h : RowsAt w a L) (hm : L.length ≤ 8) (h6 : ∀ p ∈ L, p.2.1.length ≤ 6) (hs : IsInts w s l) (hl : l.length ≤ 1000) :
    Calls Try.prog 36 #[.slice a L.length cap, .slice s l.length cap2, .int .i64 x, .int .i64 y] w fun e w' => e = .returned (.bool (dirG (flatG L) (firstSet l) x y)) ∧ Kp w w' := by
  have hcat := Concat_any a L cap w h hm h6
  have hidx := IndexFunc_any s l cap2 w hs hl
  have hfl : (flatG L).length ≤ 1000 := by have := flat_len L h6; omega
  obtain ⟨n, hn⟩ : ∃ n, L.length = n := ⟨_, rfl⟩
  obtain ⟨m, hm'⟩ : ∃ m, l.length = m := ⟨_, rfl⟩
  rw [hn] at hcat ⊢
  have Hm := Lib.hid hm'
  rw [hm'] at hidx ⊢
  obtain ⟨X, hX⟩ : ∃ X, firstSet l = X := ⟨_, rfl⟩
  rw [hX] at hidx ⊢
  have Hcat := Lib.hid hcat
  have Hidx := Lib.hid hidx
  have Hs := Lib.hid hs
  have Hfl := Lib.hid hfl
  have hm1 : m ≤ 1000 := by omega
  clear hcat hidx h hm h6 hs hl hn hm' hfl hX
  go_enter Try.func36, Try.ntmps36
  go_wp2_with fail
  refine Hidx.out.mono ?_
  rintro e w' ⟨r, rfl, rfl, ⟨rfl, hf⟩ | ⟨k, rfl, hk, hf⟩⟩
  · subst hf
    go_wp2_with (first
      | (go_at_call 70; refine Hcat.out.mono ?_; rintro e w1 ⟨a1, c1, rfl, hi, hk⟩; have Hi := Lib.hid hi; have Hk := Lib.hid hk; clear hi hk)
      | (go_at_call 59; refine (direction_any _ (flatG L) _ _ _ _ _ Hi.out Hfl.out).mono ?_; rintro e w' ⟨rfl, rfl⟩))
    go_ret
    exact ⟨ret_bool rfl, Hk.out⟩
  · rcases Hs.out with rfl | ⟨b, off, rfl, hc⟩
    · simp at hf
    · have hcx := hc k _ hf
      clear hc hf
      go_wp2_with (first
        | (go_at_call 70; refine Hcat.out.mono ?_; rintro e w1 ⟨a1, c1, rfl, hi, hk⟩; have Hi := Lib.hid hi; have Hk := Lib.hid hk; clear hi hk)
        | (go_at_call 59; refine (direction_any _ (flatG L) _ _ _ _ _ Hi.out Hfl.out).mono ?_; rintro e w' ⟨rfl, rfl⟩))
      go_ret
      exact ⟨ret_bool rfl, Hk.out⟩

end Go.Proofs.Ytdndehlhodigoaa
