/- The law of lengths and mirror images: the walk. -/
import Derived.Test.YtdndehlhodigoaaTurn
namespace Go.Proofs.Ytdndehlhodigoaa
open Go Go.RowKit Go.Shelf

theorem Try.info_int : (Try.prog.info? 3).map (fun i => (i.zero, i.size, i.bytes)) = some (some (.int .i64 0), 1, 8) := by kernel_rfl

theorem turn_take (l : List Int) (k : Nat) (x : Int) (hk : k < l.length) (hx : l[l.length - 1 - k]? = some x) : (turn l).take (k + 1) = (turn l).take k ++ [turn1 x] := by
  rw [List.take_add_one]
  congr 1
  unfold turn
  rw [List.getElem?_map, List.getElem?_reverse hk, hx]
  rfl
theorem turn1_cases (x : Int) : (x < -300 ∧ turn1 x = 300) ∨ (¬ x < -300 ∧ ¬ 300 < x ∧ turn1 x = -x) ∨ (¬ x < -300 ∧ 300 < x ∧ turn1 x = -300) := by unfold turn1; omega
theorem owns_snoc {w : World} {base : Nat} {e : TypeId} {v : Value} {k : Nat} {l : List Int} {x : Int} {L : List Int} (h : w.ownsRow base e 1 v (k + 1) (ints l ++ [.int .i64 x])) (hL : L = l ++ [x]) : w.ownsRow base e 1 v (k + 1) (ints L) := by
  subst hL; simpa [ints] using h

theorem new_one (w : World) (u : Value) (t : TypeId) : ∀ j v, [u][j]? = some v → (w.alloc (.cells #[u] t)).cell? ((⟨w.heap.size, 0, none⟩ : Addr).add j) = some v := by
  intro j v h
  have hj : j < 1 := (List.getElem?_eq_some_iff.1 h).1
  obtain rfl : j = 0 := by omega
  simp at h
  subst h
  have := (HasRow.new w #[u] t).cell 0
  have ha : (⟨w.heap.size, 0, none⟩ : Addr).add 0 = ⟨w.heap.size, 0, none⟩ := rfl
  rw [ha, this]
  rfl

theorem owns_block {w : World} {base : Nat} {e : TypeId} {size : Nat} {v : Value} {n : Nat} {xs : List Value} (h : w.ownsRow base e size v n xs) : ∀ k, v.ownBlock = some k → base ≤ k := by
  intro k hk
  rcases h.2 with ⟨rfl, _⟩ | ⟨g, c, cur, rfl, hb, _⟩
  · simp [Value.ownBlock] at hk
  · simp [Value.ownBlock] at hk; omega

theorem check_zero {l : List Int} {fl : Int} (h : checkG l fl = 0) : checkG l 0 = 0 := by
  have ⟨h1, h2, _, _⟩ := check_good l fl h
  unfold checkG
  simp [h1, h2]
theorem len_good {l : List Int} {up : Bool} {fl Y h0 e0 : Int} (hc : checkG l fl = 0) (hh : headG l up = .tuple #[.int .i64 h0, .int .i64 e0])
    (hg : (up = true → 224 ≤ Y - 32 * mx l ∧ 0 ≤ Y) ∧ (up = false → 224 ≤ 32 * mn l - Y ∧ Y ≤ 0)) : e0 = 0 ∧ (-10000 ≤ h0 ∧ h0 ≤ 10000) ∧ (up = true → 224 ≤ Y - h0 ∧ 0 ≤ Y) ∧ (up = false → 224 ≤ h0 - Y ∧ Y ≤ 0) := by
  have ⟨h1, h2, _, _⟩ := check_good l fl hc
  have hb := ok_bound l h1 h2
  have hb1 := clamp_le (mx l)
  have hb2 := clamp_le (mn l)
  unfold headG at hh
  rw [if_pos (check_zero hc)] at hh
  simp at hh
  obtain ⟨q1, q2⟩ := hh
  cases up
  · simp at q1 hg; simp; omega
  · simp at q1 hg; simp; omega

set_option maxRecDepth 100000 in
set_option maxHeartbeats 2000000 in
theorem walk_StemLengths (a0 : Option Addr) (len0 cap0 : Nat) (z0 : List Int) (a1 : Bool) (a2 : Int) (w : World) (w0 : IsRow .i64 w a0 len0 cap0 z0) (_w2 : (Lit.int .i64 a2).wf = true) :
    Calls Try.prog 6 #[.slice a0 len0 cap0, .bool a1, .int .i64 a2] w fun e w' => e = .returned (.bool true) ∧ Kp w w' := by
  have hc := cut12 w0
  obtain ⟨i0, hi, hz0, hz1, hz2⟩ := info_parts Try.info_int
  have Hi := Lib.hid hi
  have Hz0 := Lib.hid hz0
  have Hz1 := Lib.hid hz1
  have Hz2 := Lib.hid hz2
  clear w0 _w2 hi hz0 hz1 hz2
  rcases hc with ⟨h12, l, hl, hI, hc, hm⟩ | ⟨h12, l, hl, hI, hc, hm⟩ <;>
  (obtain ⟨N, hN⟩ : ∃ N : Nat, l.length = N := ⟨_, rfl⟩
   have hN1 : N ≤ 12 := by omega
   have hN2 : N ≤ len0 := by omega
   have hN3 : (len0 ≤ N ∨ 12 ≤ N) := by omega
   have h1 := fun (W : World) (fl : Int) (hk : IsInts W a0 l) => Ends_any a0 l cap0 a1 fl W hk (by omega)
   have h3 := fun (W : World) (hk : IsInts W a0 l) => Head_any a0 l cap0 a1 W hk (by omega)
   have ht := fun (W : World) (a : Option Addr) (c : Nat) (hk : IsInts W a (turn l)) => Ends_any a (turn l) c (!a1) a2 W hk (by unfold turn; simp; omega)
   have htl : (turn l).length = N := by unfold turn; simp [hN]
   rw [htl] at ht
   rw [hl] at h1 h3
   have HN := Lib.hid hN
   have H1 := Lib.hid h1
   have H3 := Lib.hid h3
   have Ht := Lib.hid ht
   obtain ⟨X, Y, hE, hT, hX, hY, hbad, hgood⟩ := turn_ends l a1 a2
   obtain ⟨hX1, hX2⟩ := hX
   obtain ⟨hY1, hY2⟩ := hY
   have HE := Lib.hid hE
   have HT := Lib.hid hT
   obtain ⟨h0, e0, hh⟩ : ∃ h0 e0, headG l a1 = .tuple #[.int .i64 h0, .int .i64 e0] := by unfold headG; split <;> exact ⟨_, _, rfl⟩
   have Hh := Lib.hid hh
   have Hbad := Lib.hid hbad
   have Hgood := Lib.hid hgood
   have H := Lib.hid hI
   have Htl := Lib.hid htl
   obtain ⟨hb, Hb⟩ : ∃ hb : Option (Nat × Nat), Hid (match hb with | none => N = 0 | some (b, off) => a0 = some ⟨b, off, none⟩ ∧ ∀ j x, l[j]? = some x → w.cell? ⟨b, off + j, none⟩ = some (.int .i64 x)) := by
     rcases hI with h | ⟨b, off, h, hcell⟩
     · exact ⟨none, Lib.hid (by rw [← hN, h]; rfl)⟩
     · exact ⟨some (b, off), Lib.hid ⟨h, hcell⟩⟩
   clear hI hl h1 h3 ht hE hT hh hbad hgood hN htl
   go_enter Try.func6, Try.ntmps6
   go_wp2_with fail
   refine (H1.out _ _ H.out).mono ?_
   rw [HE.out]
   rintro e w1 ⟨rfl, rfl⟩
   go_wp2_with fail
   refine (H3.out _ H.out).mono ?_
   rw [Hh.out]
   rintro e w1 ⟨rfl, rfl⟩
   go_wp2_with fail
   go_loopw [12, 13] (fun v i wr => ∃ k : Nat, k ≤ N ∧ i = .int .i64 ((N : Int) - 1 - k) ∧ wr.ownsRow w.heap.size 3 1 v k (ints ((turn l).take k)) ∧ Kp w wr) (fun _ i _ => (intOf i + 1).toNat)
   case atStart => exact ⟨0, Nat.zero_le _, by congr 1; omega, ⟨rfl, Or.inl ⟨rfl, rfl⟩⟩, Kp.refl _⟩
   case round =>
     obtain ⟨k, hk, rfl, hown, hkp⟩ := hrel
     have Hown := Lib.hid hown
     have Hkp := Lib.hid hkp
     clear hown hkp
     by_cases hlt : k < N
     · cases hb with
       | none => exfalso; have := Hb.out; simp at this; omega
       | some q =>
         obtain ⟨b, off⟩ := q
         obtain ⟨ha, hcell⟩ := Hb.out
         subst ha
         obtain ⟨j, hj⟩ : ∃ j : Nat, (N : Int) - 1 - k = j := ⟨N - 1 - k, by omega⟩
         have hj1 : j < N := by omega
         have hj2 : N - 1 - k = j := by omega
         obtain ⟨x, hx⟩ : ∃ x, l[j]? = some x := ⟨l[j]'(by rw [HN.out]; omega), by simp⟩
         have hcx : wr.cell? ⟨b, off + j, none⟩ = some (.int .i64 x) := by
           have h5 := hcell j x hx
           exact (Below.cell (p := ⟨b, off + j, none⟩) Hkp.out (cell_some_lt h5)).trans h5
         have htk := turn_take l k x (by rw [HN.out]; exact hlt) (by rw [HN.out, hj2]; exact hx)
         have Htk := Lib.hid htk
         have Hj := Lib.hid hj
         rw [hj]
         clear hx htk hcell hj hj2
         rcases turn1_cases x with ⟨x1, hx⟩ | ⟨x1, x2, hx⟩ | ⟨x1, x2, hx⟩ <;>
         (rw [hx] at Htk
          clear hx
          go_wp2_with (at_builtin; go_must (refine wpList_append_own _ rfl _ _ 22 rfl w.heap.size 3 i0 (.int .i64 0) 1 8 Try.underlying22 Hi.out Hz0.out Hz1.out Hz2.out rfl (by decide) _ _ _ rfl (Hown.out.alloc _) ⟨wr.heap.size, 0, none⟩ 1 1 [_] rfl rfl (new_one _ _ _) ?_ (by unfold maxLen; omega) (by omega) (by have := Hkp.out.size; simp only [World.size_alloc]; omega) ?_); (intro u hu; simp at hu; subst hu; rfl); (intro v' w3 hown1 hgrow _; have Hown1 := Lib.hid (owns_snoc hown1 Htk.out); have Hkp1 : Hid (Kp w w3) := Lib.hid (Below.grown (Hkp.out.trans (Kp.alloc _ _)) hgrow (by have := Hkp.out.size; simp only [World.size_alloc]; omega) (owns_block Hown.out)); clear hown1 hgrow))
          go_roundw
          case rel => exact ⟨k + 1, by omega, by have := Hj.out; congr 1; omega, Hown1.out, Hkp1.out⟩
          case measure => have := Hj.out; simp [intOf])
     · obtain rfl : k = N := by omega
       have hfull : (turn l).take k = turn l := List.take_of_length_le (by rw [Htl.out]; exact Nat.le_refl _)
       have hown := Hown.out
       rw [hfull] at hown
       obtain ⟨at', ct, rfl, hIt, _⟩ := owns_ints hown
       have HIt := Lib.hid hIt
       clear hown hfull hIt Hown
       by_cases hc0 : checkG l a2 = 0
       · obtain ⟨rfl, ⟨f1, f2⟩, f3, f4⟩ := len_good hc0 Hh.out (Hgood.out hc0)
         rw [hc0] at HT ⊢
         clear hc0
         cases a1
         · obtain ⟨f5, f6⟩ := f4 rfl
           clear f3 f4
           go_wp2_with (first
             | (go_at_call 24; refine (Ht.out _ _ _ HIt.out).mono ?_; rw [HT.out]; rintro e w3 ⟨rfl, rfl⟩)
             | (go_at_call 19; refine (known_any _).mono ?_; rintro e w3 ⟨rfl, hk⟩; have Hk3 := Lib.hid (Hkp.out.trans hk); clear hk))
           go_ret
           exact ⟨ret_bool (by simp), Hk3.out⟩
         · obtain ⟨f5, f6⟩ := f3 rfl
           clear f3 f4
           go_wp2_with (first
             | (go_at_call 24; refine (Ht.out _ _ _ HIt.out).mono ?_; rw [HT.out]; rintro e w3 ⟨rfl, rfl⟩)
             | (go_at_call 19; refine (known_any _).mono ?_; rintro e w3 ⟨rfl, hk⟩; have Hk3 := Lib.hid (Hkp.out.trans hk); clear hk))
           go_ret
           exact ⟨ret_bool (by simp), Hk3.out⟩
       · obtain ⟨rfl, rfl⟩ := Hbad.out hc0
         generalize checkG l a2 = c at hc0 HT ⊢
         go_wp2_with (first
             | (go_at_call 24; refine (Ht.out _ _ _ HIt.out).mono ?_; rw [HT.out]; rintro e w3 ⟨rfl, rfl⟩)
             | (go_at_call 19; refine (known_any _).mono ?_; rintro e w3 ⟨rfl, hk⟩; have Hk3 := Lib.hid (Hkp.out.trans hk); clear hk))
         go_ret
         exact ⟨ret_bool (by simp), Hk3.out⟩)
end Go.Proofs.Ytdndehlhodigoaa
