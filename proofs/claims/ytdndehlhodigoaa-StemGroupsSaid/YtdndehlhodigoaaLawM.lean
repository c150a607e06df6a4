/- The law of groups: the walk itself. -/
import Derived.Test.YtdndehlhodigoaaLawL
namespace Go.Proofs.Ytdndehlhodigoaa
open Go Go.RowKit Go.Shelf

theorem owns_drewN {w : World} {B m k : Nat} {e : TypeId} {u : Value} {xs : List Value} (h : w.ownsRow B e m u k xs) (n : Nat) : (w.drewN n).ownsRow B e m u k xs := by
  have hh : (w.drewN n).heap = w.heap := by simp
  unfold World.ownsRow
  rw [hh]
  exact h
theorem take_sv {L : List Src} {k : Nat} {s : Src} {v : Value} (h : L[k]? = some s) (hv : sv s = v) : (L.take (k + 1)).map sv = (L.take k).map sv ++ [v] := by
  rw [List.take_add_one, h]
  simp [hv]
theorem flat_fl {L : List Src} {k : Nat} {s : Src} (h : L[k]? = some s) : flatG (fl (L.take (k + 1))) = flatG (fl (L.take k)) ++ s.1.2.1 := by
  have h' : (fl L)[k]? = some s.1 := by unfold fl; rw [List.getElem?_map, h]; rfl
  rw [fl_take, fl_take, flat_step h']
theorem src_all {w : World} {a : Option Addr} {L : List Src} (h : SrcAt w a L) : ∀ s ∈ L, SrcOk w s := by
  intro s hs
  rcases h with rfl | ⟨b, off, _, h⟩
  · cases hs
  · obtain ⟨j, hj⟩ := List.mem_iff_getElem?.1 hs
    exact (h j s hj).2
theorem src_len {w : World} {L : List Src} (h : ∀ s ∈ L, SrcOk w s) (h8 : L.length ≤ 8) (k : Nat) : (flatG (fl (L.take k))).length ≤ 48 := by
  have := flat_len (fl (L.take k)) (fun p hp => by
    obtain ⟨s, hs, rfl⟩ := List.mem_map.1 hp
    have := (h s (List.mem_of_mem_take hs)).1
    omega)
  simp only [fl, List.length_map, List.length_take] at this ⊢
  omega

set_option maxRecDepth 100000 in
set_option maxHeartbeats 4000000 in
theorem walk_StemGroups (a0 : Option Addr) (len0 cap0 : Nat) (a1 : Option Addr) (len1 cap1 : Nat) (z1 : List Int) (a2_0 a2_1 : Int) (w : World) (w0 : IsRows w a0 len0 cap0) (w1 : IsRow .i64 w a1 len1 cap1 z1) (_w2_0 : (Lit.int .i64 a2_0).wf = true) (_w2_1 : (Lit.int .i64 a2_1).wf = true) :
    Calls Try.prog 10 #[.slice a0 len0 cap0, .slice a1 len1 cap1, .agg #[.int .i64 a2_0, .int .i64 a2_1]] w fun e w' => e = .returned (.bool true) ∧ Kp w w' := by
  have hc := cut8 w0
  have hd := cut8i w1
  obtain ⟨i0, hi, hz0, hz1, hz2⟩ := info_parts Try.info_int
  obtain ⟨i1, hi', hz0', hz1', hz2'⟩ := info_parts Try.info_slice
  have Hi := Lib.hid hi
  have Hz0 := Lib.hid hz0
  have Hz1 := Lib.hid hz1
  have Hz2 := Lib.hid hz2
  have Ji := Lib.hid hi'
  have Jz0 := Lib.hid hz0'
  have Jz1 := Lib.hid hz1'
  have Jz2 := Lib.hid hz2'
  clear w0 w1 _w2_0 _w2_1 hi hz0 hz1 hz2 hi' hz0' hz1' hz2'
  rcases hc with ⟨h12, L, hL, hS, hc, hm⟩ | ⟨h12, L, hL, hS, hc, hm⟩ <;>
  rcases hd with ⟨g12, l, hl, hI, gc, gm⟩ | ⟨g12, l, hl, hI, gc, gm⟩ <;>
  (obtain ⟨N, hN⟩ : ∃ N : Nat, L.length = N := ⟨_, rfl⟩
   have hN1 : N ≤ 8 := by omega
   have hN2 : N ≤ len0 := by omega
   have hN3 : (len0 ≤ N ∨ 8 ≤ N) := by omega
   obtain ⟨M, hM⟩ : ∃ M : Nat, l.length = M := ⟨_, rfl⟩
   have hM1 : M ≤ 8 := by omega
   have hM2 : M ≤ len1 := by omega
   have hM3 : (len1 ≤ M ∨ 8 ≤ M) := by omega
   have HN := Lib.hid hN
   have HM := Lib.hid hM
   have HI := Lib.hid hI
   obtain ⟨hb, Hb⟩ : ∃ hb : Option (Nat × Nat), Hid (match hb with | none => N = 0 | some (b, off) => a0 = some ⟨b, off, none⟩ ∧ ∀ j s, L[j]? = some s → w.cell? ⟨b, off + j, none⟩ = some (.slice s.1.1 s.2 s.1.2.2) ∧ SrcOk w s) := by
     rcases hS with h | ⟨b, off, h, hcell⟩
     · exact ⟨none, Lib.hid (by rw [← hN, h]; rfl)⟩
     · exact ⟨some (b, off), Lib.hid ⟨h, hcell⟩⟩
   obtain ⟨hd, Hd⟩ : ∃ hd : Option (Nat × Nat), Hid (match hd with | none => M = 0 | some (b, off) => a1 = some ⟨b, off, none⟩ ∧ ∀ j x, l[j]? = some x → w.cell? ⟨b, off + j, none⟩ = some (.int .i64 x)) := by
     rcases hI with h | ⟨b, off, h, hcell⟩
     · exact ⟨none, Lib.hid (by rw [← hM, h]; rfl)⟩
     · exact ⟨some (b, off), Lib.hid ⟨h, hcell⟩⟩
   have Hall := Lib.hid (src_all hS)
   have H48 := Lib.hid (src_len (src_all hS) (by omega))
   clear hL hl hN hM hS hI
   have hmk : ∀ W : World, (Instr.makeSlice 61 (.int .i64 0) (.int .i64 0)).run Try.prog W = .ok (.slice (some ⟨W.heap.size, 0, none⟩) 0 0) (W.alloc (.cells #[] 22)) := fun _ => by kernel_rfl
   go_enter Try.func10, Try.ntmps10
   go_wp2_with fail
   go_quiet (fail)
   go_wp2_with fail
   obtain ⟨W0, hW0⟩ : ∃ W0, (w.alloc (.cells #[.int .i64 a2_0, .int .i64 a2_1] 23)).drewN nq = W0 := ⟨_, rfl⟩
   have Hbox := Lib.hid (show HasRow W0 w.heap.size #[.int .i64 a2_0, .int .i64 a2_1] 23 from by rw [← hW0]; exact (HasRow.new _ _ _).kp (Kp.drewN _ _))
   have Hk0 := Lib.hid (show Kp w W0 from by rw [← hW0]; exact (Kp.alloc _ _).trans (Kp.drewN _ _))
   have hsz : W0.heap.size = w.heap.size + 1 := by rw [← hW0]; simp
   rw [hW0]
   clear hW0
   obtain ⟨B, hB⟩ : ∃ B, w.heap.size + 1 = B := ⟨_, rfl⟩
   rw [hB] at hsz ⊢
   have HB := Lib.hid hsz
   have Hwb := Lib.hid hB
   clear hsz hB hmk nq
   go_loopw [7, 8, 9, 10] (fun vA vS i _ wr => ∃ k : Nat, k ≤ N ∧ i = .int .i64 k ∧ wr.ownsRow B 3 1 vA (flatG (fl (L.take k))).length (ints (flatG (fl (L.take k)))) ∧ wr.ownsRow B 22 1 vS k ((L.take k).map sv) ∧ Kp W0 wr) (fun _ _ i _ _ => N - (intOf i).toNat)
   case atStart =>
     refine ⟨0, Nat.zero_le _, rfl, ⟨rfl, Or.inl ⟨rfl, rfl⟩⟩, ⟨rfl, Or.inr ⟨B, 0, #[], rfl, Nat.le_refl _, ?_, Nat.le_refl _, Nat.zero_le _, rfl, rfl⟩⟩, Kp.alloc _ _⟩
     have := HasRow.new W0 #[] 22
     rw [HB.out] at this
     exact this
   case round =>
     obtain ⟨k, hk, rfl, hownA, hownS, hkp⟩ := hrel
     have HownA := Lib.hid hownA
     have HownS := Lib.hid hownS
     have Hkp := Lib.hid hkp
     clear hownA hownS hkp
     by_cases hlt : k < N
     · cases hb with
       | none => exfalso; have := Hb.out; simp at this; omega
       | some q =>
         obtain ⟨b, off⟩ := q
         obtain ⟨ha, hcell⟩ := Hb.out
         subst ha
         obtain ⟨s, hx⟩ : ∃ s, L[k]? = some s := ⟨L[k]'(by rw [HN.out]; exact hlt), by simp⟩
         obtain ⟨hc1, hc2⟩ := hcell k s hx
         have hcx : wr.cell? ⟨b, off + k, none⟩ = some (.slice s.1.1 s.2 s.1.2.2) := (Below.cell (p := ⟨b, off + k, none⟩) (Hk0.out.trans Hkp.out) (cell_some_lt hc1)).trans hc1
         have Hok := Lib.hid (hc2.kp (Hk0.out.trans Hkp.out))
         have Hx := Lib.hid hx
         obtain ⟨⟨pa, pl, pc⟩, ln⟩ := s
         have hpc : ln ≤ pc := hc2.2.2.2.1
         have hpm : pc ≤ 9223372036854775807 := by have := hc2.2.2.2.2; unfold maxLen at this; simp only at this; omega
         have hpl := hc2.1
         simp only at hcx hpl hpc hpm
         clear hx hcell hc1 hc2
         have hcase : (ln ≤ 6 ∧ Hid (pl.length = ln)) ∨ (6 < ln ∧ Hid (pl.length = 6)) := by
           by_cases h6 : ln ≤ 6
           · exact Or.inl ⟨h6, Lib.hid (by omega)⟩
           · exact Or.inr ⟨by omega, Lib.hid (by omega)⟩
         clear hpl
         rcases hcase with ⟨h6, Hpl⟩ | ⟨h6, Hpl⟩ <;>
         (have hfl : (flatG (fl (L.take k))).length ≤ 48 := H48.out k
          have hml : pl.length ≤ 6 := by have := Hpl.out; omega
          cases pa with
          | none =>
            have hp0 : pc = 0 := Hok.out.2.2.1 rfl
            subst hp0
            have hl0 : ln = 0 := by omega
            subst hl0
            first
            | (exfalso; omega)
            | (have hpl0 : pl = [] := List.length_eq_zero_iff.1 Hpl.out
               subst hpl0
               (
                go_wp2_with fail
                go_quiet (fail)
                obtain ⟨W1, hW1⟩ : ∃ W1, wr.drewN nq = W1 := ⟨_, rfl⟩
                have hszw : wr.heap.size = W1.heap.size := by rw [← hW1]; simp
                have h1 := owns_drewN HownA.out nq
                have h2 := owns_drewN HownS.out nq
                rw [hW1] at h1 h2
                have HA1 := Lib.hid h1
                have HS1 := Lib.hid h2
                have Hkp1 := Lib.hid (show Kp W0 W1 from by rw [← hW1]; exact Hkp.out.trans (Kp.drewN _ _))
                rw [hW1]
                clear hW1 hcx hszw h1 h2
                go_wp2_with (first
                  | (at_builtin; (refine wpList_append_own _ rfl _ _ 61 rfl B 22 i1 (.slice none 0 0) 1 24 Try.underlying61 Ji.out Jz0.out Jz1.out Jz2.out rfl (by decide) _ k ((L.take k).map sv) rfl (HS1.out.alloc _) ⟨W1.heap.size, 0, none⟩ 1 1 [_] rfl rfl (new_one _ _ _) ?_ (by unfold maxLen; omega) (by omega) (by have := Hkp1.out.size; have := HB.out; simp only [World.size_alloc]; omega) ?_); (intro u hu; simp at hu; subst hu; rfl); (intro v' w3 hown1 hgrow _; have HS2 := Lib.hid hown1; have HA2 := Lib.hid ((HA1.out.alloc _).kept hgrow (owns_apart HA1.out HS1.out (by decide))); have Hkp2 : Hid (Kp W0 w3) := Lib.hid (Below.grown (Hkp1.out.trans (Kp.alloc _ _)) hgrow (by have := Hkp1.out.size; simp only [World.size_alloc]; omega) (by rw [HB.out]; exact owns_block HS1.out)); clear hown1 hgrow))
                  | (at_builtin; (refine wpList_append_own_none rfl _ _ 22 rfl B 3 i0 1 Try.underlying22 Hi.out _ (flatG (fl (L.take k))).length (ints (flatG (fl (L.take k)))) rfl HA2.out rfl ?_)))
                go_roundw
                case rel => exact ⟨k + 1, by omega, by go_num, by rw [flat_fl Hx.out]; simpa using HA2.out, by rw [take_sv Hx.out rfl]; exact HS2.out, Hkp2.out⟩
                case measure => simp [intOf]; omega)
)
          | some ad =>
            have Hok0 : Hid (IsInts w (some ad) pl) := Lib.hid (Hall.out _ (List.mem_of_getElem? Hx.out)).2.1
            (
             go_wp2_with fail
             go_quiet (fail)
             obtain ⟨W1, hW1⟩ : ∃ W1, wr.drewN nq = W1 := ⟨_, rfl⟩
             have hszw : wr.heap.size = W1.heap.size := by rw [← hW1]; simp
             have h1 := owns_drewN HownA.out nq
             have h2 := owns_drewN HownS.out nq
             rw [hW1] at h1 h2
             have HA1 := Lib.hid h1
             have HS1 := Lib.hid h2
             have Hkp1 := Lib.hid (show Kp W0 W1 from by rw [← hW1]; exact Hkp.out.trans (Kp.drewN _ _))
             rw [hW1]
             clear hW1 hcx hszw h1 h2
             go_wp2_with (first
               | (at_builtin; (refine wpList_append_own _ rfl _ _ 61 rfl B 22 i1 (.slice none 0 0) 1 24 Try.underlying61 Ji.out Jz0.out Jz1.out Jz2.out rfl (by decide) _ k ((L.take k).map sv) rfl (HS1.out.alloc _) ⟨W1.heap.size, 0, none⟩ 1 1 [_] rfl rfl (new_one _ _ _) ?_ (by unfold maxLen; omega) (by omega) (by have := Hkp1.out.size; have := HB.out; simp only [World.size_alloc]; omega) ?_); (intro u hu; simp at hu; subst hu; rfl); (intro v' w3 hown1 hgrow _; have HS2 := Lib.hid hown1; have HA2 := Lib.hid ((HA1.out.alloc _).kept hgrow (owns_apart HA1.out HS1.out (by decide))); have Hkp2 : Hid (Kp W0 w3) := Lib.hid (Below.grown (Hkp1.out.trans (Kp.alloc _ _)) hgrow (by have := Hkp1.out.size; simp only [World.size_alloc]; omega) (by rw [HB.out]; exact owns_block HS1.out)); clear hown1 hgrow))
               | (at_builtin; (refine wpList_append_own _ rfl _ _ 22 rfl B 3 i0 (.int .i64 0) 1 8 Try.underlying22 Hi.out Hz0.out Hz1.out Hz2.out rfl (by decide) _ (flatG (fl (L.take k))).length (ints (flatG (fl (L.take k)))) rfl HA2.out ad _ pc (ints pl) rfl (by simp [ints, Hpl.out]) (ints_news (IsInts.kp Hok0.out (Hk0.out.trans Hkp2.out))) (ints_one pl) (by unfold maxLen; omega) (by omega) (by have := Hkp2.out.size; have := HB.out; omega) ?_); (intro v' w4 hown1 hgrow _; have HA3 := Lib.hid hown1; have HS3 := Lib.hid (HS2.out.kept hgrow (owns_apart HS2.out HA2.out (by decide))); have Hkp3 : Hid (Kp W0 w4) := Lib.hid (Below.grown Hkp2.out hgrow Hkp2.out.size (by rw [HB.out]; exact owns_block HA2.out)); clear hown1 hgrow)))
             go_roundw
             case rel => exact ⟨k + 1, by omega, by go_num, by rw [flat_fl Hx.out, List.length_append]; simpa [ints, Hpl.out] using HA3.out, by rw [take_sv Hx.out rfl]; simpa [sv, Hpl.out] using HS3.out, Hkp3.out⟩
             case measure => simp [intOf]; omega)
)
     · obtain rfl : k = N := by omega
       have hfull : L.take k = L := List.take_of_length_le (by rw [HN.out]; exact Nat.le_refl _)
       have hownA := HownA.out
       have hownS := HownS.out
       rw [hfull] at hownA hownS
       have hk2 := Hk0.out.trans Hkp.out
       obtain ⟨aA, cA, rfl, hIA, _⟩ := owns_ints hownA
       obtain ⟨aS, cS, rfl, hRS, hlS⟩ := owns_rows hownS (fun s hs => (Hall.out s hs).kp hk2)
       have h48 := H48.out k
       rw [hfull] at h48
       have hlS6 : ∀ p ∈ fl L, p.2.1.length ≤ 6 := fun p hp => by
         obtain ⟨s, hs, rfl⟩ := List.mem_map.1 hp
         have := (Hall.out s hs).1
         omega
       have hGU := fun (X Y : Int) (W : World) (hk : Kp wr W) => GroupUp_any aS (fl L) cS a1 l cap1 X Y W (hRS.kp hk) (by omega) hlS6 ((HI.out.kp hk2).kp hk) (by have := HM.out; omega)
       have hup := fun (W : World) (hk : Kp wr W) => up_any aA (flatG (fl L)) cA (firstSet l) a2_0 a2_1 W (hIA.kp hk) (by omega)
       rw [hlS, HM.out] at hGU
       have HGU := Lib.hid hGU
       have Hup := Lib.hid hup
       have Hbox2 := Lib.hid (Hbox.out.kp Hkp.out)
       have Hk2 := Lib.hid hk2
       clear hownA hownS hIA hRS hlS h48 hlS6 hGU hup hk2 hfull HownA HownS
       go_wp2_with fail
       first
       | (rw [show M = len1 from by omega] at HGU)
       | (rw [show M = 8 from by omega] at HGU)
       go_loop [11, 12] (fun s i => ∃ j : Nat, j ≤ M ∧ i = .int .i64 ((M : Int) - 1 - j) ∧ s = .int .i64 (firstSet (l.drop (M - j)))) (fun _ i => (intOf i + 1).toNat)
       case atStart =>
         refine ⟨0, Nat.zero_le _, by congr 1; omega, ?_⟩
         have : l.drop (M - 0) = [] := List.drop_eq_nil_of_le (by rw [HM.out]; omega)
         rw [this]
         rfl
       case round =>
         obtain ⟨j, hj, rfl, rfl⟩ := hrel
         by_cases hlt2 : j < M
         · cases hd with
           | none => exfalso; have := Hd.out; simp at this; omega
           | some q =>
             obtain ⟨b', off'⟩ := q
             obtain ⟨ha', hcell'⟩ := Hd.out
             subst ha'
             obtain ⟨i', hi'⟩ : ∃ i' : Nat, M - 1 - j = i' := ⟨_, rfl⟩
             have hij : (M : Int) - 1 - j = i' := by omega
             have hi'M : i' < M := by omega
             obtain ⟨x, hx⟩ : ∃ x, l[i']? = some x := ⟨l[i']'(by rw [HM.out]; exact hi'M), by simp⟩
             have hcx : wr.cell? ⟨b', off' + i', none⟩ = some (.int .i64 x) := (Below.cell (p := ⟨b', off' + i', none⟩) Hk2.out (cell_some_lt (hcell' i' x hx))).trans (hcell' i' x hx)
             have hst := first_step hx
             rw [show i' + 1 = M - j from by omega] at hst
             have Hst := Lib.hid hst
             have Hij := Lib.hid hij
             rw [hij]
             clear hx hcell' hst hi' hij
             have hx3 : (x = 1) ∨ (x = 2) ∨ (¬ x = 1 ∧ ¬ x = 2) := by omega
             rcases hx3 with rfl | rfl | ⟨hx1, hx2⟩ <;>
             (go_wp2
              all_goals
                go_round
                case rel =>
                  refine ⟨j + 1, by omega, by have := Hij.out; congr 1; omega, ?_⟩
                  rw [show M - (j + 1) = i' from by have := Hij.out; omega, Hst.out]
                  first | (simp [isSet, *]; done) | (rename_i hh; exfalso; simp [hx1, hx2] at hh; done)
                case measure => have := Hij.out; simp [intOf])
         · obtain rfl : j = M := by omega
           rw [Nat.sub_self, List.drop_zero]
           go_wp2_with fail
           have hr := Hbox2.out
           have k0 := cell_rg (hr.cell 0)
           have k1 := cell_rg (hr.cell 1)
           clear hr
           refine wp_region_quiet_below (by kernel_rfl) (by kernel_rfl) ?_
           repeat (go_big_quiet_step (first
             | (go_at_call 19; exact rg_of (known_any _))
             | (go_at_call 36; exact rg_of (HGU.out _ _ _ (kp_rg _ _ _)))
             | (go_at_call 21; exact rg_same (Hup.out _ (kp_rg _ _ _)))))
           refine wpQuiet_nil ?_
           intro _ hw'
           obtain ⟨⟨dq, osq⟩, hw''⟩ := hw'
           subst hw''
           go_wp2
           go_ret
           exact ⟨ret_bool (by simp), Hk2.out.trans (kp_rg _ _ _)⟩)

end Go.Proofs.Ytdndehlhodigoaa
