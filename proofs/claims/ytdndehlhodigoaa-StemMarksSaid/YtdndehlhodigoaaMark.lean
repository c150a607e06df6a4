/- The marks of rests: the contract of stem.RestMark. -/
import Derived.RegionTactic
import Derived.Test.YtdndehlhodigoaaLawD
namespace Go.Proofs.Ytdndehlhodigoaa
open Go Go.RowKit Go.Shelf

def zeroMark : Array Value := #[.int .i64 0, .int .i64 0, .int .i64 0, .int .i64 0, .int .i64 0, .int .i64 0, .int .i64 0, .int .i64 0, .int .i64 0, .int .i64 0, .int .i64 0, .int .i64 0]
def markCells (class' staff column glyph site number l b r t : Int) : Array Value :=
  #[.int .i64 class', .int .i64 0, .int .i64 staff, .int .i64 column, .int .i64 column, .int .i64 glyph, .int .i64 site, .int .i64 number, .int .i64 l, .int .i64 b, .int .i64 r, .int .i64 t]
theorem sizeMark : (Try.prog.info? 43).map (·.size) = some 12 := by kernel_rfl
def rmErr (staff column lg dots pos : Int) : Int := if staff < 0 ∨ column < 0 ∨ pos < -200 ∨ 200 < pos then 2 else valG lg dots
def rmCells (site number staff column lg pos : Int) : Array Value :=
  markCells 22 staff column (lg + 6) site number (boxG (lg + 6).toNat).l ((boxG (lg + 6).toNat).b + 32 * pos) (boxG (lg + 6).toNat).r ((boxG (lg + 6).toNat).t + 32 * pos)
def rmVal (site number staff column lg dots pos : Int) : Value :=
  .tuple #[.agg (if rmErr staff column lg dots pos = 0 then rmCells site number staff column lg pos else zeroMark), .int .i64 (rmErr staff column lg dots pos)]

theorem row3 (w : World) (a b : Obj) (A : Array Value) (t : TypeId) : HasRow (((w.alloc a).alloc b).alloc (.cells A t)) (w.heap.size + 1 + 1) A t := by
  have := HasRow.new ((w.alloc a).alloc b) A t
  rwa [World.size_alloc, World.size_alloc] at this

theorem rm_cases (staff column pos : Int) : (staff < 0) ∨ (¬ staff < 0 ∧ column < 0) ∨ ((¬ staff < 0 ∧ ¬ column < 0) ∧ ¬ pos = clamp pos ∧ (pos < -200 ∨ 200 < pos)) ∨ ((¬ staff < 0 ∧ ¬ column < 0) ∧ clamp pos = pos ∧ -200 ≤ pos ∧ pos ≤ 200) := by unfold clamp; omega

set_option maxRecDepth 100000 in
set_option maxHeartbeats 1000000 in
theorem RestMark_rng (site number staff column lg dots pos : Int) (w : World) (h : staff < 0 ∨ column < 0 ∨ pos < -200 ∨ 200 < pos) :
    Calls Try.prog 29 #[.agg #[.int .i64 site, .int .i64 number], .int .i64 staff, .int .i64 column, .agg #[.int .i64 lg, .int .i64 dots], .int .i64 pos] w fun e w' => e = .returned (.tuple #[.agg zeroMark, .int .i64 2]) ∧ Kp w w' := by
  have Hs := Lib.hid sizeMark
  have Hm := Lib.hid (row3 w (.cells #[.int .i64 site, .int .i64 number] 39) (.cells #[.int .i64 lg, .int .i64 dots] 28) zeroMark 43)
  rcases rm_cases staff column pos with h1 | ⟨h1, h2⟩ | ⟨⟨h1, h2⟩, h3, h4⟩ | ⟨⟨h1, h2⟩, h3, h4, h5⟩
  · clear h
    go_enter Try.func29, Try.ntmps29
    go_wp2_with (refine wpList_store_at rfl 43 (.tmp 10) (.tmp 28) rfl (w.heap.size + 1 + 1) zeroMark zeroMark 43 rfl rfl Hm.out Hs.out rfl rfl ?_)
    exact bodyPost_ret (results_cell_row_tmp rfl _ _ (w.heap.size + 1 + 1) 43 zeroMark (0, 0) _ rfl (setRow_heap _ _ _ _ _ _ Hm.out) Try.underlying43 rfl Hs.out) rfl ⟨rfl, (((Kp.alloc _ _).trans (Kp.alloc _ _)).trans (Kp.alloc _ _)).setRow (by omega) _⟩
  · clear h
    go_enter Try.func29, Try.ntmps29
    go_wp2_with (refine wpList_store_at rfl 43 (.tmp 10) (.tmp 28) rfl (w.heap.size + 1 + 1) zeroMark zeroMark 43 rfl rfl Hm.out Hs.out rfl rfl ?_)
    exact bodyPost_ret (results_cell_row_tmp rfl _ _ (w.heap.size + 1 + 1) 43 zeroMark (0, 0) _ rfl (setRow_heap _ _ _ _ _ _ Hm.out) Try.underlying43 rfl Hs.out) rfl ⟨rfl, (((Kp.alloc _ _).trans (Kp.alloc _ _)).trans (Kp.alloc _ _)).setRow (by omega) _⟩
  · clear h h4
    go_enter Try.func29, Try.ntmps29
    go_wp2_with (first
      | (go_at_call 60; refine (permitted_any _ _).mono ?_; rintro e w' ⟨rfl, rfl⟩)
      | (refine wpList_store_at rfl 43 (.tmp 10) (.tmp 28) rfl (w.heap.size + 1 + 1) zeroMark zeroMark 43 rfl rfl Hm.out Hs.out rfl rfl ?_))
    exact bodyPost_ret (results_cell_row_tmp rfl _ _ (w.heap.size + 1 + 1) 43 zeroMark (0, 0) _ rfl (setRow_heap _ _ _ _ _ _ Hm.out) Try.underlying43 rfl Hs.out) rfl ⟨rfl, (((Kp.alloc _ _).trans (Kp.alloc _ _)).trans (Kp.alloc _ _)).setRow (by omega) _⟩
  · exfalso; omega

set_option maxRecDepth 100000 in
set_option maxHeartbeats 1000000 in
theorem RestMark_val (site number staff column lg dots pos : Int) (w : World) (h1 : ¬ staff < 0) (h2 : ¬ column < 0) (h4 : -200 ≤ pos) (h5 : pos ≤ 200) (hv : valG lg dots ≠ 0) :
    Calls Try.prog 29 #[.agg #[.int .i64 site, .int .i64 number], .int .i64 staff, .int .i64 column, .agg #[.int .i64 lg, .int .i64 dots], .int .i64 pos] w fun e w' => e = .returned (.tuple #[.agg zeroMark, .int .i64 (valG lg dots)]) ∧ Kp w w' := by
  have Hs := Lib.hid sizeMark
  have Hm := Lib.hid (row3 w (.cells #[.int .i64 site, .int .i64 number] 39) (.cells #[.int .i64 lg, .int .i64 dots] 28) zeroMark 43)
  have Hcl : Hid (clamp pos = pos) := Lib.hid (by unfold clamp; omega)
  obtain ⟨V, hV⟩ : ∃ V, valG lg dots = V := ⟨_, rfl⟩
  rw [hV] at hv ⊢
  have HV := Lib.hid hV
  clear hV
  go_enter Try.func29, Try.ntmps29
  go_wp2_with (first
      | (go_at_call 60; refine (permitted_any _ _).mono ?_; rw [Hcl.out]; rintro e w' ⟨rfl, rfl⟩)
      | (go_at_call 30; refine (Check_any _ _ _).mono ?_; rw [HV.out]; rintro e w' ⟨rfl, hk⟩; have Hk := Lib.hid hk; have Hr := Lib.hid (Hm.out.kp hk); clear hk)
      | (refine wpList_store_at rfl 43 (.tmp 10) (.tmp 33) rfl (w.heap.size + 1 + 1) zeroMark zeroMark 43 rfl rfl Hr.out Hs.out rfl rfl ?_))
  exact bodyPost_ret (results_cell_row_tmp rfl _ _ (w.heap.size + 1 + 1) 43 zeroMark (0, 0) _ rfl (setRow_heap _ _ _ _ _ _ Hr.out) Try.underlying43 rfl Hs.out) rfl ⟨rfl, ((((Kp.alloc _ _).trans (Kp.alloc _ _)).trans (Kp.alloc _ _)).trans Hk.out).setRow (by omega) _⟩

set_option maxRecDepth 100000 in
set_option maxHeartbeats 1000000 in
theorem RestMark_ok (site number staff column lg dots pos : Int) (w : World) (h1 : ¬ staff < 0) (h2 : ¬ column < 0) (h4 : -200 ≤ pos) (h5 : pos ≤ 200) (hv : valG lg dots = 0) :
    Calls Try.prog 29 #[.agg #[.int .i64 site, .int .i64 number], .int .i64 staff, .int .i64 column, .agg #[.int .i64 lg, .int .i64 dots], .int .i64 pos] w fun e w' => e = .returned (.tuple #[.agg (rmCells site number staff column lg pos), .int .i64 0]) ∧ Kp w w' := by
  have Hs := Lib.hid sizeMark
  have Hm := Lib.hid (row3 w (.cells #[.int .i64 site, .int .i64 number] 39) (.cells #[.int .i64 lg, .int .i64 dots] 28) zeroMark 43)
  have Hcl : Hid (clamp pos = pos) := Lib.hid (by unfold clamp; omega)
  have hlg : -1 ≤ lg ∧ lg ≤ 8 := by unfold valG at hv; split at hv <;> omega
  obtain ⟨c, hcd⟩ : ∃ c, (lg + 6).toNat = c := ⟨_, rfl⟩
  have hc1 : 1 ≤ c := by omega
  have hc2 : c ≤ 68 := by omega
  have hlc : lg + 6 = c := by omega
  have hrest : restG lg = .tuple #[.int .i64 (c : Int), .int .i64 0] := by unfold restG; rw [if_neg (by omega), hlc]
  obtain ⟨bl, bb, br, bt, hbox⟩ : ∃ bl bb br bt, boxG c = ⟨bl, bb, br, bt⟩ := ⟨_, _, _, _, rfl⟩
  have hbs := box_rest lg hlg.1 hlg.2
  rw [hcd, hbox] at hbs
  obtain ⟨⟨hb1, hb2⟩, hb3, hb4⟩ := hbs
  simp only at hb1 hb2 hb3 hb4
  have Hbox : Hid ((boxG c).cells = #[.int .i64 bl, .int .i64 bb, .int .i64 br, .int .i64 bt]) := Lib.hid (by rw [hbox]; rfl)
  have Hput : Hid (rmCells site number staff column lg pos = markCells 22 staff column c site number bl (bb + 32 * pos) br (bt + 32 * pos)) := Lib.hid (by unfold rmCells; rw [hcd, hbox, hlc])
  have Hrest := Lib.hid hrest
  have Hv := Lib.hid hv
  have Hid0 := Lib.hid ((HasRow.new w #[.int .i64 site, .int .i64 number] 39).alloc (.cells #[.int .i64 lg, .int .i64 dots] 28))
  have Hv0 : Hid (HasRow ((w.alloc (.cells #[.int .i64 site, .int .i64 number] 39)).alloc (.cells #[.int .i64 lg, .int .i64 dots] 28)) (w.heap.size + 1) #[.int .i64 lg, .int .i64 dots] 28) := Lib.hid (by
    have := HasRow.new (w.alloc (.cells #[.int .i64 site, .int .i64 number] 39)) #[.int .i64 lg, .int .i64 dots] 28; rwa [World.size_alloc] at this)
  clear hrest hv hcd hbox hlc
  go_enter Try.func29, Try.ntmps29
  go_wp2_with (first
      | (go_at_call 60; refine (permitted_any _ _).mono ?_; rw [Hcl.out]; rintro e w' ⟨rfl, rfl⟩)
      | (go_at_call 30; refine (Check_any _ _ _).mono ?_; rw [Hv.out]; rintro e w1 ⟨rfl, hk⟩; have Hk : Hid (Kp w w1) := Lib.hid ((((Kp.alloc _ _).trans (Kp.alloc _ _)).trans (Kp.alloc _ _)).trans hk); have Hr := Lib.hid (Hm.out.kp hk); have Hi := Lib.hid ((Hid0.out.alloc _).kp hk); have rv := (Hv0.out.alloc _).kp hk; have cv0 : w1.cell? ⟨w.heap.size + 1, 0, none⟩ = some (.int .i64 lg) := rv.cell 0; have lv := rv.lt; clear hk rv)
      | (go_at_call 31; refine (Rest_any _ _).mono ?_; rw [Hrest.out]; rintro e w2 ⟨rfl, rfl⟩)
      | (go_at_call 32; refine (box_in c _ hc1 hc2).mono ?_; rw [Hbox.out]; rintro e w2 ⟨rfl, hk⟩; have Hk2 := Lib.hid (Hk.out.trans hk); have Hr2 := Lib.hid (Hr.out.kp hk); have ri := Hi.out.kp hk; have ci0 : w2.cell? ⟨w.heap.size, 0, none⟩ = some (.int .i64 site) := ri.cell 0; have ci1 : w2.cell? ⟨w.heap.size, 1, none⟩ = some (.int .i64 number) := ri.cell 1; have li := ri.lt; clear hk ri cv0 lv)
      | (refine wpList_store_at rfl 43 (.tmp 10) (.tmp 72) rfl (w.heap.size + 1 + 1) _ zeroMark 43 rfl rfl (Hr2.out.alloc _) Hs.out rfl rfl ?_))
  refine bodyPost_ret (results_cell_row_tmp rfl _ _ (w.heap.size + 1 + 1) 43 _ (0, 0) _ rfl (setRow_heap _ _ _ _ _ _ (Hr2.out.alloc _)) Try.underlying43 rfl Hs.out) rfl ⟨?_, ?_⟩
  · rw [Hput.out, show bb + 32 * pos = bb + pos * 32 by omega, show bt + 32 * pos = bt + pos * 32 by omega]
    rfl
  · exact (Hk2.out.trans (Kp.alloc _ _)).setRow (by omega) _

/-- stem.RestMark, whatever the arguments. -/
theorem RestMark_all (site number staff column lg dots pos : Int) (w : World) :
    Calls Try.prog 29 #[.agg #[.int .i64 site, .int .i64 number], .int .i64 staff, .int .i64 column, .agg #[.int .i64 lg, .int .i64 dots], .int .i64 pos] w fun e w' => e = .returned (rmVal site number staff column lg dots pos) ∧ Kp w w' := by
  unfold rmVal rmErr
  by_cases h : staff < 0 ∨ column < 0 ∨ pos < -200 ∨ 200 < pos
  · simp only [if_pos h]
    exact RestMark_rng site number staff column lg dots pos w h
  · simp only [if_neg h]
    by_cases hv : valG lg dots = 0
    · rw [if_pos hv, hv]
      exact RestMark_ok site number staff column lg dots pos w (by omega) (by omega) (by omega) (by omega) hv
    · rw [if_neg hv]
      exact RestMark_val site number staff column lg dots pos w (by omega) (by omega) (by omega) (by omega) hv
end Go.Proofs.Ytdndehlhodigoaa
