/- The contract of glyph.Box. -/
import Derived.Test.YtejmliomagnjfaaInside
namespace Go.Proofs.Ytejmliomagnjfaa
open Go Go.RowKit Go.Shelf

attribute [local go_sem] Oper.semAt_some

structure Bx where
  l : Int
  b : Int
  r : Int
  t : Int
deriving DecidableEq
def Bx.add (q : Bx) (p : Int × Int) : Bx := ⟨min q.l p.1, min q.b p.2, max q.r p.1, max q.t p.2⟩
def Bx.adds (q : Bx) (l : List (Int × Int)) : Bx := l.foldl Bx.add q
def boxOf (q : Bx) (l : List Sh) : Bx := l.foldl (fun q s => q.adds s.pts) q
def Bx.start : Bx := ⟨100000, 100000, -100000, -100000⟩
def boxG (code : Nat) : Bx := boxOf Bx.start (shapesAt code)
def Bx.cells (q : Bx) : Array Value := #[.int .i64 q.l, .int .i64 q.b, .int .i64 q.r, .int .i64 q.t]

theorem sizeBox : (Try.prog.info? 52).map (·.size) = some 4 := by kernel_rfl

set_option maxRecDepth 100000 in
set_option maxHeartbeats 400000 in
theorem box_out (code : Int) (w : World) (h : code < 1 ∨ 68 < code) :
    Calls Try.prog 28 #[.int .i64 code] w fun e w' => e = .returned (.tuple #[.agg #[.int .i64 0, .int .i64 0, .int .i64 0, .int .i64 0], .int .i64 11]) ∧ Kp w w' := by
  have hs := Lib.hid sizeBox
  go_enter Try.func28, Try.ntmps28
  go_wp2_with (go_at_call 33; refine (get_out _ _ h).mono ?_; rintro e w' ⟨rfl, hk⟩; have p0 := (HasRow.new w #[.int .i64 0, .int .i64 0, .int .i64 0, .int .i64 0] 52).kp hk; have q0 : w'.cell? ⟨w.heap.size, 0, none⟩ = some (.int .i64 0) := p0.cell 0; have q1 : w'.cell? ⟨w.heap.size, 1, none⟩ = some (.int .i64 0) := p0.cell 1; have q2 : w'.cell? ⟨w.heap.size, 2, none⟩ = some (.int .i64 0) := p0.cell 2; have q3 : w'.cell? ⟨w.heap.size, 3, none⟩ = some (.int .i64 0) := p0.cell 3; have f0 := p0.frozen 0; have f1 := p0.frozen 1; have f2 := p0.frozen 2; have f3 := p0.frozen 3; have l0 := p0.lt; have P0 := Lib.hid p0; have Hk := Lib.hid hk; clear hk p0)
  refine bodyPost_ret (results_cell_row_tmp rfl _ _ w.heap.size 52 #[.int .i64 0, .int .i64 0, .int .i64 0, .int .i64 0] (0, 0) _ rfl ?_ Try.underlying52 rfl hs.out) rfl ⟨rfl, ?_⟩
  · exact ((((P0.out.set 0 _).set 1 _).set 2 _).set 3 _).alloc _
  · exact (((((((Kp.alloc _ _).trans Hk.out).set (Nat.le_refl _) _).set (Nat.le_refl _) _).set (Nat.le_refl _) _).set (Nat.le_refl _) _)).trans (Kp.alloc _ _)

end Go.Proofs.Ytejmliomagnjfaa
