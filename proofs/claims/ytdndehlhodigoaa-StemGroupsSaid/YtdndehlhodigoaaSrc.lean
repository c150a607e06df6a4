/- A slice of slices of integers that came in. -/
import Derived.Deep.Slices
import Derived.Test.YtdndehlhodigoaaGroup
import Derived.Test.YtdndehlhodigoaaFlat
namespace Go.Proofs.Ytdndehlhodigoaa
open Go Go.RowKit Go.Shelf Go.ChangeShapes Go.WideShapes Go.ChangeAt

/-- A slice of slices of integers that came in: nil, or a row of slices, spare room too. -/
def IsRows (w : World) (a : Option Addr) (len cap : Nat) : Prop :=
  (a = none ∧ len = 0 ∧ cap = 0) ∨
  ∃ x, a = some x ∧ len ≤ cap ∧ cap ≤ maxLen ∧ ∀ i, i < cap → ∃ a' len' cap' z', w.cell? (x.add i) = some (.slice a' len' cap') ∧ IsRow .i64 w a' len' cap' z'

section
variable {H : Type} {enc : TypeId × Value → H} {P : Program} {w : World}
theorem open_rows {t e f : TypeId} {a : Option Addr} {len cap : Nat} {d : DataW H} {p : List MemPlace} (hu : P.underlying t = some (.slice e)) (he : P.underlying e = some (.slice f)) (hf : P.underlying f = some (.int .i64)) (hC : P.cellsOf e = 1) (hD : P.cellsOf f = 1)
    (h : DataW.Trod enc P w 0 (fun _ => true) true t (.slice a len cap) d p) : IsRows w a len cap := by
  obtain ⟨fuel, hf'⟩ := h
  rcases Go.Deep.open_slice1 hu hC hf' with ⟨hcs, _⟩ | ⟨a', l, c, m, n, V, D, Pl, hcs, _, hl, hm, hmm, _, hi⟩
  · simp [Value.cells] at hcs
    obtain ⟨rfl, rfl, rfl⟩ := hcs
    exact .inl ⟨rfl, rfl, rfl⟩
  · simp [Value.cells] at hcs
    obtain ⟨rfl, rfl, rfl⟩ := hcs
    simp only [if_true] at hmm
    subst hmm
    refine .inr ⟨a', rfl, hl, hm, fun i him => ?_⟩
    obtain ⟨hv, ht⟩ := hi i him
    rcases open_ints he hf hD ht with ⟨hcs, _⟩ | ⟨x, l', c', zs, hcs, _, hl', hm', hz, _, hcell, hwz⟩
    · simp at hcs
      exact ⟨none, 0, 0, [], by rw [hv, hcs], .inl ⟨rfl, rfl, rfl, rfl⟩⟩
    · simp at hcs
      exact ⟨some x, l', c', zs, by rw [hv, hcs], .inr ⟨_, rfl, hl', hm', by simpa using hz, hcell, hwz⟩⟩
end

/-- What a round of the loop over the rows sees: the slice as it lies there, and its first six elements. -/
abbrev Src := Sl × Nat
def SrcOk (w : World) (s : Src) : Prop := s.1.2.1.length = min s.2 6 ∧ IsInts w s.1.1 s.1.2.1 ∧ (s.1.1 = none → s.1.2.2 = 0) ∧ s.2 ≤ s.1.2.2 ∧ s.1.2.2 ≤ maxLen
def SrcAt (w : World) (a : Option Addr) (L : List Src) : Prop :=
  L = [] ∨ ∃ b off, a = some ⟨b, off, none⟩ ∧ ∀ j s, L[j]? = some s → w.cell? ⟨b, off + j, none⟩ = some (.slice s.1.1 s.2 s.1.2.2) ∧ SrcOk w s

theorem src_of {w : World} {a : Option Addr} {len cap : Nat} {z : List Int} (h : IsRow .i64 w a len cap z) : ∃ l : List Int, SrcOk w ((a, l, cap), len) := by
  obtain ⟨l, hl, hI, _, hc, hm⟩ := h.cut (min len 6) (by omega)
  refine ⟨l, hl, hI, fun ha => ?_, hc, hm⟩
  rcases h with ⟨_, _, hcap, _⟩ | ⟨x, hx, _⟩
  · exact hcap
  · simp only at ha; rw [ha] at hx; cases hx

theorem IsRows.cut {w : World} {a : Option Addr} {len cap : Nat} (h : IsRows w a len cap) (n : Nat) (hn : n ≤ len) :
    ∃ L : List Src, L.length = n ∧ SrcAt w a L ∧ len ≤ cap ∧ cap ≤ maxLen := by
  rcases h with ⟨rfl, rfl, rfl⟩ | ⟨x, rfl, hl, hm, hc⟩
  · exact ⟨[], by simp; omega, Or.inl rfl, by omega, by unfold maxLen; omega⟩
  · by_cases h0 : n = 0
    · subst h0; exact ⟨[], rfl, Or.inl rfl, hl, hm⟩
    · obtain ⟨b, off, spot⟩ := x
      have hspot : spot = none := by
        obtain ⟨_, _, _, _, hc0, _⟩ := hc 0 (by omega)
        simpa [Addr.add] using World.cell?_spot hc0
      subst hspot
      have hall : ∀ i, ∃ s : Src, i < cap → w.cell? ⟨b, off + i, none⟩ = some (.slice s.1.1 s.2 s.1.2.2) ∧ SrcOk w s := by
        intro i
        by_cases hi : i < cap
        · obtain ⟨a', len', cap', z', hv, hr⟩ := hc i hi
          obtain ⟨l, hs⟩ := src_of hr
          refine ⟨_, fun _ => ⟨?_, hs⟩⟩
          have : (⟨b, off, none⟩ : Addr).add i = ⟨b, off + i, none⟩ := by
            unfold Addr.add
            split
            · rename_i h0; subst h0; rfl
            · rfl
          rw [← this]
          exact hv
        · exact ⟨((none, [], 0), 0), fun h => absurd h hi⟩
      refine ⟨(List.range n).map fun i => (hall i).choose, by simp, Or.inr ⟨b, off, rfl, fun j s hj => ?_⟩, hl, hm⟩
      have hjn : j < n := by have := (List.getElem?_eq_some_iff.1 hj).1; simpa using this
      have : s = (hall j).choose := by
        rw [List.getElem?_map, List.getElem?_range hjn] at hj
        simpa using hj.symm
      subst this
      exact (hall j).choose_spec (by omega)

end Go.Proofs.Ytdndehlhodigoaa
