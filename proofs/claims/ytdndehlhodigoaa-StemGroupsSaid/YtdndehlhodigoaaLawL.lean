/- The law of groups: the walk. -/
import Derived.OwnWalk
import Derived.Test.YtdndehlhodigoaaSrc
namespace Go.Proofs.Ytdndehlhodigoaa
open Go Go.RowKit Go.Shelf

theorem Try.info_slice : (Try.prog.info? 22).map (fun i => (i.zero, i.size, i.bytes)) = some (some (.slice none 0 0), 1, 24) := by kernel_rfl

def sv (s : Src) : Value := .slice s.1.1 s.1.2.1.length s.1.2.2
def fl (L : List Src) : List Sl := L.map (·.1)
theorem fl_take (L : List Src) (k : Nat) : fl (L.take k) = (fl L).take k := by unfold fl; rw [List.map_take]
theorem owns_apart {w : World} {B C m n k j : Nat} {e f : TypeId} {u v : Value} {xs ys : List Value} (h : w.ownsRow B e m u k xs) (g : w.ownsRow C f n v j ys) (hne : e ≠ f) : u.ownBlock = none ∨ u.ownBlock ≠ v.ownBlock := by
  rcases h.2 with ⟨rfl, _⟩ | ⟨b, c, cur, rfl, _, hb, _⟩
  · exact Or.inl rfl
  · right
    rcases g.2 with ⟨rfl, _⟩ | ⟨b', c', cur', rfl, _, hb', _⟩
    · simp [Value.ownBlock]
    · simp only [Value.ownBlock, ne_eq, Option.some.injEq]
      intro he
      subst he
      rw [hb] at hb'
      simp at hb'
      exact hne hb'.2
theorem first_step {l : List Int} {j : Nat} {x : Int} (hx : l[j]? = some x) : firstSet (l.drop j) = if isSet x = true then x else firstSet (l.drop (j + 1)) := by
  have hj : j < l.length := (List.getElem?_eq_some_iff.1 hx).1
  have hd : l.drop j = x :: l.drop (j + 1) := by
    rw [List.drop_eq_getElem_cons hj]
    congr 1
    exact (List.getElem?_eq_some_iff.1 hx).2
  rw [hd]
  unfold firstSet
  rw [List.find?_cons]
  cases isSet x <;> simp
theorem SrcOk.kp {w w' : World} {s : Src} (h : SrcOk w s) (hk : Kp w w') : SrcOk w' s := ⟨h.1, h.2.1.kp hk, h.2.2⟩
theorem RowsAt.kp {w w' : World} {a : Option Addr} {L : List Sl} (h : RowsAt w a L) (hk : Kp w w') : RowsAt w' a L := by
  rcases h with h | ⟨b, off, ha, h⟩
  · exact Or.inl h
  · exact Or.inr ⟨b, off, ha, fun j p hj => ⟨(Below.cell (p := ⟨b, off + j, none⟩) hk (cell_some_lt (h j p hj).1)).trans (h j p hj).1, (h j p hj).2.1.kp hk, (h j p hj).2.2⟩⟩
theorem owns_rows {w : World} {base : Nat} {e : TypeId} {v : Value} {n : Nat} {L : List Src} (h : w.ownsRow base e 1 v n (L.map sv)) (hs : ∀ s ∈ L, SrcOk w s) : ∃ a c, v = .slice a n c ∧ RowsAt w a (fl L) ∧ (fl L).length = n := by
  obtain ⟨hl, h⟩ := h
  have hl' : L.length = n := by simpa using hl
  rcases h with ⟨rfl, rfl⟩ | ⟨g, cap, cur, rfl, _, hg, _, _, _, hc⟩
  · exact ⟨none, 0, rfl, Or.inl (by unfold fl; simpa using hl'), by simpa [fl] using hl'⟩
  · refine ⟨_, _, rfl, Or.inr ⟨g, 0, rfl, fun j p hj => ?_⟩, by simpa [fl] using hl'⟩
    obtain ⟨s, hs1, rfl⟩ : ∃ s, L[j]? = some s ∧ s.1 = p := by simpa [fl] using hj
    have hj : j < L.length := (List.getElem?_eq_some_iff.1 hs1).1
    have hx2 : (L.map sv)[j]? = some (sv s) := by simp [hs1]
    rw [← hc, List.getElem?_take, if_pos (by omega)] at hx2
    have hok := hs s (List.mem_of_getElem? hs1)
    refine ⟨?_, hok.2.1, hok.2.2.1⟩
    rw [Nat.zero_add]
    simp only [World.cell?, hg]
    simpa [sv] using hx2

theorem cut8 {w : World} {a : Option Addr} {len cap : Nat} (h : IsRows w a len cap) :
    (len ≤ 8 ∧ ∃ L : List Src, L.length = len ∧ SrcAt w a L ∧ len ≤ cap ∧ cap ≤ 9223372036854775807) ∨ (8 < len ∧ ∃ L : List Src, L.length = 8 ∧ SrcAt w a L ∧ len ≤ cap ∧ cap ≤ 9223372036854775807) := by
  by_cases h12 : len ≤ 8
  · obtain ⟨l, hl, hI, hc, hm⟩ := h.cut len (Nat.le_refl _)
    unfold maxLen at hm
    exact Or.inl ⟨h12, l, hl, hI, hc, by omega⟩
  · obtain ⟨l, hl, hI, hc, hm⟩ := h.cut 8 (by omega)
    unfold maxLen at hm
    exact Or.inr ⟨by omega, l, hl, hI, hc, by omega⟩
theorem cut8i {w : World} {a : Option Addr} {len cap : Nat} {z : List Int} (h : IsRow .i64 w a len cap z) :
    (len ≤ 8 ∧ ∃ l : List Int, l.length = len ∧ IsInts w a l ∧ len ≤ cap ∧ cap ≤ 9223372036854775807) ∨ (8 < len ∧ ∃ l : List Int, l.length = 8 ∧ IsInts w a l ∧ len ≤ cap ∧ cap ≤ 9223372036854775807) := by
  by_cases h12 : len ≤ 8
  · obtain ⟨l, hl, hI, _, hc, hm⟩ := h.cut len (Nat.le_refl _)
    unfold maxLen at hm
    exact Or.inl ⟨h12, l, hl, hI, hc, by omega⟩
  · obtain ⟨l, hl, hI, _, hc, hm⟩ := h.cut 8 (by omega)
    unfold maxLen at hm
    exact Or.inr ⟨by omega, l, hl, hI, hc, by omega⟩

end Go.Proofs.Ytdndehlhodigoaa
