/- Values of structs and arrays, nested to whatever depth, whose cells are all integers: opened at once. -/
import Derived.OpenShut
import Derived.WalkKit
import Derived.ProofKit
import Derived.Deep.Slices
import Derived.Deep.Fields
import Derived.Test.YtejmliomagnjfaaProg
namespace Go.Proofs.Ytejmliomagnjfaa
open Go Go.ChangeShapes Go.WideShapes

/-- Cells that hold integers of these kinds, each fitting its kind. -/
def IntCells : List IntKind → List Value → Prop
  | [], [] => True
  | k :: ks, c :: cs => (∃ n, c = .int k n ∧ (Lit.int k n).wf = true) ∧ IntCells ks cs
  | _, _ => False
theorem IntCells.append : ∀ {k k' : List IntKind} {a b : List Value}, IntCells k a → IntCells k' b → IntCells (k ++ k') (a ++ b)
  | [], _, [], _, _, h => h
  | _ :: _, _, _ :: _, _, h, h' => ⟨h.1, IntCells.append h.2 h'⟩
  | _ :: _, _, [], _, h, _ => h.elim
  | [], _, _ :: _, _, h, _ => h.elim
theorem IntCells.length : ∀ {k : List IntKind} {a : List Value}, IntCells k a → a.length = k.length
  | [], [], _ => rfl
  | _ :: _, _ :: _, h => by simp [IntCells.length h.2]
  | _ :: _, [], h => h.elim
  | [], _ :: _, h => h.elim

theorem IntCells.cons {k : IntKind} {ks : List IntKind} : ∀ {l : List Value}, IntCells (k :: ks) l → ∃ n l', l = .int k n :: l' ∧ (Lit.int k n).wf = true ∧ IntCells ks l'
  | [], h => h.elim
  | _ :: l', ⟨⟨n, h1, h2⟩, h3⟩ => ⟨n, l', by rw [h1], h2, h3⟩
theorem IntCells.nil : ∀ {l : List Value}, IntCells [] l → l = []
  | [], _ => rfl
  | _ :: _, h => h.elim

def fieldKinds (P : Program) (g : TypeId → Option (List IntKind)) : Nat → List Field → Option (List IntKind)
  | _, [] => some []
  | o, f :: fs => if f.offset = o then (g f.type).bind fun k => if P.cellsOf f.type = k.length then (fieldKinds P g (o + k.length) fs).map (k ++ ·) else none else none
def flatKinds (P : Program) : Nat → TypeId → Option (List IntKind)
  | 0, _ => none
  | f + 1, t => match P.underlying t with
    | some (.int k) => some [k]
    | some (.struct fs) => fieldKinds P (flatKinds P f) 0 fs.toList
    | some (.array n e) => (flatKinds P f e).bind fun k => if P.cellsOf e = k.length then some (List.replicate n k).flatten else none
    | _ => none

theorem fieldKinds_cells (P : Program) (g : TypeId → Option (List IntKind)) (cs : List Value) : ∀ (fs : List Field) (o : Nat) (ks : List IntKind), fieldKinds P g o fs = some ks →
    (∀ f ∈ fs, ∀ k, g f.type = some k → IntCells k ((cs.drop f.offset).take (P.cellsOf f.type))) → IntCells ks ((cs.drop o).take ks.length)
  | [], o, ks, h, _ => by simp [fieldKinds] at h; subst h; simp [IntCells]
  | f :: fs, o, ks, h, hf => by
    unfold fieldKinds at h
    by_cases ho : f.offset = o
    · rw [if_pos ho] at h
      cases hg : g f.type with
      | none => simp [hg] at h
      | some k =>
        rw [hg] at h
        simp only [Option.bind_some] at h
        by_cases hk : P.cellsOf f.type = k.length
        · rw [if_pos hk] at h
          cases hr : fieldKinds P g (o + k.length) fs with
          | none => simp [hr] at h
          | some r =>
            rw [hr] at h
            simp only [Option.map_some, Option.some.injEq] at h
            subst h
            have h1 := hf f (by simp) k hg
            rw [ho, hk] at h1
            have h2 := fieldKinds_cells P g cs fs (o + k.length) r hr (fun f' hf' => hf f' (by simp [hf']))
            have e : (cs.drop o).take (k ++ r).length = (cs.drop o).take k.length ++ (cs.drop (o + k.length)).take r.length := by
              rw [List.length_append, List.take_add, List.drop_drop]
            rw [e]
            exact h1.append h2
        · rw [if_neg hk] at h; simp at h
    · rw [if_neg ho] at h; simp at h

theorem rep_cells (k : List IntKind) (cs : List Value) : ∀ (n : Nat), (∀ i, i < n → IntCells k ((cs.drop (i * k.length)).take k.length)) → IntCells (List.replicate n k).flatten (cs.take (n * k.length))
  | 0, _ => by simp [IntCells]
  | n + 1, h => by
    have h1 := rep_cells k cs n (fun i hi => h i (by omega))
    have h2 := h n (by omega)
    have e : (List.replicate (n + 1) k).flatten = (List.replicate n k).flatten ++ k := by
      rw [List.replicate_succ', List.flatten_append]; simp
    have e2 : cs.take ((n + 1) * k.length) = cs.take (n * k.length) ++ (cs.drop (n * k.length)).take k.length := by
      rw [Nat.succ_mul, List.take_add]
    rw [e, e2]
    exact h1.append h2

section
variable {H : Type} {enc : TypeId × Value → H} {P : Program} {w : World} {base : Nat} {spare : Nat → Bool} {held : Bool}
theorem flat_cells : ∀ (F : Nat) (t : TypeId) (ks : List IntKind) (fuel : Nat) (cs : List Value) (x : DataW H × List MemPlace), flatKinds P F t = some ks → P.cellsOf t = ks.length →
    DataW.trod enc P w base spare held fuel t cs = some x → IntCells ks cs
  | 0, t, ks, fuel, cs, x, h, _, _ => by simp [flatKinds] at h
  | F + 1, t, ks, fuel, cs, x, h, hC, hx => by
    unfold flatKinds at h
    split at h
    · rename_i k hu
      simp at h; subst h
      cases fuel with
      | zero => simp [DataW.trod] at hx
      | succ m =>
        unfold DataW.trod at hx
        rw [hu] at hx
        split at hx <;> simp_all
        rename_i k' n hk
        obtain ⟨⟨_, h2⟩, _⟩ := hx
        exact ⟨⟨n, rfl, h2⟩, trivial⟩
    · rename_i fs hu
      obtain ⟨xs, n, _, _, hlen, hxl, hf⟩ := DataW.trod_struct hu hx
      have := fieldKinds_cells P (flatKinds P F) cs fs.toList 0 ks h (fun f hfm k hk => by
        obtain ⟨i, hi, hfi⟩ := List.mem_iff_getElem.1 hfm
        have hi' : i < fs.size := by simpa using hi
        have hg : fs[i]? = some f := by
          rw [Array.getElem?_eq_getElem hi']
          have : fs[i] = fs.toList[i] := by simp
          rw [this, hfi]
        have ht := hf i f hg
        have hxi : xs[i]? = some (xs[i]'(by omega)) := List.getElem?_eq_getElem _
        rw [hxi] at ht
        by_cases hk2 : P.cellsOf f.type = k.length
        · exact flat_cells F f.type k n _ _ hk hk2 ht
        · exfalso
          -- the whole list of kinds would be none
          have : ∀ (l : List Field) (o : Nat), f ∈ l → fieldKinds P (flatKinds P F) o l = none := by
            intro l
            induction l with
            | nil => intro o hm; simp at hm
            | cons f' l ih =>
              intro o hm
              unfold fieldKinds
              rcases List.mem_cons.1 hm with rfl | hm
              · by_cases ho : f.offset = o
                · rw [if_pos ho, hk]; simp [hk2]
                · rw [if_neg ho]
              · by_cases ho : f'.offset = o
                · rw [if_pos ho]
                  cases flatKinds P F f'.type with
                  | none => rfl
                  | some k' =>
                    simp only [Option.bind_some]
                    by_cases hk' : P.cellsOf f'.type = k'.length
                    · rw [if_pos hk', ih _ hm]; rfl
                    · rw [if_neg hk']
                · rw [if_neg ho]
          rw [this fs.toList 0 hfm] at h
          simp at h)
      rw [← hC, ← hlen, List.drop_zero, List.take_length] at this
      exact this
    · rename_i n e hu
      cases hk : flatKinds P F e with
      | none => simp [hk] at h
      | some k =>
        rw [hk] at h
        simp only [Option.bind_some] at h
        by_cases hk2 : P.cellsOf e = k.length
        · rw [if_pos hk2] at h
          simp only [Option.some.injEq] at h
          obtain ⟨xs, m, _, _, hlen, hxl, hf⟩ := DataW.trod_array hu hx
          have := rep_cells k cs n (fun i hi => by
            have ht := hf i hi
            have hxi : xs[i]? = some (xs[i]'(by omega)) := List.getElem?_eq_getElem _
            rw [hxi, hk2] at ht
            exact flat_cells F e k m _ _ hk hk2 ht)
          rw [h] at this
          have hl : n * k.length = cs.length := by rw [hlen, hC, ← h]; simp
          rw [hl, List.take_length] at this
          exact this
        · rw [if_neg hk2] at h; simp at h
    · simp at h

theorem okWide_arr {r : Reach} {b0 : Nat} {t : TypeId} {n : Nat} {e : TypeId} {v : Value} (ht : P.underlying t = some (.array n e)) (h : Value.okWide P w r b0 t v) : ∃ cs, v = .agg cs ∧ cs.size = P.cellsOf t := by
  simp only [Value.okWide, ht] at h
  obtain ⟨cs, h1, h2, _⟩ := h
  exact ⟨cs, h1, h2⟩
theorem open_flat {F : Nat} {t : TypeId} {ks : List IntKind} {cs : Array Value} {d : DataW H} {p : List MemPlace} (hk : flatKinds P F t = some ks) (hC : P.cellsOf t = ks.length) (h : DataW.Trod enc P w base spare held t (.agg cs) d p) : IntCells ks cs.toList := by
  obtain ⟨fuel, hf⟩ := h
  exact flat_cells F t ks fuel _ _ hk hC hf
end

/-- A slice that came in, of records whose cells are integers: nil, or a row of records, spare room too. -/
def IsRecs (ks : List IntKind) (w : World) (a : Option Addr) (len cap : Nat) (cs : Nat → List Value) : Prop :=
  (a = none ∧ len = 0 ∧ cap = 0) ∨ ∃ x, a = some x ∧ len ≤ cap ∧ cap ≤ maxLen ∧ ∀ i, i < cap → IntCells ks (cs i) ∧ ∀ j v, (cs i)[j]? = some v → w.cell? (x.add (i * ks.length + j)) = some v
/-- A slice of integers that came in. -/
def IsRow (k : IntKind) (w : World) (a : Option Addr) (len cap : Nat) (zs : List Int) : Prop :=
  (a = none ∧ len = 0 ∧ cap = 0 ∧ zs = []) ∨
  ∃ x, a = some x ∧ len ≤ cap ∧ cap ≤ maxLen ∧ zs.length = cap ∧ (∀ i, i < zs.length → w.cell? (x.add i) = some (.int k (zs.getD i 0))) ∧ ∀ n ∈ zs, (Lit.int k n).wf = true

section
variable {H : Type} {enc : TypeId × Value → H} {P : Program} {w : World}
theorem open_recs {F : Nat} {t e : TypeId} {ks : List IntKind} {a : Option Addr} {len cap : Nat} {d : DataW H} {p : List MemPlace} (hu : P.underlying t = some (.slice e)) (hk : flatKinds P F e = some ks) (hC : P.cellsOf e = ks.length)
    (h : DataW.Trod enc P w 0 (fun _ => true) true t (.slice a len cap) d p) : ∃ cs, IsRecs ks w a len cap cs := by
  obtain ⟨fuel, hf⟩ := h
  rcases Go.Deep.open_slice hu hf with ⟨hcs, _⟩ | ⟨a', l, c, m, n, D, Pl, hcs, _, hl, hm, hmm, _, hi⟩
  · simp [Value.cells] at hcs
    obtain ⟨rfl, rfl, rfl⟩ := hcs
    exact ⟨fun _ => [], .inl ⟨rfl, rfl, rfl⟩⟩
  · simp [Value.cells] at hcs
    obtain ⟨rfl, rfl, rfl⟩ := hcs
    simp only [if_true] at hmm
    subst hmm
    have hall : ∀ i, ∃ cs', i < m → IntCells ks cs' ∧ ∀ j v, cs'[j]? = some v → w.cell? (a'.add (i * ks.length + j)) = some v := by
      intro i
      by_cases him : i < m
      · obtain ⟨cs', hc, ht⟩ := hi i him
        obtain ⟨_, hcl, hat⟩ := World.cells?_some hc
        refine ⟨cs', fun _ => ⟨flat_cells F e ks n cs' _ hk hC ht, fun j v hj => ?_⟩⟩
        have hjl : j < P.cellsOf e := by rw [← hcl]; exact (List.getElem?_eq_some_iff.1 hj).1
        have := hat j hjl
        rw [hj, Go.Deep.add_add, hC] at this
        exact this
      · exact ⟨[], fun h => absurd h him⟩
    exact ⟨fun i => (hall i).choose, .inr ⟨a', rfl, hl, hm, fun i him => (hall i).choose_spec him⟩⟩
end
end Go.Proofs.Ytejmliomagnjfaa
