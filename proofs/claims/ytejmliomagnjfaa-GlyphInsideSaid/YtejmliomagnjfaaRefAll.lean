/- The contract of hemiolaref23.All: the same table, each glyph with its name, the letters of its shapes' kinds, and a slice of slices of numbers, in blocks of the call's own. -/
import Derived.Test.YtejmliomagnjfaaBoxIn
namespace Go.Proofs.Ytejmliomagnjfaa
open Go Go.RowKit Go.Shelf

def kindOf (s : Sh) : Nat := if s.k = 0 then 98 else if s.k = 1 then 111 else 115
def kindsOf (l : List Sh) : List Nat := l.map kindOf
def numsOf (s : Sh) : List Int := if s.k = 2 then [s.a, s.b, s.c, s.d, s.e] else [s.a, s.b, s.c, s.d]

noncomputable def opsRef : List Oper := match Try.f11.body with | some (.seq _ (.seq (.region _ ops _) _)) => ops.toList | _ => []
def rowD (s : Sh) : D := .sl 3 ((numsOf s).map fun x => .val (.int .i64 x))
def refGD (x : List Nat × List Sh) : D := .ag [.val (.string (bytesOf x.1)), .val (.string (bytesOf (kindsOf x.2))), .sl 32 (x.2.map rowD)]
def refD : D := .sl 29 (tab.map refGD)

def knownRef : Known where
  call := fun _ _ => none
  bt := fun t => if t = 29 then some (([(0, 1), (1, 1), (2, 1)][·]?), 3) else none
  st := fun t => if t = 32 then some (3, 1) else if t = 27 then some (32, 1) else if t = 25 then some (29, 3) else none

theorem zeroRG : (Try.prog.info? 29).map (·.zero) = some (some (.agg #[.string ⟨#[]⟩, .string ⟨#[]⟩, .slice none 0 0])) := by kernel_rfl

theorem knownRef_holds : knownRef.Holds Try.prog where
  call := by intro f args d h; cases h
  bt := by
    intro t pl n h
    simp only [knownRef] at h
    split at h
    · rename_i ht
      subst ht
      simp only [Option.some.injEq, Prod.mk.injEq] at h
      obtain ⟨rfl, rfl⟩ := h
      exact ⟨_, rfl, built_struct zeroRG Try.underlying29 (by kernel_rfl)⟩
    · simp at h
  st := by
    intro t e s h
    simp only [knownRef] at h
    split at h
    · rename_i ht
      subst ht
      simp only [Option.some.injEq, Prod.mk.injEq] at h
      obtain ⟨rfl, rfl⟩ := h
      have hz : ((Try.prog.info? 3).map fun i => (i.zero.isSome, i.size)) = some (true, 1) := by kernel_rfl
      simp only [Option.map_eq_some_iff, Prod.mk.injEq] at hz
      obtain ⟨i, hi, h1, h2⟩ := hz
      obtain ⟨z, hz⟩ := Option.isSome_iff_exists.1 h1
      exact ⟨Try.underlying32, i, z, hi, hz, h2⟩
    · split at h
      · rename_i ht
        subst ht
        simp only [Option.some.injEq, Prod.mk.injEq] at h
        obtain ⟨rfl, rfl⟩ := h
        have hz : ((Try.prog.info? 32).map fun i => (i.zero.isSome, i.size)) = some (true, 1) := by kernel_rfl
        simp only [Option.map_eq_some_iff, Prod.mk.injEq] at hz
        obtain ⟨i, hi, h1, h2⟩ := hz
        obtain ⟨z, hz⟩ := Option.isSome_iff_exists.1 h1
        exact ⟨Try.underlying27, i, z, hi, hz, h2⟩
      · split at h
        · rename_i ht
          subst ht
          simp only [Option.some.injEq, Prod.mk.injEq] at h
          obtain ⟨rfl, rfl⟩ := h
          have hz : ((Try.prog.info? 29).map fun i => (i.zero.isSome, i.size)) = some (true, 3) := by kernel_rfl
          simp only [Option.map_eq_some_iff, Prod.mk.injEq] at hz
          obtain ⟨i, hi, h1, h2⟩ := hz
          obtain ⟨z, hz⟩ := Option.isSome_iff_exists.1 h1
          exact ⟨Try.underlying25, i, z, hi, hz, h2⟩
        · simp at h

def op0 : Oper := { dst := some 0, op := Op.assign (Operand.const (Value.slice none 0 0)), type := 25, pos := "ref.go:15", after := #[], guard := none }
theorem body_ref : Try.f11.body = some (.seq (.region 0 #[op0] false) (.seq (.region 1 opsRef.toArray false) .ret)) := by kernel_rfl
theorem eval_ref : (evalOps knownRef 411 [] opsRef).1.get 0 = some refD := by kernel_rfl
theorem left_ref : (evalOps knownRef 411 [] opsRef).2 = [] := by kernel_rfl

/-- A row of slices or structs of k cells each. -/
theorem rel_rows {n₀ : Nat} {w : World} (k : Nat) : ∀ (ds : List D) (vs : List Value), RelL n₀ w ds vs → (∀ d ∈ ds, d.sz = k) → ∀ i d, ds[i]? = some d → ∃ v, Rel n₀ w d v ∧ ∀ j, j < k → (cat vs)[i * k + j]? = v.cells[j]?
  | [], _, _, _, i, d, h => by simp at h
  | d0 :: ds, vs, ⟨v, r, hv, hd, hr⟩, hk, i, d, h => by
    subst hv
    have hs : v.cells.size = k := by rw [Rel.size d0 v hd, hk d0 (by simp)]
    cases i with
    | zero =>
      simp at h; subst h
      refine ⟨v, hd, fun j hj => ?_⟩
      rw [show cat (v :: r) = v.cells.toList ++ cat r from rfl, Nat.zero_mul, Nat.zero_add, List.getElem?_append_left (by simp [hs, hj])]
      simp
    | succ i =>
      simp at h
      obtain ⟨u, hu, hc⟩ := rel_rows k ds r hr (fun d hd => hk d (by simp [hd])) i d h
      refine ⟨u, hu, fun j hj => ?_⟩
      rw [show cat (v :: r) = v.cells.toList ++ cat r from rfl, List.getElem?_append_right (by simp [hs, Nat.add_mul]; omega)]
      rw [← hc j hj]
      congr 1
      simp [hs, Nat.add_mul]; omega

def RowsOf (w : World) (v : Value) (l : List Sh) : Prop := ∃ (C : Nat) (A : Array Value), v = Value.slice (some ⟨C, 0, none⟩) l.length l.length ∧ HasRow w C A 32 ∧ ∀ (j : Nat) (s : Sh), l[j]? = some s → ∃ E : Nat, A[j]? = some (Value.slice (some ⟨E, 0, none⟩) (numsOf s).length (numsOf s).length) ∧ HasRow w E (ints (numsOf s)).toArray 3
def GAt (w : World) (A : Array Value) (i : Nat) (x : List Nat × List Sh) : Prop :=
  A[i * 3]? = some (.string (bytesOf x.1)) ∧ A[i * 3 + 1]? = some (.string (bytesOf (kindsOf x.2))) ∧ ∃ v, A[i * 3 + 2]? = some v ∧ RowsOf w v x.2
def RefAt (w : World) (v : Value) : Prop := ∃ (B : Nat) (A : Array Value), v = Value.slice (some ⟨B, 0, none⟩) 68 68 ∧ HasRow w B A 29 ∧ ∀ (i : Nat) (x : List Nat × List Sh), tab[i]? = some x → GAt w A i x
theorem RowsOf.kp {w w' : World} {v : Value} {l : List Sh} (h : RowsOf w v l) (hk : Kp w w') : RowsOf w' v l := by
  obtain ⟨C, A, hv, hA, h⟩ := h
  refine ⟨C, A, hv, hA.kp hk, fun j s hj => ?_⟩
  obtain ⟨E, h1, h2⟩ := h j s hj
  exact ⟨E, h1, h2.kp hk⟩
theorem RefAt.kp {w w' : World} {v : Value} (h : RefAt w v) (hk : Kp w w') : RefAt w' v := by
  obtain ⟨B, A, hv, hA, h⟩ := h
  refine ⟨B, A, hv, hA.kp hk, fun i x hx => ?_⟩
  obtain ⟨h1, h2, u, h3, h4⟩ := h i x hx
  exact ⟨h1, h2, u, h3, h4.kp hk⟩

theorem rowsOf_rel {n₀ : Nat} {w : World} {l : List Sh} {v : Value} (h : Rel n₀ w (.sl 32 (l.map rowD)) v) : RowsOf w v l := by
  obtain ⟨C, vs, hv, _, _, hc, hl⟩ := h
  refine ⟨C, _, by simpa using hv, hc, fun j s hj => ?_⟩
  obtain ⟨u, hu, hcell⟩ := rel_rows 1 _ vs hl (by intro d hd; simp only [List.mem_map] at hd; obtain ⟨s, _, rfl⟩ := hd; rfl) j (rowD s) (by simp [hj])
  obtain ⟨E, us, hus, _, _, he, hr⟩ := hu
  have h0 := hcell 0 (by omega)
  rw [hus] at h0
  simp only [Nat.mul_one, Nat.add_zero, Value.cells] at h0
  refine ⟨E, ?_, ?_⟩
  · simpa using h0
  · have hcat : ∀ (zs : List Int) (us : List Value), RelL n₀ w (zs.map fun x => .val (.int .i64 x)) us → cat us = ints zs := by
      intro zs
      induction zs with
      | nil => intro us h; have h' : us = [] := h; subst h'; rfl
      | cons z zs ih =>
        rintro us ⟨u, r, hu, hd, hr⟩
        have hd' : u = _ := hd
        subst hu; subst hd'
        rw [show cat (Value.int .i64 z :: r) = Value.int .i64 z :: cat r from rfl, ih r hr]
        rfl
    rw [hcat _ _ hr] at he
    exact he

theorem gAt_rel {n₀ : Nat} {w : World} {vs : List Value} (h : RelL n₀ w (tab.map refGD) vs) : ∀ i x, tab[i]? = some x → GAt w (cat vs).toArray i x := by
  intro i x hx
  obtain ⟨v, hv, hc⟩ := rel_rows 3 _ vs h (by intro d hd; simp only [List.mem_map] at hd; obtain ⟨y, _, rfl⟩ := hd; rfl) i (refGD x) (by simp [hx])
  obtain ⟨us, hu, u1, r1, rfl, h1, u2, r2, rfl, h2, u3, r3, rfl, h3, h4⟩ := hv
  have h1' : u1 = _ := h1
  have h2' : u2 = _ := h2
  have h4' : r3 = [] := h4
  subst h1'; subst h2'; subst h4'
  have hr := rowsOf_rel h3
  obtain ⟨C, A, hC, _⟩ := id hr
  have hcat : cat [Value.string (bytesOf x.1), Value.string (bytesOf (kindsOf x.2)), u3] = [Value.string (bytesOf x.1), Value.string (bytesOf (kindsOf x.2)), u3] := by subst hC; rfl
  rw [hu, hcat] at hc
  simp only [Value.cells] at hc
  refine ⟨?_, ?_, u3, ?_, hr⟩
  · simpa using hc 0 (by omega)
  · simpa using hc 1 (by omega)
  · simpa using hc 2 (by omega)

set_option maxRecDepth 100000 in
theorem refAll_any (w : World) : Calls Try.prog 11 #[] w fun e w' => ∃ v, e = .returned v ∧ RefAt w' v ∧ Kp w w' := by
  refine calls_of_wp Try.func11 body_ref ?_
  refine wp_seq_k fun K hK => ?_
  refine wp_region_lit ?_
  refine evalOps_sound (N := 411) (n₀ := w.heap.size) knownRef_holds [op0] [] [(0, .val (.slice none 0 0))] [] _ _ rfl (by simp [Try.ntmps11]) rfl (Nat.le_refl _) (fun t d h => by cases h) ?_
  intro a1 w1 hs1 hd1 hk1 _
  refine wpList_nil ?_
  refine hK _ _ ?_
  refine wp_seq_k fun K2 hK2 => ?_
  refine wp_region_lit ?_
  refine evalOps_sound (N := 411) (n₀ := w1.heap.size) knownRef_holds opsRef [] _ [] _ _ (Prod.ext rfl left_ref) hs1 hd1 (Nat.le_refl _) (fun t d h => by cases h) ?_
  intro a w' hs hd hk hE
  obtain ⟨B, vs, hv, hB, hlt, hc, hr⟩ := hE 0 _ eval_ref
  refine wpList_nil ?_
  refine hK2 _ _ ?_
  refine wp_ret ?_
  refine bodyPost_ret (results_tmp rfl _ _ _) hd ?_
  refine ⟨_, rfl, ⟨B, _, ?_, hc, gAt_rel hr⟩, hk1.trans hk⟩
  rw [hv]
  rfl
end Go.Proofs.Ytejmliomagnjfaa
