/- glyph.Dynamic: the codes of the letters. -/
import Derived.Test.YtejmliomagnjfaaNames
namespace Go.Proofs.Ytejmliomagnjfaa
open Go Go.RowKit Go.Shelf

theorem Try.info_int23 : (Try.prog.info? 3).map (fun i => (i.zero, i.size, i.bytes)) = some (some (.int .i64 0), 1, 8) := by kernel_rfl

def letsL : List Int := [112, 109, 102, 115, 122]
def dynB (m : Nat) : List Int := [[], [112, 112, 112], [112, 112], [112], [109, 112], [109, 102], [102], [102, 102], [102, 102, 102], [115, 102, 122]].getD m []
def codesOf (l : List Int) : List Int := l.map fun b => 60 + idxI letsL b
theorem codesOf_take {l : List Int} {k : Nat} {b : Int} (h : l[k]? = some b) : codesOf (l.take (k + 1)) = codesOf (l.take k) ++ [60 + idxI letsL b] := by
  unfold codesOf
  rw [List.take_add_one, h]
  simp

theorem Dynamic_out (n : Int) (w : World) (h : n < 1 ∨ 9 < n) : Calls Try.prog 13 #[.int .i64 n] w fun e w' => e = .returned (.tuple #[.slice none 0 0, .int .i64 11]) ∧ w = w' := by
  rcases h with h | h
  · go_enter Try.func13, Try.ntmps13
    go_wp2
    go_ret2
    exact ⟨rfl, rfl⟩
  · go_enter Try.func13, Try.ntmps13
    go_wp2
    go_ret2
    exact ⟨rfl, rfl⟩

theorem ints_oneCell (x : Int) : ∀ u ∈ ([.int .i64 x] : List Value), u.oneCell' = true := by
  intro u hu
  simp at hu
  subst hu; rfl

theorem size_str1 : (Try.prog.info? 9).map (·.size) = some 1 := by kernel_rfl
/-- The bytes of a dynamic's letters as a string. -/
def dynS (m : Nat) : ByteArray := bytesOf ((dynB m).map Int.toNat)
def dynArr : Array Value := #[.string ⟨#[]⟩, .string ⟨#[112, 112, 112]⟩, .string ⟨#[112, 112]⟩, .string ⟨#[112]⟩, .string ⟨#[109, 112]⟩, .string ⟨#[109, 102]⟩, .string ⟨#[102]⟩, .string ⟨#[102, 102]⟩, .string ⟨#[102, 102, 102]⟩, .string ⟨#[115, 102, 122]⟩]
theorem dynArr_get (m : Nat) (h : m ≤ 9) : dynArr[((m : Int)).toNat]? = some (.string (dynS m)) := by
  obtain h | h | h | h | h | h | h | h | h | h : m = 0 ∨ m = 1 ∨ m = 2 ∨ m = 3 ∨ m = 4 ∨ m = 5 ∨ m = 6 ∨ m = 7 ∨ m = 8 ∨ m = 9 := by omega
  all_goals (subst h; rfl)
theorem dyn_facts (m : Nat) (h : m ≤ 9) : (dynS m).size = (dynB m).length ∧ (dynB m).length ≤ 3 ∧ (∀ (j : Nat) (b : Int), (dynB m)[j]? = some b → (dynS m).data[j]?.map (fun c => (c.toNat : Int)) = some b) := by
  have hall : ∀ m : Fin 10, (dynS m.val).size = (dynB m.val).length ∧ (dynB m.val).length ≤ 3 ∧ ((dynS m.val).data.toList.map fun c => (c.toNat : Int)) = dynB m.val := by decide +kernel
  obtain ⟨h1, h2, h3⟩ := hall ⟨m, by omega⟩
  refine ⟨h1, h2, fun j b hb => ?_⟩
  simp only at h3
  rw [← h3] at hb
  simpa using hb

set_option maxRecDepth 100000 in
set_option maxHeartbeats 4000000 in
theorem Dynamic_in (m : Nat) (h1 : 1 ≤ m) (h2 : m ≤ 9) (w : World) : Calls Try.prog 13 #[.int .i64 m] w fun e w' => ∃ v, e = .returned (.tuple #[v, .int .i64 0]) ∧ w'.ownsRow w.heap.size 3 1 v (dynB m).length (ints (codesOf (dynB m))) ∧ Kp w w' := by
  obtain ⟨i0, hi, hz0, hz1, hz2⟩ := info_parts Try.info_int23
  have Hi := Lib.hid hi
  have Hz0 := Lib.hid hz0
  have Hz1 := Lib.hid hz1
  have Hz2 := Lib.hid hz2
  have hix := fun W => run_index_one (P := Try.prog) W 68 9 10 _ .i64 (m : Int) _ Try.underlying68 size_str1 _ Try.underlying9 rfl (by omega) (by omega) (dynArr_get m h2)
  unfold dynArr at hix
  obtain ⟨hsz, h3, hby⟩ := dyn_facts m h2
  have hl : (dynB m).length = (dynB m).length := rfl
  obtain ⟨S, hS⟩ : ∃ S, dynS m = S := ⟨_, rfl⟩
  obtain ⟨bs, hbs⟩ : ∃ bs, dynB m = bs := ⟨_, rfl⟩
  rw [hS] at hix hsz hby
  rw [hbs] at hsz h3 hby ⊢
  have hl1 : (1 : Int) ≤ m := by omega
  have hl9 : (m : Int) ≤ 9 := by omega
  obtain ⟨cap, R, fr, hcv, hR⟩ : ∃ (cap : Nat) (R : Array Value) (fr : Nat × Nat), (convert 9 67 (.string S)).run Try.prog (w.alloc (.cells #[.int .u8 112, .int .u8 109, .int .u8 102, .int .u8 115, .int .u8 122] 66)) = .ok (.slice (some ⟨w.heap.size + 1, 0, none⟩) bs.length cap) ((w.alloc (.cells #[.int .u8 112, .int .u8 109, .int .u8 102, .int .u8 115, .int .u8 122] 66)).drew.alloc (.cells R 5 fr)) ∧
      ∀ (j : Nat) (b : Int), bs[j]? = some b → R[j]? = some (.int .u8 b) := by
    have h := run_bytes_of_string (P := Try.prog) (w.alloc (.cells #[.int .u8 112, .int .u8 109, .int .u8 102, .int .u8 115, .int .u8 122] 66)) 9 67 5 S Try.underlying9 Try.underlying67 Try.underlying5
    rw [World.size_alloc, hsz] at h
    refine ⟨_, _, _, h, fun j b hb => ?_⟩
    have hj := hby j b hb
    obtain ⟨c, hc, hcb⟩ := Option.map_eq_some_iff.1 hj
    obtain ⟨hlt, hce⟩ := Array.getElem?_eq_some_iff.1 hc
    rw [bytesRow_at S _ j hlt, hce, hcb]
  obtain ⟨n, hn⟩ : ∃ n, bs.length = n := ⟨_, rfl⟩
  rw [hn] at hcv h3 ⊢
  have Hn := Lib.hid hn
  have HR := Lib.hid hR
  have hln : codesOf bs = codesOf (bs.take n) := by rw [← hn, List.take_length]
  rw [hln]
  clear hR hn hln
  clear hi hz0 hz1 hz2 hsz hby hl hS hbs h1 h2
  go_enter Try.func13, Try.ntmps13
  go_wp2
  obtain ⟨W2, hW2⟩ : ∃ W2, ((w.alloc (.cells #[.int .u8 112, .int .u8 109, .int .u8 102, .int .u8 115, .int .u8 122] 66)).alloc (.cells R 5 fr)).drew = W2 := ⟨_, rfl⟩
  have hu : IsU8s W2 w.heap.size letsL := by
    intro j x hx
    have h := (HasRow.new w (letsL.map fun x => Value.int .u8 x).toArray 66).kp (Below.drew (Kp.alloc (w.alloc (.cells (letsL.map fun x => Value.int .u8 x).toArray 66)) (.cells R 5 fr)))
    have h2 := h.cell j
    rw [← hW2]
    refine Eq.trans h2 ?_
    simp [hx]
  have hc : ∀ j b, bs[j]? = some b → W2.cell? ⟨w.heap.size + 1, j, none⟩ = some (.int .u8 b) := by
    intro j b hb
    rw [← hW2]
    have h := World.cell?_alloc_mark (w.alloc (.cells #[.int .u8 112, .int .u8 109, .int .u8 102, .int .u8 115, .int .u8 122] 66)) R 5 fr j
    have e : (w.alloc (.cells #[.int .u8 112, .int .u8 109, .int .u8 102, .int .u8 115, .int .u8 122] 66)).heap.size = w.heap.size + 1 := World.size_alloc _ _
    rw [e] at h
    exact Eq.trans h (HR.out j b hb)
  have hk2 : Kp w W2 := by rw [← hW2]; exact Below.drew ((Kp.alloc _ _).trans (Kp.alloc _ _))
  rw [hW2]
  have Hu := Lib.hid hu
  have Hc := Lib.hid hc
  have Hk2 := Lib.hid hk2
  clear hW2 hu hc hk2 hcv
  go_loopw [5, 7, 20] (fun v _ i wr => ∃ k : Nat, k ≤ n ∧ i = .int .i64 k ∧ wr.ownsRow W2.heap.size 3 1 v k (ints (codesOf (bs.take k))) ∧ Kp W2 wr) (fun _ _ i _ => n - (intOf i).toNat)
  case atStart => exact ⟨0, Nat.zero_le _, rfl, ⟨rfl, .inl ⟨rfl, rfl⟩⟩, Kp.refl _⟩
  case round =>
    obtain ⟨k, hk, rfl, hown, hkr⟩ := hrel
    have Hown := Lib.hid hown
    have Hkr := Lib.hid hkr
    clear hown hkr
    by_cases hl : k < n
    · obtain ⟨b, hb⟩ : ∃ b, bs[k]? = some b := ⟨bs[k]'(by rw [Hn.out]; exact hl), by simp⟩
      have hcb : wr.cell? ⟨w.heap.size + 1, k, none⟩ = some (.int .u8 b) := by
        have h := Hc.out k b hb
        exact (Below.cell Hkr.out (p := ⟨w.heap.size + 1, k, none⟩) (World.block_lt_of_cell? _ _ h)).trans h
      have hidx := IndexB_any w.heap.size letsL 5 b wr (Hu.out.kp Hkr.out) (by decide)
      have hstep := codesOf_take hb
      have hbd := idxI_lt letsL b
      obtain ⟨r, hr⟩ : ∃ r, idxI letsL b = r := ⟨_, rfl⟩
      rw [hr] at hidx hstep hbd
      have hr1 : -1 ≤ r := hbd.1
      have hr2 : r ≤ 4 := by have := hbd.2; simp [letsL] at this; omega
      have hidx' : Calls Try.prog 32 #[.slice (some ⟨w.heap.size, 0, none⟩) 5 5, .int .u8 b] wr fun e w' => e = .returned (.int .i64 r) ∧ wr = w' := hidx
      have Hstep := Lib.hid hstep
      clear hidx hstep hbd hr hb
      go_wp2_with (first
        | (go_at_call 32; refine hidx'.mono ?_; rintro e w' ⟨rfl, rfl⟩)
        | (at_builtin; go_must (refine wpList_append_own _ rfl _ _ 32 rfl W2.heap.size 3 i0 (.int .i64 0) 1 8 Try.underlying32 Hi.out Hz0.out Hz1.out Hz2.out rfl (by decide) _ _ _ rfl (Hown.out.alloc _) ⟨wr.heap.size, 0, none⟩ 1 1 [.int .i64 (60 + r)] rfl rfl (cell_one_new _ _ _) (ints_oneCell _) (by unfold maxLen; omega) (by omega) (by simp only [World.size_alloc]; have := Hkr.out.size; omega) ?_); (intro v' w3 hown' hgrow _; have Hown1 := Lib.hid hown'; have Hkr1 : Hid (Kp W2 w3) := Lib.hid (Below.grown (Hkr.out.trans (Kp.alloc _ _)) hgrow (by simp only [World.size_alloc]; have := Hkr.out.size; omega) (fun j e => (Hown.out.lt j e).1)); clear hown' hgrow)))
      go_roundw
      case rel =>
        refine ⟨k + 1, by omega, by go_num, ?_, Hkr1.out⟩
        rw [Hstep.out]
        simpa [ints] using Hown1.out
      case measure => simp [intOf]; omega
    · obtain rfl : k = n := by omega
      go_wp2
      go_ret2
      refine ⟨_, rfl, ⟨Hown.out.1, ?_⟩, Hk2.out.trans Hkr.out⟩
      have hb := Hk2.out.size
      rcases Hown.out.2 with h | ⟨g, c, cur, q1, q2, q3⟩
      · exact .inl h
      · exact .inr ⟨g, c, cur, q1, by omega, q3⟩
end Go.Proofs.Ytejmliomagnjfaa
