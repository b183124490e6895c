/- Bits that are left: what both readers get of them. Plain. -/
import Derived.Test.YtjjakdmcnkldoaaDoorCB9
set_option linter.unusedVariables false
set_option linter.unusedSimpArgs false
namespace Go.Proofs.YtjjakdmcnkldoaaDoor
open Go.Ev Go.Lib

/-- The number that bits are. -/
def valB : List Bool → Nat
  | [] => 0
  | b :: l => (if b = true then 2 ^ l.length else 0) + valB l
theorem valB_lt : ∀ (l : List Bool), valB l < 2 ^ l.length
  | [] => by simp [valB]
  | b :: l => by
    have := valB_lt l
    simp only [valB, List.length_cons, Nat.pow_succ]
    split <;> omega
theorem bitsN_congr : ∀ {k n m : Nat}, (∀ i, i < k → n.testBit i = m.testBit i) → bitsN k n = bitsN k m
  | 0, n, m, h => rfl
  | k + 1, n, m, h => by
    simp only [bitsN]
    rw [h k (by omega), bitsN_congr (fun i hi => h i (by omega))]
theorem bitsN_val : ∀ (l : List Bool), bitsN l.length (valB l) = l
  | [] => rfl
  | b :: l => by
    have ih := bitsN_val l
    have hlt := valB_lt l
    simp only [List.length_cons, bitsN, valB]
    cases b with
    | false =>
      simp only [Bool.false_eq_true, if_false, Nat.zero_add, ih]
      rw [Nat.testBit_lt_two_pow hlt]
    | true =>
      simp only [if_true]
      rw [Nat.testBit_two_pow_add_eq, Nat.testBit_lt_two_pow hlt, bitsN_congr (k := l.length) (m := valB l) (fun i hi => Nat.testBit_two_pow_add_gt hi _), ih]
      rfl
/-- Just these bits are left. -/
structure Rem (p : List Int) (n : Nat) (L : List Bool) : Prop where
  has : Has p n L
  all : n + L.length = 8 * p.length
theorem Rem.cut {p : List Int} {n k : Nat} {L : List Bool} (h : Rem p n L) (hk : k ≤ L.length) : Rem p (n + k) (L.drop k) := by
  have e : L = L.take k ++ L.drop k := (List.take_append_drop k L).symm
  have hh := h.has
  rw [e] at hh
  have := hh.right
  rw [List.length_take, Nat.min_eq_left hk] at this
  exact ⟨this, by rw [List.length_drop]; have := h.all; omega⟩
theorem rem_get {p : List Int} {n k : Nat} {L : List Bool} (hb : Bytes p) (hp : p.length ≤ 100000) (hk : k ≤ 64) (h : Rem p n L) (hL : k ≤ L.length) :
    bits_Reader_Get (k : Int) p (n : Int) 0 = some ((valB (L.take k) : Int), ((n + k : Nat) : Int), 0) := by
  have e : L = L.take k ++ L.drop k := (List.take_append_drop k L).symm
  have hlen : (L.take k).length = k := by rw [List.length_take]; omega
  have hh := h.has
  rw [e] at hh
  have h1 := hh.left
  have hv := valB_lt (L.take k)
  rw [hlen] at hv
  rw [← bitsN_val (L.take k), hlen] at h1
  exact get_eq hb hp hk hv h1
theorem rem_none {p : List Int} {n k : Nat} {L : List Bool} (hp : p.length ≤ 100000) (hk : k ≤ 64) (h : Rem p n L) (hL : L.length < k) : bits_Reader_Get (k : Int) p (n : Int) 0 = some (0, (n : Int), 6) := by
  have ha := h.all
  unfold bits_Reader_Get bits_within bits_Reader_Err bits_Reader_Left
  rw [if_neg (show ¬ (k : Int) < 0 by omega), if_neg (show ¬ (64 : Int) < k by omega)]
  have e1 : isub .i64 (imul .i64 8 (p.length : Int)) (n : Int) = 8 * p.length - n := by
    rw [imul64 (by omega) (by omega), isub64 (by omega) (by omega)]
  simp only [Option.bind_some, decide_true, cond_true, e1, dt (show 8 * (p.length : Int) - n < k by omega)]
  rfl
theorem get_bad {p : List Int} {k n e : Int} (he : e ≠ 0) : bits_Reader_Get k p n e = some (0, n, e) := by
  unfold bits_Reader_Get bits_within bits_Reader_Err bits_Reader_fail
  simp only [Option.bind_some, df he, cond_false]
theorem ok_bad {p : List Int} {e n er : Int} (he : e ≠ 0) : code_source_ok e p n er = some (false, e) := by
  unfold code_source_ok bits_Reader_Err code_source_fail
  simp only [Option.bind_some, df he, cond_false]
  cases decide (er = 0) <;> rfl
theorem ok_good {p : List Int} {n : Int} : code_source_ok 0 p n 0 = some (true, 0) := rfl
theorem bit_bad {p : List Int} {k e n er : Int} (he : e ≠ 0) : code_source_bit k e p n er = some (0, e, n, er) := by
  unfold code_source_bit
  rw [ok_bad he]
  rfl
theorem num_bad {p : List Int} {e n er : Int} (he : e ≠ 0) : code_source_number e p n er = some (0, e, n, er) := by
  unfold code_source_number
  rw [ok_bad he]
  rfl
theorem fail_bad {p : List Int} {c e n er : Int} (he : e ≠ 0) : code_source_fail c e p n er = some e := by
  unfold code_source_fail
  rw [df he]
  rfl
theorem must_bad {p : List Int} {b : Bool} {e n er : Int} (he : e ≠ 0) : code_source_must b e p n er = some e := by
  unfold code_source_must
  cases b
  · simp only [cond_false, fail_bad he, Option.bind_some]
  · rfl
theorem bit_rem {p : List Int} {n k : Nat} {L : List Bool} (hb : Bytes p) (hp : p.length ≤ 100000) (hk : k ≤ 64) (h : Rem p n L) (hL : k ≤ L.length) :
    code_source_bit (k : Int) 0 p (n : Int) 0 = some ((valB (L.take k) : Int), 0, ((n + k : Nat) : Int), 0) := by
  unfold code_source_bit
  rw [ok_good]
  simp only [Option.bind_some, cond_true, rem_get hb hp hk h hL, ok_good]
theorem bit_none {p : List Int} {n k : Nat} {L : List Bool} (hp : p.length ≤ 100000) (hk : k ≤ 64) (h : Rem p n L) (hL : L.length < k) : code_source_bit (k : Int) 0 p (n : Int) 0 = some (0, 6, (n : Int), 6) := by
  unfold code_source_bit
  rw [ok_good]
  simp only [Option.bind_some, cond_true, rem_none hp hk h hL]
  rfl
end Go.Proofs.YtjjakdmcnkldoaaDoor
