/- CodeParts answers true. Plain. -/
import Derived.Test.YtjjakdmcnkldoaaDoorCR14
import Derived.Test.YtjjakdmcnkldoaaDoorCA
set_option linter.unusedVariables false
set_option linter.unusedSimpArgs false
namespace Go.Proofs.YtjjakdmcnkldoaaDoor
open Go.Ev Go.Lib

/-- What the decoder shows of its answer. -/
def partI : RI → Bool × Idt × Int
  | .inl (i, t, _) => (i, t, 0)
  | .inr e => (false, .nil, e)
def partE : RE → Int × Tr × Int
  | .inl (e, t, _) => (e, t, 0)
  | .inr w => (0, .nil, w)
theorem getID_is {N : Nat} {p : List Int} (hN : 100 ≤ N) (hb : Bytes p) (hp : p.length ≤ 10000) : ∃ m er : Int, code_GetID N p 0 0 = some ((partI (decI 16 (bitsOf p))).1, (partI (decI 16 (bitsOf p))).2.1, (partI (decI 16 (bitsOf p))).2.2, m, er) := by
  have h := progI hb (by omega) (N := N) (k := 16) (d := 0) (n := 0) (by omega) (by omega) (rem_all p)
  unfold code_GetID
  revert h
  cases hd : decI 16 (bitsOf p) with
  | inl x =>
    obtain ⟨i, t, r⟩ := x
    rintro ⟨m, h, -⟩
    have h' : code_source_id_2 N 0 0 p 0 0 = _ := h
    exact ⟨m, 0, by rw [h']; rfl⟩
  | inr e =>
    rintro ⟨he, i, t, m, er, h, -⟩
    have h' : code_source_id_2 N 0 0 p 0 0 = _ := h
    exact ⟨m, er, by rw [h']; simp only [Option.bind_some, df he, cond_false]; rfl⟩
theorem getEv_is {N : Nat} {p : List Int} (hN : 100 ≤ N) (hb : Bytes p) (hp : p.length ≤ 10000) : ∃ m er : Int, code_GetEvent N p 0 0 = some ((partE (decE 16 (bitsOf p))).1, (partE (decE 16 (bitsOf p))).2.1, (partE (decE 16 (bitsOf p))).2.2, m, er) := by
  have h := progE hb (by omega) (N := N) (k := 16) (d := 0) (n := 0) (by omega) (by omega) (rem_all p)
  unfold code_GetEvent
  revert h
  cases hd : decE 16 (bitsOf p) with
  | inl x =>
    obtain ⟨i, t, r⟩ := x
    rintro ⟨m, h, -⟩
    have h' : code_source_event_2 N 0 0 p 0 0 = _ := h
    exact ⟨m, 0, by rw [h']; rfl⟩
  | inr e =>
    rintro ⟨he, i, t, m, er, h⟩
    have h' : code_source_event_2 N 0 0 p 0 0 = _ := h
    exact ⟨m, er, by rw [h']; simp only [Option.bind_some, df he, cond_false]; rfl⟩
theorem rGetID_is {N : Nat} {L : List Bool} (hN : 100 ≤ N) (hl : L.length ≤ 90000) : ∃ l er, kinfolkref07_GetID_3 N 0 0 L = some (fromI (partI (decI 16 L)).1 (partI (decI 16 L)).2.1, (partI (decI 16 L)).2.2, l, er) := by
  rw [rGetID (by omega)]
  have h := rprogI (N := N + 1) (k := 16) (d := 0) (L := L) (by omega) (by omega) (by omega)
  revert h
  cases hd : decI 16 L with
  | inl x => obtain ⟨i, t, r⟩ := x; intro h; exact ⟨r, 0, h⟩
  | inr e => rintro ⟨he, l, er, h⟩; exact ⟨l, er, h⟩
theorem rGetEv_is {N : Nat} {L : List Bool} (hN : 100 ≤ N) (hl : L.length ≤ 90000) : ∃ l er, kinfolkref07_GetEvent_3 N 0 0 L = some (fromEv (partE (decE 16 L)).1 (partE (decE 16 L)).2.1, (partE (decE 16 L)).2.2, l, er) := by
  rw [rGetEvent (by omega)]
  have h := rprogE (N := N + 1) (k := 16) (d := 0) (L := L) (by omega) (by omega) (by omega)
  revert h
  cases hd : decE 16 L with
  | inl x => obtain ⟨i, t, r⟩ := x; intro h; exact ⟨r, 0, h⟩
  | inr e => rintro ⟨he, l, er, h⟩; exact ⟨l, er, h⟩
theorem partI_ok (L : List Bool) : nfI (partI (decI 16 L)).1 (partI (decI 16 L)).2.1 ∧ depthI (partI (decI 16 L)).2.1 ≤ 16 := by
  cases hd : decI 16 L with
  | inl x => obtain ⟨i, t, r⟩ := x; have := decI_ok hd; exact ⟨this.1, this.2.1⟩
  | inr e => exact ⟨trivial, by simp [partI, depthI]⟩
theorem partE_ok (L : List Bool) : nf (partE (decE 16 L)).1 (partE (decE 16 L)).2.1 ∧ depthE (partE (decE 16 L)).2.1 ≤ 16 ∧ maxE (partE (decE 16 L)).1 (partE (decE 16 L)).2.1 ≤ 1048576 := by
  cases hd : decE 16 L with
  | inl x => obtain ⟨e, t, r⟩ := x; have := decE_ok hd; exact ⟨this.1, this.2.1, this.2.2.1⟩
  | inr e => exact ⟨by simp [partE, nf], by simp [partE, depthE], by simp [partE, maxE]⟩
theorem spoilt (k : Nat) (hk : k ≤ 64) (h0 : 0 < k) : code_source_bit (k : Int) 0 [] 0 6 = code_source_bit (k : Int) 0 [] 0 0 := by
  have h2 : code_source_bit (k : Int) 0 [] ((0 : Nat) : Int) 0 = some (0, 6, ((0 : Nat) : Int), 6) := bit_none (p := []) (n := 0) (L := []) (by decide) hk (rem_all []) (by simpa using h0)
  have h3 : code_source_bit (k : Int) 0 [] 0 0 = some (0, 6, 0, 6) := h2
  rw [h3]
  unfold code_source_bit code_source_ok bits_Reader_Err code_source_fail
  rfl
theorem spoiltI {N : Nat} (hN : 100 ≤ N) : code_GetID N [] 0 6 = code_GetID N [] 0 0 := by
  obtain ⟨N, rfl⟩ : ∃ M, N = M + 1 := ⟨N - 1, by omega⟩
  unfold code_GetID
  have h := spoilt 2 (by decide) (by decide)
  have h' : code_source_bit 2 0 [] 0 6 = code_source_bit 2 0 [] 0 0 := h
  show (code_source_id_2_b N (code_source_id_2 N) 0 0 [] 0 6).bind _ = (code_source_id_2_b N (code_source_id_2 N) 0 0 [] 0 0).bind _
  unfold code_source_id_2_b
  rw [h']
theorem spoiltE {N : Nat} (hN : 100 ≤ N) : code_GetEvent N [] 0 6 = code_GetEvent N [] 0 0 := by
  obtain ⟨N, rfl⟩ : ∃ M, N = M + 1 := ⟨N - 1, by omega⟩
  unfold code_GetEvent
  have h := spoilt 1 (by decide) (by decide)
  have h' : code_source_bit 1 0 [] 0 6 = code_source_bit 1 0 [] 0 0 := h
  show (code_source_event_2_b N (code_source_event_2 N) 0 0 [] 0 6).bind _ = (code_source_event_2_b N (code_source_event_2 N) 0 0 [] 0 0).bind _
  unfold code_source_event_2_b
  rw [h']
theorem badI {N : Nat} (hN : 100 ≤ N) : ∃ i t, code_GetID N [] 0 6 = some (i, t, 6, 0, 6) := by
  obtain ⟨N, rfl⟩ : ∃ M, N = M + 1 := ⟨N - 1, by omega⟩
  unfold code_GetID
  have h := spoilt 2 (by decide) (by decide)
  have h2 : code_source_bit 2 0 [] ((0 : Nat) : Int) 0 = some (0, 6, ((0 : Nat) : Int), 6) := bit_none (p := []) (n := 0) (k := 2) (L := []) (by decide) (by decide) (rem_all []) (by decide)
  have h3 : code_source_bit 2 0 [] 0 6 = some (0, 6, 0, 6) := by rw [show code_source_bit 2 0 [] 0 6 = code_source_bit 2 0 [] 0 0 from h]; exact h2
  refine ⟨false, .nil, ?_⟩
  show (code_source_id_2_b N (code_source_id_2 N) 0 0 [] 0 6).bind _ = _
  unfold code_source_id_2_b
  simp only [h3, Option.bind_some, bit_bad (show (6 : Int) ≠ 0 by decide), id_Zero]
  rfl
theorem badE {N : Nat} (hN : 100 ≤ N) : ∃ i t m er, code_GetEvent N [] 0 6 = some (i, t, 6, m, er) := by
  rw [spoiltE hN]
  obtain ⟨m, er, h⟩ := getEv_is (N := N) (p := []) hN (fun x hx => by simp at hx) (by decide)
  exact ⟨_, _, m, er, h⟩
theorem codeParts_true {N : Nat} {p : List Int} (hN : 100 ≤ N) (hp : Bytes p) : kinfolklaw07_CodeParts N p = some true := by
  have hb : Bytes (p.take 60) := hp.take 60
  have hl : (p.take 60).length ≤ 60 := by rw [List.length_take]; omega
  have hL : (bitsOf (p.take 60)).length ≤ 480 := by rw [bitsOf_len]; omega
  obtain ⟨m1, e1, g1⟩ := getID_is (N := N) hN hb (by omega)
  obtain ⟨m2, e2, g2⟩ := getEv_is (N := N) hN hb (by omega)
  obtain ⟨l1, w1, r1⟩ := rGetID_is (N := N) (L := bitsOf (p.take 60)) hN (by omega)
  obtain ⟨l2, w2, r2⟩ := rGetEv_is (N := N) (L := bitsOf (p.take 60)) hN (by omega)
  obtain ⟨i, t, b1⟩ := badI (N := N) hN
  obtain ⟨i2, t2, m3, w3, b2⟩ := badE (N := N) hN
  have hg : bits_Reader_Get 1 [] ((0 : Nat) : Int) 0 = some (0, ((0 : Nat) : Int), 6) := rem_none (k := 1) (p := []) (n := 0) (L := []) (by decide) (by decide) (rem_all []) (by decide)
  have hg' : bits_Reader_Get 1 [] 0 0 = some (0, 0, 6) := hg
  obtain ⟨q1, q2⟩ := partI_ok (bitsOf (p.take 60))
  obtain ⟨q3, q4, q5⟩ := partE_ok (bitsOf (p.take 60))
  have tl : (textE (partE (decE 16 (bitsOf (p.take 60)))).1 (partE (decE 16 (bitsOf (p.take 60)))).2.1).length ≤ 140737488355328 := by
    have a := text_len q3 (by omega)
    have b : 2 ^ depthE (partE (decE 16 (bitsOf (p.take 60)))).2.1 ≤ 2 ^ 16 := Nat.pow_le_pow_right (by decide) q4
    omega
  unfold kinfolklaw07_CodeParts
  rw [awake_eq (by omega)]
  have hc : kinfolklaw07_cut p 60 = some (p.take 60) := cut_eq (most := 60) (by decide)
  unfold bits_NewReader
  simp only [Option.bind_some, cond_true, hc, fits_ok (show (p.take 60).length ≤ 536870912 by omega), g1, g2, rBits hb (by omega), r1, r2, hg', b1, b2, decide_true,
    idText (N := N) (by omega) q1 (by omega), rIText (N := N) (by omega) q1 (by omega), evText (N := N) (by omega) q3 (by omega) tl, rText (N := N) (by omega) q3 (by omega) tl,
    fits_ok (show ([] : List Int).length ≤ 536870912 by decide)]
end Go.Proofs.YtjjakdmcnkldoaaDoor
