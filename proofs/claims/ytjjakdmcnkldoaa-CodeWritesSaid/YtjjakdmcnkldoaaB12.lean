/- CodeRows answers true. Plain. -/
import Derived.Test.YtjjakdmcnkldoaaB11
set_option linter.unusedVariables false
set_option linter.unusedSimpArgs false
namespace Go.Proofs.Ytjjakdmcnkldoaa
open Go.Ev

theorem bitsN_mod : ∀ (k m v : Nat), k ≤ m → bitsN k (v % 2 ^ m) = bitsN k v
  | 0, m, v, h => rfl
  | k + 1, m, v, h => by
    rw [bitsN, bitsN, bitsN_mod k m v (by omega), Nat.testBit_mod_two_pow]
    simp [show k < m by omega]
theorem getEv0 {p : List Int} (hb : Bytes p) (hp : p.length ≤ 100000) {N : Nat} {t : T_event_halves} {e : Int} (hN : depthE t + 1 < N) (hw : wfE e t) (hm : maxE e t ≤ 1048576) (hd : depthE t ≤ 16) (h : Has p 0 (encEv e t)) :
    code_GetEvent N p 0 0 = some (e, t, 0, ((encEv e t).length : Int), 0) := by
  have := getEv_eq (n := 0) hb hp hN hw hm hd h
  rw [Nat.zero_add] at this
  exact this
theorem getID0 {p : List Int} (hb : Bytes p) (hp : p.length ≤ 100000) {N : Nat} {t : T_id_halves} {i : Bool} (hN : depthID t + 1 < N) (hw : nfID i t) (hd : depthID t ≤ 16) (h : Has p 0 (encID i t)) :
    code_GetID N p 0 0 = some (i, t, 0, ((encID i t).length : Int), 0) := by
  have := getID_eq (n := 0) hb hp hN hw hd h
  rw [Nat.zero_add] at this
  exact this
theorem idSame_self {N : Nat} {i : Bool} {t : T_id_halves} (hN : depthID t < N) (h : wfID i t) : id_Same N i t i t = some true := by
  obtain ⟨b, h1, h2⟩ := idSame_eq hN hN h h
  rw [h1, h2.2 ⟨rfl, rfl⟩]
theorem evSame_self {N : Nat} {e : Int} {t : T_event_halves} (hN : depthE t < N) (h : wfE e t) (hm : maxE e t ≤ 1048576) : event_Same N e t e t = some true := by
  obtain ⟨b, h1, h2⟩ := evSame_eq hN hN h h (by omega) (by omega)
  rw [h1, h2.2 ⟨rfl, rfl⟩]
theorem codeRows_true {N : Nat} {p q r : List Int} {tail : Int} (hN : 20 ≤ N) (hp : Bytes p) (hq : Bytes q) (hr : Bytes r) (ht : 0 ≤ tail ∧ tail < 18446744073709551616) : kinfolklaw07_CodeRows N p q r tail = some true := by
  obtain ⟨i, t, e, u, m1, a1, a2, a3, a4, a5⟩ := made_eq hN hp hq
  obtain ⟨j, v, f, w, m2, b1, b2, b3, b4, b5⟩ := made_eq hN hq hr
  obtain ⟨k, rfl⟩ : ∃ k : Nat, tail = (k : Int) := ⟨tail.toNat, by omega⟩
  have L1 := ev_le (e := e) a4
  have L2 := ev_le (e := f) b4
  have L3 := id_le (i := i) a2
  have L4 := id_le (i := j) b2
  obtain ⟨l1, w1, p1⟩ := putEv_go (N := N + 1) (e := e) (t := u) (l := []) (B := []) (by omega) a3.ok (by simpa using by omega) Pk.nil
  have w1' : code_PutEvent (N + 1) e u 0 [] = _ := w1
  rw [List.nil_append] at w1' p1
  obtain ⟨l2, w2, p2⟩ := putID_go (N := N) (i := j) (t := v) (by omega) (by omega) p1
  obtain ⟨l3, w3, p3⟩ := putID_go (N := N) (i := i) (t := t) (by omega) (by simp only [List.length_append]; omega) p2
  obtain ⟨l4, w4, p4⟩ := wr_put (v := k) (k := 9) (by omega) (by decide) (by simp only [List.length_append, bitsN_len]; omega) p3
  have w4' : bits_Writer_Put_2 (k : Int) 9 _ l3 = _ := w4
  obtain ⟨l5, w5, p5⟩ := putEv_go (N := N) (e := f) (t := w) (by omega) b3.ok (by simp only [List.length_append, bitsN_len]; omega) p4
  have hlen := p5.len
  simp only [List.length_append, bitsN_len] at hlen
  have hb := p5.byte
  have hl : l5.length ≤ 100000 := by omega
  have hE := p5
  simp only [List.append_assoc] at p5
  have hA : Has l5 0 (encEv e u ++ (encID j v ++ (encID i t ++ (bitsN 9 k ++ encEv f w)))) := by
    have := Pk.has (A := []) (B := encEv e u ++ (encID j v ++ (encID i t ++ (bitsN 9 k ++ encEv f w)))) (C := []) (by simpa using p5)
    exact this
  have r1 := getEv0 (N := N) hb hl (by omega) a3 (by omega) (by omega) hA.left
  have h2 := hA.right
  rw [Nat.zero_add] at h2
  have r2 := getID_eq (N := N) hb hl (by omega) b1 (by omega) h2.left
  have h3 := h2.right
  have r3 := getID_eq (N := N) hb hl (by omega) a1 (by omega) h3.left
  have h4 := h3.right
  have h4' := h4.left
  rw [← bitsN_mod 9 9 k (Nat.le_refl _)] at h4'
  have r4 := get_eq hb hl (k := 9) (by decide) (Nat.mod_lt _ (by decide)) h4'
  have h5 := h4.right
  rw [bitsN_len] at h5
  have r5 := getEv_eq (N := N) hb hl (by omega) b3 (by omega) (by omega) h5
  have r6 := end_eq hl hE
  rw [show (encEv e u ++ encID j v ++ encID i t ++ bitsN 9 k ++ encEv f w).length = (encEv e u).length + (encID j v).length + (encID i t).length + 9 + (encEv f w).length by simp only [List.length_append, bitsN_len]] at r6
  have r4' : bits_Reader_Get 9 l5 _ 0 = _ := r4
  have hm : irem .u64 (k : Int) 512 = ((k % 2 ^ 9 : Nat) : Int) := by rw [irem, Int.tmod_eq_emod_of_nonneg (by omega)]; omega
  unfold kinfolklaw07_CodeRows
  simp only [awake_eq hN, m1, m2, Option.bind_some, cond_true, bits_NewWriter, putEv_first, w1', w2, w3, w4', w5, bits_Writer_Bytes, List.take_length, fits_ok (show l5.length ≤ 536870912 by omega), bits_NewReader, r1, r2, r3, r4', r5, decide_true, evSame_self (N := N) (by omega) a3 (by omega), evSame_self (N := N) (by omega) b3 (by omega), idSame_self (N := N) (by omega) a1.wf, idSame_self (N := N) (by omega) b1.wf, hm, r6]
end Go.Proofs.Ytjjakdmcnkldoaa
