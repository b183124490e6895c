/- CodeReads answers true. Plain. -/
import Derived.Test.YtjjakdmcnkldoaaDoorCR21
set_option linter.unusedVariables false
set_option linter.unusedSimpArgs false
namespace Go.Proofs.YtjjakdmcnkldoaaDoor
open Go.Ev Go.Lib

theorem max_base : ∀ {t : Tr} {e : Int}, nf e t → e ≤ maxE e t
  | .nil, e, h => by simp [maxE]
  | .mk a t b u, e, h => by
    have h1 := max_base h.2.1
    have := h.2.1.base
    simp only [maxE]
    omega
theorem okE_of : ∀ {t : Tr} {e : Int}, nf e t → maxE e t ≤ 1048576 → okE e t
  | .nil, e, h, hm => ⟨h, by simp only [maxE] at hm; omega⟩
  | .mk a t b u, e, h, hm => by
    have h1 := max_base h.2.1
    have h2 := max_base h.2.2.1
    have b1 := h.2.1.base
    have b2 := h.2.2.1.base
    have b0 := h.1
    simp only [maxE] at hm
    exact ⟨⟨b0, by omega⟩, okE_of h.2.1 (by omega), okE_of h.2.2.1 (by omega)⟩
theorem depth_is : ∀ (t : Idt), depthID t = depthI t
  | .nil => rfl
  | .mk b t c u => by simp only [depthID, depthI, depth_is t, depth_is u]
theorem pk_of {p : List Int} {B r : List Bool} (hb : Bytes p) (h : bitsOf p = B ++ r) (hr : endR r = 0) : Pk p B := by
  have hn : ¬ (8 ≤ r.length ∨ true ∈ r) := by
    intro q
    rw [endR, if_pos q] at hr
    cases hr
  have h8 : r.length < 8 := by
    rcases Nat.lt_or_ge r.length 8 with q | q
    · exact q
    · exact absurd (.inl q) hn
  have hlen := bitsOf_len p
  rw [h, List.length_append] at hlen
  refine ⟨by omega, hb, fun q j hj hq => ?_⟩
  have hi := bitsOf_at (p := p) (i := 8 * q + j) (by omega)
  rw [show (8 * q + j) / 8 = q by omega, show (8 * q + j) % 8 = j by omega] at hi
  rw [hi, h]
  simp only [List.getD]
  rcases Nat.lt_or_ge (8 * q + j) B.length with c | c
  · rw [List.getElem?_append_left c]
  · rw [List.getElem?_append_right c, List.getElem?_eq_none c]
    cases hx : r[8 * q + j - B.length]? with
    | none => rfl
    | some x => cases x with
      | false => rfl
      | true => exact absurd (.inr (List.mem_of_getElem? hx)) hn
theorem codeReads_true {N : Nat} {p : List Int} (hN : 100 ≤ N) (hp : Bytes p) : kinfolklaw07_CodeReads N p = some true := by
  have hb : Bytes (p.take 100) := hp.take 100
  have hl : (p.take 100).length ≤ 100 := by rw [List.length_take]; omega
  have hc : kinfolklaw07_cut p 100 = some (p.take 100) := cut_eq (most := 100) (by decide)
  have hc2 : kinfolklaw07_cut (p.take 100) 100 = some (p.take 100) := by
    have := cut_eq (p := p.take 100) (most := 100) (by decide)
    rw [List.take_take, Nat.min_self] at this
    exact this
  have g := progS (N := N) hN hb (by omega)
  have k := rprogS (N := N) hN hb (by omega)
  obtain ⟨q1, q2, q3, q4, q5⟩ := readS_ok (bitsOf (p.take 100))
  unfold kinfolklaw07_CodeReads
  rw [awake_eq (by omega)]
  simp only [Option.bind_some, cond_true, hc, hc2, g, k, decide_true, sText (N := N) (by omega) q1 q3 (by omega) (by omega) (by omega), rSText (N := N) (by omega) q1 q3 (by omega) (by omega) (by omega), eq_eq hb hb]
  cases hd : decide ((showS (readS (bitsOf (p.take 100)))).2.2.2.2 = 0) with
  | false => rfl
  | true =>
    have hz := of_decide_eq_true hd
    have key : ∃ r, bitsOf (p.take 100) = (encID (showS (readS (bitsOf (p.take 100)))).1 (showS (readS (bitsOf (p.take 100)))).2.1 ++ encEv (showS (readS (bitsOf (p.take 100)))).2.2.1 (showS (readS (bitsOf (p.take 100)))).2.2.2.1) ++ r ∧ endR r = 0 := by
      have hR := rprogI (N := 100) (k := 16) (d := 0) (L := bitsOf (p.take 100)) (by omega) (by omega) (by rw [bitsOf_len]; omega)
      revert hz
      unfold readS
      revert hR
      cases h1 : decI 16 (bitsOf (p.take 100)) with
      | inr e => rintro ⟨he, -⟩ hz; exact absurd hz he
      | inl x =>
        obtain ⟨i, t, r⟩ := x
        rintro -
        have e1 := decI_enc h1
        have hlr := (decI_ok h1).2.2
        rw [bitsOf_len] at hlr
        have hE := rprogE (N := 100) (k := 16) (d := 0) (L := r) (by omega) (by omega) (by omega)
        simp only
        revert hE
        cases h2 : decE 16 r with
        | inr e => rintro ⟨he, -⟩ hz; exact absurd hz he
        | inl y =>
          obtain ⟨e, u, r2⟩ := y
          rintro -
          have e2 := decE_enc h2
          simp only
          split
          · rename_i h3; intro _; exact ⟨r2, by simp only [showS]; rw [e1, e2, List.append_assoc], h3⟩
          · rename_i h3; intro hz; exact absurd hz h3
    obtain ⟨r, hB, hr⟩ := key
    have hP := pk_of hb hB hr
    have hlen := congrArg List.length hB
    rw [bitsOf_len, List.length_append] at hlen
    obtain ⟨l, s1, s2⟩ := stampBytes (N := N) (i := (showS (readS (bitsOf (p.take 100)))).1) (t := (showS (readS (bitsOf (p.take 100)))).2.1) (e := (showS (readS (bitsOf (p.take 100)))).2.2.1) (u := (showS (readS (bitsOf (p.take 100)))).2.2.2.1) (by rw [depth_is]; omega) (by omega) (okE_of q3 q5) (by omega)
    have he : l = p.take 100 := s2.uniq hP
    subst he
    simp only [cond_true, s1, Option.bind_some, eq_eq hb hb, decide_true]
end Go.Proofs.YtjjakdmcnkldoaaDoor
