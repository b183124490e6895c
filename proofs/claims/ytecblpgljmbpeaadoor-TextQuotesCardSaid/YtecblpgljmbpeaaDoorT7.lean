/- Words told again, on both sides. The fourth law. Plain. -/
import Derived.Test.YtecblpgljmbpeaaDoorT6
set_option linter.unusedVariables false
set_option linter.unusedSimpArgs false
namespace Go.Proofs.YtecblpgljmbpeaaDoor
open Go.Ev Go.Lib

/-! ### The program's -/
def idxH (c : UInt8) : Int := indexByte hexS.data.toList c
def hexB (c d : UInt8) : UInt8 := UInt8.ofNat (IntKind.u8.wrap (ior .i64 (ishl .i64 (idxH c) 4) (iand .i64 (idxH d) 15))).toNat
theorem idx_in : ∀ c : Fin 256, -1 ≤ idxH (UInt8.ofNat c.val) ∧ idxH (UInt8.ofNat c.val) ≤ 15 := by decide +kernel
theorem wrap_in : ∀ n m : Fin 17, ((UInt8.ofNat (IntKind.u8.wrap (ior .i64 (ishl .i64 ((n.val : Int) - 1) 4) (iand .i64 ((m.val : Int) - 1) 15))).toNat).toNat : Int) = IntKind.u8.wrap (ior .i64 (ishl .i64 ((n.val : Int) - 1) 4) (iand .i64 ((m.val : Int) - 1) 15)) := by decide +kernel
theorem idx_b (c : UInt8) : -1 ≤ idxH c ∧ idxH c ≤ 15 := by
  have h := idx_in ⟨c.toNat, byte_lt c⟩
  simpa using h
theorem hexB_val (c d : UInt8) : IntKind.u8.wrap (ior .i64 (ishl .i64 (idxH c) 4) (iand .i64 (idxH d) 15)) = ((hexB c d).toNat : Int) := by
  have h1 := idx_b c
  have h2 := idx_b d
  unfold hexB
  obtain ⟨n, hn⟩ : ∃ n : Fin 17, idxH c = (n.val : Int) - 1 := ⟨⟨(idxH c + 1).toNat, by omega⟩, by simp only; omega⟩
  obtain ⟨m, hm⟩ : ∃ m : Fin 17, idxH d = (m.val : Int) - 1 := ⟨⟨(idxH d + 1).toNat, by omega⟩, by simp only; omega⟩
  rw [hn, hm, wrap_in]
theorem hexB_back : ∀ b : Fin 256, hexB (hexD (b.val / 16)) (hexD (b.val % 16)) = UInt8.ofNat b.val := by decide +kernel
/-- What the program reads. -/
def pP : List UInt8 → List UInt8
  | [] => []
  | b :: r => if b.toNat = 92 then (match r with
    | [] => []
    | c :: r2 => if c.toNat = 92 then 92 :: pP r2 else (match r2 with
      | [] => []
      | d :: r3 => hexB c d :: pP r3)) else b :: pP r
theorem pP_nil : pP [] = [] := by rw [pP]
theorem pP_bare {b : UInt8} (h : ¬ b.toNat = 92) (r : List UInt8) : pP (b :: r) = b :: pP r := by rw [pP.eq_def]; simp only [if_neg h]
theorem pP_one {b : UInt8} (h : b.toNat = 92) : pP [b] = [] := by rw [pP.eq_def]; simp only [if_pos h]
theorem pP_back {b c : UInt8} (h : b.toNat = 92) (h2 : c.toNat = 92) (r : List UInt8) : pP (b :: c :: r) = 92 :: pP r := by rw [pP.eq_def]; simp only [if_pos h, if_pos h2]
theorem pP_two {b c : UInt8} (h : b.toNat = 92) (h2 : ¬ c.toNat = 92) : pP [b, c] = [] := by rw [pP.eq_def]; simp only [if_pos h, if_neg h2]
theorem pP_hex {b c : UInt8} (h : b.toNat = 92) (h2 : ¬ c.toNat = 92) (d : UInt8) (r : List UInt8) : pP (b :: c :: d :: r) = hexB c d :: pP r := by rw [pP.eq_def]; simp only [if_pos h, if_neg h2]
def finL (w t : List UInt8) : ByteArray × Bool := if w = [92, 45] then (mkS [], true) else if quoteL t = w then (mkS t, true) else (mkS [], false)
theorem b92 {b : UInt8} (h : b.toNat = 92) : b = 92 := by
  apply UInt8.toNat_inj.1
  rw [h]
  rfl
theorem fin_go {w t : List UInt8} (ht : t.length ≤ 10000) : (bif (decide (mkS w = (⟨#[92, 45]⟩ : ByteArray))) then some (Sum.inr ((⟨#[]⟩ : ByteArray), true) : (ByteArray × List Int) ⊕ (ByteArray × Bool)) else
    (text_Quote (strOf (List.take (bI t).length (bI t)))).bind fun s2 => bif (decide (s2 = mkS w)) then some (.inr ((strOf (List.take (bI t).length (bI t))), true)) else some (.inr ((⟨#[]⟩ : ByteArray), false))) = some (.inr (finL w t)) := by
  unfold finL
  rw [l9245, l0, strOf_take, quote_go ht]
  simp only [Option.bind_some]
  by_cases h : w = [92, 45]
  · rw [if_pos h, dt (mkS_inj.2 h)]; rfl
  · rw [if_neg h, df (fun e => h (mkS_inj.1 e))]
    by_cases h2 : quoteL t = w
    · rw [if_pos h2, dt (mkS_inj.2 h2)]; rfl
    · rw [if_neg h2, df (fun e => h2 (mkS_inj.1 e))]; rfl
theorem ext1 (b : UInt8) (r : List UInt8) : (mkS (b :: r)).extract 1 ((mkS (b :: r)).size : Int).toNat = mkS r := by
  rw [Int.toNat_natCast, mkS_size, mkS_ext, List.take_length]; rfl
theorem ext2 (b c : UInt8) (r : List UInt8) : (mkS (b :: c :: r)).extract 2 ((mkS (b :: c :: r)).size : Int).toNat = mkS r := by
  rw [Int.toNat_natCast, mkS_size, mkS_ext, List.take_length]; rfl
theorem get0 (b : UInt8) (r : List UInt8) : (mkS (b :: r)).data.getD 0 0 = b := by rw [mkS_get]; rfl
theorem get1 (b c : UInt8) (r : List UInt8) : (mkS (b :: c :: r)).data.getD 1 0 = c := by rw [mkS_get]; rfl
theorem idx_go (c : UInt8) : strings_IndexByte (⟨#[48, 49, 50, 51, 52, 53, 54, 55, 56, 57, 97, 98, 99, 100, 101, 102]⟩ : ByteArray) ((c.toNat : Nat) : Int) = some (idxH c) := by
  unfold strings_IndexByte idxH
  rw [Int.toNat_natCast]
  congr 2
  simp
theorem dnil : decide (mkS [] = (⟨#[]⟩ : ByteArray)) = true := decide_eq_true rfl
theorem pstep_nil {w t : List UInt8} (ht : t.length ≤ 10000) : text_Unquote_S0_2_step (mkS w) (mkS [], bI t) = some (.inr (finL w t)) := by
  unfold text_Unquote_S0_2_step
  simp only
  rw [dnil, cond_true]
  exact fin_go ht
theorem pstep_bare {w t r : List UInt8} {b : UInt8} (ht : t.length ≤ 10000) (h : ¬ b.toNat = 92) : text_Unquote_S0_2_step (mkS w) (mkS (b :: r), bI t) = some (.inl (mkS r, bI (t ++ [b]))) := by
  unfold text_Unquote_S0_2_step
  simp only [ext1, get0]
  simp only [mkS_size, List.length_cons]
  rw [df (mkS_ne (by simp)), dt (by omega : (0 : Int) ≤ 0), dt (by omega : (0 : Int) < ((r.length + 1 : Nat) : Int)), dt (by omega : (0 : Int) ≤ 1), dt (by omega : (1 : Int) ≤ ((r.length + 1 : Nat) : Int)), dt (by omega : ((r.length + 1 : Nat) : Int) ≤ ((r.length + 1 : Nat) : Int)), df (by omega : ¬ ((b.toNat : Nat) : Int) = 92)]
  simp only [Bool.and_self, cond_true, cond_false]
  rw [fits_ok (by simp [bI_len]; omega), bI_app]
  rfl
theorem pstep_one {w t : List UInt8} {b : UInt8} (ht : t.length ≤ 10000) (h : b.toNat = 92) : text_Unquote_S0_2_step (mkS w) (mkS [b], bI t) = some (.inr (finL w t)) := by
  unfold text_Unquote_S0_2_step
  simp only [ext1, get0]
  simp only [mkS_size, List.length_cons, List.length_nil]
  rw [df (mkS_ne (by simp)), dt (by omega : (0 : Int) ≤ 0), dt (by omega : (0 : Int) < ((0 + 1 : Nat) : Int)), dt (by omega : (0 : Int) ≤ 1), dt (by omega : (1 : Int) ≤ ((0 + 1 : Nat) : Int)), dt (by omega : ((0 + 1 : Nat) : Int) ≤ ((0 + 1 : Nat) : Int)), dt (by omega : ((b.toNat : Nat) : Int) = 92), dnil, df (by omega : ¬ (1 : Int) < ((0 : Nat) : Int))]
  simp only [Bool.and_self, cond_true, cond_false]
  exact fin_go ht
theorem pstep_back {w t r : List UInt8} {b c : UInt8} (ht : t.length ≤ 10000) (h : b.toNat = 92) (h2 : c.toNat = 92) : text_Unquote_S0_2_step (mkS w) (mkS (b :: c :: r), bI t) = some (.inl (mkS r, bI (t ++ [92]))) := by
  unfold text_Unquote_S0_2_step
  simp only [ext1, get0]
  simp only [mkS_size, List.length_cons]
  rw [df (mkS_ne (by simp)), dt (by omega : (0 : Int) ≤ 0), dt (by omega : (0 : Int) < ((r.length + 1 + 1 : Nat) : Int)), dt (by omega : (0 : Int) ≤ 1), dt (by omega : (1 : Int) ≤ ((r.length + 1 + 1 : Nat) : Int)), dt (by omega : ((r.length + 1 + 1 : Nat) : Int) ≤ ((r.length + 1 + 1 : Nat) : Int)), dt (by omega : ((b.toNat : Nat) : Int) = 92), df (mkS_ne (by simp)), dt (by omega : (0 : Int) < ((r.length + 1 : Nat) : Int)), dt (by omega : ((c.toNat : Nat) : Int) = 92), dt (by omega : (1 : Int) ≤ ((r.length + 1 : Nat) : Int)), dt (by omega : ((r.length + 1 : Nat) : Int) ≤ ((r.length + 1 : Nat) : Int))]
  simp only [Bool.and_self, cond_true, cond_false]
  rw [fits_ok (by simp [bI_len]; omega), bI_app]
  rfl
theorem pstep_two {w t : List UInt8} {b c : UInt8} (ht : t.length ≤ 10000) (h : b.toNat = 92) (h2 : ¬ c.toNat = 92) : text_Unquote_S0_2_step (mkS w) (mkS [b, c], bI t) = some (.inr (finL w t)) := by
  unfold text_Unquote_S0_2_step
  simp only [ext1, get0]
  simp only [mkS_size, List.length_cons, List.length_nil]
  rw [df (mkS_ne (by simp)), dt (by omega : (0 : Int) ≤ 0), dt (by omega : (0 : Int) < ((0 + 1 + 1 : Nat) : Int)), dt (by omega : (0 : Int) ≤ 1), dt (by omega : (1 : Int) ≤ ((0 + 1 + 1 : Nat) : Int)), dt (by omega : ((0 + 1 + 1 : Nat) : Int) ≤ ((0 + 1 + 1 : Nat) : Int)), dt (by omega : ((b.toNat : Nat) : Int) = 92), df (mkS_ne (by simp)), dt (by omega : (0 : Int) < ((0 + 1 : Nat) : Int)), df (by omega : ¬ ((c.toNat : Nat) : Int) = 92), df (by omega : ¬ (1 : Int) < ((0 + 1 : Nat) : Int))]
  simp only [Bool.and_self, cond_true, cond_false]
  exact fin_go ht
theorem pstep_hex {w t r : List UInt8} {b c d : UInt8} (ht : t.length ≤ 10000) (h : b.toNat = 92) (h2 : ¬ c.toNat = 92) : text_Unquote_S0_2_step (mkS w) (mkS (b :: c :: d :: r), bI t) = some (.inl (mkS r, bI (t ++ [hexB c d]))) := by
  unfold text_Unquote_S0_2_step
  simp only [ext1, ext2, get0, get1, idx_go]
  simp only [mkS_size, List.length_cons, Option.bind_some, hexB_val]
  rw [df (mkS_ne (by simp)), dt (by omega : (0 : Int) ≤ 0), dt (by omega : (0 : Int) < ((r.length + 1 + 1 + 1 : Nat) : Int)), dt (by omega : (0 : Int) ≤ 1), dt (by omega : (1 : Int) ≤ ((r.length + 1 + 1 + 1 : Nat) : Int)), dt (by omega : ((r.length + 1 + 1 + 1 : Nat) : Int) ≤ ((r.length + 1 + 1 + 1 : Nat) : Int)), dt (by omega : ((b.toNat : Nat) : Int) = 92), df (mkS_ne (by simp)), dt (by omega : (0 : Int) < ((r.length + 1 + 1 : Nat) : Int)), df (by omega : ¬ ((c.toNat : Nat) : Int) = 92), dt (by omega : (1 : Int) < ((r.length + 1 + 1 : Nat) : Int)), dt (by omega : (0 : Int) ≤ 2), dt (by omega : (2 : Int) ≤ ((r.length + 1 + 1 : Nat) : Int)), dt (by omega : ((r.length + 1 + 1 : Nat) : Int) ≤ ((r.length + 1 + 1 : Nat) : Int))]
  simp only [Bool.and_self, cond_true, cond_false]
  rw [fits_ok (by simp [bI_len]; omega), bI_app]
  rfl
theorem ploop (w : List UInt8) : ∀ (f : Nat) (r t : List UInt8), r.length ≤ f → t.length + r.length ≤ 10000 → runL (text_Unquote_S0_2_step (mkS w)) (mkS r, bI t) = some (finL w (t ++ pP r)) := by
  intro f
  induction f with
  | zero =>
    intro r t h1 h2
    obtain rfl := List.length_eq_zero_iff.1 (by omega : r.length = 0)
    rw [pP_nil, List.append_nil]
    exact runL_done (pstep_nil (by omega))
  | succ f ih =>
    intro r t h1 h2
    match r, h1, h2 with
    | [], h1, h2 =>
      rw [pP_nil, List.append_nil]
      exact runL_done (pstep_nil (by omega))
    | b :: r, h1, h2 =>
      simp only [List.length_cons] at h1 h2
      by_cases hb : b.toNat = 92
      · match r, h1, h2 with
        | [], h1, h2 =>
          rw [pP_one hb, List.append_nil]
          exact runL_done (pstep_one (by omega) hb)
        | c :: r, h1, h2 =>
          simp only [List.length_cons] at h1 h2
          by_cases hc : c.toNat = 92
          · rw [pP_back hb hc]
            refine (runL_next (pstep_back (by omega) hb hc)).trans ((ih r (t ++ [92]) (by omega) (by simp; omega)).trans ?_)
            rw [List.append_assoc]; rfl
          · match r, h1, h2 with
            | [], h1, h2 =>
              rw [pP_two hb hc, List.append_nil]
              exact runL_done (pstep_two (by omega) hb hc)
            | d :: r, h1, h2 =>
              simp only [List.length_cons] at h1 h2
              rw [pP_hex hb hc]
              refine (runL_next (pstep_hex (by omega) hb hc)).trans ((ih r (t ++ [hexB c d]) (by omega) (by simp; omega)).trans ?_)
              rw [List.append_assoc]; rfl
      · rw [pP_bare hb]
        refine (runL_next (pstep_bare (by omega) hb)).trans ((ih r (t ++ [b]) (by omega) (by simp; omega)).trans ?_)
        rw [List.append_assoc]; rfl
theorem unquote_go {w : List UInt8} (hw : w.length ≤ 1000) : text_Unquote (mkS w) = some (finL w (pP w)) := by
  unfold text_Unquote
  have := ploop w w.length w [] (by omega) (by simp; omega)
  rw [show ([] : List Int) = bI [] from rfl, this]
  rfl
end Go.Proofs.YtecblpgljmbpeaaDoor
