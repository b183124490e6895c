/- Quoting, on the program's side; the example; the first law. Plain. -/
import Derived.Test.YtecblpgljmbpeaaDoorT2
set_option linter.unusedVariables false
set_option linter.unusedSimpArgs false
namespace Go.Proofs.YtecblpgljmbpeaaDoor
open Go.Ev Go.Lib

def bI (l : List UInt8) : List Int := l.map fun b => (b.toNat : Int)
theorem bI_mk (l : List UInt8) : bytesL (mkS l) = bI l := by unfold bytesL bI; rw [mkS_list]
theorem bI_len (l : List UInt8) : (bI l).length = l.length := by simp [bI]
theorem bI_app (l m : List UInt8) : bI (l ++ m) = bI l ++ bI m := by simp [bI]
theorem strOf_bI (l : List UInt8) : strOf (bI l) = mkS l := by
  unfold strOf bI mkS
  congr 2
  rw [List.map_map]
  conv => rhs; rw [← List.map_id l]
  congr 1
  funext b
  simp
theorem strOf_take (l : List UInt8) : strOf (List.take (bI l).length (bI l)) = mkS l := by rw [List.take_length, strOf_bI]
theorem bI_get {l : List UInt8} {i : Nat} (h : i < l.length) : (bI l).getD i 0 = ((l.getD i 0).toNat : Int) := by
  simp [bI, List.getD, h]
def hexD (n : Nat) : UInt8 := ([48, 49, 50, 51, 52, 53, 54, 55, 56, 57, 97, 98, 99, 100, 101, 102] : List UInt8).getD n 0
def bareN (b : Nat) : Bool := decide (32 < b) && decide (b ≤ 126) && !decide (b = 92) && !decide (b = 34) && !decide (b = 59)
/-- How a byte is told. -/
def qB (b : UInt8) : List UInt8 := if bareN b.toNat = true then [b] else if b.toNat = 92 then [92, 92] else [92, hexD (b.toNat / 16), hexD (b.toNat % 16)]
def quoteL (l : List UInt8) : List UInt8 := if l = [] then [92, 45] else l.flatMap qB
theorem bare_go : ∀ b : Fin 256, text_bare (b.val : Int) = some (bareN b.val) := by decide +kernel
theorem hx1 : ∀ b : Fin 256, (((⟨#[48, 49, 50, 51, 52, 53, 54, 55, 56, 57, 97, 98, 99, 100, 101, 102]⟩ : ByteArray).data.getD ((ishr .u8 (b.val : Int) 4)).toNat 0).toNat : Int) = ((hexD (b.val / 16)).toNat : Int) := by decide +kernel
theorem hx2 : ∀ b : Fin 256, (((⟨#[48, 49, 50, 51, 52, 53, 54, 55, 56, 57, 97, 98, 99, 100, 101, 102]⟩ : ByteArray).data.getD ((iand .u8 (b.val : Int) 15)).toNat 0).toNat : Int) = ((hexD (b.val % 16)).toNat : Int) := by decide +kernel
theorem hr1 : ∀ b : Fin 256, (decide ((0 : Int) ≤ (ishr .u8 (b.val : Int) 4)) && decide (((ishr .u8 (b.val : Int) 4) : Int) < ((⟨#[48, 49, 50, 51, 52, 53, 54, 55, 56, 57, 97, 98, 99, 100, 101, 102]⟩ : ByteArray).size : Int))) = true := by decide +kernel
theorem hr2 : ∀ b : Fin 256, (decide ((0 : Int) ≤ (iand .u8 (b.val : Int) 15)) && decide (((iand .u8 (b.val : Int) 15) : Int) < ((⟨#[48, 49, 50, 51, 52, 53, 54, 55, 56, 57, 97, 98, 99, 100, 101, 102]⟩ : ByteArray).size : Int))) = true := by decide +kernel
theorem qB_len (b : UInt8) : (qB b).length ≤ 3 ∧ 1 ≤ (qB b).length := by
  unfold qB
  split
  · simp
  · split <;> simp
theorem qstep {l m : List UInt8} {i : Nat} (hi : i < l.length) (hl : l.length ≤ 10000) (hm : m.length ≤ 100000) :
    text_Quote_L0_2_step l.length (l.length : Int) (bI l) ((i : Int), bI m) = some (.inl (((i + 1 : Nat) : Int), bI (m ++ qB (l.getD i 0)))) := by
  unfold text_Quote_L0_2_step
  simp only [Int.toNat_natCast, Nat.zero_add]
  rw [bI_get hi, dt (by omega : (i : Int) < (l.length : Int)), dt (by omega : (0 : Int) ≤ (i : Int)), Bool.and_self, cond_true, cond_true, iadd64 (by omega) (by omega)]
  have hb := byte_lt (l.getD i 0)
  generalize l.getD i 0 = b at *
  rw [show ((b.toNat : Nat) : Int) = ((⟨b.toNat, hb⟩ : Fin 256).val : Int) from rfl, bare_go, hx1, hx2, hr1, hr2]
  simp only [Option.bind_some, cond_true]
  unfold qB
  cases h1 : bareN b.toNat with
  | true =>
    rw [fits_ok (by simp [bI_len]; omega), if_pos rfl, bI_app]
    rfl
  | false =>
    simp only [cond_false, if_neg (by simp : ¬ (false = true))]
    by_cases h2 : b.toNat = 92
    · rw [dt (by omega), if_pos h2, fits_ok (by simp [bI_len]; omega), bI_app]
      rfl
    · rw [df (by omega), if_neg h2, cond_false, fits_ok (by simp [bI_len]; omega), bI_app]
      rfl
theorem drop_cons' {l : List UInt8} {i : Nat} (h : i < l.length) : l.drop i = l.getD i 0 :: l.drop (i + 1) := by
  rw [List.drop_eq_getElem_cons h]
  simp [List.getD, h]
theorem qloop {l : List UInt8} (hl : l.length ≤ 10000) : ∀ (f i : Nat) (m : List UInt8), l.length ≤ i + f → i ≤ l.length → m.length ≤ 3 * i →
    runL (text_Quote_L0_2_step l.length (l.length : Int) (bI l)) ((i : Int), bI m) = some (bI (m ++ (l.drop i).flatMap qB)) := by
  intro f
  induction f with
  | zero =>
    intro i m h1 h2 hm
    refine runL_done ?_
    unfold text_Quote_L0_2_step
    simp only
    rw [df (by omega), drop_nil' (by omega)]
    simp
  | succ f ih =>
    intro i m h1 h2 hm
    by_cases hi : i < l.length
    · have hq := qB_len (l.getD i 0)
      refine (runL_next (qstep hi hl (by omega))).trans ((ih (i + 1) _ (by omega) (by omega) (by rw [List.length_append]; omega)).trans ?_)
      rw [drop_cons' hi, List.flatMap_cons, List.append_assoc]
    · refine runL_done ?_
      unfold text_Quote_L0_2_step
      simp only
      rw [df (by omega), drop_nil' hi]
      simp
theorem mkS_ne {l : List UInt8} (h : l ≠ []) : mkS l ≠ (⟨#[]⟩ : ByteArray) := fun e => h (mkS_inj.1 (e.trans (rfl : (⟨#[]⟩ : ByteArray) = mkS [])))
theorem quote_go {l : List UInt8} (hl : l.length ≤ 10000) : text_Quote (mkS l) = some (mkS (quoteL l)) := by
  unfold text_Quote quoteL
  by_cases h : l = []
  · subst h
    rw [show mkS [] = (⟨#[]⟩ : ByteArray) from rfl, dt rfl, if_pos rfl]
    rfl
  · rw [df (mkS_ne h), if_neg h, mkS_size, dt (by omega), bI_mk, bI_len]
    have := qloop hl l.length 0 [] (by omega) (by omega) (by simp)
    rw [show ((0 : Int), ([] : List Int)) = (((0 : Nat) : Int), bI []) from rfl, this]
    simp only [Option.bind_some, cond_true, cond_false]
    rw [List.nil_append, List.drop_zero, strOf_take]
theorem chk_one : chk [97] = true := by decide +kernel
theorem awake_go : kinfolklaw08_awake = some true := by
  unfold kinfolklaw08_awake
  rw [show (⟨#[97, 59, 98]⟩ : ByteArray) = mkS [97, 59, 98] from rfl, quote_go (by simp)]
  simp only [Option.bind_some]
  rw [dt (by decide +kernel : mkS (quoteL [97, 59, 98]) = (⟨#[97, 92, 51, 98, 98]⟩ : ByteArray)), cond_true, show (⟨#[97]⟩ : ByteArray) = mkS [97] from rfl, check_go _ (by simp), if_neg (by simp), if_pos chk_one]
  rfl
theorem textChecks_true (s : ByteArray) (most : Int) : kinfolklaw08_TextChecks s most = some true := by
  obtain ⟨l, hl, hf⟩ := few_go s
  have hr := runs_le l
  unfold kinfolklaw08_TextChecks
  rw [awake_go]
  simp only [Option.bind_some, cond_true]
  rw [hf]
  simp only [Option.bind_some]
  rw [check_go most (by omega)]
  simp only [Option.bind_some]
  rw [rcheck_go most (by omega)]
  simp only [Option.bind_some, decide_true, cond_true]
  rw [runes_go (by omega)]
  simp only [Option.bind_some]
  rw [rrunes_go (by omega)]
  simp only [Option.bind_some, decide_true, cond_true]
  rw [mkS_size, dt (by omega)]
end Go.Proofs.YtecblpgljmbpeaaDoor
