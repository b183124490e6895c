/- The sums are one. Plain. -/
import Derived.Test.YtecblpgljmbpeaaKb
namespace Go.Proofs.Ytecblpgljmbpeaa
open Go.Ev

def nw (r : Nat) : Nat := if r % 2 = 1 then (r / 2) ^^^ 3988292384 else r / 2
def nr (z : Nat × Nat) : Nat × Nat := (if z.1 % 2 = z.2 % 2 then z.1 / 2 else (z.1 / 2) ^^^ 3988292384, z.2 / 2)
theorem nw_lt {r : Nat} (h : r < 2 ^ 32) : nw r < 2 ^ 32 := by
  unfold nw
  split
  · exact Nat.xor_lt_two_pow (by omega) (by omega)
  · omega
theorem nr_lt {z : Nat × Nat} (h : z.1 < 2 ^ 32) : (nr z).1 < 2 ^ 32 := by
  unfold nr
  dsimp only
  split
  · omega
  · exact Nat.xor_lt_two_pow (by omega) (by omega)
theorem wstep_nat {r : Nat} (h : r < 2 ^ 32) : wstep r = (nw r : Nat) := by
  have h1 : iand .u32 (r : Int) 1 = ((r % 2 : Nat) : Int) := by
    have := iand_nat (k := .u32) rfl (a := r) (b := 1) h (by decide)
    rw [Nat.and_one_is_mod] at this
    exact this
  have h2 : ishr .u32 (r : Int) 1 = ((r / 2 : Nat) : Int) := by
    have := ishr_nat (k := .u32) (a := r) (n := 1) (by decide)
    simpa using this
  unfold wstep nw
  rw [h1, h2]
  by_cases hr : r % 2 = 1
  · rw [if_pos hr, if_pos (by exact_mod_cast hr)]
    exact ixor_nat (k := .u32) rfl (b := 3988292384) (show r / 2 < 2 ^ 32 by omega) (by decide)
  · rw [if_neg hr, if_neg (by exact_mod_cast hr)]
theorem rstep_nat {r b : Nat} (h : r < 2 ^ 32) (hb : b < 256) : rstep (r, b) = (((nr (r, b)).1 : Int), ((nr (r, b)).2 : Int)) := by
  have h1 : irem .u32 (r : Int) 2 = ((r % 2 : Nat) : Int) := by simp [irem, Int.tmod_eq_emod_of_nonneg]
  have h2 : iquo .u32 (r : Int) 2 = ((r / 2 : Nat) : Int) := by
    rw [iquo, IntWalk.u32_quo _ _ ⟨by omega, by omega, by omega⟩]; simp
  have h3 : irem .u8 (b : Int) 2 = ((b % 2 : Nat) : Int) := by simp [irem, Int.tmod_eq_emod_of_nonneg]
  have h4 : iquo .u8 (b : Int) 2 = ((b / 2 : Nat) : Int) := by
    rw [iquo, IntWalk.u8_quo _ _ ⟨by omega, by omega, by omega⟩]; simp
  have h5 : IntKind.u32.wrap ((b % 2 : Nat) : Int) = ((b % 2 : Nat) : Int) := wrap_nat rfl (show b % 2 < 2 ^ 32 by omega)
  unfold rstep nr
  dsimp only
  rw [h1, h2, h3, h4, h5]
  by_cases hr : r % 2 = b % 2
  · rw [if_pos hr, if_pos (by exact_mod_cast hr)]
  · rw [if_neg hr, if_neg (by exact_mod_cast hr)]
    congr 1
    exact ixor_nat (k := .u32) rfl (b := 3988292384) (show r / 2 < 2 ^ 32 by omega) (by decide)
theorem nw_xor (r b : Nat) : nw (r ^^^ b) = (nr (r, b)).1 ^^^ (nr (r, b)).2 := by
  have h1 : (r ^^^ b) / 2 = (r / 2) ^^^ (b / 2) := Nat.xor_div_two
  have h2 : (r ^^^ b) % 2 = (r + b) % 2 := by
    have h := Nat.xor_mod_two_pow (a := r) (b := b) (n := 1)
    simp only [Nat.pow_one] at h
    rw [h]
    rcases Nat.mod_two_eq_zero_or_one r with h3 | h3 <;> rcases Nat.mod_two_eq_zero_or_one b with h4 | h4 <;> rw [h3, h4] <;> simp <;> omega
  unfold nw nr
  dsimp only
  rw [h1, h2]
  by_cases h : r % 2 = b % 2
  · rw [if_neg (by omega), if_pos h]
  · rw [if_pos (by omega), if_neg h, Nat.xor_assoc, Nat.xor_comm (b / 2), ← Nat.xor_assoc]
theorem iter_nw {r : Nat} (h : r < 2 ^ 32) : ∀ m, iter wstep m (r : Int) = ((iter nw m r : Nat) : Int)
  | 0 => rfl
  | m + 1 => by rw [iter, iter, wstep_nat h]; exact iter_nw (nw_lt h) m
theorem iter_nr {z : Nat × Nat} (h : z.1 < 2 ^ 32) (hb : z.2 < 256) : ∀ m, iter rstep m ((z.1 : Int), (z.2 : Int)) = (((iter nr m z).1 : Int), ((iter nr m z).2 : Int))
  | 0 => rfl
  | m + 1 => by
    rw [iter, iter, rstep_nat h hb]
    have h2 : (nr (z.1, z.2)).2 < 256 := by simp only [nr]; omega
    exact iter_nr (nr_lt (z := (z.1, z.2)) h) h2 m
theorem iter_xor : ∀ (m : Nat) (z : Nat × Nat), iter nw m (z.1 ^^^ z.2) = (iter nr m z).1 ^^^ (iter nr m z).2
  | 0, z => rfl
  | m + 1, z => by rw [iter, iter, nw_xor]; exact iter_xor m (nr z)
theorem iter_two : ∀ (m : Nat) (z : Nat × Nat), (iter nr m z).2 = z.2 / 2 ^ m
  | 0, z => by simp [iter]
  | m + 1, z => by rw [iter, iter_two m (nr z)]; simp only [nr]; rw [Nat.div_div_eq_div_mul, Nat.pow_succ, Nat.mul_comm]
theorem iter_nw_lt {r : Nat} (h : r < 2 ^ 32) : ∀ m, iter nw m r < 2 ^ 32
  | 0 => h
  | m + 1 => iter_nw_lt (nw_lt h) m

/-- The sum over naturals. -/
def nfold (l : List Nat) (r : Nat) : Nat := l.foldl (fun r b => iter nw 8 (r ^^^ b)) r
theorem nfold_lt : ∀ {l : List Nat} {r : Nat}, (∀ x ∈ l, x < 256) → r < 2 ^ 32 → nfold l r < 2 ^ 32
  | [], _, _, h => h
  | b :: l, r, hl, h => nfold_lt (l := l) (fun x hx => hl x (by simp [hx])) (iter_nw_lt (Nat.xor_lt_two_pow h (Nat.lt_trans (hl b (by simp)) (by decide))) 8)
theorem wfold_nat : ∀ {l : List Nat} {r : Nat}, (∀ x ∈ l, x < 256) → r < 2 ^ 32 → wfold (l.map Nat.cast) r = ((nfold l r : Nat) : Int)
  | [], r, _, h => rfl
  | b :: l, r, hl, h => by
    have hb : b < 256 := hl b (by simp)
    have hx : r ^^^ b < 2 ^ 32 := Nat.xor_lt_two_pow h (Nat.lt_trans hb (by decide))
    have h1 : IntKind.u32.wrap (b : Int) = (b : Int) := wrap_nat rfl (show b < 2 ^ 32 by omega)
    rw [List.map_cons, wfold, List.foldl_cons, ← wfold, h1, ixor_nat (k := .u32) rfl h (show b < 2 ^ 32 by omega), iter_nw hx, wfold_nat (fun x hx => hl x (by simp [hx])) (iter_nw_lt hx 8)]
    rfl
theorem rfold_nat : ∀ {l : List Nat} {r : Nat}, (∀ x ∈ l, x < 256) → r < 2 ^ 32 → rfold (l.map Nat.cast) r = ((nfold l r : Nat) : Int)
  | [], r, _, h => rfl
  | b :: l, r, hl, h => by
    have hb : b < 256 := hl b (by simp)
    have hx : r ^^^ b < 2 ^ 32 := Nat.xor_lt_two_pow h (Nat.lt_trans hb (by decide))
    have e : (iter nr 8 (r, b)).1 = iter nw 8 (r ^^^ b) := by
      have h1 := iter_xor 8 (r, b)
      have h2 := iter_two 8 (r, b)
      simp only at h1 h2
      rw [h1, h2, Nat.div_eq_of_lt (by omega)]; simp
    rw [List.map_cons, rfold, List.foldl_cons, ← rfold, iter_nr (z := (r, b)) h hb 8]
    simp only
    rw [e, rfold_nat (fun x hx => hl x (by simp [hx])) (iter_nw_lt hx 8)]
    rfl
def nsum (l : List Nat) : Nat := 4294967295 - nfold l 4294967295
theorem xor_ones {r : Nat} (h : r < 2 ^ 32) : 4294967295 ^^^ r = 4294967295 - r := by
  have h1 := BitVec.toNat_not (x := BitVec.ofNat 32 r)
  rw [← BitVec.allOnes_xor] at h1
  rw [BitVec.toNat_xor, BitVec.toNat_allOnes, BitVec.toNat_ofNat, Nat.mod_eq_of_lt h] at h1
  exact h1
theorem nfold_all {l : List Nat} (hl : ∀ x ∈ l, x < 256) : nfold l 4294967295 < 2 ^ 32 := nfold_lt hl (by decide)
theorem wsum_nat {l : List Nat} (hl : ∀ x ∈ l, x < 256) : wsum (l.map Nat.cast) = ((nsum l : Nat) : Int) := by
  have h := nfold_all hl
  have e := wfold_nat (r := 4294967295) hl (by decide)
  unfold wsum nsum
  rw [show ((4294967295 : Nat) : Int) = 4294967295 from rfl] at e
  rw [e]
  have := ixor_nat (k := .u32) rfl (a := 4294967295) (by decide) h
  rw [xor_ones h] at this
  exact this
theorem rsum_nat {l : List Nat} (hl : ∀ x ∈ l, x < 256) : rsum (l.map Nat.cast) = ((nsum l : Nat) : Int) := by
  have h := nfold_all hl
  have e := rfold_nat (r := 4294967295) hl (by decide)
  unfold rsum nsum
  rw [show ((4294967295 : Nat) : Int) = 4294967295 from rfl] at e
  rw [e, isub, IntWalk.u32_in _ ⟨by omega, by omega⟩]
  omega
/-- Bytes, as naturals. -/
theorem bytes_nat {l : List Int} (h : Bytes l) : l = (l.map Int.toNat).map Nat.cast ∧ ∀ x ∈ l.map Int.toNat, x < 256 := by
  constructor
  · rw [List.map_map]
    conv => lhs; rw [← List.map_id l]
    apply List.map_congr_left
    intro x hx
    have := h x hx
    simp only [Function.comp, id]
    omega
  · intro x hx
    obtain ⟨y, hy, rfl⟩ := List.mem_map.1 hx
    have := h y hy
    omega
theorem sums_one {l : List Int} (h : Bytes l) : wsum l = rsum l := by
  obtain ⟨e, hb⟩ := bytes_nat h
  rw [e, wsum_nat hb, rsum_nat hb]
end Go.Proofs.Ytecblpgljmbpeaa
