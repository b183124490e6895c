/- Plain facts: the sum, frames, numbers. -/
import Derived.Test.YtecblpgljmbpeaaA6
import Derived.Test.YtecblpgljmbpeaaQInts
set_option linter.unusedVariables false
set_option linter.unusedSimpArgs false
namespace Go.Proofs.Ytecblpgljmbpeaa
open Go.Ev

def iter {α : Type} (f : α → α) : Nat → α → α
  | 0, x => x
  | n + 1, x => iter f n (f x)
def wstep (r : Int) : Int := if iand .u32 r 1 = 1 then ixor .u32 (ishr .u32 r 1) 3988292384 else ishr .u32 r 1
def wfold (l : List Int) (r : Int) : Int := l.foldl (fun r b => iter wstep 8 (ixor .u32 r (IntKind.u32.wrap b))) r
def rstep (z : Int × Int) : Int × Int := (if irem .u32 z.1 2 = IntKind.u32.wrap (irem .u8 z.2 2) then iquo .u32 z.1 2 else ixor .u32 (iquo .u32 z.1 2) 3988292384, iquo .u8 z.2 2)
def rfold (l : List Int) (r : Int) : Int := l.foldl (fun r b => (iter rstep 8 (r, b)).1) r
def take4 (l : List Int) : Int := l.getD 0 0 + 256 * l.getD 1 0 + 65536 * l.getD 2 0 + 16777216 * l.getD 3 0
def four4 (n : Int) : List Int := [n % 256, n / 256 % 256, n / 65536 % 256, n / 16777216 % 256]

theorem i64_in {n : Int} (h : -1000000000000 ≤ n) (h' : n ≤ 1000000000000) : IntKind.i64.wrap n = n := IntWalk.i64_in n ⟨by omega, by omega⟩

theorem drop_cons {l : List Int} {i : Nat} (h : i < l.length) : l.drop i = l.getD i 0 :: l.drop (i + 1) := by
  rw [List.drop_eq_getElem_cons h]
  simp [List.getD, h]
def wsum (l : List Int) : Int := ixor .u32 4294967295 (wfold l 4294967295)
def Bytes (l : List Int) : Prop := ∀ x ∈ l, 0 ≤ x ∧ x < 256
theorem Bytes.at {l : List Int} (h : Bytes l) {i : Nat} (hi : i < l.length) : 0 ≤ l.getD i 0 ∧ l.getD i 0 < 256 := by
  have : l.getD i 0 ∈ l := by simp [List.getD, hi]
  exact h _ this
def rsum (l : List Int) : Int := isub .u32 4294967295 (rfold l 4294967295)
theorem bytes_getD {l : List Int} (h : Bytes l) (i : Nat) : ∃ b : Nat, l.getD i 0 = (b : Int) ∧ b < 256 := by
  by_cases hi : i < l.length
  · obtain ⟨h1, h2⟩ := h.at hi
    exact ⟨(l.getD i 0).toNat, by omega, by omega⟩
  · exact ⟨0, by simp [List.getD, List.getElem?_eq_none (Nat.le_of_not_lt hi)], by decide⟩
theorem or_add {a b n : Nat} (ha : a < 2 ^ n) : a ||| b * 2 ^ n = a + b * 2 ^ n := by
  rw [Nat.or_comm, Nat.mul_comm, ← Nat.two_pow_add_eq_or_of_lt ha, Nat.add_comm]
theorem take_step {a b i : Nat} (ha : a < 2 ^ (8 * i)) (hb : b < 256) (hi : i < 4) : ior .u32 a (ishl .u32 (IntKind.u32.wrap b) (imul .i64 8 i)) = ((a + b * 2 ^ (8 * i) : Nat) : Int) := by
  have h1 : IntKind.u32.wrap (b : Int) = (b : Int) := wrap_nat rfl (show b < 2 ^ 32 by omega)
  have h2 : imul .i64 8 (i : Int) = ((8 * i : Nat) : Int) := by rw [imul, i64_in (by omega) (by omega)]; simp
  have hp : b * 2 ^ (8 * i) < 2 ^ 32 := by
    have : 2 ^ (8 * i) ≤ 2 ^ 24 := Nat.pow_le_pow_right (by decide) (by omega)
    calc b * 2 ^ (8 * i) ≤ 255 * 2 ^ 24 := Nat.mul_le_mul (by omega) this
      _ < 2 ^ 32 := by decide
  have ha2 : a < 2 ^ 32 := Nat.lt_of_lt_of_le ha (Nat.pow_le_pow_right (by decide) (by omega))
  rw [h1, h2, ishl_nat (k := .u32) rfl (show 8 * i ≤ 32 by omega) hp, ior_nat (k := .u32) rfl ha2 hp, or_add ha]
def take4n (l : List Int) : Nat → Nat
  | 0 => 0
  | i + 1 => take4n l i + (l.getD i 0).toNat * 2 ^ (8 * i)
theorem take4n_lt {l : List Int} (h : Bytes l) : ∀ i, take4n l i < 2 ^ (8 * i)
  | 0 => by simp [take4n]
  | i + 1 => by
    have ih := take4n_lt h i
    obtain ⟨b, hb, hb2⟩ := bytes_getD h i
    simp only [take4n, hb, Int.toNat_natCast]
    have : 2 ^ (8 * (i + 1)) = 256 * 2 ^ (8 * i) := by rw [Nat.mul_add, Nat.pow_add, Nat.mul_comm]
    rw [this]
    calc take4n l i + b * 2 ^ (8 * i) < 2 ^ (8 * i) + b * 2 ^ (8 * i) := by omega
      _ = (b + 1) * 2 ^ (8 * i) := by rw [Nat.add_mul, Nat.one_mul, Nat.add_comm]
      _ ≤ 256 * 2 ^ (8 * i) := Nat.mul_le_mul_right _ (by omega)
theorem take4_eq {l : List Int} (h : Bytes l) : ((take4n l 4 : Nat) : Int) = take4 l := by
  obtain ⟨a, ha, _⟩ := bytes_getD h 0
  obtain ⟨b, hb, _⟩ := bytes_getD h 1
  obtain ⟨c, hc, _⟩ := bytes_getD h 2
  obtain ⟨d, hd, _⟩ := bytes_getD h 3
  simp only [take4n, take4, ha, hb, hc, hd, Int.toNat_natCast, Nat.reduceMul, Nat.reducePow]
  omega
def nw (r : Nat) : Nat := if r % 2 = 1 then (r / 2) ^^^ 3988292384 else r / 2
def nr (z : Nat × Nat) : Nat × Nat := (if z.1 % 2 = z.2 % 2 then z.1 / 2 else (z.1 / 2) ^^^ 3988292384, z.2 / 2)
theorem nw_lt {r : Nat} (h : r < 2 ^ 32) : nw r < 2 ^ 32 := by
  unfold nw
  split
  · exact Nat.xor_lt_two_pow (by omega) (by omega)
  · omega
theorem nr_lt {z : Nat × Nat} (h : z.1 < 2 ^ 32) : (nr z).1 < 2 ^ 32 := by
  unfold nr
  dsimp only
  split
  · omega
  · exact Nat.xor_lt_two_pow (by omega) (by omega)
theorem wstep_nat {r : Nat} (h : r < 2 ^ 32) : wstep r = (nw r : Nat) := by
  have h1 : iand .u32 (r : Int) 1 = ((r % 2 : Nat) : Int) := by
    have := iand_nat (k := .u32) rfl (a := r) (b := 1) h (by decide)
    rw [Nat.and_one_is_mod] at this
    exact this
  have h2 : ishr .u32 (r : Int) 1 = ((r / 2 : Nat) : Int) := by
    have := ishr_nat (k := .u32) (a := r) (n := 1) (by decide)
    simpa using this
  unfold wstep nw
  rw [h1, h2]
  by_cases hr : r % 2 = 1
  · rw [if_pos hr, if_pos (by exact_mod_cast hr)]
    exact ixor_nat (k := .u32) rfl (b := 3988292384) (show r / 2 < 2 ^ 32 by omega) (by decide)
  · rw [if_neg hr, if_neg (by exact_mod_cast hr)]
theorem rstep_nat {r b : Nat} (h : r < 2 ^ 32) (hb : b < 256) : rstep (r, b) = (((nr (r, b)).1 : Int), ((nr (r, b)).2 : Int)) := by
  have h1 : irem .u32 (r : Int) 2 = ((r % 2 : Nat) : Int) := by simp [irem, Int.tmod_eq_emod_of_nonneg]
  have h2 : iquo .u32 (r : Int) 2 = ((r / 2 : Nat) : Int) := by
    rw [iquo, IntWalk.u32_quo _ _ ⟨by omega, by omega, by omega⟩]; simp
  have h3 : irem .u8 (b : Int) 2 = ((b % 2 : Nat) : Int) := by simp [irem, Int.tmod_eq_emod_of_nonneg]
  have h4 : iquo .u8 (b : Int) 2 = ((b / 2 : Nat) : Int) := by
    rw [iquo, IntWalk.u8_quo _ _ ⟨by omega, by omega, by omega⟩]; simp
  have h5 : IntKind.u32.wrap ((b % 2 : Nat) : Int) = ((b % 2 : Nat) : Int) := wrap_nat rfl (show b % 2 < 2 ^ 32 by omega)
  unfold rstep nr
  dsimp only
  rw [h1, h2, h3, h4, h5]
  by_cases hr : r % 2 = b % 2
  · rw [if_pos hr, if_pos (by exact_mod_cast hr)]
  · rw [if_neg hr, if_neg (by exact_mod_cast hr)]
    congr 1
    exact ixor_nat (k := .u32) rfl (b := 3988292384) (show r / 2 < 2 ^ 32 by omega) (by decide)
theorem nw_xor (r b : Nat) : nw (r ^^^ b) = (nr (r, b)).1 ^^^ (nr (r, b)).2 := by
  have h1 : (r ^^^ b) / 2 = (r / 2) ^^^ (b / 2) := Nat.xor_div_two
  have h2 : (r ^^^ b) % 2 = (r + b) % 2 := by
    have h := Nat.xor_mod_two_pow (a := r) (b := b) (n := 1)
    simp only [Nat.pow_one] at h
    rw [h]
    rcases Nat.mod_two_eq_zero_or_one r with h3 | h3 <;> rcases Nat.mod_two_eq_zero_or_one b with h4 | h4 <;> rw [h3, h4] <;> simp <;> omega
  unfold nw nr
  dsimp only
  rw [h1, h2]
  by_cases h : r % 2 = b % 2
  · rw [if_neg (by omega), if_pos h]
  · rw [if_pos (by omega), if_neg h, Nat.xor_assoc, Nat.xor_comm (b / 2), ← Nat.xor_assoc]
theorem iter_nw {r : Nat} (h : r < 2 ^ 32) : ∀ m, iter wstep m (r : Int) = ((iter nw m r : Nat) : Int)
  | 0 => rfl
  | m + 1 => by rw [iter, iter, wstep_nat h]; exact iter_nw (nw_lt h) m
theorem iter_nr {z : Nat × Nat} (h : z.1 < 2 ^ 32) (hb : z.2 < 256) : ∀ m, iter rstep m ((z.1 : Int), (z.2 : Int)) = (((iter nr m z).1 : Int), ((iter nr m z).2 : Int))
  | 0 => rfl
  | m + 1 => by
    rw [iter, iter, rstep_nat h hb]
    have h2 : (nr (z.1, z.2)).2 < 256 := by simp only [nr]; omega
    exact iter_nr (nr_lt (z := (z.1, z.2)) h) h2 m
theorem iter_xor : ∀ (m : Nat) (z : Nat × Nat), iter nw m (z.1 ^^^ z.2) = (iter nr m z).1 ^^^ (iter nr m z).2
  | 0, z => rfl
  | m + 1, z => by rw [iter, iter, nw_xor]; exact iter_xor m (nr z)
theorem iter_two : ∀ (m : Nat) (z : Nat × Nat), (iter nr m z).2 = z.2 / 2 ^ m
  | 0, z => by simp [iter]
  | m + 1, z => by rw [iter, iter_two m (nr z)]; simp only [nr]; rw [Nat.div_div_eq_div_mul, Nat.pow_succ, Nat.mul_comm]
theorem iter_nw_lt {r : Nat} (h : r < 2 ^ 32) : ∀ m, iter nw m r < 2 ^ 32
  | 0 => h
  | m + 1 => iter_nw_lt (nw_lt h) m

/-- The sum over naturals. -/
def nfold (l : List Nat) (r : Nat) : Nat := l.foldl (fun r b => iter nw 8 (r ^^^ b)) r
theorem nfold_lt : ∀ {l : List Nat} {r : Nat}, (∀ x ∈ l, x < 256) → r < 2 ^ 32 → nfold l r < 2 ^ 32
  | [], _, _, h => h
  | b :: l, r, hl, h => nfold_lt (l := l) (fun x hx => hl x (by simp [hx])) (iter_nw_lt (Nat.xor_lt_two_pow h (Nat.lt_trans (hl b (by simp)) (by decide))) 8)
theorem wfold_nat : ∀ {l : List Nat} {r : Nat}, (∀ x ∈ l, x < 256) → r < 2 ^ 32 → wfold (l.map Nat.cast) r = ((nfold l r : Nat) : Int)
  | [], r, _, h => rfl
  | b :: l, r, hl, h => by
    have hb : b < 256 := hl b (by simp)
    have hx : r ^^^ b < 2 ^ 32 := Nat.xor_lt_two_pow h (Nat.lt_trans hb (by decide))
    have h1 : IntKind.u32.wrap (b : Int) = (b : Int) := wrap_nat rfl (show b < 2 ^ 32 by omega)
    rw [List.map_cons, wfold, List.foldl_cons, ← wfold, h1, ixor_nat (k := .u32) rfl h (show b < 2 ^ 32 by omega), iter_nw hx, wfold_nat (fun x hx => hl x (by simp [hx])) (iter_nw_lt hx 8)]
    rfl
theorem rfold_nat : ∀ {l : List Nat} {r : Nat}, (∀ x ∈ l, x < 256) → r < 2 ^ 32 → rfold (l.map Nat.cast) r = ((nfold l r : Nat) : Int)
  | [], r, _, h => rfl
  | b :: l, r, hl, h => by
    have hb : b < 256 := hl b (by simp)
    have hx : r ^^^ b < 2 ^ 32 := Nat.xor_lt_two_pow h (Nat.lt_trans hb (by decide))
    have e : (iter nr 8 (r, b)).1 = iter nw 8 (r ^^^ b) := by
      have h1 := iter_xor 8 (r, b)
      have h2 := iter_two 8 (r, b)
      simp only at h1 h2
      rw [h1, h2, Nat.div_eq_of_lt (by omega)]; simp
    rw [List.map_cons, rfold, List.foldl_cons, ← rfold, iter_nr (z := (r, b)) h hb 8]
    simp only
    rw [e, rfold_nat (fun x hx => hl x (by simp [hx])) (iter_nw_lt hx 8)]
    rfl
def nsum (l : List Nat) : Nat := 4294967295 - nfold l 4294967295
theorem xor_ones {r : Nat} (h : r < 2 ^ 32) : 4294967295 ^^^ r = 4294967295 - r := by
  have h1 := BitVec.toNat_not (x := BitVec.ofNat 32 r)
  rw [← BitVec.allOnes_xor] at h1
  rw [BitVec.toNat_xor, BitVec.toNat_allOnes, BitVec.toNat_ofNat, Nat.mod_eq_of_lt h] at h1
  exact h1
theorem nfold_all {l : List Nat} (hl : ∀ x ∈ l, x < 256) : nfold l 4294967295 < 2 ^ 32 := nfold_lt hl (by decide)
theorem wsum_nat {l : List Nat} (hl : ∀ x ∈ l, x < 256) : wsum (l.map Nat.cast) = ((nsum l : Nat) : Int) := by
  have h := nfold_all hl
  have e := wfold_nat (r := 4294967295) hl (by decide)
  unfold wsum nsum
  rw [show ((4294967295 : Nat) : Int) = 4294967295 from rfl] at e
  rw [e]
  have := ixor_nat (k := .u32) rfl (a := 4294967295) (by decide) h
  rw [xor_ones h] at this
  exact this
theorem rsum_nat {l : List Nat} (hl : ∀ x ∈ l, x < 256) : rsum (l.map Nat.cast) = ((nsum l : Nat) : Int) := by
  have h := nfold_all hl
  have e := rfold_nat (r := 4294967295) hl (by decide)
  unfold rsum nsum
  rw [show ((4294967295 : Nat) : Int) = 4294967295 from rfl] at e
  rw [e, isub, IntWalk.u32_in _ ⟨by omega, by omega⟩]
  omega
/-- Bytes, as naturals. -/
theorem bytes_nat {l : List Int} (h : Bytes l) : l = (l.map Int.toNat).map Nat.cast ∧ ∀ x ∈ l.map Int.toNat, x < 256 := by
  constructor
  · rw [List.map_map]
    conv => lhs; rw [← List.map_id l]
    apply List.map_congr_left
    intro x hx
    have := h x hx
    simp only [Function.comp, id]
    omega
  · intro x hx
    obtain ⟨y, hy, rfl⟩ := List.mem_map.1 hx
    have := h y hy
    omega
theorem sums_one {l : List Int} (h : Bytes l) : wsum l = rsum l := by
  obtain ⟨e, hb⟩ := bytes_nat h
  rw [e, wsum_nat hb, rsum_nat hb]

theorem fits_of {n : Nat} (h : n ≤ 536870912) : fits n = true := by simp [fits, h]
theorem lay_byte {n : Int} (h0 : 0 ≤ n) (h1 : n < 4294967296) {i : Nat} (hi : i < 4) : IntKind.u8.wrap (ishr .u32 n (imul .i64 8 i)) = (four4 n).getD i 0 := by
  obtain ⟨k, rfl⟩ : ∃ k : Nat, n = k := ⟨n.toNat, by omega⟩
  have h2 : imul .i64 8 (i : Int) = ((8 * i : Nat) : Int) := by rw [imul, i64_in (by omega) (by omega)]; simp
  rw [h2, ishr_nat (k := .u32) (show 8 * i ≤ 32 by omega), IntKind.wrap_u8]
  match i, hi with
  | 0, _ => simp [four4]
  | 1, _ => simp [four4]
  | 2, _ => simp [four4]
  | 3, _ => simp [four4]
theorem four4_drop (n : Int) {i : Nat} (hi : i < 4) : (four4 n).drop i = (four4 n).getD i 0 :: (four4 n).drop (i + 1) := drop_cons (by simpa [four4] using hi)
theorem four4_bytes (n : Int) : Bytes (four4 n) := by
  intro x hx
  simp only [four4, List.mem_cons, List.not_mem_nil, or_false] at hx
  rcases hx with rfl | rfl | rfl | rfl <;> omega
theorem Bytes.app {l m : List Int} (h : Bytes l) (k : Bytes m) : Bytes (l ++ m) := by
  intro x hx
  rcases List.mem_append.1 hx with hx | hx
  · exact h x hx
  · exact k x hx
theorem Bytes.take {l : List Int} (h : Bytes l) (n : Nat) : Bytes (l.take n) := fun x hx => h x (List.mem_of_mem_take hx)
theorem Bytes.drop {l : List Int} (h : Bytes l) (n : Nat) : Bytes (l.drop n) := fun x hx => h x (List.mem_of_mem_drop hx)
theorem wsum_range {l : List Int} (h : Bytes l) : 0 ≤ wsum l ∧ wsum l < 4294967296 := by
  obtain ⟨e, hb⟩ := bytes_nat h
  rw [e, wsum_nat hb]
  unfold nsum
  omega
/-- A frame. -/
def frame (l : List Int) : List Int := four4 l.length ++ four4 (wsum (four4 l.length ++ l)) ++ l
theorem four4_len (n : Int) : (four4 n).length = 4 := rfl
theorem take4_range {l : List Int} (h : Bytes l) : 0 ≤ take4 l ∧ take4 l < 4294967296 := by
  rw [← take4_eq h]
  have := take4n_lt h 4
  constructor
  · omega
  · have h2 : (2 : Nat) ^ (8 * 4) = 4294967296 := by decide
    omega
def body (l : List Int) : List Int := List.take (take4 l).toNat (List.drop 8 l)
/-- What stands in front is opened. -/
def opened (l : List Int) : List Int × Int × Int :=
  if (l.length : Int) < 8 then ([], 0, 6) else if 1048576 < take4 l then ([], 0, 9) else if (l.length : Int) < 8 + take4 l then ([], 0, 6) else
  if take4 (List.drop 4 l) = wsum (List.take 4 l ++ body l) then (body l, 8 + take4 l, 0) else ([], 0, 13)
/-- A number's bytes, seven bits each. -/
def vnat : Nat → Nat → List Int
  | 0, n => [(n : Int)]
  | f + 1, n => if n < 128 then [(n : Int)] else ((n % 128 + 128 : Nat) : Int) :: vnat f (n / 128)
def varint (n : Int) : List Int := vnat 9 n.toNat

theorem or128_all : ((List.range 256).all fun x => Nat.beq (x ||| 128) (x % 128 + 128)) = true := by kernel_rfl
theorem or128 (x : Nat) (h : x < 256) : x ||| 128 = x % 128 + 128 :=
  Nat.eq_of_beq_eq_true (List.all_eq_true.1 or128_all x (List.mem_range.2 h))
theorem vbyte (n : Nat) : ior .u8 (IntKind.u8.wrap (n : Int)) 128 = ((n % 128 + 128 : Nat) : Int) := by
  have h1 : IntKind.u8.wrap (n : Int) = ((n % 256 : Nat) : Int) := by rw [IntKind.wrap_u8]; omega
  have h2 := ior_nat (k := .u8) rfl (a := n % 256) (b := 128) (show n % 256 < 2 ^ 8 by omega) (by decide)
  rw [h1, show (128 : Int) = ((128 : Nat) : Int) from rfl, h2, or128 _ (by omega)]
  omega
theorem vshift (n : Nat) : ishr .u64 (n : Int) 7 = ((n / 128 : Nat) : Int) := by
  have := ishr_nat (k := .u64) (a := n) (n := 7) (by decide)
  simpa using this
theorem opened_len (l : List Int) : (opened l).1.length ≤ l.length := by
  unfold opened
  split
  · simp
  · split
    · simp
    · split
      · simp
      · split
        · unfold body; simp only [List.length_take, List.length_drop]; omega
        · simp
theorem nw_top {r : Nat} (h : r < 2 ^ 32) : (nw r).testBit 31 = decide (r % 2 = 1) := by
  have h1 : (r / 2).testBit 31 = false := Nat.testBit_lt_two_pow (show r / 2 < 2 ^ 31 by omega)
  unfold nw
  split
  · rename_i ho
    rw [Nat.testBit_xor, h1, show (3988292384 : Nat).testBit 31 = true by decide]
    simp [ho]
  · rename_i ho
    rw [h1]; simp [ho]
theorem nw_inj {r s : Nat} (hr : r < 2 ^ 32) (hs : s < 2 ^ 32) (h : nw r = nw s) : r = s := by
  have ht := nw_top hr
  rw [h, nw_top hs] at ht
  unfold nw at h
  by_cases ho : r % 2 = 1
  · have hso : s % 2 = 1 := by simpa [ho] using ht
    rw [if_pos ho, if_pos hso] at h
    have := congrArg (· ^^^ 3988292384) h
    simp only [Nat.xor_assoc, Nat.xor_self, Nat.xor_zero] at this
    omega
  · have hso : ¬ s % 2 = 1 := by simpa [ho] using ht
    rw [if_neg ho, if_neg hso] at h
    omega
theorem iter_nw_inj : ∀ {m r s : Nat}, r < 2 ^ 32 → s < 2 ^ 32 → iter nw m r = iter nw m s → r = s
  | 0, _, _, _, _, h => h
  | m + 1, _, _, hr, hs, h => nw_inj hr hs (iter_nw_inj (m := m) (nw_lt hr) (nw_lt hs) h)
theorem nfold_inj : ∀ {l : List Nat} {r s : Nat}, (∀ x ∈ l, x < 256) → r < 2 ^ 32 → s < 2 ^ 32 → nfold l r = nfold l s → r = s
  | [], _, _, _, _, _, h => h
  | b :: l, r, s, hl, hr, hs, h => by
    have hb : b < 2 ^ 32 := Nat.lt_trans (hl b (by simp)) (by decide)
    have h1 := nfold_inj (l := l) (fun x hx => hl x (by simp [hx])) (iter_nw_lt (Nat.xor_lt_two_pow hr hb) 8) (iter_nw_lt (Nat.xor_lt_two_pow hs hb) 8) h
    have h2 := iter_nw_inj (Nat.xor_lt_two_pow hr hb) (Nat.xor_lt_two_pow hs hb) h1
    have := congrArg (· ^^^ b) h2
    simpa only [Nat.xor_assoc, Nat.xor_self, Nat.xor_zero] using this
theorem nfold_set : ∀ {l : List Nat} {i y r : Nat}, (∀ x ∈ l, x < 256) → y < 256 → i < l.length → l.getD i 0 ≠ y → r < 2 ^ 32 → nfold (l.set i y) r ≠ nfold l r
  | [], i, y, r, _, _, hi, _, _ => by simp at hi
  | b :: l, 0, y, r, hl, hy, hi, hne, hr => by
    intro h
    have hb : b < 256 := hl b (by simp)
    have hb2 : b < 2 ^ 32 := by omega
    have hy2 : y < 2 ^ 32 := by omega
    have h1 := nfold_inj (l := l) (fun x hx => hl x (by simp [hx])) (iter_nw_lt (Nat.xor_lt_two_pow hr hy2) 8) (iter_nw_lt (Nat.xor_lt_two_pow hr hb2) 8) h
    have h2 := iter_nw_inj (Nat.xor_lt_two_pow hr hy2) (Nat.xor_lt_two_pow hr hb2) h1
    have h3 := congrArg (r ^^^ ·) h2
    simp only [← Nat.xor_assoc, Nat.xor_self, Nat.zero_xor] at h3
    exact hne (by simpa using h3.symm)
  | b :: l, i + 1, y, r, hl, hy, hi, hne, hr => by
    have hb : b < 2 ^ 32 := Nat.lt_trans (hl b (by simp)) (by decide)
    exact nfold_set (l := l) (i := i) (fun x hx => hl x (by simp [hx])) hy (by simpa using hi) (by simpa using hne) (iter_nw_lt (Nat.xor_lt_two_pow hr hb) 8)
theorem nsum_ne {l m : List Nat} (hl : ∀ x ∈ l, x < 256) (hm : ∀ x ∈ m, x < 256) (h : nfold l 4294967295 ≠ nfold m 4294967295) : nsum l ≠ nsum m := by
  have h1 := nfold_all hl
  have h2 := nfold_all hm
  unfold nsum
  omega
/-- One byte that is another one makes another sum. -/
theorem wsum_set {l : List Int} {i : Nat} {y : Int} (hl : Bytes l) (hi : i < l.length) (hy : 0 ≤ y ∧ y < 256) (hne : l.getD i 0 ≠ y) : wsum (l.set i y) ≠ wsum l := by
  obtain ⟨e, hb⟩ := bytes_nat hl
  have e2 : l.set i y = ((l.map Int.toNat).set i y.toNat).map Nat.cast := by
    rw [List.map_set, ← e]
    congr 1
    omega
  have hb2 : ∀ x ∈ (l.map Int.toNat).set i y.toNat, x < 256 := by
    intro x hx
    rcases List.mem_or_eq_of_mem_set hx with hx | rfl
    · exact hb x hx
    · omega
  rw [e2, wsum_nat hb2]
  conv => rhs; rw [e, wsum_nat hb]
  intro h
  refine nsum_ne hb2 hb (nfold_set hb (by omega) (by simpa using hi) ?_ (by decide)) (by exact_mod_cast h)
  intro h2
  obtain ⟨h3, h4⟩ := hl.at hi
  apply hne
  have h5 : (l.map Int.toNat).getD i 0 = (l.getD i 0).toNat := by
    simp only [List.getD, List.getElem?_map]
    rw [List.getElem?_eq_getElem hi]; rfl
  rw [h5] at h2
  omega

theorem take4_four4 {n : Int} (h0 : 0 ≤ n) (h1 : n < 4294967296) (l : List Int) : take4 (four4 n ++ l) = n := by
  simp only [take4, four4, List.cons_append, List.getD_cons_zero, List.getD_cons_succ]
  omega
theorem frame_len (p : List Int) : (frame p).length = 8 + p.length := by simp [frame, four4_len]; omega
theorem frame_bytes {p : List Int} (h : Bytes p) : Bytes (frame p) := ((four4_bytes _).app (four4_bytes _)).app h
theorem frame_app (p b : List Int) : frame p ++ b = four4 p.length ++ (four4 (wsum (four4 p.length ++ p)) ++ (p ++ b)) := by simp [frame]
theorem opened_frame {p b : List Int} (h : Bytes p) (hl : p.length ≤ 1000000) : opened (frame p ++ b) = (p, 8 + (p.length : Int), 0) := by
  have hbs : Bytes (four4 p.length ++ p) := (four4_bytes _).app h
  have hws := wsum_range hbs
  have e1 : take4 (frame p ++ b) = p.length := by rw [frame_app]; exact take4_four4 (by omega) (by omega) _
  have e2 : List.drop 4 (frame p ++ b) = four4 (wsum (four4 p.length ++ p)) ++ (p ++ b) := by rw [frame_app]; rfl
  have e3 : List.drop 8 (frame p ++ b) = p ++ b := by rw [frame_app]; rfl
  have e4 : List.take 4 (frame p ++ b) = four4 p.length := by rw [frame_app]; rfl
  have e5 : body (frame p ++ b) = p := by unfold body; rw [e1, e3, Int.toNat_natCast]; simp
  have hlen : ((frame p ++ b).length : Int) = 8 + p.length + b.length := by rw [List.length_append, frame_len]; omega
  unfold opened
  rw [hlen, e1, if_neg (by omega), if_neg (by omega), if_neg (by omega), e2, e4, e5, take4_four4 hws.1 hws.2, if_pos rfl]
theorem take4_ne {l : List Int} {i : Nat} {y : Int} (h : Bytes l) (hi : i < 4) (hl : 4 ≤ l.length) (hne : l.getD i 0 ≠ y) : take4 (l.set i y) ≠ take4 l := by
  match l, hl with
  | a :: b :: c :: d :: l, _ =>
    match i, hi with
    | 0, _ => simp only [take4, List.set_cons_zero, List.getD_cons_zero, List.getD_cons_succ] at hne ⊢; omega
    | 1, _ => simp only [take4, List.set_cons_zero, List.set_cons_succ, List.getD_cons_zero, List.getD_cons_succ] at hne ⊢; omega
    | 2, _ => simp only [take4, List.set_cons_zero, List.set_cons_succ, List.getD_cons_zero, List.getD_cons_succ] at hne ⊢; omega
    | 3, _ => simp only [take4, List.set_cons_zero, List.set_cons_succ, List.getD_cons_zero, List.getD_cons_succ] at hne ⊢; omega
theorem opened_turned {p : List Int} {i : Nat} {y : Int} (h : Bytes p) (hl : p.length ≤ 1000000) (hi : 4 ≤ i) (hi2 : i < 8 + p.length) (hy : 0 ≤ y ∧ y < 256) (hne : (frame p).getD i 0 ≠ y) : opened ((frame p).set i y) = ([], 0, 13) := by
  have hbs : Bytes (four4 p.length ++ p) := (four4_bytes _).app h
  have hws := wsum_range hbs
  have ef : frame p = four4 p.length ++ (four4 (wsum (four4 p.length ++ p)) ++ p) := by simp [frame]
  have es : (frame p).set i y = four4 p.length ++ (four4 (wsum (four4 p.length ++ p)) ++ p).set (i - 4) y := by
    rw [ef, List.set_append_right _ _ (by rw [four4_len]; omega), four4_len]
  have e1 : take4 ((frame p).set i y) = p.length := by rw [es]; exact take4_four4 (by omega) (by omega) _
  have e2 : List.drop 4 ((frame p).set i y) = (four4 (wsum (four4 p.length ++ p)) ++ p).set (i - 4) y := by rw [es]; rfl
  have e4 : List.take 4 ((frame p).set i y) = four4 p.length := by rw [es]; rfl
  have hlen : (((frame p).set i y).length : Int) = 8 + p.length := by rw [List.length_set, frame_len]; omega
  unfold opened
  rw [hlen, e1, if_neg (by omega), if_neg (by omega), if_neg (by omega), e2, e4, if_neg]
  unfold body
  rw [e1, Int.toNat_natCast]
  have e3 : List.drop 8 ((frame p).set i y) = List.drop 4 ((four4 (wsum (four4 p.length ++ p)) ++ p).set (i - 4) y) := by rw [← e2, List.drop_drop]
  rw [e3]
  by_cases h8 : i < 8
  · have e5 : (four4 (wsum (four4 p.length ++ p)) ++ p).set (i - 4) y = (four4 (wsum (four4 p.length ++ p))).set (i - 4) y ++ p := List.set_append_left _ _ (by rw [four4_len]; omega)
    have e6 : List.drop 4 ((four4 (wsum (four4 p.length ++ p))).set (i - 4) y ++ p) = p := by
      rw [List.drop_append_of_le_length (by rw [List.length_set, four4_len]; omega), List.drop_of_length_le (by rw [List.length_set, four4_len]; omega), List.nil_append]
    rw [← e5] at e6
    rw [e6, List.take_length]
    have hg : (four4 (wsum (four4 p.length ++ p)) ++ p).getD (i - 4) 0 ≠ y := by
      rw [ef] at hne
      have : (four4 p.length ++ (four4 (wsum (four4 p.length ++ p)) ++ p)).getD i 0 = (four4 (wsum (four4 p.length ++ p)) ++ p).getD (i - 4) 0 := by
        simp only [List.getD, List.getElem?_append_right (show (four4 p.length).length ≤ i by rw [four4_len]; omega), four4_len]
      rwa [this] at hne
    have := take4_ne (l := four4 (wsum (four4 p.length ++ p)) ++ p) (i := i - 4) ((four4_bytes _).app h) (by omega) (by simp [four4_len]) hg
    rw [take4_four4 hws.1 hws.2] at this
    exact this
  · have e5 : (four4 (wsum (four4 p.length ++ p)) ++ p).set (i - 4) y = four4 (wsum (four4 p.length ++ p)) ++ p.set (i - 8) y := by
      rw [List.set_append_right _ _ (by rw [four4_len]; omega), four4_len, show i - 4 - 4 = i - 8 by omega]
    have e6 : List.drop 4 (four4 (wsum (four4 p.length ++ p)) ++ p.set (i - 8) y) = p.set (i - 8) y := rfl
    rw [e5, e6, take4_four4 hws.1 hws.2, List.take_of_length_le (by rw [List.length_set]; omega)]
    have hg : (four4 p.length ++ p).getD (i - 4) 0 ≠ y := by
      rw [ef] at hne
      have a1 : (four4 p.length ++ (four4 (wsum (four4 p.length ++ p)) ++ p)).getD i 0 = p.getD (i - 8) 0 := by
        simp only [List.getD, List.getElem?_append_right (show (four4 p.length).length ≤ i by rw [four4_len]; omega), four4_len, List.getElem?_append_right (show (four4 (wsum (four4 p.length ++ p))).length ≤ i - 4 by rw [four4_len]; omega), show i - 4 - 4 = i - 8 by omega]
      have a2 : (four4 p.length ++ p).getD (i - 4) 0 = p.getD (i - 8) 0 := by
        simp only [List.getD, List.getElem?_append_right (show (four4 p.length).length ≤ i - 4 by rw [four4_len]; omega), four4_len, show i - 4 - 4 = i - 8 by omega]
      rw [a2]; rwa [a1] at hne
    have := wsum_set hbs (i := i - 4) (by simp [four4_len]; omega) hy hg
    rw [List.set_append_right _ _ (by rw [four4_len]; omega), four4_len, show i - 4 - 4 = i - 8 by omega] at this
    exact fun hh => this hh.symm

theorem xor_turn {b t : Int} (hb : 0 ≤ b ∧ b < 256) (ht : 0 ≤ t ∧ t < 256) (h0 : t ≠ 0) : (0 ≤ ixor .u8 b t ∧ ixor .u8 b t < 256) ∧ b ≠ ixor .u8 b t := by
  obtain ⟨n, rfl⟩ : ∃ n : Nat, b = n := ⟨b.toNat, by omega⟩
  obtain ⟨m, rfl⟩ : ∃ m : Nat, t = m := ⟨t.toNat, by omega⟩
  rw [ixor_nat (k := .u8) rfl (show n < 2 ^ 8 by omega) (show m < 2 ^ 8 by omega)]
  have hx : n ^^^ m < 2 ^ 8 := Nat.xor_lt_two_pow (by omega) (by omega)
  refine ⟨⟨by omega, by omega⟩, fun h => ?_⟩
  have h1 : n = n ^^^ m := by exact_mod_cast h
  have h2 := congrArg (n ^^^ ·) h1
  simp only [Nat.xor_self, ← Nat.xor_assoc, Nat.zero_xor] at h2
  omega
end Go.Proofs.Ytecblpgljmbpeaa
