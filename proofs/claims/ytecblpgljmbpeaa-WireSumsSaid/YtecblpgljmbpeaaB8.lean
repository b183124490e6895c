/- A burst of at most 32 turned bits turns the sum; WireSums answers true. Plain. -/
import Derived.Test.YtecblpgljmbpeaaB7
set_option linter.unusedVariables false
set_option linter.unusedSimpArgs false
namespace Go.Proofs.Ytecblpgljmbpeaa
open Go.Ev

theorem nw_lin (a b : Nat) : nw (a ^^^ b) = nw a ^^^ nw b := by
  have h1 : (a ^^^ b) / 2 = (a / 2) ^^^ (b / 2) := Nat.xor_div_two
  have h2 := @Nat.xor_mod_two_eq_one a b
  unfold nw
  rw [h1]
  by_cases ha : a % 2 = 1 <;> by_cases hb : b % 2 = 1
  · rw [if_neg (by rw [h2]; simp [ha, hb]), if_pos ha, if_pos hb]
    rw [Nat.xor_assoc (a / 2), Nat.xor_comm 3988292384, Nat.xor_assoc (b / 2), Nat.xor_self, Nat.xor_zero]
  · rw [if_pos (by rw [h2]; simp [ha, hb]), if_pos ha, if_neg hb]
    rw [Nat.xor_assoc, Nat.xor_assoc, Nat.xor_comm (b / 2)]
  · rw [if_pos (by rw [h2]; simp [ha, hb]), if_neg ha, if_pos hb, Nat.xor_assoc]
  · rw [if_neg (by rw [h2]; simp [ha, hb]), if_neg ha, if_neg hb]
theorem iter_lin : ∀ (m a b : Nat), iter nw m (a ^^^ b) = iter nw m a ^^^ iter nw m b
  | 0, a, b => rfl
  | m + 1, a, b => by rw [iter, nw_lin, iter_lin m]; rfl
theorem nw_two (x : Nat) : nw (2 * x) = x := by
  unfold nw
  rw [if_neg (by omega)]
  omega
theorem iter_shift : ∀ (m x : Nat), iter nw m (x <<< m) = x
  | 0, x => by simp [iter]
  | m + 1, x => by rw [iter, Nat.shiftLeft_succ, nw_two, iter_shift m x]
theorem iter_add {α : Type} (f : α → α) : ∀ (m n : Nat) (x : α), iter f (m + n) x = iter f n (iter f m x)
  | 0, n, x => by rw [Nat.zero_add]; rfl
  | m + 1, n, x => by rw [show m + 1 + n = (m + n) + 1 by omega, iter, iter_add f m n]; rfl
theorem iter_zero : ∀ m, iter nw m 0 = 0
  | 0 => rfl
  | m + 1 => by rw [iter, show nw 0 = 0 from rfl, iter_zero m]
/-- The bits as one number, the first the lowest. -/
def nnum : List Nat → Nat
  | [] => 0
  | b :: l => b ^^^ (nnum l <<< 8)
theorem nfold_num : ∀ {l : List Nat} {r : Nat}, nfold l r = iter nw (8 * l.length) (r ^^^ nnum l)
  | [], r => by simp [nfold, nnum, iter]
  | b :: l, r => by
    rw [nfold, List.foldl_cons, ← nfold, nfold_num, nnum, List.length_cons, show 8 * (l.length + 1) = 8 + 8 * l.length by omega, iter_add, ← Nat.xor_assoc, iter_lin 8 (r ^^^ b), iter_shift]
def flip (l : List Nat) (b : Nat) : List Nat := l.set (b / 8) (l.getD (b / 8) 0 ^^^ (1 <<< (b % 8)))
theorem nnum_set : ∀ {l : List Nat} {k y : Nat}, k < l.length → nnum (l.set k (l.getD k 0 ^^^ y)) = nnum l ^^^ (y <<< (8 * k))
  | [], k, y, h => by simp at h
  | b :: l, 0, y, h => by
    simp only [List.set_cons_zero, List.getD_cons_zero, nnum, Nat.mul_zero, Nat.shiftLeft_zero]
    rw [Nat.xor_assoc, Nat.xor_comm y, ← Nat.xor_assoc]
  | b :: l, k + 1, y, h => by
    simp only [List.set_cons_succ, List.getD_cons_succ, nnum]
    rw [nnum_set (by simpa using h), Nat.shiftLeft_xor_distrib, ← Nat.shiftLeft_add, Nat.xor_assoc, show 8 * (k + 1) = 8 * k + 8 by omega]
theorem nnum_flip {l : List Nat} {b : Nat} (h : b < 8 * l.length) : nnum (flip l b) = nnum l ^^^ (1 <<< b) := by
  unfold flip
  rw [nnum_set (by omega), ← Nat.shiftLeft_add, show b % 8 + 8 * (b / 8) = b by omega]
theorem flip_len (l : List Nat) (b : Nat) : (flip l b).length = l.length := by simp [flip]
theorem bit_lt {b : Nat} (h : b < 8) : 1 <<< b < 256 := by
  rw [Nat.shiftLeft_eq, Nat.one_mul]
  exact Nat.lt_of_lt_of_le (Nat.pow_lt_pow_right (by decide) h) (by decide)
theorem flip_byte {l : List Nat} {b : Nat} (h : ∀ x ∈ l, x < 256) (hb : b < 8 * l.length) : l.getD (b / 8) 0 < 256 ∧ ∀ x ∈ flip l b, x < 256 := by
  have hi : b / 8 < l.length := by omega
  have h0 : l.getD (b / 8) 0 < 256 := h _ (by simp [List.getD, hi])
  refine ⟨h0, fun x hx => ?_⟩
  rcases List.mem_or_eq_of_mem_set hx with hx | rfl
  · exact h x hx
  · exact Nat.xor_lt_two_pow (n := 8) h0 (bit_lt (by omega))
/-- What a burst leaves: the same length, and the number differs by the burst. -/
structure Burst (l m : List Nat) (s e : Nat) : Prop where
  len : m.length = l.length
  byte : ∀ x ∈ m, x < 256
  num : nnum m = nnum l ^^^ (e <<< s)
theorem Burst.flip {l m : List Nat} {s e i : Nat} (h : Burst l m s e) (hi : s + i < 8 * l.length) : Burst l (flip m (s + i)) s (e ^^^ (1 <<< i)) where
  len := by rw [flip_len, h.len]
  byte := (flip_byte h.byte (by rw [h.len]; exact hi)).2
  num := by rw [nnum_flip (by rw [h.len]; exact hi), h.num, Nat.shiftLeft_xor_distrib, ← Nat.shiftLeft_add, Nat.xor_assoc, Nat.add_comm i s]
theorem burst_sum {l m : List Nat} {s e : Nat} (h : Burst l m s e) (hl : ∀ x ∈ l, x < 256) (hs : s ≤ 8 * l.length) (he : e < 2 ^ 32) (h0 : e ≠ 0) : nsum m ≠ nsum l := by
  refine nsum_ne h.byte hl fun hc => h0 ?_
  rw [nfold_num, nfold_num, h.len, h.num, ← Nat.xor_assoc, iter_lin _ (4294967295 ^^^ nnum l)] at hc
  generalize iter nw (8 * l.length) (4294967295 ^^^ nnum l) = q at hc
  have hz : iter nw (8 * l.length) (e <<< s) = 0 := by
    have := congrArg (q ^^^ ·) hc
    simp only [← Nat.xor_assoc, Nat.xor_self, Nat.zero_xor] at this
    exact this
  obtain ⟨k, hk⟩ : ∃ k, 8 * l.length = s + k := ⟨8 * l.length - s, by omega⟩
  rw [hk, iter_add, iter_shift, ← iter_zero k] at hz
  exact iter_nw_inj he (by decide) hz

/-! ### the loop that turns the bits -/
def ci (l : List Nat) : List Int := l.map Nat.cast
theorem ci_len (l : List Nat) : (ci l).length = l.length := by simp [ci]
theorem ci_at (l : List Nat) (k : Nat) : (ci l).getD k 0 = ((l.getD k 0 : Nat) : Int) := by
  simp only [ci, List.getD, List.getElem?_map]
  cases l[k]? <;> rfl
theorem ci_flip {l : List Nat} {b : Nat} (h : ∀ x ∈ l, x < 256) (hb : b < 8 * l.length) :
    (ci l).set (b / 8) (ixor .u8 ((ci l).getD (b / 8) 0) (ishl .u8 1 ((b % 8 : Nat) : Int))) = ci (flip l b) := by
  have h1 := (flip_byte h hb).1
  have hp : 1 * 2 ^ (b % 8) < 256 := by
    have := bit_lt (show b % 8 < 8 by omega)
    rwa [Nat.shiftLeft_eq] at this
  have h2 := ishl_nat (k := .u8) rfl (a := 1) (n := b % 8) (show b % 8 ≤ 8 by omega) hp
  rw [show ((1 : Nat) : Int) = 1 from rfl] at h2
  rw [h2, ci_at, ixor_nat (k := .u8) rfl (show _ < 2 ^ 8 from h1) (show _ < 2 ^ 8 from hp), flip, Nat.shiftLeft_eq]
  simp only [ci, List.map_set]
theorem sums_bits {a n i : Nat} (ha : a < 65536) (hn : 1 ≤ n) (hn2 : n ≤ 200) (hi : i < 32) :
    imul .i64 8 (n : Int) = ((8 * n : Nat) : Int) ∧ IntKind.i64.wrap (a : Int) = (a : Int) ∧ irem .i64 (a : Int) ((8 * n : Nat) : Int) = ((a % (8 * n) : Nat) : Int) ∧
      iadd .i64 ((a % (8 * n) : Nat) : Int) (i : Int) = ((a % (8 * n) + i : Nat) : Int) ∧ iadd .i64 (i : Int) 1 = ((i + 1 : Nat) : Int) ∧
      (∀ b : Nat, b < 10000 → iquo .i64 (b : Int) 8 = ((b / 8 : Nat) : Int) ∧ irem .i64 (b : Int) 8 = ((b % 8 : Nat) : Int)) := by
  have hm : a % (8 * n) < 8 * n := Nat.mod_lt _ (by omega)
  refine ⟨?_, i64_in (by omega) (by omega), ?_, ?_, ?_, fun b hb => ⟨?_, ?_⟩⟩
  · rw [imul, i64_in (by omega) (by omega)]; omega
  · rw [irem, Int.tmod_eq_emod_of_nonneg (by omega), ← Int.natCast_emod]
  · rw [iadd64 (by omega) (by omega)]; omega
  · rw [iadd64 (by omega) (by omega)]; omega
  · rw [iquo, Int.tdiv_eq_ediv_of_nonneg (by omega), i64_in (by omega) (by omega)]; omega
  · rw [irem, Int.tmod_eq_emod_of_nonneg (by omega)]; omega
theorem sums_step {p : List Int} {l0 : List Nat} {a i : Nat} {turn : Int} {l m : List Nat} (hm : ∀ x ∈ m, x < 256) (hlen : m.length = l.length) (hn : 1 ≤ l.length) (hn2 : l.length ≤ 200) (ha : a < 65536) (hi : i < 32) :
    kinfolklaw06_WireSums_L0_step p a turn (ci l0) (.inr (l.length, (i : Int), ci m)) = some (.inl (.inr (l.length, ((i + 1 : Nat) : Int), ci m))) ∨
    (a % (8 * l.length) + i < 8 * l.length ∧ kinfolklaw06_WireSums_L0_step p a turn (ci l0) (.inr (l.length, (i : Int), ci m)) = some (.inl (.inr (l.length, ((i + 1 : Nat) : Int), ci (flip m (a % (8 * l.length) + i)))))) := by
  obtain ⟨e1, e2, e3, e4, e5, e6⟩ := sums_bits ha hn hn2 hi
  unfold kinfolklaw06_WireSums_L0_step
  simp only [e1, e2, e3, e4, e5, decide_eq_true (show (i : Int) < 32 by omega), decide_eq_false (show ¬ ((8 * l.length : Nat) : Int) = 0 by omega), cond_true, Bool.not_false, decide_eq_true (show (0 : Int) ≤ i by omega)]
  by_cases hb : ((a % (8 * l.length) + i : Nat) : Int) < ((8 * l.length : Nat) : Int)
  · by_cases ht : iand .u32 (ishr .u32 turn (i : Int)) 1 = 1
    · right
      have hb2 : a % (8 * l.length) + i < 8 * l.length := by omega
      obtain ⟨f1, f2⟩ := e6 (a % (8 * l.length) + i) (by omega)
      refine ⟨hb2, ?_⟩
      have f3 := ci_flip hm (b := a % (8 * l.length) + i) (by omega)
      generalize a % (8 * l.length) + i = b at *
      simp only [decide_eq_true hb, decide_eq_true ht, cond_true, f1, f2, Int.toNat_natCast, Nat.zero_add, f3]
      simp only [decide_eq_true (show (0 : Int) ≤ ((b / 8 : Nat) : Int) by omega), decide_eq_true (show ((b / 8 : Nat) : Int) < (l.length : Int) by omega), decide_eq_true (show (0 : Int) ≤ ((b % 8 : Nat) : Int) by omega), Bool.and_self, cond_true]
    · left
      simp only [decide_eq_true hb, decide_eq_false ht, cond_true, cond_false]
  · left
    simp only [decide_eq_false hb, cond_false]
theorem sums_step1 {p : List Int} {l : List Nat} {a i : Nat} {turn : Int} (hm : ∀ x ∈ l, x < 256) (hn : 1 ≤ l.length) (hn2 : l.length ≤ 200) (ha : a < 65536) (hi : i < 32) :
    kinfolklaw06_WireSums_L0_step p a turn (ci l) (.inl (i : Int)) = some (.inl (.inl ((i + 1 : Nat) : Int))) ∨
    (a % (8 * l.length) + i < 8 * l.length ∧ kinfolklaw06_WireSums_L0_step p a turn (ci l) (.inl (i : Int)) = some (.inl (.inr (l.length, ((i + 1 : Nat) : Int), ci (flip l (a % (8 * l.length) + i)))))) := by
  obtain ⟨e1, e2, e3, e4, e5, e6⟩ := sums_bits ha hn hn2 hi
  unfold kinfolklaw06_WireSums_L0_step
  simp only [ci_len, e1, e2, e3, e4, e5, decide_eq_true (show (i : Int) < 32 by omega), decide_eq_false (show ¬ ((8 * l.length : Nat) : Int) = 0 by omega), cond_true, Bool.not_false, decide_eq_true (show (0 : Int) ≤ i by omega)]
  by_cases hb : ((a % (8 * l.length) + i : Nat) : Int) < ((8 * l.length : Nat) : Int)
  · by_cases ht : iand .u32 (ishr .u32 turn (i : Int)) 1 = 1
    · right
      have hb2 : a % (8 * l.length) + i < 8 * l.length := by omega
      obtain ⟨f1, f2⟩ := e6 (a % (8 * l.length) + i) (by omega)
      refine ⟨hb2, ?_⟩
      have f3 := ci_flip hm (b := a % (8 * l.length) + i) (by omega)
      generalize a % (8 * l.length) + i = b at *
      simp only [decide_eq_true hb, decide_eq_true ht, cond_true, f1, f2, Int.toNat_natCast, Nat.zero_add, f3]
      simp only [decide_eq_true (show (0 : Int) ≤ ((b / 8 : Nat) : Int) by omega), decide_eq_true (show ((b / 8 : Nat) : Int) < (l.length : Int) by omega), decide_eq_true (show (0 : Int) ≤ ((b % 8 : Nat) : Int) by omega), Bool.and_self, cond_true]
    · left
      simp only [decide_eq_true hb, decide_eq_false ht, cond_true, cond_false]
  · left
    simp only [decide_eq_false hb, cond_false]
theorem one_lt {e i : Nat} (h : e < 2 ^ i) : e ^^^ (1 <<< i) < 2 ^ (i + 1) ∧ e ^^^ (1 <<< i) ≠ 0 := by
  have h1 : (1 <<< i) = 2 ^ i := by rw [Nat.shiftLeft_eq, Nat.one_mul]
  have h2 : 2 ^ i < 2 ^ (i + 1) := Nat.pow_lt_pow_right (by decide) (by omega)
  refine ⟨Nat.xor_lt_two_pow (by omega) (by omega), fun h0 => ?_⟩
  have : e = 1 <<< i := by
    have := congrArg (· ^^^ (1 <<< i)) h0
    simp only [Nat.xor_assoc, Nat.xor_self, Nat.xor_zero, Nat.zero_xor] at this
    exact this
  omega
theorem sums_go {p : List Int} {l : List Nat} {a : Nat} {turn : Int} (hn : 1 ≤ l.length) (hn2 : l.length ≤ 200) (ha : a < 65536) : ∀ (k i e : Nat) (m : List Nat), i + k = 32 → Burst l m (a % (8 * l.length)) e → e < 2 ^ i → e ≠ 0 →
    ∃ m2 e2, Burst l m2 (a % (8 * l.length)) e2 ∧ e2 < 2 ^ 32 ∧ e2 ≠ 0 ∧ runL (kinfolklaw06_WireSums_L0_step p a turn (ci l)) (.inr (l.length, (i : Int), ci m)) = some (.inr (l.length, ci m2))
  | 0, i, e, m, hi, hB, he, h0 => by
    obtain rfl : i = 32 := by omega
    refine ⟨m, e, hB, he, h0, runL_done ?_⟩
    simp [kinfolklaw06_WireSums_L0_step]
  | k + 1, i, e, m, hi, hB, he, h0 => by
    rcases sums_step (p := p) (l0 := l) (turn := turn) hB.byte hB.len hn hn2 ha (show i < 32 by omega) with hs | ⟨hb, hs⟩
    · have h2 : 2 ^ i < 2 ^ (i + 1) := Nat.pow_lt_pow_right (by decide) (by omega)
      obtain ⟨m2, e2, q1, q2, q3, q4⟩ := sums_go (p := p) (turn := turn) hn hn2 ha k (i + 1) e m (by omega) hB (by omega) h0
      exact ⟨m2, e2, q1, q2, q3, by rw [runL_next hs, q4]⟩
    · obtain ⟨g1, g2⟩ := one_lt he
      obtain ⟨m2, e2, q1, q2, q3, q4⟩ := sums_go (p := p) (turn := turn) hn hn2 ha k (i + 1) _ _ (by omega) (hB.flip hb) g1 g2
      exact ⟨m2, e2, q1, q2, q3, by rw [runL_next hs, q4]⟩
theorem sums_go1 {p : List Int} {l : List Nat} {a : Nat} {turn : Int} (hl : ∀ x ∈ l, x < 256) (hn : 1 ≤ l.length) (hn2 : l.length ≤ 200) (ha : a < 65536) : ∀ (k i : Nat), i + k = 32 →
    runL (kinfolklaw06_WireSums_L0_step p a turn (ci l)) (.inl (i : Int)) = some (.inl ()) ∨
    ∃ m2 e2, Burst l m2 (a % (8 * l.length)) e2 ∧ e2 < 2 ^ 32 ∧ e2 ≠ 0 ∧ runL (kinfolklaw06_WireSums_L0_step p a turn (ci l)) (.inl (i : Int)) = some (.inr (l.length, ci m2))
  | 0, i, hi => by
    obtain rfl : i = 32 := by omega
    left
    refine runL_done ?_
    simp [kinfolklaw06_WireSums_L0_step]
  | k + 1, i, hi => by
    rcases sums_step1 (p := p) (turn := turn) hl hn hn2 ha (show i < 32 by omega) with hs | ⟨hb, hs⟩
    · rcases sums_go1 (p := p) (turn := turn) hl hn hn2 ha k (i + 1) (by omega) with q | ⟨m2, e2, q1, q2, q3, q4⟩
      · left; rw [runL_next hs, q]
      · right; exact ⟨m2, e2, q1, q2, q3, by rw [runL_next hs, q4]⟩
    · right
      have hB : Burst l l (a % (8 * l.length)) 0 := ⟨rfl, hl, by simp⟩
      obtain ⟨g1, g2⟩ := one_lt (e := 0) (i := i) (Nat.two_pow_pos i)
      obtain ⟨m2, e2, q1, q2, q3, q4⟩ := sums_go (p := p) (turn := turn) hn hn2 ha k (i + 1) _ _ (by omega) (hB.flip hb) g1 g2
      exact ⟨m2, e2, q1, q2, q3, by rw [runL_next hs, q4]⟩
theorem wireSums_true {p : List Int} {at_ turn : Int} (h : Bytes p) (ha : 0 ≤ at_ ∧ at_ < 65536) : kinfolklaw06_WireSums p at_ turn = some true := by
  have hl : (List.take 200 p).length ≤ 200 := by simp; omega
  have hb := h.take 200
  unfold kinfolklaw06_WireSums
  rw [awake_eq, cut_eq (by decide) (by decide)]
  simp only [Option.bind_some, cond_true, show (200 : Int).toNat = 200 from rfl]
  obtain ⟨q, hq⟩ : ∃ q, q = List.take 200 p := ⟨_, rfl⟩
  simp only [← hq]
  rw [← hq] at hl hb
  rw [wire_Sum_eq (by omega), ref_Sum_eq hb (by omega)]
  simp only [Option.bind_some, decide_true, cond_true, List.take_length]
  by_cases h0 : (q.length : Int) = 0
  · rw [decide_eq_true h0]; rfl
  by_cases ht : turn = 0
  · rw [decide_eq_false h0, decide_eq_true ht]; rfl
  rw [decide_eq_false h0, decide_eq_false ht, cut_eq (by decide) (by decide)]
  simp only [Option.bind_some, cond_false, show (200 : Int).toNat = 200 from rfl, List.take_of_length_le hl]
  obtain ⟨e, hbn⟩ := bytes_nat hb
  obtain ⟨l, rfl⟩ : ∃ l : List Nat, l = q.map Int.toNat := ⟨_, rfl⟩
  obtain ⟨a, rfl⟩ : ∃ a : Nat, at_ = (a : Int) := ⟨at_.toNat, by omega⟩
  have hlen : (q.map Int.toNat).length = q.length := by simp
  have hqc : ci (q.map Int.toNat) = q := e.symm
  have hgo := sums_go1 (p := q) (turn := turn) (a := a) hbn (by omega) (by omega) (by omega) 32 0 rfl
  rw [hqc, hlen] at hgo
  rcases hgo with hr | ⟨m2, e2, q1, q2, q3, hr⟩
  · have hr' : runL (kinfolklaw06_WireSums_L0_step q a turn q) (.inl 0) = some (.inl ()) := hr
    rw [hr']; rfl
  · have hr' : runL (kinfolklaw06_WireSums_L0_step q a turn q) (.inl 0) = some (.inr (q.length, ci m2)) := hr
    rw [hr']
    have hl2 : (ci m2).length = q.length := by rw [ci_len, q1.len, hlen]
    have hne := burst_sum q1 hbn (by rw [hlen]; have : a % (8 * q.length) < 8 * q.length := Nat.mod_lt _ (by omega); omega) q2 q3
    simp only [Option.bind_some, ← hl2, List.take_length]
    rw [wire_Sum_eq (by omega)]
    simp only [Option.bind_some]
    have hw : wsum (ci m2) ≠ wsum q := by
      rw [e, ci, wsum_nat q1.byte, wsum_nat hbn]
      exact fun hc => hne (by exact_mod_cast hc)
    rw [decide_eq_false hw]
    rfl
end Go.Proofs.Ytecblpgljmbpeaa
