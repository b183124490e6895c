/- Numbers and texts are written and read back; WireNums answers true. Plain. -/
import Derived.Test.YtecblpgljmbpeaaB6
set_option linter.unusedVariables false
set_option linter.unusedSimpArgs false
namespace Go.Proofs.Ytecblpgljmbpeaa
open Go.Ev

theorem pow_step {i : Nat} (hi : i < 9) : (2 : Nat) ^ (64 - 7 * i) = 128 * 2 ^ (64 - 7 * (i + 1)) := by
  rw [show 64 - 7 * i = (64 - 7 * (i + 1)) + 7 by omega, Nat.pow_add, Nat.mul_comm]
theorem vnat_dec : ∀ {f n i : Nat} {r : List Int}, i + f = 9 → n < 2 ^ (64 - 7 * i) → (0 < i → 0 < n) → dec i (vnat f n ++ r) = some ((n : Int), (vnat f n).length)
  | 0, n, i, r, hi, hn, h0 => by
    obtain rfl : i = 9 := by omega
    have : n < 2 := hn
    have := h0 (by decide)
    simp only [vnat, List.cons_append, List.nil_append, dec]
    rw [if_neg (by omega), if_pos (by omega)]
    rfl
  | f + 1, n, i, r, hi, hn, h0 => by
    rw [pow_step (show i < 9 by omega)] at hn
    by_cases h : n < 128
    · simp only [vnat, if_pos h, List.cons_append, List.nil_append, dec]
      rw [if_neg (by omega), if_pos (by omega)]
      rfl
    · have ih := @vnat_dec f (n / 128) (i + 1) r (by omega) (by omega) (fun _ => by omega)
      simp only [vnat, if_neg h, List.cons_append, dec]
      rw [if_neg (by omega), if_neg (by omega), ih]
      simp only [Option.map_some, List.length_cons]
      have e : ((n % 128 + 128 : Nat) : Int) - 128 + 128 * ((n / 128 : Nat) : Int) = (n : Int) := by omega
      rw [e]
theorem vnat_bytes : ∀ {f n i : Nat}, i + f = 9 → n < 2 ^ (64 - 7 * i) → Bytes (vnat f n)
  | 0, n, i, hi, hn => by
    obtain rfl : i = 9 := by omega
    have : n < 2 := hn
    intro x hx
    simp only [vnat, List.mem_singleton] at hx
    omega
  | f + 1, n, i, hi, hn => by
    rw [pow_step (show i < 9 by omega)] at hn
    by_cases h : n < 128
    · intro x hx
      simp only [vnat, if_pos h, List.mem_singleton] at hx
      omega
    · have ih := @vnat_bytes f (n / 128) (i + 1) (by omega) (by omega)
      intro x hx
      simp only [vnat, if_neg h, List.mem_cons] at hx
      rcases hx with rfl | hx
      · omega
      · exact ih x hx
theorem vnat_len : ∀ (f n : Nat), 1 ≤ (vnat f n).length ∧ (vnat f n).length ≤ f + 1
  | 0, n => by simp [vnat]
  | f + 1, n => by
    have := vnat_len f (n / 128)
    simp only [vnat]
    split <;> simp <;> omega
theorem num_vnat : ∀ {f n i N : Nat}, i + f = 9 → n < 2 ^ (64 - 7 * i) → f < N → kinfolkref06_Num N (n : Int) = some (vnat f n)
  | f, n, i, 0, hi, hn, hN => by omega
  | 0, n, i, N + 1, hi, hn, hN => by
    obtain rfl : i = 9 := by omega
    have : n < 2 := hn
    have hw : IntKind.u8.wrap (n : Int) = n := wrap_nat rfl (show n < 2 ^ 8 by omega)
    simp only [kinfolkref06_Num, kinfolkref06_Num_b, vnat, decide_eq_true (show (n : Int) < 128 by omega), cond_true, hw]
  | f + 1, n, i, N + 1, hi, hn, hN => by
    have hbig : (2 : Nat) ^ (64 - 7 * i) ≤ 2 ^ 64 := Nat.pow_le_pow_right (by decide) (by omega)
    have hn64 : n < 2 ^ 64 := by omega
    rw [pow_step (show i < 9 by omega)] at hn
    by_cases h : n < 128
    · have hw : IntKind.u8.wrap (n : Int) = n := wrap_nat rfl (show n < 2 ^ 8 by omega)
      simp only [kinfolkref06_Num, kinfolkref06_Num_b, vnat, if_pos h, decide_eq_true (show (n : Int) < 128 by omega), cond_true, hw]
    · have ih := @num_vnat f (n / 128) (i + 1) N (by omega) (by omega) (by omega)
      have hl := vnat_len f (n / 128)
      have hq : iquo .u64 (n : Int) 128 = ((n / 128 : Nat) : Int) := by
        rw [iquo, Int.tdiv_eq_ediv_of_nonneg (by omega), IntWalk.u64_in _ ⟨by omega, by omega⟩]; omega
      have hr : irem .u64 (n : Int) 128 = ((n % 128 : Nat) : Int) := by
        rw [irem, Int.tmod_eq_emod_of_nonneg (by omega)]; omega
      have ha : iadd .u64 ((n % 128 : Nat) : Int) 128 = ((n % 128 + 128 : Nat) : Int) := by
        rw [iadd, IntWalk.u64_in _ ⟨by omega, by omega⟩]; omega
      have hw : IntKind.u8.wrap ((n % 128 + 128 : Nat) : Int) = ((n % 128 + 128 : Nat) : Int) := wrap_nat rfl (show n % 128 + 128 < 2 ^ 8 by omega)
      have hbeq : Nat.beq (vnat f (n / 128)).length 0 = false := by
        cases hb : Nat.beq (vnat f (n / 128)).length 0 with
        | false => rfl
        | true => have := Nat.eq_of_beq_eq_true hb; omega
      simp only [kinfolkref06_Num, kinfolkref06_Num_b, vnat, if_neg h, decide_eq_false (show ¬ (n : Int) < 128 by omega), cond_false, hq, ih, Option.bind_some, hr, ha, hw, List.take_length, hbeq]
      rw [fits_ok (by simp; omega)]
      simp
theorem Num_eq {n : Int} (h0 : 0 ≤ n) (h1 : n < 18446744073709551616) : kinfolkref06_Num 20 n = some (varint n) := by
  obtain ⟨m, rfl⟩ : ∃ m : Nat, n = (m : Int) := ⟨n.toNat, by omega⟩
  exact num_vnat (i := 0) (f := 9) rfl (show m < 2 ^ 64 by omega) (by decide)
theorem varint_dec {n : Int} (h0 : 0 ≤ n) (h1 : n < 18446744073709551616) (r : List Int) : dec 0 (varint n ++ r) = some (n, (varint n).length) := by
  have := @vnat_dec 9 n.toNat 0 r rfl (show n.toNat < 2 ^ 64 by omega) (by omega)
  rw [show ((n.toNat : Nat) : Int) = n by omega] at this
  exact this
theorem varint_bytes {n : Int} (h0 : 0 ≤ n) (h1 : n < 18446744073709551616) : Bytes (varint n) := vnat_bytes (i := 0) (f := 9) rfl (show n.toNat < 2 ^ 64 by omega)
theorem varint_len (n : Int) : 1 ≤ (varint n).length ∧ (varint n).length ≤ 10 := vnat_len 9 n.toNat
theorem bytesL_len (s : ByteArray) : (bytesL s).length = s.size := by simp [bytesL]
theorem bytesL_bytes (s : ByteArray) : Bytes (bytesL s) := by
  intro x hx
  simp only [bytesL, List.mem_map] at hx
  obtain ⟨b, _, rfl⟩ := hx
  have := b.toNat_lt
  omega
theorem strOf_bytesL (s : ByteArray) : strOf (bytesL s) = s := by
  simp only [strOf, bytesL, List.map_map]
  rw [List.map_congr_left (g := id) (by intro b hb; simp), List.map_id]
theorem Text_eq {p : List Int} {s : ByteArray} (hs : s.size ≤ 1000000) (hp : p.length ≤ 1000000) : wire_Text p s = some (p ++ varint s.size ++ bytesL s) := by
  have hw : IntKind.u64.wrap (s.size : Int) = s.size := wrap_nat rfl (show s.size < 2 ^ 64 by omega)
  have := varint_len s.size
  unfold wire_Text
  rw [hw, num_eq (by omega) (by omega) (by omega)]
  simp only [Option.bind_some]
  rw [fits_ok (by simp [bytesL_len]; omega)]
  rfl
theorem rText_eq {s : ByteArray} (hs : s.size ≤ 1000000) : kinfolkref06_Text 20 s = some (varint s.size ++ bytesL s) := by
  have hw : IntKind.u64.wrap (s.size : Int) = s.size := wrap_nat rfl (show s.size < 2 ^ 64 by omega)
  have := varint_len s.size
  unfold kinfolkref06_Text
  rw [hw, Num_eq (by omega) (by omega)]
  simp only [Option.bind_some, List.take_length]
  rw [fits_ok (by simp [bytesL_len]; omega), decide_eq_true (by omega)]
  rfl
theorem in_text_back {s : ByteArray} (hs : s.size ≤ 200) : wire_In_Text 200 (varint s.size ++ bytesL s) 0 = some (s, [], 0) := by
  have hb : Bytes (varint s.size ++ bytesL s) := (varint_bytes (by omega) (by omega)).app (bytesL_bytes s)
  have hl := varint_len s.size
  have hw : IntKind.u64.wrap (s.size : Int) = s.size := wrap_nat rfl (show s.size < 2 ^ 64 by omega)
  have hw2 : IntKind.u64.wrap 200 = 200 := rfl
  unfold wire_In_Text
  rw [in_num_eq hb (by simp [bytesL_len]; omega), varint_dec (by omega) (by omega)]
  simp only [err_eq, Option.bind_some, decide_true, cond_true, if_true, List.drop_left, hw2, bytesL_len, hw]
  have t1 : List.take s.size (bytesL s) = bytesL s := by rw [← bytesL_len s, List.take_length]
  have t2 : List.drop s.size (bytesL s) = [] := by rw [← bytesL_len s, List.drop_length]
  simp [show ¬ ((200 : Int) < s.size) by omega, t1, t2, strOf_bytesL]
theorem wireNums_true {front : List Int} {n : Int} {s : ByteArray} (h : Bytes front) (hn : 0 ≤ n ∧ n < 18446744073709551616) : kinfolklaw06_WireNums 20 front n s = some true := by
  have hl : (List.take 30 front).length ≤ 30 := by simp; omega
  have hb := h.take 30
  unfold kinfolklaw06_WireNums
  have hc : (if (200 : Int) < (s.size : Int) then 200 else (s.size : Int)) = ((min 200 s.size : Nat) : Int) := by split <;> omega
  rw [awake_eq, cut_eq (by decide) (by decide), hc]
  have hsz : (s.extract 0 (min 200 s.size)).size ≤ 200 := by rw [ByteArray.size_extract]; omega
  simp only [Option.bind_some, cond_true, show (30 : Int).toNat = 30 from rfl, cut_eq (p := List.take 30 front) (n := 30) (by decide) (by decide), List.take_take, Nat.min_self, Int.toNat_natCast]
  obtain ⟨t, ht⟩ : ∃ t, t = s.extract 0 (min 200 s.size) := ⟨_, rfl⟩
  obtain ⟨p, hp⟩ : ∃ p, p = List.take 30 front := ⟨_, rfl⟩
  rw [← ht] at hsz
  rw [← hp] at hl hb
  simp only [← ht, ← hp]
  have hv := varint_len n
  have hv2 := varint_len t.size
  have tp : List.take ((p.length : Int) - 0).toNat (p ++ [90]) = p := by
    rw [Int.sub_zero, Int.toNat_natCast, List.take_left]
  rw [fits_ok (by simp; omega), tp, num_eq hn.1 hn.2 (by omega)]
  simp only [Option.bind_some]
  rw [Text_eq (by omega) (by simp; omega)]
  simp only [Option.bind_some]
  have e1 : p ++ varint n ++ varint t.size ++ bytesL t = p ++ (varint n ++ (varint t.size ++ bytesL t)) := by simp
  have tl : List.take (((p ++ (varint n ++ (varint t.size ++ bytesL t))).length : Int) - (p.length : Int)).toNat (List.drop (0 + p.length) (p ++ (varint n ++ (varint t.size ++ bytesL t)))) = varint n ++ (varint t.size ++ bytesL t) := by
    rw [Nat.zero_add, List.drop_left]
    exact List.take_of_length_le (by simp only [List.length_append]; omega)
  rw [e1, tl]
  have hbt : Bytes (varint n ++ (varint t.size ++ bytesL t)) := (varint_bytes hn.1 hn.2).app ((varint_bytes (by omega) (by omega)).app (bytesL_bytes t))
  have hlt : (varint n ++ (varint t.size ++ bytesL t)).length ≤ 300 := by simp [bytesL_len]; omega
  have o1 : wire_Of (varint n ++ (varint t.size ++ bytesL t)) = some () := by
    unfold wire_Of; rw [fits_ok (by omega)]; rfl
  have i1 : wire_In_Num (varint n ++ (varint t.size ++ bytesL t)) 0 = some (n, varint t.size ++ bytesL t, 0) := by
    rw [in_num_eq hbt (by omega), varint_dec hn.1 hn.2]; simp
  have j1 : kinfolkref06_Join [(E_uint8.mk p), (E_uint8.mk (varint n)), (E_uint8.mk (varint t.size ++ bytesL t))] = some (p ++ (varint n ++ (varint t.size ++ bytesL t))) := by
    rw [join_eq (by simp) (by simp [jn, E_uint8.l, bytesL_len]; omega)]
    simp [jn, E_uint8.l]
  have en : wire_In_End [] 0 = some (0, 0) := by
    unfold wire_In_End
    simp [left_eq, err_eq]
  have g90 : (List.take ((p ++ [90]).length) (p ++ [90])).getD p.length 0 = 90 := by
    rw [List.take_length]
    simp [List.getD]
  rw [o1, Num_eq hn.1 hn.2, rText_eq (by omega)]
  simp only [Option.bind_some]
  rw [j1]
  simp only [Option.bind_some]
  rw [same_eq (by simp [bytesL_len]; omega)]
  simp only [Option.bind_some]
  rw [g90, i1]
  simp only [Option.bind_some, in_text_back hsz, en, wire_In_Fail_2, wire_In_Byte_2, wire_In_Num_2, wire_In_Text_2, wire_In_Left_2, wire_In_Err_2, wire_In_End_2, decide_true, cond_true]
  simp [bytesL_len]
  rw [decide_eq_true (by omega), decide_eq_true (by omega), decide_eq_true (by omega), decide_eq_true (by omega)]
  rfl
end Go.Proofs.Ytecblpgljmbpeaa
