/- What the printed functions are: joining, frames, what is opened, numbers. -/
import Derived.Test.YtecblpgljmbpeaaB2
set_option linter.unusedVariables false
set_option linter.unusedSimpArgs false
namespace Go.Proofs.Ytecblpgljmbpeaa
open Go.Ev

def E_uint8.l : E_uint8 → List Int
  | .mk a => a
def jn (ls : List E_uint8) : List Int := (ls.map E_uint8.l).flatten
theorem jn_cons (z : E_uint8) (ls : List E_uint8) : jn (z :: ls) = z.l ++ jn ls := by simp [jn]
theorem fits_ok {n : Nat} (h : n ≤ 536870912) : fits n = true := by simp [fits_le, h]
theorem join_go {ls : List E_uint8} (hl : ls.length ≤ 1000000000) : ∀ (m i : Nat) (l : List Int), i + m = ls.length → l.length + (jn (ls.drop i)).length ≤ 536870912 →
    runL (kinfolkref06_Join_L0_2_step ls ls.length) ((i : Int), l) = some (l ++ jn (ls.drop i))
  | 0, i, l, h, hb => by
    obtain rfl : i = ls.length := by omega
    exact runL_done (by simp [kinfolkref06_Join_L0_2_step, jn])
  | m + 1, i, l, h, hb => by
    have hi : i < ls.length := by omega
    rw [List.drop_eq_getElem_cons hi, jn_cons] at hb ⊢
    simp only [List.length_append] at hb
    have ih := join_go hl m (i + 1) (l ++ (ls[i]).l) (by omega) (by simp only [List.length_append]; omega)
    rw [runL_next (s' := (((i + 1 : Nat) : Int), l ++ (ls[i]).l)), ih, List.append_assoc]
    cases he : ls[i] with
    | mk a =>
      have hf : fits (l ++ a).length = true := fits_ok (by rw [he] at hb; simp only [E_uint8.l] at hb; simp only [List.length_append]; omega)
      have hg : ls[i]? = some (E_uint8.mk a) := by rw [List.getElem?_eq_getElem hi, he]
      simp only [kinfolkref06_Join_L0_2_step, Int.toNat_natCast, hg, Option.bind_some, hf, cond_true, iadd64 (show -1000000000000 ≤ (i : Int) + 1 by omega) (by omega), List.length_map]
      simp [hi, E_uint8.l]
theorem join_eq {ls : List E_uint8} (hl : ls.length ≤ 1000000000) (hb : (jn ls).length ≤ 536870912) : kinfolkref06_Join ls = some (jn ls) := by
  have := join_go hl ls.length 0 [] (by omega) (by simpa using hb)
  simp only [Int.natCast_zero, Int.ofNat_eq_natCast, List.drop_zero, List.nil_append] at this
  simp only [kinfolkref06_Join, List.length_map, this, Option.bind_some]

/-! ### Open -/
theorem opened_neq {p : List Int} (h : Bytes p) (hl : p.length ≤ 100000000) : wire_Open p = some (opened p) := by
  unfold wire_Open opened
  by_cases h8 : (p.length : Int) < 8
  · simp [h8]
  rw [wire_take_eq h (by omega)]
  have hr := take4_range h
  have e1 : IntKind.i64.wrap (take4 p) = take4 p := i64_in (by omega) (by omega)
  have e2 : iadd .i64 8 (take4 p) = 8 + take4 p := iadd64 (by omega) (by omega)
  have e3 : isub .i64 (p.length : Int) 8 = p.length - 8 := isub64 (by omega) (by omega)
  simp only [Option.bind_some, e1, e2, e3]
  by_cases hbig : 1048576 < take4 p
  · simp [h8, hbig]
  by_cases hsh : (p.length : Int) < 8 + take4 p
  · simp [h8, hbig, hsh, show (p.length : Int) - 8 < take4 p by omega]
  have e4 : List.take (8 + take4 p - 8).toNat (List.drop 8 p) = body p := by unfold body; rw [show 8 + take4 p - 8 = take4 p by omega]
  have e5 : List.take ((p.length : Int) - 4).toNat (List.drop 4 p) = List.drop 4 p := List.take_of_length_le (by simp; omega)
  have hbl : (body p).length ≤ 1048576 := by unfold body; simp; omega
  have hb4 : (List.take 4 p).length = 4 := by simp; omega
  simp only [e4, e5, fits_ok (show (body p).length ≤ 536870912 by omega), wire_take_eq (h.drop 4) (by simp; omega), Option.bind_some,
    wire_Sum_eq (l := List.take 4 p) (by omega), wire_Sum_eq (l := List.take 4 p ++ body p) (by simp; omega), fits_ok (show (List.take 4 p ++ body p).length ≤ 536870912 by simp only [List.length_append]; omega)]
  have d1 : ¬ ((p.length : Int) - 8 < take4 p) := by omega
  have d2 : (8 : Int) ≤ 8 + take4 p := by omega
  have d3 : 8 + take4 p ≤ (p.length : Int) := by omega
  have d4 : (4 : Int) ≤ p.length := by omega
  by_cases h0 : (body p).length = 0
  · have hnil := List.eq_nil_of_length_eq_zero h0
    by_cases hs : take4 (List.drop 4 p) = wsum (List.take 4 p)
    · simp [h8, hbig, hsh, d1, d2, d3, d4, hs, hnil]
    · simp [h8, hbig, hsh, d1, d2, d3, d4, hs, hnil]
  · have hbeq : Nat.beq (body p).length 0 = false := by
      cases hb : Nat.beq (body p).length 0 with
      | false => rfl
      | true => exact absurd (Nat.eq_of_beq_eq_true hb) h0
    rw [hbeq]
    by_cases hs : take4 (List.drop 4 p) = wsum (List.take 4 p ++ body p)
    · simp [h8, hbig, hsh, d1, d2, d3, d4, hs]
    · simp [h8, hbig, hsh, d1, d2, d3, d4, hs]

/-! ### Frame -/
theorem four_eq {n : Int} (h0 : 0 ≤ n) (h1 : n < 4294967296) : kinfolkref06_Four n = some (four4 n) := by
  unfold kinfolkref06_Four four4
  have e : ∀ {k : Int}, k = 256 ∨ k = 65536 ∨ k = 16777216 → iquo .u32 n k = n / k := by
    intro k hk
    rw [iquo, IntWalk.u32_quo _ _ ⟨by omega, by omega, by omega⟩]
  rw [e (by simp), e (by simp), e (by simp)]
  simp only [IntKind.wrap_u8]
theorem lay_go {p : List Int} {n : Int} (h0 : 0 ≤ n) (h1 : n < 4294967296) (hp : p.length ≤ 100000000) : ∀ (m i : Nat), i + m = 4 → 1 ≤ i → runL (wire_lay_L0_2_step p n) (.inr ((i : Int), p ++ List.take i (four4 n))) = some (p ++ four4 n)
  | 0, i, hi, _ => by
    obtain rfl : i = 4 := by omega
    exact runL_done (by simp [wire_lay_L0_2_step, four4])
  | m + 1, i, hi, hi1 => by
    have ih := lay_go h0 h1 hp m (i + 1) (by omega) (by omega)
    have hlt : i < (four4 n).length := by rw [four4_len]; omega
    have e : List.take (i + 1) (four4 n) = List.take i (four4 n) ++ [IntKind.u8.wrap (ishr .u32 n (imul .i64 8 (i : Int)))] := by
      rw [lay_byte h0 h1 (show i < 4 by omega)]
      rw [List.take_add_one]
      simp [List.getElem?_eq_getElem hlt]
    rw [runL_next (s' := .inr (((i + 1 : Nat) : Int), p ++ List.take (i + 1) (four4 n))), ih]
    have e4 : imul .i64 8 (i : Int) = 8 * i := i64_in (by omega) (by omega)
    rw [e, ← List.append_assoc]
    have hf : fits (p ++ List.take i (four4 n) ++ [IntKind.u8.wrap (ishr .u32 n (imul .i64 8 (i : Int)))]).length = true := fits_ok (by simp [four4_len]; omega)
    simp only [wire_lay_L0_2_step, hf, iadd64 (show -1000000000000 ≤ (i : Int) + 1 by omega) (by omega)]
    simp [e4, show (i : Int) < 4 by omega, show (0 : Int) ≤ 8 * i by omega]
theorem lay_eq {p : List Int} {n : Int} (h0 : 0 ≤ n) (h1 : n < 4294967296) (hp : p.length ≤ 100000000) : wire_lay_2 p n = some (p ++ four4 n) := by
  have ih := lay_go h0 h1 hp 3 1 (by omega) (by omega)
  unfold wire_lay_2
  have e := lay_byte h0 h1 (show 0 < 4 by omega)
  have e0 : imul .i64 8 ((0 : Nat) : Int) = 0 := rfl
  rw [e0] at e
  have e1 : List.take 1 (four4 n) = [IntKind.u8.wrap (ishr .u32 n 0)] := by rw [e]; rfl
  rw [e1] at ih
  rw [runL_next (s' := .inr (1, p ++ [IntKind.u8.wrap (ishr .u32 n 0)]))]
  · have ih' : runL (wire_lay_L0_2_step p n) (.inr (1, p ++ [IntKind.u8.wrap (ishr .u32 n 0)])) = some (p ++ four4 n) := ih
    rw [ih']; rfl
  · have hf : fits (p ++ [IntKind.u8.wrap (ishr .u32 n 0)]).length = true := fits_ok (by simp; omega)
    simp only [wire_lay_L0_2_step, hf, cond_true]
theorem frame_eq {p : List Int} (h : Bytes p) (hl : p.length ≤ 100000000) : wire_Frame p = some (frame p) := by
  have hw : IntKind.u32.wrap (p.length : Int) = p.length := IntWalk.u32_in _ ⟨by omega, by omega⟩
  have hbs : Bytes (four4 p.length ++ p) := (four4_bytes _).app h
  unfold wire_Frame
  rw [hw, lay_eq (by omega) (by omega) (by simp)]
  have e4 : List.take 4 (four4 (p.length : Int)) = four4 p.length := rfl
  simp only [Option.bind_some, List.nil_append, e4, four4_len]
  by_cases h0 : p.length = 0
  · have hnil : p = [] := List.eq_nil_of_length_eq_zero h0
    have hws := wsum_range (four4_bytes p.length)
    have hs1 := wire_Sum_eq (l := four4 p.length) (by rw [four4_len]; decide)
    have hs2 := lay_eq (p := four4 p.length) hws.1 hws.2 (by rw [four4_len]; decide)
    simp only [hs1, hs2, Option.bind_some]
    subst hnil
    simp [frame, fits_le, four4_len]
  · have hbeq : Nat.beq p.length 0 = false := by
      cases hb : Nat.beq p.length 0 with
      | false => rfl
      | true => exact absurd (Nat.eq_of_beq_eq_true hb) h0
    have hws := wsum_range hbs
    have hs1 := wire_Sum_eq (l := four4 p.length ++ p) (by simp [four4_len]; omega)
    have hs2 := lay_eq (p := four4 p.length) hws.1 hws.2 (by rw [four4_len]; omega)
    simp only [hbeq, cond_false, hs1, hs2, Option.bind_some]
    have hf1 : fits (four4 (p.length : Int) ++ p).length = true := fits_ok (by simp [four4_len]; omega)
    have hf2 : fits (four4 (p.length : Int) ++ four4 (wsum (four4 (p.length : Int) ++ p)) ++ p).length = true := fits_ok (by simp [four4_len]; omega)
    simp only [Option.bind_some, hf1, hf2]
    simp [frame]
theorem rframe_eq {p : List Int} (h : Bytes p) (hl : p.length ≤ 100000000) : kinfolkref06_Frame p = some (frame p) := by
  have hw : IntKind.u32.wrap (p.length : Int) = p.length := IntWalk.u32_in _ ⟨by omega, by omega⟩
  have hbs : Bytes (four4 p.length ++ p) := (four4_bytes _).app h
  have hws := wsum_range hbs
  unfold kinfolkref06_Frame
  rw [hw, four_eq (by omega) (by omega)]
  simp only [Option.bind_some]
  rw [join_eq (by simp) (by simp [jn, E_uint8.l, four4_len]; omega)]
  have e1 : jn [E_uint8.mk (four4 p.length), E_uint8.mk p] = four4 p.length ++ p := by simp [jn, E_uint8.l]
  simp only [Option.bind_some, e1]
  rw [ref_Sum_eq hbs (by simp [four4_len]; omega)]
  simp only [Option.bind_some]
  rw [four_eq hws.1 hws.2]
  simp only [Option.bind_some]
  rw [join_eq (by simp) (by simp [jn, E_uint8.l, four4_len]; omega)]
  simp [jn, E_uint8.l, frame]

/-! ### Num -/
theorem num_go (p : List Int) (n0 : Int) : ∀ (f n : Nat) (l : List Int), n < 128 ^ (f + 1) → f ≤ 9 → n < 2 ^ 64 → l.length + f + 1 ≤ 536870912 →
    ∃ z w, runL (wire_Num_L0_step p n0) (.inr ((n : Int), l)) = some (.inr (z, w)) ∧ w ++ [IntKind.u8.wrap z] = l ++ vnat f n
  | 0, n, l, h, hf, h64, hl => by
    refine ⟨n, l, runL_done ?_, ?_⟩
    · simp [wire_Num_L0_step, show ¬ (128 : Int) ≤ n by omega]
    · simp only [vnat]
      rw [IntKind.wrap_u8, Int.emod_eq_of_lt (by omega) (by omega)]
  | f + 1, n, l, h, hf, h64, hl => by
    by_cases hn : n < 128
    · refine ⟨n, l, runL_done ?_, ?_⟩
      · simp [wire_Num_L0_step, show ¬ (128 : Int) ≤ n by omega]
      · simp only [vnat, if_pos hn]
        rw [IntKind.wrap_u8, Int.emod_eq_of_lt (by omega) (by omega)]
    · obtain ⟨z, w, h1, h2⟩ := num_go p n0 f (n / 128) (l ++ [((n % 128 + 128 : Nat) : Int)]) (by rw [Nat.pow_succ] at h; omega) (by omega) (by omega) (by simp only [List.length_append, List.length_singleton]; omega)
      refine ⟨z, w, ?_, by rw [h2, vnat, if_neg hn]; simp⟩
      rw [runL_next (s' := .inr (((n / 128 : Nat) : Int), l ++ [((n % 128 + 128 : Nat) : Int)])), h1]
      have hfit : fits (l ++ [((n % 128 + 128 : Nat) : Int)]).length = true := fits_ok (by simp; omega)
      simp only [wire_Num_L0_step, vbyte, vshift, hfit]
      simp [show (128 : Int) ≤ n by omega]
theorem num_eq {p : List Int} {n : Int} (h0 : 0 ≤ n) (h1 : n < 18446744073709551616) (hp : p.length ≤ 100000000) : wire_Num p n = some (p ++ varint n) := by
  obtain ⟨m, rfl⟩ : ∃ m : Nat, n = m := ⟨n.toNat, by omega⟩
  have et : List.take ((p.length : Int) - 0).toNat p = p := List.take_of_length_le (by omega)
  unfold wire_Num varint
  rw [et, Int.toNat_natCast]
  by_cases hm : m < 128
  · have hd : runL (wire_Num_L0_step p (m : Int)) (.inl ()) = some (.inl ()) := runL_done (by simp [wire_Num_L0_step, show ¬ (128 : Int) ≤ m by omega])
    have hb : IntKind.u8.wrap (m : Int) = m := by rw [IntKind.wrap_u8, Int.emod_eq_of_lt (by omega) (by omega)]
    have hf : fits (p ++ [(m : Int)]).length = true := fits_ok (by simp; omega)
    rw [hd]
    simp only [Option.bind_some, hb, hf]
    simp [vnat, hm]
  · obtain ⟨z, w, h2, h3⟩ := num_go p m 8 (m / 128) (p ++ [((m % 128 + 128 : Nat) : Int)]) (by omega) (by omega) (by omega) (by simp only [List.length_append, List.length_singleton]; omega)
    have hfit : fits (p ++ [((m % 128 + 128 : Nat) : Int)]).length = true := fits_ok (by simp; omega)
    have hd : runL (wire_Num_L0_step p (m : Int)) (.inl ()) = some (.inr (z, w)) := by
      rw [runL_next (s' := .inr (((m / 128 : Nat) : Int), p ++ [((m % 128 + 128 : Nat) : Int)])), h2]
      simp only [wire_Num_L0_step, vbyte, vshift, hfit]
      simp [show (128 : Int) ≤ m by omega]
    have hlen : ∀ (f n : Nat), (vnat f n).length ≤ f + 1 := by
      intro f
      induction f with
      | zero => intro n; simp [vnat]
      | succ f ih => intro n; rw [vnat]; split; · simp
                     · have := ih (n / 128); simp; omega
    have hf : fits (w ++ [IntKind.u8.wrap z]).length = true := by
      rw [h3]
      have := hlen 8 (m / 128)
      exact fits_ok (by simp; omega)
    rw [hd]
    simp only [Option.bind_some, hf]
    rw [h3]
    simp [vnat, hm]
theorem awake_eq : kinfolklaw06_awake = some true := by
  unfold kinfolklaw06_awake
  have e : wsum [49, 50, 51, 52, 53, 54, 55, 56, 57] = 3421780262 := by decide +kernel
  rw [wire_Sum_eq (by simp), e]
  simp only [Option.bind_some]
  rw [num_eq (by omega) (by omega) (by simp)]
  have e2 : [] ++ varint 300 = [172, 2] := by decide +kernel
  simp only [Option.bind_some, e2]
  rw [same_eq (by simp)]
  simp
end Go.Proofs.Ytecblpgljmbpeaa
