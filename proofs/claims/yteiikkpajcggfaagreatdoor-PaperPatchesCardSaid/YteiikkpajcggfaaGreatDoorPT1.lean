/- Readers told whole; what is read is the one writing of it. Plain. -/
import Derived.Test.YteiikkpajcggfaaGreatDoorW1
set_option linter.unusedVariables false
set_option linter.unusedSimpArgs false
namespace Go.Proofs.YteiikkpajcggfaaGreatDoor.W
open Go.Ev
theorem dec_pos : ∀ {l : List Int} {i : Nat} {v : Int} {k : Nat}, Bytes l → 0 < i → dec i l = some (v, k) → 0 < v
 | [], i, v, k, _, _, h => by cases h
 | b :: l, i, v, k, hb, hi, h => by
  have h0 := hb b (by simp)
  simp only [dec] at h
  split at h
  ·cases h
  ·rename_i hn
   split at h
   ·simp only [Option.some.injEq, Prod.mk.injEq] at h
    obtain ⟨rfl, _⟩ := h
    have : ¬ b = 0 := fun e => hn (.inr ⟨e, hi⟩)
    omega
   ·obtain ⟨z, hz, hz2⟩ := Option.map_eq_some_iff.1 h
    simp only [Prod.mk.injEq] at hz2
    have := dec_pos (l := l) (i := i + 1) (v := z.1) (k := z.2) (fun x hx => hb x (by simp [hx])) (by omega) hz
    omega
theorem dec_enc : ∀ {l : List Int} {i : Nat} {v : Int} {k : Nat}, Bytes l → i ≤ 9 → dec i l = some (v, k) → 0 ≤ v ∧ l.take k = vnat (9 - i) v.toNat
 | [], i, v, k, _, _, h => by cases h
 | b :: l, i, v, k, hb, hi, h => by
  have h0 := hb b (by simp)
  have hbl : Bytes l := fun x hx => hb x (by simp [hx])
  simp only [dec] at h
  split at h
  ·cases h
  ·rename_i hn
   split at h
   ·rename_i h128
    simp only [Option.some.injEq, Prod.mk.injEq] at h
    obtain ⟨rfl, rfl⟩ := h
    refine ⟨h0.1, ?_⟩
    have e : ((b.toNat : Nat) : Int) = b := by omega
    cases hf : 9 - i with
    | zero => simp [vnat, e]
    | succ f => simp [vnat, e, show b.toNat < 128 by omega]
   ·rename_i h128
    obtain ⟨⟨v', k'⟩, hz, hz2⟩ := Option.map_eq_some_iff.1 h
    simp only [Prod.mk.injEq] at hz2
    obtain ⟨rfl, rfl⟩ := hz2
    have hi9 : i < 9 := by
     rcases Nat.lt_or_ge i 9 with h | h
     ·exact h
     ·exact absurd (.inl ⟨by omega, by omega⟩) hn
    obtain ⟨p0, p1⟩ := dec_enc hbl (show i + 1 ≤ 9 by omega) hz
    have p2 := dec_pos hbl (by omega) hz
    refine ⟨by omega, ?_⟩
    rw [List.take_succ_cons, p1, show 9 - i = (9 - (i + 1)) + 1 by omega, vnat, if_neg (by omega)]
    have e1 : (b - 128 + 128 * v').toNat / 128 = v'.toNat := by omega
    have e2 : (((b - 128 + 128 * v').toNat % 128 + 128 : Nat) : Int) = b := by omega
    rw [e1, e2]
theorem dec_var {l : List Int} {v : Int} {k : Nat} (hb : Bytes l) (h : dec 0 l = some (v, k)) : l = varint v ++ l.drop k := by
 obtain ⟨_, h2⟩ := dec_enc hb (by decide) h
 have := List.take_append_drop k l
 rw [h2] at this
 exact this.symm
theorem dec_fwd : ∀ (f i n : Nat) (r : List Int), f + i = 9 → (0 < i → 0 < n) → n < 2 ^ (64 - 7 * i) → dec i (vnat f n ++ r) = some ((n : Int), (vnat f n).length)
 | 0, i, n, r, hf, hp, hn => by
  have hi : i = 9 := by omega
  subst hi
  have : n = 1 := by
   have := hp (by omega)
   omega
  subst this
  rfl
 | f + 1, i, n, r, hf, hp, hn => by
  by_cases h : n < 128
  ·rw [vnat, if_pos h, List.singleton_append, dec, if_neg (by
    intro hh
    rcases hh with hh | hh
    ·omega
    ·have := hp hh.2; omega), if_pos (by omega)]
   rfl
  ·rw [vnat, if_neg h, List.cons_append, dec, if_neg (by
    intro hh
    rcases hh with hh | hh
    ·omega
    ·omega), if_neg (by omega)]
   have h2 : n / 128 < 2 ^ (64 - 7 * (i + 1)) := by
    rw [Nat.div_lt_iff_lt_mul (by decide)]
    have : 2 ^ (64 - 7 * i) = 2 ^ (64 - 7 * (i + 1)) * 128 := by
     rw [show 64 - 7 * i = 64 - 7 * (i + 1) + 7 by omega, Nat.pow_add]
    omega
   rw [dec_fwd f (i + 1) (n / 128) r (by omega) (fun _ => by omega) h2]
   simp only [Option.map_some, List.length_cons, Option.some.injEq, Prod.mk.injEq]
   refine ⟨by omega, trivial⟩
theorem dec_varint {n : Nat} (h : n < 2 ^ 64) (r : List Int) : dec 0 (varint (n : Int) ++ r) = some ((n : Int), (varint (n : Int)).length) := by
 unfold varint
 rw [Int.toNat_natCast]
 exact dec_fwd 9 0 n r rfl (fun h => absurd h (by omega)) (by simpa using h)
theorem vnat_byt : ∀ (f n : Nat), n < 128 ^ (f + 1) → Bytes (vnat f n)
 | 0, n, h => by
  intro x hx
  simp only [vnat, List.mem_singleton] at hx
  omega
 | f + 1, n, h => by
  intro x hx
  rw [vnat] at hx
  split at hx
  ·simp only [List.mem_singleton] at hx; omega
  ·rcases List.mem_cons.1 hx with rfl | hx
   ·omega
   ·refine vnat_byt f (n / 128) ?_ x hx
    rw [Nat.div_lt_iff_lt_mul (by decide), ← Nat.pow_succ]
    exact h
theorem varint_bytes {n : Nat} (h : n < 2 ^ 64) : Bytes (varint (n : Int)) := by
 unfold varint
 rw [Int.toNat_natCast]
 exact vnat_byt 9 n (Nat.lt_trans h (by decide))
theorem vnat_le10 : ∀ (f n : Nat), (vnat f n).length ≤ f + 1
 | 0, n => Nat.le_refl _
 | f + 1, n => by
  rw [vnat]
  split
  ·simp
  ·rw [List.length_cons]; have := vnat_le10 f (n / 128); omega
theorem varint_len (n : Int) : (varint n).length ≤ 10 := vnat_le10 9 _
theorem bytesL_bytes (s : ByteArray) : Bytes (bytesL s) := by
 intro x hx
 unfold bytesL at hx
 obtain ⟨b, _, rfl⟩ := List.mem_map.1 hx
 have := b.toNat_lt
 omega
theorem bytesL_len (s : ByteArray) : (bytesL s).length = s.size := by
 unfold bytesL
 rw [List.length_map]
 exact Array.length_toList
theorem strOf_len (l : List Int) : (strOf l).size = l.length := by simp [strOf, ByteArray.size]
theorem bytesL_strOf {l : List Int} (h : Bytes l) : bytesL (strOf l) = l := by
 unfold bytesL strOf
 rw [List.map_map]
 have : ∀ m : List Int, Bytes m → m.map ((fun b : UInt8 => (b.toNat : Int)) ∘ fun n : Int => UInt8.ofNat n.toNat) = m := by
  intro m
  induction m with
  | nil => intro _; rfl
  | cons a m ih =>
   intro hm
   have ha := hm a (by simp)
   rw [List.map_cons, ih fun x hx => hm x (by simp [hx])]
   congr 1
   simp only [Function.comp]
   rw [UInt8.toNat_ofNat']
   omega
 exact this l h
theorem strOf_bytesL (s : ByteArray) : strOf (bytesL s) = s := by
 unfold strOf bytesL
 rw [List.map_map]
 have : ∀ m : List UInt8, m.map ((fun n : Int => UInt8.ofNat n.toNat) ∘ fun b : UInt8 => (b.toNat : Int)) = m := by
  intro m
  induction m with
  | nil => rfl
  | cons a m ih =>
   rw [List.map_cons, ih]
   congr 1
   simp only [Function.comp]
   rw [Int.toNat_natCast, UInt8.ofNat_toNat]
 rw [this]
theorem byte_spec {p : List Int} (hp : p.length ≤ 1000000) {at_ : Nat} (ha : at_ ≤ p.length) (e : Int) :
  ∃ v, ∃ at2 : Nat, ∃ e2, wire_In_Byte (p.drop at_) e = some (v, p.drop at2, e2) ∧ kinfolkref06_Byte p at_ e = some (v, (at2 : Int), e2) ∧ at2 ≤ p.length ∧ (e2 = 0 → e = 0 ∧ at_ < p.length ∧ at2 = at_ + 1 ∧ v = p.getD at_ 0) := by
 by_cases he : e = 0
 ·by_cases hl : p.length ≤ at_
  ·have hd : p.drop at_ = [] := List.drop_eq_nil_of_le hl
   refine ⟨0, at_, 6, ?_, ?_, ha, fun h => by omega⟩
   ·unfold wire_In_Byte; simp only [err_eq, fail_eq, Option.bind_some]; simp [he, hd]
   ·unfold kinfolkref06_Byte; simp [he, hl]
  ·have hlt : at_ < p.length := by omega
   obtain ⟨v, at2, e2, h1, h2, h3⟩ := byte_pair hp ha e
   have hr : kinfolkref06_Byte p at_ e = some (p.getD at_ 0, ((at_ + 1 : Nat) : Int), 0) := by
    have e1 : iadd .i64 (at_ : Int) 1 = ((at_ + 1 : Nat) : Int) := by rw [iadd64 (by omega) (by omega)]; omega
    have e2 : isub .i64 ((at_ + 1 : Nat) : Int) 1 = (at_ : Int) := by rw [isub64 (by omega) (by omega)]; omega
    have h1 : (at_ : Int) < p.length := by omega
    have h2 : ¬ ((p.length : Int) ≤ at_) := by omega
    have h3 : (0 : Int) ≤ at_ := by omega
    unfold kinfolkref06_Byte
    simp only [he, e1, e2, decide_true, decide_eq_false h2, decide_eq_true h1, decide_eq_true h3, cond_true, cond_false, Bool.and_self, Int.toNat_natCast]
   rw [hr] at h2
   simp only [Option.some.injEq, Prod.mk.injEq] at h2
   obtain ⟨rfl, h4, rfl⟩ := h2
   have h4' : at2 = at_ + 1 := by omega
   subst h4'
   exact ⟨_, _, _, h1, hr, h3, fun _ => ⟨he, hlt, rfl, rfl⟩⟩
 ·refine ⟨0, at_, e, ?_, ?_, ha, fun h => absurd h he⟩
  ·unfold wire_In_Byte; simp only [err_eq, fail_eq, Option.bind_some]; simp [he]
  ·unfold kinfolkref06_Byte; simp [he]
theorem num_spec {p : List Int} (hb : Bytes p) (hp : p.length ≤ 1000000) {at_ : Nat} (ha : at_ ≤ p.length) (e : Int) :
  ∃ v, ∃ at2 : Nat, ∃ e2, wire_In_Num (p.drop at_) e = some (v, p.drop at2, e2) ∧ kinfolkref06_GetNum p at_ e = some (v, (at2 : Int), e2) ∧ at2 ≤ p.length ∧ 0 ≤ v ∧ v < 18446744073709551616 ∧ (e2 = 0 → e = 0 ∧ ∃ k, dec 0 (p.drop at_) = some (v, k) ∧ at2 = at_ + k) := by
 rw [in_num_eq (hb.drop at_) (by simp; omega)]
 unfold kinfolkref06_GetNum
 rw [number_eq hb hp ha]
 by_cases he : e = 0
 ·cases hd : dec 0 (p.drop at_) with
  | none => exact ⟨0, at_, 6, by simp [he], by simp [he, iadd64 (show -1000000000000 ≤ (at_ : Int) + 0 by omega) (by omega)], ha, by omega, by omega, fun h => by omega⟩
  | some z =>
   obtain ⟨v, k⟩ := z
   have hk := dec_k hd
   have hr := dec_range (hb.drop at_) (by decide) hd
   rw [List.length_drop] at hk
   refine ⟨v, at_ + k, 0, by simp [he], ?_, by omega, hr.1, by have := hr.2; simpa using this, fun _ => ⟨he, k, rfl, rfl⟩⟩
   have h0 : ¬ ((k : Int) = 0) := by omega
   simp only [he, Option.bind_some, decide_true, cond_true, decide_eq_false h0, cond_false, iadd64 (show -1000000000000 ≤ (at_ : Int) + (k : Int) by omega) (by omega)]
   simp
 ·exact ⟨0, at_, e, by simp [he], by simp [he], ha, by omega, by omega, fun h => absurd h he⟩
theorem text_spec {p : List Int} (hb : Bytes p) (hp : p.length ≤ 1000000) {at_ : Nat} (ha : at_ ≤ p.length) (e : Int) {most : Nat} (hmost : most ≤ 1000) :
  ∃ s, ∃ at2 : Nat, ∃ e2, wire_In_Text most (p.drop at_) e = some (s, p.drop at2, e2) ∧ kinfolkref06_GetText most p at_ e = some (s, (at2 : Int), e2) ∧ at2 ≤ p.length ∧ s.size ≤ 1000 ∧
   (e2 = 0 → e = 0 ∧ s.size ≤ most ∧ p.drop at_ = varint (s.size : Int) ++ (bytesL s ++ p.drop at2)) := by
 unfold wire_In_Text kinfolkref06_GetText
 rw [in_num_eq (hb.drop at_) (by simp; omega), number_eq hb hp ha]
 simp only [err_eq, fail_eq, Option.bind_some]
 have z0 : (⟨#[]⟩ : ByteArray).size ≤ 1000 := by decide
 by_cases he : e = 0
 ·subst he
  simp only [if_true, decide_true, cond_true]
  cases hd : dec 0 (p.drop at_) with
  | none => exact ⟨⟨#[]⟩, at_, 6, by simp, by simp, ha, z0, fun h => by omega⟩
  | some z =>
   obtain ⟨v, k⟩ := z
   have hk := dec_k hd
   have hv := dec_range (hb.drop at_) (by decide) hd
   rw [List.length_drop] at hk
   have h0 : ¬ ((k : Int) = 0) := by omega
   have ew : IntKind.u64.wrap (((p.drop at_).drop k).length : Int) = ((p.length - at_ - k : Nat) : Int) := by
    rw [IntWalk.u64_in _ ⟨by omega, by simp; omega⟩]; simp; omega
   have es : IntKind.u64.wrap (isub .i64 (isub .i64 ((p.length : Int)) (at_ : Int)) (k : Int)) = ((p.length - at_ - k : Nat) : Int) := by
    rw [isub64 (a := (p.length : Int)) (by omega) (by omega), isub64 (by omega) (by omega), IntWalk.u64_in _ ⟨by omega, by omega⟩]; omega
   have em : IntKind.u64.wrap (most : Int) = (most : Int) := IntWalk.u64_in _ ⟨by omega, by omega⟩
   simp only [decide_true, decide_eq_false h0, cond_true, cond_false, ew, es, em, if_true]
   have hm : ¬ ((most : Int) < 0) := by omega
   by_cases hw : (most : Int) < v
   ·exact ⟨⟨#[]⟩, at_, 9, by simp [hm, hw], by simp [hm, hw], ha, z0, fun h => by omega⟩
   by_cases hr : ((p.length - at_ - k : Nat) : Int) < v
   ·exact ⟨⟨#[]⟩, at_, 6, by simp [hm, hw, hr], by simp [hm, hw, hr], ha, z0, fun h => by omega⟩
   obtain ⟨c, rfl⟩ : ∃ c : Nat, v = (c : Int) := ⟨v.toNat, by omega⟩
   have w1 : IntKind.i64.wrap (c : Int) = c := i64_in (by omega) (by omega)
   have w2 : iadd .i64 (k : Int) (c : Int) = ((k + c : Nat) : Int) := by rw [iadd64 (by omega) (by omega)]; omega
   have w3 : iadd .i64 (at_ : Int) ((k + c : Nat) : Int) = ((at_ + (k + c) : Nat) : Int) := by rw [iadd64 (by omega) (by omega)]; omega
   have w4 : isub .i64 ((at_ + (k + c) : Nat) : Int) (c : Int) = ((at_ + k : Nat) : Int) := by rw [isub64 (by omega) (by omega)]; omega
   have l1 : (((p.drop at_).drop k).length : Int) = ((p.length - at_ - k : Nat) : Int) := by simp; omega
   have t1 := take_drop1 ((p.drop at_).drop k) c
   rw [l1] at t1
   have hsz : (strOf (List.take c (List.drop (at_ + k) p))).size = c := by rw [strOf_len, List.length_take, List.length_drop]; omega
   refine ⟨strOf (List.take c (List.drop (at_ + k) p)), at_ + (k + c), 0, ?_, ?_, by omega, by omega, fun _ => ⟨trivial, by omega, ?_⟩⟩
   ·simp only [decide_eq_false hm, decide_eq_false hw, decide_eq_false hr, cond_false, l1, Int.toNat_natCast, t1]
    simp only [show (0 : Int) ≤ (c : Int) by omega, show (c : Int) ≤ ((p.length - at_ - k : Nat) : Int) by omega, Int.le_refl, decide_true, Bool.and_self, cond_true, List.drop_drop, Int.sub_zero, Int.toNat_natCast]
    rw [show at_ + k + c = at_ + (k + c) by omega]
   ·simp only [decide_eq_false hm, decide_eq_false hw, decide_eq_false hr, cond_false, w1, w2, w3, w4, Int.toNat_natCast]
    simp only [show (0 : Int) ≤ ((at_ + k : Nat) : Int) by omega, show ((at_ + k : Nat) : Int) ≤ ((at_ + (k + c) : Nat) : Int) by omega, show ((at_ + (k + c) : Nat) : Int) ≤ (p.length : Int) by omega, decide_true, Bool.and_self, cond_true]
    rw [show ((at_ + (k + c) : Nat) : Int) - ((at_ + k : Nat) : Int) = ((c : Nat) : Int) by omega, Int.toNat_natCast]
   ·rw [hsz, bytesL_strOf ((hb.drop _).take _)]
    have h5 := dec_var (hb.drop at_) hd
    rw [List.drop_drop] at h5
    have h6 := List.take_append_drop c (p.drop (at_ + k))
    rw [List.drop_drop] at h6
    rw [show at_ + (k + c) = at_ + k + c by omega, h6]
    exact h5
 ·exact ⟨⟨#[]⟩, at_, e, by simp [he], by simp [he], ha, z0, fun h => absurd h he⟩
end Go.Proofs.YteiikkpajcggfaaGreatDoor.W
