/- Chapter 15: an id written: the program's bytes are the document's. Plain. -/
import Derived.Test.YtjjcmgdgifcmgaaGreatG5
set_option linter.unusedVariables false
set_option linter.unusedSimpArgs false
namespace Go.Proofs.YtjjcmgdgifcmgaaGreat
open Go.Ev Go.Lib
theorem zxK {p : List Int} {B r : List Bool} (hb : Bytes p) (h : zcZ p = B ++ r) (hr : endR r = 0) : Pk p B := by
 have hn : ¬ (8 ≤ r.length ∨ true ∈ r) := by
  intro q
  rw [endR, if_pos q] at hr
  cases hr
 have h8 : r.length < 8 := by
  rcases Nat.lt_or_ge r.length 8 with q | q
  ·exact q
  ·exact absurd (.inl q) hn
 have hlen := zgZ p
 rw [h, List.length_append] at hlen
 refine ⟨by omega, hb, fun q j hj hq => ?_⟩
 have hi := znl (p := p) (i := 8 * q + j) (by omega)
 rw [show (8 * q + j) / 8 = q by omega, show (8 * q + j) % 8 = j by omega] at hi
 rw [hi, h]
 simp only [List.getD]
 rcases Nat.lt_or_ge (8 * q + j) B.length with c | c
 ·rw [List.getElem?_append_left c]
 ·rw [List.getElem?_append_right c, List.getElem?_eq_none c]
  cases hx : r[8 * q + j - B.length]? with
  | none => rfl
  | some x => cases x with
   | false => rfl
   | true => exact absurd (.inr (List.mem_of_getElem? hx)) hn
theorem ztv (p : List Int) : nfI (zd4 p).1 (zd4 p).2.1 ∧ zby (zd4 p).2.1 ≤ 16 := by
 unfold zd4
 cases hd : decI 16 (zcZ p) with
 | inr e => exact ⟨trivial, Nat.zero_le _⟩
 | inl x =>
  obtain ⟨i, t, r⟩ := x
  obtain ⟨h1, h2, _⟩ := zpT hd
  by_cases hz : endR r = 0
  ·simp only [if_pos hz]; exact ⟨h1, h2⟩
  ·simp only [if_neg hz]; exact ⟨trivial, Nat.zero_le _⟩
theorem zr7 {N : Nat} {i : Bool} {t : zab} {n : Int} : zhS N i t n = zcj (N + 1) i t n [] := by
 show _ = zed (zcj N) i t n []
 unfold zhS zed
 simp only [zut]
theorem zvo {N : Nat} {i : Bool} {t : zab} (hN : 100 ≤ N) (hd : zdO t ≤ 16) :
  ∃ m, zhE N i t = some m ∧ Pk m (zgI i t) ∧ m.length ≤ 60000 := by
 have hl : (zgI i t).length ≤ 400000 := by
  have h1 := znB (t := t) (i := i)
  have h2 : 2 ^ zdO t ≤ 2 ^ 16 := Nat.pow_le_pow_right (by decide) hd
  have h3 : (2 : Nat) ^ 16 = 65536 := by decide
  omega
 have hp0 : Pk [] [] := ⟨rfl, fun x hx => (by cases hx), fun q j _ hq => absurd hq (Nat.not_lt_zero _)⟩
 obtain ⟨l', h3, h4⟩ := zlz (N := N + 1) (i := i) (t := t) (l := []) (B := []) (by omega) (by simp; omega) hp0
 rw [List.nil_append] at h3 h4
 have hlen : l'.length ≤ 60000 := by rw [h4.len]; omega
 refine ⟨l', ?_, h4, hlen⟩
 unfold zhE zgi
 rw [zr7]
 have h3' : zcj (N + 1) i t 0 [] = _ := h3
 simp only [Option.bind_some, h3', zeJ, List.take_length]
 rw [zfX (by omega)]
 rfl
theorem zxa {N : Nat} {p : List Int} (hN : 100 ≤ N) (hb : Bytes p) (hl : p.length ≤ 10000) (h0 : (zd4 p).2.2 = 0) : zhE N (zd4 p).1 (zd4 p).2.1 = some p := by
 obtain ⟨m, h1, h2, _⟩ := zvo (N := N) (i := (zd4 p).1) (t := (zd4 p).2.1) hN (by rw [zpW]; exact (ztv p).2)
 rw [h1]
 have hp : Pk p (zgI (zd4 p).1 (zd4 p).2.1) := by
  unfold zd4 at h0 ⊢
  cases hd : decI 16 (zcZ p) with
  | inr e =>
   have hL : (zcZ p).length ≤ 80000 := by rw [zgZ]; omega
   have h := zs4 (N := N + 1) (k := 16) (d := 0) (L := zcZ p) (by omega) (by omega) (by omega)
   rw [hd] at h h0
   exact absurd h0 h.1
  | inl x =>
   obtain ⟨i, t, r⟩ := x
   rw [hd] at h0
   by_cases hz : endR r = 0
   ·simp only [if_pos hz] at h0 ⊢
    exact zxK hb (zsx hd) hz
   ·simp only [if_neg hz] at h0
    exact absurd h0 hz
 rw [h2.uniq hp]
theorem zvD {N : Nat} {p m : List Int} {no from_ to : Int} {i : Bool} {t : zab} (hN : 100 ≤ N) (hp : p.length ≤ 9000000) (h0 : 0 ≤ no) (h1 : no < 18446744073709551616) (f0 : 0 ≤ from_) (f1 : from_ < 2147483648) (t0 : 0 ≤ to) (t1 : to < 2147483648) (hm : Bytes m) (hml : m.length ≤ 100000) (c1 : zhE N i t = some m) :
  zgv N p no from_ to i t = some (p ++ (W.varint no ++ (W.varint from_ ++ (W.varint to ++ (W.varint (m.length : Int) ++ m))))) := by
 have hs : (Ev.strOf m).size = m.length := W.strOf_len m
 have hb : zcn (Ev.strOf m) = m := W.bytesL_strOf hm
 have hw : ∀ {x : Int}, 0 ≤ x → x < 2147483648 → IntKind.u64.wrap x = x := fun a b => u64_in a (by omega)
 have v1 := W.varint_len no
 have v2 := W.varint_len from_
 have v3 := W.varint_len to
 have v4 := W.varint_len (m.length : Int)
 unfold zgv zlQ
 have e1 := W.num_eq (p := p) h0 h1 (by omega)
 have e2 := W.num_eq (p := p ++ W.varint no) f0 (by omega) (by rw [List.length_append]; omega)
 have e3 := W.num_eq (p := p ++ W.varint no ++ W.varint from_) t0 (by omega) (by simp only [List.length_append]; omega)
 have e4 := W.num_eq (p := p ++ W.varint no ++ W.varint from_ ++ W.varint to) (n := (m.length : Int)) (by omega) (by omega) (by simp only [List.length_append]; omega)
 simp only [hw f0 f1, hw t0 t1, e1, e2, e3, Option.bind_some, c1, hs, hw (x := (m.length : Int)) (by omega) (by omega), e4, hb]
 rw [zfX (by simp only [List.length_append]; omega)]
 simp only [cond_true, Option.bind_some, List.append_assoc]
end Go.Proofs.YtjjcmgdgifcmgaaGreat
