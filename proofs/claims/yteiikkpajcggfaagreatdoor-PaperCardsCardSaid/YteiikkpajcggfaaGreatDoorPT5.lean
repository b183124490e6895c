/- The document's card, the order of bytes; PaperCards. Plain. -/
import Derived.Test.YteiikkpajcggfaaGreatDoorPT4
set_option linter.unusedVariables false
set_option linter.unusedSimpArgs false
namespace Go.Proofs.YteiikkpajcggfaaGreatDoor
open Go.Ev Go.Lib
theorem rnum_go {N : Nat} (hN : 1000 < N) {n : Nat} (h : n < 2 ^ 64) : kinfolkref06_Num N (n : Int) = some (W.varint (n : Int)) := by
 have := W.num_vnat (f := 9) (n := n) (i := 0) (N := N) rfl (by simpa using h) (by omega)
 rw [this]
 unfold W.varint
 rw [Int.toNat_natCast]
theorem rtext_go {N : Nat} (hN : 1000 < N) {s : ByteArray} (hs : s.size ≤ 1000) : kinfolkref06_Text N s = some (W.varint (s.size : Int) ++ bytesL s) := by
 have hv := W.varint_len (s.size : Int)
 have hb := W.bytesL_len s
 unfold kinfolkref06_Text
 rw [size_u64 (by omega), rnum_go hN (by omega)]
 simp only [Option.bind_some, List.take_length]
 rw [fits_of (by rw [List.length_append]; omega), decide_eq_true (show s.size ≤ 140737488355328 by omega)]
 rfl
def jl : E_L_uint8 → List Int | .mk l => l
theorem ulen_eq (l : List E_L_uint8) : (((List.map E_L_uint8.pv l).length : Nat) : Int) = (l.length : Int) := by rw [List.length_map]
theorem join_go {l : List E_L_uint8} (hl : l.length ≤ 1000) (hj : (l.flatMap jl).length ≤ 10000000) : kinfolkref06_Join l = some (l.flatMap jl) := by
 unfold kinfolkref06_Join
 rw [ulen_eq]
 have h := runL_iter (step := kinfolkref06_Join_L0_2_step l ((l.length : Nat) : Int)) (fun k => ((k : Int), (l.take k).flatMap jl)) (z := l.flatMap jl) l.length (fun k hk => by
  obtain ⟨z, hz⟩ := getS hk
  have ht := take_s hz
  have h1 : (l.take k ++ [z]).flatMap jl = (l.take k).flatMap jl ++ jl z := by simp
  have h2 : ((l.take (k + 1)).flatMap jl).length ≤ (l.flatMap jl).length := by
   have : l.flatMap jl = (l.take (k + 1)).flatMap jl ++ (l.drop (k + 1)).flatMap jl := by rw [← List.flatMap_append, List.take_append_drop]
   rw [this, List.length_append]; omega
  rw [ht, h1] at h2
  rw [ht, h1]
  cases z with
  | mk x =>
   have hf : fits ((l.take k).flatMap jl ++ x).length = true := fits_of (by have : (jl (.mk x)) = x := rfl; rw [this] at h2; omega)
   simp only [kinfolkref06_Join_L0_2_step, ulen_eq, ltT hk, le0, Int.toNat_natCast, hz, cond_true, Bool.and_self, Option.bind_some, hf, iaddN (show k ≤ 9223372036854775806 by omega), jl]) (by
  simp only [kinfolkref06_Join_L0_2_step, ltF_ (Nat.lt_irrefl _), List.take_length]; rfl)
 have e : ((0 : Nat) : Int) = 0 := rfl
 simp only [List.take_zero, List.flatMap_nil, e] at h
 rw [h]; rfl
theorem rcard_go {N : Nat} (hN : 1000 < N) {l : List Fd} (hl : l.length ≤ 1000) (hs : ∀ x ∈ l, Small x) : kinfolkref10_Card N (l.map toR) = some (encC l) := by
 unfold kinfolkref10_Card
 rw [glen_eq, List.length_map, size_u64 (by omega), rnum_go hN (by omega)]
 have hv := W.varint_len (l.length : Int)
 simp only [Option.bind_some]
 have h := runL_iter (step := kinfolkref10_Card_L0_step N (l.map toR) ((l.length : Nat) : Int)) (fun k => ((k : Int), W.varint (l.length : Int) ++ encFs (l.take k))) (z := W.varint (l.length : Int) ++ encFs l) l.length (fun k hk => by
  obtain ⟨x, hx⟩ := getS hk
  have ht := take_s hx
  have hk' : k < (l.map toR).length := by rw [List.length_map]; exact hk
  have hx' : (l.map toR)[k]? = some (toR x) := by rw [List.getElem?_map, hx]; rfl
  have hsx := hs x (mem_of_get hx)
  have hel := encFs_len (l := l.take k) fun y hy => hs y (List.mem_of_mem_take hy)
  rw [List.length_take] at hel
  have hql : (W.varint (l.length : Int) ++ encFs (l.take k)).length ≤ 4000000 := by simp only [List.length_append]; omega
  rw [ht, encFs_snoc, ← List.append_assoc (W.varint (l.length : Int))]
  generalize W.varint (l.length : Int) ++ encFs (l.take k) = q at *
  cases x with
  | mk a b c =>
   simp only [toR] at hx'
   have hvb := W.varint_len (b.size : Int)
   have hbb := W.bytesL_len b
   have hvc := W.varint_len (c.size : Int)
   have hbc := W.bytesL_len c
   have hb := hsx.1
   have hc := hsx.2
   have hj := join_go (l := [(E_L_uint8.mk q), (E_L_uint8.mk [IntKind.u8.wrap a]), (E_L_uint8.mk (W.varint (b.size : Int) ++ bytesL b)), (E_L_uint8.mk (W.varint (c.size : Int) ++ bytesL c))]) (by simp) (by
    simp only [List.flatMap_cons, List.flatMap_nil, jl, List.length_append, List.length_cons, List.length_nil]; omega)
   simp only [kinfolkref10_Card_L0_step, glen_eq, ltT hk', le0, Int.toNat_natCast, hx', cond_true, Bool.and_self, Option.bind_some, rtext_go hN hb, rtext_go hN hc, hj, iaddN (show k ≤ 9223372036854775806 by omega)]
   rw [decide_eq_true (show (k : Int) < (l.length : Int) by omega)]
   simp only [cond_true, List.flatMap_cons, List.flatMap_nil, jl, List.append_nil, encF, List.append_assoc, List.cons_append, List.nil_append]) (by
  simp only [kinfolkref10_Card_L0_step, ltF_ (Nat.lt_irrefl _), List.take_length]; rfl)
 have e : ((0 : Nat) : Int) = 0 := rfl
 have e2 : encFs ([] : List Fd) = [] := rfl
 simp only [e, List.take_zero, e2, List.append_nil] at h
 rw [h]; rfl
def ltN : List Int → List Int → Bool
 | _, [] => false
 | [], _ :: _ => true
 | a :: l, b :: m => if a = b then ltN l m else decide (a < b)
theorem compare_ltN : ∀ {l m : List Int}, W.Bytes l → W.Bytes m → decide (compareBytes (Lib.bytesOf l) (Lib.bytesOf m) < 0) = ltN l m
 | [], [], _, _ => rfl
 | [], _ :: _, _, _ => rfl
 | _ :: _, [], _, _ => rfl
 | a :: l, b :: m, hl, hm => by
  have ha := hl a (by simp)
  have hb := hm b (by simp)
  have ih := compare_ltN (l := l) (m := m) (fun x hx => hl x (by simp [hx])) (fun x hx => hm x (by simp [hx]))
  show decide ((if UInt8.ofNat a.toNat < UInt8.ofNat b.toNat then (-1 : Int) else if UInt8.ofNat b.toNat < UInt8.ofNat a.toNat then 1 else compareBytes (Lib.bytesOf l) (Lib.bytesOf m)) < 0) = _
  rw [ltN]
  have e1 : (UInt8.ofNat a.toNat < UInt8.ofNat b.toNat) ↔ a < b := by
   rw [UInt8.lt_iff_toNat_lt, UInt8.toNat_ofNat', UInt8.toNat_ofNat']; omega
  have e2 : (UInt8.ofNat b.toNat < UInt8.ofNat a.toNat) ↔ b < a := by
   rw [UInt8.lt_iff_toNat_lt, UInt8.toNat_ofNat', UInt8.toNat_ofNat']; omega
  by_cases h1 : a < b
  ·rw [if_pos (e1.2 h1), if_neg (by omega), decide_eq_true h1]; rfl
  ·rw [if_neg (fun h => h1 (e1.1 h))]
   by_cases h2 : b < a
   ·rw [if_pos (e2.2 h2), if_neg (by omega), decide_eq_false h1]; rfl
   ·rw [if_neg (fun h => h2 (e2.1 h)), if_pos (by omega), ih]
theorem rless10_go {a b : List Int} (ha : a.length ≤ 1000000) (hb : b.length ≤ 1000000) : kinfolkref10_Less a b = some (ltN a b) := by
 have key : ∀ (f i : Nat), a.length ≤ i + f → i ≤ a.length → i ≤ b.length → ltN a b = ltN (a.drop i) (b.drop i) →
   (∃ z, runL (kinfolkref10_Less_L0_step a b) (i : Int) = some z ∧ (match z with | .inl v => v = ltN a b | .inr _ => decide (a.length < b.length) = ltN a b)) := by
  intro f
  induction f with
  | zero =>
   intro i h1 h2 h3 h4
   have hi : i = a.length := by omega
   refine ⟨.inr (), runL_done ?_, ?_⟩
   ·simp only [kinfolkref10_Less_L0_step, ltF_ (show ¬ i < a.length by omega)]; rfl
   ·show decide _ = _
    rw [h4, List.drop_eq_nil_of_le (by omega)]
    cases hd : b.drop i with
    | nil =>
     have := congrArg List.length hd
     rw [List.length_drop, List.length_nil] at this
     exact (decide_eq_false (by omega)).trans rfl
    | cons y m =>
     have := congrArg List.length hd
     rw [List.length_drop, List.length_cons] at this
     exact (decide_eq_true (by omega)).trans rfl
  | succ f ih =>
   intro i h1 h2 h3 h4
   by_cases hi : i = a.length
   ·refine ⟨.inr (), runL_done ?_, ?_⟩
    ·simp only [kinfolkref10_Less_L0_step, ltF_ (show ¬ i < a.length by omega)]; rfl
    ·show decide _ = _
     rw [h4, List.drop_eq_nil_of_le (by omega)]
     cases hd : b.drop i with
     | nil =>
      have := congrArg List.length hd
      rw [List.length_drop, List.length_nil] at this
      exact (decide_eq_false (by omega)).trans rfl
     | cons y m =>
      have := congrArg List.length hd
      rw [List.length_drop, List.length_cons] at this
      exact (decide_eq_true (by omega)).trans rfl
   ·have hia : i < a.length := by omega
    have da := W.drop_cons hia
    by_cases hib : i = b.length
    ·refine ⟨.inr (), runL_done ?_, ?_⟩
     ·simp only [kinfolkref10_Less_L0_step, ltT hia, ltF_ (show ¬ i < b.length by omega)]; rfl
     ·show decide _ = _
      have hz : b.drop i = [] := List.drop_eq_nil_of_le (by omega)
      rw [h4, da, hz]
      exact (decide_eq_false (by omega)).trans rfl
    ·have hib' : i < b.length := by omega
     have db := W.drop_cons hib'
     rw [da, db, ltN] at h4
     by_cases he : a.getD i 0 = b.getD i 0
     ·rw [if_pos he] at h4
      obtain ⟨z, h5, h6⟩ := ih (i + 1) (by omega) (by omega) (by omega) h4
      refine ⟨z, ?_, h6⟩
      rw [← h5]
      refine runL_next ?_
      simp only [kinfolkref10_Less_L0_step, ltT hia, ltT hib', le0, Int.toNat_natCast, cond_true, Bool.and_self, iaddN (show i ≤ 9223372036854775806 by omega)]
      rw [decide_eq_true he]; rfl
     ·rw [if_neg he] at h4
      refine ⟨.inl (decide (a.getD i 0 < b.getD i 0)), runL_done ?_, h4.symm⟩
      simp only [kinfolkref10_Less_L0_step, ltT hia, ltT hib', le0, Int.toNat_natCast, cond_true, Bool.and_self]
      rw [decide_eq_false he]; rfl
 obtain ⟨z, h1, h2⟩ := key a.length 0 (by omega) (by omega) (by omega) rfl
 unfold kinfolkref10_Less
 have e : ((0 : Nat) : Int) = 0 := rfl
 rw [e] at h1
 rw [h1]
 cases z with
 | inl v => simp only at h2; rw [h2]; rfl
 | inr v =>
  simp only at h2
  rw [← h2]
  simp only [Option.bind_some]
  congr 1
  exact decide_eq_decide.2 (by omega)
theorem less10_go {a b : List Fd} (ha : Fit a) (ha8 : a.length ≤ 8) (hb : Fit b) (hb8 : b.length ≤ 8) : paper_Less a b = some (ltN (encC a) (encC b)) := by
 unfold paper_Less bytes_Compare
 rw [card_w (by omega) ha.small, card_w (by omega) hb.small]
 simp only [Option.bind_some]
 rw [compare_ltN (encC_bytes (by omega) ha.small) (encC_bytes (by omega) hb.small)]
theorem encC_inj {a b : List Fd} (ha : Fit a) (ha8 : a.length ≤ 8) (hb : Fit b) (hb8 : b.length ≤ 8) (h : encC a = encC b) : a = b := by
 have h1 := get_fwd ha ha8 (rest := []) (fun x hx => (by cases hx)) (by simp)
 have h2 := get_fwd hb hb8 (rest := []) (fun x hx => (by cases hx)) (by simp)
 rw [h, h2] at h1
 simp only [Option.some.injEq, Prod.mk.injEq] at h1
 exact h1.1.symm
theorem encC_ne (a : List Fd) : Nat.beq (encC a).length 0 = false := by
 have : 0 < (W.varint (a.length : Int)).length := by
  unfold W.varint
  cases (a.length : Int).toNat with
  | zero => simp [W.vnat]
  | succ n => unfold W.vnat; split <;> simp
 refine Bool.eq_false_iff.2 fun h => ?_
 have := Nat.eq_of_beq_eq_true h
 unfold encC at this
 rw [List.length_append] at this
 omega
end Go.Proofs.YteiikkpajcggfaaGreatDoor
