/- Cards that stand one behind the other; PaperRows. Plain. -/
import Derived.Test.YteiikkpajcggfaaGreatDoorPT3
set_option linter.unusedVariables false
set_option linter.unusedSimpArgs false
namespace Go.Proofs.YteiikkpajcggfaaGreatDoor
open Go.Ev Go.Lib
theorem W.Bytes.app {l m : List Int} (h : W.Bytes l) (k : W.Bytes m) : W.Bytes (l ++ m) := fun x hx => (List.mem_append.1 hx).elim (h x) (k x)
theorem byte_fwd (b : Int) (r : List Int) : wire_In_Byte (b :: r) 0 = some (b, r, 0) := by
 unfold wire_In_Byte
 have h0 : ¬ (((b :: r).length : Int) = 0) := by simp; omega
 have h1 : (1 : Int) ≤ ((b :: r).length : Int) := by simp; omega
 have h2 : (0 : Int) < ((b :: r).length : Int) := by omega
 simp only [W.err_eq, Option.bind_some, decide_true, cond_true, decide_eq_false h0, cond_false, decide_eq_true h1, decide_eq_true h2, Bool.and_self, show decide ((0 : Int) ≤ 0) = true from rfl, show decide ((0 : Int) ≤ 1) = true from rfl]
 simp
theorem text_fwd {s : ByteArray} {r : List Int} {most : Nat} (hm : most ≤ 1000) (hs : s.size ≤ most) (hb : W.Bytes r) (hl : r.length ≤ 900000) : wire_In_Text most (W.varint (s.size : Int) ++ (bytesL s ++ r)) 0 = some (s, r, 0) := by
 have hvb := W.varint_bytes (n := s.size) (by omega)
 have hsb := W.bytesL_bytes s
 have hsl := W.bytesL_len s
 have hvl := W.varint_len (s.size : Int)
 have hB : W.Bytes (W.varint (s.size : Int) ++ (bytesL s ++ r)) := hvb.app (hsb.app hb)
 unfold wire_In_Text
 rw [W.in_num_eq hB (by simp only [List.length_append]; omega), W.dec_varint (by omega)]
 simp only [W.err_eq, W.fail_eq, Option.bind_some, if_true, decide_true, cond_true, List.drop_left]
 have ew : IntKind.u64.wrap (((bytesL s ++ r).length : Nat) : Int) = (((bytesL s ++ r).length : Nat) : Int) := size_u64 (by simp only [List.length_append]; omega)
 have em : IntKind.u64.wrap (most : Int) = (most : Int) := size_u64 (by omega)
 have h1 : ¬ ((most : Int) < 0) := by omega
 have h2 : ¬ ((most : Int) < (s.size : Int)) := by omega
 have hL : (((bytesL s ++ r).length : Nat) : Int) = (s.size : Int) + (r.length : Int) := by simp only [List.length_append]; omega
 have h3 : ¬ ((((bytesL s ++ r).length : Nat) : Int) < (s.size : Int)) := by omega
 have h4 : (s.size : Int) ≤ (((bytesL s ++ r).length : Nat) : Int) := by omega
 simp only [ew, em, decide_eq_false h1, decide_eq_false h2, decide_eq_false h3, decide_eq_true h4, le0, cond_false, cond_true, decide_true, Bool.and_self, Int.le_refl, show decide ((0 : Int) ≤ 0) = true from rfl, Int.sub_zero, Int.toNat_natCast]
 have t1 : List.take s.size (bytesL s ++ r) = bytesL s := by
  have := List.take_left (l₁ := bytesL s) (l₂ := r)
  rwa [hsl] at this
 have t2 : List.drop s.size (bytesL s ++ r) = r := by
  have := List.drop_left (l₁ := bytesL s) (l₂ := r)
  rwa [hsl] at this
 rw [t1, t2, W.strOf_bytesL, List.take_of_length_le (by omega)]
theorem okF_parts {a : Int} {b c : ByteArray} (h : okF (.mk a b c) = true) : (1 ≤ a ∧ a ≤ 6) ∧ b.size ≤ 12 ∧ c.size ≤ 40 := by
 have h0 : rightL a b.data.toList c.data.toList = 0 := of_decide_eq_true h
 have hc : ∀ (l : List UInt8) (m : Int), chkC l m = 0 → (l.length : Int) ≤ m := fun l m hh => by
  unfold chkC at hh
  split at hh
  ·cases hh
  ·omega
 unfold rightL at h0
 split at h0
 ·cases h0
 ·split at h0
  ·rename_i h1
   split at h0
   ·rename_i h2
    have g1 := hc _ _ h1
    have g2 := hc _ _ h2
    rw [size_list] at g1 g2
    omega
   ·rename_i hh; exact absurd h0 hh
  ·rename_i hh; exact absurd h0 hh
theorem SS_last {x y : Fd} {m : List Fd} : ∀ {r : List Fd}, SS ltF (r ++ x :: m) → r.getLast? = some y → ltF y x = true
 | [], _, h => by cases h
 | [a], h, hy => by
  have : a = y := by simpa using hy
  subst this
  exact h.1 x (by simp)
 | a :: b :: r, h, hy => SS_last (r := b :: r) h.2 (by rw [← hy]; rfl)
theorem encFs_cons (x : Fd) (l : List Fd) : encFs (x :: l) = encF x ++ encFs l := rfl
theorem encF_bytes {x : Fd} (h : Small x) : W.Bytes (encF x) := by
 cases x with
 | mk a b c =>
  intro y hy
  rcases List.mem_cons.1 hy with rfl | hy
  ·rw [IntKind.wrap_u8]; omega
  ·have h1 := h.1
   have h2 := h.2
   exact ((W.varint_bytes (n := b.size) (by omega)).app ((W.bytesL_bytes b).app ((W.varint_bytes (n := c.size) (by omega)).app (W.bytesL_bytes c)))) y hy
theorem encFs_bytes : ∀ {l : List Fd}, (∀ x ∈ l, Small x) → W.Bytes (encFs l)
 | [], _ => fun x hx => (by cases hx)
 | x :: l, h => (encF_bytes (h x (by simp))).app (encFs_bytes fun y hy => h y (by simp [hy]))
theorem encC_bytes {l : List Fd} (hl : l.length ≤ 1000) (h : ∀ x ∈ l, Small x) : W.Bytes (encC l) := (W.varint_bytes (n := l.length) (by omega)).app (encFs_bytes h)
theorem fwd_loop {n : Nat} (hn : n ≤ 8) {rest : List Int} (hb : W.Bytes rest) (hl : rest.length ≤ 500000) : ∀ (m r : List Fd), r.length + m.length = n → Fit (r ++ m) →
  runL (paper_GetCard_L0_2_step (n : Int)) (encFs m ++ rest, 0, r) = some (.inr (rest, 0, r ++ m))
 | [], r, hr, hf => by
  have hr' : r.length = n := by simpa using hr
  rw [List.append_nil]
  refine runL_done ?_
  simp only [paper_GetCard_L0_2_step, W.err_eq, Option.bind_some, len_eq, size_u64 (show r.length ≤ 1000000 by omega), ltF_ (show ¬ r.length < n by omega), decide_true, cond_true, cond_false]
  rfl
 | x :: m, r, hr, hf => by
  have ih := fwd_loop hn hb hl m (r ++ [x]) (by simp at hr ⊢; omega) (by rw [List.append_assoc]; exact hf)
  have hlt : r.length < n := by simp at hr; omega
  have hox := hf.ok x (by simp)
  have hsx := hf.small x (by simp)
  have hsm : ∀ y ∈ m, Small y := fun y hy => hf.small y (by simp [hy])
  have hml := encFs_len hsm
  have hmb := encFs_bytes hsm
  have hm8 : m.length ≤ 8 := by simp at hr; omega
  cases x with
  | mk a b c =>
   obtain ⟨ha, hb12, hc40⟩ := okF_parts hox
   have hw8 : IntKind.u8.wrap a = a := byte_u8 (by omega)
   have hw64 : IntKind.i64.wrap a = a := byte_i64 (by omega)
   have hbl := W.bytesL_len c
   have hvl := W.varint_len (c.size : Int)
   have hrb : W.Bytes (encFs m ++ rest) := hmb.app hb
   have hrb2 : W.Bytes (W.varint (c.size : Int) ++ (bytesL c ++ (encFs m ++ rest))) := (W.varint_bytes (n := c.size) (by omega)).app ((W.bytesL_bytes c).app hrb)
   have t1 := text_fwd (s := b) (r := W.varint (c.size : Int) ++ (bytesL c ++ (encFs m ++ rest))) (most := 12) (by decide) hb12 hrb2 (by simp only [List.length_append]; omega)
   have t2 := text_fwd (s := c) (r := encFs m ++ rest) (most := 40) (by decide) hc40 hrb (by simp only [List.length_append]; omega)
   have c12 : ((12 : Nat) : Int) = 12 := rfl
   have c40 : ((40 : Nat) : Int) = 40 := rfl
   rw [c12] at t1
   rw [c40] at t2
   have hR : rightF (.mk a b c) = 0 := of_decide_eq_true hox
   have hf1 : fits (List.map E_card_Field.pv r ++ ([[(.int .i64 a), (.str b), (.str c)]] : List (List PV))).length = true := fits_of (by simp; omega)
   rw [show r ++ E_card_Field.mk a b c :: m = r ++ [E_card_Field.mk a b c] ++ m by simp, ← ih, encFs_cons, encF, hw8]
   refine runL_next ?_
   simp only [List.append_assoc, List.cons_append]
   simp only [paper_GetCard_L0_2_step, W.err_eq, W.fail_eq, Option.bind_some, len_eq, size_u64 (show r.length ≤ 1000000 by omega), ltT hlt, decide_true, cond_true, byte_fwd, t1, t2, hw64, right_go hsx, hR, hf1]
   by_cases hr0 : 0 < r.length
   ·obtain ⟨y, hy1, hy2⟩ := last_get hr0
    have hi : isub .i64 ((r.length : Nat) : Int) 1 = ((r.length - 1 : Nat) : Int) := isubN hr0 (by omega)
    have hd0 : decide ((0 : Int) < ((r.length : Nat) : Int)) = true := decide_eq_true (by omega)
    have hlast := SS_last hf.ss hy2
    simp only [hd0, hi, le0, ltT (show r.length - 1 < r.length by omega), Bool.and_self, cond_true, Int.toNat_natCast, Nat.zero_add, hy1, Option.bind_some]
    cases y with
    | mk ya yb yc =>
     simp only [cless_go, hlast, Option.bind_some, cond_true]
   ·have hd0 : decide ((0 : Int) < ((r.length : Nat) : Int)) = false := decide_eq_false (by omega)
    simp only [hd0, cond_false]
theorem get_fwd {c : List Fd} (hf : Fit c) (h8 : c.length ≤ 8) {rest : List Int} (hb : W.Bytes rest) (hl : rest.length ≤ 500000) : paper_GetCard (encC c ++ rest) 0 = some (c, rest, 0) := by
 have hvl := W.varint_len (c.length : Int)
 have hfl := encFs_len hf.small
 have hB : W.Bytes (encC c ++ rest) := (encC_bytes (by omega) hf.small).app hb
 unfold paper_GetCard
 have hd : W.dec 0 (encC c ++ rest) = some ((c.length : Int), (W.varint (c.length : Int)).length) := by
  unfold encC
  rw [List.append_assoc]
  exact W.dec_varint (by omega) _
 rw [W.in_num_eq hB (by unfold encC; simp only [List.length_append]; omega), hd]
 have hdrop : (encC c ++ rest).drop (W.varint (c.length : Int)).length = encFs c ++ rest := by
  unfold encC
  rw [List.append_assoc, List.drop_left]
 have hloop := fwd_loop (n := c.length) h8 hb hl c [] (by simp) hf
 have h9 : ¬ ((8 : Int) < (c.length : Int)) := by omega
 simp only [Option.bind_some, if_true, hdrop, decide_eq_false h9, cond_false]
 rw [hloop]
 simp only [Option.bind_some, W.err_eq, decide_true, cond_true, List.nil_append, take_len]
 rw [make_fit hf h8]; rfl
def rowL : E_L_card_Field → List Fd | .mk l => l
noncomputable def cardsE (l : List E_L_card_Field) : List Int := l.flatMap fun z => encC (cardV (rowL z))
noncomputable def cardsV (l : List E_L_card_Field) : List E_card_Card := l.map fun z => .mk (cardV (rowL z))
theorem card_fit (l : List Fd) : Fit (cardV l) := ⟨(cardV_is l).ss, (cardV_is l).ok, fun x hx => ((cardV_is l).short x hx).small⟩
theorem encC_len {c : List Fd} (hf : Fit c) (h8 : c.length ≤ 8) : (encC c).length ≤ 17000 := by
 have hvl := W.varint_len (c.length : Int)
 have hfl := encFs_len hf.small
 unfold encC
 rw [List.length_append]
 omega
theorem cardsE_len : ∀ l : List E_L_card_Field, (cardsE l).length ≤ 17000 * l.length
 | [] => Nat.le_refl _
 | z :: l => by
  have h1 := encC_len (card_fit (rowL z)) (cardV_is (rowL z)).few
  have h2 := cardsE_len l
  have : cardsE (z :: l) = encC (cardV (rowL z)) ++ cardsE l := rfl
  rw [this, List.length_append, List.length_cons]
  omega
theorem cardsE_bytes : ∀ l : List E_L_card_Field, W.Bytes (cardsE l)
 | [] => fun x hx => (by cases hx)
 | z :: l => (encC_bytes (by have := (cardV_is (rowL z)).few; omega) (card_fit (rowL z)).small).app (cardsE_bytes l)
theorem llen_eq (l : List E_L_card_Field) : (((List.map E_L_card_Field.pv l).length : Nat) : Int) = (l.length : Int) := by rw [List.length_map]
theorem clen_eq (l : List E_card_Card) : (((List.map E_card_Card.pv l).length : Nat) : Int) = (l.length : Int) := by rw [List.length_map]
end Go.Proofs.YteiikkpajcggfaaGreatDoor
