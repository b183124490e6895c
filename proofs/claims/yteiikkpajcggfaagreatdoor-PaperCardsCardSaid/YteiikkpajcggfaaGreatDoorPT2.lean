/- Cards as bytes, and back. Plain. -/
import Derived.Test.YteiikkpajcggfaaGreatDoorPT1
import Derived.Test.YteiikkpajcggfaaGreatDoorCT3
set_option linter.unusedVariables false
set_option linter.unusedSimpArgs false
namespace Go.Proofs.YteiikkpajcggfaaGreatDoor
open Go.Ev Go.Lib
def encF : Fd → List Int | .mk a b c => (IntKind.u8.wrap a) :: (W.varint (b.size : Int) ++ (bytesL b ++ (W.varint (c.size : Int) ++ bytesL c)))
def encFs (l : List Fd) : List Int := l.flatMap encF
def encC (l : List Fd) : List Int := W.varint (l.length : Int) ++ encFs l
theorem size_u64 {n : Nat} (h : n ≤ 1000000) : IntKind.u64.wrap (n : Int) = (n : Int) := IntWalk.u64_in _ ⟨by omega, by omega⟩
theorem text_w {q : List Int} {s : ByteArray} (hq : q.length ≤ 10000000) (hs : s.size ≤ 1000) : wire_Text q s = some (q ++ (W.varint (s.size : Int) ++ bytesL s)) := by
 have hv := W.varint_len (s.size : Int)
 have hb := W.bytesL_len s
 unfold wire_Text
 rw [size_u64 (by omega), W.num_eq (by omega) (by omega) (by omega)]
 simp only [Option.bind_some]
 rw [fits_of (by simp only [List.length_append]; omega), List.append_assoc]
 rfl
theorem encF_len {x : Fd} (h : Small x) : (encF x).length ≤ 2100 := by
 cases x with
 | mk a b c =>
  have h1 := W.varint_len (b.size : Int)
  have h2 := W.varint_len (c.size : Int)
  have h3 := W.bytesL_len b
  have h4 := W.bytesL_len c
  obtain ⟨h5, h6⟩ := h
  simp only [encF, List.length_cons, List.length_append]
  omega
theorem encFs_len : ∀ {l : List Fd}, (∀ x ∈ l, Small x) → (encFs l).length ≤ 2100 * l.length
 | [], _ => Nat.le_refl _
 | x :: l, h => by
  have h1 := encF_len (h x (by simp))
  have h2 := encFs_len (l := l) fun y hy => h y (by simp [hy])
  have : encFs (x :: l) = encF x ++ encFs l := rfl
  rw [this, List.length_append, List.length_cons]
  omega
theorem encFs_snoc (l : List Fd) (x : Fd) : encFs (l ++ [x]) = encFs l ++ encF x := by simp [encFs]
theorem fields_w {p : List Int} {l : List Fd} (hp : p.length ≤ 1000000) (hl : l.length ≤ 1000) (hs : ∀ x ∈ l, Small x) : paper_fields p l = some (p ++ encC l) := by
 unfold paper_fields
 rw [len_eq, size_u64 (by omega), W.num_eq (by omega) (by omega) (by omega)]
 have hv := W.varint_len (l.length : Int)
 simp only [Option.bind_some]
 have h := runL_iter (step := paper_fields_L0_step l ((l.length : Nat) : Int)) (fun k => ((k : Int), p ++ W.varint (l.length : Int) ++ encFs (l.take k))) (z := p ++ W.varint (l.length : Int) ++ encFs l) l.length (fun k hk => by
  obtain ⟨x, hx⟩ := getS hk
  have ht := take_s hx
  have hsx := hs x (mem_of_get hx)
  have hel := encFs_len (l := l.take k) fun y hy => hs y (List.mem_of_mem_take hy)
  rw [List.length_take] at hel
  have hql : (p ++ W.varint (l.length : Int) ++ encFs (l.take k)).length ≤ 4000000 := by simp only [List.length_append]; omega
  rw [ht, encFs_snoc, ← List.append_assoc (p ++ W.varint (l.length : Int))]
  generalize p ++ W.varint (l.length : Int) ++ encFs (l.take k) = q at *
  cases x with
  | mk a b c =>
   have hvb := W.varint_len (b.size : Int)
   have hbb := W.bytesL_len b
   have hb := hsx.1
   have hc := hsx.2
   have hf : fits (q ++ [IntKind.u8.wrap a]).length = true := fits_of (by simp; omega)
   simp only [paper_fields_L0_step, len_eq, ltT hk, le0, Int.toNat_natCast, hx, cond_true, Bool.and_self, Option.bind_some, hf, iaddN (show k ≤ 9223372036854775806 by omega)]
   rw [text_w (by simp only [List.length_append, List.length_singleton]; omega) hb]
   simp only [Option.bind_some]
   rw [text_w (by simp only [List.length_append, List.length_singleton]; omega) hc]
   simp only [Option.bind_some, encF, List.append_assoc, List.singleton_append, List.cons_append, List.nil_append]) (by
  simp only [paper_fields_L0_step, ltF_ (Nat.lt_irrefl _), List.take_length]; rfl)
 have e : ((0 : Nat) : Int) = 0 := rfl
 have e2 : encFs ([] : List Fd) = [] := rfl
 simp only [e, List.take_zero, e2, List.append_nil] at h
 rw [h]
 simp only [Option.bind_some, encC, List.append_assoc]
theorem put_w {p : List Int} {c : List Fd} (hp : p.length ≤ 1000000) (hl : c.length ≤ 1000) (hs : ∀ x ∈ c, Small x) : paper_PutCard p c = some (p ++ encC c) := by
 unfold paper_PutCard
 rw [fields_go hl]
 simp only [Option.bind_some, take_len]
 rw [fields_w hp hl hs]; rfl
theorem card_w {c : List Fd} (hl : c.length ≤ 1000) (hs : ∀ x ∈ c, Small x) : paper_Card c = some (encC c) := by
 unfold paper_Card
 rw [put_w (by simp) hl hs]; rfl
structure Fit (c : List Fd) : Prop where
 ss : SS ltF c
 ok : ∀ x ∈ c, okF x = true
 small : ∀ x ∈ c, Small x
theorem SS_snoc {x : Fd} : ∀ {l : List Fd}, SS ltF l → (∀ y, l.getLast? = some y → ltF y x = true) → SS ltF (l ++ [x])
 | [], _, _ => ⟨fun y hy => (by cases hy), trivial⟩
 | [a], h, hl => ⟨fun y hy => by
   have : y = x := by simpa using hy
   rw [this]; exact hl a rfl, fun y hy => (by cases hy), trivial⟩
 | a :: b :: l, h, hl => by
  have h2 := SS_snoc (x := x) (l := b :: l) h.2 (fun y hy => hl y (by rw [← hy]; rfl))
  refine ⟨fun y hy => ?_, h2⟩
  rcases List.mem_append.1 hy with hy | hy
  ·exact h.1 y hy
  ·have : y = x := by simpa using hy
   subst this
   have hbx : ltF b y = true := h2.1 y (by simp)
   exact ltF_tot.trans _ _ _ (h.1 b (by simp)) hbx
theorem make_fit {c : List Fd} (h : Fit c) (h8 : c.length ≤ 8) : card_Make c = some (c, 0) := by
 rw [make_go (by omega) h.small]
 unfold makeV
 rw [badF_none.2 h.ok]
 simp only
 rw [madeF_self h.ss, if_neg (by omega)]
theorem byte_i64 {v : Int} (h : 0 ≤ v ∧ v < 256) : IntKind.i64.wrap v = v := IntWalk.i64_in _ ⟨by omega, by omega⟩
theorem byte_u8 {v : Int} (h : 0 ≤ v ∧ v < 256) : IntKind.u8.wrap v = v := by
 rw [IntKind.wrap_u8]; omega
theorem last_get {r : List Fd} (h : 0 < r.length) : ∃ y, r[r.length - 1]? = some y ∧ r.getLast? = some y := by
 refine ⟨r[r.length - 1]'(by omega), List.getElem?_eq_getElem (by omega), ?_⟩
 rw [List.getLast?_eq_getElem?, List.getElem?_eq_getElem (by omega)]
theorem cless_go (a : Int) (b c : ByteArray) (d : Int) (e f : ByteArray) : card_Less a b c d e f = some (ltF (.mk a b c) (.mk d e f)) := by
 unfold card_Less
 rw [order_eq]
 simp only [Option.bind_some]
 congr 1
 cases h : ltF (.mk a b c) (.mk d e f) with
 | true => exact decide_eq_true ((lt_key _ _).2 h)
 | false => exact decide_eq_false (fun hn => by rw [(lt_key _ _).1 hn] at h; cases h)
theorem get_loop {N : Nat} (hN : 1000 < N) {p : List Int} (hb : W.Bytes p) (hp : p.length ≤ 1000000) {n : Nat} (hn : n ≤ 8) {hd : List Int} : ∀ (f at_ : Nat) (e : Int) (r : List Fd), n ≤ r.length + f → at_ ≤ p.length → r.length ≤ n → (∀ x ∈ r, Small x) → (e = 0 → Fit r ∧ p = hd ++ (encFs r ++ p.drop at_)) →
  ∃ (at2 : Nat) (e2 : Int) (r2 : List Fd), (∃ z, runL (paper_GetCard_L0_2_step (n : Int)) (p.drop at_, e, r) = some z ∧ (match z with | .inl (l, e', _, _, _, _) => l = p.drop at2 ∧ e' = e2 ∧ e2 ≠ 0 | .inr (l, e', r') => l = p.drop at2 ∧ e' = e2 ∧ (e2 = 0 → r' = r2))) ∧
   (∃ rr, runL (kinfolkref10_GetCard_L0_2_step N (n : Int) p) (((r.length : Nat) : Int), (at_ : Int), e, r.map toR) = some ((at2 : Int), e2, rr) ∧ (e2 = 0 → rr = r2.map toR)) ∧ at2 ≤ p.length ∧ (e2 = 0 → Fit r2 ∧ r2.length = n ∧ p = hd ++ (encFs r2 ++ p.drop at2)) := by
 intro f
 induction f with
 | zero =>
  intro at_ e r h1 h2 h3 h4 h5
  have hr : r.length = n := by omega
  refine ⟨at_, e, r, ⟨.inr (p.drop at_, e, r), runL_done ?_, rfl, rfl, fun _ => rfl⟩, ⟨r.map toR, runL_done ?_, fun _ => rfl⟩, h2, fun he => ⟨(h5 he).1, hr, (h5 he).2⟩⟩
  ·simp only [paper_GetCard_L0_2_step, W.err_eq, Option.bind_some, len_eq, size_u64 (show r.length ≤ 1000000 by omega), ltF_ (show ¬ r.length < n by omega)]
   cases decide (e = 0) <;> rfl
  ·simp only [kinfolkref10_GetCard_L0_2_step, ltF_ (show ¬ r.length < n by omega)]; rfl
 | succ f ih =>
  intro at_ e r h1 h2 h3 h4 h5
  by_cases hrn : r.length = n
  ·refine ⟨at_, e, r, ⟨.inr (p.drop at_, e, r), runL_done ?_, rfl, rfl, fun _ => rfl⟩, ⟨r.map toR, runL_done ?_, fun _ => rfl⟩, h2, fun he => ⟨(h5 he).1, hrn, (h5 he).2⟩⟩
   ·simp only [paper_GetCard_L0_2_step, W.err_eq, Option.bind_some, len_eq, size_u64 (show r.length ≤ 1000000 by omega), ltF_ (show ¬ r.length < n by omega)]
    cases decide (e = 0) <;> rfl
   ·simp only [kinfolkref10_GetCard_L0_2_step, ltF_ (show ¬ r.length < n by omega)]; rfl
  have hlt : r.length < n := by omega
  by_cases he : e = 0
  ·subst he
   obtain ⟨hfit, hpe⟩ := h5 rfl
   obtain ⟨v, at1, e1, b1, b2, b3, b4⟩ := W.byte_spec hp h2 0
   obtain ⟨s, at2, e2, t1, t2, t3, t4, t5⟩ := W.text_spec hb hp b3 e1 (most := 12) (by decide)
   obtain ⟨s2, at3, e3, u1, u2, u3, u4, u5⟩ := W.text_spec hb hp t3 e2 (most := 40) (by decide)
   have c12 : ((12 : Nat) : Int) = 12 := rfl
   have c40 : ((40 : Nat) : Int) = 40 := rfl
   rw [c12] at t1 t2
   rw [c40] at u1 u2
   have hf1 : fits (List.map E_card_Field.pv r ++ ([[(.int .i64 (IntKind.i64.wrap v)), (.str s), (.str s2)]] : List (List PV))).length = true := fits_of (by simp; omega)
   have hf2 : fits (List.map E_kinfolkref09_Field.pv (r.map toR) ++ ([[(.int .i64 (IntKind.i64.wrap v)), (.str s), (.str s2)]] : List (List PV))).length = true := fits_of (by simp; omega)
   have hk1 : iadd .u64 ((r.length : Nat) : Int) 1 = ((r.length + 1 : Nat) : Int) := by
    unfold iadd
    rw [IntWalk.u64_in _ ⟨by omega, by omega⟩]; omega
   have hsm : Small (.mk (IntKind.i64.wrap v) s s2) := ⟨t4, u4⟩
   have hlz : (r ++ [E_card_Field.mk (IntKind.i64.wrap v) s s2]).length = r.length + 1 := by simp
   have hmz : (r ++ [E_card_Field.mk (IntKind.i64.wrap v) s s2]).map toR = r.map toR ++ [E_kinfolkref09_Field.mk (IntKind.i64.wrap v) s s2] := by rw [List.map_append]; rfl
   have hs4 : ∀ x ∈ r ++ [E_card_Field.mk (IntKind.i64.wrap v) s s2], Small x := fun x hx => by
    rcases List.mem_append.1 hx with hx | hx
    ·exact h4 x hx
    ·have : x = E_card_Field.mk (IntKind.i64.wrap v) s s2 := by simpa using hx
     rw [this]; exact hsm
   by_cases h3e : e3 = 0
   ·obtain ⟨he2, u6, u7⟩ := u5 h3e
    obtain ⟨he1, t6, t7⟩ := t5 he2
    obtain ⟨_, b5, b6, b7⟩ := b4 he1
    have hv : 0 ≤ v ∧ v < 256 := by rw [b7]; exact hb.at b5
    have hvw := byte_i64 hv
    have henc : p.drop at_ = encF (.mk (IntKind.i64.wrap v) s s2) ++ p.drop at3 := by
     have hd1 := W.drop_cons b5
     rw [← b7, ← b6, t7, u7] at hd1
     rw [hd1, hvw, encF, byte_u8 hv]
     simp only [List.cons_append, List.append_assoc]
    have hpe2 : p = hd ++ (encFs (r ++ [E_card_Field.mk (IntKind.i64.wrap v) s s2]) ++ p.drop at3) := by
     rw [encFs_snoc, List.append_assoc, ← henc]; exact hpe
    have main : ∃ e4 : Int, paper_GetCard_L0_2_step (n : Int) (p.drop at_, 0, r) = some (.inl (p.drop at3, e4, r ++ [E_card_Field.mk (IntKind.i64.wrap v) s s2])) ∧
      kinfolkref10_GetCard_L0_2_step N (n : Int) p (((r.length : Nat) : Int), (at_ : Int), 0, r.map toR) = some (.inl (((r.length + 1 : Nat) : Int), (at3 : Int), e4, (r ++ [E_card_Field.mk (IntKind.i64.wrap v) s s2]).map toR)) ∧
      (e4 = 0 → Fit (r ++ [E_card_Field.mk (IntKind.i64.wrap v) s s2])) := by
     subst h3e
     rw [hmz]
     simp only [paper_GetCard_L0_2_step, kinfolkref10_GetCard_L0_2_step, W.err_eq, W.fail_eq, Option.bind_some, len_eq, glen_eq, List.length_map, size_u64 (show r.length ≤ 1000000 by omega), ltT hlt, cond_true, decide_true, b1, b2, t1, t2, u1, u2, right_go hsm, rright_go hN hsm]
     generalize hR : rightF (.mk (IntKind.i64.wrap v) s s2) = R
     by_cases hr0 : 0 < r.length
     ·obtain ⟨y, hy1, hy2⟩ := last_get hr0
      have hi : isub .i64 ((r.length : Nat) : Int) 1 = ((r.length - 1 : Nat) : Int) := isubN hr0 (by omega)
      have hgy : (r.map toR)[r.length - 1]? = some (toR y) := by rw [List.getElem?_map, hy1]; rfl
      have hd0 : decide ((0 : Int) < ((r.length : Nat) : Int)) = true := decide_eq_true (by omega)
      have hys : Small y := h4 y (mem_of_get hy1)
      simp only [hd0, hi, le0, ltT (show r.length - 1 < r.length by omega), Bool.and_self, cond_true, Int.toNat_natCast, Nat.zero_add, hy1, hgy, Option.bind_some]
      cases y with
      | mk ya yb yc =>
       simp only [toR]
       have hl1 : card_Less ya yb yc (IntKind.i64.wrap v) s s2 = some (ltF (.mk ya yb yc) (.mk (IntKind.i64.wrap v) s s2)) := cless_go _ _ _ _ _ _
       have hl2 : kinfolkref09_Less ya yb yc (IntKind.i64.wrap v) s s2 = some (ltF (.mk ya yb yc) (.mk (IntKind.i64.wrap v) s s2)) := rless_go hys hsm
       rw [hl1, hl2]
       simp only [Option.bind_some, hf1, hf2, cond_true, hk1]
       by_cases hR0 : R = 0
       ·subst hR0
        simp only [decide_true, cond_true]
        cases hlt2 : ltF (.mk ya yb yc) (.mk (IntKind.i64.wrap v) s s2) with
        | true =>
         refine ⟨0, rfl, rfl, fun _ => ⟨SS_snoc hfit.ss (fun y hy => ?_), fun x hx => ?_, hs4⟩⟩
         ·rw [hy2] at hy
          cases hy; exact hlt2
         ·rcases List.mem_append.1 hx with hx | hx
          ·exact hfit.ok x hx
          ·have : x = E_card_Field.mk (IntKind.i64.wrap v) s s2 := by simpa using hx
           rw [this]; unfold okF; exact decide_eq_true hR
        | false => exact ⟨6, rfl, rfl, fun h => by omega⟩
       ·simp only [decide_eq_false hR0, cond_false, if_true, if_neg hR0]
        refine ⟨R, ?_, rfl, fun h => absurd h hR0⟩
        cases ltF (.mk ya yb yc) (.mk (IntKind.i64.wrap v) s s2) <;> rfl
     ·have hd0 : decide ((0 : Int) < ((r.length : Nat) : Int)) = false := decide_eq_false (by omega)
      have hnil : r = [] := List.length_eq_zero_iff.1 (by omega)
      simp only [hd0, cond_false, hf1, hf2, cond_true, hk1]
      by_cases hR0 : R = 0
      ·subst hR0
       simp only [decide_true, cond_true]
       refine ⟨0, rfl, rfl, fun _ => ⟨SS_snoc hfit.ss (fun y hy => ?_), fun x hx => ?_, hs4⟩⟩
       ·rw [hnil] at hy; cases hy
       ·rcases List.mem_append.1 hx with hx | hx
        ·exact hfit.ok x hx
        ·have : x = E_card_Field.mk (IntKind.i64.wrap v) s s2 := by simpa using hx
         rw [this]; unfold okF; exact decide_eq_true hR
      ·simp only [decide_eq_false hR0, cond_false, if_true]
       exact ⟨R, rfl, rfl, fun h => absurd h hR0⟩
    obtain ⟨e4, m1, m2, m3⟩ := main
    obtain ⟨at5, e5, r5, ⟨z, z1, z2⟩, ⟨rr, z3, z4⟩, z5, z6⟩ := ih at3 e4 (r ++ [E_card_Field.mk (IntKind.i64.wrap v) s s2]) (by rw [hlz]; omega) u3 (by rw [hlz]; omega) hs4 (fun h => ⟨m3 h, hpe2⟩)
    refine ⟨at5, e5, r5, ⟨z, by rw [runL_next m1]; exact z1, z2⟩, ⟨rr, ?_, z4⟩, z5, z6⟩
    rw [runL_next m2]
    rw [hlz] at z3
    exact z3
   ·refine ⟨at3, e3, r, ⟨.inl (p.drop at3, e3, IntKind.i64.wrap v, s, s2, r), runL_done ?_, rfl, rfl, h3e⟩, ⟨r.map toR ++ [E_kinfolkref09_Field.mk (IntKind.i64.wrap v) s s2], ?_, fun h => absurd h h3e⟩, u3, fun h => absurd h h3e⟩
    ·simp only [paper_GetCard_L0_2_step, W.err_eq, Option.bind_some, len_eq, size_u64 (show r.length ≤ 1000000 by omega), ltT hlt, cond_true, decide_true, b1, t1, u1, decide_eq_false h3e, cond_false]
    ·have m2 : kinfolkref10_GetCard_L0_2_step N (n : Int) p (((r.length : Nat) : Int), (at_ : Int), 0, r.map toR) = some (.inl (((r.length + 1 : Nat) : Int), (at3 : Int), e3, r.map toR ++ [E_kinfolkref09_Field.mk (IntKind.i64.wrap v) s s2])) := by
      simp only [kinfolkref10_GetCard_L0_2_step, Option.bind_some, ltT hlt, cond_true, decide_true, b2, t2, u2, decide_eq_false h3e, cond_false, hf2, hk1]
     rw [runL_next m2]
     refine runL_done ?_
     simp only [kinfolkref10_GetCard_L0_2_step, decide_eq_false h3e]
     cases decide (((r.length + 1 : Nat) : Int) < (n : Int)) <;> rfl
  ·refine ⟨at_, e, r, ⟨.inr (p.drop at_, e, r), runL_done ?_, rfl, rfl, fun h => absurd h he⟩, ⟨r.map toR, runL_done ?_, fun h => absurd h he⟩, h2, fun h => absurd h he⟩
   ·simp only [paper_GetCard_L0_2_step, W.err_eq, Option.bind_some, decide_eq_false he]; rfl
   ·simp only [kinfolkref10_GetCard_L0_2_step, decide_eq_false he]
    cases decide (((r.length : Nat) : Int) < (n : Int)) <;> rfl
end Go.Proofs.YteiikkpajcggfaaGreatDoor
