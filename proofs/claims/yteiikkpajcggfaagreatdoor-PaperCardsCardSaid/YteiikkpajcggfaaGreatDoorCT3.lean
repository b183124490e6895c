/- Right fields, rows put in their order: the program's and the document's, plain. -/
import Derived.Test.YteiikkpajcggfaaGreatDoorCT2
set_option linter.unusedVariables false
set_option linter.unusedSimpArgs false
namespace Go.Proofs.YteiikkpajcggfaaGreatDoor
open Go.Ev Go.Lib
def chkC (l : List UInt8) (most : Int) : Int := if most < (l.length : Int) then 9 else if chk l = true then 0 else 7
def rightL (f : Int) (b c : List UInt8) : Int :=
 if f < 1 ∨ 6 < f then 1 else if chkC b 12 = 0 then (if chkC c 40 = 0 then (if c = [] then 7 else if foldL c = c then (if f = 2 then (if phoneL c = true then 0 else 7) else if f = 3 then (if mailL c = true then 0 else 7) else 0) else 7) else chkC c 40) else chkC b 12
theorem kind_nil (f : Int) : decide (kindNm f = (⟨#[]⟩ : ByteArray)) = decide (f < 1 ∨ 6 < f) := by
 by_cases h : f < 1 ∨ 6 < f
 ·rw [decide_eq_true h]
  apply decide_eq_true
  unfold kindNm
  split <;> first | omega | rfl
 ·rw [decide_eq_false h]
  apply decide_eq_false
  have : f = 1 ∨ f = 2 ∨ f = 3 ∨ f = 4 ∨ f = 5 ∨ f = 6 := by omega
  rcases this with rfl | rfl | rfl | rfl | rfl | rfl <;> (intro e; have := congrArg ByteArray.size e; revert this; decide)
theorem nil_mk : (⟨#[]⟩ : ByteArray) = mkS [] := rfl
theorem right_goL {f : Int} {b c : List UInt8} (hb : b.length ≤ 1000) (hc : c.length ≤ 1000) : card_Field_Right f (mkS b) (mkS c) = some (rightL f b c) := by
 unfold card_Field_Right card_KindName rightL
 simp only [Option.bind_some]
 rw [kind_nil, nil_mk, check_go 12 hb, check_go 40 hc, fold_go hc, phone_go hc, mail_go hc]
 simp only [Option.bind_some, mkS_inj]
 change _ = some (if f < 1 ∨ 6 < f then 1 else if chkC b 12 = 0 then _ else _)
 rw [show (if 12 < (b.length : Int) then (9 : Int) else if chk b = true then 0 else 7) = chkC b 12 from rfl, show (if 40 < (c.length : Int) then (9 : Int) else if chk c = true then 0 else 7) = chkC c 40 from rfl]
 by_cases h1 : f < 1 ∨ 6 < f
 ·rw [decide_eq_true h1, if_pos h1]; rfl
 rw [decide_eq_false h1, if_neg h1]
 by_cases h2 : chkC b 12 = 0
 ·rw [decide_eq_true h2, if_pos h2]
  by_cases h3 : chkC c 40 = 0
  ·rw [decide_eq_true h3, if_pos h3]
   by_cases h4 : c = []
   ·simp [h4]
   ·by_cases h5 : foldL c = c
    ·by_cases h6 : f = 2
     ·subst h6; cases h7 : phoneL c <;> simp [h4, h5]
     ·by_cases h8 : f = 3
      ·subst h8; cases h7 : mailL c <;> simp [h4, h5]
      ·simp [h4, h5, h6, h8]
    ·simp [h4, h5]
  ·rw [decide_eq_false h3, if_neg h3]; rfl
 ·rw [decide_eq_false h2, if_neg h2]; rfl
theorem rright_goL {N : Nat} {f : Int} {b c : List UInt8} (hb : b.length ≤ 1000) (hc : c.length ≤ 1000) (hN : 1000 < N) : kinfolkref09_Right N f (mkS b) (mkS c) = some (rightL f b c) := by
 obtain ⟨m, h1, h2, _⟩ := rfold_go N c (by omega) hc
 unfold kinfolkref09_Right rightL
 rw [nil_mk, rcheck_go 12 hb, rcheck_go 40 hc, h1, rphone_go hc, rmail_go hc, ← h2]
 simp only [Option.bind_some, mkS_inj]
 rw [show (if 12 < (b.length : Int) then (9 : Int) else if chk b = true then 0 else 7) = chkC b 12 from rfl, show (if 40 < (c.length : Int) then (9 : Int) else if chk c = true then 0 else 7) = chkC c 40 from rfl]
 by_cases h1 : f < 1
 ·rw [decide_eq_true h1, if_pos (.inl h1)]; rfl
 by_cases h1' : 6 < f
 ·rw [decide_eq_false h1, decide_eq_true h1', if_pos (.inr h1')]; rfl
 rw [decide_eq_false h1, decide_eq_false h1', if_neg (by omega)]
 by_cases h2 : chkC b 12 = 0
 ·rw [decide_eq_true h2, if_pos h2]
  by_cases h3 : chkC c 40 = 0
  ·rw [decide_eq_true h3, if_pos h3]
   by_cases h4 : c = []
   ·simp [h4]
   ·by_cases h5 : foldL c = c
    ·by_cases h6 : f = 2
     ·subst h6; cases h7 : phoneL c <;> simp [h4, h5]
     ·by_cases h8 : f = 3
      ·subst h8; cases h7 : mailL c <;> simp [h4, h5]
      ·simp [h4, h5, h6, h8]
    ·simp [h4, h5]
  ·rw [decide_eq_false h3, if_neg h3]; rfl
 ·rw [decide_eq_false h2, if_neg h2]; rfl
def rightF : Fd → Int | .mk a b c => rightL a b.data.toList c.data.toList
def Small : Fd → Prop | .mk _ b c => b.size ≤ 1000 ∧ c.size ≤ 1000
theorem size_list (b : ByteArray) : b.data.toList.length = b.size := Array.length_toList
theorem right_go {a : Int} {b c : ByteArray} (h : Small (.mk a b c)) : card_Field_Right a b c = some (rightF (.mk a b c)) := by
 have := right_goL (f := a) (b := b.data.toList) (c := c.data.toList) (by rw [size_list]; exact h.1) (by rw [size_list]; exact h.2)
 rwa [mkS_of, mkS_of] at this
theorem rright_go {N : Nat} (hN : 1000 < N) {a : Int} {b c : ByteArray} (h : Small (.mk a b c)) : kinfolkref09_Right N a b c = some (rightF (.mk a b c)) := by
 have := rright_goL (N := N) (f := a) (b := b.data.toList) (c := c.data.toList) (by rw [size_list]; exact h.1) (by rw [size_list]; exact h.2) hN
 rwa [mkS_of, mkS_of] at this
theorem chkC_ne (l : List UInt8) (m : Int) : chkC l m ≠ 8 := by
 unfold chkC
 split
 ·simp
 ·split <;> simp
theorem rightF_ne (x : Fd) : rightF x ≠ 8 := by
 cases x with
 | mk a b c =>
  show rightL a _ _ ≠ 8
  have h1 := chkC_ne b.data.toList 12
  have h2 := chkC_ne c.data.toList 40
  unfold rightL
  repeat' split
  all_goals first | omega | assumption
def okF (x : Fd) : Bool := decide (rightF x = 0)
def badF (l : List Fd) : Option Int := (l.find? fun x => !(okF x)).map rightF
theorem find_of {α : Type} {p : α → Bool} : ∀ {l : List α} {i : Nat} {x : α}, l[i]? = some x → p x = true → (∀ j y, j < i → l[j]? = some y → p y = false) → l.find? p = some x
 | [], i, x, h, _, _ => by simp at h
 | a :: l, 0, x, h, hp, _ => by simp at h; subst h; rw [List.find?_cons_of_pos hp]
 | a :: l, i + 1, x, h, hp, hb => by
  rw [List.find?_cons_of_neg (by rw [hb 0 a (by omega) rfl]; simp)]
  exact find_of (by simpa using h) hp fun j y hj hy => hb (j + 1) y (by omega) (by simpa using hy)
theorem find_none {α : Type} {p : α → Bool} {l : List α} (h : ∀ x ∈ l, p x = false) : l.find? p = none := List.find?_eq_none.2 fun x hx => by rw [h x hx]; simp
theorem badF_none {l : List Fd} : badF l = none ↔ ∀ x ∈ l, okF x = true := by
 unfold badF
 rw [Option.map_eq_none_iff, List.find?_eq_none]
 constructor
 ·intro h x hx; have := h x hx; simpa using this
 ·intro h x hx; rw [h x hx]; simp
theorem badF_ne {l : List Fd} {n : Int} (h : badF l = some n) : n ≠ 0 ∧ n ≠ 8 := by
 unfold badF at h
 rw [Option.map_eq_some_iff] at h
 obtain ⟨x, h1, h2⟩ := h
 have := List.find?_some h1
 unfold okF at this
 rw [← h2]
 exact ⟨by simpa using this, rightF_ne x⟩
noncomputable def makeV (l : List Fd) : List Fd × Int := match badF l with
 | some n => ([], n)
 | none => if 8 < (madeF l).length then ([], 8) else (madeF l, 0)
theorem len_eq (l : List Fd) : (((List.map E_card_Field.pv l).length : Nat) : Int) = (l.length : Int) := by rw [List.length_map]
theorem make_go {l : List Fd} (hl : l.length ≤ 1000) (hs : ∀ x ∈ l, Small x) : card_Make l = some (makeV l) := by
 have h := first_go (p := fun x => !(okF x)) (s := l) (a := fun _ x => rightF x) (b := ()) (step := card_Make_L0_step l l (((List.map E_card_Field.pv l)).length : Int)) (fun k x hx => by
  have hk := lt_of_get hx
  cases x with
  | mk a b c =>
   simp only [card_Make_L0_step, len_eq, ltT hk, le0, Int.toNat_natCast, hx, cond_true, Bool.and_self, Option.bind_some, right_go (hs _ (mem_of_get hx)), iaddN (show k ≤ 9223372036854775806 by omega)]
   unfold okF
   by_cases h : rightF (.mk a b c) = 0
   ·simp [h]
   ·simp [h]) (by simp only [card_Make_L0_step, len_eq, ltF_ (Nat.lt_irrefl _)]; rfl)
 unfold card_Make makeV
 rcases h with ⟨i, x, h1, h2, h3, h4⟩ | ⟨h1, h2⟩
 ·rw [h4]
  have : badF l = some (rightF x) := by unfold badF; rw [find_of h1 h2 h3]; rfl
  rw [this]; rfl
 ·rw [h2]
  have : badF l = none := by unfold badF; rw [find_none h1]; rfl
  rw [this]
  simp only [Option.bind_some, made_go hl, card_Card_Len, len_eq]
  by_cases h8 : 8 < (madeF l).length
  ·rw [if_pos h8, decide_eq_true (show (8 : Int) < ((madeF l).length : Int) by omega)]; rfl
  ·rw [if_neg h8, decide_eq_false (show ¬ (8 : Int) < ((madeF l).length : Int) by omega)]; rfl
theorem fields_go {l : List Fd} (hl : l.length ≤ 1000) : card_Card_Fields l = some () := by
 unfold card_Card_Fields slices_Clone_card_Field
 rw [if_pos (fits_of (by omega))]; rfl
theorem glen_eq (l : List Gd) : (((List.map E_kinfolkref09_Field.pv l).length : Nat) : Int) = (l.length : Int) := by rw [List.length_map]
theorem take_len (l : List Fd) : List.take ((List.map E_card_Field.pv l)).length l = l := by rw [List.length_map, List.take_length]
theorem gtake_len (l : List Gd) : List.take ((List.map E_kinfolkref09_Field.pv l)).length l = l := by rw [List.length_map, List.take_length]
theorem own_go {l : List Fd} (hl : l.length ≤ 1000) : kinfolklaw10_own l = some (l.map toR) := by
 unfold kinfolklaw10_own
 have h := runL_iter (step := kinfolklaw10_own_L0_2_step l (((List.map E_card_Field.pv l)).length : Int)) (fun k => ((k : Int), (l.take k).map toR)) (z := l.map toR) l.length (fun k hk => by
  obtain ⟨x, hx⟩ := getS hk
  have ht := take_s hx
  cases x with
  | mk a b c =>
   have hf : fits (List.map E_kinfolkref09_Field.pv ((l.take k).map toR) ++ ([[(.int .i64 a), (.str b), (.str c)]] : List (List PV))).length = true := fits_of (by simp; omega)
   simp only [kinfolklaw10_own_L0_2_step, len_eq, ltT hk, le0, Int.toNat_natCast, hx, cond_true, Bool.and_self, Option.bind_some, iaddN (show k ≤ 9223372036854775806 by omega), hf]
   rw [ht, List.map_append]; rfl) (by simp only [kinfolklaw10_own_L0_2_step, len_eq, ltF_ (Nat.lt_irrefl _), List.take_length]; rfl)
 have e : ((0 : Nat) : Int) = 0 := rfl
 simp only [List.take_zero, List.map_nil, e] at h
 rw [h]; rfl
def cutS (s : ByteArray) : ByteArray := s.extract 0 ((if 60 < (s.size : Int) then 60 else (s.size : Int))).toNat
theorem cutS_size (s : ByteArray) : (cutS s).size ≤ 60 := by
 unfold cutS
 rw [ByteArray.size_extract]
 split <;> omega
theorem cutS_id {s : ByteArray} (h : s.size ≤ 60) : cutS s = s := by
 unfold cutS
 rw [if_neg (by omega), Int.toNat_natCast]
 exact ByteArray.extract_zero_size
def cutF : Fd → Fd | .mk a b c => .mk a (cutS b) (cutS c)
def Short : Fd → Prop | .mk _ b c => b.size ≤ 60 ∧ c.size ≤ 60
theorem cutF_short (x : Fd) : Short (cutF x) := by cases x; exact ⟨cutS_size _, cutS_size _⟩
theorem Short.small {x : Fd} (h : Short x) : Small x := by cases x; exact ⟨Nat.le_trans h.1 (by decide), Nat.le_trans h.2 (by decide)⟩
theorem cutF_id {x : Fd} (h : Short x) : cutF x = x := by cases x; rw [cutF, cutS_id h.1, cutS_id h.2]
def fewV (l : List Fd) : List Fd := (l.take 14).map cutF
theorem few_go {l : List Fd} (hl : l.length ≤ 9223372036854775807) : kinfolklaw10_few l = some (fewV l) := by
 unfold kinfolklaw10_few
 have h := runL_iter (step := kinfolklaw10_few_L0_2_step l (((List.map E_card_Field.pv l)).length : Int)) (fun k => ((k : Int), ((l.take k).take 14).map cutF)) (z := fewV l) l.length (fun k hk => by
  obtain ⟨x, hx⟩ := getS hk
  have ht := take_s hx
  cases x with
  | mk a b c =>
   have hb : (0 : Int) ≤ (if 60 < (b.size : Int) then 60 else (b.size : Int)) ∧ (if 60 < (b.size : Int) then 60 else (b.size : Int)) ≤ (b.size : Int) := by split <;> omega
   have hc : (0 : Int) ≤ (if 60 < (c.size : Int) then 60 else (c.size : Int)) ∧ (if 60 < (c.size : Int) then 60 else (c.size : Int)) ≤ (c.size : Int) := by split <;> omega
   have z0 : decide ((0 : Int) ≤ 0) = true := rfl
   by_cases h14 : k < 14
   ·have hf : fits (List.map E_card_Field.pv (((l.take k).take 14).map cutF) ++ ([[(.int .i64 a), (.str (b.extract 0 ((if 60 < (b.size : Int) then 60 else (b.size : Int))).toNat)), (.str (c.extract 0 ((if 60 < (c.size : Int) then 60 else (c.size : Int))).toNat))]] : List (List PV))).length = true := fits_of (by simp; omega)
    simp only [kinfolklaw10_few_L0_2_step, len_eq, ltT hk, le0, Int.toNat_natCast, hx, cond_true, Bool.and_self, Option.bind_some, iaddN (show k ≤ 9223372036854775806 by omega), decide_eq_true (show (k : Int) < 14 by omega), decide_eq_true hb.1, decide_eq_true hb.2, decide_eq_true hc.1, decide_eq_true hc.2, z0, hf]
    rw [ht]
    rw [List.take_of_length_le (l := l.take k) (by rw [List.length_take]; omega), List.take_of_length_le (l := l.take k ++ [E_card_Field.mk a b c]) (by simp; omega), List.map_append]
    rfl
   ·simp only [kinfolklaw10_few_L0_2_step, len_eq, ltT hk, le0, Int.toNat_natCast, hx, cond_true, cond_false, Bool.and_self, Option.bind_some, iaddN (show k ≤ 9223372036854775806 by omega), decide_eq_false (show ¬ (k : Int) < 14 by omega)]
    rw [List.take_take, List.take_take, show min 14 (k + 1) = min 14 k by omega]) (by
   simp only [kinfolklaw10_few_L0_2_step, len_eq, ltF_ (Nat.lt_irrefl _), List.take_length]; rfl)
 have e : ((0 : Nat) : Int) = 0 := rfl
 simp only [List.take_zero, List.take_nil, List.map_nil, e] at h
 rw [h]; rfl
theorem fewV_len (l : List Fd) : (fewV l).length ≤ 14 := by unfold fewV; rw [List.length_map, List.length_take]; omega
theorem fewV_short (l : List Fd) : ∀ x ∈ fewV l, Short x := by
 intro x hx
 obtain ⟨y, _, rfl⟩ := List.mem_map.1 hx
 exact cutF_short y
theorem fewV_id {l : List Fd} (hl : l.length ≤ 14) (h : ∀ x ∈ l, Short x) : fewV l = l := by
 unfold fewV
 rw [List.take_of_length_le hl]
 have : ∀ m : List Fd, (∀ x ∈ m, Short x) → m.map cutF = m := by
  intro m
  induction m with
  | nil => intro _; rfl
  | cons a m ih => intro hm; rw [List.map_cons, cutF_id (hm a (by simp)), ih fun x hx => hm x (by simp [hx])]
 exact this l h
def rightsV (l : List Fd) : List Fd := (l.filter okF).take 8
theorem rights_go {r : List Fd} (hl : r.length ≤ 1000) (hs : ∀ x ∈ r, Small x) : runL (kinfolklaw10_made_L0_2_step (((List.map E_card_Field.pv r)).length : Int) r) (0, []) = some (rightsV r) := by
 have h := runL_iter (step := kinfolklaw10_made_L0_2_step (((List.map E_card_Field.pv r)).length : Int) r) (fun k => ((k : Int), rightsV (r.take k))) (z := rightsV r) r.length (fun k hk => by
  obtain ⟨x, hx⟩ := getS hk
  have ht := take_s hx
  have hr : (rightsV (r.take k)).length ≤ 8 := by unfold rightsV; rw [List.length_take]; omega
  cases x with
  | mk a b c =>
   have hf : fits (List.map E_card_Field.pv (rightsV (r.take k)) ++ ([[(.int .i64 a), (.str b), (.str c)]] : List (List PV))).length = true := fits_of (by simp; omega)
   simp only [kinfolklaw10_made_L0_2_step, len_eq, ltT hk, le0, Int.toNat_natCast, Nat.zero_add, hx, cond_true, Bool.and_self, Option.bind_some, iaddN (show k ≤ 9223372036854775806 by omega), right_go (hs _ (mem_of_get hx)), hf]
   by_cases h0 : rightF (.mk a b c) = 0
   ·have hok : okF (.mk a b c) = true := decide_eq_true h0
    rw [decide_eq_true h0, cond_true]
    by_cases h8 : (rightsV (r.take k)).length < 8
    ·rw [decide_eq_true (show ((rightsV (r.take k)).length : Int) < 8 by omega), cond_true]
     have h9 : ((r.take k).filter okF).length < 8 := by unfold rightsV at h8; rw [List.length_take] at h8; omega
     rw [ht]
     unfold rightsV
     rw [List.filter_append, List.filter_cons_of_pos hok, List.filter_nil, List.take_of_length_le (l := List.filter okF (List.take k r)) (Nat.le_of_lt h9), List.take_of_length_le (l := List.filter okF (List.take k r) ++ [E_card_Field.mk a b c]) (by rw [List.length_append]; simp; omega)]
    ·rw [decide_eq_false (show ¬ ((rightsV (r.take k)).length : Int) < 8 by omega), cond_false]
     have h9 : 8 ≤ ((r.take k).filter okF).length := by unfold rightsV at h8; rw [List.length_take] at h8; omega
     rw [ht]
     unfold rightsV
     rw [List.filter_append, List.take_append_of_le_length h9]
   ·have hok : ¬ okF (.mk a b c) = true := by unfold okF; rw [decide_eq_true_eq]; exact h0
    rw [decide_eq_false h0, cond_false, ht]
    unfold rightsV
    rw [List.filter_append, List.filter_cons_of_neg hok, List.filter_nil, List.append_nil]) (by
   simp only [kinfolklaw10_made_L0_2_step, len_eq, ltF_ (Nat.lt_irrefl _), List.take_length]; rfl)
 have e : ((0 : Nat) : Int) = 0 := rfl
 have e2 : rightsV (r.take 0) = [] := by rw [List.take_zero]; rfl
 simp only [e2, e] at h
 exact h
theorem rightsV_len (l : List Fd) : (rightsV l).length ≤ 8 := by unfold rightsV; rw [List.length_take]; omega
theorem mem_rightsV {l : List Fd} {x : Fd} (h : x ∈ rightsV l) : x ∈ l ∧ okF x = true := List.mem_filter.1 (List.mem_of_mem_take h)
theorem before_go {a b : ByteArray} (ha : a.size ≤ 1000) (hb : b.size ≤ 1000) : kinfolkref09_before a b = some (ltB a.data.toList b.data.toList) := by
 have key : ∀ (f i : Nat), a.size ≤ i + f → i ≤ a.size → i ≤ b.size → ltB a.data.toList b.data.toList = ltB (a.data.toList.drop i) (b.data.toList.drop i) →
   (∃ z, runL (kinfolkref09_before_L0_step a b) (i : Int) = some z ∧ (match z with | .inl v => v = ltB a.data.toList b.data.toList | .inr _ => decide (a.size < b.size) = ltB a.data.toList b.data.toList)) := by
  intro f
  induction f with
  | zero =>
   intro i h1 h2 h3 h4
   have hi : i = a.size := by omega
   refine ⟨.inr (), runL_done ?_, ?_⟩
   ·simp only [kinfolkref09_before_L0_step, ltF_ (show ¬ i < a.size by omega)]; rfl
   ·show decide _ = _
    rw [h4, List.drop_eq_nil_of_le (by rw [size_list]; omega)]
    cases hd : b.data.toList.drop i with
    | nil =>
     have := congrArg List.length hd
     rw [List.length_drop, size_list, List.length_nil] at this
     exact (decide_eq_false (by omega)).trans rfl
    | cons y m =>
     have := congrArg List.length hd
     rw [List.length_drop, size_list, List.length_cons] at this
     exact (decide_eq_true (by omega)).trans rfl
  | succ f ih =>
   intro i h1 h2 h3 h4
   by_cases hi : i = a.size
   ·refine ⟨.inr (), runL_done ?_, ?_⟩
    ·simp only [kinfolkref09_before_L0_step, ltF_ (show ¬ i < a.size by omega)]; rfl
    ·show decide _ = _
     rw [h4, List.drop_eq_nil_of_le (by rw [size_list]; omega)]
     cases hd : b.data.toList.drop i with
     | nil =>
      have := congrArg List.length hd
      rw [List.length_drop, size_list, List.length_nil] at this
      exact (decide_eq_false (by omega)).trans rfl
     | cons y m =>
      have := congrArg List.length hd
      rw [List.length_drop, size_list, List.length_cons] at this
      exact (decide_eq_true (by omega)).trans rfl
   ·have hia : i < a.size := by omega
    have da : a.data.toList.drop i = a.data.getD i 0 :: a.data.toList.drop (i + 1) := by
     rw [List.drop_eq_getElem_cons (by rw [size_list]; exact hia)]
     congr 1
     have hia' : i < a.data.size := hia
     rw [Array.getD_eq_getD_getElem?, Array.getElem?_eq_getElem hia']; simp
    by_cases hib : i = b.size
    ·refine ⟨.inr (), runL_done ?_, ?_⟩
     ·simp only [kinfolkref09_before_L0_step, ltT hia, ltF_ (show ¬ i < b.size by omega)]; rfl
     ·show decide _ = _
      have hz : b.data.toList.drop i = [] := List.drop_eq_nil_of_le (by rw [size_list]; omega)
      rw [h4, da, hz]
      exact (decide_eq_false (by omega)).trans rfl
    ·have hib' : i < b.size := by omega
     have db : b.data.toList.drop i = b.data.getD i 0 :: b.data.toList.drop (i + 1) := by
      rw [List.drop_eq_getElem_cons (by rw [size_list]; exact hib')]
      congr 1
      have hib'' : i < b.data.size := hib'
      rw [Array.getD_eq_getD_getElem?, Array.getElem?_eq_getElem hib'']; simp
     rw [da, db, ltB] at h4
     by_cases he : (a.data.getD i 0).toNat = (b.data.getD i 0).toNat
     ·rw [if_pos he] at h4
      obtain ⟨z, h5, h6⟩ := ih (i + 1) (by omega) (by omega) (by omega) h4
      refine ⟨z, ?_, h6⟩
      rw [← h5]
      refine runL_next ?_
      simp only [kinfolkref09_before_L0_step, ltT hia, ltT hib', le0, Int.toNat_natCast, cond_true, Bool.and_self, iaddN (show i ≤ 9223372036854775806 by omega)]
      rw [decide_eq_true (by rw [he])]; rfl
     ·rw [if_neg he] at h4
      refine ⟨.inl (decide (((a.data.getD i 0).toNat : Int) < ((b.data.getD i 0).toNat : Int))), runL_done ?_, ?_⟩
      ·simp only [kinfolkref09_before_L0_step, ltT hia, ltT hib', le0, Int.toNat_natCast, cond_true, Bool.and_self]
       rw [decide_eq_false (show ¬ ((a.data.getD i 0).toNat : Int) = ((b.data.getD i 0).toNat : Int) by omega)]; rfl
      ·rw [h4]
       exact decide_eq_decide.2 (by omega)
 obtain ⟨z, h1, h2⟩ := key a.size 0 (by omega) (by omega) (by omega) rfl
 unfold kinfolkref09_before
 have e : ((0 : Nat) : Int) = 0 := rfl
 rw [e] at h1
 rw [h1]
 cases z with
 | inl v => simp only at h2; rw [h2]; rfl
 | inr v =>
  simp only at h2
  rw [← h2]
  simp only [Option.bind_some]
  congr 1
  exact decide_eq_decide.2 (by omega)
theorem rless_go {a : Int} {a2 a3 : ByteArray} {b : Int} {b2 b3 : ByteArray} (h1 : Small (.mk a a2 a3)) (h2 : Small (.mk b b2 b3)) : kinfolkref09_Less a a2 a3 b b2 b3 = some (ltF (.mk a a2 a3) (.mk b b2 b3)) := by
 unfold kinfolkref09_Less
 rw [before_go h1.1 h2.1, before_go h1.2 h2.2]
 show _ = some (if a = b then (if a2.data.toList = b2.data.toList then ltB a3.data.toList b3.data.toList else ltB a2.data.toList b2.data.toList) else decide (a < b))
 have e1 : (a2.data.toList = b2.data.toList) ↔ a2 = b2 := ⟨ba_ext, fun h => by rw [h]⟩
 by_cases k1 : a = b
 ·rw [if_pos k1, decide_eq_true k1]
  by_cases k2 : a2 = b2
  ·rw [if_pos (e1.2 k2), decide_eq_true k2]; rfl
  ·rw [if_neg (fun h => k2 (e1.1 h)), decide_eq_false k2]; rfl
 ·rw [if_neg k1, decide_eq_false k1]; rfl
instance : DecidableEq Gd := fun x y => by
 cases x with
 | mk a b c => cases y with
  | mk d e f => exact decidable_of_iff (a = d ∧ b = e ∧ c = f) (by simp)
theorem geqd' (a : Int) (b c : ByteArray) (d : Int) (e f : ByteArray) : ((decide (a = d)) && ((decide ((b : ByteArray) = e)) && ((decide ((c : ByteArray) = f)) && true))) = decide (E_kinfolkref09_Field.mk a b c = .mk d e f) := by
 rw [Bool.eq_iff_iff]
 simp
theorem has_go {l : List Fd} (hl : l.length ≤ 1000) (a : Int) (b c : ByteArray) : kinfolkref09_Has (l.map toR) a b c = some (decide (E_card_Field.mk a b c ∈ l)) := by
 unfold kinfolkref09_Has
 have h := first_go (p := fun y : Gd => decide (y = .mk a b c)) (s := l.map toR) (a := fun _ _ => ()) (b := ()) (step := kinfolkref09_Has_L0_step (l.map toR) (((List.map E_kinfolkref09_Field.pv (l.map toR))).length : Int) a b c) (fun k y hy => by
  have hk := lt_of_get hy
  have hk2 : k ≤ 9223372036854775806 := by rw [List.length_map] at hk; omega
  cases y with
  | mk d e f =>
   simp only [kinfolkref09_Has_L0_step, glen_eq, ltT hk, le0, Int.toNat_natCast, hy, cond_true, Bool.and_self, Option.bind_some, iaddN hk2, geqd']
   by_cases h : E_kinfolkref09_Field.mk d e f = .mk a b c
   ·rw [decide_eq_true h]; rfl
   ·rw [decide_eq_false h]; rfl) (by simp only [kinfolkref09_Has_L0_step, glen_eq, ltF_ (Nat.lt_irrefl _)]; rfl)
 rcases h with ⟨i, y, h1, h2, h3, h4⟩ | ⟨h1, h2⟩
 ·rw [h4]
  have : E_card_Field.mk a b c ∈ l := by
   have hm := mem_of_get h1
   obtain ⟨x, hx, hx2⟩ := List.mem_map.1 hm
   have e := of_decide_eq_true h2
   have : x = .mk a b c := toR_inj (hx2.trans e)
   rw [← this]; exact hx
  rw [decide_eq_true this]; rfl
 ·rw [h2]
  have : ¬ E_card_Field.mk a b c ∈ l := by
   intro hm
   have := h1 (toR (.mk a b c)) (List.mem_map_of_mem hm)
   exact absurd rfl (of_decide_eq_false this)
  rw [decide_eq_false this]; rfl
theorem insS_app {x : Fd} {m : List Fd} : ∀ {l : List Fd}, (∃ y ∈ l, ltF x y = true) → insS ltF x (l ++ m) = insS ltF x l ++ m
 | [], h => by obtain ⟨y, hy, _⟩ := h; cases hy
 | a :: l, h => by
  rw [List.cons_append, insS, insS]
  by_cases ha : ltF x a = true
  ·rw [if_pos ha, if_pos ha]; rfl
  ·rw [if_neg ha, if_neg ha, insS_app]
   ·rfl
   ·obtain ⟨y, hy, hy2⟩ := h
    rcases List.mem_cons.1 hy with rfl | hy
    ·exact absurd hy2 ha
    ·exact ⟨y, hy, hy2⟩
theorem insS_skip {x : Fd} {m : List Fd} : ∀ {l : List Fd}, (∀ y ∈ l, ltF x y = false) → insS ltF x (l ++ m) = l ++ insS ltF x m
 | [], _ => rfl
 | a :: l, h => by
  rw [List.cons_append, insS, if_neg (by rw [h a (by simp)]; simp), insS_skip fun y hy => h y (by simp [hy])]; rfl
def putV (l : List Fd) (x : Fd) : List Fd := if x ∈ l then l else insS ltF x l
theorem insS_len {x : Fd} : ∀ {l : List Fd}, (insS ltF x l).length = l.length + 1
 | [] => rfl
 | a :: l => by
  unfold insS
  split
  ·rfl
  ·rw [List.length_cons, insS_len]; rfl
theorem put_go {l : List Fd} (hl : l.length ≤ 1000) (hs : ∀ x ∈ l, Small x) {a : Int} {b c : ByteArray} (hx : Small (.mk a b c)) : kinfolkref09_Put (l.map toR) a b c = some ((putV l (.mk a b c)).map toR) := by
 unfold kinfolkref09_Put putV
 rw [has_go hl]
 simp only [Option.bind_some]
 by_cases hm : E_card_Field.mk a b c ∈ l
 ·rw [decide_eq_true hm, if_pos hm]; rfl
 rw [decide_eq_false hm, if_neg hm, cond_false]
 generalize hX : E_card_Field.mk a b c = X at *
 have h := runL_iter (step := kinfolkref09_Put_L0_2_step (l.map toR) (((List.map E_kinfolkref09_Field.pv (l.map toR))).length : Int) a b c) (fun k => ((l.take k).any (fun y => ltF X y), (k : Int), (if (l.take k).any (fun y => ltF X y) = true then insS ltF X (l.take k) else l.take k).map toR)) (z := (l.any (fun y => ltF X y), (if l.any (fun y => ltF X y) = true then insS ltF X l else l).map toR)) l.length (fun k hk => by
  obtain ⟨y, hy⟩ := getS hk
  have ht := take_s hy
  have hk' : k < (l.map toR).length := by rw [List.length_map]; exact hk
  have hy' : (l.map toR)[k]? = some (toR y) := by rw [List.getElem?_map, hy]; rfl
  have hsy := hs y (mem_of_get hy)
  rw [ht, List.any_append]
  cases y with
  | mk d e f =>
   simp only [toR] at hy'
   have f1 : ∀ (r : List Fd) (g : List PV), r.length ≤ 2000 → fits (List.map E_kinfolkref09_Field.pv (r.map toR) ++ [g]).length = true := fun r g hr => fits_of (by simp; omega)
   have f2 : ∀ (r : List Fd) (g g' : List PV), r.length ≤ 2000 → fits ((List.map E_kinfolkref09_Field.pv (r.map toR) ++ [g]) ++ [g']).length = true := fun r g g' hr => fits_of (by simp; omega)
   have hrl : (insS ltF X (l.take k)).length ≤ 2000 := by rw [insS_len, List.length_take]; omega
   have hrl2 : (l.take k).length ≤ 2000 := by rw [List.length_take]; omega
   have hless : kinfolkref09_Less a b c d e f = some (ltF X (.mk d e f)) := by rw [← hX]; rw [← hX] at hx; exact rless_go hx hsy
   cases hp : (l.take k).any (fun y => ltF X y) with
   | true =>
    have hex : ∃ y ∈ l.take k, ltF X y = true := by
     obtain ⟨y, h1, h2⟩ := List.any_eq_true.1 hp
     exact ⟨y, h1, h2⟩
    simp only [kinfolkref09_Put_L0_2_step, glen_eq, ltT hk', le0, Int.toNat_natCast, hy', cond_true, Bool.and_self, Option.bind_some, iaddN (show k ≤ 9223372036854775806 by omega), if_true, Bool.true_or, f1 _ _ hrl]
    rw [insS_app hex, List.map_append]
    rfl
   | false =>
    have hno : ∀ y ∈ l.take k, ltF X y = false := fun y hy => by
     cases h : ltF X y with
     | false => rfl
     | true => rw [List.any_eq_true.2 ⟨y, hy, h⟩] at hp; cases hp
    have ha1 : ([E_card_Field.mk d e f].any fun y => ltF X y) = ltF X (.mk d e f) := by simp
    rw [ha1]
    cases hlt : ltF X (.mk d e f) with
    | true =>
     simp only [kinfolkref09_Put_L0_2_step, glen_eq, ltT hk', le0, Int.toNat_natCast, hy', cond_true, cond_false, Bool.and_self, Option.bind_some, iaddN (show k ≤ 9223372036854775806 by omega), if_true, Bool.false_or, hless, hlt, Bool.false_eq_true, if_false, f1 _ _ hrl2, f2 _ _ _ hrl2]
     rw [insS_skip hno, insS, if_pos hlt, List.map_append, ← hX]
     simp [toR]
    | false =>
     simp only [kinfolkref09_Put_L0_2_step, glen_eq, ltT hk', le0, Int.toNat_natCast, hy', cond_true, cond_false, Bool.and_self, Option.bind_some, iaddN (show k ≤ 9223372036854775806 by omega), if_true, Bool.false_or, hless, hlt, Bool.false_eq_true, if_false, f1 _ _ hrl2]
     rw [List.map_append]; rfl) (by
   simp only [kinfolkref09_Put_L0_2_step, glen_eq, List.length_map, ltF_ (Nat.lt_irrefl _), List.take_length]; rfl)
 have e : ((0 : Nat) : Int) = 0 := rfl
 simp only [List.take_zero, List.any_nil, Bool.false_eq_true, if_false, List.map_nil, e] at h
 rw [h]
 simp only [Option.bind_some]
 cases hp : l.any (fun y => ltF X y) with
 | true => simp only [cond_true, if_true, gtake_len]
 | false =>
  have hno : ∀ y ∈ l, ltF X y = false := fun y hy => by
   cases h : ltF X y with
   | false => rfl
   | true => rw [List.any_eq_true.2 ⟨y, hy, h⟩] at hp; cases hp
  have hi : insS ltF X l = l ++ [X] := by
   have := insS_skip (m := []) hno
   rw [List.append_nil] at this
   rw [this]; rfl
  have hf : fits (List.map E_kinfolkref09_Field.pv (l.map toR) ++ ([[(.int .i64 a), (.str b), (.str c)]] : List (List PV))).length = true := fits_of (by simp; omega)
  simp only [cond_false, Bool.false_eq_true, if_false, hf, cond_true]
  rw [hi, List.take_of_length_le (by simp), List.map_append, ← hX]
  rfl
def putsV (l : List Fd) (m : List Fd) : List Fd := m.foldl putV l
theorem putV_ss {l : List Fd} (h : SS ltF l) (x : Fd) : SS ltF (putV l x) := by
 unfold putV
 split
 ·exact h
 ·rename_i hx; exact insS_SS ltF_tot h hx
theorem mem_putV {l : List Fd} {x y : Fd} : y ∈ putV l x ↔ y = x ∨ y ∈ l := by
 unfold putV
 split
 ·rename_i hx
  exact ⟨.inr, fun h => h.elim (fun e => by rw [e]; exact hx) id⟩
 ·exact mem_insS
theorem putV_len (l : List Fd) (x : Fd) : (putV l x).length ≤ l.length + 1 := by
 unfold putV
 split
 ·omega
 ·rw [insS_len]; omega
theorem putsV_ss : ∀ (m l : List Fd), SS ltF l → SS ltF (putsV l m)
 | [], _, h => h
 | x :: m, l, h => putsV_ss m (putV l x) (putV_ss h x)
theorem mem_putsV {y : Fd} : ∀ (m l : List Fd), y ∈ putsV l m ↔ y ∈ l ∨ y ∈ m
 | [], l => by simp [putsV]
 | x :: m, l => by
  show y ∈ putsV (putV l x) m ↔ _
  rw [mem_putsV m (putV l x), mem_putV, List.mem_cons]
  constructor
  ·intro h
   rcases h with (h | h) | h
   ·exact .inr (.inl h)
   ·exact .inl h
   ·exact .inr (.inr h)
  ·intro h
   rcases h with h | h | h
   ·exact .inl (.inr h)
   ·exact .inl (.inl h)
   ·exact .inr h
theorem putsV_eq {l m : List Fd} (h : SS ltF l) : putsV l m = madeF (l ++ m) :=
 SS.uniq ltF_tot (putsV_ss m l h) (madeF_ss _) fun x => by rw [mem_putsV, mem_madeF, List.mem_append]
theorem putsV_len : ∀ (m l : List Fd), (putsV l m).length ≤ l.length + m.length
 | [], l => Nat.le_refl _
 | x :: m, l => by
  have h1 := putsV_len m (putV l x)
  have h2 := putV_len l x
  show (putsV (putV l x) m).length ≤ _
  rw [List.length_cons]
  omega
theorem putsV_snoc (l m : List Fd) (x : Fd) : putsV l (m ++ [x]) = putV (putsV l m) x := by unfold putsV; rw [List.foldl_append]; rfl
theorem rmake_go {N : Nat} (hN : 1000 < N) {l : List Fd} (hl : l.length ≤ 500) (hs : ∀ x ∈ l, Small x) : kinfolkref09_Make N (l.map toR) = some ((makeV l).1.map toR, (makeV l).2) := by
 unfold kinfolkref09_Make makeV
 have hps : ∀ k, ∀ x ∈ putsV [] (l.take k), Small x := fun k x hx => by
  rcases (mem_putsV _ _).1 hx with h | h
  ·cases h
  ·exact hs x (List.mem_of_mem_take h)
 have hpl : ∀ k, (putsV [] (l.take k)).length ≤ 1000 := fun k => by
  have := putsV_len (l.take k) []
  rw [List.length_take, List.length_nil] at this
  omega
 let H : Nat → Unit ⊕ (List Gd × Int) := fun k => match k with | 0 => .inl () | k + 1 => .inr ((putsV [] (l.take (k + 1))).map toR, ((k + 1 : Nat) : Int))
 have hstep : ∀ (k : Nat) (x : Fd), l[k]? = some x → kinfolkref09_Make_L0_step N (l.map toR) (((List.map E_kinfolkref09_Field.pv (l.map toR))).length : Int) (H k) = some (if okF x = true then .inl (H (k + 1)) else .inr (.inl (rightF x))) := fun k x hx => by
  have hk := lt_of_get hx
  have hk' : k < (l.map toR).length := by rw [List.length_map]; exact hk
  have hx' : (l.map toR)[k]? = some (toR x) := by rw [List.getElem?_map, hx]; rfl
  have hsx := hs x (mem_of_get hx)
  have hsn := putsV_snoc [] (l.take k) x
  rw [← take_s hx] at hsn
  cases x with
  | mk a b c =>
   simp only [toR] at hx'
   have hr := rright_go hN hsx
   have hp := put_go (hpl k) (hps k) hsx
   cases k with
   | zero =>
    have z0 : decide ((0 : Int) ≤ 0) = true := rfl
    have z1 : decide ((0 : Int) < ((l.map toR).length : Int)) = true := decide_eq_true (by omega)
    have hp0 : kinfolkref09_Put [] a b c = some ((putV (putsV [] (l.take 0)) (.mk a b c)).map toR) := hp
    simp only [H, kinfolkref09_Make_L0_step, glen_eq, z0, z1, hx', cond_true, Bool.and_self, Option.bind_some, hr]
    unfold okF
    by_cases h : rightF (.mk a b c) = 0
    ·rw [decide_eq_true h, cond_true, hp0, if_pos rfl, hsn]; rfl
    ·rw [decide_eq_false h, cond_false, if_neg (by simp)]
   | succ k =>
    have i1 := iaddN (k := k + 1) (by omega)
    simp only [H, kinfolkref09_Make_L0_step, glen_eq, ltT hk', le0, Int.toNat_natCast, hx', cond_true, Bool.and_self, Option.bind_some, hr]
    unfold okF
    by_cases h : rightF (.mk a b c) = 0
    ·rw [decide_eq_true h, cond_true, hp, if_pos rfl, hsn, Option.bind_some, i1]
    ·rw [decide_eq_false h, cond_false, if_neg (by simp)]
 rcases firstI (fun x => !(okF x)) l with ⟨i, x, h1, h2, h3, h4⟩ | h
 ·have hb : badF l = some (rightF x) := by unfold badF; rw [find_of h1 h2 h4]; rfl
  have hr := runL_iter (step := kinfolkref09_Make_L0_step N (l.map toR) (((List.map E_kinfolkref09_Field.pv (l.map toR))).length : Int)) H (z := .inl (rightF x)) i (fun k hk => by
   obtain ⟨y, hy⟩ := getS (l := l) (k := k) (by omega)
   rw [hstep k y hy, if_pos (by have := h4 k y hk hy; simpa using this)]) (by rw [hstep i x h1, if_neg (by have : (!(okF x)) = true := h2; intro h; rw [h] at this; cases this)])
  have h0 : H 0 = .inl () := rfl
  rw [h0] at hr
  rw [hr, hb]; rfl
 ·have hok : ∀ x ∈ l, okF x = true := fun x hx => by have := h x hx; simpa using this
  have hb : badF l = none := badF_none.2 hok
  rw [hb]
  have hE : putsV [] l = madeF l := by have := putsV_eq (l := []) (m := l) trivial; rwa [List.nil_append] at this
  have hit : ∀ k, k < l.length → kinfolkref09_Make_L0_step N (l.map toR) (((List.map E_kinfolkref09_Field.pv (l.map toR))).length : Int) (H k) = some (.inl (H (k + 1))) := fun k hk => by
   obtain ⟨y, hy⟩ := getS (l := l) (k := k) (by omega)
   rw [hstep k y hy, if_pos (hok y (mem_of_get hy))]
  have h0 : H 0 = .inl () := rfl
  cases hl0 : l.length with
  | zero =>
   have hnil : l = [] := List.length_eq_zero_iff.1 hl0
   have hr := runL_iter (step := kinfolkref09_Make_L0_step N (l.map toR) (((List.map E_kinfolkref09_Field.pv (l.map toR))).length : Int)) H (z := .inr (.inl ())) 0 (fun k hk => absurd hk (by omega)) (by
    rw [hnil]
    simp only [h0, kinfolkref09_Make_L0_step]; rfl)
   rw [h0] at hr
   have hm0 : madeF [] = [] := List.eq_nil_of_length_eq_zero (by have := madeF_len []; simpa using this)
   rw [hr, hnil, hm0]
   rfl
  | succ n =>
   have hH : H l.length = .inr ((putsV [] l).map toR, (l.length : Int)) := by rw [hl0]; simp only [H]; rw [← hl0, List.take_length]
   have hr := runL_iter (step := kinfolkref09_Make_L0_step N (l.map toR) (((List.map E_kinfolkref09_Field.pv (l.map toR))).length : Int)) H (z := .inr (.inr ((putsV [] l).map toR))) l.length hit (by
    rw [hH]
    simp only [kinfolkref09_Make_L0_step, glen_eq, List.length_map, ltF_ (Nat.lt_irrefl _)]; rfl)
   rw [h0] at hr
   rw [hr, hE]
   simp only [Option.bind_some, glen_eq, List.length_map]
   by_cases h8 : 8 < (madeF l).length
   ·rw [if_pos h8, decide_eq_true (show (8 : Int) < ((madeF l).length : Int) by omega)]; rfl
   ·rw [if_neg h8, decide_eq_false (show ¬ (8 : Int) < ((madeF l).length : Int) by omega)]; rfl
theorem zip_eq {α : Type} : ∀ {a b : List α}, a.length = b.length → (∀ z ∈ a.zip b, z.1 = z.2) → a = b
 | [], [], _, _ => rfl
 | [], _ :: _, h, _ => by cases h
 | _ :: _, [], h, _ => by cases h
 | x :: a, y :: b, h, hz => by
  have h1 : x = y := hz (x, y) (by simp)
  have h2 : a = b := zip_eq (by simpa using h) fun z hz' => hz z (by rw [List.zip_cons_cons]; exact List.mem_cons_of_mem _ hz')
  rw [h1, h2]
theorem zip_get {α : Type} {a b : List α} {k : Nat} {z : α × α} (h : (a.zip b)[k]? = some z) : a[k]? = some z.1 ∧ b[k]? = some z.2 := by
 have := List.getElem?_zip_eq_some.1 h
 exact this
theorem rsame_go {a b : List Gd} (ha : a.length ≤ 1000) : kinfolkref09_Same a b = some (decide (a = b)) := by
 unfold kinfolkref09_Same
 rw [glen_eq, glen_eq]
 by_cases hl : a.length = b.length
 ·rw [decide_eq_true (show (a.length : Int) = (b.length : Int) by omega), cond_true]
  have hzl : (a.zip b).length = a.length := by rw [List.length_zip]; omega
  have h := first_go (p := fun z : Gd × Gd => !(decide (z.1 = z.2))) (s := a.zip b) (a := fun _ _ => ()) (b := ()) (step := kinfolkref09_Same_L0_step a b (a.length : Int)) (fun k z hz => by
   have hk := lt_of_get hz
   rw [hzl] at hk
   obtain ⟨h1, h2⟩ := zip_get hz
   obtain ⟨x, y⟩ := z
   cases x with
   | mk d e f => cases y with
    | mk d2 e2 f2 =>
     simp only [kinfolkref09_Same_L0_step, glen_eq, ltT hk, ltT (show k < b.length by omega), le0, Int.toNat_natCast, h1, h2, cond_true, Bool.and_self, Option.bind_some, iaddN (show k ≤ 9223372036854775806 by omega), geqd']
     by_cases h : E_kinfolkref09_Field.mk d e f = .mk d2 e2 f2
     ·rw [decide_eq_true h]; rfl
     ·rw [decide_eq_false h]; rfl) (by rw [hzl]; simp only [kinfolkref09_Same_L0_step, ltF_ (Nat.lt_irrefl _)]; rfl)
  rcases h with ⟨i, z, h1, h2, h3, h4⟩ | ⟨h1, h2⟩
  ·rw [h4]
   have : ¬ a = b := by
    intro e
    subst e
    obtain ⟨g1, g2⟩ := zip_get h1
    rw [g1] at g2
    have hz : z.1 = z.2 := Option.some.inj g2
    simp [hz] at h2
   rw [decide_eq_false this]; rfl
  ·rw [h2]
   have : a = b := zip_eq hl fun z hz => by have := h1 z hz; simpa using this
   rw [decide_eq_true this]; rfl
 ·rw [decide_eq_false (show ¬ (a.length : Int) = (b.length : Int) by omega), decide_eq_false (fun e => hl (by rw [e]))]; rfl
theorem equal_go {a b : List Fd} (ha : a.length ≤ 1000) : slices_Equal_card_Field a b = some (decide (a = b)) := by
 unfold slices_Equal_card_Field
 rw [len_eq, len_eq]
 by_cases hl : a.length = b.length
 ·rw [decide_eq_true (show (a.length : Int) = (b.length : Int) by omega), cond_true]
  have hzl : (a.zip b).length = a.length := by rw [List.length_zip]; omega
  have h := first_go (p := fun z : Fd × Fd => !(decide (z.1 = z.2))) (s := a.zip b) (a := fun _ _ => ()) (b := ()) (step := slices_Equal_card_Field_L0_step a b (a.length : Int)) (fun k z hz => by
   have hk := lt_of_get hz
   rw [hzl] at hk
   obtain ⟨h1, h2⟩ := zip_get hz
   obtain ⟨x, y⟩ := z
   cases x with
   | mk d e f => cases y with
    | mk d2 e2 f2 =>
     simp only [slices_Equal_card_Field_L0_step, len_eq, ltT hk, ltT (show k < b.length by omega), le0, Int.toNat_natCast, h1, h2, cond_true, Bool.and_self, Option.bind_some, iaddN (show k ≤ 9223372036854775806 by omega), eqd]
     by_cases h : E_card_Field.mk d e f = .mk d2 e2 f2
     ·rw [decide_eq_true h]; simp [h]
     ·rw [decide_eq_false h]; simp [h]) (by rw [hzl]; simp only [slices_Equal_card_Field_L0_step, ltF_ (Nat.lt_irrefl _)]; rfl)
  rcases h with ⟨i, z, h1, h2, h3, h4⟩ | ⟨h1, h2⟩
  ·rw [h4]
   have : ¬ a = b := by
    intro e
    subst e
    obtain ⟨g1, g2⟩ := zip_get h1
    rw [g1] at g2
    have hz : z.1 = z.2 := Option.some.inj g2
    simp [hz] at h2
   rw [decide_eq_false this]; rfl
  ·rw [h2]
   have : a = b := zip_eq hl fun z hz => by have := h1 z hz; simpa using this
   rw [decide_eq_true this]; rfl
 ·rw [decide_eq_false (show ¬ (a.length : Int) = (b.length : Int) by omega), decide_eq_false (fun e => hl (by rw [e]))]; rfl
theorem map_toR {a b : List Fd} : a.map toR = b.map toR ↔ a = b := ⟨fun h => by
 have : ∀ (a b : List Fd), a.map toR = b.map toR → a = b := by
  intro a
  induction a with
  | nil => intro b h; cases b with | nil => rfl | cons => simp at h
  | cons x a ih =>
   intro b h
   cases b with
   | nil => simp at h
   | cons y b => simp only [List.map_cons, List.cons.injEq] at h; rw [toR_inj h.1, ih b h.2]
 exact this a b h, fun h => by rw [h]⟩
theorem csame_go {a b : List Fd} (ha : a.length ≤ 1000) : card_Same a b = some (decide (a = b)) := by
 unfold card_Same
 rw [equal_go ha]; rfl
theorem clen_go (c : List Fd) : card_Card_Len c = some (c.length : Int) := by unfold card_Card_Len; rw [len_eq]
noncomputable def cardV (l : List Fd) : List Fd := madeF (rightsV (fewV l))
structure IsCard (c : List Fd) : Prop where
 ss : SS ltF c
 ok : ∀ x ∈ c, okF x = true
 short : ∀ x ∈ c, Short x
 few : c.length ≤ 8
theorem cardV_is (l : List Fd) : IsCard (cardV l) where
 ss := madeF_ss _
 ok x hx := (mem_rightsV (mem_madeF.1 hx)).2
 short x hx := fewV_short l x (mem_rightsV (mem_madeF.1 hx)).1
 few := Nat.le_trans (madeF_len _) (rightsV_len _)
theorem made2_go {N : Nat} (hN : 1000 < N) {l : List Fd} (hl : l.length ≤ 9223372036854775807) : kinfolklaw10_made N l = some (cardV l, (cardV l).map toR) := by
 unfold kinfolklaw10_made
 have h1 := fewV_len l
 have h2 := fewV_short l
 have h3 := rightsV_len (fewV l)
 have hsm : ∀ x ∈ rightsV (fewV l), Small x := fun x hx => (h2 x (mem_rightsV hx).1).small
 have hb : badF (rightsV (fewV l)) = none := badF_none.2 fun x hx => (mem_rightsV hx).2
 have hV : makeV (rightsV (fewV l)) = (cardV l, 0) := by
  unfold makeV
  rw [hb]
  simp only
  rw [if_neg (by have := (cardV_is l).few; unfold cardV at this; omega)]; rfl
 rw [few_go hl]
 simp only [Option.bind_some]
 rw [rights_go (by omega) (fun x hx => (h2 x hx).small)]
 simp only [Option.bind_some, take_len, gtake_len]
 rw [make_go (by omega) hsm, own_go (by omega)]
 simp only [Option.bind_some, gtake_len]
 rw [rmake_go hN (by omega) hsm, hV]
 rfl
end Go.Proofs.YteiikkpajcggfaaGreatDoor
