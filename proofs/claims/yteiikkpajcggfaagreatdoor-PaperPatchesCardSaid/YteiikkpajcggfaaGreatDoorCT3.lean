/- Right fields, rows put in their order: the program's and the document's, plain. -/
import Derived.Test.YteiikkpajcggfaaGreatDoorCT2
set_option linter.unusedVariables false
set_option linter.unusedSimpArgs false
namespace Go.Proofs.YteiikkpajcggfaaGreatDoor
open Go.Ev Go.Lib
def chkC (l : List UInt8) (most : Int) : Int := if most < (l.length : Int) then 9 else if chk l = true then 0 else 7
def rightL (f : Int) (b c : List UInt8) : Int :=
 if f < 1 ∨ 6 < f then 1 else if chkC b 12 = 0 then (if chkC c 40 = 0 then (if c = [] then 7 else if foldL c = c then (if f = 2 then (if phoneL c = true then 0 else 7) else if f = 3 then (if mailL c = true then 0 else 7) else 0) else 7) else chkC c 40) else chkC b 12
theorem kind_nil (f : Int) : decide (kindNm f = (⟨#[]⟩ : ByteArray)) = decide (f < 1 ∨ 6 < f) := by
 by_cases h : f < 1 ∨ 6 < f
 ·rw [decide_eq_true h]
  apply decide_eq_true
  unfold kindNm
  split <;> first | omega | rfl
 ·rw [decide_eq_false h]
  apply decide_eq_false
  have : f = 1 ∨ f = 2 ∨ f = 3 ∨ f = 4 ∨ f = 5 ∨ f = 6 := by omega
  rcases this with rfl | rfl | rfl | rfl | rfl | rfl <;> (intro e; have := congrArg ByteArray.size e; revert this; decide)
theorem nil_mk : (⟨#[]⟩ : ByteArray) = mkS [] := rfl
theorem right_goL {f : Int} {b c : List UInt8} (hb : b.length ≤ 1000) (hc : c.length ≤ 1000) : card_Field_Right f (mkS b) (mkS c) = some (rightL f b c) := by
 unfold card_Field_Right card_KindName rightL
 simp only [Option.bind_some]
 rw [kind_nil, nil_mk, check_go 12 hb, check_go 40 hc, fold_go hc, phone_go hc, mail_go hc]
 simp only [Option.bind_some, mkS_inj]
 change _ = some (if f < 1 ∨ 6 < f then 1 else if chkC b 12 = 0 then _ else _)
 rw [show (if 12 < (b.length : Int) then (9 : Int) else if chk b = true then 0 else 7) = chkC b 12 from rfl, show (if 40 < (c.length : Int) then (9 : Int) else if chk c = true then 0 else 7) = chkC c 40 from rfl]
 by_cases h1 : f < 1 ∨ 6 < f
 ·rw [decide_eq_true h1, if_pos h1]; rfl
 rw [decide_eq_false h1, if_neg h1]
 by_cases h2 : chkC b 12 = 0
 ·rw [decide_eq_true h2, if_pos h2]
  by_cases h3 : chkC c 40 = 0
  ·rw [decide_eq_true h3, if_pos h3]
   by_cases h4 : c = []
   ·simp [h4]
   ·by_cases h5 : foldL c = c
    ·by_cases h6 : f = 2
     ·subst h6; cases h7 : phoneL c <;> simp [h4, h5]
     ·by_cases h8 : f = 3
      ·subst h8; cases h7 : mailL c <;> simp [h4, h5]
      ·simp [h4, h5, h6, h8]
    ·simp [h4, h5]
  ·rw [decide_eq_false h3, if_neg h3]; rfl
 ·rw [decide_eq_false h2, if_neg h2]; rfl
def rightF : Fd → Int | .mk a b c => rightL a b.data.toList c.data.toList
def Small : Fd → Prop | .mk _ b c => b.size ≤ 1000 ∧ c.size ≤ 1000
theorem size_list (b : ByteArray) : b.data.toList.length = b.size := Array.length_toList
theorem right_go {a : Int} {b c : ByteArray} (h : Small (.mk a b c)) : card_Field_Right a b c = some (rightF (.mk a b c)) := by
 have := right_goL (f := a) (b := b.data.toList) (c := c.data.toList) (by rw [size_list]; exact h.1) (by rw [size_list]; exact h.2)
 rwa [mkS_of, mkS_of] at this
def okF (x : Fd) : Bool := decide (rightF x = 0)
def badF (l : List Fd) : Option Int := (l.find? fun x => !(okF x)).map rightF
theorem find_of {α : Type} {p : α → Bool} : ∀ {l : List α} {i : Nat} {x : α}, l[i]? = some x → p x = true → (∀ j y, j < i → l[j]? = some y → p y = false) → l.find? p = some x
 | [], i, x, h, _, _ => by simp at h
 | a :: l, 0, x, h, hp, _ => by simp at h; subst h; rw [List.find?_cons_of_pos hp]
 | a :: l, i + 1, x, h, hp, hb => by
  rw [List.find?_cons_of_neg (by rw [hb 0 a (by omega) rfl]; simp)]
  exact find_of (by simpa using h) hp fun j y hj hy => hb (j + 1) y (by omega) (by simpa using hy)
theorem find_none {α : Type} {p : α → Bool} {l : List α} (h : ∀ x ∈ l, p x = false) : l.find? p = none := List.find?_eq_none.2 fun x hx => by rw [h x hx]; simp
theorem badF_none {l : List Fd} : badF l = none ↔ ∀ x ∈ l, okF x = true := by
 unfold badF
 rw [Option.map_eq_none_iff, List.find?_eq_none]
 constructor
 ·intro h x hx; have := h x hx; simpa using this
 ·intro h x hx; rw [h x hx]; simp
noncomputable def makeV (l : List Fd) : List Fd × Int := match badF l with
 | some n => ([], n)
 | none => if 8 < (madeF l).length then ([], 8) else (madeF l, 0)
theorem len_eq (l : List Fd) : (((List.map E_card_Field.pv l).length : Nat) : Int) = (l.length : Int) := by rw [List.length_map]
theorem make_go {l : List Fd} (hl : l.length ≤ 1000) (hs : ∀ x ∈ l, Small x) : card_Make l = some (makeV l) := by
 have h := first_go (p := fun x => !(okF x)) (s := l) (a := fun _ x => rightF x) (b := ()) (step := card_Make_L0_step l l (((List.map E_card_Field.pv l)).length : Int)) (fun k x hx => by
  have hk := lt_of_get hx
  cases x with
  | mk a b c =>
   simp only [card_Make_L0_step, len_eq, ltT hk, le0, Int.toNat_natCast, hx, cond_true, Bool.and_self, Option.bind_some, right_go (hs _ (mem_of_get hx)), iaddN (show k ≤ 9223372036854775806 by omega)]
   unfold okF
   by_cases h : rightF (.mk a b c) = 0
   ·simp [h]
   ·simp [h]) (by simp only [card_Make_L0_step, len_eq, ltF_ (Nat.lt_irrefl _)]; rfl)
 unfold card_Make makeV
 rcases h with ⟨i, x, h1, h2, h3, h4⟩ | ⟨h1, h2⟩
 ·rw [h4]
  have : badF l = some (rightF x) := by unfold badF; rw [find_of h1 h2 h3]; rfl
  rw [this]; rfl
 ·rw [h2]
  have : badF l = none := by unfold badF; rw [find_none h1]; rfl
  rw [this]
  simp only [Option.bind_some, made_go hl, card_Card_Len, len_eq]
  by_cases h8 : 8 < (madeF l).length
  ·rw [if_pos h8, decide_eq_true (show (8 : Int) < ((madeF l).length : Int) by omega)]; rfl
  ·rw [if_neg h8, decide_eq_false (show ¬ (8 : Int) < ((madeF l).length : Int) by omega)]; rfl
theorem fields_go {l : List Fd} (hl : l.length ≤ 1000) : card_Card_Fields l = some () := by
 unfold card_Card_Fields slices_Clone_card_Field
 rw [if_pos (fits_of (by omega))]; rfl
theorem glen_eq (l : List Gd) : (((List.map E_kinfolkref09_Field.pv l).length : Nat) : Int) = (l.length : Int) := by rw [List.length_map]
theorem take_len (l : List Fd) : List.take ((List.map E_card_Field.pv l)).length l = l := by rw [List.length_map, List.take_length]
theorem gtake_len (l : List Gd) : List.take ((List.map E_kinfolkref09_Field.pv l)).length l = l := by rw [List.length_map, List.take_length]
theorem own_go {l : List Fd} (hl : l.length ≤ 1000) : kinfolklaw10_own l = some (l.map toR) := by
 unfold kinfolklaw10_own
 have h := runL_iter (step := kinfolklaw10_own_L0_2_step l (((List.map E_card_Field.pv l)).length : Int)) (fun k => ((k : Int), (l.take k).map toR)) (z := l.map toR) l.length (fun k hk => by
  obtain ⟨x, hx⟩ := getS hk
  have ht := take_s hx
  cases x with
  | mk a b c =>
   have hf : fits (List.map E_kinfolkref09_Field.pv ((l.take k).map toR) ++ ([[(.int .i64 a), (.str b), (.str c)]] : List (List PV))).length = true := fits_of (by simp; omega)
   simp only [kinfolklaw10_own_L0_2_step, len_eq, ltT hk, le0, Int.toNat_natCast, hx, cond_true, Bool.and_self, Option.bind_some, iaddN (show k ≤ 9223372036854775806 by omega), hf]
   rw [ht, List.map_append]; rfl) (by simp only [kinfolklaw10_own_L0_2_step, len_eq, ltF_ (Nat.lt_irrefl _), List.take_length]; rfl)
 have e : ((0 : Nat) : Int) = 0 := rfl
 simp only [List.take_zero, List.map_nil, e] at h
 rw [h]; rfl
def cutS (s : ByteArray) : ByteArray := s.extract 0 ((if 60 < (s.size : Int) then 60 else (s.size : Int))).toNat
theorem cutS_size (s : ByteArray) : (cutS s).size ≤ 60 := by
 unfold cutS
 rw [ByteArray.size_extract]
 split <;> omega
def cutF : Fd → Fd | .mk a b c => .mk a (cutS b) (cutS c)
def Short : Fd → Prop | .mk _ b c => b.size ≤ 60 ∧ c.size ≤ 60
theorem cutF_short (x : Fd) : Short (cutF x) := by cases x; exact ⟨cutS_size _, cutS_size _⟩
theorem Short.small {x : Fd} (h : Short x) : Small x := by cases x; exact ⟨Nat.le_trans h.1 (by decide), Nat.le_trans h.2 (by decide)⟩
def fewV (l : List Fd) : List Fd := (l.take 14).map cutF
theorem few_go {l : List Fd} (hl : l.length ≤ 9223372036854775807) : kinfolklaw10_few l = some (fewV l) := by
 unfold kinfolklaw10_few
 have h := runL_iter (step := kinfolklaw10_few_L0_2_step l (((List.map E_card_Field.pv l)).length : Int)) (fun k => ((k : Int), ((l.take k).take 14).map cutF)) (z := fewV l) l.length (fun k hk => by
  obtain ⟨x, hx⟩ := getS hk
  have ht := take_s hx
  cases x with
  | mk a b c =>
   have hb : (0 : Int) ≤ (if 60 < (b.size : Int) then 60 else (b.size : Int)) ∧ (if 60 < (b.size : Int) then 60 else (b.size : Int)) ≤ (b.size : Int) := by split <;> omega
   have hc : (0 : Int) ≤ (if 60 < (c.size : Int) then 60 else (c.size : Int)) ∧ (if 60 < (c.size : Int) then 60 else (c.size : Int)) ≤ (c.size : Int) := by split <;> omega
   have z0 : decide ((0 : Int) ≤ 0) = true := rfl
   by_cases h14 : k < 14
   ·have hf : fits (List.map E_card_Field.pv (((l.take k).take 14).map cutF) ++ ([[(.int .i64 a), (.str (b.extract 0 ((if 60 < (b.size : Int) then 60 else (b.size : Int))).toNat)), (.str (c.extract 0 ((if 60 < (c.size : Int) then 60 else (c.size : Int))).toNat))]] : List (List PV))).length = true := fits_of (by simp; omega)
    simp only [kinfolklaw10_few_L0_2_step, len_eq, ltT hk, le0, Int.toNat_natCast, hx, cond_true, Bool.and_self, Option.bind_some, iaddN (show k ≤ 9223372036854775806 by omega), decide_eq_true (show (k : Int) < 14 by omega), decide_eq_true hb.1, decide_eq_true hb.2, decide_eq_true hc.1, decide_eq_true hc.2, z0, hf]
    rw [ht]
    rw [List.take_of_length_le (l := l.take k) (by rw [List.length_take]; omega), List.take_of_length_le (l := l.take k ++ [E_card_Field.mk a b c]) (by simp; omega), List.map_append]
    rfl
   ·simp only [kinfolklaw10_few_L0_2_step, len_eq, ltT hk, le0, Int.toNat_natCast, hx, cond_true, cond_false, Bool.and_self, Option.bind_some, iaddN (show k ≤ 9223372036854775806 by omega), decide_eq_false (show ¬ (k : Int) < 14 by omega)]
    rw [List.take_take, List.take_take, show min 14 (k + 1) = min 14 k by omega]) (by
   simp only [kinfolklaw10_few_L0_2_step, len_eq, ltF_ (Nat.lt_irrefl _), List.take_length]; rfl)
 have e : ((0 : Nat) : Int) = 0 := rfl
 simp only [List.take_zero, List.take_nil, List.map_nil, e] at h
 rw [h]; rfl
theorem fewV_len (l : List Fd) : (fewV l).length ≤ 14 := by unfold fewV; rw [List.length_map, List.length_take]; omega
theorem fewV_short (l : List Fd) : ∀ x ∈ fewV l, Short x := by
 intro x hx
 obtain ⟨y, _, rfl⟩ := List.mem_map.1 hx
 exact cutF_short y
instance : DecidableEq Gd := fun x y => by
 cases x with
 | mk a b c => cases y with
  | mk d e f => exact decidable_of_iff (a = d ∧ b = e ∧ c = f) (by simp)
theorem geqd' (a : Int) (b c : ByteArray) (d : Int) (e f : ByteArray) : ((decide (a = d)) && ((decide ((b : ByteArray) = e)) && ((decide ((c : ByteArray) = f)) && true))) = decide (E_kinfolkref09_Field.mk a b c = .mk d e f) := by
 rw [Bool.eq_iff_iff]
 simp
theorem zip_eq {α : Type} : ∀ {a b : List α}, a.length = b.length → (∀ z ∈ a.zip b, z.1 = z.2) → a = b
 | [], [], _, _ => rfl
 | [], _ :: _, h, _ => by cases h
 | _ :: _, [], h, _ => by cases h
 | x :: a, y :: b, h, hz => by
  have h1 : x = y := hz (x, y) (by simp)
  have h2 : a = b := zip_eq (by simpa using h) fun z hz' => hz z (by rw [List.zip_cons_cons]; exact List.mem_cons_of_mem _ hz')
  rw [h1, h2]
theorem zip_get {α : Type} {a b : List α} {k : Nat} {z : α × α} (h : (a.zip b)[k]? = some z) : a[k]? = some z.1 ∧ b[k]? = some z.2 := by
 have := List.getElem?_zip_eq_some.1 h
 exact this
theorem rsame_go {a b : List Gd} (ha : a.length ≤ 1000) : kinfolkref09_Same a b = some (decide (a = b)) := by
 unfold kinfolkref09_Same
 rw [glen_eq, glen_eq]
 by_cases hl : a.length = b.length
 ·rw [decide_eq_true (show (a.length : Int) = (b.length : Int) by omega), cond_true]
  have hzl : (a.zip b).length = a.length := by rw [List.length_zip]; omega
  have h := first_go (p := fun z : Gd × Gd => !(decide (z.1 = z.2))) (s := a.zip b) (a := fun _ _ => ()) (b := ()) (step := kinfolkref09_Same_L0_step a b (a.length : Int)) (fun k z hz => by
   have hk := lt_of_get hz
   rw [hzl] at hk
   obtain ⟨h1, h2⟩ := zip_get hz
   obtain ⟨x, y⟩ := z
   cases x with
   | mk d e f => cases y with
    | mk d2 e2 f2 =>
     simp only [kinfolkref09_Same_L0_step, glen_eq, ltT hk, ltT (show k < b.length by omega), le0, Int.toNat_natCast, h1, h2, cond_true, Bool.and_self, Option.bind_some, iaddN (show k ≤ 9223372036854775806 by omega), geqd']
     by_cases h : E_kinfolkref09_Field.mk d e f = .mk d2 e2 f2
     ·rw [decide_eq_true h]; rfl
     ·rw [decide_eq_false h]; rfl) (by rw [hzl]; simp only [kinfolkref09_Same_L0_step, ltF_ (Nat.lt_irrefl _)]; rfl)
  rcases h with ⟨i, z, h1, h2, h3, h4⟩ | ⟨h1, h2⟩
  ·rw [h4]
   have : ¬ a = b := by
    intro e
    subst e
    obtain ⟨g1, g2⟩ := zip_get h1
    rw [g1] at g2
    have hz : z.1 = z.2 := Option.some.inj g2
    simp [hz] at h2
   rw [decide_eq_false this]; rfl
  ·rw [h2]
   have : a = b := zip_eq hl fun z hz => by have := h1 z hz; simpa using this
   rw [decide_eq_true this]; rfl
 ·rw [decide_eq_false (show ¬ (a.length : Int) = (b.length : Int) by omega), decide_eq_false (fun e => hl (by rw [e]))]; rfl
theorem equal_go {a b : List Fd} (ha : a.length ≤ 1000) : slices_Equal_card_Field a b = some (decide (a = b)) := by
 unfold slices_Equal_card_Field
 rw [len_eq, len_eq]
 by_cases hl : a.length = b.length
 ·rw [decide_eq_true (show (a.length : Int) = (b.length : Int) by omega), cond_true]
  have hzl : (a.zip b).length = a.length := by rw [List.length_zip]; omega
  have h := first_go (p := fun z : Fd × Fd => !(decide (z.1 = z.2))) (s := a.zip b) (a := fun _ _ => ()) (b := ()) (step := slices_Equal_card_Field_L0_step a b (a.length : Int)) (fun k z hz => by
   have hk := lt_of_get hz
   rw [hzl] at hk
   obtain ⟨h1, h2⟩ := zip_get hz
   obtain ⟨x, y⟩ := z
   cases x with
   | mk d e f => cases y with
    | mk d2 e2 f2 =>
     simp only [slices_Equal_card_Field_L0_step, len_eq, ltT hk, ltT (show k < b.length by omega), le0, Int.toNat_natCast, h1, h2, cond_true, Bool.and_self, Option.bind_some, iaddN (show k ≤ 9223372036854775806 by omega), eqd]
     by_cases h : E_card_Field.mk d e f = .mk d2 e2 f2
     ·rw [decide_eq_true h]; simp [h]
     ·rw [decide_eq_false h]; simp [h]) (by rw [hzl]; simp only [slices_Equal_card_Field_L0_step, ltF_ (Nat.lt_irrefl _)]; rfl)
  rcases h with ⟨i, z, h1, h2, h3, h4⟩ | ⟨h1, h2⟩
  ·rw [h4]
   have : ¬ a = b := by
    intro e
    subst e
    obtain ⟨g1, g2⟩ := zip_get h1
    rw [g1] at g2
    have hz : z.1 = z.2 := Option.some.inj g2
    simp [hz] at h2
   rw [decide_eq_false this]; rfl
  ·rw [h2]
   have : a = b := zip_eq hl fun z hz => by have := h1 z hz; simpa using this
   rw [decide_eq_true this]; rfl
 ·rw [decide_eq_false (show ¬ (a.length : Int) = (b.length : Int) by omega), decide_eq_false (fun e => hl (by rw [e]))]; rfl
structure IsCard (c : List Fd) : Prop where
 ss : SS ltF c
 ok : ∀ x ∈ c, okF x = true
 short : ∀ x ∈ c, Short x
 few : c.length ≤ 8
end Go.Proofs.YteiikkpajcggfaaGreatDoor
