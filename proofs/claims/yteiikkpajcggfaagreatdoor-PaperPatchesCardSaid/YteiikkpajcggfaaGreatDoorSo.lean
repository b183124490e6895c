/- Fields in their order; what the library's sort makes of a row of them. -/
import Derived.Test.YteiikkpajcggfaaGreatDoorA1
import Derived.Test.YteiikkpajcggfaaGreatDoorQ3
set_option linter.unusedVariables false
set_option linter.unusedSimpArgs false
namespace Go.Ev
theorem WkPss.take : ∀ {l m : List (List PV)}, WkPss l m → ∀ n : Nat, WkPss (l.take n) (m.take n)
 | _, _, .eq h, n => .eq (by rw [h])
 | _, _, .nil, n => by rw [List.take_nil]; exact .nil
 | _, _, .cons _ _, 0 => .nil
 | _, _, .cons h1 h2, n + 1 => .cons h1 (WkPss.take h2 n)
 | _, _, .app (f := f) (a := a) (b := b) (l := l) (m := m) h1 h2, n => by
  have hl := WkPss.len h1
  rw [List.length_map] at hl
  have g1 := WkPss.take h1 n
  have g2 := WkPss.take h2 (n - a.length)
  rw [← List.map_take] at g1 g2
  rw [List.take_append, ← List.map_take, List.take_append, ← hl]
  exact .app g1 g2
theorem WkPss.takeM {α : Type} {f : α → List PV} {l : List (List PV)} {m : List α} {n : Nat} (h : WkPss l (List.map f m)) : WkPss (List.take n l) (List.map f (List.take n m)) := by
 rw [List.map_take]
 exact h.take n
end Go.Ev
namespace Go.Proofs.YteiikkpajcggfaaGreatDoor
open Go.Ev Go.RowKit Go.Shelf Go.Sort
def cI (x y : Int) : Int := if x < y then -1 else if y < x then 1 else 0
theorem nan_int (x : Int) : cmp_isNaN_int x = some false := by simp [cmp_isNaN_int]
theorem nan_str (x : ByteArray) : cmp_isNaN_string x = some false := by simp [cmp_isNaN_string]
theorem compare_int (x y : Int) : cmp_Compare_int x y = some (cI x y) := by
 unfold cmp_Compare_int cI
 rw [nan_int, nan_int]
 by_cases h : x < y
 ·simp [h]
 ·by_cases h2 : y < x
  ·simp [h, h2]
  ·simp [h, h2]
theorem less_ltB : ∀ l m : List UInt8, Op.bytesLess l m = ltB l m
 | l, [] => by cases l <;> simp [Op.bytesLess, ltB]
 | [], _ :: _ => by simp [Op.bytesLess, ltB]
 | a :: l, b :: m => by
  rw [Op.bytesLess, ltB, less_ltB l m]
  by_cases h : a.toNat = b.toNat
  ·have : a = b := UInt8.toNat_inj.1 h
   subst this
   simp
  ·have h2 : ¬ a = b := fun e => h (by rw [e])
   rw [if_neg h]
   simp [h2, UInt8.lt_iff_toNat_lt]
def cS (x y : ByteArray) : Int := if ltB x.data.toList y.data.toList = true then -1 else if x = y then 0 else 1
theorem compare_str (x y : ByteArray) : cmp_Compare_string x y = some (cS x y) := by
 unfold cmp_Compare_string cS
 rw [nan_str, nan_str]
 simp only [ByteArray.toList_eq, less_ltB]
 cases h : ltB x.data.toList y.data.toList with
 | true => simp
 | false =>
  by_cases h2 : x = y
  ·simp [h2]
  ·simp [h2]
theorem iadd1 (n : Int) (h0 : 0 ≤ n) (h : n < 1000) : iadd .i64 n 1 = n + 1 := by
 unfold iadd
 simp [IntKind.wrap, IntKind.bits, IntKind.signed]
 omega
theorem or3 (a b c : Int) : cmp_Or_int [a, b, c] = some (if a = 0 then if b = 0 then c else b else a) := by
 unfold cmp_Or_int
 have s0 : cmp_Or_int_L0_step [a, b, c] (([a, b, c] : List Int).length : Int) 0 = if a = 0 then some (.inl 1) else some (.inr (.inl a)) := by
  by_cases h : a = 0 <;> simp [cmp_Or_int_L0_step, h, iadd1 0 (by omega) (by omega)]
 have s1 : cmp_Or_int_L0_step [a, b, c] (([a, b, c] : List Int).length : Int) 1 = if b = 0 then some (.inl 2) else some (.inr (.inl b)) := by
  by_cases h : b = 0 <;> simp [cmp_Or_int_L0_step, h, iadd1 1 (by omega) (by omega)]
 have s2 : cmp_Or_int_L0_step [a, b, c] (([a, b, c] : List Int).length : Int) 2 = if c = 0 then some (.inl 3) else some (.inr (.inl c)) := by
  by_cases h : c = 0 <;> simp [cmp_Or_int_L0_step, h, iadd1 2 (by omega) (by omega)]
 have s3 : cmp_Or_int_L0_step [a, b, c] (([a, b, c] : List Int).length : Int) 3 = some (.inr (.inr ())) := by
  simp [cmp_Or_int_L0_step]
 by_cases ha : a = 0
 ·rw [if_pos ha] at s0
  rw [runL_next s0, if_pos ha]
  by_cases hb : b = 0
  ·rw [if_pos hb] at s1
   rw [runL_next s1, if_pos hb]
   by_cases hc : c = 0
   ·rw [if_pos hc] at s2
    rw [runL_next s2, runL_done s3]
    simp [hc]
   ·rw [if_neg hc] at s2
    rw [runL_done s2]
    simp
  ·rw [if_neg hb] at s1
   rw [runL_done s1, if_neg hb]
   simp
 ·rw [if_neg ha] at s0
  rw [runL_done s0, if_neg ha]
  simp
def cF : E_card_Field → E_card_Field → Int
 | .mk a b c, .mk d e f => if cI a d = 0 then if cS b e = 0 then cS c f else cS b e else cI a d
theorem order_eq (a : Int) (b c : ByteArray) (d : Int) (e f : ByteArray) : card_order a b c d e f = some (cF (.mk a b c) (.mk d e f)) := by
 unfold card_order
 rw [compare_int, compare_str, compare_str]
 simp only [Option.bind_some, or3]
 rfl
abbrev FKey := Int × List UInt8 × List UInt8
def fkey : E_card_Field → FKey
 | .mk a b c => (a, b.data.toList, c.data.toList)
theorem ba_ext {a b : ByteArray} (h : a.data.toList = b.data.toList) : a = b := by
 cases a with
 | mk x => cases b with
  | mk y =>
   have : x = y := by apply Array.ext'; exact h
   rw [this]
theorem fkey_inj {x y : E_card_Field} (h : fkey x = fkey y) : x = y := by
 cases x with
 | mk a b c => cases y with
  | mk d e f =>
   simp only [fkey, Prod.mk.injEq] at h
   rw [h.1, ba_ext h.2.1, ba_ext h.2.2]
def ltK : FKey → FKey → Bool := lexO (fun x y : Int => decide (x < y)) (lexO ltB ltB)
theorem ltK_tot : Tot ltK := lexO_tot ltI_tot (lexO_tot ltB_tot ltB_tot)
def ltF (x y : E_card_Field) : Bool := ltK (fkey x) (fkey y)
theorem ltF_tot : Tot ltF where
 irr x := ltK_tot.irr _
 trans x y z := ltK_tot.trans _ _ _
 tri x y := by
  rcases ltK_tot.tri (fkey x) (fkey y) with h | h | h
  ·exact .inl h
  ·exact .inr (.inl (fkey_inj h))
  ·exact .inr (.inr h)
theorem cI_lt (x y : Int) : (cI x y < 0 ↔ x < y) ∧ (cI x y = 0 ↔ x = y) := by
 unfold cI
 by_cases h : x < y
 ·simp [h]; omega
 ·by_cases h2 : y < x
  ·simp [h, h2]; omega
  ·simp [h, h2]; omega
theorem cS_lt (x y : ByteArray) : (cS x y < 0 ↔ ltB x.data.toList y.data.toList = true) ∧ (cS x y = 0 ↔ x = y) := by
 unfold cS
 cases h : ltB x.data.toList y.data.toList with
 | true =>
  refine ⟨by simp, ?_⟩
  simp only [if_true]
  refine ⟨fun h => absurd h (by omega), fun e => ?_⟩
  rw [e, ltB_irr] at h; cases h
 | false =>
  by_cases h2 : x = y
  ·simp [h2]
  ·simp [h2]
theorem lt_key (x y : E_card_Field) : cF x y < 0 ↔ ltF x y = true := by
 cases x with
 | mk a b c => cases y with
  | mk d e f =>
   have h1 := cI_lt a d
   have h2 := cS_lt b e
   have h3 := cS_lt c f
   have e1 : (b.data.toList = e.data.toList) ↔ b = e := ⟨ba_ext, fun h => by rw [h]⟩
   show (if cI a d = 0 then if cS b e = 0 then cS c f else cS b e else cI a d) < 0 ↔ (if a = d then (if b.data.toList = e.data.toList then ltB c.data.toList f.data.toList else ltB b.data.toList e.data.toList) else decide (a < d)) = true
   by_cases k1 : a = d
   ·rw [if_pos (h1.2.2 k1), if_pos k1]
    by_cases k2 : b = e
    ·rw [if_pos (h2.2.2 k2), if_pos (e1.2 k2)]
     exact h3.1
    ·rw [if_neg (fun hn => k2 (h2.2.1 hn)), if_neg (fun hn => k2 (e1.1 hn))]
     exact h2.1
   ·rw [if_neg (fun hn => k1 (h1.2.1 hn)), if_neg k1, decide_eq_true_eq]
    exact h1.1
theorem lt_cF (x y : E_card_Field) : ltOf cF x y = ltF x y := by
 unfold ltOf
 cases h : ltF x y with
 | true => exact decide_eq_true ((lt_key x y).2 h)
 | false => exact decide_eq_false (fun hn => by rw [(lt_key x y).1 hn] at h; cases h)
theorem tot_swo {α : Type} {lt : α → α → Bool} (h : Tot lt) : SWO lt where
 irrefl := h.irr
 trans := h.trans
 ntrans x y z h1 h2 := by
  rcases h.tri x y with a | a | a
  ·rw [a] at h1; cases h1
  ·subst a; exact h2
  ·rcases h.tri y z with b | b | b
   ·rw [b] at h2; cases h2
   ·subst b; exact h1
   ·exact h.asym (h.trans _ _ _ b a)
theorem swoF : SWO (ltOf cF) := by
 have : ltOf cF = ltF := by funext x y; exact lt_cF x y
 rw [this]; exact tot_swo ltF_tot
noncomputable def sortF (l : List E_card_Field) : List E_card_Field := l.mergeSort fun x y => !(ltF y x)
instance : Inhabited E_card_Field := ⟨.mk 0 ⟨#[]⟩ ⟨#[]⟩⟩
noncomputable def slices_SortFunc (l : List E_card_Field) : Option (List E_card_Field) := if l.length < 4611686018427387904 then some (sortF l) else none
def slices_SortFunc_out (l : List E_card_Field) : List E_card_Field → Res
 | l2 => ([], [], [.recs 3 (List.map E_card_Field.pv l2)])
theorem slices_SortFunc_runs (l r_ : List E_card_Field) (h : slices_SortFunc l = some r_) : RunsI Tryz.prog 95 [(.one (.own 0 0 (List.map E_card_Field.pv l).length false)), (.one (.fn 96 []))] [] [(.recs 3 (List.map E_card_Field.pv l))] (slices_SortFunc_out l r_) := by
 unfold slices_SortFunc at h
 split at h
 ·rename_i hl
  cases h
  have hs : ltOf cF = ltF := by funext x y; exact lt_cF x y
  have hT : ∀ x y, (ltOf cF) x y = false → (ltOf cF) y x = false → x = y := by
   intro x y h1 h2
   rw [hs] at h1 h2
   rcases ltF_tot.tri x y with a | a | a
   ·rw [a] at h1; cases h1
   ·exact a
   ·rw [a] at h2; cases h2
  have hg : ∀ x y, @Runs dl1 Tryz.prog 96 [.agg ((E_card_Field.pv x).map .pv), .agg ((E_card_Field.pv y).map .pv)] [] [] ([.one (.pv (.int .i64 (cF x y)))], [], []) := by
   intro x y
   cases x with
   | mk a b c => cases y with
    | mk d e f => exact @card_order_runs dl1 a b c d e f _ (order_eq a b c d e f)
  have h0 := RunsI.sortFunc Tryz.sortF (by kernel_rfl) 3 (by decide) Tryz.isAgg44 Tryz.sizeOf44 E_card_Field.pv (fun x => by cases x; rfl) (fun x p hp => by cases x; simp only [E_card_Field.pv, List.mem_cons, List.not_mem_nil, or_false] at hp; rcases hp with rfl | rfl | rfl <;> rfl) cF swoF hT 96 hg (enters_of Tryz.func96 (by kernel_rfl) rfl) l false hl
  rw [hs] at h0
  rw [List.length_map]
  exact h0
 ·cases h
end Go.Proofs.YteiikkpajcggfaaGreatDoor
