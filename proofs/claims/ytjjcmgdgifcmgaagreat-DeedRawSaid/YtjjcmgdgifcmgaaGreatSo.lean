/- Marks in their order; what slices.SortedFunc makes of a map's keys. -/
import Derived.Test.YtjjcmgdgifcmgaaGreatA1
import Derived.Test.YtjjcmgdgifcmgaaGreatShelf
import Derived.Test.YtjjcmgdgifcmgaaGreatQ4
set_option linter.unusedVariables false
set_option linter.unusedSimpArgs false
namespace Go.Proofs.YtjjcmgdgifcmgaaGreat
open Go.Ev Go.RowKit Go.Shelf Go.Sort Go.Proofs
def cI (x y : Int) : Int := if x < y then -1 else if y < x then 1 else 0
theorem zuj (x : Int) : zdV x = some false := by simp [zdV]
theorem zuk (x : Int) : zcI x = some false := by simp [zcI]
theorem zrH (x y : Int) : zcA x y = some (cI x y) := by
 unfold zcA cI
 rw [zuj, zuj]
 by_cases h : x < y
 ·simp [h]
 ·by_cases h2 : y < x
  ·simp [h, h2]
  ·simp [h, h2]
theorem zrI (x y : Int) : zbR x y = some (cI x y) := by
 unfold zbR cI
 rw [zuk, zuk]
 by_cases h : x < y
 ·simp [h]
 ·by_cases h2 : y < x
  ·simp [h, h2]
  ·simp [h, h2]
theorem zw8 (n : Int) (h0 : 0 ≤ n) (h : n < 1000) : iadd .i64 n 1 = n + 1 := by
 unfold iadd
 simp [IntKind.wrap, IntKind.bits, IntKind.signed]
 omega
theorem or2 (a b : Int) : zhR [a, b] = some (if a = 0 then b else a) := by
 unfold zhR
 have s0 : zbn [a, b] (([a, b] : List Int).length : Int) 0 = if a = 0 then some (.inl 1) else some (.inr (.inl a)) := by
  by_cases h : a = 0 <;> simp [zbn, h, zw8 0 (by omega) (by omega)]
 have s1 : zbn [a, b] (([a, b] : List Int).length : Int) 1 = if b = 0 then some (.inl 2) else some (.inr (.inl b)) := by
  by_cases h : b = 0 <;> simp [zbn, h, zw8 1 (by omega) (by omega)]
 have s2 : zbn [a, b] (([a, b] : List Int).length : Int) 2 = some (.inr (.inr ())) := by
  simp [zbn]
 by_cases ha : a = 0
 ·rw [if_pos ha] at s0
  rw [za8 s0, if_pos ha]
  by_cases hb : b = 0
  ·rw [if_pos hb] at s1
   rw [za8 s1, zaA s2]
   simp [hb]
  ·rw [if_neg hb] at s1
   rw [zaA s1]
   simp
 ·rw [if_neg ha] at s0
  rw [zaA s0, if_neg ha]
  simp
def cM (x y : Mk) : Int := if cI x.fr y.fr = 0 then cI x.no y.no else cI x.fr y.fr
theorem zvz (a b c d : Int) : zfU a b c d = some (cM ⟨a, b⟩ ⟨c, d⟩) := by
 unfold zfU
 rw [zrH, zrI]
 simp only [Option.bind_some, or2]
 rfl
theorem zw0 (x y : Int) : (cI x y < 0 ↔ x < y) ∧ (cI x y = 0 ↔ x = y) := by
 unfold cI
 by_cases h : x < y
 ·simp [h]; omega
 ·by_cases h2 : y < x
  ·simp [h, h2]; omega
  ·simp [h, h2]; omega
theorem zw1 (x y : Mk) : ltOf cM x y = true ↔ x.fr < y.fr ∨ x.fr = y.fr ∧ x.no < y.no := by
 have h1 := zw0 x.fr y.fr
 have h2 := zw0 x.no y.no
 unfold ltOf cM
 rw [decide_eq_true_eq]
 by_cases h : x.fr = y.fr
 ·rw [if_pos (h1.2.2 h)]
  rw [h2.1]
  constructor
  ·intro h3; exact .inr ⟨h, h3⟩
  ·rintro (h3 | h3)
   ·omega
   ·exact h3.2
 ·rw [if_neg (fun hn => h (h1.2.1 hn)), h1.1]
  constructor
  ·intro h3; exact .inl h3
  ·rintro (h3 | h3)
   ·exact h3
   ·exact absurd h3.1 h
theorem zsv (x y : Mk) : ltOf cM x y = false ↔ ¬ (x.fr < y.fr ∨ x.fr = y.fr ∧ x.no < y.no) := by
 rw [← zw1]; simp
theorem swoM : SWO (ltOf cM) where
 irrefl x := by rw [zsv]; omega
 trans x y z h1 h2 := by rw [zw1] at *; omega
 ntrans x y z h1 h2 := by rw [zsv] at *; omega
theorem totM (x y : Mk) (h1 : ltOf cM x y = false) (h2 : ltOf cM y x = false) : x = y := by
 rw [zsv] at h1 h2
 have e1 : x.fr = y.fr := by omega
 have e2 : x.no = y.no := by omega
 cases x; cases y
 simp only at e1 e2
 rw [e1, e2]
noncomputable def zuf : Field := (Tryz.prog.fieldsOf 60)[0]!
noncomputable def zug : Field := (Tryz.prog.fieldsOf 60)[1]!
noncomputable def zqh : Go.Shelf.Ren := ⟨fun | 59 => 51 | 60 => 52 | 80 => 89 | 78 => 87 | 93 => 121 | 79 => 88 | n => n, fun | 0 => 0 | 3 => 3 | 4 => 4 | 61 => 60 | 64 => 66 | 99 => 80 | 59 => 58 | 110 => 110 | 111 => 111 | 113 => 113 | n => n, fun n => n⟩
theorem zvw : LayM Tryz.prog zqh #[zuf, zug] := {
 mixed := by kernel_rfl
 f59 := ⟨Tryz.f51.name, by decide, Tryz.func51.trans (congrArg some (by kernel_rfl))⟩
 f60 := ⟨Tryz.f52.name, by decide, Tryz.func52.trans (congrArg some (by kernel_rfl))⟩
 f78 := ⟨Tryz.f87.name, by decide, Tryz.func87.trans (congrArg some (by kernel_rfl))⟩
 f80 := ⟨Tryz.f89.name, by decide, Tryz.func89.trans (congrArg some (by kernel_rfl))⟩
 f93 := ⟨Tryz.f121.name, by decide, Tryz.func121.trans (congrArg some (by kernel_rfl))⟩
 t0 := by kernel_rfl
 a0 := Tryz.isAgg0
 z0 := Tryz.sizeOf0
 v0 := Tryz.zeroValue0
 t3 := by kernel_rfl
 a3 := Tryz.isAgg3
 z3 := Tryz.sizeOf3
 v3 := Tryz.zeroValue3
 t4 := by kernel_rfl
 a4 := Tryz.isAgg4
 z4 := Tryz.sizeOf4
 v4 := Tryz.zeroValue4
 t61 := by kernel_rfl
 a61 := Tryz.isAgg60
 z61 := Tryz.sizeOf60
 v61 := Tryz.zeroValue60
 t64 := by kernel_rfl
 a64 := Tryz.isAgg66
 z64 := Tryz.sizeOf66
 v64 := Tryz.zeroValue66
 t99 := by kernel_rfl
 a99 := Tryz.isAgg80
 z99 := Tryz.sizeOf80
 v99 := Tryz.zeroValue80
 t59 := by kernel_rfl
 a59 := Tryz.isAgg58
 z59 := Tryz.sizeOf58
 v59 := Tryz.zeroValue58
 t110 := by kernel_rfl
 a110 := Tryz.isAgg110
 z110 := Tryz.sizeOf110
 v110 := Tryz.zeroValue110
 t111 := by kernel_rfl
 a111 := Tryz.isAgg111
 z111 := Tryz.sizeOf111
 v111 := Tryz.zeroValue111
 t113 := by kernel_rfl
 a113 := Tryz.isAgg113
 z113 := Tryz.sizeOf113
 v113 := Tryz.zeroValue113
 i61 := by kernel_rfl }
theorem zv4 : ztH Tryz.prog 60 zuf zug := ⟨by kernel_rfl, by kernel_rfl, by kernel_rfl, by kernel_rfl, by kernel_rfl, by kernel_rfl, by kernel_rfl, by kernel_rfl, by decide +kernel, by decide +kernel, by kernel_rfl, by decide +kernel⟩
theorem zxi : Maps.Keyed Tryz.prog (zqh.t 61) := Maps.Keyed.of_law (deep_law (m := 2) (by decide) (by kernel_rfl) (by kernel_rfl) (by kernel_rfl))
def toE (a : Mk) : zac := .mk a.fr a.no
def zg9 (m : List ((Int × Int) × Int)) : List Mk := m.map fun e => ⟨e.1.1, e.1.2⟩
def okM (m : List ((Int × Int) × Int)) : Prop := (m.map (·.1)).Nodup ∧ (∀ e ∈ m, (Lit.int .i64 e.1.1).wf = true ∧ (Lit.int .u64 e.1.2).wf = true) ∧ m.length ≤ 536870912
open Classical in
noncomputable def zcf (m : List ((Int × Int) × Int)) : Option (List zac) := if okM m then some ((zkp cM (zg9 m)).map toE) else none
def zeI (m : List ((Int × Int) × Int)) : List zac → Res
 | l2 => ([(.one (.own 0 0 ((List.map zac.pv l2)).length false))], [[(.mp 1)], [(.maph (.st [.i64, .u64]) false (List.map M_deed_Mark_int.pv m) [])]], [(.recs 2 (List.map zac.pv l2))])
theorem zgY (m : List ((Int × Int) × Int)) (r_ : List zac) (h : zcf m = some r_) : Runs Tryz.prog 51 [(.one (.fn 89 [(.ref 0 0)])), (.one (.fn 53 []))] [[(.mp 1)], [(.maph (.st [.i64, .u64]) false (List.map M_deed_Mark_int.pv m) [])]] [] (zeI m r_) := by
 unfold zcf at h
 split at h
 ·rename_i hm
  cases h
  obtain ⟨h1, h2, h3⟩ := hm
  have hg : ∀ x y : Mk, @Runs dl1 Tryz.prog 53 [.agg ((pvM x).map .pv), .agg ((pvM y).map .pv)] [] [] ([.one (.pv (.int .i64 (cM x y)))], [], []) := fun x y => @zg3 dl1 x.fr x.no y.fr y.no _ (zvz _ _ _ _)
  have hks : (List.map M_deed_Mark_int.pv m).map (·.1) = (zg9 m).map pvM := by simp [zg9, Function.comp_def, M_deed_Mark_int.pv, pvM]
  have hnd : (zg9 m).Nodup := by
   have : (zg9 m) = (m.map (·.1)).map fun k => (⟨k.1, k.2⟩ : Mk) := by simp [zg9, Function.comp_def]
   rw [this]
   exact List.pairwise_map.2 (List.Pairwise.imp (fun {a b} hne he => hne (by obtain ⟨a1, a2⟩ := a; obtain ⟨b1, b2⟩ := b; simpa using he)) h1)
  have hkl : ∀ a ∈ zg9 m, ∃ l, keyOf Tryz.prog (zqh.t 61) (encM a) = some l := by
   intro a ha
   obtain ⟨e, he, rfl⟩ := List.mem_map.1 ha
   exact zv4.lit _ (h2 e he).1 (h2 e he).2
  have hlen : (zg9 m).length = m.length := by simp [zg9]
  have h0 := Runs.sortedMarks zvw zxi (fun h => zv4.enc h) (by kernel_rfl) (List.map M_deed_Mark_int.pv m) false (zg9 m) hks hnd hkl (by rw [hlen]; exact h3) cM swoM totM 53 (fun l hl =>
   zte.sortFunc Tryz.sortF (by kernel_rfl) 2 (by decide) Tryz.isAgg60 Tryz.sizeOf60 pvM (fun x => rfl) (fun x p hp => by simp only [pvM, List.mem_cons, List.not_mem_nil, or_false] at hp; rcases hp with rfl | rfl <;> rfl) cM swoM totM 53 hg (enters_of Tryz.func53 (by kernel_rfl) rfl) l false (by rw [hl, hlen]; omega))
  have e1 : (List.map zac.pv ((zkp cM (zg9 m)).map toE)) = (zkp cM (zg9 m)).map pvM := by simp [Function.comp_def, toE, zac.pv, pvM]
  simp only [zeI]
  rw [e1, List.length_map, zit]
  exact h0
 ·cases h
theorem _root_.Go.Ev.WkPss.takeN {α : Type} {f : α → List PV} {l : List (List PV)} {m : List α} {n n' : Nat} (hn : n = n') (h : WkPss l (List.map f m)) : WkPss (List.take n l) (List.map f (List.take n' m)) := by
 subst hn
 exact WkPss.takeM h
def okK (m : List (Int × Int)) : Prop := (m.map (·.1)).Nodup ∧ (∀ e ∈ m, -9223372036854775808 ≤ e.1 ∧ e.1 ≤ 9223372036854775807) ∧ m.length ≤ 536870912
open Classical in
noncomputable def zdA (m : List (Int × Int)) : Option (List Int) := if okK m then some (zk7 (m.map (·.1))) else none
def zfT (m : List (Int × Int)) : List Int → Res
 | l2 => ([(.one (.own 0 0 (l2).length false))], [[(.mp 1)], [(.maph (.int .i64) false (List.map M_int_int.pv m) [])]], [(.ints .i64 l2)])
theorem zwQ : AnyZI.SortsIn Tryz.prog Tryz.sortedI_ren Fence.wide 5 :=
 ⟨fun blk off cap ss W hH hb hs => (callsIn_wide (n := 5)).2 (Any.slices_Sort_int Tryz.lays189 blk off cap ss W hH hb hs), fun p cap W => (callsIn_wide (n := 5)).2 (Any.slices_Sort_int_none Tryz.lays189 p cap W)⟩
theorem ziW (m : List (Int × Int)) (r_ : List Int) (h : zdA m = some r_) : Runs Tryz.prog 48 [(.one (.fn 86 [(.ref 0 0)]))] [[(.mp 1)], [(.maph (.int .i64) false (List.map M_int_int.pv m) [])]] [] (zfT m r_) := by
 unfold zdA at h
 split at h
 ·rename_i hm
  cases h
  obtain ⟨h1, h2, h3⟩ := hm
  have h0 := Runs.sortedInts (ρk := Tryz.keysI_ren) (ρs := Tryz.sortedI_ren) Tryz.keysI Tryz.sortedI (by kernel_rfl) (List.map M_int_int.pv m) false (m.map (·.1)) (by simp [Function.comp_def, M_int_int.pv]) h1 (fun a ha => by obtain ⟨e, he, rfl⟩ := List.mem_map.1 ha; exact h2 e he) (by rw [List.length_map]; exact h3) zwQ (enters_of Tryz.func85 (by kernel_rfl) rfl) rfl
  simp only [zfT]
  rw [zis]
  exact h0
 ·cases h
end Go.Proofs.YtjjcmgdgifcmgaaGreat
