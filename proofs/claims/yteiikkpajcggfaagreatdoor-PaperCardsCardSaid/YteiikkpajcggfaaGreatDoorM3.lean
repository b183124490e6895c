/- What bytes.Compare answers, by value. -/
import Derived.Test.YteiikkpajcggfaaGreatDoorM1
import Derived.Lib.BytesEntry
set_option linter.unusedVariables false
set_option linter.unusedSimpArgs false
namespace Go.Proofs.YteiikkpajcggfaaGreatDoor
open Go.RowKit Go.Lib Go.Ev
theorem run_bytesOf {w : World} {ok okr : Nat → Prop} {l : List Int} {t : Bool} {v : Value} (h : RepP w ok okr (.ints .u8 l t) v) : (Extern.Bytes.bytesOf v).run Tryz.prog w = .ok ⟨(Lib.bytesOf l).toArray⟩ w := by
 simp only [RepP] at h
 rcases h with ⟨rfl, h6⟩ | ⟨b, o, cap, sp, rfl, hn, ht, hc⟩
 ·have : l = [] := List.length_eq_zero_iff.1 h6
  subst this
  rfl
 ·cases l with
  | nil => rfl
  | cons a l =>
   obtain ⟨hsp, _, hf⟩ := hc (by simp)
   have hsp0 : sp = none := hsp
   subst hsp0
   have h := run_loadBytesX (P := Tryz.prog) w (a :: l) ⟨b, o, none⟩ .empty (fun j x hj => by
    have hjl : j < (a :: l).length := (List.getElem?_eq_some_iff.1 hj).1
    have e : (⟨b, o, none⟩ : Addr).add j = ⟨b, o + j, none⟩ := by unfold Addr.add; split <;> simp_all
    rw [e]
    have this : w.cell? ⟨b, o + j, none⟩ = some (.int .u8 ((a :: l).getD j 0)) := hf j hjl
    rw [this, List.getD_eq_getElem?_getD, hj]
    rfl)
   show (Extern.Bytes.loadBytes ⟨b, o, none⟩ (a :: l).length .empty).run Tryz.prog w = _
   rw [h]
   congr 1
   apply ByteArray.ext
   simp
theorem run_compareS {w : World} {ok okr ok2 okr2 : Nat → Prop} {l m : List Int} {t t2 : Bool} {u v : Value} (h : RepP w ok okr (.ints .u8 l t) u) (h2 : RepP w ok2 okr2 (.ints .u8 m t2) v) :
  (Extern.BytealgCompare.compare #[u, v]).run Tryz.prog w = .ok (.int .i64 (compareBytes (Lib.bytesOf l) (Lib.bytesOf m))) w := by
 change Sem.run Tryz.prog (do pure (goInt (Extern.BytealgCompare.cmp (← Extern.Bytes.bytesOf u) (← Extern.Bytes.bytesOf v)))) w = _
 simp only [Sem.run_bind, Sem.run_pure, Result.andThen, run_bytesOf h, run_bytesOf h2]
 rw [cmp_eq]
 rfl
set_option maxHeartbeats 1000000 in
set_option maxRecDepth 100000 in
theorem compareWalk (w : World) {ok okr ok2 okr2 : Nat → Prop} {l m : List Int} {t t2 : Bool} {u v : Value} (h : RepP w ok okr (.ints .u8 l t) u) (h2 : RepP w ok2 okr2 (.ints .u8 m t2) v) :
  Calls Tryz.prog 79 #[u, v] w fun e w' => e = .returned (.int .i64 (compareBytes (Lib.bytesOf l) (Lib.bytesOf m))) ∧ w' = w := by
 go_enter Tryz.func79, Tryz.ntmps79
 go_wp2
 rw [run_callFunc_extern Tryz.func115 (by kernel_rfl) (by kernel_rfl) (by kernel_rfl) (e := Extern.BytealgCompare.compare) (by kernel_rfl), run_compareS h h2]
 simp only [Result.andThen]
 rw [Oper.upon_value]
 go_wp2
 go_ret
 exact ⟨rfl, rfl⟩
noncomputable def bytes_Compare (l m : List Int) : Option Int := some (compareBytes (Lib.bytesOf l) (Lib.bytesOf m))
def bytes_Compare_out (l m : List Int) : Int → Res
 | n => ([.one (.pv (.int .i64 n))], [], [])
theorem bytes_Compare_runs (l m : List Int) (r_ : Int) (h : bytes_Compare l m = some r_) : Runs Tryz.prog 79 [.one (.pv (.ints .u8 l false)), .one (.pv (.ints .u8 m false))] [] [] (bytes_Compare_out l m r_) := by
 unfold bytes_Compare at h
 cases h
 refine Runs.quiet (by kernel_rfl) rfl fun x vals hgd hr => ?_
 match vals, hr with
 | [u, v], hr =>
  have h1 := hr.1.2
  have h2 := hr.2.1.2
  simp only [RepC] at h1 h2
  refine (compareWalk x.w h1 h2).mono ?_
  rintro e w' ⟨rfl, rfl⟩
  exact ⟨_, rfl, Below.refl _ _, fun y _ => ⟨rfl, by simp only [RepC, RepP]⟩⟩
end Go.Proofs.YteiikkpajcggfaaGreatDoor
