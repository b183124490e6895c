/- Each operation. No program in sight. -/
import Derived.Test.YtjjakdmcnkldoaaQEvO
namespace Go.Ev
set_option linter.unusedVariables false
set_option linter.unusedSimpArgs false

/-- As Turns, for a whole operation. -/
def TurnsN {R : Type} (P : Program) (x : Cx) (nw : Nat → Prop) (s : St) (e : Sem Next) (k : SV → St → Ans R) (r : R) : Prop :=
  ∃ u sv s' y, e.run P x.w = .ok (.value u) y.w ∧ Ext x y ∧ x.g.Le y.g ∧ (∀ n, y.g.U n → x.g.U n ∨ nw n) ∧ Sto y s'.objs s'.rows ∧ s'.slots = s.slots ∧ RepS y sv u ∧ Says (k sv s') r
theorem Turns.next {R : Type} {P : Program} {x : Cx} {nw : Nat → Prop} {s : St} {e : Sem Value} {k : SV → St → Ans R} {r : R} (h : Turns P x nw s e k r) : TurnsN P x nw s (do pure (.value (← e))) k r := by
  obtain ⟨u, sv, s', y, hr, rest⟩ := h
  exact ⟨u, sv, s', y, by simp [hr], rest⟩
theorem Gives.next {R : Type} {P : Program} {x : Cx} {nw : Nat → Prop} {s : St} {e : Sem Value} {k : SV → St → Ans R} {r : R} (hs : Sto x s.objs s.rows) (h : Gives P x e (fun v => k v s) r) : TurnsN P x nw s (do pure (.value (← e))) k r :=
  (Gives.turns hs h).next

theorem rep_opdL {x : Cx} {s : St} {a : Act} (hsl : Slots x s.slots a) : ∀ {l : List (Nat × Operand)} {vs : List (Nat × SV)}, opdL s l = some vs → vs.map (·.1) = l.map (·.1) ∧ RepSs x (vs.map (·.2)) (l.map fun z => a.eval z.2)
  | [], vs, h => by simp [opdL] at h; subst h; exact ⟨rfl, trivial⟩
  | (i, o) :: l, vs, h => by
    unfold opdL at h
    split at h
    · rename_i v r hv hr
      cases h
      obtain ⟨h1, h2⟩ := rep_opdL hsl hr
      exact ⟨by simp [h1], rep_opd hsl hv, h2⟩
    · cases h
theorem rep_opdA {x : Cx} {s : St} {a : Act} (hsl : Slots x s.slots a) : ∀ {l : List Operand} {vs : List SV}, opdA s l = some vs → RepSs x vs (l.map a.eval)
  | [], vs, h => by simp [opdA] at h; subst h; trivial
  | o :: l, vs, h => by
    unfold opdA at h
    split at h
    · rename_i v r hv hr
      cases h
      exact ⟨rep_opd hsl hv, rep_opdA hsl hr⟩
    · cases h
theorem rep_opdO {x : Cx} {s : St} {a : Act} (hsl : Slots x s.slots a) {o : Option Operand} {v : Option SV} (h : opdO s o = some v) : RepO x v (o.map a.eval) := by
  cases o with
  | none => simp [opdO] at h; subst h; trivial
  | some o =>
    unfold opdO at h
    cases hv : opd s o with
    | none => simp [hv] at h
    | some u => simp [hv] at h; subst h; exact rep_opd hsl hv

theorem says_op_build {R : Type} {P : Program} {x : Cx} {nw : Nat → Prop} {s : St} {a : Act} {t : TypeId} {ps : Array (Nat × Operand)} {k : SV → St → Ans R} {r : R} (hs : Sto x s.objs s.rows) (hsl : Slots x s.slots a)
    (h : Says (getD' (opdL s ps.toList) fun l => evBuild P t l fun v => k v s) r) : TurnsN P x nw s (do pure (.value (← Instr.build t (ps.map fun (i, x) => (i, a.eval x))))) k r := by
  obtain ⟨l, hl, h1⟩ := says_get h
  obtain ⟨h2, h3⟩ := rep_opdL hsl hl
  have e1 : ((ps.map fun z => (z.1, a.eval z.2)).toList.map (·.1)) = ps.toList.map (·.1) := by simp
  have e2 : ((ps.map fun z => (z.1, a.eval z.2)).toList.map (·.2)) = ps.toList.map fun z => a.eval z.2 := by simp
  exact Gives.next hs (says_build (vs := ps.map fun z => (z.1, a.eval z.2)) (by rw [h2, e1]) (by rw [e2]; exact h3) h1)
theorem says_op_buildSlice {R : Type} {P : Program} {x : Cx} {nm : Nat} {s : St} {a : Act} {t : TypeId} {n : Nat} {ps : Array (Nat × Operand)} {k : SV → St → Ans R} {r : R} (hs : Sto x s.objs s.rows) (hsl : Slots x s.slots a) (hn : ¬ x.g.U nm)
    (h : Says (getD' (opdL s ps.toList) fun l => evBuildSlice P t n l nm s k) r) : TurnsN P x (· = nm) s (do pure (.value (← Instr.buildSlice t n (ps.map fun (i, x) => (i, a.eval x))))) k r := by
  obtain ⟨l, hl, h1⟩ := says_get h
  obtain ⟨h2, h3⟩ := rep_opdL hsl hl
  have e1 : ((ps.map fun z => (z.1, a.eval z.2)).toList.map (·.1)) = ps.toList.map (·.1) := by simp
  have e2 : ((ps.map fun z => (z.1, a.eval z.2)).toList.map (·.2)) = ps.toList.map fun z => a.eval z.2 := by simp
  have h4 := says_buildSlice (vs := ps.map fun z => (z.1, a.eval z.2)) hs hn (by rw [h2, e1]) (by rw [e2]; exact h3) h1
  have e0 : (ps.map fun ((i, x) : Nat × Operand) => (i, a.eval x)) = ps.map fun z => (z.1, a.eval z.2) := rfl
  rw [e0]
  exact h4.next
theorem says_op_extract {R : Type} {P : Program} {x : Cx} {nw : Nat → Prop} {s : St} {a : Act} {y : Operand} {i : Nat} {k : SV → St → Ans R} {r : R} (hs : Sto x s.objs s.rows) (hsl : Slots x s.slots a)
    (h : Says (getD' (opd s y) fun v => match v with
    | .tup l => getD' (l[i]?) fun a => k (.av a) s
    | _ => none) r) : TurnsN P x nw s (do pure (.value (← Instr.extract (a.eval y) i))) k r := by
  obtain ⟨v, hv, h1⟩ := says_get h
  have hr := rep_opd hsl hv
  split at h1
  · rename_i l
    obtain ⟨av, hav, h2⟩ := says_get h1
    obtain ⟨vs, hvs, hl⟩ := hr
    have : ∃ u, vs.toList[i]? = some u ∧ RepA x av u := by
      have gen : ∀ {l : List AV} {us : List Value} {i : Nat}, RepAs x l us → l[i]? = some av → ∃ u, us[i]? = some u ∧ RepA x av u := by
        intro l
        induction l with
        | nil => intro us i _ h; simp at h
        | cons b l ih =>
          intro us i hh h
          cases us with
          | nil => exact hh.elim
          | cons u us =>
            cases i with
            | zero => simp at h; subst h; exact ⟨u, by simp, hh.1⟩
            | succ i => simp at h; obtain ⟨w, hw, hw2⟩ := ih hh.2 h; exact ⟨w, by simpa using hw, hw2⟩
      exact gen hl hav
    obtain ⟨u, hu, hra⟩ := this
    refine Gives.next hs (.av h2 (fun _ => ?_) hra)
    have hu2 : vs[i]? = some u := by simpa using hu
    simp [Instr.extract, hvs, hu2]
  · exact (says_none h1).elim

set_option maxHeartbeats 1000000 in
theorem says_op {R : Type} {P : Program} {C : Cfg} {x : Cx} {nm : Nat} {s : St} {a : Act} {o : Oper} {k : SV → St → Ans R} {r : R} (hs : Sto x s.objs s.rows) (hsl : Slots x s.slots a) (hn : ¬ x.g.U nm) (h : Says (evOp P C o.op nm s k) r) :
    TurnsN P x (· = nm) s (execOp a.eval o) k r := by
  obtain ⟨dst, op, ty, pos, after, guard⟩ := o
  simp only at h
  cases op
  case move y =>
    obtain ⟨v, hv, h1⟩ := says_get h
    exact ⟨a.eval y, v, s, x, by simp [execOp], Ext.refl x, G.Le.refl _, fun _ hU => .inl hU, hs, rfl, rep_opd hsl hv, h1⟩
  case assign y =>
    obtain ⟨v, hv, h1⟩ := says_get h
    exact ⟨a.eval y, v, s, x, by simp [execOp], Ext.refl x, G.Le.refl _, fun _ hU => .inl hU, hs, rfl, rep_opd hsl hv, h1⟩
  case pick c y z =>
    obtain ⟨v, hv, h1⟩ := says_get h
    obtain ⟨b, hb, h2⟩ := says_wBool h1
    have hc := rep_opd hsl hv
    rw [hb] at hc
    have hc := rep_bool hc
    cases b with
    | true =>
      obtain ⟨v, hv, h3⟩ := says_get h2
      exact ⟨a.eval y, v, s, x, by simp [execOp, hc, asBool], Ext.refl x, G.Le.refl _, fun _ hU => .inl hU, hs, rfl, rep_opd hsl hv, h3⟩
    | false =>
      obtain ⟨v, hv, h3⟩ := says_get h2
      exact ⟨a.eval z, v, s, x, by simp [execOp, hc, asBool], Ext.refl x, G.Le.refl _, fun _ hU => .inl hU, hs, rfl, rep_opd hsl hv, h3⟩
  case alloc e => exact (says_alloc hs hn h).next
  case box e y =>
    obtain ⟨v, hv, h1⟩ := says_get h
    exact (says_box hs hn (rep_opd hsl hv) h1).next
  case build t ps => exact says_op_build hs hsl h
  case buildSlice t n ps => exact says_op_buildSlice hs hsl hn h
  case load t y =>
    obtain ⟨v, hv, h1⟩ := says_get h
    obtain ⟨u, av, hrun, hr, h2⟩ := says_load (P := P) hs (rep_opd hsl hv) h1
    exact (Turns.same hs h2 hrun hr).next
  case nilCheck y =>
    obtain ⟨v, hv, h1⟩ := says_get h
    obtain ⟨c, hc, h2⟩ := says_wCv h1
    have hr := rep_opd hsl hv
    rw [hc] at hr
    have hp : (∃ b, a.eval y = .pointer (some b)) ∧ Says (k v s) r := by
      split at h2
      · have := hr.2
        simp only [RepC, RepP] at this
        obtain ⟨b, o, hv, _⟩ := this
        exact ⟨⟨_, hv⟩, h2⟩
      · exact ⟨⟨_, hr.2.2⟩, h2⟩
      · exact (says_none h2).elim
    obtain ⟨⟨b, hb⟩, h3⟩ := hp
    exact ⟨a.eval y, v, s, x, by simp [execOp, hb], Ext.refl x, G.Le.refl _, fun _ hU => .inl hU, hs, rfl, rep_opd hsl hv, h3⟩
  case binOp op t y z t2 =>
    obtain ⟨v, hv, h1⟩ := says_get h
    obtain ⟨u, hu, h2⟩ := says_get h1
    exact Gives.next hs (says_bin y z (rep_opd hsl hv) (rep_opd hsl hu) h2)
  case unOp op t y =>
    obtain ⟨v, hv, h1⟩ := says_get h
    exact Gives.next hs (says_un (rep_opd hsl hv) h1)
  case convert b c y =>
    obtain ⟨v, hv, h1⟩ := says_get h
    exact (says_convert hs hn (rep_opd hsl hv) h1).next
  case slice t y lo hi mx =>
    obtain ⟨v, hv, h1⟩ := says_get h
    obtain ⟨lo', hlo, h2⟩ := says_get h1
    obtain ⟨hi', hhi, h3⟩ := says_get h2
    obtain ⟨mx', hmx, h4⟩ := says_get h3
    exact Gives.next hs (says_slice hs (rep_opd hsl hv) (rep_opdO hsl hlo) (rep_opdO hsl hhi) (rep_opdO hsl hmx) h4)
  case fieldAddr t y f =>
    obtain ⟨v, hv, h1⟩ := says_get h
    exact Gives.next hs (says_fieldAddr (rep_opd hsl hv) h1)
  case field t y f =>
    obtain ⟨v, hv, h1⟩ := says_get h
    exact Gives.next hs (says_field (rep_opd hsl hv) h1)
  case indexAddr t y i =>
    obtain ⟨v, hv, h1⟩ := says_get h
    obtain ⟨u, hu, h2⟩ := says_get h1
    exact Gives.next hs (says_indexAddr hs (rep_opd hsl hv) (rep_opd hsl hu) h2)
  case index t y i =>
    obtain ⟨v, hv, h1⟩ := says_get h
    obtain ⟨u, hu, h2⟩ := says_get h1
    obtain ⟨hb, h3⟩ := says_chk h2
    exact Gives.next hs (says_index (rep_opd hsl hv) (rep_opd hsl hu) hb h3)
  case extract y i => exact says_op_extract hs hsl h
  all_goals exact (says_none h).elim
end Go.Ev
