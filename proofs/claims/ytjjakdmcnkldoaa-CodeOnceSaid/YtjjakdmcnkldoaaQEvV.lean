/- Regions whose order is drawn. No program in sight. -/
import Derived.Test.YtjjakdmcnkldoaaQEvU
namespace Go.Ev
set_option linter.unusedVariables false
set_option linter.unusedSimpArgs false

/-- What lasts is as it was. -/
def Agree (x : Cx) (w : World) : Prop := ∀ b, x.okB b → w.heap[b]? = x.w.heap[b]?
theorem Agree.refl (x : Cx) : Agree x x.w := fun _ _ => rfl
theorem Agree.of_ext {x y : Cx} (h : Ext x y) {w : World} (hw : Agree y w) : Agree x w := fun b hb => by
  rw [hw b (h.okB hb)]
  exact h.blk b hb.1 hb.2

def Steady {R : Type} (P : Program) (x : Cx) (e : Sem Next) (k : SV → Ans R) (r : R) : Prop := ∃ u sv, (∀ w, Agree x w → e.run P w = .ok (.value u) w) ∧ RepS x sv u ∧ Says (k sv) r
theorem Gives.steady {R : Type} {P : Program} {x : Cx} {e : Sem Value} {k : SV → Ans R} {r : R} (h : Gives P x e k r) : Steady P x (do pure (.value (← e))) k r := by
  obtain ⟨u, sv, hr, hv, h⟩ := h
  exact ⟨u, sv, fun w _ => by simp [hr w], hv, h⟩
theorem says_loadS {R : Type} {P : Program} {x : Cx} {t : TypeId} {av : SV} {s : St} {v : Value} {k : SV → Ans R} {r : R} (hs : Sto x s.objs s.rows) (hv : RepS x av v)
    (hk : (∃ cells off, av = pone (.imm cells off)) ∨ ∃ p i fo, av = cone (.iadr p i fo)) (h : Says (evLoad P t av s k) r) :
    Steady P x (do pure (.value (← Instr.loadAt t v))) k r := by
  obtain ⟨ti, ht, h0⟩ := says_get h
  clear h
  obtain ⟨c, hcc, h⟩ := says_wCv h0
  clear h0
  rw [hcc] at hv hk
  clear hcc
  have fin : ∀ {b o : Nat} {cs : List CV} {kk : AV → Ans R}, x.okB b → cs.length = ti.size → CellsAt x b o cs → Says (toAv ti.agg cs kk) r → v = .pointer (some ⟨b, o, none⟩) →
      ∃ u a, (∀ w, Agree x w → (Instr.loadAt t v).run P w = .ok u w) ∧ RepA x a u ∧ Says (kk a) r := by
    intro b o cs kk hb hn hc h hv
    obtain ⟨vs, hr, hcell⟩ := hc
    obtain ⟨a, hk, ha, h1⟩ := says_toAv hr h
    refine ⟨_, a, fun w hw => ?_, ha, hk⟩
    rw [hv]
    simp only [Instr.loadAt, Instr.sureAddr, pure_bind]
    refine run_loadVar ht (by rw [← hn, repL_length hr]) h1 (fun j v hj => ?_)
    rw [World.cell?_of_block (a := ⟨b, o + j, none⟩) (hw b hb)]
    exact hcell j v hj
  have done : (∃ u a, (∀ w, Agree x w → (Instr.loadAt t v).run P w = .ok u w) ∧ RepA x a u ∧ Says (k (.av a)) r) → Steady P x (do pure (.value (← Instr.loadAt t v))) k r := by
    rintro ⟨u, a, h1, h2, h3⟩
    exact ⟨u, .av a, fun w hw => by simp [h1 w hw], h2, h3⟩
  obtain ⟨h1, hc⟩ := hv
  rcases hk with ⟨cells, off, hk⟩ | ⟨p, i, fo, hk⟩
  · cases hk
    simp only [RepC, RepP] at hc
    obtain ⟨b, o, hv, hb, hcells⟩ := hc
    obtain ⟨cs, hn, hca, h⟩ := says_takeP hcells h
    exact done (fin (Cx.okB_of_okP hb) hn hca h hv)
  · cases hk
    obtain ⟨b, o, n, cap, hp, hi, hv⟩ := hc
    obtain ⟨rw, tt, h, hsl, hcase⟩ := says_row (r0 := .recs ti.size []) rfl (fun f => by simp [RowIs, RepPss]) hp h
    rcases hsl with ⟨hx, _⟩ | ⟨b', o', cap', sp', hv', hle, _, hcell⟩
    · cases hx
    · obtain ⟨rfl, rfl, rfl, rfl⟩ : b' = b ∧ o' = o ∧ rw.len = n ∧ cap' = cap := by cases hv'; exact ⟨rfl, rfl, rfl, rfl⟩
      obtain ⟨cs, hn, hca, h⟩ := says_elem (hcell (by omega)).2.2 hi h
      have he : p.esz = rw.esz := by
        rcases hcase with rfl | ⟨rfl, _⟩
        · cases rw <;> rfl
        · simp [Row.len] at hi
      exact done (fin (hcell (by omega)).2.1 hn hca h (by rw [hv, he]))

theorem says_steady {R : Type} {V : Env} {x : Cx} {s : St} {a : Act} {o : Oper} {nm : Nat → Nat} {sc : List Ev} {k : List Ev → SV → St → Ans R} {r : R} (hs : Sto x s.objs s.rows) (hsl : Slots x s.slots a) (hst : steadyOp V.P o.op s = true)
    (h : Says (evAny V o.op nm s sc k) r) : ∃ sc', Steady V.P x (execOp a.eval o) (fun sv => k sc' sv s) r := by
  obtain ⟨dst, op, ty, pos, after, guard⟩ := o
  simp only at h hst
  cases op
  case move y =>
    obtain ⟨v, hv, h1⟩ := says_get h
    exact ⟨sc, a.eval y, v, fun w _ => by simp [execOp], rep_opd hsl hv, h1⟩
  case assign y =>
    obtain ⟨v, hv, h1⟩ := says_get h
    exact ⟨sc, a.eval y, v, fun w _ => by simp [execOp], rep_opd hsl hv, h1⟩
  case pick c y z =>
    obtain ⟨v, hv, h1⟩ := says_get h
    obtain ⟨b, hb, h2⟩ := says_wBool h1
    have hc := rep_opd hsl hv
    rw [hb] at hc
    have hc := rep_bool hc
    cases b with
    | true =>
      obtain ⟨v, hv, h3⟩ := says_get h2
      exact ⟨sc, a.eval y, v, fun w _ => by simp [execOp, hc, asBool], rep_opd hsl hv, h3⟩
    | false =>
      obtain ⟨v, hv, h3⟩ := says_get h2
      exact ⟨sc, a.eval z, v, fun w _ => by simp [execOp, hc, asBool], rep_opd hsl hv, h3⟩
  case nilCheck y =>
    obtain ⟨v, hv, h1⟩ := says_get h
    obtain ⟨c, hc, h2⟩ := says_wCv h1
    have hr := rep_opd hsl hv
    rw [hc] at hr
    have hp : (∃ b, a.eval y = .pointer (some b)) ∧ Says (k sc v s) r := by
      split at h2
      · have := hr.2
        simp only [RepC, RepP] at this
        obtain ⟨b, o, hv, _⟩ := this
        exact ⟨⟨_, hv⟩, h2⟩
      · exact ⟨⟨_, hr.2.2⟩, h2⟩
      · exact (says_none h2).elim
    obtain ⟨⟨b, hb⟩, h3⟩ := hp
    exact ⟨sc, a.eval y, v, fun w _ => by simp [execOp, hb], rep_opd hsl hv, h3⟩
  case build t ps =>
    obtain ⟨l, hl, h1⟩ := says_get h
    obtain ⟨h2, h3⟩ := rep_opdL hsl hl
    have e1 : ((ps.map fun z => (z.1, a.eval z.2)).toList.map (·.1)) = ps.toList.map (·.1) := by simp
    have e2 : ((ps.map fun z => (z.1, a.eval z.2)).toList.map (·.2)) = ps.toList.map fun z => a.eval z.2 := by simp
    exact ⟨sc, (says_build (P := V.P) (vs := ps.map fun z => (z.1, a.eval z.2)) (by rw [h2, e1]) (by rw [e2]; exact h3) h1).steady⟩
  case load t y =>
    obtain ⟨v, hv, h0⟩ := says_get h
    obtain ⟨sc', h1⟩ := says_loadE h0
    refine ⟨sc', says_loadS (P := V.P) hs (rep_opd hsl hv) ?_ h1⟩
    simp only [steadyOp, hv] at hst
    split at hst
    · rename_i c o he; cases he; exact .inl ⟨_, _, rfl⟩
    · rename_i p i fo he; cases he; exact .inr ⟨_, _, _, rfl⟩
    · cases hst
  case binOp op t y z t2 =>
    obtain ⟨v, hv, h1⟩ := says_get h
    obtain ⟨u, hu, h2⟩ := says_get h1
    exact ⟨sc, (says_bin y z (rep_opd hsl hv) (rep_opd hsl hu) h2).steady⟩
  case unOp op t y =>
    obtain ⟨v, hv, h1⟩ := says_get h
    exact ⟨sc, (says_un (rep_opd hsl hv) h1).steady⟩
  case convert b c y =>
    obtain ⟨v, hv, h1⟩ := says_get h
    obtain ⟨hsrc, h2⟩ := says_chk h1
    obtain ⟨ds, hds⟩ := Option.isSome_iff_exists.1 hsrc
    simp only [steadyOp] at hst
    split at hst
    · rename_i kd hdst
      simp only [hdst] at h2
      obtain ⟨k0, n, ha, h3⟩ := says_wInt h2
      have hr := rep_opd hsl hv
      rw [ha] at hr
      have he := rep_int hr
      refine ⟨sc, Gives.steady (e := convert b c (a.eval y)) (.int h3 (fun _ => ?_))⟩
      rw [he]
      simp [convert, run_underlying hds, run_underlying hdst, Conv.intToInt]
    · cases hst
  case slice t y lo hi mx =>
    obtain ⟨v, hv, h1⟩ := says_get h
    obtain ⟨lo', hlo, h2⟩ := says_get h1
    obtain ⟨hi', hhi, h3⟩ := says_get h2
    obtain ⟨mx', hmx, h4⟩ := says_get h3
    exact ⟨sc, (says_slice hs (rep_opd hsl hv) (rep_opdO hsl hlo) (rep_opdO hsl hhi) (rep_opdO hsl hmx) h4).steady⟩
  case fieldAddr t y f =>
    obtain ⟨v, hv, h1⟩ := says_get h
    exact ⟨sc, (says_fieldAddr (rep_opd hsl hv) h1).steady⟩
  case field t y f =>
    obtain ⟨v, hv, h1⟩ := says_get h
    exact ⟨sc, (says_field (rep_opd hsl hv) h1).steady⟩
  case indexAddr t y i =>
    obtain ⟨v, hv, h1⟩ := says_get h
    obtain ⟨u, hu, h2⟩ := says_get h1
    exact ⟨sc, (says_indexAddr hs (rep_opd hsl hv) (rep_opd hsl hu) h2).steady⟩
  case index t y i =>
    obtain ⟨v, hv, h1⟩ := says_get h
    obtain ⟨u, hu, h2⟩ := says_get h1
    obtain ⟨hb, h3⟩ := says_chk h2
    exact ⟨sc, (says_index (rep_opd hsl hv) (rep_opd hsl hu) hb h3).steady⟩
  case extract y i =>
    obtain ⟨v, hv, h1⟩ := says_get h
    have hr := rep_opd hsl hv
    split at h1
    · rename_i l
      obtain ⟨av, hav, h2⟩ := says_get h1
      obtain ⟨vs, hvs, hl⟩ := hr
      have gen : ∀ {l : List AV} {us : List Value} {i : Nat}, RepAs x l us → l[i]? = some av → ∃ u, us[i]? = some u ∧ RepA x av u := by
        intro l
        induction l with
        | nil => intro us i _ h; simp at h
        | cons b l ih =>
          intro us i hh h
          cases us with
          | nil => exact hh.elim
          | cons u us =>
            cases i with
            | zero => simp at h; subst h; exact ⟨u, by simp, hh.1⟩
            | succ i => simp at h; obtain ⟨w, hw, hw2⟩ := ih hh.2 h; exact ⟨w, by simpa using hw, hw2⟩
      obtain ⟨u, hu, hra⟩ := gen hl hav
      have hu2 : vs[i]? = some u := by simpa using hu
      exact ⟨sc, Gives.steady (e := Instr.extract (a.eval y) i) (.av h2 (fun _ => by simp [Instr.extract, hvs, hu2]) hra)⟩
    · exact (says_none h1).elim
  case call c =>
    obtain ⟨callee, args, ts⟩ := c
    cases callee with
    | value f => simp [steadyOp] at hst
    | invoke f m => simp [steadyOp] at hst
    | builtin b =>
      obtain ⟨xs, hxs, h1⟩ := says_get h
      have hx := rep_opdA hsl hxs
      obtain ⟨cs, hex⟩ : ∃ cs, execOp a.eval ⟨dst, .call ⟨.builtin b, args, ts⟩, ty, pos, after, guard⟩ = builtin b ts ty cs (args.map a.eval) := by
        simp only [execOp, resolve, invoke, pure_bind]
        exact ⟨_, rfl⟩
      rw [hex]
      unfold evBuiltin at h1
      split at h1
      · rename_i t y hts
        cases hl : args.toList.map a.eval with
        | nil => rw [hl] at hx; exact hx.elim
        | cons v vs =>
          rw [hl] at hx
          cases vs with
          | cons => exact hx.2.elim
          | nil =>
            have e1 : args.map a.eval = #[v] := by apply Array.ext'; simpa using hl
            have e2 : ts = #[t] := by apply Array.ext'; simpa using hts
            rw [e1, e2]
            exact ⟨sc, (says_len (ty := ty) hx.1 h1).steady⟩
      · simp [steadyOp] at hst
      · rename_i y l
        cases hl : args.toList.map a.eval with
        | nil => rw [hl] at hx; exact hx.elim
        | cons v vs =>
          rw [hl] at hx
          have := says_fold (P := V.P) (g := Builtin.min2) says_min2 hx.1 hx.2 h1
          exact ⟨sc, Gives.steady (e := Builtin.min_ ts ty (args.map a.eval)) (by simpa [Builtin.min_, hl] using this)⟩
      · rename_i y l
        cases hl : args.toList.map a.eval with
        | nil => rw [hl] at hx; exact hx.elim
        | cons v vs =>
          rw [hl] at hx
          have := says_fold (P := V.P) (g := Builtin.max2) says_max2 hx.1 hx.2 h1
          exact ⟨sc, Gives.steady (e := Builtin.max_ ts ty (args.map a.eval)) (by simpa [Builtin.max_, hl] using this)⟩
      · exact (says_none h1).elim
  all_goals simp [steadyOp] at hst
end Go.Ev
