/- Operations that read: what the evaluator says is what the machine does. No program in sight. -/
import Derived.Test.YtjjakdmcnkldoaaQEvC
import Derived.Laws.Cells
import Derived.Laws.BytesString
namespace Go.Ev
open Go.RowKit (Below)
set_option linter.unusedVariables false
set_option linter.unusedSimpArgs false

theorem oneCell_repP {w : World} {ok okr : Nat → Prop} {p : PV} {v : Value} (h : RepP w ok okr p v) : v.oneCell' = true := by
  cases p <;> simp only [RepP] at h
  case bool => subst h; rfl
  case int => subst h; rfl
  case str => subst h; rfl
  case nilp => subst h; rfl
  case imm => obtain ⟨b, o, rfl, _⟩ := h; rfl
  case nils => subst h; rfl
  case emp => obtain ⟨b, o, c, sp, rfl⟩ := h; rfl
  case ints => rcases h with ⟨rfl, _⟩ | ⟨b, o, c, sp, rfl, _⟩ <;> rfl
  case bools => rcases h with ⟨rfl, _⟩ | ⟨b, o, c, sp, rfl, _⟩ <;> rfl
  case recs => rcases h with ⟨rfl, _⟩ | ⟨b, o, c, sp, rfl, _⟩ <;> rfl
theorem repC_pv {x : Cx} {p : PV} {v : Value} : RepC x (.pv p) v ↔ RepP x.w x.okP x.okP p v := Iff.rfl

/-! ### Constants and operands -/
theorem rep_pvOf {w : World} {ok okr : Nat → Prop} {v : Value} {p : PV} (h : pvOf v = some p) : RepP w ok okr p v := by
  unfold pvOf at h
  split at h <;> cases h <;> simp [RepP]
theorem rep_cvsOf {x : Cx} : ∀ {vs : List Value} {l : List CV}, cvsOf vs = some l → RepL x l vs
  | [], l, h => by simp [cvsOf] at h; subst h; trivial
  | v :: vs, l, h => by
    unfold cvsOf at h
    split at h
    · rename_i p r hp hr
      cases h
      exact ⟨⟨oneCell_repP (w := x.w) (ok := x.okP) (okr := x.okP) (rep_pvOf hp), rep_pvOf hp⟩, rep_cvsOf hr⟩
    · cases h
theorem rep_svOf {x : Cx} {v : Value} {s : SV} (h : svOf v = some s) : RepS x s v := by
  unfold svOf at h
  split at h
  · rename_i cs
    cases hc : cvsOf cs.toList with
    | none => simp [hc] at h
    | some l => simp [hc] at h; subst h; exact ⟨cs, rfl, rep_cvsOf hc⟩
  · cases hp : pvOf v with
    | none => simp [hp] at h
    | some p =>
      simp [hp] at h; subst h
      exact ⟨oneCell_repP (w := x.w) (ok := x.okP) (okr := x.okP) (rep_pvOf hp), rep_pvOf hp⟩
theorem rep_opd {x : Cx} {s : St} {a : Act} {o : Operand} {v : SV} (hs : Slots x s.slots a) (h : opd s o = some v) : RepS x v (a.eval o) := by
  unfold opd at h
  split at h
  · exact (hs _ _ h).2
  · exact rep_svOf h
  · cases h

/-! ### Types -/
theorem run_isAgg {P : Program} {t : TypeId} {ti : TI} (h : tinfo P t = some ti) (w : World) : (isAgg t).run P w = .ok ti.agg w := by
  unfold tinfo at h
  split at h
  · rename_i i d hi hd
    have hu := run_underlying hd w
    unfold isAgg
    rw [Sem.run_bind, hu, Result.andThen_ok]
    split at h
    · rename_i cs hz
      split at h
      · cases hc : cvsOf cs.toList <;> simp [hc] at h; subst h; rfl
      · cases hc : cvsOf cs.toList <;> simp [hc] at h; subst h; rfl
      · cases h
    · rename_i v hv hz
      split at h
      · cases h
      · cases h
      · rename_i h1 h2
        cases hc : pvOf v <;> simp [hc] at h; subst h
        cases d <;> first | rfl | exact (h1 _ rfl).elim | exact (h2 _ _ rfl).elim
    · cases h
  · cases h
theorem info_of_tinfo {P : Program} {t : TypeId} {ti : TI} (h : tinfo P t = some ti) : ∃ i, P.info? t = some i ∧ i.size = ti.size := by
  unfold tinfo at h
  split at h
  · rename_i i d hi hd
    refine ⟨i, hi, ?_⟩
    split at h
    · rename_i cs hz
      split at h
      · cases hc : cvsOf cs.toList <;> simp [hc] at h; subst h; rfl
      · cases hc : cvsOf cs.toList <;> simp [hc] at h; subst h; rfl
      · cases h
    · rename_i v hv hz
      split at h
      · cases h
      · cases h
      · cases hc : pvOf v <;> simp [hc] at h; subst h; rfl
    · cases h
  · cases h
theorem run_sizeOf' {P : Program} {t : TypeId} {ti : TI} (h : tinfo P t = some ti) (w : World) : (sizeOf t).run P w = .ok ti.size w := by
  obtain ⟨i, hi, hs⟩ := info_of_tinfo h
  simp [sizeOf, typeInfo, program, Sem.run, hi, hs, Result.andThen, Sem.bind]
theorem run_zeroValue' {P : Program} {t : TypeId} {ti : TI} (x : Cx) (h : tinfo P t = some ti) : ∃ v, (∀ w, (zeroValue t).run P w = .ok v w) ∧ RepL x ti.zero v.cells.toList := by
  unfold tinfo at h
  split at h
  · rename_i i d hi hd
    split at h
    · rename_i cs hz
      refine ⟨.agg cs, fun w => by simp [zeroValue, typeInfo, program, Sem.run, hi, hz, Result.andThen, Sem.bind], ?_⟩
      split at h
      · cases hc : cvsOf cs.toList <;> simp [hc] at h; subst h; exact rep_cvsOf hc
      · cases hc : cvsOf cs.toList <;> simp [hc] at h; subst h; exact rep_cvsOf hc
      · cases h
    · rename_i v hv hz
      refine ⟨v, fun w => by simp [zeroValue, typeInfo, program, Sem.run, hi, hz, Result.andThen, Sem.bind], ?_⟩
      split at h
      · cases h
      · cases h
      · cases hc : pvOf v <;> simp [hc] at h; subst h
        have hr : RepP x.w x.okP x.okP _ v := rep_pvOf hc
        have h1 := oneCell_repP hr
        have : v.cells = #[v] := by cases v <;> first | rfl | simp [Value.oneCell'] at h1
        rw [this]
        exact ⟨⟨h1, hr⟩, trivial⟩
    · cases h
  · cases h
theorem run_fieldInfo {P : Program} {t f : Nat} {z : Nat × TypeId} (h : fieldInfo P t f = some z) : ∃ fs fd, P.underlying t = some (.struct fs) ∧ fs[f]? = some fd ∧ fd.offset = z.1 ∧ fd.type = z.2 := by
  unfold fieldInfo at h
  split at h
  · rename_i fs hu
    cases hf : fs[f]? with
    | none => simp [hf] at h
    | some fd => simp [hf] at h; subst h; exact ⟨fs, fd, hu, hf, rfl, rfl⟩
  · cases h
theorem run_elemT {P : Program} {t e : Nat} (h : elemT P t = some e) : P.underlying t = some (.slice e) := by
  unfold elemT at h
  split at h
  · cases h; assumption
  · cases h

/-! ### Cells -/
theorem repPs_at {w : World} {ok : Nat → Prop} : ∀ {ps : List PV} {f : Nat → Option Value} {i : Nat} {p : PV}, RepPs w ok ps f → ps[i]? = some p → ∃ v, f i = some v ∧ RepP w ok ok p v
  | [], _, _, _, _, h => by simp at h
  | q :: ps, f, 0, p, hr, h => by
    simp only [RepPs] at hr
    simp at h; subst h
    exact hr.1
  | q :: ps, f, i + 1, p, hr, h => by
    simp only [RepPs] at hr
    simp at h
    exact repPs_at (f := fun i => f (i + 1)) hr.2 h
theorem repPss_at {w : World} {ok : Nat → Prop} {sz : Nat} : ∀ {l : List (List PV)} {f : Nat → Option Value} {i : Nat} {e : List PV}, RepPss w ok sz l f → l[i]? = some e →
    e.length = sz ∧ RepPs w ok e fun j => f (i * sz + j)
  | [], _, _, _, _, h => by simp at h
  | q :: l, f, 0, e, hr, h => by
    simp only [RepPss] at hr
    simp at h; subst h
    simpa using ⟨hr.1, hr.2.1⟩
  | q :: l, f, i + 1, e, hr, h => by
    simp only [RepPss] at hr
    simp at h
    have := repPss_at hr.2.2 h
    refine ⟨this.1, ?_⟩
    have e1 : (fun j => f (i * sz + j + sz)) = fun j => f ((i + 1) * sz + j) := funext fun j => by congr 1; rw [Nat.add_mul]; omega
    rw [← e1]; exact this.2
theorem repL_length {x : Cx} : ∀ {l : List CV} {vs : List Value}, RepL x l vs → l.length = vs.length
  | [], [], _ => rfl
  | _ :: _, _ :: _, h => by simp [repL_length h.2]
theorem repL_at {x : Cx} : ∀ {l : List CV} {vs : List Value} {i : Nat} {c : CV}, RepL x l vs → l[i]? = some c → ∃ v, vs[i]? = some v ∧ v.oneCell' = true ∧ RepC x c v
  | [], [], _, _, _, h => by simp at h
  | d :: l, v :: vs, 0, c, hr, h => by simp at h; subst h; exact ⟨v, by simp, hr.1⟩
  | d :: l, v :: vs, i + 1, c, hr, h => by
    simp at h
    obtain ⟨u, hu, h1⟩ := repL_at hr.2 h
    exact ⟨u, by simpa using hu, h1⟩

/-- Cells that lie at an address, told abstractly. -/
def CellsAt (x : Cx) (b o : Nat) (cs : List CV) : Prop := ∃ vs, RepL x cs vs ∧ ∀ j v, vs[j]? = some v → x.w.cell? ⟨b, o + j, none⟩ = some v
theorem cellsAt_nil (x : Cx) (b o : Nat) : CellsAt x b o [] := ⟨[], trivial, by simp⟩
theorem cellsAt_cons {x : Cx} {b o : Nat} {c : CV} {cs : List CV} {v : Value} (hv : x.w.cell? ⟨b, o, none⟩ = some v) (h1 : v.oneCell' = true) (hc : RepC x c v) (h : CellsAt x b (o + 1) cs) : CellsAt x b o (c :: cs) := by
  obtain ⟨vs, hr, hcell⟩ := h
  refine ⟨v :: vs, ⟨⟨h1, hc⟩, hr⟩, fun j u hj => ?_⟩
  cases j with
  | zero => simp at hj; subst hj; simpa using hv
  | succ j => simp at hj; have := hcell j u hj; rwa [show o + 1 + j = o + (j + 1) by omega] at this
theorem says_takeP {R : Type} {x : Cx} {b o0 : Nat} {l : List PV} (hl : RepPs x.w x.okP l fun i => x.w.cell? ⟨b, o0 + i, none⟩) : ∀ {n off : Nat} {k : List CV → Ans R} {r : R}, Says (takeP l off n k) r →
    ∃ cs, cs.length = n ∧ CellsAt x b (o0 + off) cs ∧ Says (k cs) r
  | 0, off, k, r, h => ⟨[], rfl, cellsAt_nil _ _ _, h⟩
  | n + 1, off, k, r, h => by
    obtain ⟨p, hp, h⟩ := says_get h
    obtain ⟨cs, hn, hc, h⟩ := says_takeP hl h
    obtain ⟨v, hv, hr⟩ := repPs_at hl hp
    exact ⟨.pv p :: cs, by simp [hn], cellsAt_cons hv (oneCell_repP hr) hr (by rwa [show o0 + off + 1 = o0 + (off + 1) by omega]), h⟩
theorem says_takeC {R : Type} {x : Cx} {b : Nat} {l : List CV} (hl : ObjAt x b l) : ∀ {n off : Nat} {k : List CV → Ans R} {r : R}, Says (takeC l off n k) r →
    ∃ cs, cs.length = n ∧ CellsAt x b off cs ∧ Says (k cs) r
  | 0, off, k, r, h => ⟨[], rfl, cellsAt_nil _ _ _, h⟩
  | n + 1, off, k, r, h => by
    obtain ⟨p, hp, h⟩ := says_get h
    obtain ⟨cs, hn, hc, h⟩ := says_takeC hl h
    obtain ⟨c, e, fr, hh, _, hL⟩ := hl
    obtain ⟨v, hv, h1, hr⟩ := repL_at hL hp
    refine ⟨p :: cs, by simp [hn], cellsAt_cons (v := v) ?_ h1 hr hc, h⟩
    simpa [World.cell?, hh] using hv
theorem says_toAv {R : Type} {x : Cx} {agg : Bool} {cs : List CV} {vs : List Value} {k : AV → Ans R} {r : R} (hr : RepL x cs vs) (h : Says (toAv agg cs k) r) :
    ∃ a, Says (k a) r ∧ RepA x a (if agg = true then .agg vs.toArray else vs.headD undef) ∧ (agg = false → vs.length = 1) := by
  unfold toAv at h
  split at h
  · exact ⟨_, h, ⟨vs.toArray, by simp, hr⟩, by simp⟩
  · rename_i c
    cases vs with
    | nil => exact hr.elim
    | cons v vs =>
      cases vs with
      | nil => exact ⟨_, h, hr.1, by simp⟩
      | cons => exact hr.2.elim
  · exact (says_none h).elim
theorem run_loadVar {P : Program} {t : TypeId} {ti : TI} (ht : tinfo P t = some ti) {w : World} {b o : Nat} {vs : List Value} (hn : vs.length = ti.size) (h1 : ti.agg = false → vs.length = 1)
    (hc : ∀ j v, vs[j]? = some v → w.cell? ⟨b, o + j, none⟩ = some v) :
    (loadVar t ⟨b, o, none⟩).run P w = .ok (if ti.agg = true then .agg vs.toArray else vs.headD undef) w := by
  unfold loadVar
  rw [Sem.run_bind, run_isAgg ht, Result.andThen_ok]
  cases hb : ti.agg with
  | true =>
    simp only [if_true]
    rw [Sem.run_bind, run_sizeOf' ht, Result.andThen_ok, Sem.run_bind, ← hn, run_loadCells_list w ⟨b, o, none⟩ vs (fun j v hj => by rw [Addr.add_lit]; exact hc j v hj)]
    rfl
  | false =>
    simp only [Bool.false_eq_true, if_false]
    have hl := h1 hb
    match vs, hl with
    | [v], _ =>
      have := hc 0 v (by simp)
      rw [run_load]
      simp only [Nat.add_zero] at this
      simp [this]

theorem says_elem {R : Type} {x : Cx} {b o : Nat} {rw : Row} {i fo n : Nat} {k : List CV → Ans R} {r : R} (hrow : RowIs x.w x.okP rw fun j => x.w.cell? ⟨b, o + j, none⟩) (hi : i < rw.len)
    (h : Says (rw.elem i fo n k) r) : ∃ cs, cs.length = n ∧ CellsAt x b (o + i * rw.esz + fo) cs ∧ Says (k cs) r := by
  cases rw with
  | ints kd l =>
    simp only [Row.elem] at h
    obtain ⟨hb, h⟩ := says_chk h
    simp only [Bool.and_eq_true] at hb
    obtain rfl : fo = 0 := Nat.eq_of_beq_eq_true hb.1
    obtain rfl : n = 1 := Nat.eq_of_beq_eq_true hb.2
    have hv := hrow i hi
    refine ⟨_, rfl, cellsAt_cons (v := .int kd (l.getD i 0)) ?_ rfl (by simp [RepC, RepP]) (cellsAt_nil _ _ _), h⟩
    simpa [Row.esz] using hv
  | bools l =>
    simp only [Row.elem] at h
    obtain ⟨hb, h⟩ := says_chk h
    simp only [Bool.and_eq_true] at hb
    obtain rfl : fo = 0 := Nat.eq_of_beq_eq_true hb.1
    obtain rfl : n = 1 := Nat.eq_of_beq_eq_true hb.2
    have hv := hrow i hi
    refine ⟨_, rfl, cellsAt_cons (v := .bool (l.getD i false)) ?_ rfl (by simp [RepC, RepP]) (cellsAt_nil _ _ _), h⟩
    simpa [Row.esz] using hv
  | recs sz l =>
    have hi' : i < l.length := hi
    have := repPss_at (i := i) (e := l.getD i []) hrow (by simp [List.getD, hi'])
    have h2 : RepPs x.w x.okP (l.getD i []) fun j => x.w.cell? ⟨b, (o + i * sz) + j, none⟩ := by
      have := this.2
      simpa [Nat.add_assoc] using this
    exact says_takeP h2 h

theorem rowIs_block {x : Cx} {b : Nat} {rw : Row} {c : Array Value} {e : TypeId} {fr : Nat × Nat} (hh : x.w.heap[b]? = some (.cells c e fr)) (h : RowIs x.w x.okP rw fun i => c[i]?) :
    RowIs x.w x.okP rw fun j => x.w.cell? ⟨b, 0 + j, none⟩ := by
  have : (fun j => x.w.cell? ⟨b, 0 + j, none⟩) = fun i => c[i]? := funext fun j => by simp [World.cell?, hh]
  rw [this]; exact h

theorem says_row {R : Type} {w : World} {ok okr : Nat → Prop} {r0 : Row} {p : PV} {v : Value} {k : Row → Bool → Ans R} {r : R} (h0 : r0.len = 0) (hw : ∀ f, RowIs w ok r0 f) (hr : RepP w ok okr p v) (h : Says (p.row r0 k) r) :
    ∃ rw t, Says (k rw t) r ∧ SlAt w okr rw.len t v (RowIs w ok rw) ∧ (p = rw.pv t ∨ (rw = r0 ∧ (p = .nils ∨ p = .emp))) := by
  unfold PV.row at h
  split at h
  · exact ⟨_, _, h, (repP_row (rw := .ints _ _)).mp hr, .inl rfl⟩
  · exact ⟨_, _, h, (repP_row (rw := .bools _)).mp hr, .inl rfl⟩
  · exact ⟨_, _, h, (repP_row (rw := .recs _ _)).mp hr, .inl rfl⟩
  · simp only [RepP] at hr
    exact ⟨_, _, h, .inl ⟨hr, h0⟩, .inr ⟨rfl, .inl rfl⟩⟩
  · simp only [RepP] at hr
    obtain ⟨b, o, cap, sp, rfl⟩ := hr
    exact ⟨_, _, h, .inr ⟨b, o, cap, sp, by rw [h0], by omega, by simp, by omega⟩, .inr ⟨rfl, .inr rfl⟩⟩
  · exact (says_none h).elim

theorem says_load {R : Type} {P : Program} {x : Cx} {t : TypeId} {av : SV} {s : St} {v : Value} {k : SV → Ans R} {r : R} (hs : Sto x s.objs s.rows) (hv : RepS x av v) (h : Says (evLoad P t av s k) r) :
    ∃ u a, (Instr.loadAt t v).run P x.w = .ok u x.w ∧ RepA x a u ∧ Says (k (.av a)) r := by
  obtain ⟨ti, ht, h0⟩ := says_get h
  clear h
  obtain ⟨c, hcc, h⟩ := says_wCv h0
  clear h0
  rw [hcc] at hv
  clear hcc
  have fin : ∀ {b o : Nat} {cs : List CV} {kk : AV → Ans R}, cs.length = ti.size → CellsAt x b o cs → Says (toAv ti.agg cs kk) r → v = .pointer (some ⟨b, o, none⟩) →
      ∃ u a, (Instr.loadAt t v).run P x.w = .ok u x.w ∧ RepA x a u ∧ Says (kk a) r := by
    intro b o cs kk hn hc h hv
    obtain ⟨vs, hr, hcell⟩ := hc
    obtain ⟨a, hk, ha, h1⟩ := says_toAv hr h
    refine ⟨_, a, ?_, ha, hk⟩
    rw [hv]
    simp only [Instr.loadAt, Instr.sureAddr, pure_bind]
    exact run_loadVar ht (by rw [← hn, repL_length hr]) h1 hcell
  obtain ⟨h1, hc⟩ := hv
  split at h
  · rename_i cells off
    simp only [RepC, RepP] at hc
    obtain ⟨b, o, hv, _, hcells⟩ := hc
    obtain ⟨cs, hn, hca, h⟩ := says_takeP hcells h
    exact fin hn hca h hv
  · rename_i o off
    obtain ⟨ob, ho, h⟩ := says_get h
    obtain ⟨_, _, hob⟩ := hs.obj _ _ ho
    obtain ⟨cs, hn, hca, h⟩ := says_takeC hob h
    exact fin hn hca h hc.2
  · rename_i p i fo
    obtain ⟨b, o, n, cap, hp, hi, hv⟩ := hc
    obtain ⟨rw, tt, h, hsl, hcase⟩ := says_row (r0 := .recs ti.size []) rfl (fun f => by simp [RowIs, RepPss]) hp h
    rcases hsl with ⟨hx, _⟩ | ⟨b', o', cap', sp', hv', hle, _, hcell⟩
    · cases hx
    · obtain ⟨rfl, rfl, rfl, rfl⟩ : b' = b ∧ o' = o ∧ rw.len = n ∧ cap' = cap := by cases hv'; exact ⟨rfl, rfl, rfl, rfl⟩
      obtain ⟨cs, hn, hca, h⟩ := says_elem (hcell (by omega)).2.2 hi h
      have he : p.esz = rw.esz := by
        rcases hcase with rfl | ⟨rfl, _⟩
        · cases rw <;> rfl
        · simp [Row.len] at hi
      exact fin hn hca h (by rw [hv, he])
  · rename_i rr i fo
    obtain ⟨rb, hrb, h⟩ := says_get h
    obtain ⟨hU, hlt, hv⟩ := hc
    have go : ∀ {rw : Row}, RowAt x rr rw → Says (rw.elem i fo ti.size fun cs => toAv ti.agg cs fun a => k (.av a)) r → ∃ u a, (Instr.loadAt t v).run P x.w = .ok u x.w ∧ RepA x a u ∧ Says (k (.av a)) r := by
      intro rw hrow h
      obtain ⟨c, e, fr, hh, _, hsz, hes, hlen, _, hrow⟩ := hrow
      obtain ⟨cs, hn, hca, h⟩ := says_elem (rowIs_block hh hrow) (by omega) h
      refine fin hn hca h ?_
      rw [hv, ← hes]; simp
    split at h
    · rcases (hs.live _ _ hrb).2 with ⟨_, h1⟩ | ⟨_, _, h1, h2, _⟩
      · exact go h1 h
      · omega
    · rcases (hs.froz _ _ hrb).2 with ⟨_, h1⟩ | ⟨_, _, h1, h2, _⟩
      · exact go h1 h
      · omega
    · exact (says_none h).elim
  · exact (says_none h).elim
end Go.Ev
