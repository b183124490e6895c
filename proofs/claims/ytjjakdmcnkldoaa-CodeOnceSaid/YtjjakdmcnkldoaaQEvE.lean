/- Operations that only compute: what the evaluator says is what the machine does. No program in sight. -/
import Derived.Test.YtjjakdmcnkldoaaQEvD
namespace Go.Ev
set_option linter.unusedVariables false
set_option linter.unusedSimpArgs false

/-- The machine's part gives a value, nothing has turned, and the evaluator goes on with what stands for it. -/
def Gives {R : Type} (P : Program) (x : Cx) (e : Sem Value) (k : SV → Ans R) (r : R) : Prop := ∃ u sv, (∀ w, e.run P w = .ok u w) ∧ RepS x sv u ∧ Says (k sv) r

theorem Gives.one {R : Type} {P : Program} {x : Cx} {e : Sem Value} {k : SV → Ans R} {r : R} {c : CV} {u : Value} (h : Says (k (cone c)) r) (hr : ∀ w, e.run P w = .ok u w) (h1 : u.oneCell' = true) (hc : RepC x c u) :
    Gives P x e k r := ⟨u, cone c, hr, ⟨h1, hc⟩, h⟩
theorem Gives.av {R : Type} {P : Program} {x : Cx} {e : Sem Value} {k : SV → Ans R} {r : R} {a : AV} {u : Value} (h : Says (k (.av a)) r) (hr : ∀ w, e.run P w = .ok u w) (ha : RepA x a u) :
    Gives P x e k r := ⟨u, .av a, hr, ha, h⟩

theorem cells_of_run {P : Program} {t : TypeId} (h : (!(Nat.beq (P.cellsOf t) 0)) = true) (w : World) : (sizeOf t).run P w = .ok (P.cellsOf t) w := by
  unfold Program.cellsOf at h ⊢
  cases hi : P.info? t with
  | none => simp [hi] at h
  | some i => simp [sizeOf, typeInfo, program, Sem.run, hi, Result.andThen, Sem.bind]
theorem eszOk_spec {P : Program} {e : TypeId} {n : Nat} (h : eszOk P e n = true) : (∀ w, (sizeOf e).run P w = .ok n w) ∧ 0 < n ∧ P.cellsOf e = n := by
  unfold eszOk at h
  simp only [Bool.and_eq_true] at h
  have h1 := Nat.eq_of_beq_eq_true h.1
  have h2 : n ≠ 0 := by intro h0; subst h0; simp at h
  refine ⟨fun w => ?_, by omega, h1⟩
  rw [← h1]
  exact cells_of_run (by rw [h1]; simp; cases hb : n.beq 0 with | false => rfl | true => exact absurd (Nat.eq_of_beq_eq_true hb) h2) w
theorem row0_spec {P : Program} {e : TypeId} {r0 : Row} (h : row0 P e = some r0) : eszOk P e r0.esz = true ∧ r0.len = 0 ∧ ∀ w ok f, RowIs w ok r0 f := by
  unfold row0 at h
  split at h
  · rename_i r hr
    cases hb : eszOk P e r.esz with
    | false => simp [hb] at h
    | true =>
      simp [hb] at h; subst h
      refine ⟨hb, ?_⟩
      unfold row0' at hr
      split at hr <;> cases hr <;> simp [Row.len, RowIs, RepPss]
  · cases h

theorem says_fieldAddr {R : Type} {P : Program} {x : Cx} {t f : Nat} {av : SV} {v : Value} {k : SV → Ans R} {r : R} (hv : RepS x av v) (h : Says (evFieldAddr P t av f k) r) :
    Gives P x (Instr.fieldAt t v f) k r := by
  obtain ⟨z, hz, h0⟩ := says_get h
  clear h
  obtain ⟨hb, h1⟩ := says_chk h0
  clear h0
  obtain ⟨c, hcc, h⟩ := says_wCv h1
  clear h1
  rw [hcc] at hv
  clear hcc
  obtain ⟨fs, fd, hu, hf, ho, ht⟩ := run_fieldInfo hz
  have hne : P.cellsOf z.2 ≠ 0 := by intro h0; rw [h0] at hb; simp at hb
  have run : ∀ b o, v = .pointer (some ⟨b, o, none⟩) → ∀ w, (Instr.fieldAt t v f).run P w = .ok (.pointer (some ⟨b, o + z.1, none⟩)) w := by
    intro b o hv w
    subst hv
    simp only [Instr.fieldAt, Sem.run_bind, run_underlying hu, Result.andThen_ok, hf, Instr.sureAddr, Sem.run_pure, fieldPlace, ht, cells_of_run hb, if_neg hne, ho, Addr.add_lit]
  obtain ⟨h1, hc⟩ := hv
  split at h
  · rename_i cells off
    simp only [RepC, RepP] at hc
    obtain ⟨b, o, hv, hok, hcells⟩ := hc
    refine .one h (run _ _ hv) rfl ?_
    simp only [RepC, RepP]
    exact ⟨b, o, by rw [Nat.add_assoc], hok, hcells⟩
  · rename_i o off
    exact .one h (run _ _ hc.2) rfl ⟨hc.1, rfl⟩
  · rename_i p i fo
    obtain ⟨b, o, n, cap, hp, hi, hv⟩ := hc
    exact .one h (run _ _ hv) rfl ⟨b, o, n, cap, hp, hi, by rw [Nat.add_assoc]⟩
  · rename_i rr i fo
    exact .one h (run _ _ hc.2.2) rfl ⟨hc.1, hc.2.1, by rw [Nat.add_assoc]⟩
  · exact (says_none h).elim

theorem says_takeL {R : Type} {x : Cx} {l : List CV} {vs : List Value} (hl : RepL x l vs) : ∀ {n off : Nat} {k : List CV → Ans R} {r : R}, Says (takeC l off n k) r →
    ∃ cs us, us.length = n ∧ RepL x cs us ∧ us = (vs.drop off).take n ∧ Says (k cs) r
  | 0, off, k, r, h => ⟨[], [], rfl, trivial, by simp, h⟩
  | n + 1, off, k, r, h => by
    obtain ⟨p, hp, h⟩ := says_get h
    obtain ⟨cs, us, hn, hr, hu, h⟩ := says_takeL hl h
    obtain ⟨v, hv, h1, hc⟩ := repL_at hl hp
    refine ⟨p :: cs, v :: us, by simp [hn], ⟨⟨h1, hc⟩, hr⟩, ?_, h⟩
    have hlt : off < vs.length := by
      rcases Nat.lt_or_ge off vs.length with h' | h'
      · exact h'
      · simp [List.getElem?_eq_none h'] at hv
    rw [List.drop_eq_getElem_cons hlt, List.take_succ_cons, hu]
    rw [List.getElem?_eq_getElem hlt] at hv
    cases hv; rfl
theorem says_field {R : Type} {P : Program} {x : Cx} {t f : Nat} {av : SV} {v : Value} {k : SV → Ans R} {r : R} (hv : RepS x av v) (h : Says (evField P t av f k) r) :
    Gives P x (Instr.field t v f) k r := by
  obtain ⟨z, hz, h0⟩ := says_get h
  clear h
  obtain ⟨ti, ht, h⟩ := says_get h0
  clear h0
  obtain ⟨fs, fd, hu, hf, ho, hty⟩ := run_fieldInfo hz
  split at h
  · rename_i l
    obtain ⟨cs, rfl, hl⟩ := hv
    obtain ⟨ds, us, hn, hr, hus, h⟩ := says_takeL hl h
    obtain ⟨a, hk, ha, h1⟩ := says_toAv hr h
    refine .av hk (fun w => ?_) ha
    simp only [Instr.field, Sem.run_bind, run_underlying hu, Result.andThen_ok, hf, asAgg, Sem.run_pure, Go.part, hty, run_isAgg ht, ho]
    cases hb : ti.agg with
    | true =>
      simp only [if_true, Sem.run_bind, run_sizeOf' ht, Result.andThen_ok, Sem.run_pure]
      congr 2
      apply Array.ext'
      simp [hus, List.drop_take]
    | false =>
      have hl1 := h1 hb
      simp only [Bool.false_eq_true, if_false]
      match us, hl1, hus with
      | [u], _, hus =>
        have : cs[z.1]? = some u := by
          have := congrArg (·[0]?) hus
          rw [← hn] at this
          simpa [List.getElem?_take, List.getElem?_drop] using this.symm
        simp [this]
  · exact (says_none h).elim

theorem says_slen {R : Type} {w : World} {ok okr : Nat → Prop} {p : PV} {v : Value} {k : Nat → Ans R} {r : R} (hr : RepP w ok okr p v) (h : Says (p.slen k) r) :
    ∃ n, Says (k n) r ∧ ((v = .slice none 0 0 ∧ n = 0) ∨ ∃ b o cap, ∃ sp, v = .slice (some ⟨b, o, sp⟩) n cap ∧ n ≤ cap ∧ (0 < n → sp = none)) := by
  unfold PV.slen at h
  split at h
  · rcases (repP_row (rw := .ints _ _)).mp hr with ⟨h1, h2⟩ | ⟨b, o, cap, sp, hv, hn, _, hp⟩
    · exact ⟨_, h, .inl ⟨h1, h2⟩⟩
    · exact ⟨_, h, .inr ⟨b, o, cap, sp, hv, hn, fun h => (hp h).1⟩⟩
  · rcases (repP_row (rw := .bools _)).mp hr with ⟨h1, h2⟩ | ⟨b, o, cap, sp, hv, hn, _, hp⟩
    · exact ⟨_, h, .inl ⟨h1, h2⟩⟩
    · exact ⟨_, h, .inr ⟨b, o, cap, sp, hv, hn, fun h => (hp h).1⟩⟩
  · rcases (repP_row (rw := .recs _ _)).mp hr with ⟨h1, h2⟩ | ⟨b, o, cap, sp, hv, hn, _, hp⟩
    · exact ⟨_, h, .inl ⟨h1, h2⟩⟩
    · exact ⟨_, h, .inr ⟨b, o, cap, sp, hv, hn, fun h => (hp h).1⟩⟩
  · simp only [RepP] at hr; exact ⟨_, h, .inl ⟨hr, rfl⟩⟩
  · simp only [RepP] at hr; obtain ⟨b, o, cap, sp, hv⟩ := hr; exact ⟨_, h, .inr ⟨b, o, cap, sp, hv, Nat.zero_le _, fun h => absurd h (Nat.lt_irrefl _)⟩⟩
  · exact (says_none h).elim
theorem says_cvLen {R : Type} {x : Cx} {c : CV} {v : Value} {k : Nat → Ans R} {r : R} (hc : RepC x c v) (h : Says (cvLen c k) r) :
    ∃ n, Says (k n) r ∧ ((v = .slice none 0 0 ∧ n = 0) ∨ ∃ b o cap, ∃ sp, v = .slice (some ⟨b, o, sp⟩) n cap ∧ n ≤ cap ∧ (0 < n → sp = none)) := by
  unfold cvLen at h
  split at h
  · exact says_slen hc h
  · exact says_slen hc h
  · rcases hc.2.2 with ⟨h1, h2⟩ | ⟨b, o, cap, hv, hn, _⟩
    · exact ⟨_, h, .inl ⟨h1, h2⟩⟩
    · exact ⟨_, h, .inr ⟨b, o, cap, none, hv, hn, fun _ => rfl⟩⟩
  · exact (says_none h).elim
/-- The length that cvLen tells is the slice's. -/
theorem cvLen_own {R : Type} {r off n : Nat} {t : Bool} {k : Nat → Ans R} : cvLen (.own r off n t) k = k n := rfl

theorem says_indexAddr {R : Type} {P : Program} {x : Cx} {t : TypeId} {xv iv : SV} {v u : Value} {s : St} {k : SV → Ans R} {r : R} (hs : Sto x s.objs s.rows) (hv : RepS x xv v) (hu : RepS x iv u)
    (h : Says (evIndexAddr P t xv iv s k) r) : Gives P x (Instr.indexAt t v u) k r := by
  obtain ⟨e, he, h0⟩ := says_get h
  clear h
  obtain ⟨kd, n, hi, h1⟩ := says_wInt h0
  clear h0
  obtain ⟨c, hc, h2⟩ := says_wCv h1
  clear h1
  rw [hc] at hv; clear hc
  rw [hi] at hu; clear hi
  obtain ⟨_, hu⟩ := hu
  simp only [RepC, RepP] at hu
  subst hu
  obtain ⟨hone, hv⟩ := hv
  obtain ⟨len, h3, hlen⟩ := says_cvLen hv h2
  clear h2
  obtain ⟨hb, h⟩ := says_need h3
  clear h3
  simp only [Bool.and_eq_true, decide_eq_true_eq] at hb
  rcases hlen with ⟨rfl, rfl⟩ | ⟨b, o, cap, sp, rfl, hcap, hsp⟩
  · omega
  obtain rfl := hsp (by omega)
  have run : ∀ z, eszOk P e z = true → ∀ w, (Instr.indexAt t (.slice (some ⟨b, o, none⟩) len cap) (.int kd n)).run P w = .ok (.pointer (some ⟨b, o + n.toNat * z, none⟩)) w := by
    intro z hz w
    simp [Instr.indexAt, run_underlying (run_elemT he), asIntOf, hb.1, hb.2, (eszOk_spec hz).1, Addr.add_lit]
  have hnt : n.toNat < len := by omega
  split at h
  · rename_i p
    obtain ⟨hz, h⟩ := says_chk h
    exact .one h (run _ hz) rfl ⟨b, o, len, cap, RepP.weak (fun _ h => Cx.okB_of_okP h) hv, hnt, by simp⟩
  · rename_i p
    obtain ⟨hz, h⟩ := says_chk h
    exact .one h (run _ hz) rfl ⟨b, o, len, cap, hv, hnt, by simp⟩
  · rename_i rr off m tt
    obtain ⟨rb, hrb, h⟩ := says_get h
    obtain ⟨hU, hrl, hown⟩ := hv
    rcases hown with ⟨hx, _⟩ | ⟨b', o', cap', hx, hle, _, hpos⟩
    · cases hx
    cases hx
    obtain ⟨rfl, rfl, hfit⟩ := hpos (by omega)
    split at h
    · rename_i rw
      obtain ⟨hz, h⟩ := says_chk h
      obtain ⟨hes, _⟩ := hs.liveE hrb
      refine .one h (run _ hz) rfl ⟨hU, by omega, ?_⟩
      rw [hes, Nat.add_mul]; rfl
    · rename_i rw
      obtain ⟨hz, h⟩ := says_chk h
      obtain ⟨hes, _⟩ := hs.frozE hrb
      refine .one h (run _ hz) rfl ⟨hU, by omega, ?_⟩
      rw [hes, Nat.add_mul]; rfl
    · exact (says_none h).elim
  · exact (says_none h).elim
end Go.Ev
