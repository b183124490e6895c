/- Calls. No program in sight. -/
import Derived.Test.YtjjakdmcnkldoaaQEvQ
namespace Go.Ev
set_option linter.unusedVariables false
set_option linter.unusedSimpArgs false

/-- A function's call, told by value: what it is handed, what it gives. -/
def Runs (P : Program) (f : FuncId) (as : List AV) (objs : List Obj) (rows : List Row) (res : Res) : Prop :=
  (∃ fn c, P.funcs[f]? = some fn ∧ fn.body = some c ∧ (fn.name == "runtime.NumGoroutine") = false) ∧ okOutRes res = true ∧ objs.length ≤ res.2.1.length ∧
  ∀ (x : Cx) (vals : List Value), Sto x (number 0 objs) (number 0 (rows.map .live)) → (∀ n, x.g.U n → n < objs.length + rows.length) → RepAs x as vals →
    Calls P f vals.toArray x.w fun e w' => ∃ v y, e = .returned v ∧ y.w = w' ∧ Ext x y ∧ (∀ o, o < objs.length → y.g.ob o = x.g.ob o) ∧ Sto y (number 0 res.2.1) (number 0 (res.2.2.map .live)) ∧ RepS y (tupOf res.1) v

/-! ### Handing over -/
theorem says_passC0 {R : Type} {x : Cx} {sl : Bool} {c : CV} {v : Value} {s : St} {k : CV → St → Ans R} {r : R} (hs : Sto x s.objs s.rows) (hc : RepC x c v) (h : Says (passC false sl c s k) r) :
    ∃ c' s' y, Ext x y ∧ y.g = x.g ∧ y.w = x.w ∧ Sto y s'.objs s'.rows ∧ s'.slots = s.slots ∧ RepC y c' v ∧ Says (k c' s') r := by
  unfold passC at h
  cases c with
  | own rr off n t =>
    obtain ⟨rb, hrb, h1⟩ := says_get h
    cases rb with
    | live rw =>
      obtain ⟨y, hw, hg, hx, hs', hrow⟩ := close_ok hs hrb
      exact ⟨.pv ((rw.cut off n).pv t), { s with rows := (rr, .froz rw) :: s.rows }, y, hx, hg, hw, hs', rfl, snap_any' (hc.mono hx (by rw [hg]; exact G.Le.refl _)) hrow, h1⟩
    | froz rw =>
      exact ⟨.pv ((rw.cut off n).pv t), s, x, Ext.refl x, rfl, rfl, hs, rfl, snap_any' hc (hs.froz _ _ hrb).2, h1⟩
    | gone => exact (says_none h1).elim
  | pv p => exact ⟨.pv p, s, x, Ext.refl x, rfl, rfl, hs, rfl, hc, h⟩
  | bor p => exact ⟨.bor p, s, x, Ext.refl x, rfl, rfl, hs, rfl, hc, h⟩
  | ref o off => exact ⟨.ref o off, s, x, Ext.refl x, rfl, rfl, hs, rfl, hc, h⟩
  | iadr => exact (says_none h).elim
  | radr => exact (says_none h).elim
  | dead => exact (says_none h).elim
theorem says_passL0 {R : Type} : ∀ {x : Cx} {cs : List CV} {vs : List Value} {s : St} {k : List CV → St → Ans R} {r : R}, Sto x s.objs s.rows → RepL x cs vs → Says (passL false cs s k) r →
    ∃ cs' s' y, Ext x y ∧ y.g = x.g ∧ y.w = x.w ∧ Sto y s'.objs s'.rows ∧ s'.slots = s.slots ∧ RepL y cs' vs ∧ Says (k cs' s') r
  | x, [], [], s, k, r, hs, _, h => ⟨[], s, x, Ext.refl x, rfl, rfl, hs, rfl, trivial, h⟩
  | x, c :: cs, v :: vs, s, k, r, hs, hl, h => by
    obtain ⟨c', s1, y, hx, hg, hw, hs1, hsl, hc, h1⟩ := says_passC0 hs hl.1.2 h
    obtain ⟨cs', s2, z, hx2, hg2, hw2, hs2, hsl2, hcs, h2⟩ := says_passL0 hs1 (hl.2.mono hx (by rw [hg]; exact G.Le.refl _)) h1
    exact ⟨c' :: cs', s2, z, hx.trans hx2, hg2.trans hg, hw2.trans hw, hs2, hsl2.trans hsl, ⟨⟨hl.1.1, hc.mono hx2 (by rw [hg2]; exact G.Le.refl _)⟩, hcs⟩, h2⟩
theorem RepSs.mono {x y : Cx} (h : Ext x y) (hg : x.g.Le y.g) : ∀ {l : List SV} {vs : List Value}, RepSs x l vs → RepSs y l vs
  | [], [], _ => trivial
  | _ :: _, _ :: _, hl => ⟨hl.1.mono h hg, RepSs.mono h hg hl.2⟩
theorem says_passA0 {R : Type} {P : Program} : ∀ {xs : List SV} {x : Cx} {vs : List Value} {ts : List TypeId} {s : St} {k : List AV → St → Ans R} {r : R}, Sto x s.objs s.rows → RepSs x xs vs → Says (passA P false xs ts s k) r →
    ∃ as s' y, Ext x y ∧ y.g = x.g ∧ y.w = x.w ∧ Sto y s'.objs s'.rows ∧ s'.slots = s.slots ∧ RepAs y as vs ∧ Says (k as s') r
  | [], x, [], ts, s, k, r, hs, _, h => ⟨[], s, x, Ext.refl x, rfl, rfl, hs, rfl, trivial, h⟩
  | .av (.one c) :: xs, x, v :: vs, ts, s, k, r, hs, hl, h => by
    obtain ⟨c', s1, y, hx, hg, hw, hs1, hsl, hc, h1⟩ := says_passC0 hs hl.1.2 h
    obtain ⟨cs', s2, z, hx2, hg2, hw2, hs2, hsl2, hcs, h2⟩ := says_passA0 hs1 (hl.2.mono hx (by rw [hg]; exact G.Le.refl _)) h1
    exact ⟨.one c' :: cs', s2, z, hx.trans hx2, hg2.trans hg, hw2.trans hw, hs2, hsl2.trans hsl, ⟨⟨hl.1.1, hc.mono hx2 (by rw [hg2]; exact G.Le.refl _)⟩, hcs⟩, h2⟩
  | .av (.agg l) :: xs, x, v :: vs, ts, s, k, r, hs, hl, h => by
    obtain ⟨cs, hv, hL⟩ := hl.1
    obtain ⟨c', s1, y, hx, hg, hw, hs1, hsl, hc, h1⟩ := says_passL0 hs hL h
    obtain ⟨cs', s2, z, hx2, hg2, hw2, hs2, hsl2, hcs, h2⟩ := says_passA0 hs1 (hl.2.mono hx (by rw [hg]; exact G.Le.refl _)) h1
    exact ⟨.agg c' :: cs', s2, z, hx.trans hx2, hg2.trans hg, hw2.trans hw, hs2, hsl2.trans hsl, ⟨⟨cs, hv, hc.mono hx2 (by rw [hg2]; exact G.Le.refl _)⟩, hcs⟩, h2⟩
  | .tup _ :: _, _, _ :: _, _, _, _, _, _, _, h => (says_none h).elim

/-- Lent: what it stands for in whatever part is handed over. -/
def LentC (x : Cx) (s : St) (c : CV) (v : Value) (lent : List Nat) : Prop := ∀ p B, PartOk x s p B → (∀ r ∈ lent, mem r p.rs = false) → RepC (p.cx x B) (p.f s.rows c) v
theorem lent_of {x : Cx} {s : St} {c : CV} {v : Value} {lent : List Nat} (h : RepC x c v) : LentC x s c v lent := fun p B hp _ => hp.rep _ _ h
def ownsOf : List CV → List Nat
  | [] => []
  | .own r _ _ _ :: l => r :: ownsOf l
  | _ :: l => ownsOf l
theorem says_passC1 {R : Type} {x : Cx} {sl : Bool} {c : CV} {v : Value} {s : St} {k : CV → St → Ans R} {r : R} {lent : List Nat} (hs : Sto x s.objs s.rows) (hc : RepC x c v) (hl : ∀ r ∈ ownsOf [c], r ∈ lent) (h : Says (passC true sl c s k) r) :
    ∃ c', LentC x s c' v lent ∧ Says (k c' s) r := by
  unfold passC at h
  cases c with
  | own rr off n t =>
    obtain ⟨rb, hrb, h1⟩ := says_get h
    cases rb with
    | live rw =>
      refine ⟨.bor ((rw.cut off n).pv t), fun p B hp hlent => ?_, h1⟩
      obtain ⟨hu, hvir | ⟨hnv, hS, hrow⟩⟩ := hs.liveC hrb
      · have h3 : RepP x.w (p.cx x B).okP (p.cx x B).okB ((rw.cut off n).pv t) v := snap_vir hc hvir
        exact h3
      have hnot : ¬ p.S x (x.g.rb rr) := by
        rintro (⟨i, o, ho, hb⟩ | ⟨i, r', rw0, hr', hr0, hnv0, hb⟩)
        · obtain ⟨l, hlk⟩ := hp.ol i o ho
          exact hs.injX _ _ _ _ hlk hrb hnv hb
        · obtain ⟨rw', hlk, hrw'⟩ := hp.rl i r' hr'
          rw [hr0] at hrw'
          cases hrw'
          have := hs.injR _ _ _ _ hlk hrb hnv0 hnv hb
          subst this
          have h2 := hlent r' (hl _ (by simp [ownsOf]))
          rw [mem_iff.2 (List.mem_of_getElem? hr')] at h2
          cases h2
      have h3 : RepP x.w x.okP (p.cx x B).okB ((rw.cut off n).pv t) v := snap_ok hc hrow ⟨hs.Slt _ hS, hnot⟩
      exact RepP.mono hp.okP (fun _ _ => rfl) (fun _ h => h) (fun _ _ => rfl) _ h3
    | froz rw =>
      have hsn := snap_any' hc (hs.froz _ _ hrb).2
      cases sl with
      | true => exact ⟨.bor ((rw.cut off n).pv t), lent_of (c := .bor _) (RepP.weak (fun _ h => Cx.okB_of_okP h) hsn), h1⟩
      | false => exact ⟨.pv ((rw.cut off n).pv t), lent_of (c := .pv _) hsn, h1⟩
    | gone => exact (says_none h1).elim
  | pv p =>
    cases sl with
    | true => exact ⟨.bor p, lent_of (c := .bor _) (RepP.weak (fun _ h => Cx.okB_of_okP h) hc), h⟩
    | false => exact ⟨.pv p, lent_of hc, h⟩
  | bor p => exact ⟨.bor p, lent_of hc, h⟩
  | ref o off => exact ⟨.ref o off, lent_of hc, h⟩
  | iadr => exact (says_none h).elim
  | radr => exact (says_none h).elim
  | dead => exact (says_none h).elim
def LentL (x : Cx) (s : St) (lent : List Nat) : List CV → List Value → Prop
  | [], [] => True
  | c :: cs, v :: vs => (v.oneCell' = true ∧ LentC x s c v lent) ∧ LentL x s lent cs vs
  | _, _ => False
def LentAs (x : Cx) (s : St) (lent : List Nat) : List AV → List Value → Prop
  | [], [] => True
  | .one c :: as, v :: vs => (v.oneCell' = true ∧ LentC x s c v lent) ∧ LentAs x s lent as vs
  | .agg l :: as, v :: vs => (∃ cs, v = .agg cs ∧ LentL x s lent l cs.toList) ∧ LentAs x s lent as vs
  | _, _ => False
theorem ownsOf_cons {c : CV} {l : List CV} {r : Nat} : r ∈ ownsOf (c :: l) ↔ r ∈ ownsOf [c] ∨ r ∈ ownsOf l := by
  cases c <;> simp [ownsOf]
theorem ownsOf_append {l m : List CV} {r : Nat} : r ∈ ownsOf (l ++ m) ↔ r ∈ ownsOf l ∨ r ∈ ownsOf m := by
  induction l with
  | nil => simp [ownsOf]
  | cons c l ih => rw [List.cons_append, ownsOf_cons, ownsOf_cons (l := l), ih, or_assoc]
theorem says_passL1 {R : Type} {x : Cx} {s : St} {lent : List Nat} (hs : Sto x s.objs s.rows) : ∀ {cs : List CV} {vs : List Value} {k : List CV → St → Ans R} {r : R}, RepL x cs vs → (∀ r ∈ ownsOf cs, r ∈ lent) → Says (passL true cs s k) r →
    ∃ cs', LentL x s lent cs' vs ∧ Says (k cs' s) r
  | [], [], k, r, _, _, h => ⟨[], trivial, h⟩
  | c :: cs, v :: vs, k, r, hl, hw, h => by
    obtain ⟨c', hc, h1⟩ := says_passC1 hs hl.1.2 (fun r hr => hw r (ownsOf_cons.2 (.inl hr))) h
    obtain ⟨cs', hcs, h2⟩ := says_passL1 hs hl.2 (fun r hr => hw r (ownsOf_cons.2 (.inr hr))) h1
    exact ⟨c' :: cs', ⟨⟨hl.1.1, hc⟩, hcs⟩, h2⟩
theorem says_passA1 {R : Type} {P : Program} {x : Cx} {s : St} {lent : List Nat} (hs : Sto x s.objs s.rows) : ∀ {xs : List SV} {vs : List Value} {ts : List TypeId} {k : List AV → St → Ans R} {r : R}, RepSs x xs vs → (∀ r ∈ ownsOf (xs.flatMap SV.cells), r ∈ lent) →
    Says (passA P true xs ts s k) r → ∃ as, LentAs x s lent as vs ∧ Says (k as s) r
  | [], [], ts, k, r, _, _, h => ⟨[], trivial, h⟩
  | .av (.one c) :: xs, v :: vs, ts, k, r, hl, hw, h => by
    simp only [List.flatMap_cons] at hw
    obtain ⟨c', hc, h1⟩ := says_passC1 hs hl.1.2 (fun r hr => hw r (ownsOf_append.2 (.inl hr))) h
    obtain ⟨cs', hcs, h2⟩ := says_passA1 hs hl.2 (fun r hr => hw r (ownsOf_append.2 (.inr hr))) h1
    exact ⟨.one c' :: cs', ⟨⟨hl.1.1, hc⟩, hcs⟩, h2⟩
  | .av (.agg l) :: xs, v :: vs, ts, k, r, hl, hw, h => by
    simp only [List.flatMap_cons] at hw
    obtain ⟨cs, hv, hL⟩ := hl.1
    obtain ⟨c', hc, h1⟩ := says_passL1 hs hL (fun r hr => hw r (ownsOf_append.2 (.inl hr))) h
    obtain ⟨cs', hcs, h2⟩ := says_passA1 hs hl.2 (fun r hr => hw r (ownsOf_append.2 (.inr hr))) h1
    exact ⟨.agg c' :: cs', ⟨⟨cs, hv, hc⟩, hcs⟩, h2⟩
  | .tup _ :: _, _ :: _, _, _, _, _, _, h => (says_none h).elim

theorem repL_part {x : Cx} {s : St} {p : Part} {B : Nat → Prop} (hp : PartOk x s p B) : ∀ {l : List CV} {vs : List Value}, RepL x l vs → RepL (p.cx x B) (l.map (p.f s.rows)) vs
  | [], [], _ => trivial
  | _ :: _, _ :: _, h => ⟨⟨h.1.1, hp.rep _ _ h.1.2⟩, repL_part hp h.2⟩
theorem repA_part {x : Cx} {s : St} {p : Part} {B : Nat → Prop} (hp : PartOk x s p B) {a : AV} {v : Value} (h : RepA x a v) : RepA (p.cx x B) (a.map (p.f s.rows)) v := by
  cases a with
  | one c => exact ⟨h.1, hp.rep _ _ h.2⟩
  | agg l => obtain ⟨cs, hv, hl⟩ := h; exact ⟨cs, hv, repL_part hp hl⟩
theorem repAs_part {x : Cx} {s : St} {p : Part} {B : Nat → Prop} (hp : PartOk x s p B) : ∀ {l : List AV} {vs : List Value}, RepAs x l vs → RepAs (p.cx x B) (l.map (AV.map (p.f s.rows))) vs
  | [], [], _ => trivial
  | _ :: _, _ :: _, h => ⟨repA_part hp h.1, repAs_part hp h.2⟩
theorem repS_part {x : Cx} {s : St} {p : Part} {B : Nat → Prop} (hp : PartOk x s p B) {a : SV} {v : Value} (h : RepS x a v) : RepS (p.cx x B) (a.map (p.f s.rows)) v := by
  cases a with
  | av a => exact repA_part hp h
  | tup l => obtain ⟨vs, hv, hl⟩ := h; exact ⟨vs, hv, repAs_part hp hl⟩
theorem lentL_part {x : Cx} {s : St} {p : Part} {B : Nat → Prop} {lent : List Nat} (hp : PartOk x s p B) (hl : ∀ r ∈ lent, mem r p.rs = false) : ∀ {l : List CV} {vs : List Value}, LentL x s lent l vs → RepL (p.cx x B) (l.map (p.f s.rows)) vs
  | [], [], _ => trivial
  | _ :: _, _ :: _, h => ⟨⟨h.1.1, h.1.2 p B hp hl⟩, lentL_part hp hl h.2⟩
theorem lentAs_part {x : Cx} {s : St} {p : Part} {B : Nat → Prop} {lent : List Nat} (hp : PartOk x s p B) (hl : ∀ r ∈ lent, mem r p.rs = false) : ∀ {l : List AV} {vs : List Value}, LentAs x s lent l vs → RepAs (p.cx x B) (l.map (AV.map (p.f s.rows))) vs
  | [], [], _ => trivial
  | .one c :: _, _ :: _, h => ⟨⟨h.1.1, h.1.2 p B hp hl⟩, lentAs_part hp hl h.2⟩
  | .agg l :: _, _ :: _, h => ⟨by obtain ⟨cs, hv, hL⟩ := h.1; exact ⟨cs, hv, lentL_part hp hl hL⟩, lentAs_part hp hl h.2⟩
end Go.Ev
