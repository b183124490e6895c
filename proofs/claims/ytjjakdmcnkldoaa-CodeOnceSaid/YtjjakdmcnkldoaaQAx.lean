/- Contracts: arguments and results told anew; loops as iterated steps. No program in sight. -/
import Derived.Test.YtjjakdmcnkldoaaQEvZ
namespace Go.Ev
set_option linter.unusedVariables false
set_option linter.unusedSimpArgs false

/-! ### Told weaker -/
mutual
inductive WkP : PV → PV → Prop
  | eq {p q} : p = q → WkP p q
  | nilsI {k t} : WkP .nils (.ints k [] t)
  | nilsB {t} : WkP .nils (.bools [] t)
  | nilsR {sz t} : WkP .nils (.recs sz [] t)
  | empI {k} : WkP .emp (.ints k [] false)
  | empB : WkP .emp (.bools [] false)
  | empR {sz} : WkP .emp (.recs sz [] false)
  | ints {k l l' t} : l = l' → WkP (.ints k l t) (.ints k l' false)
  | bools {l l' t} : l = l' → WkP (.bools l t) (.bools l' false)
  | recs {sz l l' t} : WkPss l l' → WkP (.recs sz l t) (.recs sz l' false)
  | recsT {sz l l' t} : WkPss l l' → WkP (.recs sz l t) (.recs sz l' t)
  | imm {l l' off} : WkPs l l' → WkP (.imm l off) (.imm l' off)
inductive WkPs : List PV → List PV → Prop
  | nil : WkPs [] []
  | cons {p q l m} : WkP p q → WkPs l m → WkPs (p :: l) (q :: m)
inductive WkPss : List (List PV) → List (List PV) → Prop
  | eq {l m} : l = m → WkPss l m
  | nil : WkPss [] []
  | cons {p q l m} : WkPs p q → WkPss l m → WkPss (p :: l) (q :: m)
  | app {α : Type} {f : α → List PV} {a b l m} : WkPss a (List.map f l) → WkPss b (List.map f m) → WkPss (a ++ b) (List.map f (l ++ m))
end
inductive Wk : CV → CV → Prop
  | eq {c d} : c = d → Wk c d
  | pv {p q} : WkP p q → Wk (.pv p) (.pv q)
  | bor {p q} : WkP p q → Wk (.bor p) (.bor q)
  | own {r off n n' t} : n = n' → Wk (.own r off n t) (.own r off n' t)
  | ownF {r off n n' t} : n = n' → Wk (.own r off n t) (.own r off n' false)
@[reducible] def WkL : List CV → List CV → Prop
  | [], [] => True
  | c :: cs, d :: ds => Wk c d ∧ WkL cs ds
  | _, _ => False
@[reducible] def WkA : AV → AV → Prop
  | .one c, .one d => Wk c d
  | .agg l, .agg m => WkL l m
  | _, _ => False
@[reducible] def WkAs : List AV → List AV → Prop
  | [], [] => True
  | c :: cs, d :: ds => WkA c d ∧ WkAs cs ds
  | _, _ => False
@[reducible] def WkOs : List Obj → List Obj → Prop
  | [], [] => True
  | c :: cs, d :: ds => WkL c d ∧ WkOs cs ds
  | _, _ => False
@[reducible] def WkS : SV → SV → Prop
  | .av a, .av b => WkA a b
  | .tup l, .tup m => WkAs l m
  | _, _ => False
@[reducible] def WkN {α : Type} (R : α → α → Prop) : List (Nat × α) → List (Nat × α) → Prop
  | [], [] => True
  | c :: cs, d :: ds => (c.1 = d.1 ∧ R c.2 d.2) ∧ WkN R cs ds
  | _, _ => False
inductive WkRow : Row → Row → Prop
  | eq {r r'} : r = r' → WkRow r r'
  | recs {sz l l'} : WkPss l l' → WkRow (.recs sz l) (.recs sz l')
@[reducible] def WkRs : List Row → List Row → Prop
  | [], [] => True
  | c :: cs, d :: ds => WkRow c d ∧ WkRs cs ds
  | _, _ => False
@[reducible] def WkRB : RowB → RowB → Prop
  | .live r, .live r' => WkRow r r'
  | .froz r, .froz r' => WkRow r r'
  | .gone, .gone => True
  | _, _ => False
@[reducible] def WkSl (s : List (Nat × SV)) : List (Nat × SV) → Prop
  | [] => True
  | (t, v) :: l => (∃ u, lkup t s = some u ∧ WkS u v) ∧ WkSl s l
@[reducible] def WkSt (s s' : St) : Prop := WkSl s.slots s'.slots ∧ WkN WkL s.objs s'.objs ∧ WkN WkRB s.rows s'.rows

theorem SlAt.slack {w : World} {ok : Nat → Prop} {n : Nat} {t : Bool} {v : Value} {F : (Nat → Option Value) → Prop} (h : SlAt w ok n t v F) : SlAt w ok n false v F := by
  rcases h with h | ⟨b, o, cap, sp, h1, h2, h3, h4⟩
  · exact .inl h
  · exact .inr ⟨b, o, cap, sp, h1, h2, by simp, h4⟩
theorem repPss_app {w : World} {ok : Nat → Prop} {sz : Nat} : ∀ {a b : List (List PV)} {f : Nat → Option Value}, RepPss w ok sz (a ++ b) f ↔ RepPss w ok sz a f ∧ RepPss w ok sz b fun i => f (i + a.length * sz)
  | [], b, f => by simp [RepPss]
  | e :: a, b, f => by
    simp only [List.cons_append, RepPss, repPss_app (a := a), List.length_cons]
    have : (fun i => f (i + a.length * sz + sz)) = fun i => f (i + (a.length + 1) * sz) := by
      funext i; congr 1; rw [Nat.add_mul]; omega
    rw [this]
    constructor
    · rintro ⟨h1, h2, h3, h4⟩; exact ⟨⟨h1, h2, h3⟩, h4⟩
    · rintro ⟨⟨h1, h2, h3⟩, h4⟩; exact ⟨h1, h2, h3, h4⟩
mutual
theorem WkP.rep : ∀ {p q : PV}, WkP p q → ∀ {w : World} {ok okr : Nat → Prop} {v : Value}, RepP w ok okr p v → RepP w ok okr q v
  | _, _, .eq h, w, ok, okr, v, hp => by subst h; exact hp
  | _, _, .nilsI, w, ok, okr, v, hp => by simp only [RepP] at hp ⊢; exact .inl ⟨hp, rfl⟩
  | _, _, .nilsB, w, ok, okr, v, hp => by simp only [RepP] at hp ⊢; exact .inl ⟨hp, rfl⟩
  | _, _, .nilsR, w, ok, okr, v, hp => by simp only [RepP] at hp ⊢; exact .inl ⟨hp, rfl⟩
  | _, _, .empI, w, ok, okr, v, hp => by simp only [RepP] at hp ⊢; obtain ⟨b, o, cap, sp, hv⟩ := hp; exact .inr ⟨b, o, cap, sp, hv, Nat.zero_le _, by simp, fun h => absurd h (Nat.lt_irrefl _)⟩
  | _, _, .empB, w, ok, okr, v, hp => by simp only [RepP] at hp ⊢; obtain ⟨b, o, cap, sp, hv⟩ := hp; exact .inr ⟨b, o, cap, sp, hv, Nat.zero_le _, by simp, fun h => absurd h (Nat.lt_irrefl _)⟩
  | _, _, .empR, w, ok, okr, v, hp => by simp only [RepP] at hp ⊢; obtain ⟨b, o, cap, sp, hv⟩ := hp; exact .inr ⟨b, o, cap, sp, hv, Nat.zero_le _, by simp, fun h => absurd h (Nat.lt_irrefl _)⟩
  | _, _, .ints h, w, ok, okr, v, hp => by subst h; simp only [RepP] at hp ⊢; exact hp.slack
  | _, _, .bools h, w, ok, okr, v, hp => by subst h; simp only [RepP] at hp ⊢; exact hp.slack
  | _, _, .recs h, w, ok, okr, v, hp => by
    simp only [RepP] at hp ⊢
    rw [← WkPss.len h]
    exact hp.slack.mono (fun _ h => h) fun b o _ hF => WkPss.rep h hF
  | _, _, .recsT h, w, ok, okr, v, hp => by
    simp only [RepP] at hp ⊢
    rw [← WkPss.len h]
    exact hp.mono (fun _ h => h) fun b o _ hF => WkPss.rep h hF
  | _, _, .imm h, w, ok, okr, v, hp => by
    simp only [RepP] at hp ⊢
    obtain ⟨b, o, h1, h2, h3⟩ := hp
    exact ⟨b, o, h1, h2, WkPs.rep h h3⟩
theorem WkPs.rep : ∀ {l m : List PV}, WkPs l m → ∀ {w : World} {ok : Nat → Prop} {f : Nat → Option Value}, RepPs w ok l f → RepPs w ok m f
  | _, _, .nil, w, ok, f, h => h
  | _, _, .cons h1 h2, w, ok, f, h => by
    simp only [RepPs] at h ⊢
    obtain ⟨⟨v, hv, hp⟩, hs⟩ := h
    exact ⟨⟨v, hv, WkP.rep h1 hp⟩, WkPs.rep h2 hs⟩
theorem WkPss.rep : ∀ {l m : List (List PV)}, WkPss l m → ∀ {w : World} {ok : Nat → Prop} {sz : Nat} {f : Nat → Option Value}, RepPss w ok sz l f → RepPss w ok sz m f
  | _, _, .eq h, w, ok, sz, f, hp => by subst h; exact hp
  | _, _, .nil, w, ok, sz, f, hp => hp
  | _, _, .cons h1 h2, w, ok, sz, f, hp => by
    simp only [RepPss] at hp ⊢
    exact ⟨by rw [← WkPs.len h1]; exact hp.1, WkPs.rep h1 hp.2.1, WkPss.rep h2 hp.2.2⟩
  | _, _, .app h1 h2, w, ok, sz, f, hp => by
    rw [List.map_append]
    rw [repPss_app] at hp ⊢
    refine ⟨WkPss.rep h1 hp.1, ?_⟩
    rw [← WkPss.len h1]
    exact WkPss.rep h2 hp.2
theorem WkPs.len : ∀ {l m : List PV}, WkPs l m → l.length = m.length
  | _, _, .nil => rfl
  | _, _, .cons _ h2 => by simp [WkPs.len h2]
theorem WkPss.len : ∀ {l m : List (List PV)}, WkPss l m → l.length = m.length
  | _, _, .eq h => by rw [h]
  | _, _, .nil => rfl
  | _, _, .cons _ h2 => by simp [WkPss.len h2]
  | _, _, .app h1 h2 => by
    have := WkPss.len h1
    have := WkPss.len h2
    simp at *
    omega
end
theorem Wk.rep {c d : CV} (h : Wk c d) {x : Cx} {v : Value} (hc : RepC x c v) : RepC x d v := by
  cases h with
  | eq h => subst h; exact hc
  | pv h => exact h.rep hc
  | bor h => exact h.rep hc
  | own h => subst h; exact hc
  | ownF h =>
    subst h
    obtain ⟨h1, h2, h3⟩ := hc
    refine ⟨h1, h2, ?_⟩
    rcases h3 with h3 | ⟨b, o, cap, a1, a2, a3, a4⟩
    · exact .inl h3
    · exact .inr ⟨b, o, cap, a1, a2, by simp, a4⟩
theorem WkL.rep {x : Cx} : ∀ {l m : List CV} {vs : List Value}, WkL l m → RepL x l vs → RepL x m vs
  | [], [], _, _, h => h
  | c :: cs, d :: ds, [], _, h => h
  | c :: cs, d :: ds, v :: vs, hw, h => ⟨⟨h.1.1, hw.1.rep h.1.2⟩, WkL.rep hw.2 h.2⟩
theorem WkA.rep {x : Cx} {a b : AV} {v : Value} (hw : WkA a b) (h : RepA x a v) : RepA x b v := by
  cases a <;> cases b
  · exact ⟨h.1, Wk.rep hw h.2⟩
  · exact hw.elim
  · exact hw.elim
  · obtain ⟨cs, hv, hl⟩ := h; exact ⟨cs, hv, WkL.rep hw hl⟩
theorem WkAs.rep {x : Cx} : ∀ {l m : List AV} {vs : List Value}, WkAs l m → RepAs x l vs → RepAs x m vs
  | [], [], _, _, h => h
  | c :: cs, d :: ds, [], _, h => h
  | c :: cs, d :: ds, v :: vs, hw, h => ⟨WkA.rep hw.1 h.1, WkAs.rep hw.2 h.2⟩
theorem WkS.rep {x : Cx} {a b : SV} {v : Value} (hw : WkS a b) (h : RepS x a v) : RepS x b v := by
  cases a <;> cases b
  · exact WkA.rep hw h
  · exact hw.elim
  · exact hw.elim
  · obtain ⟨vs, hv, hl⟩ := h; exact ⟨vs, hv, WkAs.rep hw hl⟩
theorem WkAs.tup {l m : List AV} (h : WkAs l m) : WkS (tupOf l) (tupOf m) := by
  match l, m, h with
  | [], [], _ => trivial
  | [a], [b], h => exact h.1
  | a :: b :: l, c :: d :: m, h => exact h
theorem WkN.lkup {α : Type} {R : α → α → Prop} : ∀ {l m : List (Nat × α)} {n : Nat} {v : α}, WkN R l m → lkup n m = some v → ∃ u, lkup n l = some u ∧ R u v
  | [], [], n, v, _, h => by simp [Ev.lkup] at h
  | (i, a) :: l, (j, b) :: m, n, v, hw, h => by
    obtain ⟨⟨h1, h2⟩, h3⟩ := hw
    simp only at h1 h2
    subst h1
    rw [lkup_cons] at h ⊢
    split at h
    · rename_i he
      cases h
      exact ⟨a, by rw [if_pos he], h2⟩
    · rename_i he
      rw [if_neg he]
      exact WkN.lkup h3 h
theorem WkN.len {α : Type} {R : α → α → Prop} : ∀ {l m : List (Nat × α)}, WkN R l m → l.length = m.length
  | [], [], _ => rfl
  | _ :: _, _ :: _, h => by simp [WkN.len h.2]
theorem WkSl.lkup {s : List (Nat × SV)} : ∀ {m : List (Nat × SV)} {n : Nat} {v : SV}, WkSl s m → Ev.lkup n m = some v → ∃ u, Ev.lkup n s = some u ∧ WkS u v
  | [], n, v, _, h => by simp [Ev.lkup] at h
  | (j, b) :: m, n, v, hw, h => by
    obtain ⟨h1, h3⟩ := hw
    rw [lkup_cons] at h
    split at h
    · rename_i he
      cases h
      rw [he]; exact h1
    · exact WkSl.lkup h3 h
theorem WkOs.num : ∀ {l m : List Obj} {i : Nat}, WkOs l m → WkN WkL (number i l) (number i m)
  | [], [], _, _ => trivial
  | _ :: _, _ :: _, _, h => ⟨⟨rfl, h.1⟩, WkOs.num h.2⟩
theorem WkOs.len : ∀ {l m : List Obj}, WkOs l m → l.length = m.length
  | [], [], _ => rfl
  | _ :: _, _ :: _, h => by simp [WkOs.len h.2]
theorem wkRB_refl : ∀ (l : List (Nat × RowB)), WkN WkRB l l
  | [] => trivial
  | (_, r) :: l => ⟨⟨rfl, by cases r <;> first | trivial | exact .eq rfl⟩, wkRB_refl l⟩
theorem WkRs.num : ∀ {l m : List Row} {i : Nat}, WkRs l m → WkN WkRB (number i (l.map .live)) (number i (m.map .live))
  | [], [], _, _ => trivial
  | _ :: _, _ :: _, _, h => ⟨⟨rfl, h.1⟩, WkRs.num h.2⟩
theorem WkRs.len : ∀ {l m : List Row}, WkRs l m → l.length = m.length
  | [], [], _ => rfl
  | _ :: _, _ :: _, h => by simp [WkRs.len h.2]
theorem WkRow.esz {r r' : Row} (h : WkRow r r') : r'.esz = r.esz := by
  cases h with
  | eq h => rw [h]
  | recs h => rfl
theorem WkRow.len {r r' : Row} (h : WkRow r r') : r'.len = r.len := by
  cases h with
  | eq h => rw [h]
  | recs h => exact (WkPss.len h).symm
theorem WkRow.is {r r' : Row} (h : WkRow r r') {w : World} {ok : Nat → Prop} {f : Nat → Option Value} (hr : RowIs w ok r f) : RowIs w ok r' f := by
  cases h with
  | eq h => subst h; exact hr
  | recs h => exact WkPss.rep h hr
theorem WkRow.at {x : Cx} {n : Nat} {r r' : Row} (h : WkRow r r') (hr : RowAt x n r) : RowAt x n r' := by
  obtain ⟨c, e, fr, h1, h2, h3, h4, h5, h6, h7⟩ := hr
  exact ⟨c, e, fr, h1, h2, h3, by rw [h.esz]; exact h4, by rw [h.len]; exact h5, by rw [h.len, h.esz]; exact h6, h.is h7⟩
theorem WkRow.vir {x : Cx} {n : Nat} {r r' : Row} (h : WkRow r r') : Vir x n r' ↔ Vir x n r := by
  unfold Vir
  rw [h.len, h.esz]
theorem Sto.wk {x : Cx} {objs objs' : List (Nat × Obj)} {rows rows' : List (Nat × RowB)} (h : Sto x objs rows) (ho : WkN WkL objs objs') (hr : WkN WkRB rows rows') : Sto x objs' rows' := by
  have live : ∀ {r rw}, lkup r rows' = some (.live rw) → ∃ rw0, lkup r rows = some (.live rw0) ∧ WkRow rw0 rw := by
    intro r rw hl
    obtain ⟨u, h1, h2⟩ := hr.lkup hl
    cases u with
    | live r => exact ⟨_, h1, h2⟩
    | froz => exact h2.elim
    | gone => exact h2.elim
  have froz : ∀ {r rw}, lkup r rows' = some (.froz rw) → ∃ rw0, lkup r rows = some (.froz rw0) ∧ WkRow rw0 rw := by
    intro r rw hl
    obtain ⟨u, h1, h2⟩ := hr.lkup hl
    cases u with
    | froz r => exact ⟨_, h1, h2⟩
    | live => exact h2.elim
    | gone => exact h2.elim
  refine ⟨?_, ?_, ?_, ?_, ?_, ?_, h.Slt, h.Blt, h.SB⟩
  · intro o l hl
    obtain ⟨u, h1, h2⟩ := ho.lkup hl
    obtain ⟨hu, hS, c, e, fr, hh, hn, hL⟩ := h.obj o u h1
    exact ⟨hu, hS, c, e, fr, hh, hn, h2.rep hL⟩
  · intro r rw hl
    obtain ⟨rw0, h1, h2⟩ := live hl
    obtain ⟨hu, h3⟩ := h.live r rw0 h1
    exact ⟨hu, h3.imp (fun ⟨a, b⟩ => ⟨a, h2.at b⟩) h2.vir.2⟩
  · intro r rw hl
    obtain ⟨rw0, h1, h2⟩ := froz hl
    obtain ⟨hu, h3⟩ := h.froz r rw0 h1
    exact ⟨hu, h3.imp (fun ⟨a, b⟩ => ⟨a, h2.at b⟩) h2.vir.2⟩
  · intro o o' l l' h1 h2
    obtain ⟨u, h3, _⟩ := ho.lkup h1
    obtain ⟨u', h4, _⟩ := ho.lkup h2
    exact h.injO o o' u u' h3 h4
  · intro r r' a b h1 h2 hv hv'
    obtain ⟨a0, h3, h4⟩ := live h1
    obtain ⟨b0, h5, h6⟩ := live h2
    exact h.injR r r' a0 b0 h3 h5 (fun h' => hv (h4.vir.2 h')) (fun h' => hv' (h6.vir.2 h'))
  · intro o r l rw h1 h2 hv
    obtain ⟨u, h3, _⟩ := ho.lkup h1
    obtain ⟨a0, h4, h5⟩ := live h2
    exact h.injX o r u a0 h3 h4 (fun h' => hv (h5.vir.2 h'))
theorem Tidied.wk {V : Env} {x : Cx} {s s' : St} {a : Act} (h : Tidied V x s a) (hw : WkSt s s') : Tidied V x s' a := by
  refine ⟨⟨h.sto.wk hw.2.1 hw.2.2, ?_, h.nt, h.df, h.pin⟩, fun n hn => ?_⟩
  · intro t v hl
    obtain ⟨u, h1, h2⟩ := WkSl.lkup hw.1 hl
    obtain ⟨h3, h4⟩ := h.sl t u h1
    exact ⟨h3, h2.rep h4⟩
  · rw [← hw.2.1.len, ← hw.2.2.len]; exact h.low n hn

/-! ### Contracts told anew -/
theorem Runs.res' {P : Program} {f : FuncId} {as : List AV} {objs : List Obj} {rows : List Row} {res res' : Res} (h : Runs P f as objs rows res) (hok : okOutRes res' = true) (hlen : objs.length ≤ res'.2.1.length)
    (hr : ∀ y v, Sto y (number 0 res.2.1) (number 0 (res.2.2.map .live)) → RepS y (tupOf res.1) v → ∃ z : Cx, z.w = y.w ∧ Ext y z ∧ (∀ o, o < objs.length → z.g.ob o = y.g.ob o) ∧ Sto z (number 0 res'.2.1) (number 0 (res'.2.2.map .live)) ∧ RepS z (tupOf res'.1) v) :
    Runs P f as objs rows res' :=
  ⟨h.1, hok, hlen, fun x vals h1 h2 h3 => Calls.mono (h.2.2.2 x vals h1 h2 h3) (by
    rintro e w' ⟨v, y, he, hw, hx, hpin, hs, hv⟩
    obtain ⟨z, hzw, hyz, hzo, hs2, hv2⟩ := hr y v hs hv
    exact ⟨v, z, he, hzw.trans hw, hx.trans hyz, fun o ho => by rw [hzo o ho]; exact hpin o ho, hs2, hv2⟩)⟩
/-- What is handed over says more. -/
theorem Runs.coe {P : Program} {f : FuncId} {as as' : List AV} {objs objs' : List Obj} {rows rows' : List Row} {res : Res} (h : Runs P f as objs rows res) (ha : WkAs as' as) (ho : WkOs objs' objs) (hr : WkRs rows' rows) : Runs P f as' objs' rows' res := by
  have hl := ho.len
  have hl2 := hr.len
  refine ⟨h.1, h.2.1, by rw [hl]; exact h.2.2.1, fun x vals h1 h2 h3 => ?_⟩
  have := h.2.2.2 x vals (h1.wk ho.num hr.num) (fun n hn => by rw [← hl, ← hl2]; exact h2 n hn) (ha.rep h3)
  rw [hl]
  exact this
/-- What comes back is told weaker. -/
theorem Runs.out {P : Program} {f : FuncId} {as : List AV} {objs : List Obj} {rows : List Row} {as1 as2 : List AV} {ob1 ob2 : List Obj} {rw1 rw2 : List Row} (h : Runs P f as objs rows (as1, ob1, rw1)) (ha : WkAs as1 as2) (ho : WkOs ob1 ob2) (hr : WkRs rw1 rw2) (hok : okOutRes (as2, ob2, rw2) = true) : Runs P f as objs rows (as2, ob2, rw2) := by
  have hl := h.2.2.1
  refine h.res' hok (by show _ ≤ ob2.length; rw [← ho.len]; exact hl) fun y v hs hv => ⟨y, rfl, Ext.refl y, fun _ _ => rfl, hs.wk ho.num hr.num, ha.tup.rep hv⟩

/-- Rows that are closed. -/
def shutRows : List Nat → List (Nat × RowB) → List (Nat × RowB)
  | [], rows => rows
  | r :: rs, rows => match lkup r rows with
    | some (.live rw) => shutRows rs ((r, .froz rw) :: rows)
    | _ => shutRows rs rows
theorem shutRows_ok {objs : List (Nat × Obj)} : ∀ {rs : List Nat} {rows : List (Nat × RowB)} {x : Cx}, Sto x objs rows → ∃ y : Cx, y.w = x.w ∧ y.g = x.g ∧ Ext x y ∧ Sto y objs (shutRows rs rows)
  | [], rows, x, h => ⟨x, rfl, rfl, Ext.refl x, h⟩
  | r :: rs, rows, x, h => by
    unfold shutRows
    split
    · rename_i rw hl
      obtain ⟨y, h1, h2, h3, h4, _⟩ := close_ok h hl
      obtain ⟨z, h5, h6, h7, h8⟩ := shutRows_ok (rs := rs) h4
      exact ⟨z, h5.trans h1, h6.trans h2, h3.trans h7, h8⟩
    · exact shutRows_ok h
def shutRes (m : Nat) (rs : List Nat) (res : Res) : Option Res :=
  let s : St := ⟨[], number 0 res.2.1, shutRows rs (number 0 (res.2.2.map .live))⟩
  match part (upTo 0 m) (res.1.flatMap AV.cells) s with
  | some p => bif okOutRes (res.1.map (AV.map (p.f s.rows)), p.objs, p.rows) && Nat.ble m p.objs.length then some (res.1.map (AV.map (p.f s.rows)), p.objs, p.rows) else none
  | none => none
theorem Runs.shut {P : Program} {f : FuncId} {as : List AV} {objs : List Obj} {rows : List Row} {res res' : Res} (h : Runs P f as objs rows res) (rs : List Nat) (hc : shutRes objs.length rs res = some res') : Runs P f as objs rows res' := by
  unfold shutRes at hc
  dsimp only at hc
  split at hc
  · rename_i p hp
    cases hb : (okOutRes (res.1.map (AV.map (p.f (shutRows rs (number 0 (res.2.2.map .live))))), p.objs, p.rows) && Nat.ble objs.length p.objs.length) with
    | false => rw [hb] at hc; cases hc
    | true =>
      rw [hb] at hc
      simp only [cond_true, Option.some.injEq] at hc
      simp only [Bool.and_eq_true] at hb
      subst hc
      refine h.res' hb.1 (Nat.le_of_ble_eq_true hb.2) fun y v hs hv => ?_
      obtain ⟨z, h1, h2, h3, h4⟩ := shutRows_ok (rs := rs) hs
      have hok : PartOk z ⟨[], number 0 res.2.1, shutRows rs (number 0 (res.2.2.map .live))⟩ p z.B := part_ok h4 hp (fun b hb => .inl hb)
      refine ⟨p.cx z z.B, h1, h3.trans ⟨rfl, rfl, rfl, Nat.le_refl _, fun _ _ _ => rfl, fun b hb => .inl (hok.Sx b hb), rfl⟩, fun o ho => ?_, hok.sto, ?_⟩
      · show z.g.ob (p.os.getD o 0) = _
        rw [getD_of (part_pins hp ho), h2]
      · have hv2 : RepS z (tupOf res.1) v := hv.mono h3 (by rw [h2]; exact G.Le.refl _)
        have := repS_part hok hv2
        have e : SV.map (p.f (shutRows rs (number 0 (res.2.2.map .live)))) (tupOf res.1) = tupOf (res.1.map (AV.map (p.f (shutRows rs (number 0 (res.2.2.map .live)))))) := by
          match res.1 with
          | [] => rfl
          | [a] => rfl
          | a :: b :: l => rfl
        rw [← e]
        exact this
  · cases hc

/-! ### Loops as iterated steps -/
section
variable {S R : Type}
def iterL (step : S → Option (S ⊕ R)) : Nat → S → Option R
  | 0, _ => none
  | n + 1, s => match step s with
    | none => none
    | some (.inl s') => iterL step n s'
    | some (.inr r) => some r
theorem iterL_more {step : S → Option (S ⊕ R)} : ∀ {n m : Nat} {s : S} {r : R}, iterL step n s = some r → n ≤ m → iterL step m s = some r
  | 0, _, s, r, h, _ => by cases h
  | n + 1, 0, s, r, h, hm => by omega
  | n + 1, m + 1, s, r, h, hm => by
    simp only [iterL] at h ⊢
    split at h
    · cases h
    · exact iterL_more h (by omega)
    · exact h
open Classical in
noncomputable def runL (step : S → Option (S ⊕ R)) (s : S) : Option R :=
  if h : ∃ n r, iterL step n s = some r then some h.choose_spec.choose else none
theorem runL_some {step : S → Option (S ⊕ R)} {s : S} {r : R} : runL step s = some r ↔ ∃ n, iterL step n s = some r := by
  unfold runL
  constructor
  · intro h
    split at h
    · rename_i hx
      have h1 := hx.choose_spec.choose_spec
      cases h
      exact ⟨_, h1⟩
    · cases h
  · rintro ⟨n, h⟩
    have hx : ∃ n r, iterL step n s = some r := ⟨n, r, h⟩
    rw [dif_pos hx]
    have h1 := hx.choose_spec.choose_spec
    have h2 := iterL_more h1 (Nat.le_max_left _ n)
    have h3 := iterL_more h (Nat.le_max_right hx.choose n)
    rw [h2] at h3
    exact h3
theorem runL_next {step : S → Option (S ⊕ R)} {s s' : S} (h : step s = some (.inl s')) : runL step s = runL step s' := by
  apply Option.ext
  intro r
  rw [runL_some, runL_some]
  constructor
  · rintro ⟨n, hn⟩
    cases n with
    | zero => cases hn
    | succ n => simp only [iterL, h] at hn; exact ⟨n, hn⟩
  · rintro ⟨n, hn⟩
    exact ⟨n + 1, by simp only [iterL, h]; exact hn⟩
theorem runL_done {step : S → Option (S ⊕ R)} {s : S} {r : R} (h : step s = some (.inr r)) : runL step s = some r :=
  runL_some.2 ⟨1, by simp only [iterL, h]⟩
theorem runL_same {step : S → Option (S ⊕ R)} {s s' : S} (h : step s = step s') : runL step s = runL step s' := by
  cases hs : step s with
  | none =>
    rw [hs] at h
    apply Option.ext
    intro q
    rw [runL_some, runL_some]
    constructor
    · rintro ⟨n, hn⟩
      cases n with
      | zero => cases hn
      | succ n => simp only [iterL, hs] at hn; cases hn
    · rintro ⟨n, hn⟩
      cases n with
      | zero => cases hn
      | succ n => simp only [iterL, ← h] at hn; cases hn
  | some q =>
    rw [hs] at h
    cases q with
    | inl s => rw [runL_next hs, runL_next h.symm]
    | inr s => rw [runL_done hs, runL_done h.symm]
/-- What a round is. -/
def RoundOk (P : Program) (C : Cfg) (f m : Nat) (c : Code) (st : S → St) (ex : R → Ex × St) (s : S) : S ⊕ R → Prop
  | .inl s' => ∃ sc s1, Says (evRound (lEnv P C f m) c (st s) sc) (.normal, s1) ∧ WkSt s1 (st s')
  | .inr r => ∃ sc s1, Says (evRound (lEnv P C f m) c (st s) sc) ((ex r).1, s1) ∧ WkSt s1 (ex r).2
theorem LRuns.coe {P : Program} {nt m : Nat} {c : Code} {s0 s s' : St} {e : Ex} (h : LRuns P nt m c s e s') (hw : WkSt s0 s) : LRuns P nt m c s0 e s' := by
  cases c with
  | loop c =>
    obtain ⟨n, hn⟩ := h
    exact ⟨n, fun V h1 h2 h3 x a hf => hn V h1 h2 h3 x a (hf.wk hw)⟩
  | scope c =>
    obtain ⟨l, n, hl, hn⟩ := h
    exact ⟨l, n, hl, fun V h1 h2 h3 x a hf => hn V h1 h2 h3 x a (hf.wk hw)⟩
  | _ => exact fun V h1 h2 h3 x a hf => h V h1 h2 h3 x a (hf.wk hw)
theorem LRuns.out {P : Program} {nt m : Nat} {c : Code} {s s1 s' : St} {e : Ex} (h : LRuns P nt m c s e s1) (hw : WkSt s1 s') : LRuns P nt m c s e s' := by
  have post : ∀ {V : Env} {x : Cx} {e' : Exit} {a : Act} {w : World}, Post V x e s1 e' a w → Post V x e s' e' a w := by
    rintro V x e' a w ⟨h1, y, h2, h3, h4⟩
    exact ⟨h1, y, h2, h3, h4.wk hw⟩
  cases c with
  | loop c =>
    obtain ⟨n, hn⟩ := h
    exact ⟨n, fun V h1 h2 h3 x a hf => rounds_mono (fun _ _ _ => post) (hn V h1 h2 h3 x a hf)⟩
  | scope c =>
    obtain ⟨l, n, hl, hn⟩ := h
    exact ⟨l, n, hl, fun V h1 h2 h3 x a hf => jumps_mono (fun _ _ _ => post) (hn V h1 h2 h3 x a hf)⟩
  | _ => exact fun V h1 h2 h3 x a hf => Code.wp_mono (fun _ _ _ => post) (h V h1 h2 h3 x a hf)
/-- What a pass from a scope's label is. -/
def RoundOkS (P : Program) (C : Cfg) (f m : Nat) (c : Code) (st : S → St) (ex : R → Ex × St) (s : S) : S ⊕ R → Prop
  | .inl s' => ∃ sc s1, Says (evRoundS (lEnv P C f m) c (st s) sc) (.normal, s1) ∧ WkSt s1 (st s')
  | .inr r => ∃ sc s1, Says (evRoundS (lEnv P C f m) c (st s) sc) ((ex r).1, s1) ∧ WkSt s1 (ex r).2
theorem scope_iter {P : Program} {C : Cfg} {f m : Nat} {c : Code} {step : S → Option (S ⊕ R)} {st : S → St} {ex : R → Ex × St} (hok : ∀ s z, step s = some z → RoundOkS P C f m c st ex s z) (hne : ∀ r, (ex r).1 ≠ .normal) :
    ∀ (n : Nat) (s : S) (r : R), iterL step n s = some r → LRuns P (lEnv P C f m).nt m (.scope c) (st s) (ex r).1 (ex r).2
  | 0, s, r, h => by cases h
  | n + 1, s, r, h => by
    simp only [iterL] at h
    split at h
    · cases h
    · rename_i s' hs
      obtain ⟨sc, s1, h1, h2⟩ := hok _ _ hs
      exact scope_next h1 ((scope_iter hok hne n s' r h).coe h2)
    · rename_i r' hs
      cases h
      obtain ⟨sc, s1, h1, h2⟩ := hok _ _ hs
      exact (scope_last h1 (hne r)).out h2
theorem scope_run {P : Program} {C : Cfg} {f m : Nat} {c : Code} {step : S → Option (S ⊕ R)} {st : S → St} {ex : R → Ex × St} {s : S} {r : R} (h : runL step s = some r) (hok : ∀ s z, step s = some z → RoundOkS P C f m c st ex s z) (hne : ∀ r, (ex r).1 ≠ .normal) :
    LRuns P (lEnv P C f m).nt m (.scope c) (st s) (ex r).1 (ex r).2 := by
  obtain ⟨n, hn⟩ := runL_some.1 h
  exact scope_iter hok hne n s r hn
theorem piece_run {P : Program} {C : Cfg} {f m t : Nat} {c d : Code} {s s1 s' : St} {sc : List Ev} {e : Ex} (h : Says (evPieceT (lEnv P C f m) t c d s sc) (e, s1)) (hw : WkSt s1 s') : LRuns P (lEnv P C f m).nt m (.cond (.tmp t) c d) s e s' :=
  (piece_ok h).out hw
theorem loop_iter {P : Program} {C : Cfg} {f m : Nat} {c : Code} {step : S → Option (S ⊕ R)} {st : S → St} {ex : R → Ex × St} (hok : ∀ s z, step s = some z → RoundOk P C f m c st ex s z) (hne : ∀ r, (ex r).1 ≠ .normal) :
    ∀ (n : Nat) (s : S) (r : R), iterL step n s = some r → LRuns P (lEnv P C f m).nt m (.loop c) (st s) (ex r).1 (ex r).2
  | 0, s, r, h => by cases h
  | n + 1, s, r, h => by
    simp only [iterL] at h
    split at h
    · cases h
    · rename_i s' hs
      obtain ⟨sc, s1, h1, h2⟩ := hok _ _ hs
      exact loop_next h1 ((loop_iter hok hne n s' r h).coe h2)
    · rename_i r' hs
      cases h
      obtain ⟨sc, s1, h1, h2⟩ := hok _ _ hs
      exact (loop_last h1 (hne r)).out h2
theorem loop_run {P : Program} {C : Cfg} {f m : Nat} {c : Code} {step : S → Option (S ⊕ R)} {st : S → St} {ex : R → Ex × St} {s : S} {r : R} (h : runL step s = some r) (hok : ∀ s z, step s = some z → RoundOk P C f m c st ex s z) (hne : ∀ r, (ex r).1 ≠ .normal) :
    LRuns P (lEnv P C f m).nt m (.loop c) (st s) (ex r).1 (ex r).2 := by
  obtain ⟨n, hn⟩ := runL_some.1 h
  exact loop_iter hok hne n s r hn
end

/-! ### Taking an answer apart -/
theorem need_of {α : Type} {b : Bool} {x : Option α} {r : α} (h : (bif b then x else none) = some r) : b = true ∧ x = some r := by
  cases b
  · cases h
  · exact ⟨rfl, h⟩
theorem cond_of {α : Type} {b : Bool} {x y : Option α} {r : α} (h : (bif b then x else y) = some r) : (b = true ∧ x = some r) ∨ (b = false ∧ y = some r) := by
  cases b
  · exact .inr ⟨rfl, h⟩
  · exact .inl ⟨rfl, h⟩
theorem bind_of {α β : Type} {o : Option β} {k : β → Option α} {r : α} (h : o.bind k = some r) : ∃ z, o = some z ∧ k z = some r := by
  cases o
  · cases h
  · exact ⟨_, rfl, h⟩
theorem some_of {α : Type} {x r : α} (h : some x = some r) : x = r := Option.some.inj h
theorem not_of {b : Bool} (h : b = false) : (!b) = true := by rw [h]; rfl
end Go.Ev
