/- A part of the store under names of its own. No program in sight. -/
import Derived.Test.YtjjakdmcnkldoaaQEvP
namespace Go.Ev
set_option linter.unusedVariables false
set_option linter.unusedSimpArgs false

theorem lkup_number {α : Type} : ∀ (l : List α) (i j : Nat), lkup j (number i l) = if i ≤ j then l[j - i]? else none
  | [], i, j => by simp [number, lkup]
  | v :: l, i, j => by
    simp only [number]
    rw [lkup_cons, lkup_number l (i + 1) j]
    by_cases h : j = i
    · subst h; simp
    · rw [if_neg h]
      by_cases h2 : i + 1 ≤ j
      · rw [if_pos h2, if_pos (by omega), show j - i = j - (i + 1) + 1 by omega]; simp
      · rw [if_neg h2, if_neg (by omega)]
theorem lkup_number0 {α : Type} (l : List α) (j : Nat) : lkup j (number 0 l) = l[j]? := by rw [lkup_number]; simp
theorem mem_iff {x : Nat} : ∀ {l : List Nat}, mem x l = true ↔ x ∈ l
  | [] => by simp [mem]
  | y :: l => by
    unfold mem
    by_cases h : x = y
    · subst h; simp
    · have : Nat.beq x y = false := by cases hb : Nat.beq x y with
        | false => rfl
        | true => exact absurd (Nat.eq_of_beq_eq_true hb) h
      simp [this, h, mem_iff (l := l)]
theorem idx_some {x j : Nat} : ∀ {l : List Nat}, idx x l = some j → l[j]? = some x
  | [], h => by simp [idx] at h
  | y :: l, h => by
    unfold idx at h
    by_cases he : x = y
    · subst he
      simp at h
      subst h; simp
    · have : Nat.beq x y = false := by cases hb : Nat.beq x y with
        | false => rfl
        | true => exact absurd (Nat.eq_of_beq_eq_true hb) he
      simp only [this, cond_false] at h
      cases hi : idx x l with
      | none => simp [hi] at h
      | some i =>
        simp [hi] at h
        subst h
        simpa using idx_some hi
theorem nodup_inj : ∀ {l : List Nat}, nodup l = true → ∀ {i j x : Nat}, l[i]? = some x → l[j]? = some x → i = j
  | [], _, i, j, x, h, _ => by simp at h
  | y :: l, hn, i, j, x, hi, hj => by
    simp only [nodup, Bool.and_eq_true, Bool.not_eq_true'] at hn
    have hy : ∀ k : Nat, l[k]? = some y → False := by
      intro k hk
      have : mem y l = true := mem_iff.2 (List.mem_of_getElem? hk)
      rw [this] at hn
      simp at hn
    cases i with
    | zero =>
      cases j with
      | zero => rfl
      | succ j => simp at hi hj; subst hi; exact (hy _ hj).elim
    | succ i =>
      cases j with
      | zero => simp at hi hj; subst hj; exact (hy _ hi).elim
      | succ j => simp at hi hj; exact congrArg _ (nodup_inj hn.2 hi hj)
theorem getObjs_spec {objs : List (Nat × Obj)} : ∀ {os : List Nat} {obs : List Obj}, getObjs objs os = some obs → obs.length = os.length ∧ ∀ (i o : Nat), os[i]? = some o → ∃ ob, obs[i]? = some ob ∧ lkup o objs = some ob
  | [], obs, h => by simp [getObjs] at h; subst h; simp
  | o :: os, obs, h => by
    unfold getObjs at h
    split at h
    · rename_i ob r ho hr
      cases h
      obtain ⟨h1, h2⟩ := getObjs_spec hr
      refine ⟨by simp [h1], fun i o' hi => ?_⟩
      cases i with
      | zero => simp at hi; subst hi; exact ⟨ob, by simp, ho⟩
      | succ i => simp at hi; obtain ⟨ob', h3, h4⟩ := h2 i o' hi; exact ⟨ob', by simpa using h3, h4⟩
    · cases h
theorem getRows_spec {rows : List (Nat × RowB)} : ∀ {rs : List Nat} {rws : List Row}, getRows rows rs = some rws → rws.length = rs.length ∧ ∀ (i r : Nat), rs[i]? = some r → ∃ rw, rws[i]? = some rw ∧ lkup r rows = some (.live rw)
  | [], obs, h => by simp [getRows] at h; subst h; simp
  | o :: os, obs, h => by
    unfold getRows at h
    split at h
    · rename_i ob r ho hr
      cases h
      obtain ⟨h1, h2⟩ := getRows_spec hr
      refine ⟨by simp [h1], fun i o' hi => ?_⟩
      cases i with
      | zero => simp at hi; subst hi; exact ⟨ob, by simp, ho⟩
      | succ i => simp at hi; obtain ⟨ob', h3, h4⟩ := h2 i o' hi; exact ⟨ob', by simpa using h3, h4⟩
    · cases h

def Part.S (x : Cx) (p : Part) (b : Nat) : Prop := (∃ i o : Nat, p.os[i]? = some o ∧ x.g.ob o = b) ∨ ∃ (i r : Nat) (rw : Row), p.rs[i]? = some r ∧ p.rows[i]? = some rw ∧ ¬ Vir x r rw ∧ x.g.rb r = b
/-- The same world, of which the frame owns that part, under its new names. -/
def Part.cx (x : Cx) (p : Part) (B : Nat → Prop) : Cx :=
  { w := x.w, B := B, S := p.S x,
    g := { ob := fun j => x.g.ob (p.os.getD j 0), rb := fun j => x.g.rb (p.rs.getD j 0), rs := fun j => x.g.rs (p.rs.getD j 0), rc := fun j => x.g.rc (p.rs.getD j 0), rl := fun j => x.g.rl (p.rs.getD j 0),
           U := fun n => n < p.os.length + p.rs.length } }
structure PartOk (x : Cx) (s : St) (p : Part) (B : Nat → Prop) : Prop where
  sto : Sto (p.cx x B) (number 0 p.objs) (number 0 (p.rows.map .live))
  rep : ∀ c v, RepC x c v → RepC (p.cx x B) (p.f s.rows c) v
  olen : p.objs.length = p.os.length
  rlen : p.rows.length = p.rs.length
  Sx : ∀ b, p.S x b → x.S b
  ol : ∀ i o : Nat, p.os[i]? = some o → ∃ l, lkup o s.objs = some l
  rl : ∀ i r : Nat, p.rs[i]? = some r → ∃ rw, lkup r s.rows = some (.live rw) ∧ p.rows[i]? = some rw
  okP : ∀ b, x.okP b → (p.cx x B).okP b
theorem getD_of {l : List Nat} {j x : Nat} (h : l[j]? = some x) : l.getD j 0 = x := by simp [List.getD, h]
theorem some_of_lt {l : List Nat} {j : Nat} (h : j < l.length) : ∃ x, l[j]? = some x := ⟨_, List.getElem?_eq_getElem h⟩
theorem part_ok {x : Cx} {s : St} {pins : List Nat} {roots : List CV} {p : Part} {B : Nat → Prop} (hs : Sto x s.objs s.rows) (h : part pins roots s = some p) (hB : ∀ b, B b → x.B b ∨ (x.S b ∧ ¬ p.S x b)) : PartOk x s p B := by
  unfold part at h
  dsimp only at h
  split at h
  · rename_i obs rws hobs hrws
    cases hnd : (nodup (reachO s.objs 400 (pinned s.objs pins ++ roots) pins) && nodup (reachR s.rows (pinned s.objs (reachO s.objs 400 (pinned s.objs pins ++ roots) pins) ++ roots) [])) with
    | false => rw [hnd] at h; cases h
    | true =>
      rw [hnd] at h
      simp only [cond_true, Option.some.injEq] at h
      generalize reachO s.objs 400 (pinned s.objs pins ++ roots) pins = os at h hobs hnd hrws
      generalize reachR s.rows (pinned s.objs os ++ roots) [] = rs at h hrws hnd
      simp only [Bool.and_eq_true] at hnd
      obtain ⟨hol, hos⟩ := getObjs_spec hobs
      obtain ⟨hrl, hrs⟩ := getRows_spec hrws
      have hpos : p.os = os := by rw [← h]
      have hprs : p.rs = rs := by rw [← h]
      have hprows : p.rows = rws := by rw [← h]
      have hpobjs : p.objs = obs.map (·.map fun c => renC os rs (resC s.rows c)) := by rw [← h]
      have hSx : ∀ b, p.S x b → x.S b := by
        rintro b (⟨i, o, ho, hb⟩ | ⟨i, r, rw0, hr, hr0, hnv, hb⟩)
        · rw [hpos] at ho
          obtain ⟨ob, _, hl⟩ := hos i o ho
          rw [← hb]; exact (hs.obj o ob hl).2.1
        · rw [hprs] at hr
          rw [hprows] at hr0
          obtain ⟨rw', hrw', hl⟩ := hrs i r hr
          rw [hr0] at hrw'
          cases hrw'
          rw [← hb]; exact ((hs.live r rw0 hl).2.resolve_right hnv).1
      have hokP : ∀ b, x.okP b → (p.cx x B).okP b := by
        intro b hb
        exact ⟨hb.1, fun h => hb.2.1 (hSx b h), fun h => (hB b h).elim hb.2.2 (fun h => hb.2.1 h.1)⟩
      have hokB : ∀ b, x.okB b → (p.cx x B).okB b := fun b hb => ⟨hb.1, fun h => hb.2 (hSx b h)⟩
      have hrepP : ∀ {q : PV} {v : Value}, RepP x.w x.okP x.okP q v → RepP (p.cx x B).w (p.cx x B).okP (p.cx x B).okP q v := fun hp => RepP.mono hokP (fun _ _ => rfl) hokP (fun _ _ => rfl) _ hp
      have hrepB : ∀ {q : PV} {v : Value}, RepP x.w x.okP x.okB q v → RepP (p.cx x B).w (p.cx x B).okP (p.cx x B).okB q v := fun hp => RepP.mono hokP (fun _ _ => rfl) hokB (fun _ _ => rfl) _ hp
      have hrep : ∀ c v, RepC x c v → RepC (p.cx x B) (p.f s.rows c) v := by
        intro c v hc
        unfold Part.f
        cases c with
        | pv q => exact hrepP hc
        | bor q => exact hrepB hc
        | ref o off =>
          simp only [resC, renC]
          split
          · rename_i j hj
            have := idx_some hj
            refine ⟨?_, ?_⟩
            · have : j < p.os.length := by
                rcases Nat.lt_or_ge j p.os.length with h' | h'
                · exact h'
                · rw [List.getElem?_eq_none h'] at this; cases this
              show j < p.os.length + p.rs.length
              omega
            · rw [hc.2]
              simp only [Part.cx, getD_of this]
          · trivial
        | own r off n t =>
          simp only [resC]
          split
          · rename_i rw' hr
            exact hrepP (snap_any' hc (hs.froz r rw' hr).2)
          · simp only [renC]
            split
            · rename_i j hj
              have := idx_some hj
              have hlt : j < p.rs.length := by
                rcases Nat.lt_or_ge j p.rs.length with h' | h'
                · exact h'
                · rw [List.getElem?_eq_none h'] at this; cases this
              obtain ⟨h1, h2, h3⟩ := hc
              refine ⟨?_, ?_, ?_⟩
              · show j < p.os.length + p.rs.length
                omega
              · simp only [Part.cx, getD_of this]; exact h2
              · unfold OwnAt at h3 ⊢
                simp only [Part.cx, getD_of this]; exact h3
            · trivial
        | iadr q i fo =>
          obtain ⟨b, o, n, cap, hp, hi, hv⟩ := hc
          exact ⟨b, o, n, cap, hrepB hp, hi, hv⟩
        | radr r i fo =>
          simp only [resC, renC]
          split
          · rename_i j hj
            have := idx_some hj
            have hlt : j < p.rs.length := by
              rcases Nat.lt_or_ge j p.rs.length with h' | h'
              · exact h'
              · rw [List.getElem?_eq_none h'] at this; cases this
            obtain ⟨h1, h2, h3⟩ := hc
            refine ⟨?_, ?_, ?_⟩
            · show j < p.os.length + p.rs.length
              omega
            · simp only [Part.cx, getD_of this]; exact h2
            · simp only [Part.cx, getD_of this]; exact h3
          · trivial
        | dead => trivial
      have hrepL : ∀ {l : List CV} {vs : List Value}, RepL x l vs → RepL (p.cx x B) (l.map (p.f s.rows)) vs := by
        intro l
        induction l with
        | nil => intro vs h; cases vs with | nil => trivial | cons => exact h.elim
        | cons c l ih => intro vs h; cases vs with | nil => exact h.elim | cons v vs => exact ⟨⟨h.1.1, hrep _ _ h.1.2⟩, ih h.2⟩
      have hobjAt : ∀ (j : Nat) (l : Obj), p.objs[j]? = some l → ∃ o ob, p.os[j]? = some o ∧ lkup o s.objs = some ob ∧ l = ob.map (p.f s.rows) := by
        intro j l hl
        rw [hpobjs, List.getElem?_map] at hl
        cases hob : obs[j]? with
        | none => simp [hob] at hl
        | some ob =>
          simp [hob] at hl
          have hlt : j < os.length := by
            rw [← hol]
            rcases Nat.lt_or_ge j obs.length with h' | h'
            · exact h'
            · rw [List.getElem?_eq_none h'] at hob; cases hob
          obtain ⟨o, ho⟩ := some_of_lt hlt
          obtain ⟨ob', h1, h2⟩ := hos j o ho
          rw [hob] at h1; cases h1
          refine ⟨o, ob, by rw [hpos]; exact ho, h2, ?_⟩
          rw [← hl]
          unfold Part.f
          rw [hpos, hprs]
      have hrowAt : ∀ (j : Nat) (rw' : Row), (p.rows.map RowB.live)[j]? = some (.live rw') → ∃ r, p.rs[j]? = some r ∧ lkup r s.rows = some (.live rw') ∧ p.rows[j]? = some rw' := by
        intro j rw' hl
        rw [List.getElem?_map] at hl
        cases hob : p.rows[j]? with
        | none => simp [hob] at hl
        | some ob =>
          simp [hob] at hl
          subst hl
          have hob0 := hob
          rw [hprows] at hob
          have hlt : j < rs.length := by
            rw [← hrl]
            rcases Nat.lt_or_ge j rws.length with h' | h'
            · exact h'
            · rw [List.getElem?_eq_none h'] at hob; cases hob
          obtain ⟨o, ho⟩ := some_of_lt hlt
          obtain ⟨ob', h1, h2⟩ := hrs j o ho
          rw [hob] at h1; cases h1
          exact ⟨o, by rw [hprs]; exact ho, h2, rfl⟩
      have hvirI : ∀ {j r : Nat} {rw' : Row}, p.rs[j]? = some r → (Vir (p.cx x B) j rw' ↔ Vir x r rw') := by
        intro j r rw' hr
        simp only [Vir, Part.cx, getD_of hr]
      refine ⟨⟨?_, ?_, ?_, ?_, ?_, ?_, ?_, ?_, ?_⟩, hrep, by rw [hpobjs, hpos, ← hol]; simp, by rw [hprows, hprs, hrl], hSx, fun i o ho => by rw [hpos] at ho; obtain ⟨ob, _, h⟩ := hos i o ho; exact ⟨ob, h⟩, fun i r hr => by rw [hprs] at hr; obtain ⟨ob, h1, h⟩ := hrs i r hr; exact ⟨ob, h, by rw [hprows]; exact h1⟩, hokP⟩
      · intro j l hl
        rw [lkup_number0] at hl
        obtain ⟨o, ob, ho, hlk, rfl⟩ := hobjAt j l hl
        obtain ⟨h1, h2, c, e, fr, hh, hnf, hL⟩ := hs.obj o ob hlk
        have hlt : j < p.os.length := by
          rcases Nat.lt_or_ge j p.os.length with h' | h'
          · exact h'
          · rw [List.getElem?_eq_none h'] at ho; cases ho
        refine ⟨?_, ?_, c, e, fr, ?_, hnf, hrepL hL⟩
        · show j < p.os.length + p.rs.length
          omega
        · exact .inl ⟨j, o, ho, by simp only [Part.cx, getD_of ho]⟩
        · simp only [Part.cx, getD_of ho]; exact hh
      · intro j rw' hl
        rw [lkup_number0] at hl
        obtain ⟨r, hr, hlk, hrj⟩ := hrowAt j rw' hl
        have hlt : j < p.rs.length := by
          rcases Nat.lt_or_ge j p.rs.length with h' | h'
          · exact h'
          · rw [List.getElem?_eq_none h'] at hr; cases hr
        have hU : (p.cx x B).g.U j := by
          show j < p.os.length + p.rs.length
          omega
        obtain ⟨h1, h2 | ⟨hnv, h2, c, e, fr, hh, hnf, hcs, hes, hrll, hle, his⟩⟩ := hs.liveC hlk
        · exact ⟨hU, .inr ((hvirI hr).2 h2)⟩
        refine ⟨hU, .inl ⟨?_, c, e, fr, ?_, hnf, ?_, ?_, ?_, hle, RowIs.mono hokP (fun _ _ => rfl) his⟩⟩
        · exact .inr ⟨j, r, rw', hr, hrj, hnv, by simp only [Part.cx, getD_of hr]⟩
        · simp only [Part.cx, getD_of hr]; exact hh
        · simp only [Part.cx, getD_of hr]; exact hcs
        · simp only [Part.cx, getD_of hr]; exact hes
        · simp only [Part.cx, getD_of hr]; exact hrll
      · intro j rw' hl
        rw [lkup_number0, List.getElem?_map] at hl
        cases hq : p.rows[j]? <;> simp [hq] at hl
      · intro j j' l l' hl hl' he
        rw [lkup_number0] at hl hl'
        obtain ⟨o, ob, ho, hlk, _⟩ := hobjAt j l hl
        obtain ⟨o', ob', ho', hlk', _⟩ := hobjAt j' l' hl'
        simp only [Part.cx, getD_of ho, getD_of ho'] at he
        have := hs.injO _ _ _ _ hlk hlk' he
        rw [hpos] at ho ho'
        rw [this] at ho
        exact nodup_inj hnd.1 ho ho'
      · intro j j' l l' hl hl' hv hv' he
        rw [lkup_number0] at hl hl'
        obtain ⟨o, ho, hlk, _⟩ := hrowAt j l hl
        obtain ⟨o', ho', hlk', _⟩ := hrowAt j' l' hl'
        simp only [Part.cx, getD_of ho, getD_of ho'] at he
        have := hs.injR _ _ _ _ hlk hlk' (fun h => hv ((hvirI ho).2 h)) (fun h => hv' ((hvirI ho').2 h)) he
        rw [hprs] at ho ho'
        rw [this] at ho
        exact nodup_inj hnd.2 ho ho'
      · intro j j' l rw' hl hl' hv
        rw [lkup_number0] at hl hl'
        obtain ⟨o, ob, ho, hlk, _⟩ := hobjAt j l hl
        obtain ⟨o', ho', hlk', _⟩ := hrowAt j' rw' hl'
        simp only [Part.cx, getD_of ho, getD_of ho']
        exact hs.injX _ _ _ _ hlk hlk' (fun h => hv ((hvirI ho').2 h))
      · intro b hb; exact hs.Slt b (hSx b hb)
      · intro b hb
        rcases hB b hb with h | h
        · exact hs.Blt b h
        · exact hs.Slt b h.1
      · intro b hb hb'
        rcases hB b hb' with h | h
        · exact hs.SB b (hSx b hb) h
        · exact h.2 hb
  · cases h
end Go.Ev
