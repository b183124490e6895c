/- Regions whose order is drawn: the orders. No program in sight. -/
import Derived.Test.YtecblpgljmbpeaaQEvV
namespace Go.Ev
set_option linter.unusedVariables false
set_option linter.unusedSimpArgs false

section
variable {P : Program} {ops : Array Oper} {Q : Exit → Act → World → Prop} {md : Region.Mode}
/-- Whatever comes up; the condition on the world may grow. -/
def wpAnyX (P : Program) (md : Region.Mode) (ops : Array Oper) (Q : Exit → Act → World → Prop) : Nat → Array Bool → (World → Prop) → Act → World → Prop
  | 0, listed, _, a, w => Region.ready md ops listed = [] ∧ Q .normal a w
  | fuel + 1, listed, S, a, w =>
    (Region.ready md ops listed = [] → Q .normal a w) ∧
    ∀ i ∈ Region.ready md ops listed, wpOp P ops Q i (fun a' w' => ∃ S' : World → Prop, (∀ v, S' v → S v) ∧ S' w' ∧ wpAnyX P md ops Q fuel (listed.setIfInBounds i true) S' a' w') a w
theorem wpAny_of_X : ∀ (fuel : Nat) (listed : Array Bool) (S : World → Prop) (a : Act) (w : World), wpAnyX P md ops Q fuel listed S a w → wpAny P md ops Q fuel listed a w
  | 0, _, _, _, _, h => h
  | fuel + 1, _, S, _, _, h => ⟨h.1, fun i hi => wpOp_mono (fun a' w' ⟨S', _, _, h'⟩ => wpAny_of_X fuel _ S' a' w' h') (h.2 i hi)⟩

theorem YieldsIf.weak {S S' : World → Prop} {o : Oper} {v : Value} {a : Act} (h : ∀ w, S' w → S w) (hy : YieldsIf P ops S o v a) : YieldsIf P ops S' o v a :=
  hy.imp (fun ⟨h1, h2⟩ => ⟨h1, fun w hw => h2 w (h w hw)⟩) id

theorem wpAnyX_first {i : Nat} {oi : Oper} {v : Value} (hi : ops[i]? = some oi) (hsel : ∀ (j : Nat) (o : Oper) cs b, ops[j]? = some o → o.op ≠ .select cs b)
    (hQ : ∀ c a w, Q (.panic c) (a.put oi.dst v) w → Q (.panic c) a w) :
    ∀ (fuel : Nat) (listed : Array Bool) (S : World → Prop) (a : Act) (w : World),
      (∀ j oj, ops[j]? = some oj → j ≠ i → listed.getD j true = false → (∀ e ∈ oj.after, Region.binds md e = true → e.on ≠ i) → oi.apart ops oj = true) →
      i ∈ Region.ready md ops listed → YieldsIf P ops S oi v a → S w →
      wpAnyX P md ops Q fuel (listed.setIfInBounds i true) S (a.put oi.dst v) w → wpAnyX P md ops Q (fuel + 1) listed S a w := by
  intro fuel
  induction fuel with
  | zero =>
    intro listed S a w _ hr hy hS H
    refine ⟨fun h => (by rw [h] at hr; cases hr), fun j hj => ?_⟩
    by_cases hji : j = i
    · subst hji; exact hy.wpOp hi hS ⟨S, fun _ h => h, hS, H⟩
    · have := ready_mono hj hji
      rw [H.1] at this
      cases this
  | succ fuel ih =>
    intro listed S a w hfree hr hy hS H
    refine ⟨fun h => (by rw [h] at hr; cases hr), fun j hj => ?_⟩
    by_cases hji : j = i
    · subst hji; exact hy.wpOp hi hS ⟨S, fun _ h => h, hS, H⟩
    · have h1 := H.2 j (ready_mono hj hji)
      obtain ⟨hjun, oj, hoj, hall⟩ := mem_ready.1 hj
      have hnot : ∀ e ∈ oj.after, Region.binds md e = true → e.on ≠ i := fun e he hb heq => by
        have h1 := hall e he hb
        have h0 := (mem_ready.1 hr).1
        rw [heq] at h1
        rcases Nat.lt_or_ge i listed.size with h' | h'
        · simp [h'] at h0 h1; rw [h0] at h1; cases h1
        · simp [Array.getElem?_eq_none h'] at h1
      have h2 := wpOp_putIf hoj (hfree j oj hoj hji hjun hnot) (fun cs b => hsel i oi cs b hi) (fun cs b => hsel j oj cs b hoj) hQ hy h1
      have hfree' : ∀ k ok, ops[k]? = some ok → k ≠ i → (listed.setIfInBounds j true).getD k true = false →
          (∀ e ∈ ok.after, Region.binds md e = true → e.on ≠ i) → oi.apart ops ok = true := fun k ok hk hki hun hno => by
        refine hfree k ok hk hki ?_ hno
        by_cases hjk : j = k
        · subst hjk; exact hjun
        · rw [getD_set_ne true hjk] at hun; exact hun
      refine wpOp_mono (fun a' w' h3 => ?_) h2
      obtain ⟨hy', S', hw, hS', h4⟩ := h3
      refine ⟨S', hw, hS', ih (listed.setIfInBounds j true) S' a' w' hfree' (ready_mono hr (Ne.symm hji)) (YieldsIf.weak hw hy') hS' ?_⟩
      rw [Array.setIfInBounds_comm _ _ hji]
      exact h4
end

/-- What is done, told twice. -/
structure Lst (ops : Array Oper) (listed : Array Bool) (done : List Nat) : Prop where
  size : listed.size = ops.size
  is : ∀ i, i < ops.size → listed.getD i true = mem i done
  lt : ∀ i, mem i done = true → i < ops.size
theorem Lst.getF {ops : Array Oper} {listed : Array Bool} {done : List Nat} (h : Lst ops listed done) (i : Nat) : listed.getD i false = mem i done := by
  by_cases hi : i < ops.size
  · rw [← h.is i hi]
    have : i < listed.size := by rw [h.size]; exact hi
    simp [this]
  · have h2 : ¬ i < listed.size := by rw [h.size]; exact hi
    have h3 : mem i done = false := by
      cases hm : mem i done with
      | false => rfl
      | true => exact absurd (h.lt i hm) hi
    rw [h3]; simp [Array.getElem?_eq_none (Nat.le_of_not_lt h2)]
theorem lst_set {ops : Array Oper} {listed : Array Bool} {done : List Nat} (h : Lst ops listed done) {i : Nat} (hi : i < ops.size) : Lst ops (listed.setIfInBounds i true) (i :: done) := by
  have hl : i < listed.size := by rw [h.size]; exact hi
  refine ⟨by simp [h.size], fun j hj => ?_, fun j hj => ?_⟩
  · have hm : mem j (i :: done) = (Nat.beq j i || mem j done) := by show (bif Nat.beq j i then true else mem j done) = _; cases Nat.beq j i <;> rfl
    rw [hm]
    by_cases hji : j = i
    · subst hji
      simp [hl]
    · rw [getD_set_ne true (Ne.symm hji), h.is j hj]
      have : Nat.beq j i = false := by cases hb : Nat.beq j i with
        | false => rfl
        | true => exact absurd (Nat.eq_of_beq_eq_true hb) hji
      rw [this]; rfl
  · have hm := mem_iff.1 hj
    rcases List.mem_cons.1 hm with rfl | hm
    · exact hi
    · exact h.lt j (mem_iff.2 hm)
theorem lst_nil (ops : Array Oper) : Lst ops (Array.replicate ops.size false) [] :=
  ⟨by simp, fun i hi => by simp [mem, hi], fun i h => by simp [mem] at h⟩

theorem mem_rdy {ops : List Oper} {done : List Nat} : ∀ {l : List Oper} {k i : Nat}, i ∈ rdy ops done k l ↔ k ≤ i ∧ mem i done = false ∧ ∃ o, l[i - k]? = some o ∧ ∀ e ∈ o.after, Region.binds .any e = true → mem e.on done = true
  | [], k, i => by simp [rdy]
  | o :: l, k, i => by
    have key : (!(mem k done) && o.after.toList.all (fun e => !Region.binds .any e || mem e.on done)) = true ↔ mem k done = false ∧ ∀ e ∈ o.after, Region.binds .any e = true → mem e.on done = true := by
      rw [Bool.and_eq_true, Bool.not_eq_true']
      refine and_congr Iff.rfl ?_
      rw [List.all_eq_true]
      constructor
      · intro h e he hb
        have := h e (by simpa using he)
        simpa [hb] using this
      · intro h e he
        cases hb : Region.binds .any e with
        | false => rfl
        | true => simpa [hb] using h e (by simpa using he) hb
    unfold rdy
    have hrec := mem_rdy (ops := ops) (done := done) (l := l) (k := k + 1) (i := i)
    have hstep : i ∈ rdy ops done (k + 1) l ↔ k < i ∧ mem i done = false ∧ ∃ o', (o :: l)[i - k]? = some o' ∧ ∀ e ∈ o'.after, Region.binds .any e = true → mem e.on done = true := by
      rw [hrec]
      constructor
      · rintro ⟨h1, h2, o', h3, h4⟩
        refine ⟨h1, h2, o', ?_, h4⟩
        rw [show i - k = i - (k + 1) + 1 by omega]; simpa using h3
      · rintro ⟨h1, h2, o', h3, h4⟩
        refine ⟨h1, h2, o', ?_, h4⟩
        rw [show i - k = i - (k + 1) + 1 by omega] at h3; simpa using h3
    cases hc : (!(mem k done) && o.after.toList.all (fun e => !Region.binds .any e || mem e.on done)) with
    | true =>
      simp only [cond_true, List.mem_cons]
      rw [hstep]
      have hk := key.1 hc
      constructor
      · rintro (rfl | h)
        · exact ⟨Nat.le_refl _, hk.1, o, by simp, hk.2⟩
        · exact ⟨Nat.le_of_lt h.1, h.2⟩
      · rintro ⟨h1, h2⟩
        rcases Nat.lt_or_eq_of_le h1 with h1 | rfl
        · exact .inr ⟨h1, h2⟩
        · exact .inl rfl
    | false =>
      simp only [cond_false]
      rw [hstep]
      constructor
      · rintro ⟨h1, h2⟩; exact ⟨Nat.le_of_lt h1, h2⟩
      · rintro ⟨h1, h2, o', h3, h4⟩
        rcases Nat.lt_or_eq_of_le h1 with h1 | rfl
        · exact ⟨h1, h2, o', h3, h4⟩
        · simp at h3; subst h3
          have := key.2 ⟨h2, h4⟩
          rw [hc] at this; cases this
theorem ready_rdy {ops : Array Oper} {listed : Array Bool} {done : List Nat} (h : Lst ops listed done) {i : Nat} : i ∈ Region.ready .any ops listed ↔ i ∈ rdy ops.toList done 0 ops.toList := by
  rw [mem_ready, mem_rdy]
  simp only [Nat.zero_le, true_and, Nat.sub_zero, Array.getElem?_toList]
  constructor
  · rintro ⟨h1, o, ho, h2⟩
    have hlt : i < ops.size := (Array.getElem?_eq_some_iff.1 ho).1
    exact ⟨by rw [← h.is i hlt]; exact h1, o, ho, fun e he hb => by rw [← h.getF]; exact h2 e he hb⟩
  · rintro ⟨h1, o, ho, h2⟩
    have hlt : i < ops.size := (Array.getElem?_eq_some_iff.1 ho).1
    exact ⟨by rw [h.is i hlt]; exact h1, o, ho, fun e he hb => by rw [h.getF]; exact h2 e he hb⟩
theorem ready_nil {ops : Array Oper} {listed : Array Bool} {done : List Nat} (h : Lst ops listed done) : Region.ready .any ops listed = [] ↔ rdy ops.toList done 0 ops.toList = [] := by
  constructor
  · intro h1
    cases hr : rdy ops.toList done 0 ops.toList with
    | nil => rfl
    | cons i l =>
      have : i ∈ Region.ready .any ops listed := (ready_rdy h).2 (by rw [hr]; simp)
      rw [h1] at this; cases this
  · intro h1
    cases hr : Region.ready .any ops listed with
    | nil => rfl
    | cons i l =>
      have : i ∈ rdy ops.toList done 0 ops.toList := (ready_rdy h).1 (by rw [hr]; simp)
      rw [h1] at this; cases this

theorem waits_spec {ops : Array Oper} {i j : Nat} (h : waits ops.toList j i = true) : ∃ o, ops[j]? = some o ∧ ∃ e ∈ o.after, Region.binds .any e = true ∧ e.on = i := by
  unfold waits at h
  split at h
  · rename_i o ho
    obtain ⟨e, he, hb⟩ := List.any_eq_true.1 h
    simp only [Bool.and_eq_true] at hb
    exact ⟨o, by simpa using ho, e, by simpa using he, hb.1, Nat.eq_of_beq_eq_true hb.2⟩
  · cases h
theorem mem_upTo {i n : Nat} (h : i < n) : i ∈ upTo 0 n := by
  have := upTo_get (i := 0) h
  simp only [Nat.zero_add] at this
  exact List.mem_of_getElem? this
theorem apartAll_spec {ops : Array Oper} (h : apartAll ops ops.toList = true) {listed : Array Bool} {i : Nat} {oi : Oper} (hi : ops[i]? = some oi) (hr : i ∈ Region.ready .any ops listed) (j : Nat) (oj : Oper) (hj : ops[j]? = some oj) (hne : j ≠ i)
    (hun : listed.getD j true = false) (hno : ∀ e ∈ oj.after, Region.binds .any e = true → e.on ≠ i) : oi.apart ops oj = true := by
  unfold apartAll at h
  have hil : i < ops.size := (Array.getElem?_eq_some_iff.1 hi).1
  have hjl : j < ops.size := (Array.getElem?_eq_some_iff.1 hj).1
  have h1 := List.all_eq_true.1 (List.all_eq_true.1 h i (mem_upTo (by simpa using hil))) j (mem_upTo (by simpa using hjl))
  simp only [Array.getElem?_toList, hi, hj, Bool.or_eq_true] at h1
  rcases h1 with ((h1 | h1) | h1) | h1
  · exact absurd (Nat.eq_of_beq_eq_true h1).symm hne
  · obtain ⟨o, ho, e, he, hb, hon⟩ := waits_spec h1
    rw [hj] at ho; cases ho
    exact absurd hon (hno e he hb)
  · obtain ⟨o, ho, e, he, hb, hon⟩ := waits_spec h1
    rw [hi] at ho; cases ho
    obtain ⟨_, o2, ho2, hall⟩ := mem_ready.1 hr
    rw [hi] at ho2; cases ho2
    have := hall e he hb
    rw [hon] at this
    have hlt : j < listed.size := by
      rcases Nat.lt_or_ge j listed.size with h' | h'
      · exact h'
      · simp [Array.getElem?_eq_none h'] at this
    simp [hlt] at this hun
    rw [this] at hun; cases hun
  · exact h1
theorem noSel_spec {ops : Array Oper} (h : noSel ops.toList = true) (j : Nat) (o : Oper) (cs : Array SelectCase) (b : Bool) (hj : ops[j]? = some o) : o.op ≠ .select cs b := by
  intro heq
  have := List.all_eq_true.1 h o (by simpa using Array.mem_of_getElem? hj)
  simp [heq] at this

theorem says_bindA {A R : Type} {x : Ans A} {k : A → Ans R} {r : R} (h : Says (bindA x k) r) : ∃ z, Says x z ∧ Says (k z) r := by
  obtain ⟨ps, he, hp⟩ := h
  unfold bindA at he
  split at he
  · rename_i z qs
    split at he
    · rename_i r' qs' hk
      cases he
      exact ⟨z, ⟨qs, rfl, fun p hq => hp p (by simp [hq])⟩, ⟨qs', hk, fun p hq => hp p (by simp [hq])⟩⟩
    · cases he
  · cases he
theorem says_alts {go : Nat → List Ev → Ans (List Ev × St)} {s1 : St} : ∀ {l : List Nat} {sc : List Ev} {r : List Ev × St}, Says (evAlts go s1 l sc) r → r.2 = s1 ∧ ∀ j ∈ l, ∃ sc z, Says (go j sc) z ∧ z.2 = s1
  | [], sc, r, h => by
    obtain ⟨ps, he, _⟩ := h
    simp only [evAlts, Option.some.injEq, Prod.mk.injEq] at he
    rw [← he.1]
    exact ⟨rfl, by simp⟩
  | j :: l, sc, r, h => by
    obtain ⟨z, hz, h1⟩ := says_bindA h
    obtain ⟨he, h2⟩ := says_obl h1
    obtain ⟨h3, h4⟩ := says_alts h2
    refine ⟨h3, fun i hi => ?_⟩
    rcases List.mem_cons.1 hi with rfl | hi
    · exact ⟨sc, z, hz, he⟩
    · exact h4 i hi
theorem firstSteady_spec {P : Program} {ol : List Oper} {s : St} : ∀ {l : List Nat} {i : Nat}, firstSteady P ol s l = some i → i ∈ l ∧ ∃ o, ol[i]? = some o ∧ steadyOp P o.op s = true
  | [], i, h => by simp [firstSteady] at h
  | j :: l, i, h => by
    unfold firstSteady at h
    split at h
    · rename_i o ho
      cases hb : steadyOp P o.op s with
      | true => rw [hb] at h; cases h; exact ⟨by simp, o, ho, hb⟩
      | false =>
        rw [hb] at h
        obtain ⟨h1, h2⟩ := firstSteady_spec h
        exact ⟨by simp [h1], h2⟩
    · cases h

/-- One operation in an order that is drawn. -/
def goD (V : Env) (ops : Array Oper) (base n : Nat) (keep : List Nat) (f : Nat) (done : List Nat) (s : St) (i : Nat) (sc : List Ev) : Ans (List Ev × St) :=
  getD' (ops.toList[i]?) fun o => evOper V ops o (fun j => base + i + n * j) s sc fun sc s => evDecide ops o s sc fun sc s => evDraw V ops ops.toList base n keep f (i :: done) s sc

set_option maxHeartbeats 1000000 in
theorem says_draw {V : Env} (hV : ∀ f as objs rows res, V.call f as objs rows res → Runs V.P f as objs rows res) {ops : Array Oper} {base : Nat} {keep : List Nat} {Q : Exit → Act → World → Prop} (hsel : noSel ops.toList = true) (hap : apartAll ops ops.toList = true)
    (hQp : ∀ c a w, ¬ Q (.panic c) a w) :
    ∀ (f : Nat) {listed : Array Bool} {done : List Nat} {x : Cx} {s : St} {a : Act} {sc : List Ev} {r : List Ev × St}, Lst ops listed done → Fits V x s a → Used x base ops.size (fun i => mem i done = true) → Says (evDraw V ops ops.toList base ops.size keep f done s sc) r →
      (∀ y a', Rel V.m x y → Tidied V y r.2 a' → Q .normal a' y.w) → wpAnyX V.P .any ops Q f listed (Agree x) a x.w := by
  intro f
  have fin : ∀ {x : Cx} {s : St} {a : Act} {sc : List Ev} {r : List Ev × St}, Fits V x s a → Says (evTidy V keep s fun s => some ((sc, s), [])) r → (∀ y a', Rel V.m x y → Tidied V y r.2 a' → Q .normal a' y.w) → Q .normal a x.w := by
    intro x s a sc r hf h hQ
    obtain ⟨y, s', hrel, hw, ht, h1⟩ := says_tidy hf h
    obtain ⟨ps, he, _⟩ := h1
    rw [← hw]
    exact hQ y a hrel (by cases he; exact ht)
  induction f with
  | zero =>
    intro listed done x s a sc r hl hf hU h hQ
    unfold evDraw at h
    split at h
    · rename_i hr
      exact ⟨(ready_nil hl).2 hr, fin hf h hQ⟩
    · exact (says_none h).elim
  | succ f ih =>
    intro listed done x s a sc r hl hf hU h hQ
    unfold evDraw at h
    dsimp only at h
    -- one operation
    have one : ∀ {i : Nat} {sc : List Ev} {r' : List Ev × St}, i ∈ rdy ops.toList done 0 ops.toList → r'.2 = r.2 → Says (goD V ops base ops.size keep f done s i sc) r' → ∀ {S : World → Prop}, (∀ w, Agree x w → S w) →
        wpOp V.P ops Q i (fun a' w' => ∃ S' : World → Prop, (∀ v, S' v → S v) ∧ S' w' ∧ wpAnyX V.P .any ops Q f (listed.setIfInBounds i true) S' a' w') a x.w := by
      intro i sc r' hi hr' h S hS
      obtain ⟨o, ho, h1⟩ := says_get h
      have ho' : ops[i]? = some o := by simpa using ho
      have hlt : i < ops.size := (Array.getElem?_eq_some_iff.1 ho').1
      have hnd : ¬ mem i done = true := by
        have := (mem_rdy.1 hi).2.1
        rw [this]; simp
      unfold wpOp
      simp only [ho']
      have key := says_oper (Q := Q) (K := fun a' w' => ∃ S' : World → Prop, (∀ v, S' v → S v) ∧ S' w' ∧ wpAnyX V.P .any ops Q f (listed.setIfInBounds i true) S' a' w') hV hf (nm_fresh hU hlt hnd) (nm_inj (by omega)) h1
        (fun y s' a' sc' hrel hx hUy hf' h' => ⟨Agree y, fun v hv => hS v (Agree.of_ext hx hv), Agree.refl y,
          ih (lst_set hl hlt) hf' (used_step hU hlt hUy (fun k hk => mem_iff.2 (List.mem_cons_of_mem _ (mem_iff.1 hk))) (mem_iff.2 (by simp))) h' (fun z a2 hrel2 ht => hQ z a2 (hrel.trans hrel2) (by rw [← hr']; exact ht))⟩)
      split
      · rename_i hw; rw [if_pos hw] at key; exact .inl key
      · rename_i hw; rw [if_neg hw] at key; exact key
    split at h
    · rename_i hr
      have hn := (ready_nil hl).2 hr
      refine ⟨fun _ => fin hf h hQ, fun i hi => ?_⟩
      rw [hn] at hi; cases hi
    · rename_i i0 l hr
      split at h
      · rename_i i hfs
        obtain ⟨hmem, o, ho, hst⟩ := firstSteady_spec hfs
        rw [← hr] at hmem
        have ho' : ops[i]? = some o := by simpa using ho
        have hlt : i < ops.size := (Array.getElem?_eq_some_iff.1 ho').1
        have hrdy := (ready_rdy hl).2 hmem
        -- what it yields
        obtain ⟨o2, ho2, h1⟩ := says_get h
        rw [ho] at ho2; cases ho2
        unfold evOper at h1
        obtain ⟨b, hb, h2⟩ := says_guard hf.sl h1
        have hy : ∃ v s2 sc2, YieldsIf V.P ops (Agree x) o v a ∧ Fits V x s2 (a.put o.dst v) ∧ Says (evDraw V ops ops.toList base ops.size keep f (i :: done) s2 sc2) r := by
          cases b with
          | true =>
            simp only at h2
            obtain ⟨sc0, u, sv, hrun, hr2, h3⟩ := says_steady hf.sto hf.sl hst h2
            obtain ⟨s2, hf2, h4⟩ := says_set hf (Ext.refl x) (G.Le.refl _) hf.sto rfl hr2 h3
            obtain ⟨s3, sc3, hf3, h5⟩ := says_decide hf2 h4
            exact ⟨u, s3, sc3, .inl ⟨hb, hrun⟩, hf3, h5⟩
          | false =>
            simp only at h2
            obtain ⟨s2, hf2, h4⟩ := says_set hf (Ext.refl x) (G.Le.refl _) hf.sto rfl rep_undef h2
            obtain ⟨s3, sc3, hf3, h5⟩ := says_decide hf2 h4
            exact ⟨undef, s3, sc3, .inr ⟨hb, rfl⟩, hf3, h5⟩
        obtain ⟨v, s2, sc2, hy, hf2, h5⟩ := hy
        refine wpAnyX_first ho' (noSel_spec hsel) (fun c a w hq => (hQp c _ w hq).elim) f listed (Agree x) a x.w (fun j oj hj hne hun hno => apartAll_spec hap ho' hrdy j oj hj hne hun hno) hrdy hy (Agree.refl x) ?_
        exact ih (lst_set hl hlt) hf2 (used_step hU hlt (fun m hm => .inl hm) (fun k hk => mem_iff.2 (List.mem_cons_of_mem _ (mem_iff.1 hk))) (mem_iff.2 (by simp))) h5 hQ
      · rename_i hfs
        obtain ⟨z, hz, h1⟩ := says_bindA h
        obtain ⟨he, halts⟩ := says_alts h1
        refine ⟨fun hn => ?_, fun i hi => ?_⟩
        · have := (ready_nil hl).1 hn
          rw [this] at hr; cases hr
        · have hm := (ready_rdy hl).1 hi
          have hm2 := hm
          rw [hr] at hm2
          rcases List.mem_cons.1 hm2 with rfl | hm2
          · exact one hm he.symm hz (fun w hw => hw)
          · obtain ⟨sc2, z2, h3, h4⟩ := halts i hm2
            exact one hm (h4.trans he.symm) h3 (fun w hw => hw)

theorem says_drawn {R : Type} {V : Env} (hV : ∀ f as objs rows res, V.call f as objs rows res → Runs V.P f as objs rows res) {ops : Array Oper} {id : Nat} {Q : Exit → Act → World → Prop} {x : Cx} {s : St} {a : Act} {sc : List Ev} {k : List Ev → St → Ans R} {r : R}
    (hf : Tidied V x s a) (h : Says (evDrawn V id ops s sc k) r) (hQ : ∀ y s' a' sc', Rel V.m x y → Tidied V y s' a' → Says (k sc' s') r → Q .normal a' y.w) : (Code.region id ops true).wp V.P Q a x.w := by
  unfold evDrawn at h
  obtain ⟨hc, h1⟩ := says_chk h
  simp only [Bool.and_eq_true] at hc
  obtain ⟨z, hz, h2⟩ := says_bindA h1
  let Q' : Exit → Act → World → Prop := fun e a w => match e with
    | .normal => Q .normal a w
    | _ => False
  refine Code.wp_mono (Q := Q') (fun e a w hq => by cases e <;> first | exact hq | exact hq.elim) ?_
  refine wp_region_any hc.1.1 (wpAny_of_X _ _ (Agree { x with w := { x.w with drawn := x.w.drawn + 1 } }) _ _ ?_)
  let x' : Cx := { x with w := { x.w with drawn := x.w.drawn + 1 } }
  have hg : Grow x x' := ⟨⟨rfl, rfl, rfl, Nat.le_refl _, fun _ _ _ => rfl, fun b hb => .inl hb, rfl⟩, G.Le.refl _, fun _ _ => rfl, fun _ h => h, hf.sto.Slt⟩
  have hf' : Fits V x' s a := ⟨hf.sto.grow hg, hf.sl.mono hg.ext hg.g, hf.nt, hf.df, hf.pin⟩
  refine says_draw (Q := Q') hV hc.1.2 hc.2 (fun c a w hq => hq) ops.size (lst_nil ops) hf' (fun m hu => .inl (hf.low m hu)) hz (fun y a' hrel ht => ?_)
  exact hQ y z.2 a' z.1 ((rel_of hf.pin hg.ext hg.g).trans hrel) ht h2
end Go.Ev
