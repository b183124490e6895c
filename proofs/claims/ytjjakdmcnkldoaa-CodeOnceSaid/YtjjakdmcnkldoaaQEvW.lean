/- Regions whose order is drawn: the orders. No program in sight. -/
import Derived.Test.YtjjakdmcnkldoaaQEvV
namespace Go.Ev
set_option linter.unusedVariables false
set_option linter.unusedSimpArgs false

section
variable {P : Program} {ops : Array Oper} {Q : Exit → Act → World → Prop} {md : Region.Mode}
/-- Whatever comes up; the condition on the world may grow. -/
def wpAnyX (P : Program) (md : Region.Mode) (ops : Array Oper) (Q : Exit → Act → World → Prop) : Nat → Array Bool → (World → Prop) → Act → World → Prop
  | 0, listed, _, a, w => Region.ready md ops listed = [] ∧ Q .normal a w
  | fuel + 1, listed, S, a, w =>
    (Region.ready md ops listed = [] → Q .normal a w) ∧
    ∀ i ∈ Region.ready md ops listed, wpOp P ops Q i (fun a' w' => ∃ S' : World → Prop, (∀ v, S' v → S v) ∧ S' w' ∧ wpAnyX P md ops Q fuel (listed.setIfInBounds i true) S' a' w') a w
theorem wpAny_of_X : ∀ (fuel : Nat) (listed : Array Bool) (S : World → Prop) (a : Act) (w : World), wpAnyX P md ops Q fuel listed S a w → wpAny P md ops Q fuel listed a w
  | 0, _, _, _, _, h => h
  | fuel + 1, _, S, _, _, h => ⟨h.1, fun i hi => wpOp_mono (fun a' w' ⟨S', _, _, h'⟩ => wpAny_of_X fuel _ S' a' w' h') (h.2 i hi)⟩

theorem YieldsIf.weak {S S' : World → Prop} {o : Oper} {v : Value} {a : Act} (h : ∀ w, S' w → S w) (hy : YieldsIf P ops S o v a) : YieldsIf P ops S' o v a :=
  hy.imp (fun ⟨h1, h2⟩ => ⟨h1, fun w hw => h2 w (h w hw)⟩) id

theorem wpAnyX_first {i : Nat} {oi : Oper} {v : Value} (hi : ops[i]? = some oi) (hsel : ∀ (j : Nat) (o : Oper) cs b, ops[j]? = some o → o.op ≠ .select cs b)
    (hQ : ∀ c a w, Q (.panic c) (a.put oi.dst v) w → Q (.panic c) a w) :
    ∀ (fuel : Nat) (listed : Array Bool) (S : World → Prop) (a : Act) (w : World),
      (∀ j oj, ops[j]? = some oj → j ≠ i → listed.getD j true = false → (∀ e ∈ oj.after, Region.binds md e = true → e.on ≠ i) → oi.apart ops oj = true) →
      i ∈ Region.ready md ops listed → YieldsIf P ops S oi v a → S w →
      wpAnyX P md ops Q fuel (listed.setIfInBounds i true) S (a.put oi.dst v) w → wpAnyX P md ops Q (fuel + 1) listed S a w := by
  intro fuel
  induction fuel with
  | zero =>
    intro listed S a w _ hr hy hS H
    refine ⟨fun h => (by rw [h] at hr; cases hr), fun j hj => ?_⟩
    by_cases hji : j = i
    · subst hji; exact hy.wpOp hi hS ⟨S, fun _ h => h, hS, H⟩
    · have := ready_mono hj hji
      rw [H.1] at this
      cases this
  | succ fuel ih =>
    intro listed S a w hfree hr hy hS H
    refine ⟨fun h => (by rw [h] at hr; cases hr), fun j hj => ?_⟩
    by_cases hji : j = i
    · subst hji; exact hy.wpOp hi hS ⟨S, fun _ h => h, hS, H⟩
    · have h1 := H.2 j (ready_mono hj hji)
      obtain ⟨hjun, oj, hoj, hall⟩ := mem_ready.1 hj
      have hnot : ∀ e ∈ oj.after, Region.binds md e = true → e.on ≠ i := fun e he hb heq => by
        have h1 := hall e he hb
        have h0 := (mem_ready.1 hr).1
        rw [heq] at h1
        rcases Nat.lt_or_ge i listed.size with h' | h'
        · simp [h'] at h0 h1; rw [h0] at h1; cases h1
        · simp [Array.getElem?_eq_none h'] at h1
      have h2 := wpOp_putIf hoj (hfree j oj hoj hji hjun hnot) (fun cs b => hsel i oi cs b hi) (fun cs b => hsel j oj cs b hoj) hQ hy h1
      have hfree' : ∀ k ok, ops[k]? = some ok → k ≠ i → (listed.setIfInBounds j true).getD k true = false →
          (∀ e ∈ ok.after, Region.binds md e = true → e.on ≠ i) → oi.apart ops ok = true := fun k ok hk hki hun hno => by
        refine hfree k ok hk hki ?_ hno
        by_cases hjk : j = k
        · subst hjk; exact hjun
        · rw [getD_set_ne true hjk] at hun; exact hun
      refine wpOp_mono (fun a' w' h3 => ?_) h2
      obtain ⟨hy', S', hw, hS', h4⟩ := h3
      refine ⟨S', hw, hS', ih (listed.setIfInBounds j true) S' a' w' hfree' (ready_mono hr (Ne.symm hji)) (YieldsIf.weak hw hy') hS' ?_⟩
      rw [Array.setIfInBounds_comm _ _ hji]
      exact h4
end

/-- What is done, told twice. -/
structure Lst (ops : Array Oper) (listed : Array Bool) (done : List Nat) : Prop where
  size : listed.size = ops.size
  is : ∀ i, i < ops.size → listed.getD i true = mem i done
  lt : ∀ i, mem i done = true → i < ops.size
theorem Lst.getF {ops : Array Oper} {listed : Array Bool} {done : List Nat} (h : Lst ops listed done) (i : Nat) : listed.getD i false = mem i done := by
  by_cases hi : i < ops.size
  · rw [← h.is i hi]
    have : i < listed.size := by rw [h.size]; exact hi
    simp [this]
  · have h2 : ¬ i < listed.size := by rw [h.size]; exact hi
    have h3 : mem i done = false := by
      cases hm : mem i done with
      | false => rfl
      | true => exact absurd (h.lt i hm) hi
    rw [h3]; simp [Array.getElem?_eq_none (Nat.le_of_not_lt h2)]
theorem lst_set {ops : Array Oper} {listed : Array Bool} {done : List Nat} (h : Lst ops listed done) {i : Nat} (hi : i < ops.size) : Lst ops (listed.setIfInBounds i true) (i :: done) := by
  have hl : i < listed.size := by rw [h.size]; exact hi
  refine ⟨by simp [h.size], fun j hj => ?_, fun j hj => ?_⟩
  · have hm : mem j (i :: done) = (Nat.beq j i || mem j done) := by show (bif Nat.beq j i then true else mem j done) = _; cases Nat.beq j i <;> rfl
    rw [hm]
    by_cases hji : j = i
    · subst hji
      simp [hl]
    · rw [getD_set_ne true (Ne.symm hji), h.is j hj]
      have : Nat.beq j i = false := by cases hb : Nat.beq j i with
        | false => rfl
        | true => exact absurd (Nat.eq_of_beq_eq_true hb) hji
      rw [this]; rfl
  · have hm := mem_iff.1 hj
    rcases List.mem_cons.1 hm with rfl | hm
    · exact hi
    · exact h.lt j (mem_iff.2 hm)
theorem lst_nil (ops : Array Oper) : Lst ops (Array.replicate ops.size false) [] :=
  ⟨by simp, fun i hi => by simp [mem, hi], fun i h => by simp [mem] at h⟩

theorem mem_rdy {ops : List Oper} {done : List Nat} : ∀ {l : List Oper} {k i : Nat}, i ∈ rdy ops done k l ↔ k ≤ i ∧ mem i done = false ∧ ∃ o, l[i - k]? = some o ∧ ∀ e ∈ o.after, Region.binds .any e = true → mem e.on done = true
  | [], k, i => by simp [rdy]
  | o :: l, k, i => by
    have key : (!(mem k done) && o.after.toList.all (fun e => !Region.binds .any e || mem e.on done)) = true ↔ mem k done = false ∧ ∀ e ∈ o.after, Region.binds .any e = true → mem e.on done = true := by
      rw [Bool.and_eq_true, Bool.not_eq_true']
      refine and_congr Iff.rfl ?_
      rw [List.all_eq_true]
      constructor
      · intro h e he hb
        have := h e (by simpa using he)
        simpa [hb] using this
      · intro h e he
        cases hb : Region.binds .any e with
        | false => rfl
        | true => simpa [hb] using h e (by simpa using he) hb
    unfold rdy
    have hrec := mem_rdy (ops := ops) (done := done) (l := l) (k := k + 1) (i := i)
    have hstep : i ∈ rdy ops done (k + 1) l ↔ k < i ∧ mem i done = false ∧ ∃ o', (o :: l)[i - k]? = some o' ∧ ∀ e ∈ o'.after, Region.binds .any e = true → mem e.on done = true := by
      rw [hrec]
      constructor
      · rintro ⟨h1, h2, o', h3, h4⟩
        refine ⟨h1, h2, o', ?_, h4⟩
        rw [show i - k = i - (k + 1) + 1 by omega]; simpa using h3
      · rintro ⟨h1, h2, o', h3, h4⟩
        refine ⟨h1, h2, o', ?_, h4⟩
        rw [show i - k = i - (k + 1) + 1 by omega] at h3; simpa using h3
    cases hc : (!(mem k done) && o.after.toList.all (fun e => !Region.binds .any e || mem e.on done)) with
    | true =>
      simp only [cond_true, List.mem_cons]
      rw [hstep]
      have hk := key.1 hc
      constructor
      · rintro (rfl | h)
        · exact ⟨Nat.le_refl _, hk.1, o, by simp, hk.2⟩
        · exact ⟨Nat.le_of_lt h.1, h.2⟩
      · rintro ⟨h1, h2⟩
        rcases Nat.lt_or_eq_of_le h1 with h1 | rfl
        · exact .inr ⟨h1, h2⟩
        · exact .inl rfl
    | false =>
      simp only [cond_false]
      rw [hstep]
      constructor
      · rintro ⟨h1, h2⟩; exact ⟨Nat.le_of_lt h1, h2⟩
      · rintro ⟨h1, h2, o', h3, h4⟩
        rcases Nat.lt_or_eq_of_le h1 with h1 | rfl
        · exact ⟨h1, h2, o', h3, h4⟩
        · simp at h3; subst h3
          have := key.2 ⟨h2, h4⟩
          rw [hc] at this; cases this
theorem ready_rdy {ops : Array Oper} {listed : Array Bool} {done : List Nat} (h : Lst ops listed done) {i : Nat} : i ∈ Region.ready .any ops listed ↔ i ∈ rdy ops.toList done 0 ops.toList := by
  rw [mem_ready, mem_rdy]
  simp only [Nat.zero_le, true_and, Nat.sub_zero, Array.getElem?_toList]
  constructor
  · rintro ⟨h1, o, ho, h2⟩
    have hlt : i < ops.size := (Array.getElem?_eq_some_iff.1 ho).1
    exact ⟨by rw [← h.is i hlt]; exact h1, o, ho, fun e he hb => by rw [← h.getF]; exact h2 e he hb⟩
  · rintro ⟨h1, o, ho, h2⟩
    have hlt : i < ops.size := (Array.getElem?_eq_some_iff.1 ho).1
    exact ⟨by rw [h.is i hlt]; exact h1, o, ho, fun e he hb => by rw [h.getF]; exact h2 e he hb⟩
theorem ready_nil {ops : Array Oper} {listed : Array Bool} {done : List Nat} (h : Lst ops listed done) : Region.ready .any ops listed = [] ↔ rdy ops.toList done 0 ops.toList = [] := by
  constructor
  · intro h1
    cases hr : rdy ops.toList done 0 ops.toList with
    | nil => rfl
    | cons i l =>
      have : i ∈ Region.ready .any ops listed := (ready_rdy h).2 (by rw [hr]; simp)
      rw [h1] at this; cases this
  · intro h1
    cases hr : Region.ready .any ops listed with
    | nil => rfl
    | cons i l =>
      have : i ∈ rdy ops.toList done 0 ops.toList := (ready_rdy h).1 (by rw [hr]; simp)
      rw [h1] at this; cases this

theorem waits_spec {ops : Array Oper} {i j : Nat} (h : waits ops.toList j i = true) : ∃ o, ops[j]? = some o ∧ ∃ e ∈ o.after, Region.binds .any e = true ∧ e.on = i := by
  unfold waits at h
  split at h
  · rename_i o ho
    obtain ⟨e, he, hb⟩ := List.any_eq_true.1 h
    simp only [Bool.and_eq_true] at hb
    exact ⟨o, by simpa using ho, e, by simpa using he, hb.1, Nat.eq_of_beq_eq_true hb.2⟩
  · cases h
theorem mem_upTo {i n : Nat} (h : i < n) : i ∈ upTo 0 n := by
  have := upTo_get (i := 0) h
  simp only [Nat.zero_add] at this
  exact List.mem_of_getElem? this
theorem apartAll_spec {ops : Array Oper} (h : apartAll ops ops.toList = true) {listed : Array Bool} {i : Nat} {oi : Oper} (hi : ops[i]? = some oi) (hr : i ∈ Region.ready .any ops listed) (j : Nat) (oj : Oper) (hj : ops[j]? = some oj) (hne : j ≠ i)
    (hun : listed.getD j true = false) (hno : ∀ e ∈ oj.after, Region.binds .any e = true → e.on ≠ i) : oi.apart ops oj = true := by
  unfold apartAll at h
  have hil : i < ops.size := (Array.getElem?_eq_some_iff.1 hi).1
  have hjl : j < ops.size := (Array.getElem?_eq_some_iff.1 hj).1
  have h1 := List.all_eq_true.1 (List.all_eq_true.1 h i (mem_upTo (by simpa using hil))) j (mem_upTo (by simpa using hjl))
  simp only [Array.getElem?_toList, hi, hj, Bool.or_eq_true] at h1
  rcases h1 with ((h1 | h1) | h1) | h1
  · exact absurd (Nat.eq_of_beq_eq_true h1).symm hne
  · obtain ⟨o, ho, e, he, hb, hon⟩ := waits_spec h1
    rw [hj] at ho; cases ho
    exact absurd hon (hno e he hb)
  · obtain ⟨o, ho, e, he, hb, hon⟩ := waits_spec h1
    rw [hi] at ho; cases ho
    obtain ⟨_, o2, ho2, hall⟩ := mem_ready.1 hr
    rw [hi] at ho2; cases ho2
    have := hall e he hb
    rw [hon] at this
    have hlt : j < listed.size := by
      rcases Nat.lt_or_ge j listed.size with h' | h'
      · exact h'
      · simp [Array.getElem?_eq_none h'] at this
    simp [hlt] at this hun
    rw [this] at hun; cases hun
  · exact h1
theorem noSel_spec {ops : Array Oper} (h : noSel ops.toList = true) (j : Nat) (o : Oper) (cs : Array SelectCase) (b : Bool) (hj : ops[j]? = some o) : o.op ≠ .select cs b := by
  intro heq
  have := List.all_eq_true.1 h o (by simpa using Array.mem_of_getElem? hj)
  simp [heq] at this

theorem says_bindA {A R : Type} {x : Ans A} {k : A → Ans R} {r : R} (h : Says (bindA x k) r) : ∃ z, Says x z ∧ Says (k z) r := by
  obtain ⟨ps, he, hp⟩ := h
  unfold bindA at he
  split at he
  · rename_i z qs
    split at he
    · rename_i r' qs' hk
      cases he
      exact ⟨z, ⟨qs, rfl, fun p hq => hp p (by simp [hq])⟩, ⟨qs', hk, fun p hq => hp p (by simp [hq])⟩⟩
    · cases he
  · cases he
theorem lkup_insK {α : Type} {k : Nat} {v : α} : ∀ {l : List (Nat × α)} {x : Nat}, lkup x (insK k v l) = lkup x ((k, v) :: l)
  | [], x => rfl
  | (y, u) :: l, x => by
    unfold insK
    cases h1 : Nat.beq k y with
    | true =>
      have := Nat.eq_of_beq_eq_true h1
      subst this
      simp only [lkup, cond_true]
      cases Nat.beq x k <;> rfl
    | false =>
      cases h2 : Nat.ble k y with
      | true => rfl
      | false =>
        simp only [lkup, cond_false, lkup_insK]
        cases h3 : Nat.beq x y with
        | false => rfl
        | true =>
          have := Nat.eq_of_beq_eq_true h3
          subst this
          cases h4 : Nat.beq x k with
          | false => rfl
          | true =>
            have := Nat.eq_of_beq_eq_true h4
            subst this
            rw [h1] at h3; cases h3
theorem lkup_sortK {α : Type} : ∀ {l : List (Nat × α)} {x : Nat}, lkup x (sortK l) = lkup x l
  | [], x => rfl
  | (k, v) :: l, x => by
    rw [sortK, lkup_insK]
    simp only [lkup, lkup_sortK]
theorem Fits.canon {V : Env} {x : Cx} {s s' : St} {a : Act} (h : Fits V x s a) (he : s.canon = s'.canon) : Fits V x s' a := by
  have h1 : ∀ k, lkup k s'.slots = lkup k s.slots := fun k => by
    have := congrArg (fun z => lkup k z.slots) he
    simp only [St.canon, lkup_sortK] at this
    exact this.symm
  have h2 : ∀ k, lkup k s'.objs = lkup k s.objs := fun k => by
    have := congrArg (fun z => lkup k z.objs) he
    simp only [St.canon, lkup_sortK] at this
    exact this.symm
  have h3 : ∀ k, lkup k s'.rows = lkup k s.rows := fun k => by
    have := congrArg (fun z => lkup k z.rows) he
    simp only [St.canon, lkup_sortK] at this
    exact this.symm
  refine ⟨⟨?_, ?_, ?_, ?_, ?_, ?_, h.sto.Slt, h.sto.Blt, h.sto.SB⟩, fun t v hl => h.sl t v (by rw [← h1]; exact hl), h.nt, h.df, h.pin⟩
  · intro o l hl; rw [h2] at hl; exact h.sto.obj o l hl
  · intro r rw_ hl; rw [h3] at hl; exact h.sto.live r rw_ hl
  · intro r rw_ hl; rw [h3] at hl; exact h.sto.froz r rw_ hl
  · intro o o' l l' hl hl'; rw [h2] at hl hl'; exact h.sto.injO o o' l l' hl hl'
  · intro r r' a b hl hl'; rw [h3] at hl hl'; exact h.sto.injR r r' a b hl hl'
  · intro o r l a hl hl'; rw [h2] at hl; rw [h3] at hl'; exact h.sto.injX o r l a hl hl'
theorem eqL_eq : ∀ {a b : List Nat}, eqL a b = true → a = b
  | [], [], _ => rfl
  | [], _ :: _, h => by cases h
  | _ :: _, [], h => by cases h
  | i :: l, j :: m, h => by
    unfold eqL at h
    cases hb : Nat.beq i j with
    | false => rw [hb] at h; cases h
    | true =>
      rw [hb] at h
      rw [Nat.eq_of_beq_eq_true hb, eqL_eq h]
theorem lkT_mem {d : List Nat} {s : St} : ∀ {t : Tab}, lkT d t = some s → (d, s) ∈ t
  | [], h => by cases h
  | (e, s') :: t, h => by
    unfold lkT at h
    cases hb : eqL d e with
    | false => rw [hb] at h; exact List.mem_cons_of_mem _ (lkT_mem h)
    | true =>
      rw [hb] at h
      cases h
      rw [eqL_eq hb]
      simp
theorem mem_ins {i j : Nat} : ∀ {l : List Nat}, j ∈ ins i l ↔ j = i ∨ j ∈ l
  | [] => by simp [ins]
  | k :: l => by
    unfold ins
    cases Nat.ble i k with
    | true => simp
    | false =>
      simp only [cond_false, List.mem_cons, mem_ins (l := l)]
      constructor <;> rintro (h | h | h) <;> simp [h]
theorem mem_ins' {i : Nat} {l : List Nat} (j : Nat) : mem j (ins i l) = mem j (i :: l) := by
  have h : mem j (ins i l) = true ↔ mem j (i :: l) = true := by rw [mem_iff, mem_iff, mem_ins, List.mem_cons]
  cases h1 : mem j (ins i l) <;> cases h2 : mem j (i :: l) <;> simp_all
theorem lst_ins {ops : Array Oper} {listed : Array Bool} {done : List Nat} (h : Lst ops listed done) {i : Nat} (hi : i < ops.size) : Lst ops (listed.setIfInBounds i true) (ins i done) := by
  have h' := lst_set h hi
  exact ⟨h'.size, fun j hj => by rw [mem_ins']; exact h'.is j hj, fun j hj => h'.lt j (by rw [← mem_ins']; exact hj)⟩
theorem says_some1 {A : Type} {z r : A} (h : Says (some (z, [])) r) : r = z := by
  obtain ⟨ps, he, _⟩ := h
  simp only [Option.some.injEq, Prod.mk.injEq] at he
  exact he.1.symm
theorem says_addT {d : List Nat} {s : St} {t t' : Tab} (h : Says (addT d s t) t') : (∀ e, e ∈ t → e ∈ t') ∧ ∃ s', (d, s') ∈ t' ∧ s.canon = s'.canon := by
  unfold addT at h
  split at h
  · rename_i s' hl
    obtain ⟨he, h1⟩ := says_same h
    have := says_some1 h1
    subst this
    exact ⟨fun e he => he, s', lkT_mem hl, he⟩
  · have := says_some1 h
    subst this
    exact ⟨fun e he => List.mem_cons_of_mem _ he, s, by simp, rfl⟩
theorem says_each {V : Env} {ops : Array Oper} {ol : List Oper} {base n : Nat} {d : List Nat} {s : St} : ∀ {l : List Nat} {sc : List Ev} {t : Tab} {z : List Ev × Tab}, Says (evEach V ops ol base n d s l sc t) z →
    (∀ e, e ∈ t → e ∈ z.2) ∧ ∀ j, j ∈ l → ∃ sc' z' s', Says (evStep V ops ol base n s j sc') z' ∧ (ins j d, s') ∈ z.2 ∧ z'.2.canon = s'.canon
  | [], sc, t, z, h => by
    have := says_some1 h
    subst this
    exact ⟨fun e he => he, fun j hj => by cases hj⟩
  | i :: l, sc, t, z, h => by
    unfold evEach at h
    obtain ⟨z1, h1, h2⟩ := says_bindA h
    obtain ⟨t2, h3, h4⟩ := says_bindA h2
    obtain ⟨h5, s', h6, h7⟩ := says_addT h3
    obtain ⟨h8, h9⟩ := says_each h4
    refine ⟨fun e he => h8 e (h5 e he), fun j hj => ?_⟩
    rcases List.mem_cons.1 hj with rfl | hj
    · exact ⟨sc, z1, s', h1, h8 _ h6, h7⟩
    · exact h9 j hj
theorem says_layer {V : Env} {ops : Array Oper} {ol : List Oper} {base n : Nat} : ∀ {u : Tab} {sc : List Ev} {t : Tab} {z : List Ev × Tab}, Says (evLayer V ops ol base n u sc t) z →
    (∀ e, e ∈ t → e ∈ z.2) ∧ ∀ d s, (d, s) ∈ u → ∃ i r, rdy ol d 0 ol = i :: r ∧ ∀ j, j ∈ (match firstSteady V.P ol s (i :: r) with | some i => [i] | none => i :: r) → ∃ sc' z' s', Says (evStep V ops ol base n s j sc') z' ∧ (ins j d, s') ∈ z.2 ∧ z'.2.canon = s'.canon
  | [], sc, t, z, h => by
    have := says_some1 h
    subst this
    exact ⟨fun e he => he, fun d s hj => by cases hj⟩
  | (d0, s0) :: u, sc, t, z, h => by
    unfold evLayer at h
    split at h
    · exact (says_none h).elim
    · rename_i i r hr
      obtain ⟨z1, h1, h2⟩ := says_bindA h
      obtain ⟨h3, h4⟩ := says_each h1
      obtain ⟨h5, h6⟩ := says_layer h2
      refine ⟨fun e he => h5 e (h3 e he), fun d s hm => ?_⟩
      rcases List.mem_cons.1 hm with he | hm
      · cases he
        refine ⟨i, r, hr, fun j hj => ?_⟩
        obtain ⟨sc', z', s', q1, q2, q3⟩ := h4 j hj
        exact ⟨sc', z', s', q1, h5 _ q2, q3⟩
      · exact h6 d s hm
theorem firstSteady_spec {P : Program} {ol : List Oper} {s : St} : ∀ {l : List Nat} {i : Nat}, firstSteady P ol s l = some i → i ∈ l ∧ ∃ o, ol[i]? = some o ∧ steadyOp P o.op s = true
  | [], i, h => by simp [firstSteady] at h
  | j :: l, i, h => by
    unfold firstSteady at h
    split at h
    · rename_i o ho
      cases hb : steadyOp P o.op s with
      | true => rw [hb] at h; cases h; exact ⟨by simp, o, ho, hb⟩
      | false =>
        rw [hb] at h
        obtain ⟨h1, h2⟩ := firstSteady_spec h
        exact ⟨by simp [h1], h2⟩
    · cases h

set_option maxHeartbeats 1000000 in
theorem says_draw {V : Env} (hV : ∀ f as objs rows res, V.call f as objs rows res → Runs V.P f as objs rows res) {ops : Array Oper} {base : Nat} {keep : List Nat} {Q : Exit → Act → World → Prop} (hsel : noSel ops.toList = true) (hap : apartAll ops ops.toList = true)
    (hQp : ∀ c a w, ¬ Q (.panic c) a w) :
    ∀ (f : Nat) {t : Tab} {sc : List Ev} {r : List Ev × St}, Says (evDraw V ops ops.toList base ops.size keep f t sc) r → ∀ {listed : Array Bool} {done : List Nat} {x : Cx} {s : St} {a : Act}, (done, s) ∈ t → Lst ops listed done → Fits V x s a → Used x base ops.size (fun i => mem i done = true) →
      (∀ y a', Rel V.m x y → Tidied V y r.2 a' → Q .normal a' y.w) → wpAnyX V.P .any ops Q f listed (Agree x) a x.w := by
  intro f
  have fin : ∀ {x : Cx} {s : St} {a : Act} {sc : List Ev} {r : List Ev × St}, Fits V x s a → Says (evTidy V keep s fun s => some ((sc, s), [])) r → (∀ y a', Rel V.m x y → Tidied V y r.2 a' → Q .normal a' y.w) → Q .normal a x.w := by
    intro x s a sc r hf h hQ
    obtain ⟨y, s', hrel, hw, ht, h1⟩ := says_tidy hf h
    obtain ⟨ps, he, _⟩ := h1
    rw [← hw]
    exact hQ y a hrel (by cases he; exact ht)
  induction f with
  | zero =>
    intro t sc r h listed done x s a hm hl hf hU hQ
    unfold evDraw at h
    split at h
    · rename_i d0 s0 heq
      obtain ⟨rfl, rfl⟩ : done = d0 ∧ s = s0 := by simpa using hm
      split at h
      · rename_i hr
        exact ⟨(ready_nil hl).2 hr, fin hf h hQ⟩
      · exact (says_none h).elim
    · exact (says_none h).elim
    · rename_i h0
      exact absurd h0 (by omega)
  | succ f ih =>
    intro t sc r h listed done x s a hm hl hf hU hQ
    unfold evDraw at h
    obtain ⟨z, hz, hd⟩ := says_bindA h
    obtain ⟨-, hlay⟩ := says_layer hz
    obtain ⟨i0, l, hr, hall⟩ := hlay done s hm
    split at hall
    · rename_i i hfs
      obtain ⟨hmem, o, ho, hst⟩ := firstSteady_spec hfs
      rw [← hr] at hmem
      have ho' : ops[i]? = some o := by simpa using ho
      have hlt : i < ops.size := (Array.getElem?_eq_some_iff.1 ho').1
      have hrdy := (ready_rdy hl).2 hmem
      obtain ⟨sc', z', s', hs, hin, hcan⟩ := hall i (by simp)
      -- what it yields
      obtain ⟨o2, ho2, h1⟩ := says_get hs
      rw [ho] at ho2; cases ho2
      unfold evOper at h1
      obtain ⟨b, hb, h2⟩ := says_guard hf.sl h1
      have hy : ∃ v, YieldsIf V.P ops (Agree x) o v a ∧ Fits V x z'.2 (a.put o.dst v) := by
        cases b with
        | true =>
          simp only at h2
          obtain ⟨sc0, u, sv, hrun, hr2, h3⟩ := says_steady hf.sto hf.sl hst h2
          obtain ⟨s2, hf2, h4⟩ := says_set hf (Ext.refl x) (G.Le.refl _) hf.sto rfl hr2 h3
          obtain ⟨s3, sc3, hf3, h5⟩ := says_decide hf2 h4
          have he := says_some1 h5
          rw [he]
          exact ⟨u, .inl ⟨hb, hrun⟩, hf3⟩
        | false =>
          simp only at h2
          obtain ⟨s2, hf2, h4⟩ := says_set hf (Ext.refl x) (G.Le.refl _) hf.sto rfl rep_undef h2
          obtain ⟨s3, sc3, hf3, h5⟩ := says_decide hf2 h4
          have he := says_some1 h5
          rw [he]
          exact ⟨undef, .inr ⟨hb, rfl⟩, hf3⟩
      obtain ⟨v, hy, hf2⟩ := hy
      refine wpAnyX_first ho' (noSel_spec hsel) (fun c a w hq => (hQp c _ w hq).elim) f listed (Agree x) a x.w (fun j oj hj hne hun hno => apartAll_spec hap ho' hrdy j oj hj hne hun hno) hrdy hy (Agree.refl x) ?_
      exact ih hd hin (lst_ins hl hlt) (hf2.canon hcan) (used_step hU hlt (fun m hm => .inl hm) (fun k hk => by rw [mem_ins']; exact mem_iff.2 (List.mem_cons_of_mem _ (mem_iff.1 hk))) (by rw [mem_ins']; exact mem_iff.2 (by simp))) hQ
    · rename_i hfs
      refine ⟨fun hn => ?_, fun i hi => ?_⟩
      · have := (ready_nil hl).1 hn
        rw [this] at hr; cases hr
      · have hmr := (ready_rdy hl).1 hi
        obtain ⟨sc', z', s', hs, hin, hcan⟩ := hall i (by rw [← hr]; exact hmr)
        obtain ⟨o, ho, h1⟩ := says_get hs
        have ho' : ops[i]? = some o := by simpa using ho
        have hlt : i < ops.size := (Array.getElem?_eq_some_iff.1 ho').1
        have hnd : ¬ mem i done = true := by
          have := (mem_rdy.1 hmr).2.1
          rw [this]; simp
        unfold wpOp
        simp only [ho']
        have key := says_oper (Q := Q) (K := fun a' w' => ∃ S' : World → Prop, (∀ v, S' v → Agree x v) ∧ S' w' ∧ wpAnyX V.P .any ops Q f (listed.setIfInBounds i true) S' a' w') hV hf (nm_fresh hU hlt hnd) (nm_inj (by omega)) h1
          (fun y s2 a' sc2 hrel hx hUy hf' h' => by
            have he := says_some1 h'
            have hs2 : s2 = z'.2 := by rw [he]
            subst hs2
            exact ⟨Agree y, fun v hv => Agree.of_ext hx hv, Agree.refl y,
              ih hd hin (lst_ins hl hlt) (hf'.canon hcan) (used_step hU hlt hUy (fun k hk => by rw [mem_ins']; exact mem_iff.2 (List.mem_cons_of_mem _ (mem_iff.1 hk))) (by rw [mem_ins']; exact mem_iff.2 (by simp))) (fun z2 a2 hrel2 ht => hQ z2 a2 (hrel.trans hrel2) ht)⟩)
        split
        · rename_i hw; rw [if_pos hw] at key; exact .inl key
        · rename_i hw; rw [if_neg hw] at key; exact key

theorem says_drawn {R : Type} {V : Env} (hV : ∀ f as objs rows res, V.call f as objs rows res → Runs V.P f as objs rows res) {ops : Array Oper} {id : Nat} {Q : Exit → Act → World → Prop} {x : Cx} {s : St} {a : Act} {sc : List Ev} {k : List Ev → St → Ans R} {r : R}
    (hf : Tidied V x s a) (h : Says (evDrawn V id ops s sc k) r) (hQ : ∀ y s' a' sc', Rel V.m x y → Tidied V y s' a' → Says (k sc' s') r → Q .normal a' y.w) : (Code.region id ops true).wp V.P Q a x.w := by
  unfold evDrawn at h
  obtain ⟨hc, h1⟩ := says_chk h
  simp only [Bool.and_eq_true] at hc
  obtain ⟨z, hz, h2⟩ := says_bindA h1
  let Q' : Exit → Act → World → Prop := fun e a w => match e with
    | .normal => Q .normal a w
    | _ => False
  refine Code.wp_mono (Q := Q') (fun e a w hq => by cases e <;> first | exact hq | exact hq.elim) ?_
  refine wp_region_any hc.1.1 (wpAny_of_X _ _ (Agree { x with w := { x.w with drawn := x.w.drawn + 1 } }) _ _ ?_)
  let x' : Cx := { x with w := { x.w with drawn := x.w.drawn + 1 } }
  have hg : Grow x x' := ⟨⟨rfl, rfl, rfl, Nat.le_refl _, fun _ _ _ => rfl, fun b hb => .inl hb, rfl⟩, G.Le.refl _, fun _ _ => rfl, fun _ h => h, hf.sto.Slt⟩
  have hf' : Fits V x' s a := ⟨hf.sto.grow hg, hf.sl.mono hg.ext hg.g, hf.nt, hf.df, hf.pin⟩
  refine says_draw (Q := Q') hV hc.1.2 hc.2 (fun c a w hq => hq) ops.size hz (List.mem_singleton.2 rfl) (lst_nil ops) hf' (fun m hu => .inl (hf.low m hu)) (fun y a' hrel ht => ?_)
  exact hQ y z.2 a' z.1 ((rel_of hf.pin hg.ext hg.g).trans hrel) ht h2
end Go.Ev
