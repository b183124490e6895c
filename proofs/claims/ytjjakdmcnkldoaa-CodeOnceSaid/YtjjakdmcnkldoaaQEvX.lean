/- Code, functions. No program in sight. -/
import Derived.Test.YtjjakdmcnkldoaaQEvW
import Derived.ScopeJumps
namespace Go.Ev
set_option linter.unusedVariables false
set_option linter.unusedSimpArgs false

def Ex.out : Ex → Exit
  | .normal => .normal
  | .exit i => .exit i
  | .goto l => .goto l
  | .ret => .ret
/-- A piece of code ends so. -/
def Post (V : Env) (x : Cx) (e : Ex) (s : St) : Exit → Act → World → Prop := fun e' a' w' => e' = e.out ∧ ∃ y, y.w = w' ∧ Rel V.m x y ∧ Tidied V y s a'
/-! ### Scopes: from a label on -/
/-- From the label on, to the code's end. -/
def labWp (P : Program) (l : Nat) : Code → (Exit → Act → World → Prop) → Act → World → Prop
  | .label _, Q, a, w => Q .normal a w
  | .seq c d, Q, a, w => if l ∈ labs c then labWp P l c (Exit.then (d.wp P Q) Q) a w else labWp P l d Q a w
  | _, _, _, _ => False
theorem labWp_mono {P : Program} {l : Nat} {c : Code} {Q Q' : Exit → Act → World → Prop} {a : Act} {w : World} (h : labWp P l c Q a w) (hq : ∀ e a w, Q e a w → Q' e a w) : labWp P l c Q' a w := by
  induction c generalizing Q Q' with
  | label l' => exact hq _ _ _ h
  | seq c d ih1 ih2 =>
    simp only [labWp] at h ⊢
    split at h
    · rename_i hm
      rw [if_pos hm]
      refine ih1 h fun e a w q => ?_
      cases e with
      | normal => exact wp_mono q hq
      | exit _ => exact hq _ _ _ q
      | goto _ => exact hq _ _ _ q
      | ret => exact hq _ _ _ q
      | panic _ => exact hq _ _ _ q
      | outgrown => exact hq _ _ _ q
    · rename_i hm
      rw [if_neg hm]
      exact ih2 h hq
  | _ => exact h.elim
theorem findLabel_labs {l : Nat} {c : Code} : (findLabel c l).isSome = true ↔ l ∈ labs c := by
  induction c with
  | label l' =>
    simp only [findLabel, labs, List.mem_singleton]
    by_cases h : l' = l
    · simp [h]
    · simp [h]; exact fun h2 => h h2.symm
  | seq c d ih1 ih2 =>
    simp only [findLabel, labs, List.mem_append]
    cases h : findLabel c l with
    | none =>
      rw [h] at ih1
      simp only [← ih1, ih2.symm]
      simp
    | some r =>
      rw [h] at ih1
      simp only [Option.isSome_some, true_iff]
      exact .inl (ih1.1 rfl)
  | _ => simp [findLabel, labs]
theorem labWp_rest {P : Program} {l : Nat} {c rest : Code} {Q : Exit → Act → World → Prop} {a : Act} {w : World} (h : labWp P l c Q a w) (hf : findLabel c l = some rest) : rest.wp P Q a w := by
  induction c generalizing Q rest with
  | label l' =>
    simp only [findLabel] at hf
    split at hf
    · cases hf; exact wp_skip h
    · cases hf
  | seq c d ih1 ih2 =>
    simp only [labWp] at h
    simp only [findLabel] at hf
    cases hc : findLabel c l with
    | none =>
      rw [hc] at hf
      rw [if_neg (fun hm => by have := findLabel_labs.2 hm; rw [hc] at this; cases this)] at h
      exact ih2 h hf
    | some r =>
      rw [hc] at hf
      rw [if_pos (findLabel_labs.1 (by rw [hc]; rfl))] at h
      cases hf
      exact wp_seq (ih1 h hc)
  | _ => exact h.elim
/-- A jump to the label, n times at most. -/
def jumps (P : Program) (c : Code) (l : Nat) (Q : Exit → Act → World → Prop) : Nat → Act → World → Prop
  | 0, _, _ => False
  | n + 1, a, w => labWp P l c (Exit.jump l (jumps P c l Q n) Q) a w
theorem jump_mono {l : Nat} {J J' : Act → World → Prop} {Q Q' : Exit → Act → World → Prop} (hj : ∀ a w, J a w → J' a w) (hq : ∀ e a w, Q e a w → Q' e a w) {e : Exit} {a : Act} {w : World} (h : Exit.jump l J Q e a w) : Exit.jump l J' Q' e a w := by
  cases e with
  | goto l' => exact ⟨h.1, hj _ _ h.2⟩
  | normal => exact hq _ _ _ h
  | exit _ => exact hq _ _ _ h
  | ret => exact hq _ _ _ h
  | panic _ => exact hq _ _ _ h
  | outgrown => exact hq _ _ _ h
theorem jumps_mono {P : Program} {c : Code} {l : Nat} {Q Q' : Exit → Act → World → Prop} (hq : ∀ e a w, Q e a w → Q' e a w) : ∀ {n : Nat} {a : Act} {w : World}, jumps P c l Q n a w → jumps P c l Q' n a w
  | 0, _, _, h => h.elim
  | n + 1, a, w, h => labWp_mono h fun e a w q => jump_mono (fun a w h => jumps_mono hq h) hq q
theorem least {p : Nat → Prop} (h : ∃ n, p n) : ∃ n, p n ∧ ∀ m, m < n → ¬ p m := by
  obtain ⟨n, hn⟩ := h
  induction n using Nat.strongRecOn with
  | _ n ih =>
    by_cases h : ∃ m, m < n ∧ p m
    · obtain ⟨m, hm, hp⟩ := h
      exact ih m hm hp
    · exact ⟨n, hn, fun m hm hp => h ⟨m, hm, hp⟩⟩
open Classical in
theorem wp_scope_lab {P : Program} {c : Code} {l : Nat} {Q : Exit → Act → World → Prop} {a : Act} {w : World} (hl : l ∈ labs c) (first : c.wp P (Exit.jump l (fun a w => ∃ n, jumps P c l Q n a w) Q) a w) : (Code.scope c).wp P Q a w := by
  obtain ⟨rest, hr⟩ := Option.isSome_iff_exists.1 (findLabel_labs.2 hl)
  refine wp_scope_jumps (rest := rest) l (fun a w => ∃ n, jumps P c l Q n a w) (fun a w => if h : ∃ n, jumps P c l Q n a w then Classical.choose (least h) else 0) hr first fun a w hJ => ?_
  obtain ⟨h1, h2⟩ := Classical.choose_spec (least hJ)
  have e : (if h : ∃ n, jumps P c l Q n a w then Classical.choose (least h) else 0) = Classical.choose (least hJ) := dif_pos hJ
  rw [e]
  generalize Classical.choose (least hJ) = n at h1 h2
  cases n with
  | zero => exact h1.elim
  | succ m =>
    refine labWp_rest (labWp_mono h1 fun e a' w' q => jump_mono (fun a w hj => ?_) (fun _ _ _ q => q) q) hr
    refine ⟨⟨m, hj⟩, ?_⟩
    show (if h : ∃ n, jumps P c l Q n a w then Classical.choose (least h) else 0) < m + 1
    have hJ' : ∃ n, jumps P c l Q n a w := ⟨m, hj⟩
    rw [dif_pos hJ']
    have h3 := (Classical.choose_spec (least hJ')).2
    rcases Nat.lt_or_ge m (Classical.choose (least hJ')) with h | h
    · exact absurd hj (h3 m h)
    · omega
/-- A loop goes from one state to another; a scope, from its label on. -/
def LRuns (P : Program) (nt m : Nat) (c : Code) (s : St) (e : Ex) (s' : St) : Prop :=
  match c with
  | .loop c => ∃ n, ∀ V : Env, V.P = P → V.nt = nt → V.m = m → ∀ x a, Tidied V x s a → Code.rounds P c (Post V x e s') n a x.w
  | .scope c => ∃ l n, labs c = [l] ∧ ∀ V : Env, V.P = P → V.nt = nt → V.m = m → ∀ x a, Tidied V x s a → jumps P c l (Post V x e s') n a x.w
  | c => ∀ V : Env, V.P = P → V.nt = nt → V.m = m → ∀ x a, Tidied V x s a → c.wp P (Post V x e s') a x.w

theorem says_code {V : Env} (hV : ∀ f as objs rows res, V.call f as objs rows res → Runs V.P f as objs rows res) (hL : ∀ c s e s', V.L c s e s' → LRuns V.P V.nt V.m c s e s') :
    ∀ {R : Type} {c : Code} {j : Bool} {x : Cx} {s : St} {a : Act} {sc : List Ev} {k : List Ev → Ex → St → Ans R} {r : R} {Q : Exit → Act → World → Prop}, (j = true → (labs c).length ≤ 1 ∧ ∀ l a w, l ∈ labs c → Q (.goto l) a w → labWp V.P l c Q a w) → Tidied V x s a → Says (evCode V c j s sc k) r →
      (∀ y s' a' sc' e, Rel V.m x y → Tidied V y s' a' → Says (k sc' e s') r → Q e.out a' y.w) → c.wp V.P Q a x.w := by
  intro R c
  induction c with
  | skip => intro j x s a sc k r Q hj hf h hQ; exact wp_skip (hQ x s a sc .normal (Rel.refl _ _) hf h)
  | label l =>
    intro j x s a sc k r Q hj hf h hQ
    cases j with
    | false => exact wp_label (hQ x s a sc .normal (Rel.refl _ _) hf h)
    | true =>
      have h1 := hQ x s a sc (.goto l) (Rel.refl _ _) hf h
      exact wp_label ((hj rfl).2 l a x.w (by simp [labs]) h1)
  | exit l => intro j x s a sc k r Q hj hf h hQ; exact wp_exit (hQ x s a sc (.exit l) (Rel.refl _ _) hf h)
  | goto l => intro j x s a sc k r Q hj hf h hQ; exact wp_goto (hQ x s a sc (.goto l) (Rel.refl _ _) hf h)
  | ret => intro j x s a sc k r Q hj hf h hQ; exact wp_ret (hQ x s a sc .ret (Rel.refl _ _) hf h)
  | region id ops draw =>
    intro j x s a sc k r Q hj hf h hQ
    unfold evCode at h
    cases draw with
    | true => exact says_drawn (V := V) hV hf (by exact h) fun y s' a' sc' hrel ht h' => hQ y s' a' sc' .normal hrel ht h'
    | false => exact says_region (V := V) hV hf (by exact h) fun y s' a' sc' hrel ht h' => hQ y s' a' sc' .normal hrel ht h'
  | seq c1 c2 ih1 ih2 =>
    intro j x s a sc k r Q hj hf h hQ
    unfold evCode at h
    have hj1 : j = true → (labs c1).length ≤ 1 ∧ ∀ l a w, l ∈ labs c1 → Exit.then (c2.wp V.P Q) Q (.goto l) a w → labWp V.P l c1 (Exit.then (c2.wp V.P Q) Q) a w := fun ht => by
      obtain ⟨h1, h2⟩ := hj ht
      simp only [labs, List.length_append] at h1
      refine ⟨by omega, fun l a w hl hg => ?_⟩
      have h3 := h2 l a w (by simp [labs, hl]) hg
      simp only [labWp] at h3
      rwa [if_pos hl] at h3
    have hj2 : j = true → (labs c2).length ≤ 1 ∧ ∀ l a w, l ∈ labs c2 → Q (.goto l) a w → labWp V.P l c2 Q a w := fun ht => by
      obtain ⟨h1, h2⟩ := hj ht
      simp only [labs, List.length_append] at h1
      refine ⟨by omega, fun l a w hl hg => ?_⟩
      have h3 := h2 l a w (by simp [labs, hl]) hg
      simp only [labWp] at h3
      rwa [if_neg (fun h4 => by have := List.length_pos_of_mem hl; have := List.length_pos_of_mem h4; omega)] at h3
    refine wp_seq (ih1 hj1 hf h fun y s' a' sc' e hrel ht h' => ?_)
    cases e with
    | normal => exact ih2 hj2 ht h' fun z s2 a2 sc2 e2 hrel2 ht2 h2 => hQ z s2 a2 sc2 e2 (hrel.trans hrel2) ht2 h2
    | exit i => exact hQ y s' a' sc' _ hrel ht h'
    | goto i => exact hQ y s' a' sc' _ hrel ht h'
    | ret => exact hQ y s' a' sc' _ hrel ht h'
  | cond o c1 c2 ih1 ih2 =>
    intro j x s a sc k r Q hj hf h hQ
    unfold evCode at h
    obtain ⟨v, hv, h1⟩ := says_get h
    obtain ⟨b, hb, h2⟩ := says_wBool h1
    have hr := rep_opd hf.sl hv
    rw [hb] at hr
    have he := rep_bool hr
    split at h2
    · obtain ⟨ht, h3⟩ := says_obl h2
      subst ht
      exact wp_cond_true he (ih1 (fun h => by cases h) (told_ok hf (by rw [hv, hb])) h3 hQ)
    · obtain ⟨ht, h3⟩ := says_obl h2
      subst ht
      exact wp_cond_false he (ih2 (fun h => by cases h) (told_ok hf (by rw [hv, hb])) h3 hQ)
    · split at h2
      · obtain ⟨z, s1, hrel, hw, ht, h3⟩ := says_tidyL hf h2
        obtain ⟨hl, h4⟩ := says_obl h3
        have h5 := hL _ _ _ _ hl V rfl rfl rfl z a ht
        rw [← hw]
        refine Code.wp_mono ?_ h5
        rintro e' a' w' ⟨rfl, z2, rfl, hrel2, ht2⟩
        exact hQ z2 _ a' _ _ (hrel.trans hrel2) ht2 h4
      · exact (says_none h2).elim
    · exact (says_none h2).elim
  | block id c ih =>
    intro j x s a sc k r Q hj hf h hQ
    unfold evCode at h
    refine wp_block (ih (fun h => by cases h) hf h fun y s' a' sc' e hrel ht h' => ?_)
    cases e with
    | normal => exact hQ y s' a' sc' .normal hrel ht h'
    | exit i =>
      simp only [Ex.out, Exit.inBlock]
      cases hb : Nat.beq i id with
      | true =>
        simp only [hb, cond_true] at h'
        rw [if_pos (Nat.eq_of_beq_eq_true hb)]
        exact hQ y s' a' sc' .normal hrel ht h'
      | false =>
        simp only [hb, cond_false] at h'
        rw [if_neg (fun he => by subst he; simp at hb)]
        exact hQ y s' a' sc' (.exit i) hrel ht h'
    | goto i => exact hQ y s' a' sc' (.goto i) hrel ht h'
    | ret => exact hQ y s' a' sc' .ret hrel ht h'
  | loop c ih =>
    intro j x s a sc k r Q hj hf h hQ
    unfold evCode at h
    obtain ⟨y, s1, hrel, hw, ht, h1⟩ := says_tidyL hf h
    split at h1
    · rename_i e s' sc'
      obtain ⟨hl, h2⟩ := says_obl h1
      obtain ⟨n, hn⟩ := hL _ _ _ _ hl
      have h3 := hn V rfl rfl rfl y a ht
      rw [← hw]
      refine Code.wp_mono ?_ (wp_loop_rounds n h3)
      rintro e' a' w' ⟨rfl, z, rfl, hrel2, ht2⟩
      exact hQ z s' a' sc' e (hrel.trans hrel2) ht2 h2
    · exact (says_none h1).elim
  | scope c ih =>
    intro j x s a sc k r Q hj hf h hQ
    unfold evCode at h
    split at h
    · rename_i l hl
      refine wp_scope_lab (l := l) (by rw [hl]; simp) (ih (j := true) (fun _ => ⟨by rw [hl]; simp, fun l' a' w' hm hg => ?_⟩) hf h fun y s' a' sc' e hrel ht h' => ?_)
      · obtain ⟨rfl, n, hn⟩ := hg
        cases n with
        | zero => exact hn.elim
        | succ n => exact labWp_mono hn fun e a w q => jump_mono (fun a w hj => ⟨n, hj⟩) (fun _ _ _ q => q) q
      · cases e with
        | goto l' =>
          simp only at h'
          obtain ⟨hb, h1⟩ := says_chk h'
          have hb := Nat.eq_of_beq_eq_true hb
          subst hb
          obtain ⟨z, s1, hrel2, hw, ht2, h2⟩ := says_tidyL ht h1
          refine ⟨rfl, ?_⟩
          split at h2
          · rename_i e s' sc'
            obtain ⟨hlr, h3⟩ := says_obl h2
            obtain ⟨l2, n, hl2, hn⟩ := hL _ _ _ _ hlr
            obtain rfl : l2 = l' := by rw [hl] at hl2; simpa using hl2.symm
            refine ⟨n, ?_⟩
            rw [← hw]
            refine jumps_mono ?_ (hn V rfl rfl rfl z a' ht2)
            rintro e' a' w' ⟨rfl, z2, rfl, hrel3, ht3⟩
            exact hQ z2 s' a' sc' e ((hrel.trans hrel2).trans hrel3) ht3 h3
          · exact (says_none h2).elim
        | normal => exact hQ y s' a' sc' _ hrel ht h'
        | exit i => exact hQ y s' a' sc' _ hrel ht h'
        | ret => exact hQ y s' a' sc' _ hrel ht h'
    · exact (says_none h).elim
  | _ =>
    intro j x s a sc k r Q hj hf h hQ
    unfold evCode at h
    exact (says_none h).elim
/-- From a label on. -/
theorem says_lab {V : Env} (hV : ∀ f as objs rows res, V.call f as objs rows res → Runs V.P f as objs rows res) (hL : ∀ c s e s', V.L c s e s' → LRuns V.P V.nt V.m c s e s') :
    ∀ {R : Type} {l : Nat} {c : Code} {x : Cx} {s : St} {a : Act} {sc : List Ev} {k : List Ev → Ex → St → Ans R} {r : R} {Q : Exit → Act → World → Prop}, Tidied V x s a → Says (evLab V l c s sc k) r →
      (∀ y s' a' sc' e, Rel V.m x y → Tidied V y s' a' → Says (k sc' e s') r → Q e.out a' y.w) → labWp V.P l c Q a x.w := by
  intro R l c
  induction c with
  | label l' => intro x s a sc k r Q hf h hQ; exact hQ x s a sc .normal (Rel.refl _ _) hf h
  | seq c1 c2 ih1 ih2 =>
    intro x s a sc k r Q hf h hQ
    unfold evLab at h
    simp only [labWp]
    cases hb : (labs c1).any (Nat.beq l) with
    | true =>
      rw [hb] at h
      have hm : l ∈ labs c1 := by
        obtain ⟨l', hl, he⟩ := List.any_eq_true.1 hb
        rw [Nat.eq_of_beq_eq_true he]; exact hl
      rw [if_pos hm]
      refine ih1 hf h fun y s' a' sc' e hrel ht h' => ?_
      cases e with
      | normal => exact says_code hV hL (fun h => by cases h) ht h' fun z s2 a2 sc2 e2 hrel2 ht2 h2 => hQ z s2 a2 sc2 e2 (hrel.trans hrel2) ht2 h2
      | exit i => exact hQ y s' a' sc' _ hrel ht h'
      | goto i => exact hQ y s' a' sc' _ hrel ht h'
      | ret => exact hQ y s' a' sc' _ hrel ht h'
    | false =>
      rw [hb] at h
      have hm : ¬ l ∈ labs c1 := fun hm => by
        rw [Bool.eq_false_iff] at hb
        exact hb (List.any_eq_true.2 ⟨l, hm, Nat.beq_refl l⟩)
      rw [if_neg hm]
      exact ih2 hf h hQ
  | _ =>
    intro x s a sc k r Q hf h hQ
    exact (says_none h).elim

/-! ### Loops -/
theorem rounds_mono {P : Program} {c : Code} {Q Q' : Exit → Act → World → Prop} (h : ∀ e a w, Q e a w → Q' e a w) : ∀ {n : Nat} {a : Act} {w : World}, Code.rounds P c Q n a w → Code.rounds P c Q' n a w
  | 0, _, _, hr => hr.elim
  | n + 1, a, w, hr => Code.wp_mono (fun e a w q => by cases e <;> first | exact rounds_mono h q | exact h _ _ _ q) hr
theorem says_round {R : Type} {V : Env} {x : Cx} {a : Act} {c : Code} {s s' : St} {sc : List Ev} {e : Ex} {Q : Exit → Act → World → Prop} (hV : ∀ f as objs rows res, V.call f as objs rows res → Runs V.P f as objs rows res) (hL : ∀ c s e s', V.L c s e s' → LRuns V.P V.nt V.m c s e s')
    (hf : Tidied V x s a) (h : Says (evRound V c s sc) (e, s')) (hQ : ∀ y a', Rel V.m x y → Tidied V y s' a' → Q e.out a' y.w) : c.wp V.P Q a x.w := by
  unfold evRound at h
  refine says_code hV hL (fun h => by cases h) hf h fun y s1 a1 sc1 e1 hrel ht h1 => ?_
  have same : ∀ {e1 : Ex} {s1 : St}, Says (R := Ex × St) (some ((e1, s1), [])) (e, s') → e = e1 ∧ s' = s1 := by
    rintro e1 s1 ⟨ps, he, _⟩
    simp only [Option.some.injEq, Prod.mk.injEq] at he
    exact ⟨he.1.1.symm, he.1.2.symm⟩
  cases e1 with
  | normal =>
    obtain ⟨z, s2, hrel2, hw, ht2, h2⟩ := says_tidyL ht h1
    obtain ⟨rfl, rfl⟩ := same h2
    rw [← hw]
    exact hQ z a1 (hrel.trans hrel2) ht2
  | exit i => obtain ⟨rfl, rfl⟩ := same h1; exact hQ y a1 hrel ht
  | goto i => obtain ⟨rfl, rfl⟩ := same h1; exact hQ y a1 hrel ht
  | ret => obtain ⟨rfl, rfl⟩ := same h1; exact hQ y a1 hrel ht
/-- A loop's environment: the function's. -/
def lEnv (P : Program) (C : Cfg) (f : FuncId) (m : Nat) : Env := mkEnv P C (Runs P) (LRuns P (match P.funcs[f]? with | some fn => fn.ntmps | none => 0) m) f m
theorem tidied_env {V V' : Env} (hn : V'.nt = V.nt) (hm : V'.m = V.m) {x : Cx} {s : St} {a : Act} (h : Tidied V x s a) : Tidied V' x s a :=
  ⟨⟨h.sto, h.sl, by rw [hn]; exact h.nt, h.df, by rw [hm]; exact h.pin⟩, h.low⟩
/-- One more round. -/
theorem loop_next {P : Program} {C : Cfg} {f m : Nat} {c : Code} {s s1 s' : St} {sc : List Ev} {e : Ex} (h : Says (evRound (lEnv P C f m) c s sc) (.normal, s1)) (hn : LRuns P (lEnv P C f m).nt m (.loop c) s1 e s') :
    LRuns P (lEnv P C f m).nt m (.loop c) s e s' := by
  obtain ⟨n, hn⟩ := hn
  refine ⟨n + 1, fun V hP hnt hm x a hf => ?_⟩
  have hf' : Tidied (lEnv P C f m) x s a := tidied_env hnt.symm hm.symm hf
  refine says_round (R := Unit) (V := lEnv P C f m) (fun _ _ _ _ _ h => h) (fun _ _ _ _ h => h) hf' h fun y a' hrel ht => ?_
  have hn2 := hn V hP hnt hm y a' (tidied_env hnt hm ht)
  refine rounds_mono ?_ hn2
  rintro e' a2 w2 ⟨h1, z, hz, hrel2, ht2⟩
  exact ⟨h1, z, hz, Rel.trans (by rw [hm]; exact hrel) hrel2, ht2⟩
/-- The last round. -/
theorem loop_last {P : Program} {C : Cfg} {f m : Nat} {c : Code} {s s' : St} {sc : List Ev} {e : Ex} (h : Says (evRound (lEnv P C f m) c s sc) (e, s')) (he : e ≠ .normal) :
    LRuns P (lEnv P C f m).nt m (.loop c) s e s' := by
  refine ⟨1, fun V hP hnt hm x a hf => ?_⟩
  have hf' : Tidied (lEnv P C f m) x s a := tidied_env hnt.symm hm.symm hf
  refine says_round (R := Unit) (V := lEnv P C f m) (fun _ _ _ _ _ h => h) (fun _ _ _ _ h => h) hf' h fun y a' hrel ht => ?_
  have hp : Post V x e s' e.out a' y.w := ⟨rfl, y, rfl, by rw [hm]; exact hrel, tidied_env hnt hm ht⟩
  cases e with
  | normal => exact (he rfl).elim
  | exit i => exact hp
  | goto i => exact hp
  | ret => exact hp

/-- A test and its branches. -/
theorem piece_ok {P : Program} {C : Cfg} {f m t : Nat} {c d : Code} {s s' : St} {sc : List Ev} {e : Ex} (h : Says (evPieceT (lEnv P C f m) t c d s sc) (e, s')) : LRuns P (lEnv P C f m).nt m (.cond (.tmp t) c d) s e s' := by
  intro V hP hnt hm x a hf
  have hf' : Tidied (lEnv P C f m) x s a := tidied_env hnt.symm hm.symm hf
  unfold evPieceT at h
  refine says_code (R := Ex × St) (V := lEnv P C f m) (fun _ _ _ _ _ h => h) (fun _ _ _ _ h => h) (fun h => by cases h) hf' h fun y s2 a2 sc2 e2 hrel ht h2 => ?_
  have same : ∀ {e1 : Ex} {s2 : St}, Says (R := Ex × St) (some ((e1, s2), [])) (e, s') → e = e1 ∧ s' = s2 := by
    rintro e1 s2 ⟨ps, he, _⟩
    simp only [Option.some.injEq, Prod.mk.injEq] at he
    exact ⟨he.1.1.symm, he.1.2.symm⟩
  have hp : ∀ {e1 : Ex}, e = e1 ∧ s' = s2 → Post V x e s' e1.out a2 y.w := by
    rintro e1 ⟨rfl, rfl⟩
    exact ⟨rfl, y, rfl, by rw [hm]; exact hrel, tidied_env hnt hm ht⟩
  cases e2 with
  | normal =>
    obtain ⟨z, s3, hrel2, hw, ht2, h4⟩ := says_tidyL ht h2
    obtain ⟨rfl, rfl⟩ := same h4
    exact ⟨rfl, z, hw, by rw [hm]; exact hrel.trans hrel2, tidied_env hnt hm ht2⟩
  | goto l => exact hp (same h2)
  | exit i => exact hp (same h2)
  | ret => exact hp (same h2)
/-- One more jump to a scope's label. -/
theorem scope_next {P : Program} {C : Cfg} {f m : Nat} {c : Code} {s s1 s' : St} {sc : List Ev} {e : Ex} (h : Says (evRoundS (lEnv P C f m) c s sc) (.normal, s1)) (hn : LRuns P (lEnv P C f m).nt m (.scope c) s1 e s') :
    LRuns P (lEnv P C f m).nt m (.scope c) s e s' := by
  obtain ⟨l, n, hl, hn⟩ := hn
  refine ⟨l, n + 1, hl, fun V hP hnt hm x a hf => ?_⟩
  have hf' : Tidied (lEnv P C f m) x s a := tidied_env hnt.symm hm.symm hf
  unfold evRoundS at h
  rw [hl] at h
  refine says_lab (R := Ex × St) (V := lEnv P C f m) (fun _ _ _ _ _ h => h) (fun _ _ _ _ h => h) hf' h fun y s2 a2 sc2 e2 hrel ht h2 => ?_
  have same : ∀ {e1 : Ex} {s2 : St}, Says (R := Ex × St) (some ((e1, s2), [])) (.normal, s1) → e1 = .normal ∧ s2 = s1 := by
    rintro e1 s2 ⟨ps, he, _⟩
    simp only [Option.some.injEq, Prod.mk.injEq] at he
    exact ⟨he.1.1, he.1.2⟩
  cases e2 with
  | goto l' =>
    obtain ⟨hb, h3⟩ := says_chk h2
    have hb := Nat.eq_of_beq_eq_true hb
    obtain ⟨z, s3, hrel2, hw, ht2, h4⟩ := says_tidyL ht h3
    obtain ⟨-, rfl⟩ := same h4
    refine ⟨hb, ?_⟩
    have hn2 := hn V hP hnt hm z a2 (tidied_env hnt hm ht2)
    rw [← hw]
    refine jumps_mono ?_ hn2
    rintro e' a3 w3 ⟨h1, z2, hz, hrel3, ht3⟩
    exact ⟨h1, z2, hz, Rel.trans (by rw [hm]; exact hrel) (Rel.trans (by rw [hm]; exact hrel2) hrel3), ht3⟩
  | normal => exact (says_none h2).elim
  | exit i => exact absurd (same h2).1 (by simp)
  | ret => exact absurd (same h2).1 (by simp)
/-- The last one. -/
theorem scope_last {P : Program} {C : Cfg} {f m : Nat} {c : Code} {s s' : St} {sc : List Ev} {e : Ex} (h : Says (evRoundS (lEnv P C f m) c s sc) (e, s')) (he : e ≠ .normal) :
    LRuns P (lEnv P C f m).nt m (.scope c) s e s' := by
  cases hl : labs c with
  | nil => unfold evRoundS at h; rw [hl] at h; exact (says_none h).elim
  | cons l ls => cases ls with
    | cons _ _ => unfold evRoundS at h; rw [hl] at h; exact (says_none h).elim
    | nil =>
      refine ⟨l, 1, hl, fun V hP hnt hm x a hf => ?_⟩
      have hf' : Tidied (lEnv P C f m) x s a := tidied_env hnt.symm hm.symm hf
      unfold evRoundS at h
      rw [hl] at h
      refine says_lab (R := Ex × St) (V := lEnv P C f m) (fun _ _ _ _ _ h => h) (fun _ _ _ _ h => h) hf' h fun y s2 a2 sc2 e2 hrel ht h2 => ?_
      have same : ∀ {e1 : Ex} {s2 : St}, Says (R := Ex × St) (some ((e1, s2), [])) (e, s') → e = e1 ∧ s' = s2 := by
        rintro e1 s2 ⟨ps, he, _⟩
        simp only [Option.some.injEq, Prod.mk.injEq] at he
        exact ⟨he.1.1.symm, he.1.2.symm⟩
      have hp : ∀ {e1 : Ex}, e = e1 ∧ s' = s2 → Post V x e s' e1.out a2 y.w := by
        rintro e1 ⟨rfl, rfl⟩
        exact ⟨rfl, y, rfl, by rw [hm]; exact hrel, tidied_env hnt hm ht⟩
      cases e2 with
      | goto l' =>
        obtain ⟨hb, h3⟩ := says_chk h2
        obtain ⟨z, s3, hrel2, hw, ht2, h4⟩ := says_tidyL ht h3
        exact absurd (same h4).1 he
      | normal => exact (says_none h2).elim
      | exit i => exact hp (same h2)
      | ret => exact hp (same h2)

/-! ### Functions -/
def resOf (tmps : Array Value) : ResultVar → Sem Value
  | .tmp t => pure (tmps.getD t undef)
  | .cell a t => do loadVar t (← asAddr (tmps.getD a undef))
def valOf : List Value → Value
  | [v] => v
  | l => .tuple l.toArray
theorem run_results {P : Program} {fn : Func} {tmps : Array Value} {w : World} {vs : List Value}
    (h : (fn.results.toList.mapM (resOf tmps)).run P w = .ok vs w) :
    (results fn tmps).run P w = .ok (valOf vs) w := by
  have he : results fn tmps = (do
      let vs ← fn.results.mapM (resOf tmps)
      pure (if h : vs.size = 1 then vs[0] else .tuple vs)) := by
    unfold results
    congr 1
  rw [he, Sem.run_bind, Array.mapM_eq_mapM_toList]
  simp only [Sem.run_map, h, Result.andThen_ok, Sem.run_pure]
  match vs with
  | [] => rfl
  | [v] => rfl
  | a :: b :: l => simp [valOf]
theorem says_results {R : Type} {P : Program} {x : Cx} {s : St} {a : Act} (hs : Sto x s.objs s.rows) (hsl : Slots x s.slots a) : ∀ {l : List ResultVar} {k : List AV → Ans R} {r : R}, Says (evResults P s l k) r →
    ∃ vs as, (l.mapM (resOf a.tmps)).run P x.w = .ok vs x.w ∧ RepAs x as vs ∧ Says (k as) r
  | [], k, r, h => ⟨[], [], by simp, trivial, h⟩
  | .tmp t :: l, k, r, h => by
    obtain ⟨v, hv, h1⟩ := says_get h
    obtain ⟨av, hav, h2⟩ := says_wAv h1
    obtain ⟨vs, as, h3, h4, h5⟩ := says_results hs hsl h2
    have hr := (hsl t v hv).2
    rw [hav] at hr
    refine ⟨a.tmps.getD t undef :: vs, av :: as, ?_, ⟨hr, h4⟩, h5⟩
    simp only [List.mapM_cons, resOf, Sem.run_bind, Sem.run_pure, Result.andThen_ok, h3]
  | .cell b t :: l, k, r, h => by
    obtain ⟨v, hv, h1⟩ := says_get h
    obtain ⟨u, av, hrun, hra, h2⟩ := says_load (P := P) hs (hsl b v hv).2 h1
    obtain ⟨vs, as, h3, h4, h5⟩ := says_results hs hsl h2
    refine ⟨u :: vs, av :: as, ?_, ⟨hra, h4⟩, h5⟩
    have hp : (resOf a.tmps (.cell b t)).run P x.w = .ok u x.w := by
      show (do loadVar t (← asAddr (a.tmps.getD b undef)) : Sem Value).run P x.w = _
      generalize a.tmps.getD b undef = val at hrun ⊢
      cases val with
      | pointer p =>
        cases p with
        | some q => simpa [Instr.loadAt, Instr.sureAddr, asAddr] using hrun
        | none => simp [Instr.loadAt, Instr.sureAddr] at hrun
      | _ => simp [Instr.loadAt, Instr.sureAddr] at hrun
    simp only [List.mapM_cons, Sem.run_bind, hp, Result.andThen_ok, h3, Sem.run_pure]
theorem says_sift {R : Type} {b : R → Bool} {y : Ans R} {r : R} (h : Says (sift b y) r) : b r = true ∧ Says y r := by
  obtain ⟨ps, he, hp⟩ := h
  unfold sift at he
  split at he
  · rename_i r' ps'
    cases hb : b r' with
    | true => rw [hb] at he; cases he; exact ⟨hb, ps, rfl, hp⟩
    | false => rw [hb] at he; cases he
  · cases he
theorem repAs_tupOf {x : Cx} {as : List AV} {vs : List Value} (h : RepAs x as vs) : RepS x (tupOf as) (valOf vs) := by
  match as, vs, h with
  | [], [], _ => exact ⟨#[], rfl, trivial⟩
  | [a], [v], h => exact h.1
  | a :: b :: l, v :: u :: vs, h => exact ⟨(v :: u :: vs).toArray, rfl, by simpa using h⟩

theorem repAs_at {x : Cx} : ∀ {as : List AV} {vs : List Value} {t : Nat} {a : AV}, RepAs x as vs → as[t]? = some a → ∃ v, vs[t]? = some v ∧ RepA x a v
  | [], [], t, a, _, h => by simp at h
  | b :: as, v :: vs, 0, a, hh, h => by simp at h; subst h; exact ⟨v, by simp, hh.1⟩
  | b :: as, v :: vs, t + 1, a, hh, h => by simp at h; obtain ⟨u, h1, h2⟩ := repAs_at hh.2 h; exact ⟨u, by simpa using h1, h2⟩

/-- **What a function does.** -/
theorem runs_of {P : Program} {C : Cfg} {f : FuncId} {as : List AV} {objs : List Obj} {rows : List Row} {sc : List Ev} {res : Res}
    (h : Says (evFn P C (Runs P) (LRuns P (lEnv P C f objs.length).nt objs.length) f as objs rows sc) res) : Runs P f as objs rows res := by
  unfold evFn at h
  split at h
  · exact (says_none h).elim
  rename_i fn hfn
  split at h
  · exact (says_none h).elim
  rename_i c hc
  obtain ⟨hname, h0⟩ := says_chk h
  obtain ⟨hbs, h1⟩ := says_sift h0
  simp only [Bool.and_eq_true] at hbs
  simp only [Bool.not_eq_true'] at hname
  have hend : ∀ {x : Cx} {s : St} {a : Act}, Tidied (lEnv P C f objs.length) x s a → Says (evEnd P objs.length fn.results.toList s) res →
      ∃ v y, (results fn a.tmps).run P x.w = .ok v x.w ∧ y.w = x.w ∧ Rel objs.length x y ∧ Sto y (number 0 res.2.1) (number 0 (res.2.2.map .live)) ∧ RepS y (tupOf res.1) v := by
    intro x s a ht h
    unfold evEnd at h
    obtain ⟨vs, as', hrun, hrep, h2⟩ := says_results (P := P) ht.sto ht.sl h
    split at h2
    · rename_i p hp
      obtain ⟨ps, he, _⟩ := h2
      simp only [Option.some.injEq, Prod.mk.injEq] at he
      have hok : PartOk x s p x.B := part_ok ht.sto hp (fun b hb => .inl hb)
      refine ⟨_, p.cx x x.B, run_results hrun, rfl, ⟨⟨rfl, rfl, rfl, Nat.le_refl _, fun _ _ _ => rfl, fun b hb => .inl (hok.Sx b hb), rfl⟩, fun o ho => ?_⟩, ?_, ?_⟩
      · show x.g.ob (p.os.getD o 0) = _
        rw [getD_of (part_pins hp ho)]
      · rw [← he.1]; exact hok.sto
      · rw [← he.1]; exact repAs_tupOf (repAs_part hok hrep)
    · exact (says_none h2).elim
  refine ⟨⟨fn, c, hfn, hc, hname⟩, hbs.1, Nat.le_of_ble_eq_true hbs.2, fun x vals hsto hU hrep => ?_⟩
  refine calls_of_wp hfn hc ?_
  have hsz : fn.ntmps ≤ (vals.toArray ++ Array.replicate (fn.ntmps - vals.toArray.size) undef).size := by simp; omega
  have hnt : (lEnv P C f objs.length).nt = fn.ntmps := by simp [lEnv, mkEnv, hfn]
  have hf : Tidied (lEnv P C f objs.length) x ⟨number 0 (as.map .av), number 0 objs, number 0 (rows.map .live)⟩ { tmps := vals.toArray ++ Array.replicate (fn.ntmps - vals.toArray.size) undef, defers := [] } := by
    refine ⟨⟨hsto, ?_, by rw [hnt]; exact hsz, rfl, fun o ho => ?_⟩, fun n hn => by simp only [number_length, List.length_map]; exact hU n hn⟩
    · intro t v hl
      rw [lkup_number0, List.getElem?_map] at hl
      cases hat : as[t]? with
      | none => rw [hat] at hl; cases hl
      | some av =>
        rw [hat] at hl
        cases hl
        obtain ⟨v, hv, hr⟩ := repAs_at hrep hat
        have hlt : t < vals.length := by
          rcases Nat.lt_or_ge t vals.length with h' | h'
          · exact h'
          · rw [List.getElem?_eq_none h'] at hv; cases hv
        refine ⟨by simp; omega, ?_⟩
        have : (vals.toArray ++ Array.replicate (fn.ntmps - vals.toArray.size) undef).getD t undef = v := by
          rw [Array.getD_eq_getD_getElem?, Array.getElem?_append_left (by simpa using hlt)]
          simp [hv]
        rw [this]; exact hr
    · have hm : (lEnv P C f objs.length).m = objs.length := rfl
      rw [hm] at ho
      exact (hsto.obj o objs[o] (by rw [lkup_number0]; exact List.getElem?_eq_getElem ho)).1
  refine says_code (V := lEnv P C f objs.length) (fun _ _ _ _ _ h => h) (fun _ _ _ _ h => h) (fun h => by cases h) hf h1 fun y s' a' sc' e hrel ht h2 => ?_
  cases e with
  | normal =>
    obtain ⟨v, z, h3, h4, h5, h6, h7⟩ := hend ht h2
    exact ⟨ht.df, v, h3, v, z, rfl, h4, hrel.ext.trans h5.ext, fun o ho => (h5.pin o ho).trans (hrel.pin o ho), h6, h7⟩
  | ret =>
    obtain ⟨v, z, h3, h4, h5, h6, h7⟩ := hend ht h2
    exact ⟨ht.df, v, h3, v, z, rfl, h4, hrel.ext.trans h5.ext, fun o ho => (h5.pin o ho).trans (hrel.pin o ho), h6, h7⟩
  | exit i => exact (says_none h2).elim
  | goto i => exact (says_none h2).elim
end Go.Ev
