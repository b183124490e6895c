/- The evaluator by value, and that it is sound; contracts by value. No program in sight. -/
import Derived.Test.YtjjcmgdgifcmgaaQ2
import Derived.ScopeJumps
import Derived.KernelRfl
import Derived.IntWalk
import Derived.WalkKit
import Derived.ProofKit
import Derived.OpenShut
import Derived.ShutString
import Derived.ChangeOld
import Derived.Below
import Derived.SizedLaws
import Derived.DataShut
import Derived.Sort.Grow
import Derived.Deep.Draws
import Derived.Shelf.SlLaysN
import Derived.Shelf.RegionOpenPlain
import Derived.Deep.LoopGhost
import Derived.Deep.RegionLaw
import Derived.Lib.Walk
import Derived.Sort.WalkB12
import Derived.Sort.EncStr
import Derived.Lib.SliceRun
import Derived.Lib.SlicesDelete
/- Code, functions. No program in sight. -/
set_option linter.unusedSectionVars false
namespace Go.Ev
variable [DLaw]
set_option linter.unusedVariables false
set_option linter.unusedSimpArgs false

def Ex.out : Ex → Exit
  | .normal => .normal
  | .exit i => .exit i
  | .goto l => .goto l
  | .ret => .ret
/-- A piece of code ends so. -/
def Post (V : Env) (x : Cx) (e : Ex) (s : St) : Exit → Act → World → Prop := fun e' a' w' => e' = e.out ∧ ∃ y, y.w = w' ∧ Rel V.m x y ∧ Tidied V y s a'
/-! ### Scopes: from a label on -/
/-- From the label on, to the code's end. -/
def labWp (P : Program) (l : Nat) : Code → (Exit → Act → World → Prop) → Act → World → Prop
  | .label _, Q, a, w => Q .normal a w
  | .seq c d, Q, a, w => if l ∈ labs c then labWp P l c (Exit.then (d.wp P Q) Q) a w else labWp P l d Q a w
  | _, _, _, _ => False
theorem labWp_mono {P : Program} {l : Nat} {c : Code} {Q Q' : Exit → Act → World → Prop} {a : Act} {w : World} (h : labWp P l c Q a w) (hq : ∀ e a w, Q e a w → Q' e a w) : labWp P l c Q' a w := by
  induction c generalizing Q Q' with
  | label l' => exact hq _ _ _ h
  | seq c d ih1 ih2 =>
    simp only [labWp] at h ⊢
    split at h
    · rename_i hm
      rw [if_pos hm]
      refine ih1 h fun e a w q => ?_
      cases e with
      | normal => exact wp_mono q hq
      | exit _ => exact hq _ _ _ q
      | goto _ => exact hq _ _ _ q
      | ret => exact hq _ _ _ q
      | panic _ => exact hq _ _ _ q
      | outgrown => exact hq _ _ _ q
    · rename_i hm
      rw [if_neg hm]
      exact ih2 h hq
  | _ => exact h.elim
theorem findLabel_labs {l : Nat} {c : Code} : (findLabel c l).isSome = true ↔ l ∈ labs c := by
  induction c with
  | label l' =>
    simp only [findLabel, labs, List.mem_singleton]
    by_cases h : l' = l
    · simp [h]
    · simp [h]; exact fun h2 => h h2.symm
  | seq c d ih1 ih2 =>
    simp only [findLabel, labs, List.mem_append]
    cases h : findLabel c l with
    | none =>
      rw [h] at ih1
      simp only [← ih1, ih2.symm]
      simp
    | some r =>
      rw [h] at ih1
      simp only [Option.isSome_some, true_iff]
      exact .inl (ih1.1 rfl)
  | _ => simp [findLabel, labs]
theorem labWp_rest {P : Program} {l : Nat} {c rest : Code} {Q : Exit → Act → World → Prop} {a : Act} {w : World} (h : labWp P l c Q a w) (hf : findLabel c l = some rest) : rest.wp P Q a w := by
  induction c generalizing Q rest with
  | label l' =>
    simp only [findLabel] at hf
    split at hf
    · cases hf; exact wp_skip h
    · cases hf
  | seq c d ih1 ih2 =>
    simp only [labWp] at h
    simp only [findLabel] at hf
    cases hc : findLabel c l with
    | none =>
      rw [hc] at hf
      rw [if_neg (fun hm => by have := findLabel_labs.2 hm; rw [hc] at this; cases this)] at h
      exact ih2 h hf
    | some r =>
      rw [hc] at hf
      rw [if_pos (findLabel_labs.1 (by rw [hc]; rfl))] at h
      cases hf
      exact wp_seq (ih1 h hc)
  | _ => exact h.elim
/-- A jump to the label, n times at most. -/
def jumps (P : Program) (c : Code) (l : Nat) (Q : Exit → Act → World → Prop) : Nat → Act → World → Prop
  | 0, _, _ => False
  | n + 1, a, w => labWp P l c (Exit.jump l (jumps P c l Q n) Q) a w
theorem jump_mono {l : Nat} {J J' : Act → World → Prop} {Q Q' : Exit → Act → World → Prop} (hj : ∀ a w, J a w → J' a w) (hq : ∀ e a w, Q e a w → Q' e a w) {e : Exit} {a : Act} {w : World} (h : Exit.jump l J Q e a w) : Exit.jump l J' Q' e a w := by
  cases e with
  | goto l' => exact ⟨h.1, hj _ _ h.2⟩
  | normal => exact hq _ _ _ h
  | exit _ => exact hq _ _ _ h
  | ret => exact hq _ _ _ h
  | panic _ => exact hq _ _ _ h
  | outgrown => exact hq _ _ _ h
theorem jumps_mono {P : Program} {c : Code} {l : Nat} {Q Q' : Exit → Act → World → Prop} (hq : ∀ e a w, Q e a w → Q' e a w) : ∀ {n : Nat} {a : Act} {w : World}, jumps P c l Q n a w → jumps P c l Q' n a w
  | 0, _, _, h => h.elim
  | n + 1, a, w, h => labWp_mono h fun e a w q => jump_mono (fun a w h => jumps_mono hq h) hq q
theorem least {p : Nat → Prop} (h : ∃ n, p n) : ∃ n, p n ∧ ∀ m, m < n → ¬ p m := by
  obtain ⟨n, hn⟩ := h
  induction n using Nat.strongRecOn with
  | _ n ih =>
    by_cases h : ∃ m, m < n ∧ p m
    · obtain ⟨m, hm, hp⟩ := h
      exact ih m hm hp
    · exact ⟨n, hn, fun m hm hp => h ⟨m, hm, hp⟩⟩
open Classical in
theorem wp_scope_lab {P : Program} {c : Code} {l : Nat} {Q : Exit → Act → World → Prop} {a : Act} {w : World} (hl : l ∈ labs c) (first : c.wp P (Exit.jump l (fun a w => ∃ n, jumps P c l Q n a w) Q) a w) : (Code.scope c).wp P Q a w := by
  obtain ⟨rest, hr⟩ := Option.isSome_iff_exists.1 (findLabel_labs.2 hl)
  refine wp_scope_jumps (rest := rest) l (fun a w => ∃ n, jumps P c l Q n a w) (fun a w => if h : ∃ n, jumps P c l Q n a w then Classical.choose (least h) else 0) hr first fun a w hJ => ?_
  obtain ⟨h1, h2⟩ := Classical.choose_spec (least hJ)
  have e : (if h : ∃ n, jumps P c l Q n a w then Classical.choose (least h) else 0) = Classical.choose (least hJ) := dif_pos hJ
  rw [e]
  generalize Classical.choose (least hJ) = n at h1 h2
  cases n with
  | zero => exact h1.elim
  | succ m =>
    refine labWp_rest (labWp_mono h1 fun e a' w' q => jump_mono (fun a w hj => ?_) (fun _ _ _ q => q) q) hr
    refine ⟨⟨m, hj⟩, ?_⟩
    show (if h : ∃ n, jumps P c l Q n a w then Classical.choose (least h) else 0) < m + 1
    have hJ' : ∃ n, jumps P c l Q n a w := ⟨m, hj⟩
    rw [dif_pos hJ']
    have h3 := (Classical.choose_spec (least hJ')).2
    rcases Nat.lt_or_ge m (Classical.choose (least hJ')) with h | h
    · exact absurd hj (h3 m h)
    · omega
/-- A loop goes from one state to another; a scope, from its label on. -/
def LRuns (P : Program) (nt m : Nat) (c : Code) (s : St) (e : Ex) (s' : St) : Prop :=
  match c with
  | .loop c => ∃ n, ∀ V : Env, V.P = P → V.nt = nt → V.m = m → ∀ x a, Tidied V x s a → Code.rounds P c (Post V x e s') n a x.w
  | .scope c => ∃ l n, labs c = [l] ∧ ∀ V : Env, V.P = P → V.nt = nt → V.m = m → ∀ x a, Tidied V x s a → jumps P c l (Post V x e s') n a x.w
  | c => ∀ V : Env, V.P = P → V.nt = nt → V.m = m → ∀ x a, Tidied V x s a → c.wp P (Post V x e s') a x.w

theorem says_code {V : Env} (hV : ∀ b f as_ objs rows res, V.call b f as_ objs rows res → Calld V.P b f as_ objs rows res) (hL : ∀ c s e s', V.L c s e s' → LRuns V.P V.nt V.m c s e s') :
    ∀ {R : Type} {c : Code} {j : Bool} {x : Cx} {s : St} {a : Act} {sc : List Ev} {k : List Ev → Ex → St → Ans R} {r : R} {Q : Exit → Act → World → Prop}, (j = true → (labs c).length ≤ 1 ∧ ∀ l a w, l ∈ labs c → Q (.goto l) a w → labWp V.P l c Q a w) → Tidied V x s a → Says (evCode V c j s sc k) r →
      (∀ y s' a' sc' e, Rel V.m x y → Tidied V y s' a' → Says (k sc' e s') r → Q e.out a' y.w) → c.wp V.P Q a x.w := by
  intro R c
  induction c with
  | skip => intro j x s a sc k r Q hj hf h hQ; exact wp_skip (hQ x s a sc .normal (Rel.refl _ _) hf h)
  | label l =>
    intro j x s a sc k r Q hj hf h hQ
    cases j with
    | false => exact wp_label (hQ x s a sc .normal (Rel.refl _ _) hf h)
    | true =>
      have h1 := hQ x s a sc (.goto l) (Rel.refl _ _) hf h
      exact wp_label ((hj rfl).2 l a x.w (by simp [labs]) h1)
  | exit l => intro j x s a sc k r Q hj hf h hQ; exact wp_exit (hQ x s a sc (.exit l) (Rel.refl _ _) hf h)
  | goto l => intro j x s a sc k r Q hj hf h hQ; exact wp_goto (hQ x s a sc (.goto l) (Rel.refl _ _) hf h)
  | ret => intro j x s a sc k r Q hj hf h hQ; exact wp_ret (hQ x s a sc .ret (Rel.refl _ _) hf h)
  | region id ops draw =>
    intro j x s a sc k r Q hj hf h hQ
    unfold evCode at h
    cases draw with
    | true => exact says_drawn (V := V) hV hf (by exact h) fun y s' a' sc' hrel ht h' => hQ y s' a' sc' .normal hrel ht h'
    | false => exact says_region (V := V) hV hf (by exact h) fun y s' a' sc' hrel ht h' => hQ y s' a' sc' .normal hrel ht h'
  | seq c1 c2 ih1 ih2 =>
    intro j x s a sc k r Q hj hf h hQ
    unfold evCode at h
    have hj1 : j = true → (labs c1).length ≤ 1 ∧ ∀ l a w, l ∈ labs c1 → Exit.then (c2.wp V.P Q) Q (.goto l) a w → labWp V.P l c1 (Exit.then (c2.wp V.P Q) Q) a w := fun ht => by
      obtain ⟨h1, h2⟩ := hj ht
      simp only [labs, List.length_append] at h1
      refine ⟨by omega, fun l a w hl hg => ?_⟩
      have h3 := h2 l a w (by simp [labs, hl]) hg
      simp only [labWp] at h3
      rwa [if_pos hl] at h3
    have hj2 : j = true → (labs c2).length ≤ 1 ∧ ∀ l a w, l ∈ labs c2 → Q (.goto l) a w → labWp V.P l c2 Q a w := fun ht => by
      obtain ⟨h1, h2⟩ := hj ht
      simp only [labs, List.length_append] at h1
      refine ⟨by omega, fun l a w hl hg => ?_⟩
      have h3 := h2 l a w (by simp [labs, hl]) hg
      simp only [labWp] at h3
      rwa [if_neg (fun h4 => by have := List.length_pos_of_mem hl; have := List.length_pos_of_mem h4; omega)] at h3
    refine wp_seq (ih1 hj1 hf h fun y s' a' sc' e hrel ht h' => ?_)
    cases e with
    | normal => exact ih2 hj2 ht h' fun z s2 a2 sc2 e2 hrel2 ht2 h2 => hQ z s2 a2 sc2 e2 (hrel.trans hrel2) ht2 h2
    | exit i => exact hQ y s' a' sc' _ hrel ht h'
    | goto i => exact hQ y s' a' sc' _ hrel ht h'
    | ret => exact hQ y s' a' sc' _ hrel ht h'
  | cond o c1 c2 ih1 ih2 =>
    intro j x s a sc k r Q hj hf h hQ
    unfold evCode at h
    obtain ⟨v, hv, h1⟩ := says_get h
    obtain ⟨b, hb, h2⟩ := says_wBool h1
    have hr := rep_opd hf.sl hv
    rw [hb] at hr
    have he := rep_bool hr
    split at h2
    · obtain ⟨ht, h3⟩ := says_obl h2
      subst ht
      exact wp_cond_true he (ih1 (fun h => by cases h) (told_ok hf (by rw [hv, hb])) h3 hQ)
    · obtain ⟨ht, h3⟩ := says_obl h2
      subst ht
      exact wp_cond_false he (ih2 (fun h => by cases h) (told_ok hf (by rw [hv, hb])) h3 hQ)
    · split at h2
      · obtain ⟨z, s1, hrel, hw, ht, h3⟩ := says_tidyL hf h2
        obtain ⟨hl, h4⟩ := says_obl h3
        have h5 := hL _ _ _ _ hl V rfl rfl rfl z a ht
        rw [← hw]
        refine Code.wp_mono ?_ h5
        rintro e' a' w' ⟨rfl, z2, rfl, hrel2, ht2⟩
        exact hQ z2 _ a' _ _ (hrel.trans hrel2) ht2 h4
      · exact (says_none h2).elim
    · exact (says_none h2).elim
  | block id c ih =>
    intro j x s a sc k r Q hj hf h hQ
    unfold evCode at h
    refine wp_block (ih (fun h => by cases h) hf h fun y s' a' sc' e hrel ht h' => ?_)
    cases e with
    | normal => exact hQ y s' a' sc' .normal hrel ht h'
    | exit i =>
      simp only [Ex.out, Exit.inBlock]
      cases hb : Nat.beq i id with
      | true =>
        simp only [hb, cond_true] at h'
        rw [if_pos (Nat.eq_of_beq_eq_true hb)]
        exact hQ y s' a' sc' .normal hrel ht h'
      | false =>
        simp only [hb, cond_false] at h'
        rw [if_neg (fun he => by subst he; simp at hb)]
        exact hQ y s' a' sc' (.exit i) hrel ht h'
    | goto i => exact hQ y s' a' sc' (.goto i) hrel ht h'
    | ret => exact hQ y s' a' sc' .ret hrel ht h'
  | loop c ih =>
    intro j x s a sc k r Q hj hf h hQ
    unfold evCode at h
    obtain ⟨y, s1, hrel, hw, ht, h1⟩ := says_tidyL hf h
    split at h1
    · rename_i e s' sc'
      obtain ⟨hl, h2⟩ := says_obl h1
      obtain ⟨n, hn⟩ := hL _ _ _ _ hl
      have h3 := hn V rfl rfl rfl y a ht
      rw [← hw]
      refine Code.wp_mono ?_ (wp_loop_rounds n h3)
      rintro e' a' w' ⟨rfl, z, rfl, hrel2, ht2⟩
      exact hQ z s' a' sc' e (hrel.trans hrel2) ht2 h2
    · exact (says_none h1).elim
  | scope c ih =>
    intro j x s a sc k r Q hj hf h hQ
    unfold evCode at h
    split at h
    · rename_i l hl
      refine wp_scope_lab (l := l) (by rw [hl]; simp) (ih (j := true) (fun _ => ⟨by rw [hl]; simp, fun l' a' w' hm hg => ?_⟩) hf h fun y s' a' sc' e hrel ht h' => ?_)
      · obtain ⟨rfl, n, hn⟩ := hg
        cases n with
        | zero => exact hn.elim
        | succ n => exact labWp_mono hn fun e a w q => jump_mono (fun a w hj => ⟨n, hj⟩) (fun _ _ _ q => q) q
      · cases e with
        | goto l' =>
          simp only at h'
          obtain ⟨hb, h1⟩ := says_chk h'
          have hb := Nat.eq_of_beq_eq_true hb
          subst hb
          obtain ⟨z, s1, hrel2, hw, ht2, h2⟩ := says_tidyL ht h1
          refine ⟨rfl, ?_⟩
          split at h2
          · rename_i e s' sc'
            obtain ⟨hlr, h3⟩ := says_obl h2
            obtain ⟨l2, n, hl2, hn⟩ := hL _ _ _ _ hlr
            obtain rfl : l2 = l' := by rw [hl] at hl2; simpa using hl2.symm
            refine ⟨n, ?_⟩
            rw [← hw]
            refine jumps_mono ?_ (hn V rfl rfl rfl z a' ht2)
            rintro e' a' w' ⟨rfl, z2, rfl, hrel3, ht3⟩
            exact hQ z2 s' a' sc' e ((hrel.trans hrel2).trans hrel3) ht3 h3
          · exact (says_none h2).elim
        | normal => exact hQ y s' a' sc' _ hrel ht h'
        | exit i => exact hQ y s' a' sc' _ hrel ht h'
        | ret => exact hQ y s' a' sc' _ hrel ht h'
    · exact (says_none h).elim
  | _ =>
    intro j x s a sc k r Q hj hf h hQ
    unfold evCode at h
    exact (says_none h).elim
/-- From a label on. -/
theorem says_lab {V : Env} (hV : ∀ b f as_ objs rows res, V.call b f as_ objs rows res → Calld V.P b f as_ objs rows res) (hL : ∀ c s e s', V.L c s e s' → LRuns V.P V.nt V.m c s e s') :
    ∀ {R : Type} {l : Nat} {c : Code} {x : Cx} {s : St} {a : Act} {sc : List Ev} {k : List Ev → Ex → St → Ans R} {r : R} {Q : Exit → Act → World → Prop}, Tidied V x s a → Says (evLab V l c s sc k) r →
      (∀ y s' a' sc' e, Rel V.m x y → Tidied V y s' a' → Says (k sc' e s') r → Q e.out a' y.w) → labWp V.P l c Q a x.w := by
  intro R l c
  induction c with
  | label l' => intro x s a sc k r Q hf h hQ; exact hQ x s a sc .normal (Rel.refl _ _) hf h
  | seq c1 c2 ih1 ih2 =>
    intro x s a sc k r Q hf h hQ
    unfold evLab at h
    simp only [labWp]
    cases hb : (labs c1).any (Nat.beq l) with
    | true =>
      rw [hb] at h
      have hm : l ∈ labs c1 := by
        obtain ⟨l', hl, he⟩ := List.any_eq_true.1 hb
        rw [Nat.eq_of_beq_eq_true he]; exact hl
      rw [if_pos hm]
      refine ih1 hf h fun y s' a' sc' e hrel ht h' => ?_
      cases e with
      | normal => exact says_code hV hL (fun h => by cases h) ht h' fun z s2 a2 sc2 e2 hrel2 ht2 h2 => hQ z s2 a2 sc2 e2 (hrel.trans hrel2) ht2 h2
      | exit i => exact hQ y s' a' sc' _ hrel ht h'
      | goto i => exact hQ y s' a' sc' _ hrel ht h'
      | ret => exact hQ y s' a' sc' _ hrel ht h'
    | false =>
      rw [hb] at h
      have hm : ¬ l ∈ labs c1 := fun hm => by
        rw [Bool.eq_false_iff] at hb
        exact hb (List.any_eq_true.2 ⟨l, hm, Nat.beq_refl l⟩)
      rw [if_neg hm]
      exact ih2 hf h hQ
  | _ =>
    intro x s a sc k r Q hf h hQ
    exact (says_none h).elim

/-! ### Loops -/
theorem rounds_mono {P : Program} {c : Code} {Q Q' : Exit → Act → World → Prop} (h : ∀ e a w, Q e a w → Q' e a w) : ∀ {n : Nat} {a : Act} {w : World}, Code.rounds P c Q n a w → Code.rounds P c Q' n a w
  | 0, _, _, hr => hr.elim
  | n + 1, a, w, hr => Code.wp_mono (fun e a w q => by cases e <;> first | exact rounds_mono h q | exact h _ _ _ q) hr
theorem says_round {R : Type} {V : Env} {x : Cx} {a : Act} {c : Code} {s s' : St} {sc : List Ev} {e : Ex} {Q : Exit → Act → World → Prop} (hV : ∀ b f as_ objs rows res, V.call b f as_ objs rows res → Calld V.P b f as_ objs rows res) (hL : ∀ c s e s', V.L c s e s' → LRuns V.P V.nt V.m c s e s')
    (hf : Tidied V x s a) (h : Says (evRound V c s sc) (e, s')) (hQ : ∀ y a', Rel V.m x y → Tidied V y s' a' → Q e.out a' y.w) : c.wp V.P Q a x.w := by
  unfold evRound at h
  refine says_code hV hL (fun h => by cases h) hf h fun y s1 a1 sc1 e1 hrel ht h1 => ?_
  have same : ∀ {e1 : Ex} {s1 : St}, Says (R := Ex × St) (some ((e1, s1), [])) (e, s') → e = e1 ∧ s' = s1 := by
    rintro e1 s1 ⟨ps, he, _⟩
    simp only [Option.some.injEq, Prod.mk.injEq] at he
    exact ⟨he.1.1.symm, he.1.2.symm⟩
  cases e1 with
  | normal =>
    obtain ⟨z, s2, hrel2, hw, ht2, h2⟩ := says_tidyL ht h1
    obtain ⟨rfl, rfl⟩ := same h2
    rw [← hw]
    exact hQ z a1 (hrel.trans hrel2) ht2
  | exit i => obtain ⟨rfl, rfl⟩ := same h1; exact hQ y a1 hrel ht
  | goto i => obtain ⟨rfl, rfl⟩ := same h1; exact hQ y a1 hrel ht
  | ret => obtain ⟨rfl, rfl⟩ := same h1; exact hQ y a1 hrel ht
/-- A loop's environment: the function's. -/
def lEnv (P : Program) (C : Cfg) (f : FuncId) (m : Nat) : Env := mkEnv P C (Calld P) (LRuns P (match P.funcs[f]? with | some fn => fn.ntmps | none => 0) m) f m
theorem tidied_env {V V' : Env} (hP : V'.P = V.P) (hn : V'.nt = V.nt) (hm : V'.m = V.m) {x : Cx} {s : St} {a : Act} (h : Tidied V x s a) : Tidied V' x s a :=
  ⟨⟨h.sto, h.sl, by rw [hn]; exact h.nt, h.df, by rw [hm]; exact h.pin, by rw [hP]; exact h.gd⟩, h.low⟩
/-- One more round. -/
theorem loop_next {P : Program} {C : Cfg} {f m : Nat} {c : Code} {s s1 s' : St} {sc : List Ev} {e : Ex} (h : Says (evRound (lEnv P C f m) c s sc) (.normal, s1)) (hn : LRuns P (lEnv P C f m).nt m (.loop c) s1 e s') :
    LRuns P (lEnv P C f m).nt m (.loop c) s e s' := by
  obtain ⟨n, hn⟩ := hn
  refine ⟨n + 1, fun V hP hnt hm x a hf => ?_⟩
  have hf' : Tidied (lEnv P C f m) x s a := tidied_env hP.symm hnt.symm hm.symm hf
  refine says_round (R := Unit) (V := lEnv P C f m) (fun _ _ _ _ _ _ h => h) (fun _ _ _ _ h => h) hf' h fun y a' hrel ht => ?_
  have hn2 := hn V hP hnt hm y a' (tidied_env hP hnt hm ht)
  refine rounds_mono ?_ hn2
  rintro e' a2 w2 ⟨h1, z, hz, hrel2, ht2⟩
  exact ⟨h1, z, hz, Rel.trans (by rw [hm]; exact hrel) hrel2, ht2⟩
/-- The last round. -/
theorem loop_last {P : Program} {C : Cfg} {f m : Nat} {c : Code} {s s' : St} {sc : List Ev} {e : Ex} (h : Says (evRound (lEnv P C f m) c s sc) (e, s')) (he : e ≠ .normal) :
    LRuns P (lEnv P C f m).nt m (.loop c) s e s' := by
  refine ⟨1, fun V hP hnt hm x a hf => ?_⟩
  have hf' : Tidied (lEnv P C f m) x s a := tidied_env hP.symm hnt.symm hm.symm hf
  refine says_round (R := Unit) (V := lEnv P C f m) (fun _ _ _ _ _ _ h => h) (fun _ _ _ _ h => h) hf' h fun y a' hrel ht => ?_
  have hp : Post V x e s' e.out a' y.w := ⟨rfl, y, rfl, by rw [hm]; exact hrel, tidied_env hP hnt hm ht⟩
  cases e with
  | normal => exact (he rfl).elim
  | exit i => exact hp
  | goto i => exact hp
  | ret => exact hp

/-- A test and its branches. -/
theorem piece_ok {P : Program} {C : Cfg} {f m t : Nat} {c d : Code} {s s' : St} {sc : List Ev} {e : Ex} (h : Says (evPieceT (lEnv P C f m) t c d s sc) (e, s')) : LRuns P (lEnv P C f m).nt m (.cond (.tmp t) c d) s e s' := by
  intro V hP hnt hm x a hf
  have hf' : Tidied (lEnv P C f m) x s a := tidied_env hP.symm hnt.symm hm.symm hf
  unfold evPieceT at h
  refine says_code (R := Ex × St) (V := lEnv P C f m) (fun _ _ _ _ _ _ h => h) (fun _ _ _ _ h => h) (fun h => by cases h) hf' h fun y s2 a2 sc2 e2 hrel ht h2 => ?_
  have same : ∀ {e1 : Ex} {s2 : St}, Says (R := Ex × St) (some ((e1, s2), [])) (e, s') → e = e1 ∧ s' = s2 := by
    rintro e1 s2 ⟨ps, he, _⟩
    simp only [Option.some.injEq, Prod.mk.injEq] at he
    exact ⟨he.1.1.symm, he.1.2.symm⟩
  have hp : ∀ {e1 : Ex}, e = e1 ∧ s' = s2 → Post V x e s' e1.out a2 y.w := by
    rintro e1 ⟨rfl, rfl⟩
    exact ⟨rfl, y, rfl, by rw [hm]; exact hrel, tidied_env hP hnt hm ht⟩
  cases e2 with
  | normal =>
    obtain ⟨z, s3, hrel2, hw, ht2, h4⟩ := says_tidyL ht h2
    obtain ⟨rfl, rfl⟩ := same h4
    exact ⟨rfl, z, hw, by rw [hm]; exact hrel.trans hrel2, tidied_env hP hnt hm ht2⟩
  | goto l => exact hp (same h2)
  | exit i => exact hp (same h2)
  | ret => exact hp (same h2)
/-- One more jump to a scope's label. -/
theorem scope_next {P : Program} {C : Cfg} {f m : Nat} {c : Code} {s s1 s' : St} {sc : List Ev} {e : Ex} (h : Says (evRoundS (lEnv P C f m) c s sc) (.normal, s1)) (hn : LRuns P (lEnv P C f m).nt m (.scope c) s1 e s') :
    LRuns P (lEnv P C f m).nt m (.scope c) s e s' := by
  obtain ⟨l, n, hl, hn⟩ := hn
  refine ⟨l, n + 1, hl, fun V hP hnt hm x a hf => ?_⟩
  have hf' : Tidied (lEnv P C f m) x s a := tidied_env hP.symm hnt.symm hm.symm hf
  unfold evRoundS at h
  rw [hl] at h
  refine says_lab (R := Ex × St) (V := lEnv P C f m) (fun _ _ _ _ _ _ h => h) (fun _ _ _ _ h => h) hf' h fun y s2 a2 sc2 e2 hrel ht h2 => ?_
  have same : ∀ {e1 : Ex} {s2 : St}, Says (R := Ex × St) (some ((e1, s2), [])) (.normal, s1) → e1 = .normal ∧ s2 = s1 := by
    rintro e1 s2 ⟨ps, he, _⟩
    simp only [Option.some.injEq, Prod.mk.injEq] at he
    exact ⟨he.1.1, he.1.2⟩
  cases e2 with
  | goto l' =>
    obtain ⟨hb, h3⟩ := says_chk h2
    have hb := Nat.eq_of_beq_eq_true hb
    obtain ⟨z, s3, hrel2, hw, ht2, h4⟩ := says_tidyL ht h3
    obtain ⟨-, rfl⟩ := same h4
    refine ⟨hb, ?_⟩
    have hn2 := hn V hP hnt hm z a2 (tidied_env hP hnt hm ht2)
    rw [← hw]
    refine jumps_mono ?_ hn2
    rintro e' a3 w3 ⟨h1, z2, hz, hrel3, ht3⟩
    exact ⟨h1, z2, hz, Rel.trans (by rw [hm]; exact hrel) (Rel.trans (by rw [hm]; exact hrel2) hrel3), ht3⟩
  | normal => exact (says_none h2).elim
  | exit i => exact absurd (same h2).1 (by simp)
  | ret => exact absurd (same h2).1 (by simp)
/-- The last one. -/
theorem scope_last {P : Program} {C : Cfg} {f m : Nat} {c : Code} {s s' : St} {sc : List Ev} {e : Ex} (h : Says (evRoundS (lEnv P C f m) c s sc) (e, s')) (he : e ≠ .normal) :
    LRuns P (lEnv P C f m).nt m (.scope c) s e s' := by
  cases hl : labs c with
  | nil => unfold evRoundS at h; rw [hl] at h; exact (says_none h).elim
  | cons l ls => cases ls with
    | cons _ _ => unfold evRoundS at h; rw [hl] at h; exact (says_none h).elim
    | nil =>
      refine ⟨l, 1, hl, fun V hP hnt hm x a hf => ?_⟩
      have hf' : Tidied (lEnv P C f m) x s a := tidied_env hP.symm hnt.symm hm.symm hf
      unfold evRoundS at h
      rw [hl] at h
      refine says_lab (R := Ex × St) (V := lEnv P C f m) (fun _ _ _ _ _ _ h => h) (fun _ _ _ _ h => h) hf' h fun y s2 a2 sc2 e2 hrel ht h2 => ?_
      have same : ∀ {e1 : Ex} {s2 : St}, Says (R := Ex × St) (some ((e1, s2), [])) (e, s') → e = e1 ∧ s' = s2 := by
        rintro e1 s2 ⟨ps, he, _⟩
        simp only [Option.some.injEq, Prod.mk.injEq] at he
        exact ⟨he.1.1.symm, he.1.2.symm⟩
      have hp : ∀ {e1 : Ex}, e = e1 ∧ s' = s2 → Post V x e s' e1.out a2 y.w := by
        rintro e1 ⟨rfl, rfl⟩
        exact ⟨rfl, y, rfl, by rw [hm]; exact hrel, tidied_env hP hnt hm ht⟩
      cases e2 with
      | goto l' =>
        obtain ⟨hb, h3⟩ := says_chk h2
        obtain ⟨z, s3, hrel2, hw, ht2, h4⟩ := says_tidyL ht h3
        exact absurd (same h4).1 he
      | normal => exact (says_none h2).elim
      | exit i => exact hp (same h2)
      | ret => exact hp (same h2)

/-! ### Functions -/
def resOf (tmps : Array Value) : ResultVar → Sem Value
  | .tmp t => pure (tmps.getD t undef)
  | .cell a t => do loadVar t (← asAddr (tmps.getD a undef))
def valOf : List Value → Value
  | [v] => v
  | l => .tuple l.toArray
theorem run_results {P : Program} {fn : Func} {tmps : Array Value} {w : World} {vs : List Value}
    (h : (fn.results.toList.mapM (resOf tmps)).run P w = .ok vs w) :
    (results fn tmps).run P w = .ok (valOf vs) w := by
  have he : results fn tmps = (do
      let vs ← fn.results.mapM (resOf tmps)
      pure (if h : vs.size = 1 then vs[0] else .tuple vs)) := by
    unfold results
    congr 1
  rw [he, Sem.run_bind, Array.mapM_eq_mapM_toList]
  simp only [Sem.run_map, h, Result.andThen_ok, Sem.run_pure]
  match vs with
  | [] => rfl
  | [v] => rfl
  | a :: b :: l => simp [valOf]
theorem says_results {R : Type} {P : Program} {x : Cx} {s : St} {a : Act} (hs : Sto x s.objs s.rows) (hsl : Slots x s.slots a) : ∀ {l : List ResultVar} {k : List AV → Ans R} {r : R}, Says (evResults P s l k) r →
    ∃ vs as_, (l.mapM (resOf a.tmps)).run P x.w = .ok vs x.w ∧ RepAs x as_ vs ∧ Says (k as_) r
  | [], k, r, h => ⟨[], [], by simp, trivial, h⟩
  | .tmp t :: l, k, r, h => by
    obtain ⟨v, hv, h1⟩ := says_get h
    obtain ⟨av, hav, h2⟩ := says_wAv h1
    obtain ⟨vs, as_, h3, h4, h5⟩ := says_results hs hsl h2
    have hr := (hsl t v hv).2
    rw [hav] at hr
    refine ⟨a.tmps.getD t undef :: vs, av :: as_, ?_, ⟨hr, h4⟩, h5⟩
    simp only [List.mapM_cons, resOf, Sem.run_bind, Sem.run_pure, Result.andThen_ok, h3]
  | .cell b t :: l, k, r, h => by
    obtain ⟨v, hv, h1⟩ := says_get h
    obtain ⟨u, av, hrun, hra, h2⟩ := says_load (P := P) hs (hsl b v hv).2 h1
    obtain ⟨vs, as_, h3, h4, h5⟩ := says_results hs hsl h2
    refine ⟨u :: vs, av :: as_, ?_, ⟨hra, h4⟩, h5⟩
    have hp : (resOf a.tmps (.cell b t)).run P x.w = .ok u x.w := by
      show (do loadVar t (← asAddr (a.tmps.getD b undef)) : Sem Value).run P x.w = _
      generalize a.tmps.getD b undef = val at hrun ⊢
      cases val with
      | pointer p =>
        cases p with
        | some q => simpa [Instr.loadAt, Instr.sureAddr, asAddr] using hrun
        | none => simp [Instr.loadAt, Instr.sureAddr] at hrun
      | _ => simp [Instr.loadAt, Instr.sureAddr] at hrun
    simp only [List.mapM_cons, Sem.run_bind, hp, Result.andThen_ok, h3, Sem.run_pure]
theorem says_sift {R : Type} {b : R → Bool} {y : Ans R} {r : R} (h : Says (sift b y) r) : b r = true ∧ Says y r := by
  obtain ⟨ps, he, hp⟩ := h
  unfold sift at he
  split at he
  · rename_i r' ps'
    cases hb : b r' with
    | true => rw [hb] at he; cases he; exact ⟨hb, ps, rfl, hp⟩
    | false => rw [hb] at he; cases he
  · cases he
theorem repAs_tupOf {x : Cx} {as_ : List AV} {vs : List Value} (h : RepAs x as_ vs) : RepS x (tupOf as_) (valOf vs) := by
  match as_, vs, h with
  | [], [], _ => exact ⟨#[], rfl, trivial⟩
  | [a], [v], h => exact h.1
  | a :: b :: l, v :: u :: vs, h => exact ⟨(v :: u :: vs).toArray, rfl, by simpa using h⟩

theorem repAs_at {x : Cx} : ∀ {as_ : List AV} {vs : List Value} {t : Nat} {a : AV}, RepAs x as_ vs → as_[t]? = some a → ∃ v, vs[t]? = some v ∧ RepA x a v
  | [], [], t, a, _, h => by simp at h
  | b :: as_, v :: vs, 0, a, hh, h => by simp at h; subst h; exact ⟨v, by simp, hh.1⟩
  | b :: as_, v :: vs, t + 1, a, hh, h => by simp at h; obtain ⟨u, h1, h2⟩ := repAs_at hh.2 h; exact ⟨u, by simpa using h1, h2⟩

/-- **What a function does.** -/
theorem runs_of {P : Program} {C : Cfg} {f : FuncId} {as_ : List AV} {objs : List Obj} {rows : List Row} {sc : List Ev} {res : Res}
    (h : Says (evFn P C (Calld P) (LRuns P (lEnv P C f objs.length).nt objs.length) f as_ objs rows sc) res) : Runs P f as_ objs rows res := by
  unfold evFn at h
  split at h
  · exact (says_none h).elim
  rename_i fn hfn
  split at h
  · exact (says_none h).elim
  rename_i c hc
  obtain ⟨hname, h0⟩ := says_chk h
  obtain ⟨hbs, h1⟩ := says_sift h0
  simp only [Bool.and_eq_true] at hbs
  simp only [Bool.and_eq_true, Bool.not_eq_true'] at hname
  obtain ⟨hname, hlt0⟩ := hname
  have hlt : objs.length < 1000 := Nat.le_of_ble_eq_true hlt0
  have hpO : pinO objs.length = objs.length := Nat.mod_eq_of_lt hlt
  have hpR : pinR objs.length = 0 := Nat.div_eq_of_lt hlt
  have hend : ∀ {x : Cx} {s : St} {a : Act}, Tidied (lEnv P C f objs.length) x s a → Says (evEnd P objs.length fn.results.toList s) res →
      ∃ v y, (results fn a.tmps).run P x.w = .ok v x.w ∧ y.w = x.w ∧ Rel objs.length x y ∧ Sto y (number 0 res.2.1) (number 0 (res.2.2.map .live)) ∧ RepS y (tupOf res.1) v := by
    intro x s a ht h
    unfold evEnd at h
    obtain ⟨vs, as', hrun, hrep, h2⟩ := says_results (P := P) ht.sto ht.sl h
    split at h2
    · rename_i p hp
      obtain ⟨ps, he, _⟩ := h2
      simp only [Option.some.injEq, Prod.mk.injEq] at he
      have hok : PartOk x s p x.B := part_ok ht.sto hp (fun b hb => .inl hb)
      refine ⟨_, p.cx x x.B, run_results hrun, rfl, ⟨⟨rfl, rfl, rfl, Nat.le_refl _, fun _ _ _ => rfl, fun b hb => .inl (hok.Sx b hb), rfl, fun _ => Nat.le_refl _⟩, fun o ho => ?_, fun r hr => ?_⟩, ?_, ?_⟩
      · show x.g.ob (p.os.getD o 0) = _
        rw [getD_of (part_pins hp ho)]
      · rw [hpR] at hr; omega
      · rw [← he.1]; exact hok.sto
      · rw [← he.1]; exact repAs_tupOf (repAs_part hok hrep)
    · exact (says_none h2).elim
  refine ⟨⟨fn, c, hfn, hc, hname⟩, hbs.1, Nat.le_of_ble_eq_true hbs.2, fun x vals hgd hsto hU hrep => ?_⟩
  refine calls_of_wp hfn hc ?_
  have hsz : fn.ntmps ≤ (vals.toArray ++ Array.replicate (fn.ntmps - vals.toArray.size) undef).size := by simp; omega
  have hnt : (lEnv P C f objs.length).nt = fn.ntmps := by simp [lEnv, mkEnv, hfn]
  have hf : Tidied (lEnv P C f objs.length) x ⟨number 0 (as_.map .av), number 0 objs, number 0 (rows.map .live)⟩ { tmps := vals.toArray ++ Array.replicate (fn.ntmps - vals.toArray.size) undef, defers := [] } := by
    refine ⟨⟨hsto, ?_, by rw [hnt]; exact hsz, rfl, fun o ho => ?_, hgd⟩, fun n hn => by simp only [number_length, List.length_map]; exact hU n hn⟩
    · intro t v hl
      rw [lkup_number0, List.getElem?_map] at hl
      cases hat : as_[t]? with
      | none => rw [hat] at hl; cases hl
      | some av =>
        rw [hat] at hl
        cases hl
        obtain ⟨v, hv, hr⟩ := repAs_at hrep hat
        have hlt : t < vals.length := by
          rcases Nat.lt_or_ge t vals.length with h' | h'
          · exact h'
          · rw [List.getElem?_eq_none h'] at hv; cases hv
        refine ⟨by simp; omega, ?_⟩
        have : (vals.toArray ++ Array.replicate (fn.ntmps - vals.toArray.size) undef).getD t undef = v := by
          rw [Array.getD_eq_getD_getElem?, Array.getElem?_append_left (by simpa using hlt)]
          simp [hv]
        rw [this]; exact hr
    · have hm : (lEnv P C f objs.length).m = objs.length := rfl
      rw [hm, hpO, hpR] at ho
      have ho : o < objs.length := by omega
      exact (hsto.obj o objs[o] (by rw [lkup_number0]; exact List.getElem?_eq_getElem ho)).1
  refine says_code (V := lEnv P C f objs.length) (fun _ _ _ _ _ _ h => h) (fun _ _ _ _ h => h) (fun h => by cases h) hf h1 fun y s' a' sc' e hrel ht h2 => ?_
  cases e with
  | normal =>
    obtain ⟨v, z, h3, h4, h5, h6, h7⟩ := hend ht h2
    exact ⟨ht.df, v, h3, v, z, rfl, h4, hrel.ext.trans h5.ext, fun o ho => (h5.pin o (by rw [hpO]; exact ho)).trans (hrel.pin o (by show o < pinO objs.length; rw [hpO]; exact ho)), h6, h7⟩
  | ret =>
    obtain ⟨v, z, h3, h4, h5, h6, h7⟩ := hend ht h2
    exact ⟨ht.df, v, h3, v, z, rfl, h4, hrel.ext.trans h5.ext, fun o ho => (h5.pin o (by rw [hpO]; exact ho)).trans (hrel.pin o (by show o < pinO objs.length; rw [hpO]; exact ho)), h6, h7⟩
  | exit i => exact (says_none h2).elim
  | goto i => exact (says_none h2).elim
/-- **What a function does that writes rows where they lie.** -/
theorem runsI_of {P : Program} {C : Cfg} {f : FuncId} {as_ : List AV} {objs : List Obj} {rows : List Row} {sc : List Ev} {res : Res}
    (h : Says (evFnI P C (Calld P) (LRuns P (lEnv P C f (objs.length + 1000 * rows.length)).nt (objs.length + 1000 * rows.length)) f as_ objs rows sc) res) : RunsI P f as_ objs rows res := by
  unfold evFnI at h
  split at h
  · exact (says_none h).elim
  rename_i fn hfn
  split at h
  · exact (says_none h).elim
  rename_i c hc
  obtain ⟨hname, h0⟩ := says_chk h
  obtain ⟨hbs, h1⟩ := says_sift h0
  simp only [Bool.and_eq_true, Bool.not_eq_true'] at hname
  obtain ⟨hname, hlt0⟩ := hname
  have hlt : objs.length < 1000 := Nat.le_of_ble_eq_true hlt0
  have hpO : pinO (objs.length + 1000 * rows.length) = objs.length := by unfold pinO; omega
  have hpR : pinR (objs.length + 1000 * rows.length) = rows.length := by unfold pinR; omega
  have hend : ∀ {x : Cx} {s : St} {a : Act}, Tidied (lEnv P C f (objs.length + 1000 * rows.length)) x s a → Says (evEnd P (objs.length + 1000 * rows.length) fn.results.toList s) res →
      ∃ v y, (results fn a.tmps).run P x.w = .ok v x.w ∧ y.w = x.w ∧ Rel (objs.length + 1000 * rows.length) x y ∧ Sto y (number 0 res.2.1) (number 0 (res.2.2.map .live)) ∧ RepS y (tupOf res.1) v := by
    intro x s a ht h
    unfold evEnd at h
    obtain ⟨vs, as', hrun, hrep, h2⟩ := says_results (P := P) ht.sto ht.sl h
    split at h2
    · rename_i p hp
      obtain ⟨ps, he, _⟩ := h2
      simp only [Option.some.injEq, Prod.mk.injEq] at he
      have hok : PartOk x s p x.B := part_ok ht.sto hp (fun b hb => .inl hb)
      refine ⟨_, p.cx x x.B, run_results hrun, rfl, ⟨⟨rfl, rfl, rfl, Nat.le_refl _, fun _ _ _ => rfl, fun b hb => .inl (hok.Sx b hb), rfl, fun _ => Nat.le_refl _⟩, fun o ho => ?_, fun r hr => ?_⟩, ?_, ?_⟩
      · show x.g.ob (p.os.getD o 0) = _
        rw [getD_of (part_pins hp ho)]
      · have h1 := getD_of (part_pinsR hp hr)
        show x.g.rb (p.rs.getD r 0) = _ ∧ x.g.rs (p.rs.getD r 0) = _ ∧ x.g.rc (p.rs.getD r 0) = _ ∧ x.g.rl (p.rs.getD r 0) = _
        rw [h1]
        exact ⟨rfl, rfl, rfl, rfl⟩
      · rw [← he.1]; exact hok.sto
      · rw [← he.1]; exact repAs_tupOf (repAs_part hok hrep)
    · exact (says_none h2).elim
  refine ⟨⟨fn, c, hfn, hc, hname⟩, fun x vals hgd hsto hU hrep => ?_⟩
  refine calls_of_wp hfn hc ?_
  have hsz : fn.ntmps ≤ (vals.toArray ++ Array.replicate (fn.ntmps - vals.toArray.size) undef).size := by simp; omega
  have hnt : (lEnv P C f (objs.length + 1000 * rows.length)).nt = fn.ntmps := by simp [lEnv, mkEnv, hfn]
  have hf : Tidied (lEnv P C f (objs.length + 1000 * rows.length)) x ⟨number 0 (as_.map .av), number 0 objs, number 0 (rows.map .live)⟩ { tmps := vals.toArray ++ Array.replicate (fn.ntmps - vals.toArray.size) undef, defers := [] } := by
    refine ⟨⟨hsto, ?_, by rw [hnt]; exact hsz, rfl, fun o ho => ?_, hgd⟩, fun n hn => by simp only [number_length, List.length_map]; exact hU n hn⟩
    · intro t v hl
      rw [lkup_number0, List.getElem?_map] at hl
      cases hat : as_[t]? with
      | none => rw [hat] at hl; cases hl
      | some av =>
        rw [hat] at hl
        cases hl
        obtain ⟨v, hv, hr⟩ := repAs_at hrep hat
        have hlt : t < vals.length := by
          rcases Nat.lt_or_ge t vals.length with h' | h'
          · exact h'
          · rw [List.getElem?_eq_none h'] at hv; cases hv
        refine ⟨by simp; omega, ?_⟩
        have : (vals.toArray ++ Array.replicate (fn.ntmps - vals.toArray.size) undef).getD t undef = v := by
          rw [Array.getD_eq_getD_getElem?, Array.getElem?_append_left (by simpa using hlt)]
          simp [hv]
        rw [this]; exact hr
    · have hm : (lEnv P C f (objs.length + 1000 * rows.length)).m = objs.length + 1000 * rows.length := rfl
      rw [hm, hpO, hpR] at ho
      rcases ho with ho | ho
      rotate_left
      · have hr : lkup o (number 0 (rows.map RowB.live)) = some (.live rows[o]) := by rw [lkup_number0, List.getElem?_map, List.getElem?_eq_getElem ho]; rfl
        exact (hsto.live o _ hr).1
      exact (hsto.obj o objs[o] (by rw [lkup_number0]; exact List.getElem?_eq_getElem ho)).1
  refine says_code (V := lEnv P C f (objs.length + 1000 * rows.length)) (fun _ _ _ _ _ _ h => h) (fun _ _ _ _ h => h) (fun h => by cases h) hf h1 fun y s' a' sc' e hrel ht h2 => ?_
  cases e with
  | normal =>
    obtain ⟨v, z, h3, h4, h5, h6, h7⟩ := hend ht h2
    refine ⟨ht.df, v, h3, v, z, rfl, h4, hrel.ext.trans h5.ext, fun o ho => ?_, h6, h7⟩
    have a := h5.pinR o (by rw [hpR]; exact ho)
    have b := hrel.pinR o (by show o < pinR (objs.length + 1000 * rows.length); rw [hpR]; exact ho)
    exact ⟨a.1.trans b.1, a.2.1.trans b.2.1, a.2.2.1.trans b.2.2.1, a.2.2.2.trans b.2.2.2⟩
  | ret =>
    obtain ⟨v, z, h3, h4, h5, h6, h7⟩ := hend ht h2
    refine ⟨ht.df, v, h3, v, z, rfl, h4, hrel.ext.trans h5.ext, fun o ho => ?_, h6, h7⟩
    have a := h5.pinR o (by rw [hpR]; exact ho)
    have b := hrel.pinR o (by show o < pinR (objs.length + 1000 * rows.length); rw [hpR]; exact ho)
    exact ⟨a.1.trans b.1, a.2.1.trans b.2.1, a.2.2.1.trans b.2.2.1, a.2.2.2.trans b.2.2.2⟩
  | exit i => exact (says_none h2).elim
  | goto i => exact (says_none h2).elim
end Go.Ev

/- Names for what a walk tells; how its equations are used. No program in sight. -/
set_option linter.unusedVariables false
set_option linter.unusedSimpArgs false
namespace Go.Ev

abbrev iadd (k : IntKind) (x y : Int) : Int := k.wrap (x + y)
abbrev isub (k : IntKind) (x y : Int) : Int := k.wrap (x - y)
abbrev imul (k : IntKind) (x y : Int) : Int := k.wrap (x * y)
def iand (k : IntKind) (x y : Int) : Int := k.wrap (BitVec.ofInt k.bits x &&& BitVec.ofInt k.bits y).toNat
def ior (k : IntKind) (x y : Int) : Int := k.wrap (BitVec.ofInt k.bits x ||| BitVec.ofInt k.bits y).toNat
def ixor (k : IntKind) (x y : Int) : Int := k.wrap (BitVec.ofInt k.bits x ^^^ BitVec.ofInt k.bits y).toNat
def iandnot (k : IntKind) (x y : Int) : Int := k.wrap (BitVec.ofInt k.bits x &&& ~~~ BitVec.ofInt k.bits y).toNat
def ishl (k : IntKind) (a b : Int) : Int := k.wrap (a * 2 ^ (min b.toNat k.bits))
def ishr (k : IntKind) (a b : Int) : Int := a.fdiv (2 ^ (min b.toNat k.bits))
abbrev iquo (k : IntKind) (a b : Int) : Int := k.wrap (a.tdiv b)
abbrev irem (k : IntKind) (a b : Int) : Int := a.tmod b

/-- All of them. -/
@[reducible] def All : List Prop → Prop
  | [] => True
  | p :: l => p ∧ All l
def obs : List Prop → List Ob
  | [] => []
  | p :: l => .p p :: obs l
theorem all_obs : ∀ {l : List Prop}, All l → ∀ o ∈ obs l, o.holds
  | [], _, o, h => by cases h
  | p :: l, h, o, hm => by
    rcases List.mem_cons.1 hm with rfl | hm
    · exact h.1
    · exact all_obs h.2 o hm
theorem Says.of {R : Type} {a : Ans R} {r : R} {ps : List Prop} (h : a = some (r, obs ps)) (hp : All ps) : Says a r := ⟨_, h, all_obs hp⟩
/-! What is told, apart from which states are one; and that they are. -/
def props : List Ob → List Prop
  | [] => []
  | .p q :: l => q :: props l
  | .e _ _ :: l => props l
def lefts : List Ob → List St
  | [] => []
  | .p _ :: l => lefts l
  | .e s _ :: l => s :: lefts l
def rights : List Ob → List St
  | [] => []
  | .p _ :: l => rights l
  | .e _ s :: l => s :: rights l
def ansP {R : Type} (a : Ans R) : Option (R × List Prop) := match a with | some (r, l) => some (r, props l) | none => none
def ansL {R : Type} (a : Ans R) : List St := match a with | some (_, l) => lefts l | none => []
def ansR {R : Type} (a : Ans R) : List St := match a with | some (_, l) => rights l | none => []
@[reducible] def both {R : Type} (a : Ans R) (r : R) (ps : List Prop) : Prop := ansP a = some (r, ps) ∧ ansL a = ansR a
theorem holds_both : ∀ {l : List Ob}, All (props l) → lefts l = rights l → ∀ o ∈ l, o.holds
  | [], _, _, o, h => by cases h
  | .p q :: l, h1, h2, o, hm => by
    rcases List.mem_cons.1 hm with rfl | hm
    · exact h1.1
    · exact holds_both h1.2 h2 o hm
  | .e s s' :: l, h1, h2, o, hm => by
    simp only [lefts, rights, List.cons.injEq] at h2
    rcases List.mem_cons.1 hm with rfl | hm
    · exact h2.1
    · exact holds_both (l := l) h1 h2.2 o hm
theorem Says.of2 {R : Type} {a : Ans R} {r : R} {ps : List Prop} (h : both a r ps) (hp : All ps) : Says a r := by
  obtain ⟨h1, h2⟩ := h
  cases a with
  | none => cases h1
  | some z =>
    obtain ⟨r', l⟩ := z
    simp only [ansP, Option.some.injEq, Prod.mk.injEq] at h1
    obtain ⟨rfl, rfl⟩ := h1
    exact ⟨l, rfl, holds_both hp h2⟩
theorem and_true' {p : Prop} : (p ∧ True) ↔ p := by simp

/-! What is told, one behind the other, to be compared as one. -/
def allP0 : List Ob → Prop
  | [] => True
  | .p q :: l => q ∧ allP0 l
  | .e s s' :: l => s = s' ∧ allP0 l
def allP1 : List Ob → Prop
  | [] => True
  | .p q :: l => q ∧ allP1 l
  | .e _ _ :: l => allP1 l
def told0 {R : Type} (a : Ans R) : Option (R × Prop) := match a with | some (r, l) => some (r, allP0 l) | none => none
def told1 {R : Type} (a : Ans R) : Option (R × Prop) := match a with | some (r, l) => some (r, allP1 l) | none => none
theorem allP0_holds : ∀ {l : List Ob}, allP0 l → ∀ o ∈ l, o.holds
  | [], _, o, h => by cases h
  | .p q :: l, h, o, hm => by
    rcases List.mem_cons.1 hm with rfl | hm
    · exact h.1
    · exact allP0_holds h.2 o hm
  | .e s s' :: l, h, o, hm => by
    rcases List.mem_cons.1 hm with rfl | hm
    · exact h.1
    · exact allP0_holds h.2 o hm
theorem allP1_holds : ∀ {l : List Ob}, allP1 l → lefts l = rights l → ∀ o ∈ l, o.holds
  | [], _, _, o, h => by cases h
  | .p q :: l, h, h2, o, hm => by
    rcases List.mem_cons.1 hm with rfl | hm
    · exact h.1
    · exact allP1_holds h.2 h2 o hm
  | .e s s' :: l, h, h2, o, hm => by
    simp only [lefts, rights, List.cons.injEq] at h2
    rcases List.mem_cons.1 hm with rfl | hm
    · exact h2.1
    · exact allP1_holds (l := l) h h2.2 o hm
theorem Says.k0 {R : Type} {a : Ans R} {r : R} {Q : Prop} (hq : Q) (e : told0 a = some (r, Q)) : Says a r := by
  cases a with
  | none => cases e
  | some z =>
    obtain ⟨r', l⟩ := z
    simp only [told0, Option.some.injEq, Prod.mk.injEq] at e
    obtain ⟨rfl, rfl⟩ := e
    exact ⟨l, rfl, allP0_holds hq⟩
theorem Says.k1 {R : Type} {a : Ans R} {r : R} {Q : Prop} (hq : Q) (e : told1 a = some (r, Q)) (h : ansL a = ansR a) : Says a r := by
  cases a with
  | none => cases e
  | some z =>
    obtain ⟨r', l⟩ := z
    simp only [told1, Option.some.injEq, Prod.mk.injEq] at e
    obtain ⟨rfl, rfl⟩ := e
    exact ⟨l, rfl, allP1_holds hq h⟩
theorem an_ {p q : Prop} (h : p) (k : q) : p ∧ q := ⟨h, k⟩
end Go.Ev

/- Contracts: what they may be turned to. No program in sight. -/
set_option linter.unusedVariables false
set_option linter.unusedSimpArgs false
set_option linter.unusedSectionVars false
namespace Go.Ev
variable [DLaw]

theorem Runs.args {P : Program} {f : FuncId} {as_ as' : List AV} {objs : List Obj} {rows : List Row} {res : Res} (h : Runs P f as_ objs rows res) (ha : ∀ x vals, RepAs x as' vals → RepAs x as_ vals) : Runs P f as' objs rows res :=
  ⟨h.1, h.2.1, h.2.2.1, fun x vals hgd h1 h2 h3 => h.2.2.2 x vals hgd h1 h2 (ha x vals h3)⟩
theorem Runs.split {P : Program} {f : FuncId} {as_ a1 a2 : List AV} {objs : List Obj} {rows : List Row} {res : Res} (h1 : Runs P f a1 objs rows res) (h2 : Runs P f a2 objs rows res)
    (ha : ∀ x vals, RepAs x as_ vals → RepAs x a1 vals ∨ RepAs x a2 vals) : Runs P f as_ objs rows res :=
  ⟨h1.1, h1.2.1, h1.2.2.1, fun x vals gd g1 g2 g3 => (ha x vals g3).elim (h1.2.2.2 x vals gd g1 g2) (h2.2.2.2 x vals gd g1 g2)⟩
theorem Runs.res {P : Program} {f : FuncId} {as_ : List AV} {objs : List Obj} {rows : List Row} {res res' : Res} (h : Runs P f as_ objs rows res) (hok : okOutRes res' = true) (hlen : objs.length ≤ res'.2.1.length)
    (hr : ∀ y v, Sto y (number 0 res.2.1) (number 0 (res.2.2.map .live)) → RepS y (tupOf res.1) v → ∃ z : Cx, z.w = y.w ∧ Ext y z ∧ z.g.ob = y.g.ob ∧ Sto z (number 0 res'.2.1) (number 0 (res'.2.2.map .live)) ∧ RepS z (tupOf res'.1) v) :
    Runs P f as_ objs rows res' :=
  ⟨h.1, hok, hlen, fun x vals hgd h1 h2 h3 => Calls.mono (h.2.2.2 x vals hgd h1 h2 h3) (by
    rintro e w' ⟨v, y, he, hw, hx, hpin, hs, hv⟩
    obtain ⟨z, hzw, hyz, hzo, hs2, hv2⟩ := hr y v hs hv
    exact ⟨v, z, he, hzw.trans hw, hx.trans hyz, fun o ho => by rw [hzo]; exact hpin o ho, hs2, hv2⟩)⟩

/-- A row that comes back is closed. -/
theorem Runs.close0 {P : Program} {f : FuncId} {as_ : List AV} {rows : List Row} {n : Nat} {t : Bool} {rw : Row} (h : Runs P f as_ [] rows ([.one (.own 0 0 n t)], [], [rw])) (hn : n = rw.len) :
    Runs P f as_ [] rows ([.one (.pv (rw.pv t))], [], []) := by
  refine h.res rfl (Nat.zero_le _) fun y v hs hv => ?_
  have hrb : lkup 0 (number 0 ([rw].map RowB.live)) = some (.live rw) := rfl
  obtain ⟨z, hzw, hzg, hx, hs', hrow⟩ := close_ok hs hrb
  refine ⟨z, hzw, hx, by rw [hzg], ?_, ⟨?_, ?_⟩⟩
  · exact ⟨fun o l hl => (by cases hl), fun r rw' hl => (by cases hl), fun r rw' hl => (by cases hl), fun o o' l l' hl => (by cases hl), fun r r' rw1 rw2 hl => (by cases hl), fun o r l rw' hl => (by cases hl), hs'.Slt, hs'.Blt, hs'.SB⟩
  · exact hv.1
  · have h1 := snap_any' (hv.2.mono hx (by rw [hzg]; exact G.Le.refl _)) hrow
    have : rw.cut 0 n = rw := by
      rw [hn]
      cases rw <;> simp [Row.cut, Row.len]
    rw [this] at h1
    exact h1

/-- Nothing of a kind: nil, or empty. -/
theorem rep_empty {x : Cx} {k : IntKind} {t : Bool} {v : Value} (h : RepA x (.one (.pv (.ints k [] t))) v) : RepA x (.one (.pv .nils)) v ∨ RepA x (.one (.pv .emp)) v := by
  obtain ⟨h1, h2⟩ := h
  simp only [RepC, RepP] at h2
  rcases h2 with ⟨h2, _⟩ | ⟨b, o, cap, sp, h2, _⟩
  · exact .inl ⟨h1, by simpa only [RepC, RepP] using h2⟩
  · exact .inr ⟨h1, by simp only [RepC, RepP]; exact ⟨b, o, cap, sp, h2⟩⟩
theorem rep_emptyR {x : Cx} {sz : Nat} {t : Bool} {v : Value} (h : RepA x (.one (.pv (.recs sz [] t))) v) : RepA x (.one (.pv .nils)) v ∨ RepA x (.one (.pv .emp)) v := by
  obtain ⟨h1, h2⟩ := h
  simp only [RepC, RepP] at h2
  rcases h2 with ⟨h2, _⟩ | ⟨b, o, cap, sp, h2, _⟩
  · exact .inl ⟨h1, by simpa only [RepC, RepP] using h2⟩
  · exact .inr ⟨h1, by simp only [RepC, RepP]; exact ⟨b, o, cap, sp, h2⟩⟩
theorem nils_ints {x : Cx} {k : IntKind} {t : Bool} {v : Value} (h : RepA x (.one (.pv .nils)) v) : RepA x (.one (.pv (.ints k [] t))) v := by
  obtain ⟨h1, h2⟩ := h
  simp only [RepC, RepP] at h2
  exact ⟨h1, by simp only [RepC, RepP]; exact .inl ⟨h2, rfl⟩⟩
/-- A nil slice as a row of its own that has no memory. -/
theorem Runs.void {P : Program} {f : FuncId} {as_ : List AV} {rw : Row} (h0 : rw.len = 0 ∧ 0 < rw.esz) (h : Runs P f as_ [] [] ([.one (.pv .nils)], [], [])) : Runs P f as_ [] [] ([.one (.own 0 0 0 false)], [], [rw]) := by
  refine h.res rfl (Nat.zero_le _) fun y v hs hv => ?_
  obtain ⟨h1, h2⟩ := hv
  simp only [RepC, RepP] at h2
  let z : Cx := { y with g := { ob := y.g.ob, rb := fun _ => 0, rs := fun _ => rw.esz, rc := fun _ => 0, rl := fun _ => 0, U := fun _ => True } }
  have hvir : Vir z 0 rw := ⟨rfl, rfl, h0.1, h0.1, h0.2⟩
  have one : ∀ {r : Nat} {rb : RowB}, lkup r (number 0 ([rw].map RowB.live)) = some rb → r = 0 ∧ rb = .live rw := by
    intro r rb hl
    simp only [number, List.map_cons, List.map_nil] at hl
    rw [lkup_cons] at hl
    split at hl
    · rename_i e; cases hl; exact ⟨e, rfl⟩
    · cases hl
  refine ⟨z, rfl, ⟨rfl, rfl, rfl, Nat.le_refl _, fun _ _ _ => rfl, fun _ h => .inl h, rfl, fun _ => Nat.le_refl _⟩, rfl, ⟨fun o l hl => (by cases hl), ?_, ?_, fun o o' l l' hl => (by cases hl), ?_, fun o r l rw' hl => (by cases hl), hs.Slt, hs.Blt, hs.SB⟩, h1, ?_⟩
  · intro r rw' hl
    obtain ⟨rfl, h3⟩ := one hl
    cases h3
    exact ⟨trivial, .inr hvir⟩
  · intro r rw' hl
    obtain ⟨_, h3⟩ := one hl
    cases h3
  · intro r r' rw1 rw2 hl hl' hv1
    obtain ⟨rfl, h3⟩ := one hl
    cases h3
    exact (hv1 hvir).elim
  · simp only [RepC]
    exact ⟨trivial, Nat.le_refl _, .inl ⟨h2, rfl⟩⟩
end Go.Ev

/- Numbers that are told as naturals. No program in sight. -/
set_option linter.unusedVariables false
set_option linter.unusedSimpArgs false
namespace Go.Ev

theorem pow_cast (n : Nat) : (2 : Int) ^ n = ((2 ^ n : Nat) : Int) := by simp
theorem wrap_nat {k : IntKind} (hs : k.signed = false) {a : Nat} (ha : a < 2 ^ k.bits) : k.wrap (a : Int) = (a : Int) := by
  unfold IntKind.wrap
  have h : (a : Int) % (2 ^ k.bits : Int) = (a : Int) := by
    rw [pow_cast]
    exact Int.emod_eq_of_lt (by omega) (by exact_mod_cast ha)
  simp [h, hs]
theorem ofInt_toNat {n a : Nat} (ha : a < 2 ^ n) : (BitVec.ofInt n (a : Int)).toNat = a := by
  rw [BitVec.ofInt_natCast, BitVec.toNat_ofNat, Nat.mod_eq_of_lt ha]
theorem ixor_nat {k : IntKind} (hs : k.signed = false) {a b : Nat} (ha : a < 2 ^ k.bits) (hb : b < 2 ^ k.bits) : ixor k a b = ((a ^^^ b : Nat) : Int) := by
  unfold ixor
  rw [BitVec.toNat_xor, ofInt_toNat ha, ofInt_toNat hb]
  exact wrap_nat hs (Nat.xor_lt_two_pow ha hb)
theorem iand_nat {k : IntKind} (hs : k.signed = false) {a b : Nat} (ha : a < 2 ^ k.bits) (hb : b < 2 ^ k.bits) : iand k a b = ((a &&& b : Nat) : Int) := by
  unfold iand
  rw [BitVec.toNat_and, ofInt_toNat ha, ofInt_toNat hb]
  exact wrap_nat hs (Nat.and_lt_two_pow a hb)
theorem ior_nat {k : IntKind} (hs : k.signed = false) {a b : Nat} (ha : a < 2 ^ k.bits) (hb : b < 2 ^ k.bits) : ior k a b = ((a ||| b : Nat) : Int) := by
  unfold ior
  rw [BitVec.toNat_or, ofInt_toNat ha, ofInt_toNat hb]
  exact wrap_nat hs (Nat.or_lt_two_pow ha hb)
theorem ishr_nat {k : IntKind} {a n : Nat} (hn : n ≤ k.bits) : ishr k a n = ((a / 2 ^ n : Nat) : Int) := by
  unfold ishr
  rw [Int.toNat_natCast, Nat.min_eq_left hn, pow_cast]
  exact Int.ofNat_fdiv a (2 ^ n) |>.symm
theorem ishl_nat {k : IntKind} (hs : k.signed = false) {a n : Nat} (hn : n ≤ k.bits) (h : a * 2 ^ n < 2 ^ k.bits) : ishl k a n = ((a * 2 ^ n : Nat) : Int) := by
  unfold ishl
  rw [Int.toNat_natCast, Nat.min_eq_left hn, pow_cast]
  have := wrap_nat hs h
  push_cast at this ⊢
  exact this
end Go.Ev

/- Contracts: arguments and results told anew; loops as iterated steps. No program in sight. -/
set_option linter.unusedSectionVars false
namespace Go.Ev
set_option linter.unusedVariables false
set_option linter.unusedSimpArgs false

/-! ### Told weaker -/
mutual
inductive WkP : PV → PV → Prop
  | eq {p q} : p = q → WkP p q
  | nilsI {k t} : WkP .nils (.ints k [] t)
  | nilsB {t} : WkP .nils (.bools [] t)
  | nilsR {sz t} : WkP .nils (.recs sz [] t)
  | empI {k} : WkP .emp (.ints k [] false)
  | empB : WkP .emp (.bools [] false)
  | empR {sz} : WkP .emp (.recs sz [] false)
  | ints {k l l' t} : l = l' → WkP (.ints k l t) (.ints k l' false)
  | bools {l l' t} : l = l' → WkP (.bools l t) (.bools l' false)
  | recs {sz l l' t} : WkPss l l' → WkP (.recs sz l t) (.recs sz l' false)
  | recsT {sz l l' t} : WkPss l l' → WkP (.recs sz l t) (.recs sz l' t)
  | imm {l l' off} : WkPs l l' → WkP (.imm l off) (.imm l' off)
inductive WkPs : List PV → List PV → Prop
  | nil : WkPs [] []
  | cons {p q l m} : WkP p q → WkPs l m → WkPs (p :: l) (q :: m)
inductive WkPss : List (List PV) → List (List PV) → Prop
  | eq {l m} : l = m → WkPss l m
  | nil : WkPss [] []
  | cons {p q l m} : WkPs p q → WkPss l m → WkPss (p :: l) (q :: m)
  | app {α : Type} {f : α → List PV} {a b l m} : WkPss a (List.map f l) → WkPss b (List.map f m) → WkPss (a ++ b) (List.map f (l ++ m))
end
def WkEs : List (List PV × List PV) → List (List PV × List PV) → Prop
  | [], [] => True
  | e :: l, d :: m => (e.1 = d.1 ∧ WkPs e.2 d.2) ∧ WkEs l m
  | _, _ => False
inductive WkH : HV → HV → Prop
  | eq {c d} : c = d → WkH c d
  | pv {a p q} : WkPs p q → WkH (.pv a p) (.pv a q)
@[reducible] def WkHs : List HV → List HV → Prop
  | [], [] => True
  | c :: cs, d :: ds => WkH c d ∧ WkHs cs ds
  | _, _ => False
inductive Wk : CV → CV → Prop
  | eq {c d} : c = d → Wk c d
  | pv {p q} : WkP p q → Wk (.pv p) (.pv q)
  | bor {p q} : WkP p q → Wk (.bor p) (.bor q)
  | own {r off n n' t} : n = n' → Wk (.own r off n t) (.own r off n' t)
  | ownF {r off n n' t} : n = n' → Wk (.own r off n t) (.own r off n' false)
  | maph {kk va ents ents' mk} : WkEs ents ents' → Wk (.maph kk va ents mk) (.maph kk va ents' [])
  | fn {f caps caps'} : WkHs caps caps' → Wk (.fn f caps) (.fn f caps')
@[reducible] def WkL : List CV → List CV → Prop
  | [], [] => True
  | c :: cs, d :: ds => Wk c d ∧ WkL cs ds
  | _, _ => False
@[reducible] def WkA : AV → AV → Prop
  | .one c, .one d => Wk c d
  | .agg l, .agg m => WkL l m
  | _, _ => False
@[reducible] def WkAs : List AV → List AV → Prop
  | [], [] => True
  | c :: cs, d :: ds => WkA c d ∧ WkAs cs ds
  | _, _ => False
@[reducible] def WkOs : List Obj → List Obj → Prop
  | [], [] => True
  | c :: cs, d :: ds => WkL c d ∧ WkOs cs ds
  | _, _ => False
@[reducible] def WkS : SV → SV → Prop
  | .av a, .av b => WkA a b
  | .tup l, .tup m => WkAs l m
  | _, _ => False
@[reducible] def WkN {α : Type} (R : α → α → Prop) : List (Nat × α) → List (Nat × α) → Prop
  | [], [] => True
  | c :: cs, d :: ds => (c.1 = d.1 ∧ R c.2 d.2) ∧ WkN R cs ds
  | _, _ => False
inductive WkRow : Row → Row → Prop
  | eq {r r'} : r = r' → WkRow r r'
  | recs {sz l l'} : WkPss l l' → WkRow (.recs sz l) (.recs sz l')
@[reducible] def WkRs : List Row → List Row → Prop
  | [], [] => True
  | c :: cs, d :: ds => WkRow c d ∧ WkRs cs ds
  | _, _ => False
@[reducible] def WkRB : RowB → RowB → Prop
  | .live r, .live r' => WkRow r r'
  | .froz r, .froz r' => WkRow r r'
  | .gone, .gone => True
  | _, _ => False
@[reducible] def WkSl (s : List (Nat × SV)) : List (Nat × SV) → Prop
  | [] => True
  | (t, v) :: l => (∃ u, lkup t s = some u ∧ WkS u v) ∧ WkSl s l
@[reducible] def WkSt (s s' : St) : Prop := WkSl s.slots s'.slots ∧ WkN WkL s.objs s'.objs ∧ WkN WkRB s.rows s'.rows

theorem SlAt.slack {w : World} {ok : Nat → Prop} {n : Nat} {t : Bool} {v : Value} {F : (Nat → Option Value) → Prop} (h : SlAt w ok n t v F) : SlAt w ok n false v F := by
  rcases h with h | ⟨b, o, cap, sp, h1, h2, h3, h4⟩
  · exact .inl h
  · exact .inr ⟨b, o, cap, sp, h1, h2, by simp, h4⟩
theorem repPss_app {w : World} {ok : Nat → Prop} {sz : Nat} : ∀ {a b : List (List PV)} {f : Nat → Option Value}, RepPss w ok sz (a ++ b) f ↔ RepPss w ok sz a f ∧ RepPss w ok sz b fun i => f (i + a.length * sz)
  | [], b, f => by simp [RepPss]
  | e :: a, b, f => by
    simp only [List.cons_append, RepPss, repPss_app (a := a), List.length_cons]
    have : (fun i => f (i + a.length * sz + sz)) = fun i => f (i + (a.length + 1) * sz) := by
      funext i; congr 1; rw [Nat.add_mul]; omega
    rw [this]
    constructor
    · rintro ⟨h1, h2, h3, h4⟩; exact ⟨⟨h1, h2, h3⟩, h4⟩
    · rintro ⟨⟨h1, h2, h3⟩, h4⟩; exact ⟨h1, h2, h3, h4⟩
mutual
theorem WkP.rep : ∀ {p q : PV}, WkP p q → ∀ {w : World} {ok okr : Nat → Prop} {v : Value}, RepP w ok okr p v → RepP w ok okr q v
  | _, _, .eq h, w, ok, okr, v, hp => by subst h; exact hp
  | _, _, .nilsI, w, ok, okr, v, hp => by simp only [RepP] at hp ⊢; exact .inl ⟨hp, rfl⟩
  | _, _, .nilsB, w, ok, okr, v, hp => by simp only [RepP] at hp ⊢; exact .inl ⟨hp, rfl⟩
  | _, _, .nilsR, w, ok, okr, v, hp => by simp only [RepP] at hp ⊢; exact .inl ⟨hp, rfl⟩
  | _, _, .empI, w, ok, okr, v, hp => by simp only [RepP] at hp ⊢; obtain ⟨b, o, cap, sp, hv⟩ := hp; exact .inr ⟨b, o, cap, sp, hv, Nat.zero_le _, by simp, fun h => absurd h (Nat.lt_irrefl _)⟩
  | _, _, .empB, w, ok, okr, v, hp => by simp only [RepP] at hp ⊢; obtain ⟨b, o, cap, sp, hv⟩ := hp; exact .inr ⟨b, o, cap, sp, hv, Nat.zero_le _, by simp, fun h => absurd h (Nat.lt_irrefl _)⟩
  | _, _, .empR, w, ok, okr, v, hp => by simp only [RepP] at hp ⊢; obtain ⟨b, o, cap, sp, hv⟩ := hp; exact .inr ⟨b, o, cap, sp, hv, Nat.zero_le _, by simp, fun h => absurd h (Nat.lt_irrefl _)⟩
  | _, _, .ints h, w, ok, okr, v, hp => by subst h; simp only [RepP] at hp ⊢; exact hp.slack
  | _, _, .bools h, w, ok, okr, v, hp => by subst h; simp only [RepP] at hp ⊢; exact hp.slack
  | _, _, .recs h, w, ok, okr, v, hp => by
    simp only [RepP] at hp ⊢
    rw [← WkPss.len h]
    exact hp.slack.mono (fun _ h => h) fun b o _ hF => WkPss.rep h hF
  | _, _, .recsT h, w, ok, okr, v, hp => by
    simp only [RepP] at hp ⊢
    rw [← WkPss.len h]
    exact hp.mono (fun _ h => h) fun b o _ hF => WkPss.rep h hF
  | _, _, .imm h, w, ok, okr, v, hp => by
    simp only [RepP] at hp ⊢
    obtain ⟨b, o, h1, h2, h3⟩ := hp
    exact ⟨b, o, h1, h2, WkPs.rep h h3⟩
theorem WkPs.rep : ∀ {l m : List PV}, WkPs l m → ∀ {w : World} {ok : Nat → Prop} {f : Nat → Option Value}, RepPs w ok l f → RepPs w ok m f
  | _, _, .nil, w, ok, f, h => h
  | _, _, .cons h1 h2, w, ok, f, h => by
    simp only [RepPs] at h ⊢
    obtain ⟨⟨v, hv, hp⟩, hs⟩ := h
    exact ⟨⟨v, hv, WkP.rep h1 hp⟩, WkPs.rep h2 hs⟩
theorem WkPss.rep : ∀ {l m : List (List PV)}, WkPss l m → ∀ {w : World} {ok : Nat → Prop} {sz : Nat} {f : Nat → Option Value}, RepPss w ok sz l f → RepPss w ok sz m f
  | _, _, .eq h, w, ok, sz, f, hp => by subst h; exact hp
  | _, _, .nil, w, ok, sz, f, hp => hp
  | _, _, .cons h1 h2, w, ok, sz, f, hp => by
    simp only [RepPss] at hp ⊢
    exact ⟨by rw [← WkPs.len h1]; exact hp.1, WkPs.rep h1 hp.2.1, WkPss.rep h2 hp.2.2⟩
  | _, _, .app h1 h2, w, ok, sz, f, hp => by
    rw [List.map_append]
    rw [repPss_app] at hp ⊢
    refine ⟨WkPss.rep h1 hp.1, ?_⟩
    rw [← WkPss.len h1]
    exact WkPss.rep h2 hp.2
theorem WkPs.len : ∀ {l m : List PV}, WkPs l m → l.length = m.length
  | _, _, .nil => rfl
  | _, _, .cons _ h2 => by simp [WkPs.len h2]
theorem WkPss.len : ∀ {l m : List (List PV)}, WkPss l m → l.length = m.length
  | _, _, .eq h => by rw [h]
  | _, _, .nil => rfl
  | _, _, .cons _ h2 => by simp [WkPss.len h2]
  | _, _, .app h1 h2 => by
    have := WkPss.len h1
    have := WkPss.len h2
    simp at *
    omega
end
theorem WkPs.refl : ∀ (l : List PV), WkPs l l
  | [] => .nil
  | _ :: l => .cons (.eq rfl) (WkPs.refl l)
theorem WkEs.refl : ∀ (l : List (List PV × List PV)), WkEs l l
  | [] => trivial
  | e :: l => ⟨⟨rfl, WkPs.refl _⟩, WkEs.refl l⟩
theorem WkEs.to {a b c : List (List PV × List PV)} (h : WkEs a b) (he : b = c) : WkEs a c := he ▸ h
theorem WkEs.set {k v v' : List PV} (hv : WkPs v v') : ∀ {a b : List (List PV × List PV)}, WkEs a b → WkEs (kset k v a) (kset k v' b)
  | [], [], _ => ⟨⟨rfl, hv⟩, trivial⟩
  | e :: l, d :: m, h => by
    obtain ⟨⟨h1, h2⟩, h3⟩ := h
    unfold kset
    rw [h1]
    cases keq k d.1 with
    | true => exact ⟨⟨rfl, hv⟩, h3⟩
    | false => exact ⟨⟨h1, h2⟩, WkEs.set hv h3⟩
theorem WkEs.del {k : List PV} : ∀ {a b : List (List PV × List PV)}, WkEs a b → WkEs (kdel k a) (kdel k b)
  | [], [], _ => trivial
  | e :: l, d :: m, h => by
    obtain ⟨⟨h1, h2⟩, h3⟩ := h
    unfold kdel
    rw [h1]
    cases keq k d.1 with
    | true => exact h3
    | false => exact ⟨⟨h1, h2⟩, WkEs.del h3⟩
theorem RepV.wk {w : World} {ok : Nat → Prop} {a : Bool} {p q : List PV} {v : Value} (h : RepV w ok a p v) (hw : WkPs p q) : RepV w ok a q v := by
  obtain ⟨cs, h1, h2, h3⟩ := h
  exact ⟨cs, h1, by rw [← hw.len]; exact h2, hw.rep h3⟩
theorem WkEs.rep {w : World} {ok : Nat → Prop} {kk : KK} {va : Bool} : ∀ {a b : List (List PV × List PV)} {es : List MapEntry}, WkEs a b → RepEs w ok kk va a es → RepEs w ok kk va b es
  | [], [], [], _, _ => trivial
  | e :: l, d :: m, x :: xs, h, hr => by
    obtain ⟨⟨h1, h2⟩, h3⟩ := h
    obtain ⟨⟨r1, r2, r3⟩, r4⟩ := hr
    exact ⟨⟨by rw [← h1]; exact r1, by rw [← h1]; exact r2, r3.wk h2⟩, WkEs.rep h3 r4⟩
/-! ### Maps told by their types -/
def mget {K V : Type} [DecidableEq K] (k : K) : List (K × V) → Option V
  | [] => none
  | e :: l => bif decide (k = e.1) then some e.2 else mget k l
def mset {K V : Type} [DecidableEq K] (k : K) (v : V) : List (K × V) → List (K × V)
  | [] => [(k, v)]
  | e :: l => bif decide (k = e.1) then (k, v) :: l else e :: mset k v l
def mdel {K V : Type} [DecidableEq K] (k : K) : List (K × V) → List (K × V)
  | [] => []
  | e :: l => bif decide (k = e.1) then l else e :: mdel k l
section
variable {K V : Type} [DecidableEq K] {f : K × V → List PV × List PV} {kf : K → List PV} {vf : V → List PV}
theorem kget_map (hf : ∀ e, f e = (kf e.1, vf e.2)) (hk : ∀ a b, keq (kf a) (kf b) = decide (a = b)) (k : K) : ∀ (m : List (K × V)), kget (kf k) (m.map f) = (mget k m).map vf
  | [] => rfl
  | e :: m => by
    simp only [List.map_cons, kget, mget, hf, hk]
    cases decide (k = e.1) with
    | true => rfl
    | false => exact kget_map hf hk k m
theorem kset_map (hf : ∀ e, f e = (kf e.1, vf e.2)) (hk : ∀ a b, keq (kf a) (kf b) = decide (a = b)) (k : K) (v : V) : ∀ (m : List (K × V)), kset (kf k) (vf v) (m.map f) = (mset k v m).map f
  | [] => by simp [kset, mset, hf]
  | e :: m => by
    simp only [List.map_cons, kset, mset, hf, hk]
    cases decide (k = e.1) with
    | true => simp [hf]
    | false => simp only [cond_false, List.map_cons, hf]; rw [kset_map hf hk k v m]
theorem kdel_map (hf : ∀ e, f e = (kf e.1, vf e.2)) (hk : ∀ a b, keq (kf a) (kf b) = decide (a = b)) (k : K) : ∀ (m : List (K × V)), kdel (kf k) (m.map f) = (mdel k m).map f
  | [] => rfl
  | e :: m => by
    simp only [List.map_cons, kdel, mdel, hf, hk]
    cases decide (k = e.1) with
    | true => rfl
    | false => simp only [cond_false, List.map_cons, hf]; rw [kdel_map hf hk k m]
end
theorem WkHs.rep {x : Cx} : ∀ {l m : List HV} {vs : List Value}, WkHs l m → RepHs x l vs → RepHs x m vs
  | [], [], _, _, h => h
  | c :: cs, d :: ds, [], _, h => h
  | c :: cs, d :: ds, v :: vs, hw, h => by
    refine ⟨?_, WkHs.rep hw.2 h.2⟩
    cases hw.1 with
    | eq he => subst he; exact h.1
    | pv hp => exact RepV.wk h.1 hp
theorem Wk.rep {c d : CV} (h : Wk c d) {x : Cx} {v : Value} (hc : RepC x c v) : RepC x d v := by
  cases h with
  | eq h => subst h; exact hc
  | pv h => exact h.rep hc
  | bor h => exact h.rep hc
  | own h => subst h; exact hc
  | ownF h =>
    subst h
    obtain ⟨h1, h2, h3⟩ := hc
    refine ⟨h1, h2, ?_⟩
    rcases h3 with h3 | ⟨b, o, cap, a1, a2, a3, a4⟩
    · exact .inl h3
    · exact .inr ⟨b, o, cap, a1, a2, by simp, a4⟩
  | maph h => exact hc.elim
  | fn h => obtain ⟨vs, hv, hl⟩ := hc; exact ⟨vs, hv, h.rep hl⟩
theorem SpecAt.wk {x : Cx} {b : Nat} {l m : List CV} (h : SpecAt x b l) (hw : WkL l m) : SpecAt x b m := by
  unfold SpecAt at h
  split at h
  · match m, hw with
    | [d], hw =>
      cases hw.1 with
      | eq he => subst he; exact h
      | maph he =>
        obtain ⟨es, clock, h1, h2, h3, h4, _⟩ := h
        exact ⟨es, clock, h1, he.rep h2, h3, h4, by simp⟩
  · match m, hw with
    | [d], hw =>
      cases hw.1 with
      | eq he => subst he; exact h
  · exact h.elim
theorem WkL.rep {x : Cx} : ∀ {l m : List CV} {vs : List Value}, WkL l m → RepL x l vs → RepL x m vs
  | [], [], _, _, h => h
  | c :: cs, d :: ds, [], _, h => h
  | c :: cs, d :: ds, v :: vs, hw, h => ⟨⟨h.1.1, hw.1.rep h.1.2⟩, WkL.rep hw.2 h.2⟩
theorem WkA.rep {x : Cx} {a b : AV} {v : Value} (hw : WkA a b) (h : RepA x a v) : RepA x b v := by
  cases a <;> cases b
  · exact ⟨h.1, Wk.rep hw h.2⟩
  · exact hw.elim
  · exact hw.elim
  · obtain ⟨cs, hv, hl⟩ := h; exact ⟨cs, hv, WkL.rep hw hl⟩
theorem WkAs.rep {x : Cx} : ∀ {l m : List AV} {vs : List Value}, WkAs l m → RepAs x l vs → RepAs x m vs
  | [], [], _, _, h => h
  | c :: cs, d :: ds, [], _, h => h
  | c :: cs, d :: ds, v :: vs, hw, h => ⟨WkA.rep hw.1 h.1, WkAs.rep hw.2 h.2⟩
theorem WkS.rep {x : Cx} {a b : SV} {v : Value} (hw : WkS a b) (h : RepS x a v) : RepS x b v := by
  cases a <;> cases b
  · exact WkA.rep hw h
  · exact hw.elim
  · exact hw.elim
  · obtain ⟨vs, hv, hl⟩ := h; exact ⟨vs, hv, WkAs.rep hw hl⟩
theorem WkAs.tup {l m : List AV} (h : WkAs l m) : WkS (tupOf l) (tupOf m) := by
  match l, m, h with
  | [], [], _ => trivial
  | [a], [b], h => exact h.1
  | a :: b :: l, c :: d :: m, h => exact h
theorem WkN.lkup {α : Type} {R : α → α → Prop} : ∀ {l m : List (Nat × α)} {n : Nat} {v : α}, WkN R l m → lkup n m = some v → ∃ u, lkup n l = some u ∧ R u v
  | [], [], n, v, _, h => by simp [Ev.lkup] at h
  | (i, a) :: l, (j, b) :: m, n, v, hw, h => by
    obtain ⟨⟨h1, h2⟩, h3⟩ := hw
    simp only at h1 h2
    subst h1
    rw [lkup_cons] at h ⊢
    split at h
    · rename_i he
      cases h
      exact ⟨a, by rw [if_pos he], h2⟩
    · rename_i he
      rw [if_neg he]
      exact WkN.lkup h3 h
theorem WkN.len {α : Type} {R : α → α → Prop} : ∀ {l m : List (Nat × α)}, WkN R l m → l.length = m.length
  | [], [], _ => rfl
  | _ :: _, _ :: _, h => by simp [WkN.len h.2]
theorem WkSl.lkup {s : List (Nat × SV)} : ∀ {m : List (Nat × SV)} {n : Nat} {v : SV}, WkSl s m → Ev.lkup n m = some v → ∃ u, Ev.lkup n s = some u ∧ WkS u v
  | [], n, v, _, h => by simp [Ev.lkup] at h
  | (j, b) :: m, n, v, hw, h => by
    obtain ⟨h1, h3⟩ := hw
    rw [lkup_cons] at h
    split at h
    · rename_i he
      cases h
      rw [he]; exact h1
    · exact WkSl.lkup h3 h
theorem WkOs.num : ∀ {l m : List Obj} {i : Nat}, WkOs l m → WkN WkL (number i l) (number i m)
  | [], [], _, _ => trivial
  | _ :: _, _ :: _, _, h => ⟨⟨rfl, h.1⟩, WkOs.num h.2⟩
theorem WkOs.len : ∀ {l m : List Obj}, WkOs l m → l.length = m.length
  | [], [], _ => rfl
  | _ :: _, _ :: _, h => by simp [WkOs.len h.2]
theorem wkRB_refl : ∀ (l : List (Nat × RowB)), WkN WkRB l l
  | [] => trivial
  | (_, r) :: l => ⟨⟨rfl, by cases r <;> first | trivial | exact .eq rfl⟩, wkRB_refl l⟩
theorem WkRs.num : ∀ {l m : List Row} {i : Nat}, WkRs l m → WkN WkRB (number i (l.map .live)) (number i (m.map .live))
  | [], [], _, _ => trivial
  | _ :: _, _ :: _, _, h => ⟨⟨rfl, h.1⟩, WkRs.num h.2⟩
theorem WkRs.len : ∀ {l m : List Row}, WkRs l m → l.length = m.length
  | [], [], _ => rfl
  | _ :: _, _ :: _, h => by simp [WkRs.len h.2]
theorem WkRow.esz {r r' : Row} (h : WkRow r r') : r'.esz = r.esz := by
  cases h with
  | eq h => rw [h]
  | recs h => rfl
theorem WkRow.len {r r' : Row} (h : WkRow r r') : r'.len = r.len := by
  cases h with
  | eq h => rw [h]
  | recs h => exact (WkPss.len h).symm
theorem WkRow.is {r r' : Row} (h : WkRow r r') {w : World} {ok : Nat → Prop} {f : Nat → Option Value} (hr : RowIs w ok r f) : RowIs w ok r' f := by
  cases h with
  | eq h => subst h; exact hr
  | recs h => exact WkPss.rep h hr
theorem WkRow.at {x : Cx} {n : Nat} {r r' : Row} (h : WkRow r r') (hr : RowAt x n r) : RowAt x n r' := by
  obtain ⟨c, e, fr, h1, h2, h3, h4, h5, h6, h7⟩ := hr
  exact ⟨c, e, fr, h1, h2, h3, by rw [h.esz]; exact h4, by rw [h.len]; exact h5, by rw [h.len, h.esz]; exact h6, h.is h7⟩
theorem WkRow.vir {x : Cx} {n : Nat} {r r' : Row} (h : WkRow r r') : Vir x n r' ↔ Vir x n r := by
  unfold Vir
  rw [h.len, h.esz]
theorem el_upd {α : Type} {pv : α → List PV} {n : Nat} (hn : ∀ e, (pv e).length = n) (l : List α) (i : Nat) (e : α) : (l.map pv).set i (setL ((l.map pv).getD i []) 0 (pv e)) = (l.set i e).map pv := by
  have gen : ∀ (a b : List PV) (k : Nat), b.length + k = a.length → setL a k b = a.take k ++ b := by
    intro a b
    induction b generalizing a with
    | nil => intro k hk; simp [setL, List.take_of_length_le (show a.length ≤ k by simp at hk; omega)]
    | cons c b ih =>
      intro k hk
      simp only [setL]
      rw [ih (a.set k c) (k + 1) (by simp at hk ⊢; omega)]
      have hk' : k < a.length := by simp at hk; omega
      rw [List.take_set, List.take_succ_eq_append_getElem hk']
      rw [List.set_append_right _ _ (by rw [List.length_take]; omega)]
      simp [List.length_take, Nat.min_eq_left (Nat.le_of_lt hk')]
  rw [List.map_set]
  rcases Nat.lt_or_ge i l.length with h | h
  · congr 1
    have : (l.map pv).getD i [] = pv l[i] := by simp [List.getD, h]
    rw [this, gen _ _ 0 (by simp [hn])]
    simp
  · rw [List.set_eq_of_length_le (by simpa using h), List.set_eq_of_length_le (by simpa using h)]
variable [DLaw]
theorem Sto.wk {x : Cx} {objs objs' : List (Nat × Obj)} {rows rows' : List (Nat × RowB)} (h : Sto x objs rows) (ho : WkN WkL objs objs') (hr : WkN WkRB rows rows') : Sto x objs' rows' := by
  have live : ∀ {r rw}, lkup r rows' = some (.live rw) → ∃ rw0, lkup r rows = some (.live rw0) ∧ WkRow rw0 rw := by
    intro r rw hl
    obtain ⟨u, h1, h2⟩ := hr.lkup hl
    cases u with
    | live r => exact ⟨_, h1, h2⟩
    | froz => exact h2.elim
    | gone => exact h2.elim
  have froz : ∀ {r rw}, lkup r rows' = some (.froz rw) → ∃ rw0, lkup r rows = some (.froz rw0) ∧ WkRow rw0 rw := by
    intro r rw hl
    obtain ⟨u, h1, h2⟩ := hr.lkup hl
    cases u with
    | froz r => exact ⟨_, h1, h2⟩
    | live => exact h2.elim
    | gone => exact h2.elim
  refine ⟨?_, ?_, ?_, ?_, ?_, ?_, h.Slt, h.Blt, h.SB⟩
  · intro o l hl
    obtain ⟨u, h1, h2⟩ := ho.lkup hl
    obtain ⟨hu, hS, hO⟩ := h.obj o u h1
    rcases hO with ⟨c, e, fr, hh, hn, hL⟩ | hO
    · exact ⟨hu, hS, .inl ⟨c, e, fr, hh, hn, h2.rep hL⟩⟩
    · exact ⟨hu, hS, .inr (hO.wk h2)⟩
  · intro r rw hl
    obtain ⟨rw0, h1, h2⟩ := live hl
    obtain ⟨hu, h3⟩ := h.live r rw0 h1
    exact ⟨hu, h3.imp (fun ⟨a, b⟩ => ⟨a, h2.at b⟩) h2.vir.2⟩
  · intro r rw hl
    obtain ⟨rw0, h1, h2⟩ := froz hl
    obtain ⟨hu, h3⟩ := h.froz r rw0 h1
    exact ⟨hu, h3.imp (fun ⟨a, b⟩ => ⟨a, h2.at b⟩) h2.vir.2⟩
  · intro o o' l l' h1 h2
    obtain ⟨u, h3, _⟩ := ho.lkup h1
    obtain ⟨u', h4, _⟩ := ho.lkup h2
    exact h.injO o o' u u' h3 h4
  · intro r r' a b h1 h2 hv hv'
    obtain ⟨a0, h3, h4⟩ := live h1
    obtain ⟨b0, h5, h6⟩ := live h2
    exact h.injR r r' a0 b0 h3 h5 (fun h' => hv (h4.vir.2 h')) (fun h' => hv' (h6.vir.2 h'))
  · intro o r l rw h1 h2 hv
    obtain ⟨u, h3, _⟩ := ho.lkup h1
    obtain ⟨a0, h4, h5⟩ := live h2
    exact h.injX o r u a0 h3 h4 (fun h' => hv (h5.vir.2 h'))
theorem Tidied.wk {V : Env} {x : Cx} {s s' : St} {a : Act} (h : Tidied V x s a) (hw : WkSt s s') : Tidied V x s' a := by
  refine ⟨⟨h.sto.wk hw.2.1 hw.2.2, ?_, h.nt, h.df, h.pin, h.gd⟩, fun n hn => ?_⟩
  · intro t v hl
    obtain ⟨u, h1, h2⟩ := WkSl.lkup hw.1 hl
    obtain ⟨h3, h4⟩ := h.sl t u h1
    exact ⟨h3, h2.rep h4⟩
  · rw [← hw.2.1.len, ← hw.2.2.len]; exact h.low n hn

/-! ### Contracts told anew -/
theorem Runs.res' {P : Program} {f : FuncId} {as_ : List AV} {objs : List Obj} {rows : List Row} {res res' : Res} (h : Runs P f as_ objs rows res) (hok : okOutRes res' = true) (hlen : objs.length ≤ res'.2.1.length)
    (hr : ∀ y v, Sto y (number 0 res.2.1) (number 0 (res.2.2.map .live)) → RepS y (tupOf res.1) v → ∃ z : Cx, z.w = y.w ∧ Ext y z ∧ (∀ o, o < objs.length → z.g.ob o = y.g.ob o) ∧ Sto z (number 0 res'.2.1) (number 0 (res'.2.2.map .live)) ∧ RepS z (tupOf res'.1) v) :
    Runs P f as_ objs rows res' :=
  ⟨h.1, hok, hlen, fun x vals hgd h1 h2 h3 => Calls.mono (h.2.2.2 x vals hgd h1 h2 h3) (by
    rintro e w' ⟨v, y, he, hw, hx, hpin, hs, hv⟩
    obtain ⟨z, hzw, hyz, hzo, hs2, hv2⟩ := hr y v hs hv
    exact ⟨v, z, he, hzw.trans hw, hx.trans hyz, fun o ho => by rw [hzo o ho]; exact hpin o ho, hs2, hv2⟩)⟩
/-- What is handed over says more. -/
theorem Runs.coe {P : Program} {f : FuncId} {as_ as' : List AV} {objs objs' : List Obj} {rows rows' : List Row} {res : Res} (h : Runs P f as_ objs rows res) (ha : WkAs as' as_) (ho : WkOs objs' objs) (hr : WkRs rows' rows) : Runs P f as' objs' rows' res := by
  have hl := ho.len
  have hl2 := hr.len
  refine ⟨h.1, h.2.1, by rw [hl]; exact h.2.2.1, fun x vals hgd h1 h2 h3 => ?_⟩
  have := h.2.2.2 x vals hgd (h1.wk ho.num hr.num) (fun n hn => by rw [← hl, ← hl2]; exact h2 n hn) (ha.rep h3)
  rw [hl]
  exact this
/-- What comes back is told weaker. -/
theorem Runs.out {P : Program} {f : FuncId} {as_ : List AV} {objs : List Obj} {rows : List Row} {as1 as2 : List AV} {ob1 ob2 : List Obj} {rw1 rw2 : List Row} (h : Runs P f as_ objs rows (as1, ob1, rw1)) (ha : WkAs as1 as2) (ho : WkOs ob1 ob2) (hr : WkRs rw1 rw2) (hok : okOutRes (as2, ob2, rw2) = true) : Runs P f as_ objs rows (as2, ob2, rw2) := by
  have hl := h.2.2.1
  refine h.res' hok (by show _ ≤ ob2.length; rw [← ho.len]; exact hl) fun y v hs hv => ⟨y, rfl, Ext.refl y, fun _ _ => rfl, hs.wk ho.num hr.num, ha.tup.rep hv⟩

/-- Rows that are closed. -/
def shutRows : List Nat → List (Nat × RowB) → List (Nat × RowB)
  | [], rows => rows
  | r :: rs, rows => match lkup r rows with
    | some (.live rw) => shutRows rs ((r, .froz rw) :: rows)
    | _ => shutRows rs rows
theorem shutRows_ok {objs : List (Nat × Obj)} : ∀ {rs : List Nat} {rows : List (Nat × RowB)} {x : Cx}, Sto x objs rows → ∃ y : Cx, y.w = x.w ∧ y.g = x.g ∧ Ext x y ∧ Sto y objs (shutRows rs rows)
  | [], rows, x, h => ⟨x, rfl, rfl, Ext.refl x, h⟩
  | r :: rs, rows, x, h => by
    unfold shutRows
    split
    · rename_i rw hl
      obtain ⟨y, h1, h2, h3, h4, _⟩ := close_ok h hl
      obtain ⟨z, h5, h6, h7, h8⟩ := shutRows_ok (rs := rs) h4
      exact ⟨z, h5.trans h1, h6.trans h2, h3.trans h7, h8⟩
    · exact shutRows_ok h
def shutRes (m : Nat) (rs : List Nat) (res : Res) : Option Res :=
  let s : St := ⟨[], number 0 res.2.1, shutRows rs (number 0 (res.2.2.map .live))⟩
  match part (upTo 0 m) [] (res.1.flatMap AV.cells) s with
  | some p => bif okOutRes (res.1.map (AV.map (p.f s.rows)), p.objs, p.rows) && Nat.ble m p.objs.length then some (res.1.map (AV.map (p.f s.rows)), p.objs, p.rows) else none
  | none => none
theorem Runs.shut {P : Program} {f : FuncId} {as_ : List AV} {objs : List Obj} {rows : List Row} {res res' : Res} (h : Runs P f as_ objs rows res) (rs : List Nat) (hc : shutRes objs.length rs res = some res') : Runs P f as_ objs rows res' := by
  unfold shutRes at hc
  dsimp only at hc
  split at hc
  · rename_i p hp
    cases hb : (okOutRes (res.1.map (AV.map (p.f (shutRows rs (number 0 (res.2.2.map .live))))), p.objs, p.rows) && Nat.ble objs.length p.objs.length) with
    | false => rw [hb] at hc; cases hc
    | true =>
      rw [hb] at hc
      simp only [cond_true, Option.some.injEq] at hc
      simp only [Bool.and_eq_true] at hb
      subst hc
      refine h.res' hb.1 (Nat.le_of_ble_eq_true hb.2) fun y v hs hv => ?_
      obtain ⟨z, h1, h2, h3, h4⟩ := shutRows_ok (rs := rs) hs
      have hok : PartOk z ⟨[], number 0 res.2.1, shutRows rs (number 0 (res.2.2.map .live))⟩ p z.B := part_ok h4 hp (fun b hb => .inl hb)
      refine ⟨p.cx z z.B, h1, h3.trans ⟨rfl, rfl, rfl, Nat.le_refl _, fun _ _ _ => rfl, fun b hb => .inl (hok.Sx b hb), rfl, fun _ => Nat.le_refl _⟩, fun o ho => ?_, hok.sto, ?_⟩
      · show z.g.ob (p.os.getD o 0) = _
        rw [getD_of (part_pins hp ho), h2]
      · have hv2 : RepS z (tupOf res.1) v := hv.mono h3 (by rw [h2]; exact G.Le.refl _)
        have := repS_part hok hv2
        have e : SV.map (p.f (shutRows rs (number 0 (res.2.2.map .live)))) (tupOf res.1) = tupOf (res.1.map (AV.map (p.f (shutRows rs (number 0 (res.2.2.map .live)))))) := by
          match res.1 with
          | [] => rfl
          | [a] => rfl
          | a :: b :: l => rfl
        rw [← e]
        exact this
  · cases hc

/-! ### Loops as iterated steps -/
section
variable {S R : Type}
def iterL (step : S → Option (S ⊕ R)) : Nat → S → Option R
  | 0, _ => none
  | n + 1, s => match step s with
    | none => none
    | some (.inl s') => iterL step n s'
    | some (.inr r) => some r
theorem iterL_more {step : S → Option (S ⊕ R)} : ∀ {n m : Nat} {s : S} {r : R}, iterL step n s = some r → n ≤ m → iterL step m s = some r
  | 0, _, s, r, h, _ => by cases h
  | n + 1, 0, s, r, h, hm => by omega
  | n + 1, m + 1, s, r, h, hm => by
    simp only [iterL] at h ⊢
    split at h
    · cases h
    · exact iterL_more h (by omega)
    · exact h
open Classical in
noncomputable def runL (step : S → Option (S ⊕ R)) (s : S) : Option R :=
  if h : ∃ n r, iterL step n s = some r then some h.choose_spec.choose else none
theorem runL_some {step : S → Option (S ⊕ R)} {s : S} {r : R} : runL step s = some r ↔ ∃ n, iterL step n s = some r := by
  unfold runL
  constructor
  · intro h
    split at h
    · rename_i hx
      have h1 := hx.choose_spec.choose_spec
      cases h
      exact ⟨_, h1⟩
    · cases h
  · rintro ⟨n, h⟩
    have hx : ∃ n r, iterL step n s = some r := ⟨n, r, h⟩
    rw [dif_pos hx]
    have h1 := hx.choose_spec.choose_spec
    have h2 := iterL_more h1 (Nat.le_max_left _ n)
    have h3 := iterL_more h (Nat.le_max_right hx.choose n)
    rw [h2] at h3
    exact h3
theorem runL_next {step : S → Option (S ⊕ R)} {s s' : S} (h : step s = some (.inl s')) : runL step s = runL step s' := by
  apply Option.ext
  intro r
  rw [runL_some, runL_some]
  constructor
  · rintro ⟨n, hn⟩
    cases n with
    | zero => cases hn
    | succ n => simp only [iterL, h] at hn; exact ⟨n, hn⟩
  · rintro ⟨n, hn⟩
    exact ⟨n + 1, by simp only [iterL, h]; exact hn⟩
theorem runL_done {step : S → Option (S ⊕ R)} {s : S} {r : R} (h : step s = some (.inr r)) : runL step s = some r :=
  runL_some.2 ⟨1, by simp only [iterL, h]⟩
theorem runL_same {step : S → Option (S ⊕ R)} {s s' : S} (h : step s = step s') : runL step s = runL step s' := by
  cases hs : step s with
  | none =>
    rw [hs] at h
    apply Option.ext
    intro q
    rw [runL_some, runL_some]
    constructor
    · rintro ⟨n, hn⟩
      cases n with
      | zero => cases hn
      | succ n => simp only [iterL, hs] at hn; cases hn
    · rintro ⟨n, hn⟩
      cases n with
      | zero => cases hn
      | succ n => simp only [iterL, ← h] at hn; cases hn
  | some q =>
    rw [hs] at h
    cases q with
    | inl s => rw [runL_next hs, runL_next h.symm]
    | inr s => rw [runL_done hs, runL_done h.symm]
/-- What a round is. -/
def RoundOk (P : Program) (C : Cfg) (f m : Nat) (c : Code) (st : S → St) (ex : R → Ex × St) (s : S) : S ⊕ R → Prop
  | .inl s' => ∃ sc s1, Says (evRound (lEnv P C f m) c (st s) sc) (.normal, s1) ∧ WkSt s1 (st s')
  | .inr r => ∃ sc s1, Says (evRound (lEnv P C f m) c (st s) sc) ((ex r).1, s1) ∧ WkSt s1 (ex r).2
theorem LRuns.coe {P : Program} {nt m : Nat} {c : Code} {s0 s s' : St} {e : Ex} (h : LRuns P nt m c s e s') (hw : WkSt s0 s) : LRuns P nt m c s0 e s' := by
  cases c with
  | loop c =>
    obtain ⟨n, hn⟩ := h
    exact ⟨n, fun V h1 h2 h3 x a hf => hn V h1 h2 h3 x a (hf.wk hw)⟩
  | scope c =>
    obtain ⟨l, n, hl, hn⟩ := h
    exact ⟨l, n, hl, fun V h1 h2 h3 x a hf => hn V h1 h2 h3 x a (hf.wk hw)⟩
  | _ => exact fun V h1 h2 h3 x a hf => h V h1 h2 h3 x a (hf.wk hw)
theorem LRuns.out {P : Program} {nt m : Nat} {c : Code} {s s1 s' : St} {e : Ex} (h : LRuns P nt m c s e s1) (hw : WkSt s1 s') : LRuns P nt m c s e s' := by
  have post : ∀ {V : Env} {x : Cx} {e' : Exit} {a : Act} {w : World}, Post V x e s1 e' a w → Post V x e s' e' a w := by
    rintro V x e' a w ⟨h1, y, h2, h3, h4⟩
    exact ⟨h1, y, h2, h3, h4.wk hw⟩
  cases c with
  | loop c =>
    obtain ⟨n, hn⟩ := h
    exact ⟨n, fun V h1 h2 h3 x a hf => rounds_mono (fun _ _ _ => post) (hn V h1 h2 h3 x a hf)⟩
  | scope c =>
    obtain ⟨l, n, hl, hn⟩ := h
    exact ⟨l, n, hl, fun V h1 h2 h3 x a hf => jumps_mono (fun _ _ _ => post) (hn V h1 h2 h3 x a hf)⟩
  | _ => exact fun V h1 h2 h3 x a hf => Code.wp_mono (fun _ _ _ => post) (h V h1 h2 h3 x a hf)
/-- What a pass from a scope's label is. -/
def RoundOkS (P : Program) (C : Cfg) (f m : Nat) (c : Code) (st : S → St) (ex : R → Ex × St) (s : S) : S ⊕ R → Prop
  | .inl s' => ∃ sc s1, Says (evRoundS (lEnv P C f m) c (st s) sc) (.normal, s1) ∧ WkSt s1 (st s')
  | .inr r => ∃ sc s1, Says (evRoundS (lEnv P C f m) c (st s) sc) ((ex r).1, s1) ∧ WkSt s1 (ex r).2
theorem scope_iter {P : Program} {C : Cfg} {f m : Nat} {c : Code} {step : S → Option (S ⊕ R)} {st : S → St} {ex : R → Ex × St} (hok : ∀ s z, step s = some z → RoundOkS P C f m c st ex s z) (hne : ∀ r, (ex r).1 ≠ .normal) :
    ∀ (n : Nat) (s : S) (r : R), iterL step n s = some r → LRuns P (lEnv P C f m).nt m (.scope c) (st s) (ex r).1 (ex r).2
  | 0, s, r, h => by cases h
  | n + 1, s, r, h => by
    simp only [iterL] at h
    split at h
    · cases h
    · rename_i s' hs
      obtain ⟨sc, s1, h1, h2⟩ := hok _ _ hs
      exact scope_next h1 ((scope_iter hok hne n s' r h).coe h2)
    · rename_i r' hs
      cases h
      obtain ⟨sc, s1, h1, h2⟩ := hok _ _ hs
      exact (scope_last h1 (hne r)).out h2
theorem scope_run {P : Program} {C : Cfg} {f m : Nat} {c : Code} {step : S → Option (S ⊕ R)} {st : S → St} {ex : R → Ex × St} {s : S} {r : R} (h : runL step s = some r) (hok : ∀ s z, step s = some z → RoundOkS P C f m c st ex s z) (hne : ∀ r, (ex r).1 ≠ .normal) :
    LRuns P (lEnv P C f m).nt m (.scope c) (st s) (ex r).1 (ex r).2 := by
  obtain ⟨n, hn⟩ := runL_some.1 h
  exact scope_iter hok hne n s r hn
theorem piece_run {P : Program} {C : Cfg} {f m t : Nat} {c d : Code} {s s1 s' : St} {sc : List Ev} {e : Ex} (h : Says (evPieceT (lEnv P C f m) t c d s sc) (e, s1)) (hw : WkSt s1 s') : LRuns P (lEnv P C f m).nt m (.cond (.tmp t) c d) s e s' :=
  (piece_ok h).out hw
theorem loop_iter {P : Program} {C : Cfg} {f m : Nat} {c : Code} {step : S → Option (S ⊕ R)} {st : S → St} {ex : R → Ex × St} (hok : ∀ s z, step s = some z → RoundOk P C f m c st ex s z) (hne : ∀ r, (ex r).1 ≠ .normal) :
    ∀ (n : Nat) (s : S) (r : R), iterL step n s = some r → LRuns P (lEnv P C f m).nt m (.loop c) (st s) (ex r).1 (ex r).2
  | 0, s, r, h => by cases h
  | n + 1, s, r, h => by
    simp only [iterL] at h
    split at h
    · cases h
    · rename_i s' hs
      obtain ⟨sc, s1, h1, h2⟩ := hok _ _ hs
      exact loop_next h1 ((loop_iter hok hne n s' r h).coe h2)
    · rename_i r' hs
      cases h
      obtain ⟨sc, s1, h1, h2⟩ := hok _ _ hs
      exact (loop_last h1 (hne r)).out h2
theorem loop_run {P : Program} {C : Cfg} {f m : Nat} {c : Code} {step : S → Option (S ⊕ R)} {st : S → St} {ex : R → Ex × St} {s : S} {r : R} (h : runL step s = some r) (hok : ∀ s z, step s = some z → RoundOk P C f m c st ex s z) (hne : ∀ r, (ex r).1 ≠ .normal) :
    LRuns P (lEnv P C f m).nt m (.loop c) (st s) (ex r).1 (ex r).2 := by
  obtain ⟨n, hn⟩ := runL_some.1 h
  exact loop_iter hok hne n s r hn
end

/-! ### Taking an answer apart -/
theorem need_of {α : Type} {b : Bool} {x : Option α} {r : α} (h : (bif b then x else none) = some r) : b = true ∧ x = some r := by
  cases b
  · cases h
  · exact ⟨rfl, h⟩
theorem cond_of {α : Type} {b : Bool} {x y : Option α} {r : α} (h : (bif b then x else y) = some r) : (b = true ∧ x = some r) ∨ (b = false ∧ y = some r) := by
  cases b
  · exact .inr ⟨rfl, h⟩
  · exact .inl ⟨rfl, h⟩
theorem bind_of {α β : Type} {o : Option β} {k : β → Option α} {r : α} (h : o.bind k = some r) : ∃ z, o = some z ∧ k z = some r := by
  cases o
  · cases h
  · exact ⟨_, rfl, h⟩
theorem some_of {α : Type} {x r : α} (h : some x = some r) : x = r := Option.some.inj h
theorem not_of {b : Bool} (h : b = false) : (!b) = true := by rw [h]; rfl

/-! ### A state told as it is -/
def nodupK {α : Type} : List (Nat × α) → Bool
  | [] => true
  | (k, _) :: l => (match lkup k l with | none => true | some _ => false) && nodupK l
theorem lkup_nodup {α : Type} : ∀ {l : List (Nat × α)} {k : Nat} {v : α}, nodupK l = true → (k, v) ∈ l → lkup k l = some v
  | [], k, v, h, hm => by cases hm
  | (j, u) :: l, k, v, h, hm => by
    simp only [nodupK, Bool.and_eq_true] at h
    rw [lkup_cons]
    rcases List.mem_cons.1 hm with he | hm
    · cases he; rw [if_pos rfl]
    · have h2 := lkup_nodup h.2 hm
      have hne : k ≠ j := by
        rintro rfl
        rw [h2] at h
        exact absurd h.1 (by simp)
      rw [if_neg hne]; exact h2
theorem WkL.refl : ∀ (l : List CV), WkL l l
  | [] => trivial
  | c :: l => ⟨.eq rfl, WkL.refl l⟩
theorem WkA.refl (a : AV) : WkA a a := by
  cases a with
  | one c => exact .eq rfl
  | agg l => exact WkL.refl l
theorem WkAs.refl : ∀ (l : List AV), WkAs l l
  | [] => trivial
  | a :: l => ⟨WkA.refl a, WkAs.refl l⟩
theorem WkS.refl (v : SV) : WkS v v := by
  cases v with
  | av a => exact WkA.refl a
  | tup l => exact WkAs.refl l
theorem WkN.refl {α : Type} {R : α → α → Prop} (hR : ∀ x, R x x) : ∀ (l : List (Nat × α)), WkN R l l
  | [] => trivial
  | c :: l => ⟨⟨rfl, hR c.2⟩, WkN.refl hR l⟩
theorem WkRB.refl (r : RowB) : WkRB r r := by cases r <;> first | exact .eq rfl | trivial
theorem wkSl_of {S : List (Nat × SV)} : ∀ {L : List (Nat × SV)}, (∀ t v, (t, v) ∈ L → lkup t S = some v) → WkSl S L
  | [], _ => trivial
  | (t, v) :: L, h => ⟨⟨v, h t v (by simp), WkS.refl v⟩, wkSl_of fun t' v' hm => h t' v' (List.mem_cons_of_mem _ hm)⟩
theorem WkSt.same {s : St} (h : nodupK s.slots = true) : WkSt s s :=
  ⟨wkSl_of fun t v hm => lkup_nodup h hm, WkN.refl WkL.refl _, WkN.refl WkRB.refl _⟩
/-! ### A script and what is told along it, as one -/
structure Tell (sc : List Ev) (Q : Prop) : Prop where
  pf : Q
@[reducible] def Tell.ev {sc : List Ev} {Q : Prop} (_ : Tell sc Q) : List Ev := sc
theorem tN : Tell [] True := ⟨trivial⟩
theorem tO {sc : List Ev} {p Q : Prop} (h : p) (t : Tell sc Q) : Tell sc (p ∧ Q) := ⟨h, t.pf⟩
theorem tE {sc : List Ev} {Q : Prop} (e : Ev) (t : Tell sc Q) : Tell (e :: sc) Q := ⟨t.pf⟩
theorem tT {sc : List Ev} {p Q : Prop} (h : p) (t : Tell sc Q) : Tell (.br true :: sc) (p ∧ Q) := ⟨h, t.pf⟩
theorem tF {sc : List Ev} {p Q : Prop} (h : p) (t : Tell sc Q) : Tell (.br false :: sc) (p ∧ Q) := ⟨h, t.pf⟩
theorem tR {sc : List Ev} {Q : Prop} {P : Program} {f : FuncId} {as_ : List AV} {objs : List Obj} {rows : List Row} {res : Res} (h : Runs P f as_ objs rows res) (t : Tell sc Q) : Tell (.res res :: sc) (Runs P f as_ objs rows res ∧ Q) := ⟨h, t.pf⟩
theorem tL {sc : List Ev} {Q : Prop} {P : Program} {nt m : Nat} {c : Code} {s s' : St} {e : Ex} (h : LRuns P nt m c s e s') (t : Tell sc Q) : Tell (.lp e s' :: sc) (LRuns P nt m c s e s' ∧ Q) := ⟨h, t.pf⟩
theorem tI {sc : List Ev} {Q : Prop} {P : Program} {f : FuncId} {as_ : List AV} {objs : List Obj} {rows : List Row} {res : Res} (h : RunsI P f as_ objs rows res) (t : Tell sc Q) : Tell (.el [] :: .res res :: sc) (RunsI P f as_ objs rows res ∧ Q) := ⟨h, t.pf⟩
theorem WkPss.take : ∀ {l m : List (List PV)}, WkPss l m → ∀ n : Nat, WkPss (l.take n) (m.take n)
  | _, _, .eq h, n => .eq (by rw [h])
  | _, _, .nil, n => by rw [List.take_nil]; exact .nil
  | _, _, .cons _ _, 0 => .nil
  | _, _, .cons h1 h2, n + 1 => .cons h1 (WkPss.take h2 n)
  | _, _, .app (f := f) (a := a) (b := b) (l := l) (m := m) h1 h2, n => by
    have hl := WkPss.len h1
    rw [List.length_map] at hl
    have g1 := WkPss.take h1 n
    have g2 := WkPss.take h2 (n - a.length)
    rw [← List.map_take] at g1 g2
    rw [List.take_append, ← List.map_take, List.take_append, ← hl]
    exact .app g1 g2
theorem WkPss.takeM {α : Type} {f : α → List PV} {l : List (List PV)} {m : List α} {n : Nat} (h : WkPss l (List.map f m)) : WkPss (List.take n l) (List.map f (List.take n m)) := by
  rw [List.map_take]
  exact h.take n
end Go.Ev

/- A contract at the top: nothing is the caller's own. No program in sight. -/
set_option linter.unusedVariables false
set_option linter.unusedSimpArgs false
set_option linter.unusedSectionVars false
namespace Go.Ev
variable [DLaw]
open Go.RowKit (Below)

def topG : G := { ob := fun _ => 0, rb := fun _ => 0, rs := fun _ => 0, rc := fun _ => 0, rl := fun _ => 0, U := fun _ => False }
def topCx (W : World) : Cx := { w := W, g := topG, S := fun _ => False, B := fun _ => False }
theorem top_sto (W : World) : Sto (topCx W) [] [] :=
  ⟨fun _ _ h => (by cases h), fun _ _ h => (by cases h), fun _ _ h => (by cases h), fun _ _ _ _ h => (by cases h), fun _ _ _ _ h => (by cases h), fun _ _ _ _ h => (by cases h), fun _ h => h.elim, fun _ h => h.elim, fun _ h => h.elim⟩
theorem gd_none {P : Program} {x : Cx} (h : (tabs.all fun e => (P.globalNamed e.1).isNone) = true) (h2 : (errs.all fun e => (P.globalNamed e).isNone) = true) (h3 : (cellsT.all fun e => (P.globalNamed e.1).isNone) = true) : Gd P x := by
  refine ⟨fun e he g hg => ?_, fun e he g hg => ?_, fun e he g hg => ?_⟩
  · have := List.all_eq_true.1 h e he
    rw [hg] at this
    cases this
  · have := List.all_eq_true.1 h2 e he
    rw [hg] at this
    cases this
  · have := List.all_eq_true.1 h3 e he
    rw [hg] at this
    cases this
theorem Runs.top {P : Program} {f : FuncId} {xs : List AV} {vals : List Value} {W : World} (h : Runs P f xs [] [] ([.one (.pv (.bool true))], [], [])) (hgd : Gd P (topCx W)) (hr : RepAs (topCx W) xs vals) :
    Calls P f vals.toArray W fun e W' => e = .returned (.bool true) ∧ Below W.heap.size W W' :=
  Calls.mono (h.2.2.2 (topCx W) vals hgd (top_sto W) (fun _ hu => hu.elim) hr) (by
    rintro e w' ⟨v, y, rfl, rfl, hx, _, _, hv⟩
    have hb : v = .bool true := by
      have := hv.2
      simpa only [RepC, RepP] using this
    exact ⟨by rw [hb], ⟨hx.os, hx.tape, hx.output, hx.size, fun b hb => hx.blk b hb (fun h => h)⟩⟩)
theorem top_okP {W : World} {b : Nat} (h : b < W.heap.size) : (topCx W).okP b := ⟨h, fun h => h, fun h => h⟩
theorem top_int {W : World} (k : IntKind) (n : Int) : RepA (topCx W) (.one (.pv (.int k n))) (.int k n) := ⟨rfl, by simp only [RepC, RepP]⟩
theorem top_bool {W : World} (b : Bool) : RepA (topCx W) (.one (.pv (.bool b))) (.bool b) := ⟨rfl, by simp only [RepC, RepP]⟩
theorem top_str {W : World} (s : ByteArray) : RepA (topCx W) (.one (.pv (.str s))) (.string s) := ⟨rfl, by simp only [RepC, RepP]⟩
theorem top_nil {W : World} (k : IntKind) : RepA (topCx W) (.one (.pv (.ints k [] false))) (.slice none 0 0) := ⟨rfl, by simp only [RepC, RepP]; exact .inl ⟨rfl, rfl⟩⟩
theorem top_ints {W : World} {k : IntKind} {a : Addr} {len cap : Nat} {zs : List Int} (hs : a.spot = none) (hl : len ≤ cap) (hz : len ≤ zs.length) (hc : ∀ i, i < zs.length → W.cell? (a.add i) = some (.int k (zs.getD i 0))) (hb : 0 < len → a.block < W.heap.size) :
    RepA (topCx W) (.one (.pv (.ints k (zs.take len) false))) (.slice (some a) len cap) := by
  obtain ⟨b, o, sp⟩ := a
  simp only at hs
  subst hs
  have hlen : (zs.take len).length = len := by rw [List.length_take]; omega
  refine ⟨rfl, ?_⟩
  simp only [RepC, RepP]
  refine .inr ⟨b, o, cap, none, by rw [hlen], by rw [hlen]; exact hl, by simp, fun h0 => ⟨rfl, top_okP (hb (by rw [hlen] at h0; exact h0)), fun i hi => ?_⟩⟩
  rw [hlen] at hi
  have := hc i (by omega)
  rw [Addr.add_lit] at this
  show W.cell? ⟨b, o + i, none⟩ = _
  rw [this]
  congr 2
  simp [List.getD, List.getElem?_take, hi]
/-- What is known of an address that is handed in. -/
theorem okWide_spot {P : Program} {W : World} {r : Reach} {base t : Nat} {e : TypeId} {a : Addr} {len cap : Nat} (ht : P.underlying t = some (.slice e)) (h : Value.okWide P W r base t (.slice (some a) len cap)) : a.spot = none ∧ len ≤ cap := by
  simp only [Value.okWide, ht, Cell.okWide, Cell.ok] at h
  exact ⟨h.2.2.2.1, h.1⟩

/-! ### What is handed in lies in memory -/
section
open Go.ChangeShapes Go.WideShapes Go.ChangeAt Go.RowKit
variable {P : Program} {H : Type} {enc : TypeId × Value → H} {W : World} {b0 fuel : Nat} {spare : Nat → Bool} {held : Bool} {cs : List Value} {y : DataW H × List MemPlace}
theorem cell_lt {a : Addr} {v : Value} (h : W.cell? a = some v) : a.block < W.heap.size ∧ a.spot = none := by
  unfold World.cell? at h
  split at h
  · rename_i hb
    refine ⟨?_, ?_⟩
    · rcases Nat.lt_or_ge a.block W.heap.size with h' | h'
      · exact h'
      · rw [Array.getElem?_eq_none h'] at hb; cases hb
    · cases hs : a.spot with
      | none => rfl
      | some _ => rw [hs] at h; simp at h
  · cases h
theorem add_form {a : Addr} (h : a.spot = none) (n : Nat) : a.add n = ⟨a.block, a.off + n, none⟩ := by
  obtain ⟨b, o, sp⟩ := a
  simp only at h
  subst h
  exact Addr.add_lit ..
/-- A slice of whole numbers, wherever it stands. -/
theorem ints_in {t e : TypeId} {k : IntKind} (ht : P.underlying t = some (.slice e)) (he : P.underlying e = some (.int k)) (hc : P.cellsOf e = 1) (h : DataW.trod enc P W b0 spare held fuel t cs = some y) :
    ∃ v l, cs = [v] ∧ v.oneCell' = true ∧ (∀ n ∈ l, (Lit.int k n).wf = true) ∧ RepP W (topCx W).okP (topCx W).okP (.ints k l false) v := by
  rcases open_ints ht he hc h with ⟨hcs, _⟩ | ⟨a, len, cap, zs, hcs, _, hl, hm, hz, _, hcell, hwz⟩
  · exact ⟨_, [], hcs, rfl, by simp, by simp only [RepP]; exact .inl ⟨rfl, rfl⟩⟩
  · have hlz : len ≤ zs.length := by rw [hz]; split <;> omega
    have hlen : (zs.take len).length = len := by rw [List.length_take]; omega
    refine ⟨_, zs.take len, hcs, rfl, fun n hn => hwz n (List.mem_of_mem_take hn), ?_⟩
    simp only [RepP]
    obtain ⟨b, o, sp⟩ := a
    refine .inr ⟨b, o, cap, sp, by rw [hlen], by rw [hlen]; exact hl, by simp, fun h0 => ?_⟩
    rw [hlen] at h0
    have hc0 := hcell 0 (by omega)
    obtain ⟨hb, hsp⟩ := cell_lt hc0
    have hsp0 : sp = none := hsp
    subst hsp0
    refine ⟨rfl, top_okP hb, fun i hi => ?_⟩
    rw [hlen] at hi
    have := hcell i (by omega)
    rw [Addr.add_lit] at this
    show W.cell? ⟨b, o + i, none⟩ = _
    rw [this]
    congr 2
    simp [List.getD, List.getElem?_take, hi]
theorem RepPs_congr {w : World} {ok : Nat → Prop} : ∀ {ps : List PV} {f g : Nat → Option Value}, RepPs w ok ps f → (∀ j, j < ps.length → g j = f j) → RepPs w ok ps g
  | [], _, _, _, _ => by simp [RepPs]
  | p :: ps, f, g, h, hg => by
    simp only [RepPs] at h ⊢
    obtain ⟨⟨v, hv, hp⟩, hs⟩ := h
    exact ⟨⟨v, by rw [hg 0 (by simp), hv], hp⟩, RepPs_congr hs fun j hj => hg (j + 1) (by simp; omega)⟩
/-- A slice of elements, each read by hel. -/
theorem recs_in {t e sz : Nat} {good : List PV → Prop} (ht : P.underlying t = some (.slice e)) (hc : P.cellsOf e = sz) (hsz : 0 < sz)
    (hel : ∀ {n : Nat} {cs : List Value} {y : DataW H × List MemPlace}, cs.length = sz → DataW.trod enc P W b0 spare held n e cs = some y → ∃ ps, ps.length = sz ∧ good ps ∧ RepPs W (topCx W).okP ps fun i => cs[i]?)
    (h : DataW.trod enc P W b0 spare held fuel t cs = some y) :
    ∃ v l, cs = [v] ∧ v.oneCell' = true ∧ (∀ ps ∈ l, good ps) ∧ RepP W (topCx W).okP (topCx W).okP (.recs sz l false) v := by
  rcases DataW.trod_slice ht h with ⟨hcs, _⟩ | ⟨a, len, cap, elems, rest, n, _, hcs, _, _, hl, _, hlen, hall, _, _⟩
  · exact ⟨_, [], hcs, rfl, by simp, by simp only [RepP]; exact .inl ⟨rfl, rfl⟩⟩
  have each : ∀ i, i < len → ∃ ps, ps.length = sz ∧ good ps ∧ (∃ cs', W.cells? b0 (a.add (i * sz)) sz = some cs' ∧ RepPs W (topCx W).okP ps fun j => cs'[j]?) := by
    intro i hi
    have h1 := hall i hi
    rw [hc, List.getElem?_eq_getElem (by omega), Option.bind_eq_some_iff] at h1
    obtain ⟨cs', h2, h3⟩ := h1
    obtain ⟨ps, h4, h5, h6⟩ := hel (World.cells?_some h2).2.1 h3
    exact ⟨ps, h4, h5, cs', h2, h6⟩
  have build : ∀ (m i : Nat), i + m = len → ∃ l : List (List PV), l.length = m ∧ (∀ ps ∈ l, good ps) ∧ ∀ b o, a = ⟨b, o, none⟩ → RepPss W (topCx W).okP sz l fun j => W.cell? ⟨b, o + (i * sz + j), none⟩ := by
    intro m
    induction m with
    | zero => intro i _; exact ⟨[], rfl, by simp, fun b o _ => by simp [RepPss]⟩
    | succ m ih =>
      intro i hi
      obtain ⟨l, hl1, hl2, hl3⟩ := ih (i + 1) (by omega)
      obtain ⟨ps, h4, h5, cs', h2, h6⟩ := each i (by omega)
      refine ⟨ps :: l, by simp [hl1], fun q hq => ?_, fun b o ha => ?_⟩
      · rcases List.mem_cons.1 hq with rfl | hq
        · exact h5
        · exact hl2 q hq
      · simp only [RepPss]
        refine ⟨h4, ?_, ?_⟩
        · have hcell := (World.cells?_some h2).2.2
          have hl' := (World.cells?_some h2).2.1
          refine RepPs_congr h6 fun j hj => ?_
          rw [h4] at hj
          have := hcell j hj
          rw [ha, Addr.add_lit, Addr.add_lit] at this
          rw [← this]
          congr 2
          omega
        · have := hl3 b o ha
          have e : (fun j => W.cell? ⟨b, o + ((i + 1) * sz + j), none⟩) = fun j => W.cell? ⟨b, o + (i * sz + (j + sz)), none⟩ := by
            funext j
            congr 2
            rw [Nat.add_mul]; omega
          rw [e] at this
          exact this
  obtain ⟨l, hl1, hl2, hl3⟩ := build len 0 (by omega)
  refine ⟨_, l, hcs, rfl, hl2, ?_⟩
  simp only [RepP]
  obtain ⟨b, o, sp⟩ := a
  refine .inr ⟨b, o, cap, sp, by rw [hl1], by rw [hl1]; exact hl, by simp, fun h0 => ?_⟩
  rw [hl1] at h0
  obtain ⟨ps, h4, _, cs', h2, _⟩ := each 0 h0
  have hl' := (World.cells?_some h2).2.1
  have h7 := (World.cells?_some h2).2.2 0 hsz
  rw [List.getElem?_eq_getElem (by omega)] at h7
  obtain ⟨hb, hsp⟩ := cell_lt h7
  have hz : (0 * sz) = 0 := by omega
  rw [hz] at hsp hb
  have hsp0 : sp = none := hsp
  subst hsp0
  refine ⟨rfl, top_okP hb, ?_⟩
  have := hl3 b o rfl
  simpa using this
end
end Go.Ev

/- Plain facts of numbers, bytes, lists. No program in sight. -/
set_option linter.unusedVariables false
set_option linter.unusedSimpArgs false
namespace Go.Ev
/-- Draws are not counted, from here on. -/
instance dl00 : DLaw := dl0

theorem i64_in {n : Int} (h : -1000000000000 ≤ n) (h' : n ≤ 1000000000000) : IntKind.i64.wrap n = n := IntWalk.i64_in n ⟨by omega, by omega⟩
theorem u64_in {n : Int} (h : 0 ≤ n) (h' : n < 18446744073709551616) : IntKind.u64.wrap n = n := IntWalk.u64_in n ⟨by omega, by omega⟩
theorem iadd64 {a b : Int} (h : -1000000000000 ≤ a + b) (h' : a + b ≤ 1000000000000) : iadd .i64 a b = a + b := i64_in h h'
theorem isub64 {a b : Int} (h : -1000000000000 ≤ a - b) (h' : a - b ≤ 1000000000000) : isub .i64 a b = a - b := i64_in h h'
theorem imul64 {a b : Int} (h : -1000000000000 ≤ a * b) (h' : a * b ≤ 1000000000000) : imul .i64 a b = a * b := i64_in h h'
theorem iaddU {a b : Int} (h : 0 ≤ a + b) (h' : a + b < 18446744073709551616) : iadd .u64 a b = a + b := u64_in h h'
theorem isubU {a b : Int} (h : 0 ≤ a - b) (h' : a - b < 18446744073709551616) : isub .u64 a b = a - b := u64_in h h'
theorem iquo64 {a b : Nat} (h : a ≤ 1000000000000) : iquo .i64 (a : Int) (b : Int) = ((a / b : Nat) : Int) := by
  rw [iquo, Int.tdiv_eq_ediv_of_nonneg (by omega), ← Int.natCast_ediv]
  have h1 : ((a / b : Nat) : Int) ≤ a := by exact_mod_cast Nat.div_le_self a b
  have h0 : (0 : Int) ≤ ((a / b : Nat) : Int) := Int.natCast_nonneg _
  generalize ((a / b : Nat) : Int) = d at *
  exact i64_in (by omega) (by omega)
theorem irem64 {a b : Nat} (h : a ≤ 1000000000000) : irem .i64 (a : Int) (b : Int) = ((a % b : Nat) : Int) := by
  rw [irem, Int.tmod_eq_emod_of_nonneg (by omega), ← Int.natCast_emod]
theorem fits_le {n : Nat} : fits n = decide (n ≤ 536870912) := rfl
theorem fits_ok {n : Nat} (h : n ≤ 536870912) : fits n = true := by simp [fits_le, h]
def Bytes (l : List Int) : Prop := ∀ x ∈ l, 0 ≤ x ∧ x < 256
theorem Bytes.at {l : List Int} (h : Bytes l) {i : Nat} (hi : i < l.length) : 0 ≤ l.getD i 0 ∧ l.getD i 0 < 256 := by
  have : l.getD i 0 ∈ l := by simp [List.getD, hi]
  exact h _ this
theorem Bytes.app {l m : List Int} (h : Bytes l) (k : Bytes m) : Bytes (l ++ m) := by
  intro x hx
  rcases List.mem_append.1 hx with hx | hx
  · exact h x hx
  · exact k x hx
theorem drop_cons {l : List Int} {i : Nat} (h : i < l.length) : l.drop i = l.getD i 0 :: l.drop (i + 1) := by
  rw [List.drop_eq_getElem_cons h]
  simp [List.getD, h]
theorem dt {p : Prop} [Decidable p] (h : p) : decide p = true := decide_eq_true h
theorem df {p : Prop} [Decidable p] (h : ¬ p) : decide p = false := decide_eq_false h

/-! ### bits in bytes, the highest first -/
/-- The k lowest bits, the highest of them first. -/
def bitsN : Nat → Nat → List Bool
  | 0, _ => []
  | k + 1, v => v.testBit k :: bitsN k v
theorem bitsN_len : ∀ (k v : Nat), (bitsN k v).length = k
  | 0, _ => rfl
  | k + 1, v => by simp [bitsN, bitsN_len k v]
structure Pk (l : List Int) (B : List Bool) : Prop where
  len : l.length = (B.length + 7) / 8
  byte : Bytes l
  bit : ∀ q j, j < 8 → q < l.length → (l.getD q 0).toNat.testBit (7 - j) = B.getD (8 * q + j) false
theorem Pk.nil : Pk [] [] := ⟨rfl, fun x hx => by simp at hx, fun q j _ h => by simp at h⟩
theorem getD_app {α : Type} (B : List α) (b d : α) (i : Nat) : (B ++ [b]).getD i d = if i < B.length then B.getD i d else if i = B.length then b else d := by
  simp only [List.getD]
  split
  · rename_i h; rw [List.getElem?_append_left h]
  · rename_i h
    rw [List.getElem?_append_right (by omega)]
    split
    · rename_i h2; subst h2; simp
    · rename_i h2
      rw [List.getElem?_eq_none (by simp; omega)]
      rfl
theorem getD_none {α : Type} {B : List α} {d : α} {i : Nat} (h : B.length ≤ i) : B.getD i d = d := by
  simp [List.getD, List.getElem?_eq_none h]
/-- The same bits, with a place for one more. -/
structure Pk1 (l : List Int) (B : List Bool) : Prop where
  len : l.length = B.length / 8 + 1
  byte : Bytes l
  bit : ∀ q j, j < 8 → q < l.length → (l.getD q 0).toNat.testBit (7 - j) = B.getD (8 * q + j) false
theorem Pk.room {l : List Int} {B : List Bool} (h : Pk l B) (h8 : B.length % 8 = 0) : Pk1 (l ++ [0]) B where
  len := by have := h.len; simp only [List.length_append, List.length_cons, List.length_nil]; omega
  byte := h.byte.app (by intro x hx; simp only [List.mem_singleton] at hx; omega)
  bit := by
    intro q j hj hq
    have hl := h.len
    rw [getD_app]
    split
    · rename_i hlt; exact h.bit q j hj hlt
    · rename_i hlt
      have : q = l.length := by simp only [List.length_append, List.length_cons, List.length_nil] at hq; omega
      rw [if_pos this, getD_none (by omega)]
      simp
theorem Pk.room' {l : List Int} {B : List Bool} (h : Pk l B) (h8 : ¬ B.length % 8 = 0) : Pk1 l B := ⟨by have := h.len; omega, h.byte, h.bit⟩
theorem Pk1.no {l : List Int} {B : List Bool} (h : Pk1 l B) : Pk l (B ++ [false]) where
  len := by have := h.len; simp only [List.length_append, List.length_cons, List.length_nil]; omega
  byte := h.byte
  bit := by
    intro q j hj hq
    rw [h.bit q j hj hq, getD_app]
    split
    · rfl
    · rename_i hlt; rw [getD_none (by omega)]; split <;> rfl
theorem top_bit (r : Nat) (hr : r < 8) : 128 / 2 ^ r = 2 ^ (7 - r) := by
  rw [show (128 : Nat) = 2 ^ (7 - r) * 2 ^ r by rw [← Nat.pow_add, show 7 - r + r = 7 by omega]]
  exact Nat.mul_div_cancel _ (Nat.two_pow_pos r)
theorem Pk1.yes {l : List Int} {B : List Bool} (h : Pk1 l B) : Pk (l.set (B.length / 8) (ior .u8 (l.getD (B.length / 8) 0) (ishr .u8 128 ((B.length % 8 : Nat) : Int)))) (B ++ [true]) := by
  have hl := h.len
  have hq : B.length / 8 < l.length := by omega
  have h0 := h.byte.at hq
  have hr : B.length % 8 < 8 := Nat.mod_lt _ (by decide)
  have e1 : ishr .u8 128 ((B.length % 8 : Nat) : Int) = ((2 ^ (7 - B.length % 8) : Nat) : Int) := by
    have := ishr_nat (k := .u8) (a := 128) (n := B.length % 8) (show _ ≤ 8 by omega)
    rw [top_bit _ hr] at this
    exact this
  have h2 : 2 ^ (7 - B.length % 8) < 2 ^ 8 := Nat.pow_lt_pow_right (by decide) (by omega)
  obtain ⟨c, hc⟩ : ∃ c : Nat, l.getD (B.length / 8) 0 = (c : Int) := ⟨_, (Int.toNat_of_nonneg h0.1).symm⟩
  have hc8 : c < 2 ^ 8 := by rw [hc] at h0; omega
  rw [e1, hc, ior_nat (k := .u8) rfl hc8 h2]
  have ho : c ||| 2 ^ (7 - B.length % 8) < 256 := Nat.or_lt_two_pow hc8 h2
  refine ⟨by simp only [List.length_set, List.length_append, List.length_cons, List.length_nil]; omega, fun x hx => ?_, fun q j hj hq2 => ?_⟩
  · rcases List.mem_or_eq_of_mem_set hx with hx | rfl
    · exact h.byte x hx
    · omega
  · rw [List.length_set] at hq2
    have hb := h.bit q j hj hq2
    rw [getD_app]
    by_cases he : q = B.length / 8
    · subst he
      rw [hc, Int.toNat_natCast] at hb
      have hg : (l.set (B.length / 8) ((c ||| 2 ^ (7 - B.length % 8) : Nat) : Int)).getD (B.length / 8) 0 = ((c ||| 2 ^ (7 - B.length % 8) : Nat) : Int) := by
        simp [List.getD, hq]
      rw [hg, Int.toNat_natCast, Nat.testBit_or, hb, Nat.testBit_two_pow]
      by_cases hlt : 8 * (B.length / 8) + j < B.length
      · rw [if_pos hlt]
        have : ¬ (7 - B.length % 8 = 7 - j) := by omega
        simp [this]
      · rw [if_neg hlt, getD_none (by omega)]
        by_cases he2 : 8 * (B.length / 8) + j = B.length
        · rw [if_pos he2]
          have : 7 - B.length % 8 = 7 - j := by omega
          simp [this]
        · rw [if_neg he2]
          have : ¬ (7 - B.length % 8 = 7 - j) := by omega
          simp [this]
    · have hg : (l.set (B.length / 8) ((c ||| 2 ^ (7 - B.length % 8) : Nat) : Int)).getD q 0 = l.getD q 0 := by
        simp only [List.getD]
        rw [List.getElem?_set_ne (Ne.symm he)]
      rw [hg, hb]
      by_cases hlt : 8 * q + j < B.length
      · rw [if_pos hlt]
      · exact absurd hlt (by omega)
/-- Bytes of the same bits are the same. -/
theorem byte_ext {a b : Nat} (ha : a < 256) (hb : b < 256) (h : ∀ j, j < 8 → a.testBit (7 - j) = b.testBit (7 - j)) : a = b := by
  apply Nat.eq_of_testBit_eq
  intro i
  rcases Nat.lt_or_ge i 8 with hi | hi
  · have := h (7 - i) (by omega)
    rwa [show 7 - (7 - i) = i by omega] at this
  · rw [Nat.testBit_lt_two_pow (Nat.lt_of_lt_of_le ha (Nat.pow_le_pow_right (n := 2) (by decide) hi)), Nat.testBit_lt_two_pow (Nat.lt_of_lt_of_le hb (Nat.pow_le_pow_right (n := 2) (by decide) hi))]
theorem Pk.uniq {l m : List Int} {B : List Bool} (h : Pk l B) (k : Pk m B) : l = m := by
  have hlen : l.length = m.length := by rw [h.len, k.len]
  apply List.ext_getElem hlen
  intro q h1 h2
  have a := h.byte.at h1
  have b := k.byte.at h2
  have e1 : l.getD q 0 = l[q] := by simp [List.getD, h1]
  have e2 : m.getD q 0 = m[q] := by simp [List.getD, h2]
  have := byte_ext (a := (l.getD q 0).toNat) (b := (m.getD q 0).toNat) (by omega) (by omega) (fun j hj => by rw [h.bit q j hj h1, k.bit q j hj h2])
  rw [e1] at a this
  rw [e2] at b this
  omega
end Go.Ev

/- What is handed in: bytes. -/
set_option linter.unusedVariables false
set_option linter.unusedSimpArgs false
namespace Go.Ev
open Go.ChangeShapes Go.WideShapes Go.ChangeAt Go.RowKit
section
variable {P : Program} {H : Type} {enc : TypeId × Value → H} {W : World} {base b0 : Nat} {r : Reach} {spare : Nat → Bool} {held : Bool} {a : Option Addr} {len cap : Nat} {d : DataW H} {p : List MemPlace}
theorem bytes_wf {l : List Int} (h : ∀ n ∈ l, (Lit.int .u8 n).wf = true) : Bytes l := by
  intro x hx
  have := (Lit.wf_int_iff .u8 x).1 (h x hx)
  simp [IntKind.min, IntKind.max, IntKind.bits, IntKind.signed] at this
  omega
theorem bytes_in {t e : Nat} (ht : P.underlying t = some (.slice e)) (he : P.underlying e = some (.int .u8)) (hc : P.cellsOf e = 1)
    (h : ∃ fuel, DataW.trod enc P W b0 spare held fuel t (Value.slice a len cap).cells.toList = some (d, p)) : ∃ l, Bytes l ∧ RepA (topCx W) (.one (.pv (.ints .u8 l false))) (.slice a len cap) := by
  obtain ⟨fuel, hf⟩ := h
  obtain ⟨v, l, h1, h2, h3, h4⟩ := ints_in ht he hc hf
  simp [Value.cells] at h1
  subst h1
  exact ⟨l, bytes_wf h3, rfl, h4⟩
end
end Go.Ev

/- Contracts by hand: functions that touch nothing of the caller's. No program in sight. -/
set_option linter.unusedVariables false
set_option linter.unusedSimpArgs false
set_option linter.unusedSectionVars false
namespace Go.Ev
open Go.RowKit (Below)

def hasBody (P : Program) (f : FuncId) : Bool :=
  match P.funcs[f]? with
  | some fn => fn.body.isSome && !(fn.name == "runtime.NumGoroutine")
  | none => false
theorem Runs.quiet {P : Program} {f : FuncId} {as_ avs : List AV} (hf : hasBody P f = true) (hok : okOutRes (avs, [], []) = true)
    (h : ∀ (x : Cx) (vals : List Value), Gd P x → RepAs x as_ vals → Calls P f vals.toArray x.w fun e w' => ∃ v, e = .returned v ∧ Below x.w.heap.size x.w w' ∧ ∀ y : Cx, y.w = w' → RepS y (tupOf avs) v) : Runs P f as_ [] [] (avs, [], []) := by
  unfold hasBody at hf
  split at hf
  · rename_i fn hfn
    simp only [Bool.and_eq_true, Bool.not_eq_true'] at hf
    obtain ⟨c, hc⟩ := Option.isSome_iff_exists.1 hf.1
    refine ⟨⟨fn, c, hfn, hc, hf.2⟩, hok, Nat.zero_le _, fun x vals hgd hs _ hr => (h x vals hgd hr).mono ?_⟩
    rintro e w' ⟨v, rfl, hb, hv⟩
    refine ⟨v, { x with w := w' }, rfl, rfl, ⟨hb.os, hb.tape, hb.output, hb.size, fun b hlt _ => hb.block b hlt, fun b hS => .inl hS, rfl, fun h => by cases h⟩, fun _ _ => rfl, ?_, hv _ rfl⟩
    exact ⟨fun _ _ h => (by cases h), fun _ _ h => (by cases h), fun _ _ h => (by cases h), fun _ _ _ _ h => (by cases h), fun _ _ _ _ h => (by cases h), fun _ _ _ _ h => (by cases h),
      fun b hS => Nat.lt_of_lt_of_le (hs.Slt b hS) hb.size, fun b hB => Nat.lt_of_lt_of_le (hs.Blt b hB) hb.size, hs.SB⟩
  · cases hf
theorem below_grown (w : World) (k : Nat) (os : Array Go.Obj) : Below w.heap.size w (Go.Sort.grow (w.drewN k) os) := by
  have hh : ∀ n : Nat, (w.drewN n).os = w.os ∧ (w.drewN n).tape = w.tape ∧ (w.drewN n).output = w.output ∧ (w.drewN n).heap = w.heap := fun n => ⟨rfl, rfl, rfl, rfl⟩
  obtain ⟨h1, h2, h3, h4⟩ := hh k
  refine ⟨h1, h2, h3, ?_, fun b hb => ?_⟩
  · show w.heap.size ≤ ((w.drewN k).heap ++ os).size
    rw [h4, Array.size_append]; omega
  · show ((w.drewN k).heap ++ os)[b]? = _
    rw [h4, Array.getElem?_append_left hb]
theorem rep_two {x : Cx} {n m : Int} {kn km : IntKind} {vals : List Value} (h : RepAs x [.one (.pv (.int kn n)), .one (.pv (.int km m))] vals) : vals = [.int kn n, .int km m] := by
  match vals, h with
  | [v, u], h =>
    have h1 := h.1.2
    have h2 := h.2.1.2
    simp only [RepC, RepP] at h1 h2
    rw [h1, h2]
theorem rep_three {x : Cx} {s : ByteArray} {n m : Int} {kn km : IntKind} {vals : List Value} (h : RepAs x [.one (.pv (.str s)), .one (.pv (.int kn n)), .one (.pv (.int km m))] vals) : vals = [.string s, .int kn n, .int km m] := by
  match vals, h with
  | [v, u, t], h =>
    have h1 := h.1.2
    have h2 := h.2.1.2
    have h3 := h.2.2.1.2
    simp only [RepC, RepP] at h1 h2 h3
    rw [h1, h2, h3]
theorem rep_str1 {y : Cx} {s : ByteArray} : RepS y (tupOf [.one (.pv (.str s))]) (.string s) := ⟨rfl, by simp only [RepC, RepP]⟩
theorem rep_err {y : Cx} {n : Int} {k : IntKind} {t : TypeId} {u : Value} : RepS y (tupOf [.one (.pv (.int k n)), .one (.pv .errI)]) (.tuple #[.int k n, .iface t u]) :=
  ⟨_, rfl, ⟨rfl, by simp only [RepC, RepP]⟩, ⟨rfl, by simp only [RepC, RepP]; exact ⟨_, _, rfl⟩⟩, trivial⟩
theorem rep_ok {y : Cx} {n : Int} {k : IntKind} : RepS y (tupOf [.one (.pv (.int k n)), .one (.pv .nilI)]) (.tuple #[.int k n, .nilIface]) :=
  ⟨_, rfl, ⟨rfl, by simp only [RepC, RepP]⟩, ⟨rfl, by simp only [RepC, RepP]⟩, trivial⟩
end Go.Ev

/- slices.Delete, at elements of k cells. No program in sight. -/
set_option linter.unusedVariables false
set_option linter.unusedSimpArgs false
set_option linter.unusedSectionVars false
namespace Go.Proofs
open Go.Shelf Go.RowKit Go.Lib Go.Sort
variable {P : Program} {ρ : Ren}

/-- What slices.Delete's walk asks of a program; k: an element's cells. -/
structure DelLays (P : Program) (ρ : Ren) (k : Nat) : Prop where
  mixed : P.follows .mixedOrders = true
  f45 : Bears P (ρ.f 45) (SlBodyN.n45 ρ)
  t0 : P.underlying (ρ.t 0) = some (TypeDesc.tuple #[])
  a0 : ∀ w, (isAgg (ρ.t 0)).run P w = .ok false w
  z0 : ∀ w, (Go.sizeOf (ρ.t 0)).run P w = .ok 1 w
  v0 : ∀ w, (zeroValue (ρ.t 0)).run P w = .ok (Value.tuple #[]) w
  t3 : P.underlying (ρ.t 3) = some (TypeDesc.int IntKind.i64)
  a3 : ∀ w, (isAgg (ρ.t 3)).run P w = .ok false w
  z3 : ∀ w, (Go.sizeOf (ρ.t 3)).run P w = .ok 1 w
  v3 : ∀ w, (zeroValue (ρ.t 3)).run P w = .ok (Value.int IntKind.i64 0) w
  t4 : P.underlying (ρ.t 4) = some (TypeDesc.bool)
  a4 : ∀ w, (isAgg (ρ.t 4)).run P w = .ok false w
  z4 : ∀ w, (Go.sizeOf (ρ.t 4)).run P w = .ok 1 w
  v4 : ∀ w, (zeroValue (ρ.t 4)).run P w = .ok (Value.bool false) w
  t22 : P.underlying (ρ.t 22) = some (TypeDesc.slice (ρ.t 23))
  a22 : ∀ w, (isAgg (ρ.t 22)).run P w = .ok false w
  z22 : ∀ w, (Go.sizeOf (ρ.t 22)).run P w = .ok 1 w
  v22 : ∀ w, (zeroValue (ρ.t 22)).run P w = .ok (Value.slice none 0 0) w
  z23 : ∀ w, (Go.sizeOf (ρ.t 23)).run P w = .ok k w
  i23 : (P.info? (ρ.t 23)).map (fun i => i.size) = some k

set_option maxHeartbeats 4000000 in
set_option maxRecDepth 1000000 in
/-- Nothing to take away. -/
theorem del_none {k : Nat} (L : DelLays P ρ k) (blk off cap n i : Nat) (w : World) (hcap : n ≤ cap) (hm : n ≤ 9223372036854775807) (hj : i ≤ n) :
    Calls P (ρ.f 45) #[.slice (some ⟨blk, off, none⟩) n cap, .int .i64 i, .int .i64 i] w fun e w' => e = .returned (.slice (some ⟨blk, off, none⟩) n cap) ∧ w' = w := by
  have mixed := L.mixed; have t0 := L.t0; have a0 := L.a0; have z0 := L.z0; have v0 := L.v0; have t3 := L.t3; have a3 := L.a3; have z3 := L.z3; have v3 := L.v3; have t4 := L.t4; have a4 := L.a4; have z4 := L.z4; have v4 := L.v4; have t22 := L.t22; have a22 := L.a22; have z22 := L.z22; have v22 := L.v22; have z23 := L.z23
  obtain ⟨_, _, FG⟩ := L.f45
  go_enter FG, SlBodyN.n45_ntmps ρ
  go_wp2
  all_goals (go_ret; exact ⟨rfl, rfl⟩)

set_option maxHeartbeats 4000000 in
set_option maxRecDepth 1000000 in
/-- Nothing to take away, of a nil slice. -/
theorem del_nil {k : Nat} (L : DelLays P ρ k) (w : World) :
    Calls P (ρ.f 45) #[.slice none 0 0, .int .i64 0, .int .i64 0] w fun e w' => e = .returned (.slice none 0 0) ∧ w' = w := by
  have mixed := L.mixed; have t0 := L.t0; have a0 := L.a0; have z0 := L.z0; have v0 := L.v0; have t3 := L.t3; have a3 := L.a3; have z3 := L.z3; have v3 := L.v3; have t4 := L.t4; have a4 := L.a4; have z4 := L.z4; have v4 := L.v4; have t22 := L.t22; have a22 := L.a22; have z22 := L.z22; have v22 := L.v22; have z23 := L.z23
  obtain ⟨_, _, FG⟩ := L.f45
  go_enter FG, SlBodyN.n45_ntmps ρ
  go_wp2
  all_goals (go_ret; exact ⟨rfl, rfl⟩)

set_option maxHeartbeats 4000000 in
set_option maxRecDepth 1000000 in
/-- Elements taken away: two stores of cells. -/
theorem del_some {k : Nat} (L : DelLays P ρ k) (blk off cap n i j : Nat) (news : List Value) (w W1 W2 : World) (hcap : n ≤ cap) (hm : n ≤ 9223372036854775807) (hij : i < j) (hj : j ≤ n)
    (hlen : news.length = (n - j) * k) (hget : ∀ t u, news[t]? = some u → w.cell? ⟨blk, off + j * k + t, none⟩ = some u) (h1 : ∀ u ∈ news, u.oneCell' = true)
    (hc : ∀ t, t < n * k → (w.cell? ⟨blk, off + t, none⟩).isSome = true ∧ w.frozen? ⟨blk, off + t, none⟩ = false)
    (hW1 : W1 = w.drew.setCells blk (off + i * k) news)
    (hcl : ∀ ty, (Builtin.clear_ #[ρ.t 22] ty #[.slice (some ⟨blk, off + (i + (n - j)) * k, none⟩) (n - (i + (n - j))) (cap - (i + (n - j)))]).run P W1 = .ok (.tuple #[]) W2) :
    Calls P (ρ.f 45) #[.slice (some ⟨blk, off, none⟩) n cap, .int .i64 i, .int .i64 j] w fun e w' => e = .returned (.slice (some ⟨blk, off, none⟩) (n - (j - i)) cap) ∧ w' = W2 := by
  have mixed := L.mixed; have t0 := L.t0; have a0 := L.a0; have z0 := L.z0; have v0 := L.v0; have t3 := L.t3; have a3 := L.a3; have z3 := L.z3; have v3 := L.v3; have t4 := L.t4; have a4 := L.a4; have z4 := L.z4; have v4 := L.v4; have t22 := L.t22; have a22 := L.a22; have z22 := L.z22; have v22 := L.v22; have z23 := L.z23
  obtain ⟨i0, hi0, hz1⟩ := Option.map_eq_some_iff.1 L.i23
  obtain ⟨A, hA, hsrc⟩ : ∃ A : Addr, (if cap = j then some (⟨blk, off, none⟩ : Addr) else some ⟨blk, off + j * k, none⟩) = some A ∧ Hid (∀ t u, news[t]? = some u → w.drew.cell? (A.add t) = some u) := by
    by_cases h : cap = j
    · refine ⟨⟨blk, off, none⟩, by simp [h], fun t u hu => ?_⟩
      have h0 : news.length = 0 := by rw [hlen, show n - j = 0 by omega, Nat.zero_mul]
      rw [List.length_eq_zero_iff.1 h0] at hu
      simp at hu
    · refine ⟨⟨blk, off + j * k, none⟩, by simp [h], fun t u hu => ?_⟩
      rw [Addr.add_lit]
      exact hget t u hu
  have s1 : Hid (news.length = (n - j) * k) := hlen
  have s2 : Hid (∀ u ∈ news, u.oneCell' = true) := h1
  have s3 : Hid (∀ t, t < news.length → (w.drew.cell? ⟨blk, off + i * k + t, none⟩).isSome = true ∧ w.drew.frozen? ⟨blk, off + i * k + t, none⟩ = false) := by
    intro t ht
    rw [hlen] at ht
    have : i * k + t < n * k := by
      have h2 : i * k + (n - j) * k ≤ n * k := by rw [← Nat.add_mul]; exact Nat.mul_le_mul_right _ (by omega)
      omega
    rw [Nat.add_assoc]
    exact hc _ this
  have hW : Hid (W1 = w.drew.setCells blk (off + i * k) news) := hW1
  have hic : i ≤ cap := by omega
  have hjc : j ≤ cap := by omega
  clear hW1 hget hlen h1 hc
  obtain ⟨_, _, FG⟩ := L.f45
  go_enter FG, SlBodyN.n45_ntmps ρ
  go_wp2_with fail
  go_region_law_o (refine step_append_room rfl (.tmp 22) (.tmp 25) (ρ.t 22) rfl (ρ.t 23) i0 k t22 hi0 hz1 blk off i cap (by simp [Act.eval, Act.put]) A (n - j) (cap - j) news (by simp [Act.eval, Act.put]) s1.out hsrc.out s2.out (by omega) s3.out ?_; rw [← hW.out])
  go_wp2
  go_ret
  exact ⟨by rw [show n - (j - i) = i + (n - j) by omega]; rfl, rfl⟩
end Go.Proofs

/- slices.Delete, at elements of k cells, as a contract on a row that is handed over. No program in sight. -/
set_option linter.unusedVariables false
set_option linter.unusedSimpArgs false
set_option linter.unusedSectionVars false
namespace Go.Ev
open Go.Shelf Go.RowKit Go.Lib Go.Sort Go.Proofs
variable [DLaw] {P : Program} {ρ : Ren}

theorem Sto.lk {x : Cx} {objs : List (Nat × Obj)} {rows rows' : List (Nat × RowB)} (h : ∀ q, lkup q rows' = lkup q rows) (hs : Sto x objs rows) : Sto x objs rows' :=
  ⟨hs.obj, fun q rw hq => hs.live q rw (by rw [← h]; exact hq), fun q rw hq => hs.froz q rw (by rw [← h]; exact hq), hs.injO, fun q q' a b h1 h2 => hs.injR q q' a b (by rw [← h]; exact h1) (by rw [← h]; exact h2),
    fun o q l rw h1 h2 => hs.injX o q l rw h1 (by rw [← h]; exact h2), hs.Slt, hs.Blt, hs.SB⟩

/-- The row behind slices.Delete. -/
def delRow (l : List (List PV)) (z : List PV) (i j : Nat) : List (List PV) := l.take i ++ (l.drop j ++ List.replicate (j - i) z)
theorem len_delRow {l : List (List PV)} {z : List PV} {i j : Nat} (hij : i ≤ j) (hj : j ≤ l.length) : (delRow l z i j).length = l.length := by
  simp only [delRow, List.length_append, List.length_take, List.length_drop, List.length_replicate]; omega

set_option maxHeartbeats 2000000 in
/-- slices.Delete, of a row that is handed over. -/
theorem Runs.delete {k : Nat} (L : DelLays P ρ k) (hb : hasBody P (ρ.f 45) = true) (hk0 : 0 < k)
    (z : List PV) (hzl : z.length = k) {ti : TI} (hti : tinfo P (ρ.t 23) = some ti) (hzt : pvsOf ti.zero = some z)
    (l : List (List PV)) (hl : l.length < 4611686018427387904) (i j : Nat) (hij : i ≤ j) (hj : j ≤ l.length) :
    Runs P (ρ.f 45) [.one (.own 0 0 l.length false), .one (.pv (.int .i64 i)), .one (.pv (.int .i64 j))] [] [.recs k l] ([.one (.own 0 0 (l.length - (j - i)) false)], [], [.recs k (delRow l z i j)]) := by
  unfold hasBody at hb
  split at hb
  · rename_i fn hfn
    simp only [Bool.and_eq_true, Bool.not_eq_true'] at hb
    obtain ⟨c, hc⟩ := Option.isSome_iff_exists.1 hb.1
    refine ⟨⟨fn, c, hfn, hc, hb.2⟩, rfl, Nat.le_refl _, fun x vals hgd hs hu hr => ?_⟩
    clear hb hfn hc
    match vals, hr with
    | [v0, v1, v2], hr =>
      obtain ⟨⟨h1c, hU0, hle, hown⟩, ⟨_, hv1⟩, ⟨_, hv2⟩, _⟩ := hr
      simp only [RepC, RepP] at hv1 hv2
      subst hv1
      subst hv2
      have hlive : lkup 0 (number 0 ([Row.recs k l].map RowB.live)) = some (.live (.recs k l)) := by simp [number, lkup]
      by_cases heq : i = j
      · subst heq
        have hd : delRow l z i i = l := by simp [delRow]
        rw [hd, Nat.sub_self, Nat.sub_zero]
        have hlast : Calls P (ρ.f 45) #[v0, .int .i64 i, .int .i64 i] x.w fun e w' => e = .returned v0 ∧ w' = x.w := by
          rcases hown with ⟨rfl, h0⟩ | ⟨b, o, cap, rfl, hcap, _⟩
          · obtain rfl : i = 0 := by omega
            exact del_nil L x.w
          · exact del_none L b o cap l.length i x.w hcap (by omega) hj
        refine Calls.mono hlast ?_
        rintro e w' ⟨rfl, rfl⟩
        exact ⟨v0, x, rfl, rfl, Ext.refl x, fun _ _ => rfl, hs, ⟨h1c, hU0, hle, hown⟩⟩
      · have hlt : i < j := by omega
        have hnv : ¬ Vir x 0 (.recs k l) := fun h => by have := h.2.2.2.1; simp only [Row.len] at this; omega
        obtain ⟨_, hvir | ⟨_, hS, c, ce, fr, hh, hnf, hcs, hes, hrl, hlesz, his⟩⟩ := hs.liveC hlive
        · exact (hnv hvir).elim
        simp only [Row.esz, Row.len] at hes hrl hlesz
        rcases hown with ⟨_, h0⟩ | ⟨b, o, cap, rfl, hcap, ht, hpl0⟩
        · omega
        obtain ⟨rfl, ho, hfit⟩ := hpl0 (by omega)
        have ho : o = 0 := by rw [ho]; simp
        subst ho
        have hcell : ∀ t, t < l.length * k → (x.w.cell? ⟨x.g.rb 0, 0 + t, none⟩).isSome = true ∧ x.w.frozen? ⟨x.g.rb 0, 0 + t, none⟩ = false := by
          intro t ht
          have hj2 : t < c.size := by omega
          refine ⟨?_, ?_⟩
          · unfold World.cell?
            rw [show (⟨x.g.rb 0, 0 + t, none⟩ : Addr).block = x.g.rb 0 from rfl, hh]
            simp [hj2]
          · unfold World.frozen?
            rw [show (⟨x.g.rb 0, 0 + t, none⟩ : Addr).block = x.g.rb 0 from rfl, hh]
            have := hnf.at t hj2
            obtain ⟨lo, hi⟩ := fr
            simp only [Nat.zero_add, Bool.and_eq_false_iff, decide_eq_false_iff_not, Nat.not_le, Nat.not_lt] at this ⊢
            omega
        -- what is moved
        have c0 := rowIs_cut (r := .recs k l) (off := 0) (n := i) (by simp only [Row.len]; omega) his
        have c1 := rowIs_cut (r := .recs k l) (off := j) (n := l.length - j) (by simp only [Row.len]; omega) his
        have c3 := rowIs_cut (r := .recs k l) (off := l.length - (j - i)) (n := j - i) (by simp only [Row.len]; omega) his
        obtain ⟨news, hnl, hn1, hng⟩ := row_vals c1
        rw [len_cut (by simp only [Row.len]; omega)] at hnl
        simp only [Row.cut, Row.esz] at hnl hng
        simp only [RowIs, Row.cut, Row.esz, List.drop_zero, Nat.zero_mul, Nat.zero_add] at c0 c1 c3
        rw [List.take_of_length_le (by rw [List.length_drop]; exact Nat.le_refl _)] at c1
        rw [List.take_of_length_le (by rw [List.length_drop]; omega)] at c3
        have hik : i * k + (l.length - j) * k ≤ l.length * k := by rw [← Nat.add_mul]; exact Nat.mul_le_mul_right _ (by omega)
        have hgr := Cx.grow_drew (x := x) hs.Slt
        have hs1 := hs.grow hgr
        have lt_ : (l.take i).length = i := by rw [List.length_take]; omega
        have hlen1 : (Row.recs k (l.take i ++ (l.drop j ++ l.drop (l.length - (j - i))))).len = (Row.recs k l).len := by
          simp only [Row.len, List.length_append, List.length_take, List.length_drop]; omega
        obtain ⟨y1, hrun1, hx1, hg1, hs2⟩ := sto_cells (P := P) (x := x.drew) (p := i * k) (vs := news) (rw' := .recs k (l.take i ++ (l.drop j ++ l.drop (l.length - (j - i))))) hs1 hlive hnv hn1 hlen1 rfl (by
            rw [hnl]; exact hik) (c0 := c) (e0 := ce) (fr0 := fr) hh (by
            refine RowIs.mono (w := x.w) (w' := x.drew.w) (ok := x.okP) (fun _ hb => hb) (fun _ _ => rfl) ?_
            simp only [RowIs]
            refine repPss_append (repPss_congr c0 fun q hq => ?_) (repPss_append (repPss_congr c1 fun q hq => ?_) (repPss_congr c3 fun q hq => ?_))
            · rw [lt_] at hq
              rw [if_neg (by omega)]
            · rw [List.length_drop] at hq
              have hq2 : q < news.length := by rw [hnl]; exact hq
              rw [lt_, if_pos (by omega), show i * k + q - i * k = q by omega, List.getElem?_eq_getElem hq2]
              exact hng q _ (List.getElem?_eq_getElem hq2)
            · rw [lt_, List.length_drop, if_neg (by rw [hnl]; omega)]
              congr 1
              rw [show l.length - (j - i) = i + (l.length - j) by omega, Nat.add_mul]
              omega)
        have hW1 : y1.w = x.w.drew.setCells (x.g.rb 0) (0 + i * k) news := by
          have h2 := run_storeCells_cells (P := P) (x.g.rb 0) (i * k) news 0 x.w.drew (fun q hq => (by
            have := (hcell (i * k + q) (by omega)).1
            rw [Nat.zero_add] at this
            exact this)) (fun q hq => (by
            have := (hcell (i * k + q) (by omega)).2
            rw [Nat.zero_add] at this
            exact this)) hn1
          have h3 := hrun1.symm.trans h2
          rw [Nat.zero_add]
          exact (Result.ok.inj h3).2
        -- what is cleared
        have hlive2 : lkup 0 ((0, RowB.live (.recs k (l.take i ++ (l.drop j ++ l.drop (l.length - (j - i)))))) :: number 0 ([Row.recs k l].map RowB.live)) = some (.live (.recs k (l.take i ++ (l.drop j ++ l.drop (l.length - (j - i)))))) := by simp [lkup]
        have hnv1 : ¬ Vir y1 0 (.recs k (l.take i ++ (l.drop j ++ l.drop (l.length - (j - i))))) := fun h => by have := h.2.2.2.1; rw [hlen1] at this; simp only [Row.len] at this; omega
        obtain ⟨_, hvir | ⟨_, hS1, c', ce', fr', hh1, hnf1, hcs1, hes1, hrl1, hle1, his1⟩⟩ := hs2.liveC hlive2
        · exact (hnv1 hvir).elim
        obtain ⟨zv, hzv, hzr⟩ := run_zeroValue' y1 hti
        have hz' := pvsOf_spec hzt
        have hz1 : ∀ u ∈ zv.cells.toList, u.oneCell' = true := fun u hu => repL_one hzr u hu
        have hzs : zv.cells.size = k := by
          have := repL_length hzr
          rw [hz'] at this
          rw [← hzl]
          simpa using this.symm
        have hzp : RepPs y1.w y1.okP z fun i => zv.cells[i]? := by
          rw [hz'] at hzr
          have : ∀ {ps : List PV} {vs : List Value}, RepL y1 (ps.map .pv) vs → RepPs y1.w y1.okP ps fun i => vs[i]? := by
            intro ps
            induction ps with
            | nil => intro vs _; simp [RepPs]
            | cons p ps ih =>
              intro vs hl
              cases vs with
              | nil => exact hl.elim
              | cons u us =>
                simp only [RepPs]
                exact ⟨⟨u, by simp, hl.1.2⟩, by simpa using ih hl.2⟩
          have h7 := this hzr
          simpa using h7
        have zlen : (Builtin.zeroCells zv.cells (j - i)).toList.length = (j - i) * k := by
          rw [Array.length_toList, size_zeroCells, hzs]
        have d0 := rowIs_cut (off := 0) (n := i + (l.length - j)) (by rw [hlen1]; simp only [Row.len]; omega) his1
        simp only [RowIs, Row.cut, Row.esz, List.drop_zero, Nat.zero_mul, Nat.zero_add] at d0
        rw [← List.append_assoc, List.take_left' (by rw [List.length_append, lt_, List.length_drop])] at d0
        obtain ⟨y2, hrun2, hx2, hg2, hs3⟩ := sto_cells (P := P) (p := (i + (l.length - j)) * k) (vs := (Builtin.zeroCells zv.cells (j - i)).toList) (rw' := .recs k (delRow l z i j)) hs2 hlive2 hnv1 (by
            intro u hu
            obtain ⟨q, hq⟩ := List.getElem?_of_mem hu
            have hql : q < (j - i) * zv.cells.size := by
              have := (List.getElem?_eq_some_iff.1 hq).1
              rw [zlen] at this
              rw [hzs]; exact this
            rw [zeroCells_get hql] at hq
            exact hz1 u (by have := List.mem_of_getElem? (l := zv.cells.toList) (by simpa using hq); exact this)) (by rw [hlen1]; simp only [Row.len]; exact len_delRow hij hj) rfl (by
            rw [zlen, hlen1]
            simp only [Row.len, Row.esz]
            rw [← Nat.add_mul]
            exact Nat.mul_le_mul_right _ (by omega)) hh1 (by
            simp only [RowIs, delRow]
            rw [← List.append_assoc]
            refine repPss_append (repPss_congr d0 fun q hq => ?_) ?_
            · rw [List.length_append, lt_, List.length_drop] at hq
              rw [if_neg (by omega)]
            · subst hzl
              refine repPss_repl hzp hzs hk0 fun q hq => ?_
              rw [List.length_append, lt_, List.length_drop, if_pos (by rw [zlen]; omega), show (i + (l.length - j)) * z.length + q - (i + (l.length - j)) * z.length = q by omega, zeroCells_get (by rw [hzs]; exact hq), hzs])
        have hg1 : y1.g = x.g := hg1
        rw [hg1] at hrun2
        have hcl : ∀ ty, (Builtin.clear_ #[ρ.t 22] ty #[.slice (some ⟨x.g.rb 0, 0 + (i + (l.length - j)) * k, none⟩) (l.length - (i + (l.length - j))) (cap - (i + (l.length - j)))]).run P y1.w = .ok (.tuple #[]) y2.w := by
          intro ty
          rw [Nat.zero_add, show l.length - (i + (l.length - j)) = j - i by omega]
          obtain ⟨n', hn'⟩ : ∃ n', j - i = n' + 1 := ⟨j - i - 1, by omega⟩
          rw [hn'] at hrun2 ⊢
          simp [Builtin.clear_, run_underlying L.t22, hzv, hrun2]
        have hcalls := del_some L (x.g.rb 0) 0 cap l.length i j news x.w y1.w y2.w hcap (by omega) hlt hj hnl (fun t u ht => by
          have := hng t u ht
          rw [Nat.zero_add]
          unfold World.cell?
          rw [show (⟨x.g.rb 0, j * k + t, none⟩ : Addr).block = x.g.rb 0 from rfl, hh]
          simpa using this) hn1 hcell hW1 hcl
        refine Calls.mono hcalls ?_
        rintro e w' ⟨rfl, rfl⟩
        have hgy : y2.g = x.g := hg2.trans hg1
        refine ⟨_, y2, rfl, rfl, hgr.ext.trans (hx1.trans hx2), fun o ho => absurd ho (Nat.not_lt_zero _), hs3.lk fun q => ?_, ⟨rfl, by rw [hgy]; exact hU0, by rw [hgy]; omega, .inr ⟨_, 0, cap, rfl, by omega, by simp, fun _ => ?_⟩⟩⟩
        · simp only [number, List.map_cons, List.map_nil]
          by_cases hq : q = 0
          · subst hq; simp [lkup_cons]
          · simp [lkup_cons, hq]
        · rw [hgy]
          exact ⟨rfl, by simp, hfit⟩
  · cases hb
end Go.Ev

