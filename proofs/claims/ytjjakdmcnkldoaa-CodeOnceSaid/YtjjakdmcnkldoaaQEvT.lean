/- Any operation: with calls, builtins, stores. No program in sight. -/
import Derived.Test.YtjjakdmcnkldoaaQEvS
namespace Go.Ev
set_option linter.unusedVariables false
set_option linter.unusedSimpArgs false

/-- An operation is carried out: what it leaves meets T. -/
def Goes (P : Program) (x : Cx) (nw : Nat → Prop) (s : St) (o : Oper) (a : Act) (T : SV → St → Prop) : Prop :=
  ∀ (K : Act → World → Prop) (Q : Exit → Act → World → Prop), (∀ u sv s' y, Ext x y → x.g.Le y.g → (∀ n, y.g.U n → x.g.U n ∨ nw n) → Sto y s'.objs s'.rows → s'.slots = s.slots → RepS y sv u → T sv s' → K (a.put o.dst u) y.w) → o.wp P a x.w K Q

theorem TurnsN.goes {R : Type} {P : Program} {x : Cx} {nw nw' : Nat → Prop} {s : St} {o : Oper} {a : Act} {k : SV → St → Ans R} {r : R} {T : SV → St → Prop} (h : TurnsN P x nw s (execOp a.eval o) k r)
    (hn : ∀ n, nw n → nw' n) (hT : ∀ sv s', Says (k sv s') r → T sv s') : Goes P x nw' s o a T := by
  obtain ⟨u, sv, s', y, hr, hx, hle, hU, hs, hsl, hv, h1⟩ := h
  intro K Q hK
  unfold Oper.wp
  rw [hr]
  exact hK u sv s' y hx hle (fun n hu => (hU n hu).imp id (hn n)) hs hsl hv (hT _ _ h1)

theorem rep_undef {x : Cx} : RepS x (.tup []) undef := ⟨#[], rfl, trivial⟩

theorem ownsOf_mem {l : List CV} {r : Nat} (h : r ∈ ownsOf l) : ∃ off n t, CV.own r off n t ∈ l := by
  induction l with
  | nil => simp [ownsOf] at h
  | cons c l ih =>
    rcases ownsOf_cons.1 h with h | h
    · cases c <;> simp [ownsOf] at h
      subst h
      exact ⟨_, _, _, List.mem_cons_self⟩
    · obtain ⟨off, n, t, hm⟩ := ih h
      exact ⟨off, n, t, List.mem_cons_of_mem _ hm⟩
theorem lentOk_spec {xs : List SV} {rs : List Nat} (h : lentOk xs rs = true) : ∀ r ∈ ownsOf (xs.flatMap SV.cells), mem r rs = false := by
  intro r hr
  obtain ⟨off, n, t, hm⟩ := ownsOf_mem hr
  unfold lentOk at h
  have := List.all_eq_true.1 h _ hm
  simpa using this

theorem rep_tupOf {x : Cx} {l : List AV} {v : Value} : RepS x (tupOf l) v ↔ (∃ a, l = [a] ∧ RepA x a v) ∨ ((∀ a, l ≠ [a]) ∧ ∃ vs, v = .tuple vs ∧ RepAs x l vs.toList) := by
  match l with
  | [] => simp [tupOf, RepS]
  | [a] => simp [tupOf, RepS]
  | a :: b :: l => simp [tupOf, RepS]

theorem run_call {P : Program} {a : Act} {o : Oper} {f : FuncId} {args : Array Operand} {ts : Array TypeId} {fn : Func} {c : Code} {w : World} (ho : o.op = .call { callee := .value (.func f), args := args, argTypes := ts })
    (hf : P.funcs[f]? = some fn) (hb : fn.body = some c) (hn : (fn.name == "runtime.NumGoroutine") = false) : (execOp a.eval o).run P w = .ok (.enter f (args.map a.eval)) w := by
  have hn' : ¬ fn.name = "runtime.NumGoroutine" := by simpa using hn
  simp [execOp, ho, resolve, Act.eval, Deferred.ofValue, invoke, callFunc, hf, hb, hn', program, Sem.run, Sem.bind, Result.andThen]

theorem says_call {R : Type} {V : Env} {x : Cx} {s : St} {a : Act} {o : Oper} {f : FuncId} {args : Array Operand} {ts : Array TypeId} {xs : List SV} {tl : List TypeId} {nm : Nat → Nat} {sc : List Ev} {k : List Ev → SV → St → Ans R} {r : R}
    (hV : ∀ f as objs rows res, V.call f as objs rows res → Runs V.P f as objs rows res)
    (ho : o.op = .call { callee := .value (.func f), args := args, argTypes := ts }) (hs : Sto x s.objs s.rows) (hx : RepSs x xs (args.toList.map a.eval)) (hn : ∀ j, ¬ x.g.U (nm j)) (hinj : ∀ i j, nm i = nm j → i = j)
    (h : Says (evCall V f xs tl nm s sc k) r) : Goes V.P x (fun n => ∃ j, n = nm j) s o a fun sv s' => ∃ sc, Says (k sc sv s') r := by
  intro K Q hK
  unfold evCall at h
  -- what is handed over
  have hpass : ∃ (as : List AV) (s1 : St) (y1 : Cx), Ext x y1 ∧ y1.g = x.g ∧ y1.w = x.w ∧ Sto y1 s1.objs s1.rows ∧ s1.slots = s.slots ∧
      (∀ (p : Part) (B : Nat → Prop), PartOk y1 s1 p B → lentOk xs p.rs = true → RepAs (p.cx y1 B) (as.map (AV.map (p.f s1.rows))) (args.toList.map a.eval)) ∧
      Says (match part [] (as.flatMap AV.cells) s1, sc with
        | some p, .res r :: sc => chk (lentOk xs p.rs) fun _ =>
          obl (V.call f (as.map (AV.map (p.f s1.rows))) p.objs p.rows r) (chk (Nat.ble p.objs.length r.2.1.length) fun _ =>
            k sc (tupOf (r.1.map (AV.map (backC p.os nm)))) { s1 with objs := backObjs p.os nm 0 r.2.1 ++ s1.objs, rows := backRows nm 0 r.2.2 ++ goneRows p.rs ++ s1.rows })
        | _, _ => none) r := by
    cases hb : mem f V.C.bor with
    | false =>
      rw [hb] at h
      obtain ⟨as, s1, y1, h1, h2, h3, h4, h5, h6, h7⟩ := says_passA0 hs hx h
      exact ⟨as, s1, y1, h1, h2, h3, h4, h5, fun p B hp _ => repAs_part hp h6, h7⟩
    | true =>
      rw [hb] at h
      obtain ⟨as, h6, h7⟩ := says_passA1 hs hx (fun r hr => hr) h
      exact ⟨as, s, x, Ext.refl x, rfl, rfl, hs, rfl, fun p B hp hl => lentAs_part hp (lentOk_spec hl) h6, h7⟩
  clear h
  obtain ⟨as, s1, y1, hxy, hg, hw, hs1, hsl1, hrep, h⟩ := hpass
  split at h
  · rename_i p r' sc' hpart
    obtain ⟨hlent, h⟩ := says_chk h
    obtain ⟨hcall, h⟩ := says_obl h
    obtain ⟨hlen, h⟩ := says_chk h
    have hp : PartOk y1 s1 p (fun b => y1.B b ∨ (y1.S b ∧ ¬ p.S y1 b)) := part_ok hs1 hpart (fun _ hb => hb)
    obtain ⟨⟨fn, c, hf, hb, hne⟩, hout, hle0, hrun⟩ := hV _ _ _ _ _ hcall
    have hcalls := hrun (p.cx y1 fun b => y1.B b ∨ (y1.S b ∧ ¬ p.S y1 b)) (args.toList.map a.eval) hp.sto (fun n hu => by rw [hp.olen, hp.rlen]; exact hu) (hrep _ _ hp hlent)
    unfold Oper.wp
    rw [run_call ho hf hb hne]
    have hvals : (args.toList.map a.eval).toArray = args.map a.eval := by apply Array.ext'; simp
    rw [hvals] at hcalls
    have hcw : (p.cx y1 fun b => y1.B b ∨ (y1.S b ∧ ¬ p.S y1 b)).w = x.w := hw
    rw [hcw] at hcalls
    refine Calls.mono hcalls ?_
    rintro e w' ⟨v, z, rfl, rfl, hxz, hpin, hstoz, hrepz⟩
    unfold okOutRes at hout
    simp only [Bool.and_eq_true, List.all_eq_true] at hout
    have H : BackH y1 s1 p z nm r'.2.1 r'.2.2 := {
      hs := hs1, hp := hp, hx := hxz, pin := hpin, sto := hstoz, len := hle0
      out := fun l hl c hc => hout.2 l hl c hc
      fresh := fun j hu => hn j (by rw [hg] at hu; exact hu)
      inj := hinj }
    refine hK v (tupOf (r'.1.map (AV.map (backC p.os nm)))) { s1 with objs := backObjs p.os nm 0 r'.2.1 ++ s1.objs, rows := backRows nm 0 r'.2.2 ++ goneRows p.rs ++ s1.rows } (backX y1 z p nm) (hxy.trans (back_ext H)) (by have := back_le H; rw [hg] at this; exact this) ?_ (back_sto H) hsl1 ?_ ⟨_, h⟩
    · intro n hu
      rcases hu with hu | hu
      · exact .inl (by rw [hg] at hu; exact hu)
      · exact .inr hu
    · have hob : ∀ c ∈ r'.1.flatMap AV.cells, okOut c = true := hout.1
      rcases rep_tupOf.1 hrepz with ⟨av, h1, h2⟩ | ⟨h1, vs, h2, h3⟩
      · rw [h1]
        refine rep_tupOf.2 (.inl ⟨_, rfl, back_repA H (fun c hc => hob c (by rw [h1]; simpa using hc)) h2⟩)
      · refine rep_tupOf.2 (.inr ⟨?_, vs, h2, back_repAs H hob h3⟩)
        intro av heq
        cases hr1 : r'.1 with
        | nil => rw [hr1] at heq; simp at heq
        | cons b l =>
          rw [hr1] at heq
          simp only [List.map_cons, List.cons.injEq, List.map_eq_nil_iff] at heq
          exact h1 b (by rw [hr1, heq.2])
  · exact (says_none h).elim

theorem says_builtin {R : Type} {V : Env} {x : Cx} {s : St} {a : Act} {o : Oper} {b : Builtin} {args : Array Operand} {ts : Array TypeId} {xs : List SV} {nm : Nat} {sc : List Ev} {k : List Ev → SV → St → Ans R} {r : R}
    (ho : o.op = .call { callee := .builtin b, args := args, argTypes := ts }) (hs : Sto x s.objs s.rows) (hx : RepSs x xs (args.toList.map a.eval)) (hn : ¬ x.g.U nm)
    (h : Says (evBuiltin V.P b ts.toList xs nm s sc k) r) : ∃ sc, TurnsN V.P x (· = nm) s (execOp a.eval o) (k sc) r := by
  obtain ⟨cs, hex⟩ : ∃ cs, execOp a.eval o = builtin b ts o.type cs (args.map a.eval) := by
    simp only [execOp, ho, resolve, invoke, pure_bind]
    exact ⟨_, rfl⟩
  rw [hex]
  unfold evBuiltin at h
  split at h
  · rename_i t y hts
    cases hl : args.toList.map a.eval with
    | nil => rw [hl] at hx; exact hx.elim
    | cons v vs =>
      rw [hl] at hx
      cases vs with
      | cons => exact hx.2.elim
      | nil =>
        have e1 : args.map a.eval = #[v] := by apply Array.ext'; simpa using hl
        have e2 : ts = #[t] := by apply Array.ext'; simpa using hts
        rw [e1, e2]
        exact ⟨sc, Gives.next hs (says_len hx.1 h)⟩
  · rename_i t u y z hts
    obtain ⟨hsrc, h1⟩ := says_chk h
    cases hl : args.toList.map a.eval with
    | nil => rw [hl] at hx; exact hx.elim
    | cons v vs =>
      rw [hl] at hx
      cases vs with
      | nil => exact hx.2.elim
      | cons v2 vs =>
        cases vs with
        | cons => exact hx.2.2.elim
        | nil =>
          have e1 : args.map a.eval = #[v, v2] := by apply Array.ext'; simpa using hl
          have e2 : ts = #[t, u] := by apply Array.ext'; simpa using hts
          rw [e1, e2]
          obtain ⟨sc', h2⟩ := says_append (ty := o.type) hs hn hx.1 hx.2.1 hsrc h1
          exact ⟨sc', h2.next⟩
  · rename_i y l
    cases hl : args.toList.map a.eval with
    | nil => rw [hl] at hx; exact hx.elim
    | cons v vs =>
      rw [hl] at hx
      refine ⟨sc, Gives.next hs ?_⟩
      have := says_fold (P := V.P) (g := Builtin.min2) says_min2 hx.1 hx.2 h
      simpa [Builtin.min_, hl] using this
  · rename_i y l
    cases hl : args.toList.map a.eval with
    | nil => rw [hl] at hx; exact hx.elim
    | cons v vs =>
      rw [hl] at hx
      refine ⟨sc, Gives.next hs ?_⟩
      have := says_fold (P := V.P) (g := Builtin.max2) says_max2 hx.1 hx.2 h
      simpa [Builtin.max_, hl] using this
  · exact (says_none h).elim

theorem says_loadE {R : Type} {P : Program} {t : TypeId} {v : SV} {s : St} {sc : List Ev} {k : List Ev → SV → Ans R} {r : R} (h : Says (evLoadE P t v s sc k) r) : ∃ sc', Says (evLoad P t v s (k sc')) r := by
  unfold evLoadE at h
  split at h
  · rename_i sz l tt i fo ps sc'
    obtain ⟨rfl, h1⟩ := says_obl h
    exact ⟨sc', h1⟩
  · rename_i rr i fo ps sc'
    obtain ⟨rb, hrb, h1⟩ := says_get h
    refine ⟨sc', ?_⟩
    split at h1
    · obtain ⟨rfl, h2⟩ := says_obl h1
      obtain ⟨ti, ht, h3⟩ := says_get h2
      unfold evLoad
      simp only [ht, getD', wCv, hrb]
      exact h3
    · obtain ⟨rfl, h2⟩ := says_obl h1
      obtain ⟨ti, ht, h3⟩ := says_get h2
      unfold evLoad
      simp only [ht, getD', wCv, hrb]
      exact h3
    · exact (says_none h1).elim
  · exact ⟨_, h⟩
theorem says_any {R : Type} {V : Env} {x : Cx} {s : St} {a : Act} {o : Oper} {nm : Nat → Nat} {sc : List Ev} {k : List Ev → SV → St → Ans R} {r : R}
    (hV : ∀ f as objs rows res, V.call f as objs rows res → Runs V.P f as objs rows res)
    (hs : Sto x s.objs s.rows) (hsl : Slots x s.slots a) (hn : ∀ j, ¬ x.g.U (nm j)) (hinj : ∀ i j, nm i = nm j → i = j)
    (h : Says (evAny V o.op nm s sc k) r) : Goes V.P x (fun n => ∃ j, n = nm j) s o a fun sv s' => ∃ sc, Says (k sc sv s') r := by
  unfold evAny at h
  split at h
  · rename_i f args ts ho
    obtain ⟨xs, hxs, h1⟩ := says_get h
    exact says_call hV ho hs (rep_opdA hsl hxs) hn hinj h1
  · rename_i b args ts ho
    obtain ⟨xs, hxs, h1⟩ := says_get h
    obtain ⟨sc', h2⟩ := says_builtin ho hs (rep_opdA hsl hxs) (hn 0) h1
    exact h2.goes (fun n hn => ⟨0, hn⟩) (fun sv s' h => ⟨sc', h⟩)
  · rename_i t y z ho
    obtain ⟨v, hv, h1⟩ := says_get h
    obtain ⟨u, hu, h2⟩ := says_get h1
    obtain ⟨s', w, hr, hx, hg, hs', hsl', h3⟩ := says_store hs (rep_opd hsl hv) (rep_opd hsl hu) h2
    intro K Q hK
    have hex : (execOp a.eval o).run V.P x.w = .ok .skip w.w := by simp [execOp, ho, hr]
    unfold Oper.wp
    rw [hex]
    exact hK undef (.tup []) s' w hx (by rw [hg]; exact G.Le.refl _) (fun n hu => .inl (by rw [hg] at hu; exact hu)) hs' hsl' rep_undef ⟨_, h3⟩
  · rename_i t y ho
    obtain ⟨v, hv, h1⟩ := says_get h
    obtain ⟨sc', h2⟩ := says_loadE h1
    obtain ⟨u, av, hrun, hr, h3⟩ := says_load (P := V.P) hs (rep_opd hsl hv) h2
    have hex : execOp a.eval o = (do pure (.value (← Instr.loadAt t (a.eval y)))) := by simp only [execOp, ho]
    have hT : TurnsN V.P x (fun n => n = nm 0) s (execOp a.eval o) (fun sv s' => k sc' sv s') r := by
      rw [hex]
      exact (Turns.same (k := fun sv s' => k sc' sv s') hs h3 hrun hr).next
    exact hT.goes (fun n hn => ⟨0, hn⟩) (fun sv s' h => ⟨sc', h⟩)
  · exact (says_op hs hsl (hn 0) h).goes (fun n hn => ⟨0, hn⟩) (fun sv s' h => ⟨sc, h⟩)
end Go.Ev
