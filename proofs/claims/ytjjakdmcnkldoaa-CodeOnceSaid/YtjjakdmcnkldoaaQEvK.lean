/- Variables, composite values. No program in sight. -/
import Derived.Test.YtjjakdmcnkldoaaQEvJ
namespace Go.Ev
set_option linter.unusedVariables false
set_option linter.unusedSimpArgs false

theorem run_newRow {P : Program} {w : World} {e : TypeId} {c : Array Value} : (newRow e c).run P w = .ok ⟨w.heap.size, 0, none⟩ (w.alloc (.cells c e)) := by
  simp [newRow, newObj, Sem.run]

theorem says_shutL {R : Type} : ∀ {x : Cx} {cs : List CV} {vs : List Value} {s : St} {k : List CV → St → Ans R} {r : R}, Sto x s.objs s.rows → RepL x cs vs → Says (shutL cs s k) r →
    ∃ cs' s' y, Ext x y ∧ y.g = x.g ∧ y.w = x.w ∧ Sto y s'.objs s'.rows ∧ s'.slots = s.slots ∧ s'.objs = s.objs ∧ RepL y cs' vs ∧ Says (k cs' s') r
  | x, [], [], s, k, r, hs, _, h => ⟨[], s, x, Ext.refl x, rfl, rfl, hs, rfl, rfl, trivial, h⟩
  | x, c :: cs, v :: vs, s, k, r, hs, hl, h => by
    unfold shutL at h
    split at h
    · rename_i heq; cases heq
    · rename_i r' off n t cs' heq
      cases heq
      obtain ⟨p, s1, y, hx, hg, hw, hs1, hsl, hso, hp, h1⟩ := says_lastC hs hl.1.2 h
      obtain ⟨ps, s2, z, hx2, hg2, hw2, hs2, hsl2, hso2, hps, h2⟩ := says_shutL hs1 (hl.2.mono hx (by rw [hg]; exact G.Le.refl _)) h1
      exact ⟨.pv p :: ps, s2, z, hx.trans hx2, hg2.trans hg, hw2.trans hw, hs2, hsl2.trans hsl, hso2.trans hso, ⟨⟨hl.1.1, hx2.repP hp⟩, hps⟩, h2⟩
    · rename_i c' cs' _ heq
      cases heq
      obtain ⟨ps, s2, z, hx2, hg2, hw2, hs2, hsl2, hso2, hps, h2⟩ := says_shutL hs hl.2 h
      exact ⟨c :: ps, s2, z, hx2, hg2, hw2, hs2, hsl2, hso2, ⟨⟨hl.1.1, hl.1.2.mono hx2 (by rw [hg2]; exact G.Le.refl _)⟩, hps⟩, h2⟩
theorem says_box {R : Type} {P : Program} {C : Cfg} {x : Cx} {e nm : Nat} {av : SV} {s : St} {v : Value} {k : SV → St → Ans R} {r : R} (hs : Sto x s.objs s.rows) (hn : ¬ x.g.U nm) (hv : RepS x av v) (h : Says (evBox P C e av nm s k) r) :
    Turns P x (· = nm) s (Instr.box e v) k r := by
  obtain ⟨ti, ht, h1⟩ := says_get h
  obtain ⟨a, ha, h2⟩ := says_wAv h1
  obtain ⟨hb, h3⟩ := says_chk h2
  clear h h1 h2
  rw [ha] at hv
  have hcells := repA_cells hv
  have hrun : ∀ w, (Instr.box e v).run P w = .ok (.pointer (some ⟨w.heap.size, 0, none⟩)) (w.alloc (.cells v.cells e)) := by
    intro w
    simp [Instr.box, newVar, run_newRow]
  cases hm : memT e C.immT with
  | true =>
    simp only [hm, cond_true] at h3
    obtain ⟨ps, s1, y, hx, hg, hw, hs1, hsl, hso, hps, h4⟩ := says_lastL hs hcells h3
    have hgr := Cx.grow_last (x := y) (o := .cells v.cells e) hs1.Slt
    refine ⟨_, _, s1, y.last (.cells v.cells e), by rw [hrun]; simp only [Cx.last, hw]; rfl, hx.trans hgr.ext, by rw [← hg]; exact hgr.g, fun n hU => .inl (by rw [← hg]; exact hU), hs1.grow hgr, hsl, ?_, h4⟩
    refine ⟨rfl, ?_⟩
    simp only [RepC, RepP]
    refine ⟨x.w.heap.size, 0, rfl, ⟨?_, ?_, ?_⟩, ?_⟩
    · simp only [Cx.last, World.size_alloc, hw]; omega
    · intro hS; have := hs1.Slt _ hS; rw [hw] at this; omega
    · intro hB; have := hs1.Blt _ hB; rw [hw] at this; omega
    · refine (hps.mono hgr.ext).ps (fun i u hu => ?_)
      have : (y.last (.cells v.cells e)).w.heap[x.w.heap.size]? = some (.cells v.cells e (0, 0)) := by
        show (y.w.alloc _).heap[_]? = _
        rw [← hw]; exact heap_push_new
      simpa [World.cell?, this] using hu
  | false =>
    simp only [hm, cond_false] at h3
    cases hm2 : memT e C.shutT with
    | true =>
      simp only [hm2, cond_true] at h3
      obtain ⟨cs, s1, y, hx, hg, hw, hs1, hsl, hso, hcs, h4⟩ := says_shutL hs hcells h3
      obtain ⟨hg2, hs', hc⟩ := sto_newO (e := e) hs1 (by rw [hg]; exact hn) hcs
      refine ⟨_, cone (.ref nm 0), { s1 with objs := (nm, cs) :: s1.objs }, _, ?_, hx.trans hg2.ext, by rw [← hg]; exact hg2.g, fun n hU => by rw [← hg]; exact hU, hs', hsl, ⟨rfl, hc⟩, h4⟩
      rw [hrun, ← hw]; rfl
    | false =>
    simp only [hm2, cond_false] at h3
    obtain ⟨hg, hs', hc⟩ := sto_newO (e := e) hs hn hcells
    exact ⟨_, cone (.ref nm 0), { s with objs := (nm, a.cells) :: s.objs }, _, hrun _, hg.ext, hg.g, fun n hU => hU, hs', rfl, ⟨rfl, hc⟩, h3⟩

theorem says_alloc {R : Type} {P : Program} {x : Cx} {e nm : Nat} {s : St} {k : SV → St → Ans R} {r : R} (hs : Sto x s.objs s.rows) (hn : ¬ x.g.U nm) (h : Says (evAlloc P e nm s k) r) :
    Turns P x (· = nm) s (Instr.alloc e true (.tuple #[])) k r := by
  obtain ⟨ti, ht, h1⟩ := says_get h
  obtain ⟨v, hz, hl⟩ := run_zeroValue' x ht
  obtain ⟨hg, hs', hc⟩ := sto_newO (e := e) hs hn hl
  refine ⟨_, cone (.ref nm 0), { s with objs := (nm, ti.zero) :: s.objs }, _, ?_, hg.ext, hg.g, fun n hU => hU, hs', rfl, ⟨rfl, hc⟩, h1⟩
  simp [Instr.alloc, hz, newVar, run_newRow, Cx.more]

/-! ### Composite values -/
theorem run_mapM {P : Program} {α β : Type} {w : World} (f : α → Sem β) (g : α → β) : ∀ (l : List α), (∀ a ∈ l, (f a).run P w = .ok (g a) w) → (l.mapM f).run P w = .ok (l.map g) w
  | [], _ => by simp
  | a :: l, h => by
    simp only [List.mapM_cons, Sem.run_bind, h a (by simp), Result.andThen_ok, run_mapM f g l (fun b hb => h b (by simp [hb])), Sem.run_pure, List.map_cons]
theorem run_mapM_array {P : Program} {α β : Type} {w : World} (f : α → Sem β) (g : α → β) (l : Array α) (h : ∀ a ∈ l.toList, (f a).run P w = .ok (g a) w) : (l.mapM f).run P w = .ok (l.map g) w := by
  rw [Array.mapM_eq_mapM_toList]
  simp only [Sem.run_map, run_mapM f g l.toList h, Result.andThen_ok]
  congr 1
  apply Array.ext'
  simp
theorem foldl_set (cs : List Value) : ∀ (a : Array Value) (off j : Nat), ((cs.zipIdx j).foldl (fun b (c, i) => b.setIfInBounds (off + i) c) a).toList = setL a.toList (off + j) cs := by
  induction cs with
  | nil => intro a off j; simp [setL]
  | cons c cs ih =>
    intro a off j
    simp only [List.zipIdx_cons, List.foldl_cons, setL]
    rw [ih]
    simp [Nat.add_assoc]
theorem fill_step {a : Array Value} {v : Value} {off : Nat} : (v.cells.zipIdx.foldl (fun cs (c, j) => cs.setIfInBounds (off + j) c) a).toList = setL a.toList off v.cells.toList := by
  rw [← Array.foldl_toList, Array.toList_zipIdx]
  exact foldl_set _ a off 0
theorem says_fill {R : Type} {P : Program} {x : Cx} {place : Nat → Option (Nat × Nat)} {fs : Nat → Option (Nat × Nat)} (hp : ∀ i z, fs i = some z → place i = some z) :
    ∀ {parts : List (Nat × SV)} {vs : List (Nat × Value)} {cells : List CV} {a : Array Value} {k : List CV → Ans R} {r : R}, RepL x cells a.toList → parts.map (·.1) = vs.map (·.1) → RepSs x (parts.map (·.2)) (vs.map (·.2)) →
      Says (fillL P fs cells parts k) r → ∃ b cs, Instr.fill place a vs = some b ∧ RepL x cs b.toList ∧ Says (k cs) r
  | [], [], cells, a, k, r, hl, _, _, h => ⟨a, cells, rfl, hl, h⟩
  | (i, s) :: parts, (j, v) :: vs, cells, a, k, r, hl, hi, hr, h => by
    simp only [List.map_cons, List.cons.injEq] at hi
    obtain ⟨z, hz, h1⟩ := says_get h
    obtain ⟨av, hav, h2⟩ := says_wAv h1
    obtain ⟨hb, h3⟩ := says_chk h2
    simp only [List.map_cons] at hr
    have hr1 := hr.1
    rw [hav] at hr1
    have hc := repA_cells hr1
    have hlen := repL_length hc
    have hlen2 := repL_length hl
    simp only [Array.length_toList] at hlen hlen2
    simp only [Bool.and_eq_true] at hb
    have hb1 := Nat.eq_of_beq_eq_true hb.1
    have hb2 := Nat.le_of_ble_eq_true hb.2
    obtain ⟨b, cs, hf, hl', h4⟩ := says_fill hp (a := (v.cells.zipIdx.foldl (fun cs (c, j) => cs.setIfInBounds (z.1 + j) c) a)) (by rw [fill_step]; exact repL_setL hl hc) hi.2 hr.2 h3
    refine ⟨b, cs, ?_, hl', h4⟩
    have hpl := hp _ _ hz
    rw [hi.1] at hpl
    simp only [Instr.fill, hpl]
    rw [if_neg]
    · exact hf
    · simp only [Bool.or_eq_true, decide_eq_true_eq]
      omega
theorem says_build {R : Type} {P : Program} {x : Cx} {t : TypeId} {parts : List (Nat × SV)} {vs : Array (Nat × Value)} {k : SV → Ans R} {r : R} (hi : parts.map (·.1) = vs.toList.map (·.1)) (hr : RepSs x (parts.map (·.2)) (vs.toList.map (·.2)))
    (h : Says (evBuild P t parts k) r) : Gives P x (Instr.build t vs) k r := by
  obtain ⟨ti, ht, h1⟩ := says_get h
  obtain ⟨hf, h2⟩ := says_chk h1
  clear h h1
  obtain ⟨z, hz, hl⟩ := run_zeroValue' x ht
  split at h2
  · rename_i fs hu
    have hfs : ∀ fd ∈ fs.toList, ∀ w, (sizeOf fd.type).run P w = .ok (P.cellsOf fd.type) w := by
      intro fd hfd w
      unfold fieldsOk at hf
      simp only [hu, List.all_eq_true] at hf
      have := hf fd hfd
      unfold Program.cellsOf
      cases hinf : P.info? fd.type with
      | none => simp [hinf] at this
      | some i => simp [sizeOf, typeInfo, program, Sem.run, hinf, Result.andThen, Sem.bind]
    have hmap : ∀ w, (fs.mapM fun (f : Field) => do pure (f.offset, ← sizeOf f.type)).run P w = .ok (fs.map fun (f : Field) => (f.offset, P.cellsOf f.type)) w := by
      intro w
      refine run_mapM_array _ _ fs (fun fd hfd => ?_)
      simp [hfs fd hfd w]
    have hplace : ∀ i z, (fieldInfo P t i).map (fun x => (x.1, P.cellsOf x.2)) = some z → (fs.map fun (f : Field) => (f.offset, P.cellsOf f.type))[i]? = some z := by
      intro i z hz
      unfold fieldInfo at hz
      simp only [hu] at hz
      cases hfi : fs[i]? with
      | none => simp [hfi] at hz
      | some fd => simp [hfi] at hz; simp [hfi, hz]
    obtain ⟨b, cs, hfill, hl', h3⟩ := says_fill hplace hl hi hr h2
    refine ⟨.agg b, .av (.agg cs), fun w => ?_, ⟨b, rfl, hl'⟩, h3⟩
    simp only [Instr.build, Sem.run_bind, hz, Result.andThen_ok, run_underlying hu, hmap, hfill, Sem.run_pure]
  · exact (says_none h2).elim
end Go.Ev
