/- Stores, new variables, composite values. No program in sight. -/
import Derived.Test.YtjjakdmcnkldoaaQEvH
namespace Go.Ev
set_option linter.unusedVariables false
set_option linter.unusedSimpArgs false

/-- A world in which one block holds something else. -/
def setBlk (w : World) (b : Nat) (o : Go.Obj) : World := { w with heap := w.heap.setIfInBounds b o }
theorem setBlk_same {w : World} {b : Nat} {o : Go.Obj} (h : b < w.heap.size) : (setBlk w b o).heap[b]? = some o := by simp [setBlk, h]
theorem setBlk_other {w : World} {b b' : Nat} {o : Go.Obj} (h : b' ≠ b) : (setBlk w b o).heap[b']? = w.heap[b']? := by
  simp only [setBlk]
  rw [Array.getElem?_setIfInBounds]
  rw [if_neg (fun he => h he.symm)]
theorem setBlk_size {w : World} {b : Nat} {o : Go.Obj} : (setBlk w b o).heap.size = w.heap.size := by simp [setBlk]
theorem setCell_setBlk {w : World} {b off : Nat} {v : Value} {c : Array Value} {e : TypeId} {fr : Nat × Nat} (h : w.heap[b]? = some (.cells c e fr)) :
    w.setCell ⟨b, off, none⟩ v = setBlk w b (.cells (c.setIfInBounds off v) e fr) := by
  unfold World.setCell setBlk
  congr 1
  apply Array.ext_getElem?
  intro i
  rw [Array.getElem?_modify, Array.getElem?_setIfInBounds]
  have hb : b < w.heap.size := by
    rcases Nat.lt_or_ge b w.heap.size with h' | h'
    · exact h'
    · simp [Array.getElem?_eq_none h'] at h
  by_cases he : b = i
  · subst he
    obtain ⟨lo, hi⟩ := fr
    have h2 : w.heap[b] = .cells c e (lo, hi) := by rw [Array.getElem?_eq_getElem hb] at h; exact Option.some.inj h
    simp [hb, h2]
  · simp [he]
theorem run_storeCells {P : Program} {b : Nat} {e : TypeId} {fr : Nat × Nat} {off : Nat} : ∀ {vs : List Value} {w : World} {c : Array Value} {i : Nat}, w.heap[b]? = some (.cells c e fr) → NoFr c fr →
    off + i + vs.length ≤ c.size → (∀ v ∈ vs, v.oneCell' = true) →
    (storeCells ⟨b, off, none⟩ vs i).run P w = .ok () (setBlk w b (.cells (setL c.toList (off + i) vs).toArray e fr))
  | [], w, c, i, h, hn, hl, h1 => by
    simp only [storeCells, Sem.run_pure, setL, Array.toArray_toList]
    have : setBlk w b (.cells c e fr) = w := by
      unfold setBlk
      have : w.heap.setIfInBounds b (.cells c e fr) = w.heap := by
        apply Array.ext_getElem?
        intro j
        rw [Array.getElem?_setIfInBounds]
        split
        · rename_i hj; subst hj
          split
          · exact h.symm
          · rename_i hlt; simp [Array.getElem?_eq_none (Nat.le_of_not_lt hlt)] at h
        · rfl
      rw [this]
    rw [this]
  | v :: vs, w, c, i, h, hn, hl, h1 => by
    simp only [List.length_cons] at hl
    have hb : b < w.heap.size := by
      rcases Nat.lt_or_ge b w.heap.size with h' | h'
      · exact h'
      · simp [Array.getElem?_eq_none h'] at h
    have hcell : w.cell? ⟨b, off + i, none⟩ = some c[off + i] := by
      simp [World.cell?, h, show off + i < c.size by omega]
    have hfr : w.frozen? ⟨b, off + i, none⟩ = false := by
      have := hn.at (off + i) (by omega)
      simp only [World.frozen?, h]
      simp only [Bool.and_eq_false_iff, decide_eq_false_iff_not]
      omega
    have hst : (store ⟨b, off + i, none⟩ v).run P w = .ok () (setBlk w b (.cells (c.setIfInBounds (off + i) v) e fr)) := by
      rw [run_store P w _ v .plain (h1 v (by simp))]
      simp only [stored, hcell, hfr]
      rw [← setCell_setBlk h]
      rfl
    have h2 : (setBlk w b (.cells (c.setIfInBounds (off + i) v) e fr)).heap[b]? = some (.cells (c.setIfInBounds (off + i) v) e fr) := setBlk_same hb
    have ih := run_storeCells (P := P) (vs := vs) (off := off) (fr := fr) (i := i + 1) h2 (by unfold NoFr at hn ⊢; rw [Array.size_setIfInBounds]; exact hn) (by rw [Array.size_setIfInBounds]; omega) (fun u hu => h1 u (by simp [hu]))
    simp only [storeCells, Sem.run_bind, Addr.add_lit, hst, Result.andThen_ok, ih]
    have : setBlk (setBlk w b (.cells (c.setIfInBounds (off + i) v) e fr)) b (.cells (setL (c.setIfInBounds (off + i) v).toList (off + (i + 1)) vs).toArray e fr) =
        setBlk w b (.cells (setL c.toList (off + i) (v :: vs)).toArray e fr) := by
      unfold setBlk
      simp only [Array.setIfInBounds_setIfInBounds, setL, Array.toList_setIfInBounds, Nat.add_assoc]
    rw [this]
theorem repL_set {x : Cx} : ∀ {l : List CV} {vs : List Value} {i : Nat} {c : CV} {v : Value}, RepL x l vs → v.oneCell' = true → RepC x c v → RepL x (l.set i c) (vs.set i v)
  | [], [], _, _, _, _, _, _ => trivial
  | d :: l, u :: vs, 0, c, v, h, h1, hc => ⟨⟨h1, hc⟩, h.2⟩
  | d :: l, u :: vs, i + 1, c, v, h, h1, hc => ⟨h.1, repL_set h.2 h1 hc⟩
theorem repL_setL {x : Cx} : ∀ {cs : List CV} {us : List Value} {l : List CV} {vs : List Value} {i : Nat}, RepL x l vs → RepL x cs us → RepL x (setL l i cs) (setL vs i us)
  | [], [], l, vs, i, h, _ => h
  | c :: cs, u :: us, l, vs, i, h, hc => by
    simp only [setL]
    exact repL_setL (repL_set h hc.1.1 hc.1.2) hc.2
theorem length_setL {α : Type} : ∀ {cs l : List α} {i : Nat}, (setL l i cs).length = l.length
  | [], l, i => rfl
  | c :: cs, l, i => by simp only [setL]; rw [length_setL]; simp
theorem getElem?_setL {α : Type} : ∀ {cs l : List α} {i j : Nat}, (setL l i cs)[j]? = if i ≤ j ∧ j < i + cs.length ∧ j < l.length then cs[j - i]? else l[j]?
  | [], l, i, j => by simp only [setL, List.length_nil]; rw [if_neg (by omega)]
  | c :: cs, l, i, j => by
    simp only [setL]
    rw [getElem?_setL]
    simp only [List.length_set, List.length_cons, List.getElem?_set]
    by_cases h1 : i + 1 ≤ j ∧ j < i + 1 + cs.length ∧ j < l.length
    · rw [if_pos h1, if_pos (by omega)]
      rw [show j - i = j - (i + 1) + 1 by omega]; simp
    · rw [if_neg h1]
      by_cases h2 : i = j
      · subst h2
        by_cases h3 : i < l.length
        · simp [h3]
        · rw [if_neg (by omega : ¬ (i ≤ i ∧ i < i + (cs.length + 1) ∧ i < l.length))]; simp [List.getElem?_eq_none (Nat.le_of_not_lt h3), h3]
      · rw [if_neg h2]
        rw [if_neg (by omega)]

theorem repA_cells {x : Cx} {a : AV} {v : Value} (h : RepA x a v) : RepL x a.cells v.cells.toList := by
  cases a with
  | one c =>
    have : v.cells = #[v] := by cases v <;> first | rfl | (exact absurd h.1 (by simp [Value.oneCell']))
    rw [this]
    exact ⟨h, trivial⟩
  | agg l =>
    obtain ⟨cs, rfl, hl⟩ := h
    exact hl
theorem repL_one {x : Cx} : ∀ {l : List CV} {vs : List Value}, RepL x l vs → ∀ v ∈ vs, v.oneCell' = true
  | [], [], _ => by simp
  | _ :: _, _ :: _, hl => by
    intro v hv
    rcases List.mem_cons.1 hv with rfl | hv
    · exact hl.1.1
    · exact repL_one hl.2 v hv

/-- A block of the frame's own holds something else. -/
def Cx.put (x : Cx) (b : Nat) (o : Go.Obj) : Cx := { x with w := setBlk x.w b o }
theorem Cx.ext_put {x : Cx} {b : Nat} {o : Go.Obj} (h : x.S b) : Ext x (x.put b o) :=
  ⟨rfl, rfl, rfl, by simp [Cx.put, setBlk_size], fun b' hb hS => setBlk_other (fun he => hS (he ▸ h)), fun _ hb => .inl hb, rfl⟩

theorem says_storeO {P : Program} {x : Cx} {ti : TI} {t : TypeId} {objs : List (Nat × Obj)} {rows : List (Nat × RowB)} {o off : Nat} {ob : Obj} {a : AV} {u : Value} (ht : tinfo P t = some ti) (hs : Sto x objs rows) (hu : x.g.U o)
    (ha : RepA x a u) (hn : a.cells.length = ti.size) (hob : lkup o objs = some ob) (hlen : off + ti.size ≤ ob.length) :
    ∃ y, (Instr.storeAt t (.pointer (some ⟨x.g.ob o, off, none⟩)) u).run P x.w = .ok () y.w ∧ Ext x y ∧ y.g = x.g ∧ Sto y ((o, setL ob off a.cells) :: objs) rows := by
  obtain ⟨_, hS, c, e, fr, hh, hnf, hl⟩ := hs.obj _ _ hob
  have hac := repA_cells ha
  have hacl := repL_length hac
  have hcl := repL_length hl
  simp only [Array.length_toList] at hcl
  have hx : Ext x (x.put (x.g.ob o) (.cells (setL c.toList off u.cells.toList).toArray e fr)) := Cx.ext_put hS
  refine ⟨x.put (x.g.ob o) (.cells (setL c.toList off u.cells.toList).toArray e fr), ?_, hx, rfl, ?_⟩
  · have hrun := run_storeCells (P := P) (off := off) (vs := u.cells.toList) (i := 0) hh hnf (by omega) (repL_one hac)
    have hsz : u.cells.size = ti.size := by rw [← hn, hacl]; simp
    simp only [Instr.storeAt, Instr.sureAddr, pure_bind, storeVar, Sem.run_bind, run_sizeOf' ht, Result.andThen_ok, hsz, ne_eq, not_true_eq_false, if_false, Sem.run_pure]
    simp only [Nat.add_zero] at hrun
    exact hrun
  · have hother : ∀ b, b ≠ x.g.ob o → (x.put (x.g.ob o) (.cells (setL c.toList off u.cells.toList).toArray e fr)).w.heap[b]? = x.w.heap[b]? := fun b hb => setBlk_other hb
    refine ⟨?_, ?_, ?_, ?_, hs.injR, ?_, fun b hb => by simp only [Cx.put, setBlk_size]; exact hs.Slt b hb, fun b hb => by simp only [Cx.put, setBlk_size]; exact hs.Blt b hb, hs.SB⟩
    · intro o' l' hl'
      rw [lkup_cons] at hl'
      split at hl'
      · rename_i he
        cases hl'
        rw [he]
        refine ⟨hu, hS, _, e, fr, setBlk_same (hs.Slt _ hS), ?_, ?_⟩
        · unfold NoFr at hnf ⊢; simpa only [List.size_toArray, length_setL, Array.length_toList] using hnf
        · have := repL_setL (i := off) (hl.mono hx (G.Le.refl _)) (hac.mono hx (G.Le.refl _))
          simpa using this
      · rename_i hne
        obtain ⟨h1, h2, h3⟩ := hs.obj o' l' hl'
        exact ⟨h1, h2, h3.mono hx (G.Le.refl _) (hother _ (fun he => hne (hs.injO _ _ _ _ hl' hob he)))⟩
    · intro r rw' hl'
      obtain ⟨h1, h2 | ⟨hnv, h2, h3⟩⟩ := hs.liveC hl'
      · exact ⟨h1, .inr h2⟩
      · exact ⟨h1, .inl ⟨h2, h3.mono hx (G.Le.refl _) h1 (hother _ (fun he => hs.injX _ _ _ _ hob hl' hnv he.symm))⟩⟩
    · intro r rw' hl'
      obtain ⟨h1, h2⟩ := hs.froz r rw' hl'
      exact ⟨h1, h2.imp (fun ⟨h2, h3⟩ => ⟨hx.okP h2, h3.mono hx (G.Le.refl _) h1 (hother _ (fun he => h2.2.1 (he ▸ hS)))⟩) id⟩
    · intro o1 o2 l1 l2 h1 h2 he
      rw [lkup_cons] at h1 h2
      split at h1 <;> split at h2
      · omega
      · rename_i e1 e2; rw [e1] at he ⊢; exact (hs.injO _ _ _ _ hob h2 he)
      · rename_i e1 e2; rw [e2] at he ⊢; exact (hs.injO _ _ _ _ h1 hob he)
      · exact hs.injO _ _ _ _ h1 h2 he
    · intro o1 r l1 rw1 h1 h2
      rw [lkup_cons] at h1
      split at h1
      · rename_i e1; rw [e1]; exact hs.injX _ _ _ _ hob h2
      · exact hs.injX _ _ _ _ h1 h2

/-! ### Stores into rows -/
theorem repPs_set {w : World} {ok : Nat → Prop} : ∀ {ps : List PV} {f : Nat → Option Value} {i : Nat} {p : PV} {v : Value}, RepPs w ok ps f → RepP w ok ok p v →
    RepPs w ok (ps.set i p) fun j => if j = i then some v else f j
  | [], f, i, p, v, h, hp => by simp [RepPs]
  | q :: ps, f, 0, p, v, h, hp => by
    simp only [RepPs, List.set_cons_zero] at h ⊢
    refine ⟨⟨v, by simp, hp⟩, ?_⟩
    simpa using h.2
  | q :: ps, f, i + 1, p, v, h, hp => by
    simp only [RepPs, List.set_cons_succ] at h ⊢
    refine ⟨by simpa using h.1, ?_⟩
    have := repPs_set (i := i) h.2 hp
    simpa using this
theorem repPs_congr {w : World} {ok : Nat → Prop} : ∀ {ps : List PV} {f g : Nat → Option Value}, RepPs w ok ps f → (∀ i, i < ps.length → f i = g i) → RepPs w ok ps g
  | [], f, g, h, _ => by simp [RepPs]
  | p :: ps, f, g, h, he => by
    simp only [RepPs] at h ⊢
    refine ⟨by rw [← he 0 (by simp)]; exact h.1, repPs_congr h.2 (fun i hi => he (i + 1) (by simp; omega))⟩
theorem repPss_congr {w : World} {ok : Nat → Prop} {sz : Nat} : ∀ {l : List (List PV)} {f g : Nat → Option Value}, RepPss w ok sz l f → (∀ i, i < l.length * sz → f i = g i) → RepPss w ok sz l g
  | [], f, g, h, _ => by simp [RepPss]
  | e :: l, f, g, h, he => by
    simp only [RepPss] at h ⊢
    refine ⟨h.1, repPs_congr h.2.1 (fun i hi => he i (by rw [List.length_cons, Nat.add_mul]; omega)), repPss_congr h.2.2 (fun i hi => he (i + sz) (by rw [List.length_cons, Nat.add_mul]; omega))⟩
theorem repPs_setL {x : Cx} : ∀ {qs : List PV} {us : List Value} {ps : List PV} {f : Nat → Option Value} {i : Nat}, RepPs x.w x.okP ps f → RepPv x qs us → RepPs x.w x.okP (setL ps i qs) fun j => if i ≤ j ∧ j < i + us.length then us[j - i]? else f j
  | [], [], ps, f, i, h, _ => by
    simp only [setL]
    exact repPs_congr h (fun j _ => by simp only [List.length_nil]; rw [if_neg (by omega)])
  | q :: qs, u :: us, ps, f, i, h, hq => by
    simp only [setL]
    have h1 := repPs_set (i := i) h hq.1
    have h2 := repPs_setL (i := i + 1) h1 hq.2
    refine repPs_congr h2 (fun j _ => ?_)
    simp only [List.length_cons]
    by_cases hA : i + 1 ≤ j ∧ j < i + 1 + us.length
    · rw [if_pos hA, if_pos (by omega), show j - i = j - (i + 1) + 1 by omega]; simp
    · rw [if_neg hA]
      by_cases hB : j = i
      · subst hB; simp
      · rw [if_neg hB, if_neg (by omega)]
theorem repPss_set {w : World} {ok : Nat → Prop} {sz : Nat} : ∀ {l : List (List PV)} {f : Nat → Option Value} {i : Nat} {e : List PV} {g : Nat → Option Value}, RepPss w ok sz l f → e.length = sz → i < l.length → RepPs w ok e (fun j => g (i * sz + j)) →
    (∀ j, (j < i * sz ∨ (i + 1) * sz ≤ j) → g j = f j) → RepPss w ok sz (l.set i e) g
  | [], f, i, e, g, h, _, hi, _, _ => by simp at hi
  | d :: l, f, 0, e, g, h, he, hi, hg, hsame => by
    simp only [RepPss, List.set_cons_zero] at h ⊢
    refine ⟨he, by simpa using hg, repPss_congr h.2.2 (fun i hi => (hsame (i + sz) (.inr (by omega))).symm)⟩
  | d :: l, f, i + 1, e, g, h, he, hi, hg, hsame => by
    simp only [RepPss, List.set_cons_succ] at h ⊢
    simp only [List.length_cons] at hi
    refine ⟨h.1, repPs_congr h.2.1 (fun j hj => (hsame j (.inl (by rw [Nat.add_mul]; omega))).symm), ?_⟩
    refine repPss_set h.2.2 he (by omega) ?_ (fun j hj => ?_)
    · have e1 : (fun j => g (i * sz + j + sz)) = fun j => g ((i + 1) * sz + j) := funext fun j => by congr 1; rw [Nat.add_mul]; omega
      rw [e1]; exact hg
    · refine hsame (j + sz) ?_
      rw [Nat.add_mul] at hj
      rw [Nat.add_mul, Nat.add_mul]
      rcases hj with hj | hj
      · exact .inl (by omega)
      · exact .inr (by rw [Nat.add_mul]; omega)

theorem rowIs_put {R : Type} {x : Cx} {rw : Row} {i fo : Nat} {ps : List PV} {us : List Value} {f : Nat → Option Value} {k : Row → Ans R} {r : R} (hrow : RowIs x.w x.okP rw f) (hi : i < rw.len) (hps : RepPv x ps us) (h : Says (rw.put i fo ps k) r) :
    ∃ rw', Says (k rw') r ∧ rw'.len = rw.len ∧ rw'.esz = rw.esz ∧ fo + us.length ≤ rw.esz ∧
      RowIs x.w x.okP rw' fun j => if i * rw.esz + fo ≤ j ∧ j < i * rw.esz + fo + us.length then us[j - (i * rw.esz + fo)]? else f j := by
  unfold Row.put at h
  cases rw with
  | ints kd l =>
    simp only at h
    split at h
    · rename_i kd' n
      obtain ⟨hb, h1⟩ := says_chk h
      simp only [Bool.and_eq_true, decide_eq_true_eq] at hb
      have hfo := Nat.eq_of_beq_eq_true hb.2
      match us, hps with
      | [u], hps =>
        have hu : u = .int kd' n := by simpa only [RepP] using hps.1
        refine ⟨_, h1, by simp [Row.len], rfl, by simp [Row.esz, hfo], ?_⟩
        intro j hj
        simp only [List.length_set] at hj
        simp only [Row.esz, Nat.mul_one, hfo, Nat.add_zero, List.length_singleton]
        by_cases he : i = j
        · subst he
          rw [if_pos (by omega)]
          simp [hu, hb.1, List.getD, hj]
        · rw [if_neg (by omega), hrow j hj]
          simp [List.getD, List.getElem?_set, he]
    · exact (says_none h).elim
  | bools l =>
    simp only at h
    split at h
    · rename_i n
      obtain ⟨hb, h1⟩ := says_chk h
      have hfo := Nat.eq_of_beq_eq_true hb
      match us, hps with
      | [u], hps =>
        have hu : u = .bool n := by simpa only [RepP] using hps.1
        refine ⟨_, h1, by simp [Row.len], rfl, by simp [Row.esz, hfo], ?_⟩
        intro j hj
        simp only [List.length_set] at hj
        simp only [Row.esz, Nat.mul_one, hfo, Nat.add_zero, List.length_singleton]
        by_cases he : i = j
        · subst he
          rw [if_pos (by omega)]
          simp [hu, List.getD, hj]
        · rw [if_neg (by omega), hrow j hj]
          simp [List.getD, List.getElem?_set, he]
    · exact (says_none h).elim
  | recs sz l =>
    simp only at h
    obtain ⟨hb, h1⟩ := says_chk h
    have hle := Nat.le_of_ble_eq_true hb
    have hpl := hps.length
    have hi' : i < l.length := hi
    have hat := repPss_at (i := i) (e := l.getD i []) hrow (by simp [List.getD, hi'])
    refine ⟨_, h1, by simp [Row.len], rfl, by simp only [Row.esz]; omega, ?_⟩
    show RepPss x.w x.okP sz (l.set i (setL (l.getD i []) fo ps)) fun j => if i * sz + fo ≤ j ∧ j < i * sz + fo + us.length then us[j - (i * sz + fo)]? else f j
    refine repPss_set hrow (by rw [length_setL]; exact hat.1) hi' ?_ (fun j hj => ?_)
    · refine repPs_congr (repPs_setL (i := fo) hat.2 hps) (fun j hj => ?_)
      by_cases hA : fo ≤ j ∧ j < fo + us.length
      · rw [if_pos hA, if_pos (by omega)]
        congr 1; omega
      · rw [if_neg hA, if_neg (by omega)]
    · rw [if_neg]
      rw [Nat.add_mul] at hj
      omega
end Go.Ev
