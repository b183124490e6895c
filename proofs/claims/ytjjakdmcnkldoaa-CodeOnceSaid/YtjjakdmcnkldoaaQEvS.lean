/- What a call gives back. No program in sight. -/
import Derived.Test.YtjjakdmcnkldoaaQEvR
namespace Go.Ev
set_option linter.unusedVariables false
set_option linter.unusedSimpArgs false
open Classical in
noncomputable def backG (x y : Cx) (nm : Nat → Nat) : G where
  ob n := if h : ∃ j, n = nm j then y.g.ob h.choose else x.g.ob n
  rb n := if h : ∃ j, n = nm j then y.g.rb h.choose else x.g.rb n
  rs n := if h : ∃ j, n = nm j then y.g.rs h.choose else x.g.rs n
  rc n := if h : ∃ j, n = nm j then y.g.rc h.choose else x.g.rc n
  rl n := if h : ∃ j, n = nm j then y.g.rl h.choose else x.g.rl n
  U n := x.g.U n ∨ ∃ j, n = nm j
noncomputable def backX (x y : Cx) (p : Part) (nm : Nat → Nat) : Cx := { w := y.w, B := x.B, S := fun b => (x.S b ∧ ¬ p.S x b) ∨ y.S b, g := backG x y nm }

structure BackH (x : Cx) (s : St) (p : Part) (y : Cx) (nm : Nat → Nat) (objs : List Obj) (rows : List Row) : Prop where
  hs : Sto x s.objs s.rows
  hp : PartOk x s p fun b => x.B b ∨ (x.S b ∧ ¬ p.S x b)
  hx : Ext (p.cx x fun b => x.B b ∨ (x.S b ∧ ¬ p.S x b)) y
  pin : ∀ o, o < p.objs.length → y.g.ob o = x.g.ob (p.os.getD o 0)
  sto : Sto y (number 0 objs) (number 0 (rows.map .live))
  len : p.objs.length ≤ objs.length
  out : ∀ l ∈ objs, ∀ c ∈ l, okOut c = true
  fresh : ∀ j, ¬ x.g.U (nm j)
  inj : ∀ i j, nm i = nm j → i = j

section
variable {x : Cx} {s : St} {p : Part} {y : Cx} {nm : Nat → Nat} {objs : List Obj} {rows : List Row}
theorem backG_new (h : BackH x s p y nm objs rows) (j : Nat) : (backG x y nm).ob (nm j) = y.g.ob j ∧ (backG x y nm).rb (nm j) = y.g.rb j ∧ (backG x y nm).rs (nm j) = y.g.rs j ∧ (backG x y nm).rc (nm j) = y.g.rc j ∧ (backG x y nm).rl (nm j) = y.g.rl j := by
  have hex : ∃ i, nm j = nm i := ⟨j, rfl⟩
  have hch : hex.choose = j := (h.inj _ _ hex.choose_spec).symm
  simp only [backG, dif_pos hex, hch, and_self]
theorem backG_old (h : BackH x s p y nm objs rows) {n : Nat} (hn : x.g.U n) : (backG x y nm).ob n = x.g.ob n ∧ (backG x y nm).rb n = x.g.rb n ∧ (backG x y nm).rs n = x.g.rs n ∧ (backG x y nm).rc n = x.g.rc n ∧ (backG x y nm).rl n = x.g.rl n := by
  have hex : ¬ ∃ i, n = nm i := by rintro ⟨i, rfl⟩; exact h.fresh i hn
  simp only [backG, dif_neg hex, and_self]
theorem back_le (h : BackH x s p y nm objs rows) : x.g.Le (backX x y p nm).g :=
  ⟨fun _ hu => .inl hu, fun n hu => (backG_old h hu).1, fun n hu => (backG_old h hu).2.1, fun n hu => (backG_old h hu).2.2.1, fun n hu => (backG_old h hu).2.2.2.1, fun n hu => (backG_old h hu).2.2.2.2⟩
theorem back_ext (h : BackH x s p y nm objs rows) : Ext x (backX x y p nm) where
  os := h.hx.os
  tape := h.hx.tape
  output := h.hx.output
  size := h.hx.size
  blk b hb hS := h.hx.blk b hb (fun hp => hS (h.hp.Sx b hp))
  S b hb := by
    rcases hb with hb | hb
    · exact .inl hb.1
    · rcases h.hx.S b hb with h1 | h1
      · exact .inl (h.hp.Sx b h1)
      · exact .inr h1
  B := rfl
theorem back_okP (h : BackH x s p y nm objs rows) {b : Nat} (hb : y.okP b) : (backX x y p nm).okP b := by
  have hB := h.hx.B
  have hnB : ¬ (x.B b ∨ (x.S b ∧ ¬ p.S x b)) := by have := hb.2.2; rw [hB] at this; exact this
  exact ⟨hb.1, fun hS => hS.elim (fun h1 => hnB (.inr h1)) hb.2.1, fun h1 => hnB (.inl h1)⟩
theorem back_repP (h : BackH x s p y nm objs rows) {q : PV} {v : Value} (hp : RepP y.w y.okP y.okP q v) : RepP (backX x y p nm).w (backX x y p nm).okP (backX x y p nm).okP q v :=
  RepP.mono (fun _ hb => back_okP h hb) (fun _ _ => rfl) (fun _ hb => back_okP h hb) (fun _ _ => rfl) q hp
theorem back_repC (h : BackH x s p y nm objs rows) {c : CV} {v : Value} (ho : okOut c = true) (hc : RepC y c v) : RepC (backX x y p nm) (backC p.os nm c) v := by
  cases c with
  | pv q => exact back_repP h hc
  | bor q => simp [okOut] at ho
  | ref o off =>
    simp only [backC]
    split
    · rename_i z hz
      have hlt : o < p.os.length := by
        rcases Nat.lt_or_ge o p.os.length with h' | h'
        · exact h'
        · rw [List.getElem?_eq_none h'] at hz; cases hz
      obtain ⟨l, hl⟩ := h.hp.ol o z hz
      have hu := (h.hs.obj z l hl).1
      refine ⟨.inl hu, ?_⟩
      rw [hc.2, h.pin o (by rw [h.hp.olen]; exact hlt), getD_of hz]
      show Value.pointer (some ⟨_, off, none⟩) = Value.pointer (some ⟨(backG x y nm).ob z, off, none⟩)
      rw [(backG_old h hu).1]
    · refine ⟨.inr ⟨o, rfl⟩, ?_⟩
      rw [hc.2]
      show Value.pointer (some ⟨_, off, none⟩) = Value.pointer (some ⟨(backG x y nm).ob (nm o), off, none⟩)
      rw [(backG_new h o).1]
  | own r off n t =>
    obtain ⟨h1, h2, h3⟩ := hc
    obtain ⟨_, e2, e3, e4, e5⟩ := backG_new h r
    refine ⟨.inr ⟨r, rfl⟩, ?_, ?_⟩
    · show off + n ≤ (backG x y nm).rl (nm r)
      rw [e5]; exact h2
    · unfold OwnAt at h3 ⊢
      simp only [backX, e2, e3, e4]
      exact h3
  | iadr => simp [okOut] at ho
  | radr => simp [okOut] at ho
  | dead => trivial
theorem back_repL (h : BackH x s p y nm objs rows) : ∀ {l : List CV} {vs : List Value}, (∀ c ∈ l, okOut c = true) → RepL y l vs → RepL (backX x y p nm) (l.map (backC p.os nm)) vs
  | [], [], _, _ => trivial
  | c :: l, v :: vs, ho, hl => ⟨⟨hl.1.1, back_repC h (ho c (by simp)) hl.1.2⟩, back_repL h (fun d hd => ho d (by simp [hd])) hl.2⟩
theorem back_repA (h : BackH x s p y nm objs rows) {a : AV} {v : Value} (ho : ∀ c ∈ a.cells, okOut c = true) (ha : RepA y a v) : RepA (backX x y p nm) (a.map (backC p.os nm)) v := by
  cases a with
  | one c => exact ⟨ha.1, back_repC h (ho c (by simp [AV.cells])) ha.2⟩
  | agg l => obtain ⟨cs, hv, hl⟩ := ha; exact ⟨cs, hv, back_repL h ho hl⟩
theorem back_repAs (h : BackH x s p y nm objs rows) : ∀ {l : List AV} {vs : List Value}, (∀ c ∈ l.flatMap AV.cells, okOut c = true) → RepAs y l vs → RepAs (backX x y p nm) (l.map (AV.map (backC p.os nm))) vs
  | [], [], _, _ => trivial
  | a :: l, v :: vs, ho, hl => ⟨back_repA h (fun c hc => ho c (by simp [hc])) hl.1, back_repAs h (fun d hd => ho d (by simp at hd; simp [hd])) hl.2⟩

theorem lkup_append {α : Type} {l m : List (Nat × α)} {n : Nat} : lkup n (l ++ m) = match lkup n l with | some v => some v | none => lkup n m := by
  induction l with
  | nil => simp [lkup]
  | cons a l ih =>
    obtain ⟨k, v⟩ := a
    rw [List.cons_append, lkup_cons, lkup_cons, ih]
    by_cases h : n = k <;> simp [h]
theorem lkup_backObjs {os : List Nat} {nm : Nat → Nat} : ∀ {obs : List Obj} {i n : Nat} {l : Obj}, lkup n (backObjs os nm i obs) = some l → ∃ j ob, obs[j]? = some ob ∧ l = ob.map (backC os nm) ∧ ((os[i + j]? = some n) ∨ (os[i + j]? = none ∧ n = nm (i + j)))
  | [], i, n, l, h => by simp [backObjs, lkup] at h
  | ob :: obs, i, n, l, h => by
    simp only [backObjs] at h
    rw [lkup_cons] at h
    by_cases he : n = nameAt os nm i
    · rw [if_pos he] at h
      cases h
      refine ⟨0, ob, by simp, rfl, ?_⟩
      cases ho : os[i]? with
      | none => exact .inr ⟨by simp [ho], by simp only [Nat.add_zero]; simpa only [nameAt, ho] using he⟩
      | some z => exact .inl (by rw [show n = z by simpa only [nameAt, ho] using he])
    · rw [if_neg he] at h
      obtain ⟨j, ob', h1, h2, h3⟩ := lkup_backObjs h
      exact ⟨j + 1, ob', by simpa using h1, h2, by rw [show i + (j + 1) = i + 1 + j by omega]; exact h3⟩
theorem lkup_backObjs_none {os : List Nat} {nm : Nat → Nat} : ∀ {obs : List Obj} {i n : Nat}, lkup n (backObjs os nm i obs) = none → ∀ j, j < obs.length → os[i + j]? ≠ some n
  | [], i, n, h, j, hj => by simp at hj
  | ob :: obs, i, n, h, j, hj => by
    simp only [backObjs] at h
    rw [lkup_cons] at h
    by_cases hne : n = nameAt os nm i
    · rw [if_pos hne] at h; cases h
    · rw [if_neg hne] at h
      cases j with
      | zero => intro ho; simp only [Nat.add_zero] at ho; exact hne (by simp only [nameAt, ho])
      | succ j => rw [show i + (j + 1) = i + 1 + j by omega]; exact lkup_backObjs_none h j (by simp at hj; omega)
theorem lkup_backRows {nm : Nat → Nat} : ∀ {rws : List Row} {i n : Nat} {rb : RowB}, lkup n (backRows nm i rws) = some rb → ∃ j rw, rws[j]? = some rw ∧ rb = .live rw ∧ n = nm (i + j)
  | [], i, n, l, h => by simp [backRows, lkup] at h
  | ob :: obs, i, n, l, h => by
    simp only [backRows] at h
    rw [lkup_cons] at h
    split at h
    · rename_i he
      cases h
      exact ⟨0, ob, by simp, rfl, by simpa using he⟩
    · obtain ⟨j, ob', h1, h2, h3⟩ := lkup_backRows h
      exact ⟨j + 1, ob', by simpa using h1, h2, by rw [show i + (j + 1) = i + 1 + j by omega]; exact h3⟩
theorem lkup_goneRows {n : Nat} : ∀ {rs : List Nat} {rb : RowB}, lkup n (goneRows rs) = some rb → rb = .gone
  | [], rb, h => by simp [goneRows, lkup] at h
  | r :: rs, rb, h => by
    simp only [goneRows] at h
    rw [lkup_cons] at h
    split at h
    · cases h; rfl
    · exact lkup_goneRows h
theorem lkup_goneRows_none {n : Nat} : ∀ {rs : List Nat}, lkup n (goneRows rs) = none → n ∉ rs
  | [], h => by simp
  | r :: rs, h => by
    simp only [goneRows] at h
    rw [lkup_cons] at h
    split at h
    · cases h
    · rename_i hne
      have := lkup_goneRows_none h
      simp only [List.mem_cons, not_or]
      exact ⟨hne, this⟩

theorem back_sto (h : BackH x s p y nm objs rows) : Sto (backX x y p nm) (backObjs p.os nm 0 objs ++ s.objs) (backRows nm 0 rows ++ goneRows p.rs ++ s.rows) := by
  have hext := back_ext h
  have hle := back_le h
  -- what is there, of objects
  have objC : ∀ {n l}, lkup n (backObjs p.os nm 0 objs ++ s.objs) = some l →
      (∃ j ob, objs[j]? = some ob ∧ l = ob.map (backC p.os nm) ∧ (backG x y nm).ob n = y.g.ob j ∧ (backG x y nm).U n) ∨ (lkup n s.objs = some l ∧ ¬ p.S x (x.g.ob n)) := by
    intro n l hl
    rw [lkup_append] at hl
    cases hb : lkup n (backObjs p.os nm 0 objs) with
    | some l' =>
      rw [hb] at hl
      cases hl
      obtain ⟨j, ob, h1, h2, h3⟩ := lkup_backObjs hb
      simp only [Nat.zero_add] at h3
      refine .inl ⟨j, ob, h1, h2, ?_⟩
      rcases h3 with h3 | ⟨h3, rfl⟩
      · have hlt : j < p.os.length := by
          rcases Nat.lt_or_ge j p.os.length with h' | h'
          · exact h'
          · rw [List.getElem?_eq_none h'] at h3; cases h3
        obtain ⟨l2, hl2⟩ := h.hp.ol j n h3
        have hu := (h.hs.obj n l2 hl2).1
        exact ⟨by rw [(backG_old h hu).1, h.pin j (by rw [h.hp.olen]; exact hlt), getD_of h3], .inl hu⟩
      · exact ⟨(backG_new h j).1, .inr ⟨j, rfl⟩⟩
    | none =>
      rw [hb] at hl
      refine .inr ⟨hl, ?_⟩
      rintro (⟨i, o, ho, he⟩ | ⟨i, r, rw0, hr, hr0, hnv, he⟩)
      · obtain ⟨l2, hl2⟩ := h.hp.ol i o ho
        have := h.hs.injO _ _ _ _ hl2 hl he
        subst this
        have hi : i < objs.length := by
          have : i < p.os.length := by
            rcases Nat.lt_or_ge i p.os.length with h' | h'
            · exact h'
            · rw [List.getElem?_eq_none h'] at ho; cases ho
          rw [← h.hp.olen] at this
          have := h.len
          omega
        exact lkup_backObjs_none hb i hi (by simpa using ho)
      · obtain ⟨rw', hl2, hrw'⟩ := h.hp.rl i r hr
        rw [hr0] at hrw'
        cases hrw'
        exact h.hs.injX _ _ _ _ hl hl2 hnv he.symm
  have rowC : ∀ {n rb}, lkup n (backRows nm 0 rows ++ goneRows p.rs ++ s.rows) = some rb →
      (∃ j rw, rows[j]? = some rw ∧ rb = .live rw ∧ n = nm j) ∨ rb = .gone ∨ (lkup n s.rows = some rb ∧ n ∉ p.rs) := by
    intro n rb hl
    rw [lkup_append, lkup_append] at hl
    cases hb : lkup n (backRows nm 0 rows) with
    | some l' =>
      rw [hb] at hl
      cases hl
      obtain ⟨j, rw', h1, h2, h3⟩ := lkup_backRows hb
      exact .inl ⟨j, rw', h1, h2, by simpa using h3⟩
    | none =>
      rw [hb] at hl
      simp only at hl
      cases hg : lkup n (goneRows p.rs) with
      | some g =>
        rw [hg] at hl
        cases hl
        exact .inr (.inl (lkup_goneRows hg))
      | none =>
        rw [hg] at hl
        exact .inr (.inr ⟨hl, lkup_goneRows_none hg⟩)
  have rowOld : ∀ {n rw}, lkup n s.rows = some (.live rw) → ¬ Vir x n rw → n ∉ p.rs → ¬ p.S x (x.g.rb n) := by
    intro n rw' hl hnv' hnot
    rintro (⟨i, o, ho, he⟩ | ⟨i, r, rw0, hr, hr0, hnv, he⟩)
    · obtain ⟨l2, hl2⟩ := h.hp.ol i o ho
      exact h.hs.injX _ _ _ _ hl2 hl hnv' he
    · obtain ⟨rw2, hl2, hrw'⟩ := h.hp.rl i r hr
      rw [hr0] at hrw'
      cases hrw'
      have := h.hs.injR _ _ _ _ hl2 hl hnv hnv' he
      subst this
      exact hnot (List.mem_of_getElem? hr)
  have hys : ∀ b, y.S b → p.S x b ∨ x.w.heap.size ≤ b := fun b hb => h.hx.S b hb
  have hyobj : ∀ {j : Nat} {ob : Obj}, objs[j]? = some ob → y.g.U j ∧ y.S (y.g.ob j) ∧ ObjAt y (y.g.ob j) ob := fun hj => h.sto.obj _ _ (by rw [lkup_number0]; exact hj)
  have hyrow : ∀ {j : Nat} {rw : Row}, rows[j]? = some rw → y.g.U j ∧ (Vir y j rw ∨ (¬ Vir y j rw ∧ y.S (y.g.rb j) ∧ RowAt y j rw)) := fun hj => h.sto.liveC (by rw [lkup_number0, List.getElem?_map, hj]; rfl)
  have hvirN : ∀ (j : Nat) {rw : Row}, Vir (backX x y p nm) (nm j) rw ↔ Vir y j rw := by
    intro j rw'
    obtain ⟨_, e2, e3, e4, e5⟩ := backG_new h j
    simp only [Vir, backX, e3, e4, e5]
  have hvirO : ∀ {n : Nat} {rw : Row}, x.g.U n → (Vir (backX x y p nm) n rw ↔ Vir x n rw) := by
    intro n rw' hu
    obtain ⟨_, e2, e3, e4, e5⟩ := backG_old h hu
    simp only [Vir, backX, e3, e4, e5]
  have hother : ∀ b, b < x.w.heap.size → ¬ p.S x b → (backX x y p nm).w.heap[b]? = x.w.heap[b]? := fun b hb hS => h.hx.blk b hb hS
  refine ⟨?_, ?_, ?_, ?_, ?_, ?_, ?_, ?_, ?_⟩
  · intro n l hl
    rcases objC hl with ⟨j, ob, h1, rfl, h3, h4⟩ | ⟨h1, h2⟩
    · obtain ⟨_, hS, c, e, fr, hh, hnf, hL⟩ := hyobj h1
      refine ⟨h4, .inr (by show y.S ((backG x y nm).ob n); rw [h3]; exact hS), c, e, fr, ?_, hnf, back_repL h (h.out ob (List.mem_of_getElem? h1)) hL⟩
      show y.w.heap[(backG x y nm).ob n]? = _
      rw [h3]; exact hh
    · obtain ⟨hu, hS, hO⟩ := h.hs.obj n l h1
      have e1 : (backX x y p nm).g.ob n = x.g.ob n := (backG_old h hu).1
      rw [e1]
      exact ⟨.inl hu, .inl ⟨hS, h2⟩, hO.mono hext hle (hother _ (h.hs.Slt _ hS) h2)⟩
  · intro n rw' hl
    rcases rowC hl with ⟨j, rw2, h1, h2, rfl⟩ | h1 | ⟨h1, h2⟩
    · cases h2
      obtain ⟨_, e2, e3, e4, e5⟩ := backG_new h j
      obtain ⟨_, hvir | ⟨_, hS, c, e, fr, hh, hnf, hcs, hes, hrl, hle2, his⟩⟩ := hyrow h1
      · exact ⟨.inr ⟨j, rfl⟩, .inr ((hvirN j).2 hvir)⟩
      refine ⟨.inr ⟨j, rfl⟩, .inl ⟨.inr (by show y.S ((backG x y nm).rb (nm j)); rw [e2]; exact hS), c, e, fr, ?_, hnf, ?_, ?_, ?_, hle2, RowIs.mono (fun _ hb => back_okP h hb) (fun _ _ => rfl) his⟩⟩
      · show y.w.heap[(backG x y nm).rb (nm j)]? = _
        rw [e2]; exact hh
      · show c.size = (backG x y nm).rc (nm j); rw [e4]; exact hcs
      · show rw'.esz = (backG x y nm).rs (nm j); rw [e3]; exact hes
      · show rw'.len = (backG x y nm).rl (nm j); rw [e5]; exact hrl
    · cases h1
    · obtain ⟨hu, hvir | ⟨hnv, hS, hO⟩⟩ := h.hs.liveC h1
      · exact ⟨.inl hu, .inr ((hvirO hu).2 hvir)⟩
      have e1 : (backX x y p nm).g.rb n = x.g.rb n := (backG_old h hu).2.1
      exact ⟨.inl hu, .inl ⟨.inl (by rw [e1]; exact ⟨hS, rowOld h1 hnv h2⟩), hO.mono hext hle hu (hother _ (h.hs.Slt _ hS) (rowOld h1 hnv h2))⟩⟩
  · intro n rw' hl
    rcases rowC hl with ⟨j, rw2, h1, h2, rfl⟩ | h1 | ⟨h1, h2⟩
    · cases h2
    · cases h1
    · obtain ⟨hu, hO⟩ := h.hs.froz n rw' h1
      have e1 : (backX x y p nm).g.rb n = x.g.rb n := (backG_old h hu).2.1
      exact ⟨.inl hu, hO.imp (fun ⟨hS, hO⟩ => ⟨by rw [e1]; exact hext.okP hS, hO.mono hext hle hu (hother _ hS.1 (fun hp => hS.2.1 (h.hp.Sx _ hp)))⟩) (hvirO hu).2⟩
  · intro n n' l l' hl hl' he
    have he : (backG x y nm).ob n = (backG x y nm).ob n' := he
    -- by names
    have nameO : ∀ {n l}, lkup n (backObjs p.os nm 0 objs ++ s.objs) = some l →
        (∃ j ob, objs[j]? = some ob ∧ (backG x y nm).ob n = y.g.ob j ∧ ((p.os[j]? = some n) ∨ (p.os[j]? = none ∧ n = nm j))) ∨ (lkup n s.objs = some l ∧ ¬ p.S x (x.g.ob n) ∧ (backG x y nm).ob n = x.g.ob n) := by
      intro n l hl
      have hl0 := hl
      rw [lkup_append] at hl
      cases hb : lkup n (backObjs p.os nm 0 objs) with
      | some l' =>
        obtain ⟨j, ob, h1, h2, h3⟩ := lkup_backObjs hb
        simp only [Nat.zero_add] at h3
        rcases objC hl0 with ⟨j', ob', h1', _, h3', _⟩ | ⟨h1', h2'⟩
        · refine .inl ⟨j, ob, h1, ?_, h3⟩
          rcases h3 with h3 | ⟨_, rfl⟩
          · have hlt : j < p.os.length := by
              rcases Nat.lt_or_ge j p.os.length with h' | h'
              · exact h'
              · rw [List.getElem?_eq_none h'] at h3; cases h3
            obtain ⟨l2, hl2⟩ := h.hp.ol j n h3
            have hu := (h.hs.obj n l2 hl2).1
            rw [(backG_old h hu).1, h.pin j (by rw [h.hp.olen]; exact hlt), getD_of h3]
          · exact (backG_new h j).1
        · refine .inl ⟨j, ob, h1, ?_, h3⟩
          rcases h3 with h3 | ⟨_, rfl⟩
          · have hlt : j < p.os.length := by
              rcases Nat.lt_or_ge j p.os.length with h' | h'
              · exact h'
              · rw [List.getElem?_eq_none h'] at h3; cases h3
            obtain ⟨l2, hl2⟩ := h.hp.ol j n h3
            have hu := (h.hs.obj n l2 hl2).1
            rw [(backG_old h hu).1, h.pin j (by rw [h.hp.olen]; exact hlt), getD_of h3]
          · exact (backG_new h j).1
      | none =>
        rw [hb] at hl
        rcases objC hl0 with ⟨j', ob', h1', h2', h3', _⟩ | ⟨h1', h2'⟩
        · -- it is an old one all the same
          have hu := (h.hs.obj n l hl).1
          refine .inr ⟨hl, ?_, (backG_old h hu).1⟩
          rintro (⟨i, o, ho, he⟩ | ⟨i, r, rw0, hr, hr0, hnv, he⟩)
          · obtain ⟨l2, hl2⟩ := h.hp.ol i o ho
            have := h.hs.injO _ _ _ _ hl2 hl he
            subst this
            have hi : i < objs.length := by
              have : i < p.os.length := by
                rcases Nat.lt_or_ge i p.os.length with h' | h'
                · exact h'
                · rw [List.getElem?_eq_none h'] at ho; cases ho
              rw [← h.hp.olen] at this
              have := h.len
              omega
            exact lkup_backObjs_none hb i hi (by simpa using ho)
          · obtain ⟨rw', hl2, hrw'⟩ := h.hp.rl i r hr
            rw [hr0] at hrw'
            cases hrw'
            exact h.hs.injX _ _ _ _ hl hl2 hnv he.symm
        · exact .inr ⟨h1', h2', (backG_old h (h.hs.obj n l h1').1).1⟩
    rcases nameO hl with ⟨j, ob, h1, h2, h3⟩ | ⟨h1, h2, h3⟩ <;> rcases nameO hl' with ⟨j', ob', h1', h2', h3'⟩ | ⟨h1', h2', h3'⟩
    · rw [h2, h2'] at he
      have hjj := h.sto.injO j j' ob ob' (by rw [lkup_number0]; exact h1) (by rw [lkup_number0]; exact h1') he
      subst hjj
      rcases h3 with h3 | ⟨h3, e1⟩ <;> rcases h3' with h3' | ⟨h3', e2⟩
      · rw [h3] at h3'; exact Option.some.inj h3'
      · rw [h3] at h3'; cases h3'
      · rw [h3] at h3'; cases h3'
      · rw [e1, e2]
    · exfalso
      rw [h2, h3'] at he
      have hS := (hyobj h1).2.1
      have hS' := (h.hs.obj n' l' h1').2.1
      rcases hys _ hS with h4 | h4
      · rw [he] at h4; exact h2' h4
      · have := h.hs.Slt _ hS'; omega
    · exfalso
      rw [h3, h2'] at he
      have hS := (hyobj h1').2.1
      have hS' := (h.hs.obj n l h1).2.1
      rcases hys _ hS with h4 | h4
      · rw [← he] at h4; exact h2 h4
      · have := h.hs.Slt _ hS'; omega
    · rw [h3, h3'] at he
      exact h.hs.injO _ _ _ _ h1 h1' he
  · intro n n' rw1 rw2 hl hl' hv hv' he
    have he : (backG x y nm).rb n = (backG x y nm).rb n' := he
    rcases rowC hl with ⟨j, r1, h1, h2, rfl⟩ | h1 | ⟨h1, h2⟩
    · cases h2
      rcases rowC hl' with ⟨j', r1', h1', h2', rfl⟩ | h1' | ⟨h1', h2'⟩
      · cases h2'
        rw [(backG_new h j).2.1, (backG_new h j').2.1] at he
        rw [h.sto.injR j j' _ _ (by rw [lkup_number0, List.getElem?_map, h1]; rfl) (by rw [lkup_number0, List.getElem?_map, h1']; rfl) (fun h' => hv ((hvirN j).2 h')) (fun h' => hv' ((hvirN j').2 h')) he]
      · cases h1'
      · exfalso
        have hu := (h.hs.live n' rw2 h1').1
        have hnv' : ¬ Vir x n' rw2 := fun h' => hv' ((hvirO hu).2 h')
        rw [(backG_new h j).2.1, (backG_old h hu).2.1] at he
        have hS := ((hyrow h1).2.resolve_left fun h' => hv ((hvirN j).2 h')).2.1
        have hS' := ((h.hs.live n' rw2 h1').2.resolve_right hnv').1
        rcases hys _ hS with h4 | h4
        · rw [he] at h4; exact rowOld h1' hnv' h2' h4
        · have := h.hs.Slt _ hS'; omega
    · cases h1
    · rcases rowC hl' with ⟨j', r1', h1', h2', rfl⟩ | h1' | ⟨h1', h2'⟩
      · exfalso
        cases h2'
        have hu := (h.hs.live n rw1 h1).1
        have hnv : ¬ Vir x n rw1 := fun h' => hv ((hvirO hu).2 h')
        rw [(backG_new h j').2.1, (backG_old h hu).2.1] at he
        have hS := ((hyrow h1').2.resolve_left fun h' => hv' ((hvirN j').2 h')).2.1
        have hS' := ((h.hs.live n rw1 h1).2.resolve_right hnv).1
        rcases hys _ hS with h4 | h4
        · rw [← he] at h4; exact rowOld h1 hnv h2 h4
        · have := h.hs.Slt _ hS'; omega
      · cases h1'
      · rw [(backG_old h (h.hs.live n rw1 h1).1).2.1, (backG_old h (h.hs.live n' rw2 h1').1).2.1] at he
        exact h.hs.injR _ _ _ _ h1 h1' (fun h' => hv ((hvirO (h.hs.live n rw1 h1).1).2 h')) (fun h' => hv' ((hvirO (h.hs.live n' rw2 h1').1).2 h')) he
  · intro n n' l rw1 hl hl' hv he
    have he : (backG x y nm).ob n = (backG x y nm).rb n' := he
    rcases objC hl with ⟨j, ob, h1, h2, h3, _⟩ | ⟨h1, h2⟩ <;> rcases rowC hl' with ⟨j', r1', h1', h2', rfl⟩ | h1' | ⟨h1', h2'⟩
    · cases h2'
      rw [h3, (backG_new h j').2.1] at he
      exact h.sto.injX j j' ob _ (by rw [lkup_number0]; exact h1) (by rw [lkup_number0, List.getElem?_map, h1']; rfl) (fun h' => hv ((hvirN j').2 h')) he
    · cases h1'
    · have hnv' : ¬ Vir x n' rw1 := fun h' => hv ((hvirO (h.hs.live n' rw1 h1').1).2 h')
      rw [h3, (backG_old h (h.hs.live n' rw1 h1').1).2.1] at he
      have hS := (hyobj h1).2.1
      have hS' := ((h.hs.live n' rw1 h1').2.resolve_right hnv').1
      rcases hys _ hS with h4 | h4
      · rw [he] at h4; exact rowOld h1' hnv' h2' h4
      · have := h.hs.Slt _ hS'; omega
    · cases h2'
      rw [(backG_old h (h.hs.obj n l h1).1).1, (backG_new h j').2.1] at he
      have hS := ((hyrow h1').2.resolve_left fun h' => hv ((hvirN j').2 h')).2.1
      have hS' := (h.hs.obj n l h1).2.1
      rcases hys _ hS with h4 | h4
      · rw [← he] at h4; exact h2 h4
      · have := h.hs.Slt _ hS'; omega
    · cases h1'
    · rw [(backG_old h (h.hs.obj n l h1).1).1, (backG_old h (h.hs.live n' rw1 h1').1).2.1] at he
      exact h.hs.injX _ _ _ _ h1 h1' (fun h' => hv ((hvirO (h.hs.live n' rw1 h1').1).2 h')) he
  · intro b hb
    rcases hb with hb | hb
    · have := h.hs.Slt b hb.1
      exact Nat.lt_of_lt_of_le this h.hx.size
    · exact h.sto.Slt b hb
  · intro b hb; exact Nat.lt_of_lt_of_le (h.hs.Blt b hb) h.hx.size
  · intro b hb hB
    rcases hb with hb | hb
    · exact h.hs.SB b hb.1 hB
    · rcases hys b hb with h1 | h1
      · exact h.hs.SB b (h.hp.Sx b h1) hB
      · have := h.hs.Blt b hB; omega
end
end Go.Ev
