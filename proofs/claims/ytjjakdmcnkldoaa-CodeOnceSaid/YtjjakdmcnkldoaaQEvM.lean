/- Conversions and append. No program in sight. -/
import Derived.Test.YtjjakdmcnkldoaaQEvL
namespace Go.Ev
set_option linter.unusedVariables false
set_option linter.unusedSimpArgs false

/-- A draw turns nothing. -/
def Cx.drew (x : Cx) : Cx := { x with w := x.w.drew }
theorem Cx.grow_drew {x : Cx} (hlt : ∀ b, x.S b → b < x.w.heap.size) : Grow x x.drew :=
  ⟨⟨rfl, rfl, rfl, Nat.le_refl _, fun _ _ _ => rfl, fun _ h => .inl h, rfl⟩, G.Le.refl _, fun _ _ => rfl, fun _ h => h, hlt⟩

theorem row_vals {w : World} {ok : Nat → Prop} {rw : Row} {f : Nat → Option Value} (h : RowIs w ok rw f) : ∃ vs : List Value, vs.length = rw.len * rw.esz ∧ (∀ v ∈ vs, v.oneCell' = true) ∧ ∀ i v, vs[i]? = some v → f i = some v := by
  cases rw with
  | ints k l =>
    refine ⟨l.map (Value.int k), by simp [Row.len, Row.esz], fun v hv => by obtain ⟨b, _, rfl⟩ := List.mem_map.1 hv; rfl, fun i v hv => ?_⟩
    simp only [List.getElem?_map] at hv
    cases hl : l[i]? with
    | none => simp [hl] at hv
    | some n =>
      simp [hl] at hv
      have hi : i < l.length := by
        rcases Nat.lt_or_ge i l.length with h' | h'
        · exact h'
        · simp [List.getElem?_eq_none h'] at hl
      rw [h i hi, ← hv]; simp [List.getD, hl]
  | bools l =>
    refine ⟨l.map Value.bool, by simp [Row.len, Row.esz], fun v hv => by obtain ⟨b, _, rfl⟩ := List.mem_map.1 hv; rfl, fun i v hv => ?_⟩
    simp only [List.getElem?_map] at hv
    cases hl : l[i]? with
    | none => simp [hl] at hv
    | some n =>
      simp [hl] at hv
      have hi : i < l.length := by
        rcases Nat.lt_or_ge i l.length with h' | h'
        · exact h'
        · simp [List.getElem?_eq_none h'] at hl
      rw [h i hi, ← hv]; simp [List.getD, hl]
  | recs sz l =>
    have one : ∀ (ps : List PV) (g : Nat → Option Value), RepPs w ok ps g → ∃ vs : List Value, vs.length = ps.length ∧ (∀ v ∈ vs, v.oneCell' = true) ∧ ∀ i v, vs[i]? = some v → g i = some v := by
      intro ps
      induction ps with
      | nil => intro g _; exact ⟨[], rfl, by simp, by simp⟩
      | cons p ps ih =>
        intro g hg
        simp only [RepPs] at hg
        obtain ⟨⟨v, hv, hp⟩, hr⟩ := hg
        obtain ⟨vs, hl, h1, hc⟩ := ih _ hr
        refine ⟨v :: vs, by simp [hl], ?_, fun i u hu => ?_⟩
        · intro u hu
          rcases List.mem_cons.1 hu with rfl | hu
          · exact oneCell_repP hp
          · exact h1 u hu
        · cases i with
          | zero => simp at hu; rw [← hu]; exact hv
          | succ i => exact hc i u (by simpa using hu)
    have h2 : RepPss w ok sz l f := h
    clear h
    show ∃ vs : List Value, vs.length = l.length * sz ∧ _
    induction l generalizing f with
    | nil => exact ⟨[], by simp, by simp, by simp⟩
    | cons e l ih =>
      simp only [RepPss] at h2
      obtain ⟨us, hul, hu1, huc⟩ := one e f h2.2.1
      obtain ⟨vs, hvl, hv1, hvc⟩ := ih h2.2.2
      refine ⟨us ++ vs, ?_, ?_, fun i v hv => ?_⟩
      · rw [List.length_append, hul, hvl, h2.1, List.length_cons, Nat.add_mul]; omega
      · intro v hv
        rcases List.mem_append.1 hv with hv | hv
        · exact hu1 v hv
        · exact hv1 v hv
      · rw [List.getElem?_append] at hv
        split at hv
        · exact huc i v hv
        · rename_i hge
          have := hvc _ v hv
          rw [hul, h2.1] at this hge
          rwa [show i - sz + sz = i by omega] at this
theorem rowIs_congr {w : World} {ok : Nat → Prop} {rw : Row} {f g : Nat → Option Value} (h : RowIs w ok rw f) (he : ∀ i, i < rw.len * rw.esz → f i = g i) : RowIs w ok rw g := by
  cases rw with
  | ints k l => intro i hi; rw [← he i (by simpa [Row.len, Row.esz] using hi)]; exact h i hi
  | bools l => intro i hi; rw [← he i (by simpa [Row.len, Row.esz] using hi)]; exact h i hi
  | recs sz l => exact repPss_congr h he
theorem repPss_append {w : World} {ok : Nat → Prop} {sz : Nat} : ∀ {a b : List (List PV)} {f : Nat → Option Value}, RepPss w ok sz a f → RepPss w ok sz b (fun i => f (a.length * sz + i)) → RepPss w ok sz (a ++ b) f
  | [], b, f, _, hb => by simpa using hb
  | e :: a, b, f, ha, hb => by
    simp only [RepPss, List.cons_append] at ha ⊢
    refine ⟨ha.1, ha.2.1, repPss_append ha.2.2 ?_⟩
    have e1 : (fun i => f (a.length * sz + i + sz)) = fun i => f ((e :: a).length * sz + i) := funext fun i => by congr 1; rw [List.length_cons, Nat.add_mul]; omega
    rw [e1]; exact hb
theorem says_app {R : Type} {a b : Row} {k : Row → Ans R} {r : R} (h : Says (a.app b k) r) : ∃ c, Says (k c) r ∧ c.len = a.len + b.len ∧ c.esz = a.esz ∧ b.esz = a.esz ∧
    ∀ w ok f, RowIs w ok a f → RowIs w ok b (fun i => f (a.len * a.esz + i)) → RowIs w ok c f := by
  unfold Row.app at h
  split at h
  · rename_i kx l ky m
    obtain ⟨hk, h1⟩ := says_chk h
    simp only [decide_eq_true_eq] at hk
    refine ⟨_, h1, by simp [Row.len], rfl, rfl, fun w ok f ha hb i hi => ?_⟩
    simp only [List.length_append] at hi
    by_cases hlt : i < l.length
    · have := ha i hlt
      rw [this]; simp [List.getD, List.getElem?_append, hlt]
    · have := hb (i - l.length) (by omega)
      simp only [Row.len, Row.esz, Nat.mul_one, show l.length + (i - l.length) = i by omega] at this
      rw [this, hk]; simp [List.getD, List.getElem?_append, hlt]
  · rename_i l m
    refine ⟨_, h, by simp [Row.len], rfl, rfl, fun w ok f ha hb i hi => ?_⟩
    simp only [List.length_append] at hi
    by_cases hlt : i < l.length
    · have := ha i hlt
      rw [this]; simp [List.getD, List.getElem?_append, hlt]
    · have := hb (i - l.length) (by omega)
      simp only [Row.len, Row.esz, Nat.mul_one, show l.length + (i - l.length) = i by omega] at this
      rw [this]; simp [List.getD, List.getElem?_append, hlt]
  · rename_i kx l ky m
    obtain ⟨hk, h1⟩ := says_chk h
    have hk2 := Nat.eq_of_beq_eq_true hk
    refine ⟨_, h1, by simp [Row.len], rfl, hk2.symm, fun w ok f ha hb => ?_⟩
    subst hk2
    exact repPss_append ha hb
  · exact (says_none h).elim

/-! ### Conversions -/
theorem foldl_push (l : List Int) : ∀ (s : ByteArray), l.foldl (fun r n => r.push (UInt8.ofNat n.toNat)) s = ⟨s.data ++ (l.map fun n => UInt8.ofNat n.toNat).toArray⟩ := by
  induction l with
  | nil => intro s; simp
  | cons n l ih =>
    intro s
    rw [List.foldl_cons, ih]
    congr 1
    cases s with
    | mk a =>
      show a.push _ ++ _ = _
      apply Array.ext'
      simp
theorem run_toString {P : Program} {x : Cx} {okr : Nat → Prop} {l : List Int} {t : Bool} {v : Value} (h : SlAt x.w okr l.length t v (RowIs x.w x.okP (.ints .u8 l))) : (Conv.bytesToString v).run P x.w = .ok (.string (strOf l)) x.w := by
  rcases h with ⟨rfl, h0⟩ | ⟨b, o, cap, sp, rfl, hn, ht, hc⟩
  · have : l = [] := List.length_eq_zero_iff.1 h0
    subst this
    rfl
  · have hload : (loadCells ⟨b, o, sp⟩ l.length).run P x.w = .ok (l.map (Value.int .u8)).toArray x.w := by
      by_cases hl0 : l.length = 0
      · have : l = [] := List.length_eq_zero_iff.1 hl0
        subst this
        simp [loadCells, loadCellsFrom]
      obtain ⟨rfl, _, hcr⟩ := hc (by omega)
      have := run_loadCells_list (P := P) x.w ⟨b, o, none⟩ (l.map (Value.int .u8)) (fun j u hj => ?_)
      · simpa using this
      · rw [Addr.add_lit]
        simp only [List.getElem?_map] at hj
        cases hl : l[j]? with
        | none => simp [hl] at hj
        | some n =>
          simp [hl] at hj
          have hi : j < l.length := by
            rcases Nat.lt_or_ge j l.length with h' | h'
            · exact h'
            · simp [List.getElem?_eq_none h'] at hl
          have := hcr j hi
          simp only [List.getD, hl, Option.getD_some] at this
          rw [this, hj]
    rw [run_bytesToString x.w ⟨b, o, sp⟩ l.length cap l hload, foldl_push]
    congr 2
    simp [strOf]
theorem snap_any {x : Cx} {r off n : Nat} {t : Bool} {v : Value} {rw : Row} (hc : RepC x (.own r off n t) v) (hrow : RowAt x r rw ∨ Vir x r rw) : SlAt x.w (fun _ => True) n t v (RowIs x.w x.okP (rw.cut off n)) := by
  rcases hrow with hrow | hrow
  rotate_left
  · have h := repP_row.1 (snap_vir (ok := x.okP) (okr := fun _ => True) hc hrow)
    have := hrow.own hc
    rw [len_zero_cut hrow.2.2.2.1, ← this.1] at h
    exact h
  have h := repP_row.1 (snap_ok (okr := fun _ => True) hc hrow trivial)
  have hle : off + n ≤ rw.len := by
    obtain ⟨_, _, _, _, _, _, _, hrl, _⟩ := hrow
    have := hc.2.1
    omega
  rwa [len_cut hle] at h
theorem run_markStringish {P : Program} {w : World} {c : Array Value} {e : TypeId} : (markStringish ⟨w.heap.size, 0, none⟩).run P (w.alloc (.cells c e)) = .ok () (w.alloc (.cells c e (c.size, c.size + 1))) := by
  have hsh : (w.alloc (.cells c e)).shape? w.heap.size = some (e, c.size) := by
    unfold World.shape?
    rw [heap_push_new]
  have hfr : (w.alloc (.cells c e)).freeze { block := w.heap.size, off := c.size } 1 = w.alloc (.cells c e (c.size, c.size + 1)) := by
    unfold World.freeze World.alloc
    simp only [Nat.one_ne_zero, if_false]
    congr 1
    apply Array.ext_getElem?
    intro i
    rw [Array.getElem?_modify, Array.getElem?_push, Array.getElem?_push]
    by_cases hi : i = w.heap.size
    · subst hi; simp
    · rw [if_neg (fun h => hi h.symm), if_neg hi, if_neg hi]
  simp only [markStringish, shape, freeze, Sem.run_bind, Sem.run, hsh, Result.andThen_ok, hfr]
theorem mark_block {P : Program} {w : World} {b o : Nat} {c : Array Value} {e : TypeId} {fr : Nat × Nat} (h : w.heap[b]? = some (.cells c e fr)) (hn : NoFr c fr) :
    ∃ fr', NoFr c fr' ∧ (markStringish ⟨b, o, none⟩).run P w = .ok () (setBlk w b (.cells c e fr')) := by
  obtain ⟨lo, hi⟩ := fr
  refine ⟨if (lo == hi) = true then (c.size, c.size + 1) else (min lo c.size, max hi (c.size + 1)), ?_, ?_⟩
  · unfold NoFr at hn ⊢
    split
    · exact .inr (Nat.le_refl _)
    · rename_i hne
      rcases hn with hn | hn
      · simp at hne; exact (hne hn).elim
      · right; simp only at hn ⊢; omega
  · have hsh : w.shape? b = some (e, c.size) := by
      unfold World.shape?
      rw [h]
    have hb : b < w.heap.size := by
      rcases Nat.lt_or_ge b w.heap.size with h' | h'
      · exact h'
      · simp [Array.getElem?_eq_none h'] at h
    have hfr : w.freeze { block := b, off := c.size } 1 = setBlk w b (.cells c e (if (lo == hi) = true then (c.size, c.size + 1) else (min lo c.size, max hi (c.size + 1)))) := by
      unfold World.freeze setBlk
      simp only [Nat.one_ne_zero, if_false]
      congr 1
      apply Array.ext_getElem?
      intro i
      rw [Array.getElem?_modify, Array.getElem?_setIfInBounds]
      by_cases hi : b = i
      · subst hi
        have h2 : w.heap[b] = .cells c e (lo, hi) := by rw [Array.getElem?_eq_getElem hb] at h; exact Option.some.inj h
        simp [hb, h2]
      · simp [hi]
    simp only [markStringish, shape, freeze, Sem.run_bind, Sem.run, hsh, Result.andThen_ok, hfr]
theorem sto_mark {x : Cx} {objs : List (Nat × Obj)} {rows : List (Nat × RowB)} {rr : Nat} {rw : Row} {c : Array Value} {e : TypeId} {fr fr' : Nat × Nat} (hs : Sto x objs rows) (hlk : lkup rr rows = some (.live rw)) (hnv : ¬ Vir x rr rw)
    (hh : x.w.heap[x.g.rb rr]? = some (.cells c e fr)) (hn : NoFr c fr') : Ext x (x.put (x.g.rb rr) (.cells c e fr')) ∧ Sto (x.put (x.g.rb rr) (.cells c e fr')) objs rows := by
  obtain ⟨hu, hvir | ⟨_, hS, c', e', fr0, hh', hnf, hcs, hes, hrl, hle, hrow⟩⟩ := hs.liveC hlk
  · exact (hnv hvir).elim
  obtain ⟨rfl, rfl, rfl⟩ : c' = c ∧ e' = e ∧ fr0 = fr := by rw [hh'] at hh; cases hh; exact ⟨rfl, rfl, rfl⟩
  have hx : Ext x (x.put (x.g.rb rr) (.cells c' e' fr')) := Cx.ext_put hS
  have hother : ∀ b, b ≠ x.g.rb rr → (x.put (x.g.rb rr) (.cells c' e' fr')).w.heap[b]? = x.w.heap[b]? := fun b hb => setBlk_other hb
  refine ⟨hx, ?_, ?_, ?_, hs.injO, hs.injR, hs.injX, fun b hb => by simp only [Cx.put, setBlk_size]; exact hs.Slt b hb, fun b hb => by simp only [Cx.put, setBlk_size]; exact hs.Blt b hb, hs.SB⟩
  · intro o l hl
    obtain ⟨h1, h2, h3⟩ := hs.obj o l hl
    exact ⟨h1, h2, h3.mono hx (G.Le.refl _) (hother _ (fun he => hs.injX _ _ _ _ hl hlk hnv he))⟩
  · intro r' rw2 hl
    obtain ⟨h1, h23⟩ := hs.liveC hl
    by_cases he : r' = rr
    · subst he
      rw [hlk] at hl
      cases hl
      exact ⟨hu, .inl ⟨hS, c', e', fr', setBlk_same (hs.Slt _ hS), hn, hcs, hes, hrl, hle, RowIs.mono (fun _ hb => hx.okP hb) (fun b hb => hx.blk b hb.1 hb.2.1) hrow⟩⟩
    · rcases h23 with h2 | ⟨hnv2, h2, h3⟩
      · exact ⟨h1, .inr h2⟩
      · exact ⟨h1, .inl ⟨h2, h3.mono hx (G.Le.refl _) h1 (hother _ (fun h => he (hs.injR _ _ _ _ hl hlk hnv2 hnv h)))⟩⟩
  · intro r' rw2 hl
    obtain ⟨h1, h2⟩ := hs.froz r' rw2 hl
    exact ⟨h1, h2.imp (fun ⟨h2, h3⟩ => ⟨hx.okP h2, h3.mono hx (G.Le.refl _) h1 (hother _ (fun he => h2.2.1 (he ▸ hS)))⟩) id⟩
theorem says_convert {R : Type} {P : Program} {x : Cx} {src dst nm : Nat} {av : SV} {s : St} {v : Value} {k : SV → St → Ans R} {r : R} (hs : Sto x s.objs s.rows) (hn : ¬ x.g.U nm) (hv : RepS x av v) (h : Says (evConvert P src dst av nm s k) r) :
    Turns P x (· = nm) s (convert src dst v) k r := by
  obtain ⟨hsrc, h1⟩ := says_chk h
  clear h
  obtain ⟨ds, hds⟩ := Option.isSome_iff_exists.1 hsrc
  split at h1
  · rename_i kd hdst
    obtain ⟨k0, n, ha, h2⟩ := says_wInt h1
    rw [ha] at hv
    rw [rep_int hv]
    refine Gives.turns hs (.int h2 (fun _ => ?_))
    simp [convert, run_underlying hds, run_underlying hdst, Conv.intToInt]
  · rename_i hdst
    split at h1
    · rename_i b
      rw [rep_str hv]
      refine Gives.turns hs (.pv (u := .string b) h1 (fun _ => ?_) (by simp [RepP]))
      simp [convert, run_underlying hds, run_underlying hdst]
    · rename_i c hnot
      obtain ⟨e, he, h2⟩ := says_get h1
      have hu := run_elemT he
      split at h2
      · rename_i hu8
        have hv2 : RepC x c v := hv.2
        have conv : ∀ {okr : Nat → Prop} {l : List Int} {t : Bool}, SlAt x.w okr l.length t v (RowIs x.w x.okP (.ints .u8 l)) → (convert src dst v).run P x.w = .ok (.string (strOf l)) x.w := by
          intro okr l t hsl
          have hsl' : ∃ a n c, v = .slice a n c := by
            rcases hsl with ⟨h, _⟩ | ⟨b, o, cap, sp, h, _⟩
            · exact ⟨_, _, _, h⟩
            · exact ⟨_, _, _, h⟩
          obtain ⟨a, n, c, rfl⟩ := hsl'
          rw [run_convert_bytes_string x.w src dst e a n c hu hu8 hdst]
          exact run_toString hsl
        cases c with
        | pv p =>
          obtain ⟨rw, tt, h3, hsl, _⟩ := says_row (r0 := .ints .u8 []) rfl (fun f => by intro i hi; simp at hi) hv2 h2
          split at h3
          · exact Turns.same hs h3 (conv hsl) ⟨rfl, by simp [RepC, RepP]⟩
          · exact (says_none h3).elim
        | bor p =>
          obtain ⟨rw, tt, h3, hsl, _⟩ := says_row (r0 := .ints .u8 []) rfl (fun f => by intro i hi; simp at hi) hv2 h2
          split at h3
          · exact Turns.same hs h3 (conv hsl) ⟨rfl, by simp [RepC, RepP]⟩
          · exact (says_none h3).elim
        | own rr off n tt =>
          obtain ⟨rb, hrb, h3⟩ := says_get h2
          have hsn : ∀ {l : List Int}, RowAt x rr (.ints .u8 l) ∨ Vir x rr (.ints .u8 l) → SlAt x.w (fun _ => True) ((l.drop off).take n).length tt v (RowIs x.w x.okP (.ints .u8 ((l.drop off).take n))) := by
            intro l hrow
            have h := snap_any hv2 hrow
            have hle : off + n ≤ l.length := by
              have hrl : (Row.ints .u8 l).len = x.g.rl rr := by
                rcases hrow with ⟨_, _, _, _, _, _, _, hrl, _⟩ | hrow
                · exact hrl
                · exact hrow.2.2.1
              have := hv2.2.1
              simp only [Row.len] at hrl
              omega
            have : ((l.drop off).take n).length = n := by simp; omega
            rw [this]; exact h
          split at h3
          · exact Turns.same hs h3 (conv (hsn ((hs.live _ _ hrb).2.imp (·.2) id))) ⟨rfl, by simp [RepC, RepP]⟩
          · exact Turns.same hs h3 (conv (hsn ((hs.froz _ _ hrb).2.imp (·.2) id))) ⟨rfl, by simp [RepC, RepP]⟩
          · exact (says_none h3).elim
        | ref => exact (says_none h2).elim
        | iadr => exact (says_none h2).elim
        | radr => exact (says_none h2).elim
        | dead => exact (says_none h2).elim
      · exact (says_none h2).elim
    · exact (says_none h1).elim
  · rename_i e hdst
    split at h1
    · rename_i b
      split at h1
      · rename_i hu8
        obtain ⟨hb, h2⟩ := says_need h1
        simp only [decide_eq_true_eq] at hb
        rw [rep_str hv]
        have hgd := Cx.grow_drew (x := x) hs.Slt
        have hsd := hs.grow hgd
        let cap := (Question.appendCap b.size 0 e).cut (x.w.tape x.w.drawn (.appendCap b.size 0 e))
        have hcap : b.size ≤ cap := by simp [cap, Question.cut]
        let c : Array Value := (b.data.map fun u => Value.int .u8 (u.toNat : Int)) ++ Array.replicate (cap - b.size) (.int .u8 0)
        have hcs : c.size = cap := by
          have hsz : b.data.size = b.size := rfl
          simp only [c, Array.size_append, Array.size_map, hsz, Array.size_replicate]; omega
        have hlen : (Row.ints .u8 (bytesL b)).len = b.size := by
          show (bytesL b).length = _
          simp [bytesL]
        obtain ⟨hg2, hs2⟩ := sto_newR (x := x.drew) (nm := nm) (rw := .ints .u8 (bytesL b)) (c := c) (e := e) (fr := (c.size, c.size + 1)) hsd hn (.inr (Nat.le_refl _)) (by rw [hlen]; simp only [Row.esz]; omega) (by
          intro i hi
          have hi2 : i < b.data.size := by simpa [bytesL] using hi
          show c[i]? = _
          simp only [c]
          rw [Array.getElem?_append_left (by simpa using hi2)]
          have h5 : b.data[i]? = some b.data[i] := Array.getElem?_eq_getElem hi2
          simp [bytesL, List.getD, h5])
        refine ⟨.slice (some ⟨x.w.heap.size, 0, none⟩) b.size cap, cone (.own nm 0 (Row.ints .u8 (bytesL b)).len false), { s with rows := (nm, .live (.ints .u8 (bytesL b))) :: s.rows }, _, ?_, hgd.ext.trans hg2.ext, hgd.g.trans hg2.g, ?_, hs2, rfl, ?_, h2⟩
        · have hch : (choose (.appendCap b.size 0 e)).run P x.w = .ok cap x.w.drew := by simp [choose, Sem.run, Question.forced, cap]
          simp only [convert, Sem.run_bind, run_underlying hds, run_underlying hdst, Result.andThen_ok]
          have hcv : (Conv.stringToBytes e b).run P x.w = .ok (.slice (some ⟨x.w.heap.size, 0, none⟩) b.size cap) (x.drew.more (.cells c e (c.size, c.size + 1)) (x.drew.g.newR nm x.drew.w.heap.size (Row.ints .u8 (bytesL b)).esz c.size (Row.ints .u8 (bytesL b)).len)).w := by
            simp only [Conv.stringToBytes, Sem.run_bind, hch, Result.andThen_ok, run_newRow]
            have := run_markStringish (P := P) (w := x.w.drew) (c := c) (e := e)
            simp only [World.size_drew] at this
            simp only [World.size_drew]
            rw [this]
            rfl
          cases ds <;> simp only [Sem.run_bind, run_underlying hu8, Result.andThen_ok] <;> exact hcv
        · intro n hU
          exact hU
        · rw [hlen]
          refine ⟨rfl, .inr rfl, ?_, .inr ⟨_, _, _, rfl, hcap, by simp, fun _ => ?_⟩⟩
          · simp [Cx.more, G.newR, hlen]
          · simp [Cx.more, G.newR, Row.esz, hcs]
            rfl
      · exact (says_none h1).elim
    · rename_i rr off n tt
      split at h1
      · rename_i hu8
        obtain ⟨hck, h2⟩ := says_chk h1
        simp only [Bool.and_eq_true] at hck
        obtain rfl : src = dst := Nat.eq_of_beq_eq_true hck.1
        have hpos : 0 < n := Nat.le_of_ble_eq_true hck.2
        obtain ⟨rb, hrb, h3⟩ := says_get h2
        cases rb with
        | froz => exact (says_none h3).elim
        | gone => exact (says_none h3).elim
        | live rw =>
          obtain ⟨hv1, hU, hrl, hown⟩ := hv
          rcases hown with ⟨_, h0⟩ | ⟨b, o, cap, hvv, hle, htt, hfit⟩
          · omega
          · obtain ⟨hb, ho, hfit⟩ := hfit (by omega)
            obtain ⟨hu, hvir | ⟨hnv, hS, c, ec, fr, hh, hnf, _⟩⟩ := hs.liveC hrb
            · have := (hvir.own (v := v) ⟨hU, hrl, .inr ⟨b, o, cap, hvv, hle, htt, fun _ => ⟨hb, ho, hfit⟩⟩⟩).1
              omega
            obtain ⟨fr', hn', hrun⟩ := mark_block (P := P) (o := o) hh hnf
            obtain ⟨hx, hs2⟩ := sto_mark hs hrb hnv hh hn'
            refine ⟨v, cone (.own rr off n tt), s, x.put (x.g.rb rr) (.cells c ec fr'), ?_, hx, G.Le.refl _, fun m hm => .inl hm, hs2, rfl, ⟨hv1, hU, hrl, .inr ⟨b, o, cap, hvv, hle, htt, fun _ => ⟨hb, ho, hfit⟩⟩⟩, h3⟩
            rw [hvv]
            rw [hdst] at hds
            cases hds
            simp [convert, run_underlying hdst, run_underlying hu8, hrun, Cx.put, hb]
      · exact (says_none h1).elim
    · exact (says_none h1).elim
  · exact (says_none h1).elim
end Go.Ev
