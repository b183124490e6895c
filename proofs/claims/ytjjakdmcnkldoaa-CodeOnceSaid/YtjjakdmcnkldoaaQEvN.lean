/- append. No program in sight. -/
import Derived.Test.YtjjakdmcnkldoaaQEvM
namespace Go.Ev
set_option linter.unusedVariables false
set_option linter.unusedSimpArgs false

theorem cell_of_heap {w w' : World} (h : w'.heap = w.heap) (a : Addr) : w'.cell? a = w.cell? a := by simp [World.cell?, h]
/-- A slice's elements, loaded. -/
theorem run_first {P : Program} {x : Cx} {okr : Nat → Prop} {rw : Row} {t : Bool} {v : Value} (h : SlAt x.w okr rw.len t v (RowIs x.w x.okP rw)) (h0 : rw.len = 0 → ∀ f, RowIs x.w x.okP rw f) :
    ∃ vs : List Value, vs.length = rw.len * rw.esz ∧ (∀ u ∈ vs, u.oneCell' = true) ∧ RowIs x.w x.okP rw (fun i => vs[i]?) ∧
      (∀ w', w'.heap = x.w.heap → (Builtin.firstCells rw.esz rw.len v).run P w' = .ok vs.toArray w' ∧ (Builtin.lenOf v).run P w' = .ok rw.len w') := by
  rcases h with ⟨rfl, hz⟩ | ⟨b, o, cap, sp, rfl, hn, ht, hc⟩
  · refine ⟨[], by simp [hz], by simp, h0 hz _, fun w' _ => ⟨rfl, by simp [Builtin.lenOf, hz]⟩⟩
  · by_cases hz : rw.len = 0
    · refine ⟨[], by simp [hz], by simp, h0 hz _, fun w' _ => ⟨?_, by simp [Builtin.lenOf]⟩⟩
      simp [Builtin.firstCells, hz, loadCells, loadCellsFrom]
    · obtain ⟨rfl, _, hrow⟩ := hc (by omega)
      obtain ⟨vs, hl, h1, hv⟩ := row_vals hrow
      refine ⟨vs, hl, h1, rowIs_congr hrow (fun i hi => ?_), fun w' hw => ⟨?_, by simp [Builtin.lenOf]⟩⟩
      · have hi2 : i < vs.length := by omega
        rw [List.getElem?_eq_getElem hi2]
        exact hv i _ (List.getElem?_eq_getElem hi2)
      · simp only [Builtin.firstCells]
        rw [← hl]
        exact run_loadCells_list w' ⟨b, o, none⟩ vs (fun j u hj => by rw [Addr.add_lit, cell_of_heap hw]; exact hv j u hj)
theorem rowIs_empty {w : World} {ok : Nat → Prop} {rw : Row} (h : rw.len = 0) (f : Nat → Option Value) : RowIs w ok rw f := by
  cases rw with
  | ints k l => intro i hi; simp only [Row.len] at h; omega
  | bools l => intro i hi; simp only [Row.len] at h; omega
  | recs sz l => have : l = [] := List.length_eq_zero_iff.1 h; subst this; simp [RowIs, RepPss]
theorem says_src {R : Type} {P : Program} {x : Cx} {r0 : Row} {yv : SV} {u : Value} {s : St} {k : Row → Ans R} {r : R} (h0 : r0.len = 0) (hs : Sto x s.objs s.rows) (hu : RepS x yv u) (h : Says (srcRow r0 yv s k) r) :
    ∃ r2, Says (k r2) r ∧ ∃ vs : List Value, vs.length = r2.len * r2.esz ∧ (∀ u ∈ vs, u.oneCell' = true) ∧ RowIs x.w x.okP r2 (fun i => vs[i]?) ∧
      (∀ w', w'.heap = x.w.heap → (Builtin.firstCells r2.esz r2.len u).run P w' = .ok vs.toArray w' ∧ (Builtin.lenOf u).run P w' = .ok r2.len w') ∧ (∀ k n, u ≠ .int k n) := by
  unfold srcRow at h
  split at h
  · rename_i b
    split at h
    · rw [rep_str hu]
      have hlen : (bytesL b).length = b.size := by simp [bytesL]
      refine ⟨_, h, b.data.toList.map (fun c => Value.int .u8 (c.toNat : Int)), ?_, ?_, ?_, fun w' _ => ⟨?_, ?_⟩, by simp⟩
      · simp [Row.len, Row.esz, hlen]
      · intro v hv; obtain ⟨c, _, rfl⟩ := List.mem_map.1 hv; rfl
      · intro i hi
        have hi2 : i < b.data.size := by simpa [bytesL] using hi
        have h5 : b.data[i]? = some b.data[i] := Array.getElem?_eq_getElem hi2
        simp [bytesL, List.getD, h5]
      · show (Builtin.firstCells 1 (bytesL b).length (.string b)).run P w' = _
        rw [hlen]
        simp only [Builtin.firstCells, Sem.run_pure]
        congr 1
        apply Array.ext'
        have : b.extract 0 b.size = b := by
          cases b with
          | mk a => simp [ByteArray.extract, ByteArray.copySlice, ByteArray.size]
        rw [this]; simp
      · simp [Builtin.lenOf, Row.len, hlen]
    · exact (says_none h).elim
  · rename_i p hnot
    obtain ⟨rw, tt, h1, hsl, _⟩ := says_row h0 (fun f => rowIs_empty h0 f) hu.2 h
    obtain ⟨vs, a, b, c, d⟩ := run_first (P := P) hsl (fun h f => rowIs_empty h f)
    refine ⟨rw, h1, vs, a, b, c, d, ?_⟩
    rcases hsl with ⟨rfl, _⟩ | ⟨_, _, _, _, rfl, _⟩ <;> simp
  · rename_i p
    obtain ⟨rw, tt, h1, hsl, _⟩ := says_row h0 (fun f => rowIs_empty h0 f) hu.2 h
    obtain ⟨vs, a, b, c, d⟩ := run_first (P := P) hsl (fun h f => rowIs_empty h f)
    refine ⟨rw, h1, vs, a, b, c, d, ?_⟩
    rcases hsl with ⟨rfl, _⟩ | ⟨_, _, _, _, rfl, _⟩ <;> simp
  · rename_i rr off n tt
    obtain ⟨rb, hrb, h1⟩ := says_get h
    have hu2 : RepC x (.own rr off n tt) u := hu.2
    have go : ∀ {rw : Row}, RowAt x rr rw ∨ Vir x rr rw → Says (k (rw.cut off n)) r → ∃ r2, Says (k r2) r ∧ ∃ vs : List Value, vs.length = r2.len * r2.esz ∧ (∀ u ∈ vs, u.oneCell' = true) ∧ RowIs x.w x.okP r2 (fun i => vs[i]?) ∧
      (∀ w', w'.heap = x.w.heap → (Builtin.firstCells r2.esz r2.len u).run P w' = .ok vs.toArray w' ∧ (Builtin.lenOf u).run P w' = .ok r2.len w') ∧ (∀ k n, u ≠ .int k n) := by
      intro rw hrow h2
      have hsl := snap_any hu2 hrow
      have hle : off + n ≤ rw.len := by
        have hrl : rw.len = x.g.rl rr := by
          rcases hrow with ⟨_, _, _, _, _, _, _, hrl, _⟩ | hrow
          · exact hrl
          · exact hrow.2.2.1
        have := hu2.2.1
        omega
      have hsl2 : SlAt x.w (fun _ => True) (rw.cut off n).len tt u (RowIs x.w x.okP (rw.cut off n)) := by rw [len_cut hle]; exact hsl
      obtain ⟨vs, a, b, c, d⟩ := run_first (P := P) hsl2 (fun h f => rowIs_empty h f)
      refine ⟨_, h2, vs, a, b, c, d, ?_⟩
      rcases hsl2 with ⟨rfl, _⟩ | ⟨_, _, _, _, rfl, _⟩ <;> simp
    cases rb with
    | live rw => exact go ((hs.live _ _ hrb).2.imp (·.2) id) h1
    | froz rw => exact go ((hs.froz _ _ hrb).2.imp (·.2) id) h1
    | gone => exact (says_none h1).elim
  · exact (says_none h).elim

theorem growBy_le (n : Nat) : ∀ (r c : Nat), Builtin.growBy n r c ≤ max c (n + (n + 768) / 4)
  | 0, c => by simp [Builtin.growBy]; omega
  | r + 1, c => by
    simp only [Builtin.growBy]
    split
    · omega
    · have := growBy_le n r (c + (c + 768) / 4)
      omega
theorem next_le {need cap : Nat} (h : cap < need) : Builtin.nextslicecap need cap ≤ 2 * need + 192 := by
  unfold Builtin.nextslicecap
  split
  · omega
  · split
    · omega
    · have := growBy_le need 4 cap
      omega

theorem sto_gone {x : Cx} {objs : List (Nat × Obj)} {rows : List (Nat × RowB)} {r : Nat} (hs : Sto x objs rows) : Sto x objs ((r, .gone) :: rows) where
  obj := hs.obj
  live r' rw hl := by
    rw [lkup_cons] at hl
    split at hl
    · cases hl
    · exact hs.live _ _ hl
  froz r' rw hl := by
    rw [lkup_cons] at hl
    split at hl
    · cases hl
    · exact hs.froz _ _ hl
  injO := hs.injO
  injR r1 r2 rw1 rw2 h1 h2 := by
    rw [lkup_cons] at h1 h2
    split at h1
    · cases h1
    · split at h2
      · cases h2
      · exact hs.injR _ _ _ _ h1 h2
  injX o r1 l rw1 h1 h2 := by
    rw [lkup_cons] at h2
    split at h2
    · cases h2
    · exact hs.injX _ _ _ _ h1 h2
  Slt := hs.Slt
  Blt := hs.Blt
  SB := hs.SB

section
variable {P : Program} {x : Cx} {t tu ty e : TypeId} {v u : Value}

/-- What of a type append asks. -/
structure ApT (P : Program) (t tu e : TypeId) (sz : Nat) (z : Value) : Prop where
  ht : P.underlying t = some (.slice e)
  hu : (∃ e', P.underlying tu = some (.slice e')) ∨ P.underlying tu = some .string
  hsz : ∀ w, (sizeOf e).run P w = .ok sz w
  hz : ∀ w, (zeroValue e).run P w = .ok z w
  hzs : z.cells.size = sz
  hb : P.bytesOf e ≤ 65536
  hi : ∃ i, P.info? e = some i
theorem ApT.info {sz : Nat} {z : Value} (h : ApT P t tu e sz z) : ∃ i, (∀ w, (typeInfo e).run P w = .ok i w) ∧ i.bytes ≤ 65536 := by
  obtain ⟨i, hi⟩ := h.hi
  refine ⟨i, fun w => by simp [typeInfo, program, Sem.run, hi, Result.andThen, Sem.bind], ?_⟩
  have := h.hb
  unfold Program.bytesOf at this
  simpa [hi] using this
/-- Into room: the machine's part. -/
theorem run_append_in {sz : Nat} {z : Value} (hT : ApT P t tu e sz z) {w w' : World} {base : Option Addr} {n cap m : Nat} {vs : List Value} (hl : (Builtin.lenOf u).run P w = .ok m w) (hroom : n + m ≤ cap)
    (hf : (Builtin.firstCells sz m u).run P w = .ok vs.toArray w) (hst : ∀ a, base = some a → (storeCells (a.add (n * sz)) vs).run P w = .ok () w') (hbn : base = none → w' = w) :
    (Builtin.append_ #[t, tu] ty #[.slice base n cap, u]).run P w = .ok (.slice base (n + m) cap) w' := by
  rcases hT.hu with ⟨e', hu⟩ | hu
  all_goals
    cases base with
    | none =>
      have := hbn rfl
      subst this
      simp only [Builtin.append_, List.getElem?_toArray, List.getElem?_cons_zero, List.getElem?_cons_succ, Sem.run_bind, run_underlying hT.ht, run_underlying hu, Result.andThen_ok, hT.hsz, Bool.false_eq_true, if_false, hl, if_pos hroom, Bool.not_false, if_true, hf, Sem.run_pure]
    | some a =>
      have h2 := hst a rfl
      simp only [Builtin.append_, List.getElem?_toArray, List.getElem?_cons_zero, List.getElem?_cons_succ, Sem.run_bind, run_underlying hT.ht, run_underlying hu, Result.andThen_ok, hT.hsz, Bool.false_eq_true, if_false, hl, if_pos hroom, Bool.not_false, if_true, hf, Sem.run_pure, h2]

/-- Into a new block: the machine's part. -/
theorem run_append_new {sz : Nat} {z : Value} (hT : ApT P t tu e sz z) {w : World} {base : Option Addr} {n cap m : Nat} {old vs : List Value} (hl : (Builtin.lenOf u).run P w = .ok m w) (hroom : cap < n + m) (hfit : n + m ≤ 536870912)
    (ho : (Builtin.firstCells sz n (.slice base n cap)).run P w.drew = .ok old.toArray w.drew) (hf : (Builtin.firstCells sz m u).run P w.drew = .ok vs.toArray w.drew) :
    ∃ newCap rest, n + m ≤ newCap ∧ rest.length = (newCap - (n + m)) * sz ∧
    (Builtin.append_ #[t, tu] ty #[.slice base n cap, u]).run P w = .ok (.slice (some ⟨w.heap.size, 0, none⟩) (n + m) newCap) (w.drew.alloc (.cells (old ++ vs ++ rest).toArray e)) := by
  obtain ⟨i, hi, hib⟩ := hT.info
  let newCap := (Question.appendCap (n + m) cap e).cut (w.tape w.drawn (.appendCap (n + m) cap e))
  refine ⟨newCap, (Builtin.zeroCells z.cells (newCap - (n + m))).toList, by simp [newCap, Question.cut], ?_, ?_⟩
  · rw [Array.length_toList, size_zeroCells, hT.hzs]
  · have hch : (choose (.appendCap (n + m) cap e)).run P w = .ok newCap w.drew := by simp [choose, Sem.run, Question.forced, newCap]
    have hask : ∀ b w, (askRoom b).run P w = .ok () w := by
      intro b w
      unfold askRoom
      split
      · simp [mark, Sem.run]
      · rfl
    have h1 : ¬ (n + m ≤ cap) := by omega
    have h3 : ¬ (Builtin.nextslicecap (n + m) cap * i.bytes > 2 ^ 48) := by
      have ha := next_le hroom
      have hb : Builtin.nextslicecap (n + m) cap * i.bytes ≤ (2 * (n + m) + 192) * 65536 := Nat.mul_le_mul ha hib
      omega
    rcases hT.hu with ⟨e', hu⟩ | hu
    all_goals
      simp only [Builtin.append_, List.getElem?_toArray, List.getElem?_cons_zero, List.getElem?_cons_succ, Sem.run_bind, run_underlying hT.ht, run_underlying hu, Result.andThen_ok, hT.hsz, Bool.false_eq_true, if_false, hl, if_neg h1, Bool.not_false, if_true, hi, hch, hask, ho, hf,
        hT.hz, run_newRow, Sem.run_pure, false_or]
      rw [if_neg (by rw [IntKind.max_i64]; omega)]
      simp only [Sem.run_bind, hi, Result.andThen_ok, if_neg h3, hch, hask, ho, hf, hT.hz, run_newRow, Sem.run_pure, World.size_drew]
      congr 3
      apply Array.ext'
      simp
end

/-- A row that has no memory, under a new name. -/
theorem sto_void {x : Cx} {objs : List (Nat × Obj)} {rows : List (Nat × RowB)} {nm b : Nat} {r' : Row} (hs : Sto x objs rows) (hn : ¬ x.g.U nm) (hz : r'.len = 0) (hp : 0 < r'.esz) :
    ∃ y : Cx, y.w = x.w ∧ y.g = x.g.newR nm b r'.esz 0 0 ∧ Ext x y ∧ x.g.Le y.g ∧ y.okP = x.okP ∧ Sto y objs ((nm, .live r') :: rows) := by
  have hg : x.g.Le (x.g.newR nm b r'.esz 0 0) := G.le_newR hn
  have hx : Ext x { x with g := x.g.newR nm b r'.esz 0 0 } := ⟨rfl, rfl, rfl, Nat.le_refl _, fun _ _ _ => rfl, fun _ h => .inl h, rfl⟩
  have h2 : Sto { x with g := x.g.newR nm b r'.esz 0 0 } objs rows := hs.grow ⟨hx, hg, fun _ _ => rfl, fun _ h => h, hs.Slt⟩
  have hv : Vir { x with g := x.g.newR nm b r'.esz 0 0 } nm r' := by
    unfold Vir
    simp only [G.newR, if_pos]
    exact ⟨trivial, trivial, hz, hz, hp⟩
  refine ⟨{ x with g := x.g.newR nm b r'.esz 0 0 }, rfl, rfl, hx, hg, rfl, h2.obj, ?_, ?_, h2.injO, ?_, ?_, hs.Slt, hs.Blt, hs.SB⟩
  · intro r1 rw1 hl
    rw [lkup_cons] at hl
    split at hl
    · rename_i he
      cases hl
      rw [he]
      exact ⟨.inr rfl, .inr hv⟩
    · exact h2.live _ _ hl
  · intro r1 rw1 hl
    rw [lkup_cons] at hl
    split at hl
    · cases hl
    · exact h2.froz _ _ hl
  · intro r1 r2 rw1 rw2 h1 h3 hv1 hv2 he
    rw [lkup_cons] at h1 h3
    split at h1
    · rename_i e1
      cases h1
      exact (hv1 (e1 ▸ hv)).elim
    · split at h3
      · rename_i e1
        cases h3
        exact (hv2 (e1 ▸ hv)).elim
      · exact h2.injR _ _ _ _ h1 h3 hv1 hv2 he
  · intro o r1 l rw1 h1 h3 hv1
    rw [lkup_cons] at h3
    split at h3
    · rename_i e1
      cases h3
      exact (hv1 (e1 ▸ hv)).elim
    · exact h2.injX _ _ _ _ h1 h3 hv1

/-- A row of the frame's own, longer where it lies. -/
theorem sto_extend {x : Cx} {objs : List (Nat × Obj)} {rows : List (Nat × RowB)} {r nm : Nat} {rw r' : Row} {c0 c : Array Value} {e0 : TypeId} {fr0 : Nat × Nat} (hs : Sto x objs rows) (hn : ¬ x.g.U nm) (hr : lkup r rows = some (.live rw)) (hnv : ¬ Vir x r rw)
    (hh : x.w.heap[x.g.rb r]? = some (.cells c0 e0 fr0)) (hc : c.size = c0.size) (hesz : r'.esz = rw.esz) (hle : r'.len * r'.esz ≤ c.size) (hrow : RowIs x.w x.okP r' fun i => c[i]?) :
    ∃ y : Cx, y.w = setBlk x.w (x.g.rb r) (.cells c e0 fr0) ∧ y.g = x.g.newR nm (x.g.rb r) rw.esz (x.g.rc r) r'.len ∧ Ext x y ∧ x.g.Le y.g ∧ Sto y objs ((nm, .live r') :: (r, .gone) :: rows) := by
  obtain ⟨hu, hvir | ⟨_, hS, c1, e1, fr1, hh1, hnf, hcs, hes, hrl, hle1, his⟩⟩ := hs.liveC hr
  · exact (hnv hvir).elim
  obtain ⟨rfl, rfl, rfl⟩ : c0 = c1 ∧ e0 = e1 ∧ fr0 = fr1 := by rw [hh1] at hh; cases hh; exact ⟨rfl, rfl, rfl⟩
  have hx : Ext x { x.put (x.g.rb r) (.cells c e0 fr0) with g := x.g.newR nm (x.g.rb r) rw.esz (x.g.rc r) r'.len } := by
    have := Cx.ext_put (o := .cells c e0 fr0) hS
    exact ⟨this.os, this.tape, this.output, this.size, this.blk, this.S, this.B⟩
  have hg : x.g.Le (x.g.newR nm (x.g.rb r) rw.esz (x.g.rc r) r'.len) := G.le_newR hn
  have hgone := sto_gone (r := r) hs
  refine ⟨_, rfl, rfl, hx, hg, ?_⟩
  have hother : ∀ b, b ≠ x.g.rb r → (setBlk x.w (x.g.rb r) (.cells c e0 fr0)).heap[b]? = x.w.heap[b]? := fun b hb => setBlk_other hb
  have hne : ∀ r1 rw1, lkup r1 ((r, RowB.gone) :: rows) = some (.live rw1) → ¬ Vir x r1 rw1 → x.g.rb r1 ≠ x.g.rb r := by
    intro r1 rw1 h1 hv1 he
    rw [lkup_cons] at h1
    split at h1
    · cases h1
    · rename_i hd; exact hd (hs.injR _ _ _ _ h1 hr hv1 hnv he)
  have hnm : ∀ r1 rb, lkup r1 ((r, RowB.gone) :: rows) = some rb → (∃ q, rb = .live q) → r1 ≠ nm := by
    rintro r1 rb h1 ⟨q, rfl⟩ he
    exact hn (he ▸ (hgone.live _ _ h1).1)
  have hrb : ∀ n, x.g.U n → (x.g.newR nm (x.g.rb r) rw.esz (x.g.rc r) r'.len).rb n = x.g.rb n := hg.rb
  have hrbn : (x.g.newR nm (x.g.rb r) rw.esz (x.g.rc r) r'.len).rb nm = x.g.rb r := by simp [G.newR]
  refine ⟨?_, ?_, ?_, ?_, ?_, ?_, ?_, ?_, hs.SB⟩
  · intro o l hl
    obtain ⟨h1, h2, h3⟩ := hs.obj o l hl
    exact ⟨.inl h1, h2, h3.mono hx hg (hother _ (fun he => hs.injX _ _ _ _ hl hr hnv he))⟩
  · intro r1 rw1 hl
    rw [lkup_cons] at hl
    split at hl
    · rename_i he
      cases hl
      rw [he]
      refine ⟨.inr rfl, .inl ⟨?_, c, e0, fr0, ?_, ?_, ?_, ?_, ?_, hle, RowIs.mono (fun _ hb => hx.okP hb) (fun b hb => hx.blk b hb.1 hb.2.1) hrow⟩⟩
      · show x.S _
        rw [hrbn]; exact hS
      · show (setBlk _ _ _).heap[_]? = _
        rw [hrbn]; exact setBlk_same (hs.Slt _ hS)
      · unfold NoFr at hnf ⊢; rw [hc]; exact hnf
      · simp only [G.newR, if_pos]; rw [hc, hcs]
      · simp only [G.newR, if_pos]; exact hesz
      · simp only [G.newR, if_pos]
    · have h0 := hl
      obtain ⟨h1, h2 | ⟨hnv2, h2, h3⟩⟩ := hgone.liveC hl
      · exact ⟨.inl h1, .inr (h2.mono hg h1)⟩
      · exact ⟨.inl h1, .inl ⟨by show x.S _; rw [hrb _ h1]; exact h2, h3.mono hx hg h1 (hother _ (hne _ _ h0 hnv2))⟩⟩
  · intro r1 rw1 hl
    rw [lkup_cons] at hl
    split at hl
    · cases hl
    · obtain ⟨h1, h2⟩ := hgone.froz _ _ hl
      exact ⟨.inl h1, h2.imp (fun ⟨h2, h3⟩ => ⟨by rw [hrb _ h1]; exact hx.okP h2, h3.mono hx hg h1 (hother _ (fun he => h2.2.1 (he ▸ hS)))⟩) (·.mono hg h1)⟩
  · exact hs.injO
  · intro r1 r2 rw1 rw2 h1 h2 hv1 hv2 he
    rw [lkup_cons] at h1 h2
    split at h1 <;> split at h2
    · omega
    · rename_i e1 e2
      have hu2 := (hgone.live _ _ h2).1
      rw [e1] at he
      have he2 : x.g.rb r = x.g.rb r2 := by rw [← hrbn, ← hrb _ hu2]; exact he
      exact absurd he2.symm (hne _ _ h2 fun h' => hv2 (h'.mono hg hu2))
    · rename_i e1 e2
      have hu1 := (hgone.live _ _ h1).1
      rw [e2] at he
      have he2 : x.g.rb r1 = x.g.rb r := by rw [← hrbn, ← hrb _ hu1]; exact he
      exact absurd he2 (hne _ _ h1 fun h' => hv1 (h'.mono hg hu1))
    · have hu1 := (hgone.live _ _ h1).1
      have hu2 := (hgone.live _ _ h2).1
      exact hgone.injR _ _ _ _ h1 h2 (fun h' => hv1 (h'.mono hg hu1)) (fun h' => hv2 (h'.mono hg hu2)) (by rw [← hrb _ hu1, ← hrb _ hu2]; exact he)
  · intro o r1 l rw1 h1 h2 hv he
    have he' : x.g.ob o = (x.g.newR nm (x.g.rb r) rw.esz (x.g.rc r) r'.len).rb r1 := he
    rw [lkup_cons] at h2
    split at h2
    · rename_i e1
      rw [e1, hrbn] at he'
      exact hs.injX _ _ _ _ h1 hr hnv he'
    · have hu2 := (hgone.live _ _ h2).1
      rw [hrb _ hu2] at he'
      exact hgone.injX _ _ _ _ h1 h2 (fun h' => hv (h'.mono hg hu2)) he'
  · intro b hb; simp only [Cx.put, setBlk_size]; exact hs.Slt b hb
  · intro b hb; simp only [Cx.put, setBlk_size]; exact hs.Blt b hb
end Go.Ev
