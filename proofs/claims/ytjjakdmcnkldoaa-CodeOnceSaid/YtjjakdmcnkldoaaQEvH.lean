/- Memory that turns: new blocks, stores, rows that are closed. No program in sight. -/
import Derived.Test.YtjjakdmcnkldoaaQEvG
namespace Go.Ev
set_option linter.unusedVariables false
set_option linter.unusedSimpArgs false

theorem RowIs.mono {w w' : World} {ok ok' : Nat → Prop} (hk : ∀ b, ok b → ok' b) (hb : ∀ b, ok b → w'.heap[b]? = w.heap[b]?) {rw : Row} {f : Nat → Option Value} (h : RowIs w ok rw f) : RowIs w' ok' rw f := by
  cases rw with
  | ints k l => exact h
  | bools l => exact h
  | recs sz l => exact RepPss.mono hk hb sz l h
theorem ObjAt.mono {x y : Cx} (h : Ext x y) (hg : x.g.Le y.g) {b : Nat} {l : List CV} (ho : ObjAt x b l) (hb : y.w.heap[b]? = x.w.heap[b]?) : ObjAt y b l := by
  obtain ⟨c, e, fr, hh, hn, hl⟩ := ho
  exact ⟨c, e, fr, by rw [hb]; exact hh, hn, hl.mono h hg⟩
theorem RowAt.mono {x y : Cx} (h : Ext x y) (hg : x.g.Le y.g) {r : Nat} {rw : Row} (hu : x.g.U r) (ho : RowAt x r rw) (hb : y.w.heap[x.g.rb r]? = x.w.heap[x.g.rb r]?) : RowAt y r rw := by
  obtain ⟨c, e, fr, hh, hn, h1, h2, h3, h4, h6⟩ := ho
  refine ⟨c, e, fr, by rw [hg.rb r hu, hb]; exact hh, hn, by rw [hg.rc r hu]; exact h1, by rw [hg.rs r hu]; exact h2, by rw [hg.rl r hu]; exact h3, h4, ?_⟩
  exact RowIs.mono (fun _ hb => h.okP hb) (fun b hb => h.blk b hb.1 hb.2.1) h6

theorem Vir.mono {x y : Cx} (hg : x.g.Le y.g) {r : Nat} {rw : Row} (hu : x.g.U r) (h : Vir x r rw) : Vir y r rw := by
  obtain ⟨h1, h2, h3, h4, h5⟩ := h
  exact ⟨by rw [hg.rc r hu]; exact h1, by rw [hg.rs r hu]; exact h2, by rw [hg.rl r hu]; exact h3, h4, h5⟩
theorem len_zero_cut {rw : Row} {off n : Nat} (h : rw.len = 0) : (rw.cut off n).len = 0 := by
  cases rw <;> simp_all [Row.cut, Row.len]

/-- The world has grown; what is the frame's own is as it was. -/
structure Grow (x y : Cx) : Prop where
  ext : Ext x y
  g : x.g.Le y.g
  same : ∀ b, b < x.w.heap.size → y.w.heap[b]? = x.w.heap[b]?
  S : ∀ b, x.S b → y.S b
  lt : ∀ b, y.S b → b < y.w.heap.size
theorem Sto.grow {x y : Cx} (h : Grow x y) {objs : List (Nat × Obj)} {rows : List (Nat × RowB)} (hs : Sto x objs rows) : Sto y objs rows where
  obj o l hl := by
    obtain ⟨hu, hS, ho⟩ := hs.obj o l hl
    exact ⟨h.g.U o hu, by rw [h.g.ob o hu]; exact h.S _ hS, by rw [h.g.ob o hu]; exact ho.mono h.ext h.g (h.same _ (hs.Slt _ hS))⟩
  live r rw hl := by
    obtain ⟨hu, ho⟩ := hs.live r rw hl
    exact ⟨h.g.U r hu, ho.imp (fun ⟨hS, ho⟩ => ⟨by rw [h.g.rb r hu]; exact h.S _ hS, ho.mono h.ext h.g hu (h.same _ (hs.Slt _ hS))⟩) fun hv => hv.mono h.g hu⟩
  froz r rw hl := by
    obtain ⟨hu, ho⟩ := hs.froz r rw hl
    exact ⟨h.g.U r hu, ho.imp (fun ⟨hS, ho⟩ => ⟨by rw [h.g.rb r hu]; exact h.ext.okP hS, ho.mono h.ext h.g hu (h.same _ hS.1)⟩) fun hv => hv.mono h.g hu⟩
  injO o o' l l' hl hl' he := by
    have hu := (hs.obj o l hl).1
    have hu' := (hs.obj o' l' hl').1
    rw [h.g.ob o hu, h.g.ob o' hu'] at he
    exact hs.injO o o' l l' hl hl' he
  injR r r' rw rw' hl hl' hv hv' he := by
    have hu := (hs.live r rw hl).1
    have hu' := (hs.live r' rw' hl').1
    rw [h.g.rb r hu, h.g.rb r' hu'] at he
    exact hs.injR r r' rw rw' hl hl' (fun h' => hv (h'.mono h.g hu)) (fun h' => hv' (h'.mono h.g hu')) he
  injX o r l rw hl hl' hv := by
    have hu := (hs.obj o l hl).1
    have hu' := (hs.live r rw hl').1
    rw [h.g.ob o hu, h.g.rb r hu']
    exact hs.injX o r l rw hl hl' (fun h' => hv (h'.mono h.g hu'))
  Slt := h.lt
  Blt b hb := Nat.lt_of_lt_of_le (hs.Blt b (by rw [h.ext.B] at hb; exact hb)) h.ext.size
  SB b hb hB := by
    rw [h.ext.B] at hB
    rcases h.ext.S b hb with h1 | h1
    · exact hs.SB b h1 hB
    · have := hs.Blt b hB; omega

/-- What an operation with an effect gives: new names are nm's alone. -/
def Turns {R : Type} (P : Program) (x : Cx) (nw : Nat → Prop) (s : St) (e : Sem Value) (k : SV → St → Ans R) (r : R) : Prop :=
  ∃ u sv s' y, e.run P x.w = .ok u y.w ∧ Ext x y ∧ x.g.Le y.g ∧ (∀ n, y.g.U n → x.g.U n ∨ nw n) ∧ Sto y s'.objs s'.rows ∧ s'.slots = s.slots ∧ RepS y sv u ∧ Says (k sv s') r
theorem Gives.turns {R : Type} {P : Program} {x : Cx} {nw : Nat → Prop} {s : St} {e : Sem Value} {k : SV → St → Ans R} {r : R} (hs : Sto x s.objs s.rows) (h : Gives P x e (fun v => k v s) r) : Turns P x nw s e k r := by
  obtain ⟨u, sv, hr, hv, h⟩ := h
  exact ⟨u, sv, s, x, hr _, Ext.refl x, G.Le.refl _, fun n h => .inl h, hs, rfl, hv, h⟩

theorem Turns.same {R : Type} {P : Program} {x : Cx} {nw : Nat → Prop} {s : St} {e : Sem Value} {k : SV → St → Ans R} {r : R} {a : AV} {u : Value} (hs : Sto x s.objs s.rows) (h : Says (k (.av a) s) r) (hr : e.run P x.w = .ok u x.w) (ha : RepA x a u) : Turns P x nw s e k r :=
  ⟨u, .av a, s, x, hr, Ext.refl x, G.Le.refl _, fun n h => .inl h, hs, rfl, ha, h⟩

/-! ### New blocks -/
def G.newO (g : G) (n b : Nat) : G := { g with ob := fun m => if m = n then b else g.ob m, U := fun m => g.U m ∨ m = n }
def G.newR (g : G) (n b rs rc rl : Nat) : G :=
  { g with rb := fun m => if m = n then b else g.rb m, rs := fun m => if m = n then rs else g.rs m, rc := fun m => if m = n then rc else g.rc m, rl := fun m => if m = n then rl else g.rl m, U := fun m => g.U m ∨ m = n }
theorem G.le_newO {g : G} {n b : Nat} (h : ¬ g.U n) : g.Le (g.newO n b) :=
  ⟨fun _ h => .inl h, fun m hm => by simp only [G.newO]; rw [if_neg (by rintro rfl; exact h hm)], fun _ _ => rfl, fun _ _ => rfl, fun _ _ => rfl, fun _ _ => rfl⟩
theorem G.le_newR {g : G} {n b rs rc rl : Nat} (h : ¬ g.U n) : g.Le (g.newR n b rs rc rl) :=
  ⟨fun _ h => .inl h, fun _ _ => rfl, fun m hm => by simp only [G.newR]; rw [if_neg (by rintro rfl; exact h hm)], fun m hm => by simp only [G.newR]; rw [if_neg (by rintro rfl; exact h hm)],
   fun m hm => by simp only [G.newR]; rw [if_neg (by rintro rfl; exact h hm)], fun m hm => by simp only [G.newR]; rw [if_neg (by rintro rfl; exact h hm)]⟩
theorem heap_push_lt {w : World} {o : Go.Obj} {b : Nat} (h : b < w.heap.size) : (w.alloc o).heap[b]? = w.heap[b]? := by
  simp only [World.alloc, Array.getElem?_push]; rw [if_neg (by omega)]
theorem heap_push_new {w : World} {o : Go.Obj} : (w.alloc o).heap[w.heap.size]? = some o := by
  show (w.heap.push o)[w.heap.size]? = some o
  simp
/-- A world with one block more, that is the frame's own. -/
def Cx.more (x : Cx) (o : Go.Obj) (g : G) : Cx := { w := x.w.alloc o, g := g, S := fun b => x.S b ∨ b = x.w.heap.size, B := x.B }
theorem Cx.grow_more {x : Cx} {o : Go.Obj} {g : G} (hg : x.g.Le g) (hlt : ∀ b, x.S b → b < x.w.heap.size) : Grow x (x.more o g) where
  ext := ⟨rfl, rfl, rfl, by simp [Cx.more], fun b hb _ => heap_push_lt hb, fun b hb => hb.imp id (fun h => by omega), rfl⟩
  g := hg
  same b hb := heap_push_lt hb
  S b hb := .inl hb
  lt b hb := by
    simp only [Cx.more, World.size_alloc]
    rcases hb with hb | hb
    · have := hlt b hb; omega
    · omega
/-- A world with one block more, that lasts. -/
def Cx.last (x : Cx) (o : Go.Obj) : Cx := { x with w := x.w.alloc o }
theorem Cx.grow_last {x : Cx} {o : Go.Obj} (hlt : ∀ b, x.S b → b < x.w.heap.size) : Grow x (x.last o) where
  ext := ⟨rfl, rfl, rfl, by simp [Cx.last], fun b hb _ => heap_push_lt hb, fun b hb => .inl hb, rfl⟩
  g := G.Le.refl _
  same b hb := heap_push_lt hb
  S b hb := hb
  lt b hb := by
    simp only [Cx.last, World.size_alloc]
    have := hlt b hb; omega

theorem sto_newO {x : Cx} {objs : List (Nat × Obj)} {rows : List (Nat × RowB)} {nm : Nat} {l : List CV} {c : Array Value} {e : TypeId} (hs : Sto x objs rows) (hn : ¬ x.g.U nm) (hl : RepL x l c.toList) :
    Grow x (x.more (.cells c e) (x.g.newO nm x.w.heap.size)) ∧ Sto (x.more (.cells c e) (x.g.newO nm x.w.heap.size)) ((nm, l) :: objs) rows ∧
    RepC (x.more (.cells c e) (x.g.newO nm x.w.heap.size)) (.ref nm 0) (.pointer (some ⟨x.w.heap.size, 0, none⟩)) := by
  have hg := Cx.grow_more (o := .cells c e) (G.le_newO (b := x.w.heap.size) hn) hs.Slt
  have h2 := hs.grow hg
  have hob : (x.g.newO nm x.w.heap.size).ob nm = x.w.heap.size := by simp [G.newO]
  have hold : ∀ o l', lkup o objs = some l' → (x.g.newO nm x.w.heap.size).ob o ≠ x.w.heap.size := by
    intro o l' hl' he
    have := hs.Slt _ (hs.obj o l' hl').2.1
    rw [(G.le_newO (b := x.w.heap.size) hn).ob o (hs.obj o l' hl').1] at he
    omega
  refine ⟨hg, ⟨?_, h2.live, h2.froz, ?_, h2.injR, ?_, h2.Slt, h2.Blt, h2.SB⟩, ⟨.inr rfl, by simp [Cx.more, hob]⟩⟩
  · intro o l' hl'
    rw [lkup_cons] at hl'
    split at hl'
    · rename_i he
      cases hl'
      rw [he]
      refine ⟨.inr rfl, ?_, ?_⟩
      · show x.S _ ∨ _ = _
        exact .inr hob
      · show ObjAt _ ((x.g.newO nm x.w.heap.size).ob nm) l
        rw [hob]
        exact ⟨c, e, (0, 0), heap_push_new, .inl rfl, hl.mono hg.ext hg.g⟩
    · exact h2.obj o l' hl'
  · intro o o' l1 l2 h1 h3 he
    rw [lkup_cons] at h1 h3
    split at h1 <;> split at h3
    · omega
    · rename_i e1 e2
      rw [e1] at he
      exact absurd (he.symm.trans hob) (hold _ _ h3)
    · rename_i e1 e2
      rw [e2] at he
      exact absurd (he.trans hob) (hold _ _ h1)
    · exact h2.injO o o' l1 l2 h1 h3 he
  · intro o r l1 rw h1 h3 hv
    rw [lkup_cons] at h1
    split at h1
    · rename_i e1
      rw [e1]
      intro he
      have h4 := (hs.live r rw h3)
      have h5 := hs.Slt _ (h4.2.resolve_right fun h' => hv (h'.mono hg.g h4.1)).1
      have h6 : (x.g.newO nm x.w.heap.size).rb r = x.g.rb r := rfl
      have h7 : (x.g.newO nm x.w.heap.size).ob nm = (x.g.newO nm x.w.heap.size).rb r := he
      rw [hob, h6] at h7
      omega
    · exact h2.injX o r l1 rw h1 h3 hv

theorem sto_newR {x : Cx} {objs : List (Nat × Obj)} {rows : List (Nat × RowB)} {nm : Nat} {rw : Row} {c : Array Value} {e : TypeId} {fr : Nat × Nat} (hs : Sto x objs rows) (hn : ¬ x.g.U nm) (hf : NoFr c fr) (hlen : rw.len * rw.esz ≤ c.size)
    (hrow : RowIs x.w x.okP rw fun i => c[i]?) :
    Grow x (x.more (.cells c e fr) (x.g.newR nm x.w.heap.size rw.esz c.size rw.len)) ∧ Sto (x.more (.cells c e fr) (x.g.newR nm x.w.heap.size rw.esz c.size rw.len)) objs ((nm, .live rw) :: rows) := by
  have hg := Cx.grow_more (o := .cells c e fr) (G.le_newR (b := x.w.heap.size) (rs := rw.esz) (rc := c.size) (rl := rw.len) hn) hs.Slt
  have h2 := hs.grow hg
  have hob : (x.g.newR nm x.w.heap.size rw.esz c.size rw.len).rb nm = x.w.heap.size := by simp [G.newR]
  have hold : ∀ r rw', lkup r rows = some (.live rw') → ¬ Vir x r rw' → (x.g.newR nm x.w.heap.size rw.esz c.size rw.len).rb r ≠ x.w.heap.size := by
    intro o l' hl' hv he
    have := hs.Slt _ ((hs.live o l' hl').2.resolve_right hv).1
    rw [(G.le_newR (b := x.w.heap.size) (rs := rw.esz) (rc := c.size) (rl := rw.len) hn).rb o (hs.live o l' hl').1] at he
    omega
  refine ⟨hg, ⟨h2.obj, ?_, ?_, h2.injO, ?_, ?_, h2.Slt, h2.Blt, h2.SB⟩⟩
  · intro r rw' hl'
    rw [lkup_cons] at hl'
    split at hl'
    · rename_i he
      cases hl'
      rw [he]
      refine ⟨.inr rfl, .inl ⟨?_, ?_⟩⟩
      · show x.S _ ∨ _ = _
        exact .inr hob
      · refine ⟨c, e, fr, ?_, hf, by simp [Cx.more, G.newR], by simp [Cx.more, G.newR], by simp [Cx.more, G.newR], hlen, RowIs.mono (fun _ hb => hg.ext.okP hb) (fun b hb => hg.ext.blk b hb.1 hb.2.1) hrow⟩
        show (x.w.alloc _).heap[(x.g.newR nm x.w.heap.size rw.esz c.size rw.len).rb nm]? = _
        rw [hob]
        exact heap_push_new
    · exact h2.live r rw' hl'
  · intro r rw' hl'
    rw [lkup_cons] at hl'
    split at hl'
    · cases hl'
    · exact h2.froz r rw' hl'
  · intro o o' l1 l2 h1 h3 hv hv' he
    rw [lkup_cons] at h1 h3
    split at h1 <;> split at h3
    · omega
    · rename_i e1 e2
      rw [e1] at he
      exact absurd (he.symm.trans hob) (hold _ _ h3 fun h' => hv' (h'.mono hg.g (hs.live _ _ h3).1))
    · rename_i e1 e2
      rw [e2] at he
      exact absurd (he.trans hob) (hold _ _ h1 fun h' => hv (h'.mono hg.g (hs.live _ _ h1).1))
    · exact h2.injR o o' l1 l2 h1 h3 hv hv' he
  · intro o r l1 rw' h1 h3 hv
    rw [lkup_cons] at h3
    split at h3
    · rename_i e1
      rw [e1]
      intro he
      have h4 := (hs.obj o l1 h1)
      have h5 := hs.Slt _ h4.2.1
      have h7 : (x.g.newR nm x.w.heap.size rw.esz c.size rw.len).ob o = (x.g.newR nm x.w.heap.size rw.esz c.size rw.len).rb nm := he
      rw [hob] at h7
      have h8 : (x.g.newR nm x.w.heap.size rw.esz c.size rw.len).ob o = x.g.ob o := rfl
      omega
    · exact h2.injX o r l1 rw' h1 h3 hv

/-! ### Rows that are closed for good -/
theorem snap_ok {x : Cx} {r off n : Nat} {t : Bool} {v : Value} {rw : Row} {okr : Nat → Prop} (hc : RepC x (.own r off n t) v) (hrow : RowAt x r rw) (hok : okr (x.g.rb r)) :
    RepP x.w x.okP okr ((rw.cut off n).pv t) v := by
  obtain ⟨hu, hlen, ho⟩ := hc
  obtain ⟨c, e, fr, hh, hn, hsz, hes, hrl, hle, his⟩ := hrow
  have hcut : off + n ≤ rw.len := by omega
  refine repP_row.2 ?_
  rw [len_cut hcut]
  rcases ho with h | ⟨b, o, cap, hv, hncap, ht, hpos⟩
  · exact .inl h
  · refine .inr ⟨b, o, cap, none, hv, hncap, ht, fun h0 => ?_⟩
    obtain ⟨rfl, rfl, hfit⟩ := hpos (by omega)
    refine ⟨rfl, hok, ?_⟩
    have := rowIs_cut (f := fun i => x.w.cell? ⟨x.g.rb r, i, none⟩) hcut (by simpa using rowIs_block hh his)
    rw [hes] at this
    exact this
theorem snap_vir {x : Cx} {r off n : Nat} {t : Bool} {v : Value} {rw : Row} {ok okr : Nat → Prop} (hc : RepC x (.own r off n t) v) (hv : Vir x r rw) :
    RepP x.w ok okr ((rw.cut off n).pv t) v := by
  refine repP_row.2 ?_
  obtain ⟨h1, h2, h3⟩ := hv.own hc
  rw [len_zero_cut hv.2.2.2.1]
  rcases h3 with h3 | ⟨b, o, h3⟩
  · exact .inl ⟨h3, rfl⟩
  · exact .inr ⟨b, o, 0, none, h3, Nat.le_refl _, fun _ => rfl, fun h => absurd h (Nat.lt_irrefl _)⟩
theorem snap_any' {x : Cx} {r off n : Nat} {t : Bool} {v : Value} {rw : Row} (hc : RepC x (.own r off n t) v) (h : x.okP (x.g.rb r) ∧ RowAt x r rw ∨ Vir x r rw) :
    RepP x.w x.okP x.okP ((rw.cut off n).pv t) v :=
  h.elim (fun h => snap_ok hc h.2 h.1) fun h => snap_vir hc h
/-- A row is closed: it is the frame's own no more. -/
def Cx.close (x : Cx) (r : Nat) : Cx := { x with S := fun b => x.S b ∧ b ≠ x.g.rb r }
theorem close_ok {x : Cx} {objs : List (Nat × Obj)} {rows : List (Nat × RowB)} {r : Nat} {rw : Row} (hs : Sto x objs rows) (hr : lkup r rows = some (.live rw)) :
    ∃ y : Cx, y.w = x.w ∧ y.g = x.g ∧ Ext x y ∧ Sto y objs ((r, .froz rw) :: rows) ∧ (y.okP (y.g.rb r) ∧ RowAt y r rw ∨ Vir y r rw) := by
  obtain ⟨hu, hv | ⟨hnv, hS, hrow⟩⟩ := hs.liveC hr
  · refine ⟨x, rfl, rfl, Ext.refl x, ⟨hs.obj, ?_, ?_, hs.injO, ?_, ?_, hs.Slt, hs.Blt, hs.SB⟩, .inr hv⟩
    · intro r' rw' hl
      rw [lkup_cons] at hl
      split at hl
      · cases hl
      · exact hs.live r' rw' hl
    · intro r' rw' hl
      rw [lkup_cons] at hl
      split at hl
      · rename_i he
        cases hl
        rw [he]
        exact ⟨hu, .inr hv⟩
      · exact hs.froz r' rw' hl
    · intro r1 r2 rw1 rw2 h1 h2
      rw [lkup_cons] at h1 h2
      split at h1
      · cases h1
      · split at h2
        · cases h2
        · exact hs.injR r1 r2 rw1 rw2 h1 h2
    · intro o r1 l rw1 h1 h2
      rw [lkup_cons] at h2
      split at h2
      · cases h2
      · exact hs.injX o r1 l rw1 h1 h2
  have hx : Ext x (x.close r) := ⟨rfl, rfl, rfl, Nat.le_refl _, fun _ _ _ => rfl, fun b hb => .inl hb.1, rfl⟩
  have hok : (x.close r).okP (x.g.rb r) := ⟨hs.Slt _ hS, fun h => h.2 rfl, hs.SB _ hS⟩
  have hrow' : RowAt (x.close r) r rw := hrow.mono hx (G.Le.refl _) hu rfl
  refine ⟨x.close r, rfl, rfl, hx, ⟨?_, ?_, ?_, hs.injO, ?_, ?_, fun b hb => hs.Slt b hb.1, hs.Blt, fun b hb => hs.SB b hb.1⟩, .inl ⟨hok, hrow'⟩⟩
  · intro o l hl
    obtain ⟨h1, h2, h3⟩ := hs.obj o l hl
    exact ⟨h1, ⟨h2, hs.injX o r l rw hl hr hnv⟩, h3.mono hx (G.Le.refl _) rfl⟩
  · intro r' rw' hl
    rw [lkup_cons] at hl
    split at hl
    · cases hl
    · rename_i hne
      obtain ⟨h1, h2 | ⟨hnv', h2, h3⟩⟩ := hs.liveC hl
      · exact ⟨h1, .inr h2⟩
      · exact ⟨h1, .inl ⟨⟨h2, fun he => hne (hs.injR r' r rw' rw hl hr hnv' hnv he)⟩, h3.mono hx (G.Le.refl _) h1 rfl⟩⟩
  · intro r' rw' hl
    rw [lkup_cons] at hl
    split at hl
    · rename_i he
      cases hl
      rw [he]
      exact ⟨hu, .inl ⟨hok, hrow'⟩⟩
    · obtain ⟨h1, h2⟩ := hs.froz r' rw' hl
      exact ⟨h1, h2.imp (fun ⟨h2, h3⟩ => ⟨hx.okP h2, h3.mono hx (G.Le.refl _) h1 rfl⟩) id⟩
  · intro r1 r2 rw1 rw2 h1 h2
    rw [lkup_cons] at h1 h2
    split at h1
    · cases h1
    · split at h2
      · cases h2
      · exact hs.injR r1 r2 rw1 rw2 h1 h2
  · intro o r1 l rw1 h1 h2
    rw [lkup_cons] at h2
    split at h2
    · cases h2
    · exact hs.injX o r1 l rw1 h1 h2

theorem says_lastC {R : Type} {x : Cx} {c : CV} {v : Value} {s : St} {k : PV → St → Ans R} {r : R} (hs : Sto x s.objs s.rows) (hc : RepC x c v) (h : Says (lastC c s k) r) :
    ∃ p s' y, Ext x y ∧ y.g = x.g ∧ y.w = x.w ∧ Sto y s'.objs s'.rows ∧ s'.slots = s.slots ∧ s'.objs = s.objs ∧ RepP y.w y.okP y.okP p v ∧ Says (k p s') r := by
  unfold lastC at h
  split at h
  · exact ⟨_, s, x, Ext.refl x, rfl, rfl, hs, rfl, rfl, hc, h⟩
  · rename_i rr off n t
    obtain ⟨rb, hrb, h1⟩ := says_get h
    clear h
    cases rb with
    | live rw =>
      obtain ⟨y, hw, hg, hx, hs', hrow⟩ := close_ok hs hrb
      exact ⟨_, { s with rows := (rr, .froz rw) :: s.rows }, y, hx, hg, hw, hs', rfl, rfl, snap_any' (hc.mono hx (by rw [hg]; exact G.Le.refl _)) hrow, h1⟩
    | froz rw =>
      exact ⟨_, s, x, Ext.refl x, rfl, rfl, hs, rfl, rfl, snap_any' hc (hs.froz _ _ hrb).2, h1⟩
    | gone => exact (says_none h1).elim
  · exact (says_none h).elim
/-- Lasting values, and the cells that they stand for. -/
def RepPv (x : Cx) : List PV → List Value → Prop
  | [], [] => True
  | p :: ps, v :: vs => RepP x.w x.okP x.okP p v ∧ RepPv x ps vs
  | _, _ => False
theorem RepPv.mono {x y : Cx} (h : Ext x y) : ∀ {ps : List PV} {vs : List Value}, RepPv x ps vs → RepPv y ps vs
  | [], [], _ => trivial
  | _ :: _, _ :: _, hl => ⟨h.repP hl.1, RepPv.mono h hl.2⟩
theorem RepPv.length {x : Cx} : ∀ {ps : List PV} {vs : List Value}, RepPv x ps vs → ps.length = vs.length
  | [], [], _ => rfl
  | _ :: _, _ :: _, hl => by simp [RepPv.length hl.2]
theorem RepPv.one {x : Cx} : ∀ {ps : List PV} {vs : List Value}, RepPv x ps vs → ∀ v ∈ vs, v.oneCell' = true
  | [], [], _ => by simp
  | _ :: _, _ :: _, hl => by
    intro v hv
    rcases List.mem_cons.1 hv with rfl | hv
    · exact oneCell_repP hl.1
    · exact RepPv.one hl.2 v hv
theorem RepPv.ps {x : Cx} : ∀ {ps : List PV} {vs : List Value} {f : Nat → Option Value}, RepPv x ps vs → (∀ i v, vs[i]? = some v → f i = some v) → RepPs x.w x.okP ps f
  | [], [], f, _, _ => by simp [RepPs]
  | p :: ps, v :: vs, f, h, hf => by
    simp only [RepPs]
    exact ⟨⟨v, hf 0 v (by simp), h.1⟩, RepPv.ps h.2 (fun i u hu => hf (i + 1) u (by simpa using hu))⟩
theorem says_lastL {R : Type} : ∀ {x : Cx} {cs : List CV} {vs : List Value} {s : St} {k : List PV → St → Ans R} {r : R}, Sto x s.objs s.rows → RepL x cs vs → Says (lastL cs s k) r →
    ∃ ps s' y, Ext x y ∧ y.g = x.g ∧ y.w = x.w ∧ Sto y s'.objs s'.rows ∧ s'.slots = s.slots ∧ s'.objs = s.objs ∧ RepPv y ps vs ∧ Says (k ps s') r
  | x, [], [], s, k, r, hs, _, h => ⟨[], s, x, Ext.refl x, rfl, rfl, hs, rfl, rfl, trivial, h⟩
  | x, c :: cs, v :: vs, s, k, r, hs, hl, h => by
    obtain ⟨p, s1, y, hx, hg, hw, hs1, hsl, hso, hp, h1⟩ := says_lastC hs hl.1.2 h
    obtain ⟨ps, s2, z, hx2, hg2, hw2, hs2, hsl2, hso2, hps, h2⟩ := says_lastL hs1 (hl.2.mono hx (by rw [hg]; exact G.Le.refl _)) h1
    exact ⟨p :: ps, s2, z, hx.trans hx2, hg2.trans hg, hw2.trans hw, hs2, hsl2.trans hsl, hso2.trans hso, ⟨hx2.repP hp, hps⟩, h2⟩
end Go.Ev
