/- What abstract values stand for in a world. No program in sight. -/
import Derived.Test.YtjjakdmcnkldoaaQEvB
import Derived.Below
set_option linter.unusedVariables false
set_option linter.unusedSimpArgs false
namespace Go.Ev
open Go.RowKit (Below)

/-- What a slice's value looks like, and where its elements lie. -/
def SlAt (w : World) (ok : Nat → Prop) (n : Nat) (t : Bool) (v : Value) (F : (Nat → Option Value) → Prop) : Prop :=
  (v = .slice none 0 0 ∧ n = 0) ∨
  ∃ b o cap, ∃ sp, v = .slice (some ⟨b, o, sp⟩) n cap ∧ n ≤ cap ∧ (t = true → cap = n) ∧ (0 < n → sp = none ∧ ok b ∧ F fun i => w.cell? ⟨b, o + i, none⟩)

mutual
def RepP (w : World) (ok : Nat → Prop) : (Nat → Prop) → PV → Value → Prop
  | _, .bool b, v => v = .bool b
  | _, .int k n, v => v = .int k n
  | _, .str s, v => v = .string s
  | _, .nilp, v => v = .pointer none
  | _, .imm cells off, v => ∃ b o, v = .pointer (some ⟨b, o + off, none⟩) ∧ ok b ∧ RepPs w ok cells fun i => w.cell? ⟨b, o + i, none⟩
  | _, .nils, v => v = .slice none 0 0
  | _, .emp, v => ∃ b o cap, ∃ sp, v = .slice (some ⟨b, o, sp⟩) 0 cap
  | okr, .ints k l t, v => SlAt w okr l.length t v fun f => ∀ i, i < l.length → f i = some (.int k (l.getD i 0))
  | okr, .bools l t, v => SlAt w okr l.length t v fun f => ∀ i, i < l.length → f i = some (.bool (l.getD i false))
  | okr, .recs sz l t, v => SlAt w okr l.length t v fun f => RepPss w ok sz l f
def RepPs (w : World) (ok : Nat → Prop) : List PV → (Nat → Option Value) → Prop
  | [], _ => True
  | p :: ps, f => (∃ v, f 0 = some v ∧ RepP w ok ok p v) ∧ RepPs w ok ps fun i => f (i + 1)
def RepPss (w : World) (ok : Nat → Prop) (sz : Nat) : List (List PV) → (Nat → Option Value) → Prop
  | [], _ => True
  | e :: l, f => e.length = sz ∧ RepPs w ok e f ∧ RepPss w ok sz l fun i => f (i + sz)
end

theorem SlAt.mono {w w' : World} {ok ok' : Nat → Prop} {n : Nat} {t : Bool} {v : Value} {F F' : (Nat → Option Value) → Prop}
    (h : SlAt w ok n t v F) (hk : ∀ b, ok b → ok' b) (hF : ∀ b o, ok b → F (fun i => w.cell? ⟨b, o + i, none⟩) → F' fun i => w'.cell? ⟨b, o + i, none⟩) : SlAt w' ok' n t v F' := by
  rcases h with h | ⟨b, o, cap, sp, hv, hn, ht, hc⟩
  · exact .inl h
  · exact .inr ⟨b, o, cap, sp, hv, hn, ht, fun h0 => ⟨(hc h0).1, hk b (hc h0).2.1, hF b o (hc h0).2.1 (hc h0).2.2⟩⟩

mutual
theorem RepP.mono {w w' : World} {ok ok' : Nat → Prop} (hk : ∀ b, ok b → ok' b) (hb : ∀ b, ok b → w'.heap[b]? = w.heap[b]?) :
    ∀ {okr okr' : Nat → Prop}, (∀ b, okr b → okr' b) → (∀ b, okr b → w'.heap[b]? = w.heap[b]?) → ∀ (p : PV) {v : Value}, RepP w ok okr p v → RepP w' ok' okr' p v
  | _, _, _, _, .bool _, _, h => by simpa only [RepP] using h
  | _, _, _, _, .int _ _, _, h => by simpa only [RepP] using h
  | _, _, _, _, .str _, _, h => by simpa only [RepP] using h
  | _, _, _, _, .nilp, _, h => by simpa only [RepP] using h
  | _, _, _, _, .nils, _, h => by simpa only [RepP] using h
  | _, _, _, _, .emp, _, h => by simpa only [RepP] using h
  | _, _, _, _, .imm cells off, v, h => by
    simp only [RepP] at h ⊢
    obtain ⟨b, o, hv, hb', hc⟩ := h
    refine ⟨b, o, hv, hk b hb', ?_⟩
    have : (fun i => w'.cell? ⟨b, o + i, none⟩) = fun i => w.cell? ⟨b, o + i, none⟩ := funext fun i => World.cell?_of_block (a := ⟨b, o + i, none⟩) (hb b hb')
    rw [this]
    exact RepPs.mono hk hb cells hc
  | _, _, hr, hrb, .ints k l t, v, h => by
    simp only [RepP] at h ⊢
    refine h.mono hr fun b o hb' hf i hi => ?_
    have := hf i hi
    dsimp only at this ⊢
    rw [World.cell?_of_block (a := ⟨b, o + i, none⟩) (hrb b hb')]
    exact this
  | _, _, hr, hrb, .bools l t, v, h => by
    simp only [RepP] at h ⊢
    refine h.mono hr fun b o hb' hf i hi => ?_
    have := hf i hi
    dsimp only at this ⊢
    rw [World.cell?_of_block (a := ⟨b, o + i, none⟩) (hrb b hb')]
    exact this
  | _, _, hr, hrb, .recs sz l t, v, h => by
    simp only [RepP] at h ⊢
    refine h.mono hr fun b o hb' hf => ?_
    have : (fun i => w'.cell? ⟨b, o + i, none⟩) = fun i => w.cell? ⟨b, o + i, none⟩ := funext fun i => World.cell?_of_block (a := ⟨b, o + i, none⟩) (hrb b hb')
    rw [this]
    exact RepPss.mono hk hb sz l hf
theorem RepPs.mono {w w' : World} {ok ok' : Nat → Prop} (hk : ∀ b, ok b → ok' b) (hb : ∀ b, ok b → w'.heap[b]? = w.heap[b]?) :
    ∀ (ps : List PV) {f : Nat → Option Value}, RepPs w ok ps f → RepPs w' ok' ps f
  | [], _, _ => by simp only [RepPs]
  | p :: ps, f, h => by
    simp only [RepPs] at h ⊢
    obtain ⟨⟨v, hv, hp⟩, hs⟩ := h
    exact ⟨⟨v, hv, RepP.mono hk hb hk hb p hp⟩, RepPs.mono hk hb ps hs⟩
theorem RepPss.mono {w w' : World} {ok ok' : Nat → Prop} (hk : ∀ b, ok b → ok' b) (hb : ∀ b, ok b → w'.heap[b]? = w.heap[b]?) (sz : Nat) :
    ∀ (l : List (List PV)) {f : Nat → Option Value}, RepPss w ok sz l f → RepPss w' ok' sz l f
  | [], _, _ => by simp only [RepPss]
  | e :: l, f, h => by
    simp only [RepPss] at h ⊢
    exact ⟨h.1, RepPs.mono hk hb e h.2.1, RepPss.mono hk hb sz l h.2.2⟩
end

/-- The same world, with weaker grounds. -/
theorem RepP.weak {w : World} {ok okr okr' : Nat → Prop} (h : ∀ b, okr b → okr' b) {p : PV} {v : Value} (hp : RepP w ok okr p v) : RepP w ok okr' p v :=
  RepP.mono (fun _ h => h) (fun _ _ => rfl) h (fun _ _ => rfl) p hp

/-! ### Ghosts: where names lie -/
structure G where
  ob : Nat → Nat
  rb : Nat → Nat
  rs : Nat → Nat
  rc : Nat → Nat
  rl : Nat → Nat
  U : Nat → Prop
structure Cx where
  w : World
  g : G
  S : Nat → Prop
  B : Nat → Prop
def Cx.okP (x : Cx) (b : Nat) : Prop := b < x.w.heap.size ∧ ¬ x.S b ∧ ¬ x.B b
def Cx.okB (x : Cx) (b : Nat) : Prop := b < x.w.heap.size ∧ ¬ x.S b
theorem Cx.okB_of_okP {x : Cx} {b : Nat} (h : x.okP b) : x.okB b := ⟨h.1, h.2.1⟩

structure G.Le (g g' : G) : Prop where
  U : ∀ n, g.U n → g'.U n
  ob : ∀ n, g.U n → g'.ob n = g.ob n
  rb : ∀ n, g.U n → g'.rb n = g.rb n
  rs : ∀ n, g.U n → g'.rs n = g.rs n
  rc : ∀ n, g.U n → g'.rc n = g.rc n
  rl : ∀ n, g.U n → g'.rl n = g.rl n
theorem G.Le.refl (g : G) : g.Le g := ⟨fun _ h => h, fun _ _ => rfl, fun _ _ => rfl, fun _ _ => rfl, fun _ _ => rfl, fun _ _ => rfl⟩
theorem G.Le.trans {a b c : G} (h : a.Le b) (k : b.Le c) : a.Le c :=
  ⟨fun n u => k.U n (h.U n u), fun n u => (k.ob n (h.U n u)).trans (h.ob n u), fun n u => (k.rb n (h.U n u)).trans (h.rb n u), fun n u => (k.rs n (h.U n u)).trans (h.rs n u),
   fun n u => (k.rc n (h.U n u)).trans (h.rc n u), fun n u => (k.rl n (h.U n u)).trans (h.rl n u)⟩

/-- The world has grown: nothing but blocks of S has turned. -/
structure Ext (x y : Cx) : Prop where
  os : y.w.os = x.w.os
  tape : y.w.tape = x.w.tape
  output : y.w.output = x.w.output
  size : x.w.heap.size ≤ y.w.heap.size
  blk : ∀ b, b < x.w.heap.size → ¬ x.S b → y.w.heap[b]? = x.w.heap[b]?
  S : ∀ b, y.S b → x.S b ∨ x.w.heap.size ≤ b
  B : y.B = x.B
theorem Ext.refl (x : Cx) : Ext x x := ⟨rfl, rfl, rfl, Nat.le_refl _, fun _ _ _ => rfl, fun _ h => .inl h, rfl⟩
theorem Ext.trans {x y z : Cx} (h : Ext x y) (k : Ext y z) : Ext x z where
  os := k.os.trans h.os
  tape := k.tape.trans h.tape
  output := k.output.trans h.output
  size := Nat.le_trans h.size k.size
  blk b hb hs := (k.blk b (Nat.lt_of_lt_of_le hb h.size) (fun hy => (h.S b hy).elim hs (fun h => by omega))).trans (h.blk b hb hs)
  S b hz := (k.S b hz).elim (fun hy => h.S b hy) (fun h' => .inr (Nat.le_trans h.size h'))
  B := k.B.trans h.B
theorem Ext.okP {x y : Cx} (h : Ext x y) {b : Nat} (hb : x.okP b) : y.okP b :=
  ⟨Nat.lt_of_lt_of_le hb.1 h.size, fun hs => (h.S b hs).elim hb.2.1 (fun h' => by have := hb.1; omega), by rw [h.B]; exact hb.2.2⟩
theorem Ext.okB {x y : Cx} (h : Ext x y) {b : Nat} (hb : x.okB b) : y.okB b :=
  ⟨Nat.lt_of_lt_of_le hb.1 h.size, fun hs => (h.S b hs).elim hb.2 (fun h' => by have := hb.1; omega)⟩
theorem Ext.repP {x y : Cx} (h : Ext x y) {p : PV} {v : Value} (hp : RepP x.w x.okP x.okP p v) : RepP y.w y.okP y.okP p v :=
  RepP.mono (fun _ hb => h.okP hb) (fun b hb => h.blk b hb.1 hb.2.1) (fun _ hb => h.okP hb) (fun b hb => h.blk b hb.1 hb.2.1) p hp
theorem Ext.repB {x y : Cx} (h : Ext x y) {p : PV} {v : Value} (hp : RepP x.w x.okP x.okB p v) : RepP y.w y.okP y.okB p v :=
  RepP.mono (fun _ hb => h.okP hb) (fun b hb => h.blk b hb.1 hb.2.1) (fun _ hb => h.okB hb) (fun b hb => h.blk b hb.1 hb.2) p hp

/-! ### What a cell's abstract value stands for -/
def RowIs (w : World) (ok : Nat → Prop) (rw : Row) (f : Nat → Option Value) : Prop :=
  match rw with
  | .ints k l => ∀ i, i < l.length → f i = some (.int k (l.getD i 0))
  | .bools l => ∀ i, i < l.length → f i = some (.bool (l.getD i false))
  | .recs sz l => RepPss w ok sz l f
theorem repP_row {w : World} {ok okr : Nat → Prop} {rw : Row} {t : Bool} {v : Value} : RepP w ok okr (rw.pv t) v ↔ SlAt w okr rw.len t v (RowIs w ok rw) := by
  cases rw <;> simp only [Row.pv, RepP, Row.len] <;> exact Iff.rfl

def OwnAt (g : G) (r off n : Nat) (t : Bool) (v : Value) : Prop :=
  (v = .slice none 0 0 ∧ n = 0) ∨
  ∃ b o cap, v = .slice (some ⟨b, o, none⟩) n cap ∧ n ≤ cap ∧ (t = true → cap = n) ∧ (0 < cap → b = g.rb r ∧ o = off * g.rs r ∧ (off + cap) * g.rs r ≤ g.rc r)
def RepC (x : Cx) (c : CV) (v : Value) : Prop :=
  match c with
  | .pv p => RepP x.w x.okP x.okP p v
  | .bor p => RepP x.w x.okP x.okB p v
  | .ref o off => x.g.U o ∧ v = .pointer (some ⟨x.g.ob o, off, none⟩)
  | .own r off n t => x.g.U r ∧ off + n ≤ x.g.rl r ∧ OwnAt x.g r off n t v
  | .iadr p i fo => ∃ b o n cap, RepP x.w x.okP x.okB p (.slice (some ⟨b, o, none⟩) n cap) ∧ i < n ∧ v = .pointer (some ⟨b, o + i * p.esz + fo, none⟩)
  | .radr r i fo => x.g.U r ∧ i < x.g.rl r ∧ v = .pointer (some ⟨x.g.rb r, i * x.g.rs r + fo, none⟩)
  | .dead => True
def RepL (x : Cx) : List CV → List Value → Prop
  | [], [] => True
  | c :: cs, v :: vs => (v.oneCell' = true ∧ RepC x c v) ∧ RepL x cs vs
  | _, _ => False
def RepA (x : Cx) (a : AV) (v : Value) : Prop :=
  match a with
  | .one c => v.oneCell' = true ∧ RepC x c v
  | .agg l => ∃ cs, v = .agg cs ∧ RepL x l cs.toList
def RepAs (x : Cx) : List AV → List Value → Prop
  | [], [] => True
  | a :: as, v :: vs => RepA x a v ∧ RepAs x as vs
  | _, _ => False
def RepS (x : Cx) (s : SV) (v : Value) : Prop :=
  match s with
  | .av a => RepA x a v
  | .tup l => ∃ vs, v = .tuple vs ∧ RepAs x l vs.toList

def RepSs (x : Cx) : List SV → List Value → Prop
  | [], [] => True
  | a :: as, v :: vs => RepS x a v ∧ RepSs x as vs
  | _, _ => False
theorem OwnAt.mono {g g' : G} (h : g.Le g') {r off n : Nat} {t : Bool} {v : Value} (hu : g.U r) (ho : OwnAt g r off n t v) : OwnAt g' r off n t v := by
  rcases ho with ho | ⟨b, o, cap, hv, hn, ht, hc⟩
  · exact .inl ho
  · refine .inr ⟨b, o, cap, hv, hn, ht, fun h0 => ?_⟩
    rw [h.rb r hu, h.rs r hu, h.rc r hu]
    exact hc h0
theorem RepC.mono {x y : Cx} (h : Ext x y) (hg : x.g.Le y.g) {c : CV} {v : Value} (hc : RepC x c v) : RepC y c v := by
  cases c with
  | pv p => exact h.repP hc
  | bor p => exact h.repB hc
  | ref o off => exact ⟨hg.U o hc.1, by rw [hg.ob o hc.1]; exact hc.2⟩
  | own r off n t => exact ⟨hg.U r hc.1, by rw [hg.rl r hc.1]; exact hc.2.1, hc.2.2.mono hg hc.1⟩
  | iadr p i fo =>
    obtain ⟨b, o, n, cap, hp, hi, hv⟩ := hc
    exact ⟨b, o, n, cap, h.repB hp, hi, hv⟩
  | radr r i fo => exact ⟨hg.U r hc.1, by rw [hg.rl r hc.1]; exact hc.2.1, by rw [hg.rb r hc.1, hg.rs r hc.1]; exact hc.2.2⟩
  | dead => trivial
theorem RepL.mono {x y : Cx} (h : Ext x y) (hg : x.g.Le y.g) : ∀ {l : List CV} {vs : List Value}, RepL x l vs → RepL y l vs
  | [], [], _ => trivial
  | _ :: _, _ :: _, hl => ⟨⟨hl.1.1, hl.1.2.mono h hg⟩, RepL.mono h hg hl.2⟩
theorem RepA.mono {x y : Cx} (h : Ext x y) (hg : x.g.Le y.g) {a : AV} {v : Value} (ha : RepA x a v) : RepA y a v := by
  cases a with
  | one c => exact ⟨ha.1, ha.2.mono h hg⟩
  | agg l => obtain ⟨cs, hv, hl⟩ := ha; exact ⟨cs, hv, hl.mono h hg⟩
theorem RepAs.mono {x y : Cx} (h : Ext x y) (hg : x.g.Le y.g) : ∀ {l : List AV} {vs : List Value}, RepAs x l vs → RepAs y l vs
  | [], [], _ => trivial
  | _ :: _, _ :: _, hl => ⟨hl.1.mono h hg, RepAs.mono h hg hl.2⟩
theorem RepS.mono {x y : Cx} (h : Ext x y) (hg : x.g.Le y.g) {s : SV} {v : Value} (hs : RepS x s v) : RepS y s v := by
  cases s with
  | av a => exact RepA.mono h hg hs
  | tup l => obtain ⟨vs, hv, hl⟩ := hs; exact ⟨vs, hv, hl.mono h hg⟩

/-! ### The store -/
def NoFr (c : Array Value) (fr : Nat × Nat) : Prop := fr.1 = fr.2 ∨ c.size ≤ fr.1
theorem NoFr.at {c : Array Value} {fr : Nat × Nat} (h : NoFr c fr) : ∀ i, i < c.size → ¬ (fr.1 ≤ i ∧ i < fr.2) := by
  intro i hi h2
  rcases h with h | h <;> omega
def ObjAt (x : Cx) (b : Nat) (l : List CV) : Prop :=
  ∃ c e fr, x.w.heap[b]? = some (.cells c e fr) ∧ NoFr c fr ∧ RepL x l c.toList
def RowAt (x : Cx) (r : Nat) (rw : Row) : Prop :=
  ∃ c e fr, x.w.heap[x.g.rb r]? = some (.cells c e fr) ∧ NoFr c fr ∧ c.size = x.g.rc r ∧ rw.esz = x.g.rs r ∧ rw.len = x.g.rl r ∧ rw.len * rw.esz ≤ c.size ∧
    RowIs x.w x.okP rw fun i => c[i]?
/-- A row that has no memory: nothing stands in it. -/
def Vir (x : Cx) (r : Nat) (rw : Row) : Prop := x.g.rc r = 0 ∧ rw.esz = x.g.rs r ∧ rw.len = x.g.rl r ∧ rw.len = 0 ∧ 0 < rw.esz
structure Sto (x : Cx) (objs : List (Nat × Obj)) (rows : List (Nat × RowB)) : Prop where
  obj : ∀ o l, lkup o objs = some l → x.g.U o ∧ x.S (x.g.ob o) ∧ ObjAt x (x.g.ob o) l
  live : ∀ r rw, lkup r rows = some (.live rw) → x.g.U r ∧ (x.S (x.g.rb r) ∧ RowAt x r rw ∨ Vir x r rw)
  froz : ∀ r rw, lkup r rows = some (.froz rw) → x.g.U r ∧ (x.okP (x.g.rb r) ∧ RowAt x r rw ∨ Vir x r rw)
  injO : ∀ o o' l l', lkup o objs = some l → lkup o' objs = some l' → x.g.ob o = x.g.ob o' → o = o'
  injR : ∀ r r' rw rw', lkup r rows = some (.live rw) → lkup r' rows = some (.live rw') → ¬ Vir x r rw → ¬ Vir x r' rw' → x.g.rb r = x.g.rb r' → r = r'
  injX : ∀ o r l rw, lkup o objs = some l → lkup r rows = some (.live rw) → ¬ Vir x r rw → x.g.ob o ≠ x.g.rb r
  Slt : ∀ b, x.S b → b < x.w.heap.size
  Blt : ∀ b, x.B b → b < x.w.heap.size
  SB : ∀ b, x.S b → ¬ x.B b
theorem Sto.liveC {x : Cx} {objs : List (Nat × Obj)} {rows : List (Nat × RowB)} (hs : Sto x objs rows) {r : Nat} {rw : Row} (h : lkup r rows = some (.live rw)) : x.g.U r ∧ (Vir x r rw ∨ (¬ Vir x r rw ∧ x.S (x.g.rb r) ∧ RowAt x r rw)) := by
  obtain ⟨hu, h1⟩ := hs.live r rw h
  by_cases hv : Vir x r rw
  · exact ⟨hu, .inl hv⟩
  · exact ⟨hu, .inr ⟨hv, h1.resolve_right hv⟩⟩
theorem Sto.liveE {x : Cx} {objs : List (Nat × Obj)} {rows : List (Nat × RowB)} (hs : Sto x objs rows) {r : Nat} {rw : Row} (h : lkup r rows = some (.live rw)) : rw.esz = x.g.rs r ∧ rw.len = x.g.rl r := by
  obtain ⟨hu, ⟨_, h1⟩ | h1⟩ := hs.live r rw h
  · obtain ⟨c, e, fr, hh, hn, h1, h2, h3, h4, h6⟩ := h1; exact ⟨h2, h3⟩
  · exact ⟨h1.2.1, h1.2.2.1⟩
theorem Sto.frozE {x : Cx} {objs : List (Nat × Obj)} {rows : List (Nat × RowB)} (hs : Sto x objs rows) {r : Nat} {rw : Row} (h : lkup r rows = some (.froz rw)) : rw.esz = x.g.rs r ∧ rw.len = x.g.rl r := by
  obtain ⟨hu, ⟨_, h1⟩ | h1⟩ := hs.froz r rw h
  · obtain ⟨c, e, fr, hh, hn, h1, h2, h3, h4, h6⟩ := h1; exact ⟨h2, h3⟩
  · exact ⟨h1.2.1, h1.2.2.1⟩
/-- What a slice of a row that has no memory is. -/
theorem Vir.own {x : Cx} {r off n : Nat} {t : Bool} {v : Value} {rw : Row} (hv : Vir x r rw) (h : RepC x (.own r off n t) v) : n = 0 ∧ off = 0 ∧ (v = .slice none 0 0 ∨ ∃ b o, v = .slice (some ⟨b, o, none⟩) 0 0) := by
  obtain ⟨h1, h2, h3, h4, h5⟩ := hv
  obtain ⟨_, hl, ho⟩ := h
  have hn : n = 0 := by omega
  have hoff : off = 0 := by omega
  refine ⟨hn, hoff, ?_⟩
  rcases ho with ⟨ho, _⟩ | ⟨b, o, cap, hv, hc, ht, hp⟩
  · exact .inl ho
  · refine .inr ⟨b, o, ?_⟩
    have : cap = 0 := by
      rcases Nat.eq_zero_or_pos cap with h0 | h0
      · exact h0
      · obtain ⟨_, _, hh⟩ := hp h0
        rw [h1, ← h2] at hh
        have : 0 < (off + cap) * rw.esz := Nat.mul_pos (by omega) h5
        omega
    rw [hv, this, hn]
def Slots (x : Cx) (slots : List (Nat × SV)) (a : Act) : Prop := ∀ t v, lkup t slots = some v → t < a.tmps.size ∧ RepS x v (a.tmps.getD t undef)

/-! ### Answers -/
def Says {R : Type} (a : Ans R) (r : R) : Prop := ∃ ps : List Ob, a = some (r, ps) ∧ ∀ p ∈ ps, p.holds
theorem says_need {R : Type} {b : Bool} {k : Unit → Ans R} {r : R} (h : Says (need b k) r) : b = true ∧ Says (k ()) r := by
  obtain ⟨ps, he, hp⟩ := h
  unfold need at he
  split at he
  · rename_i r' ps' hk
    cases he
    exact ⟨hp (.p _) (by simp), ps', hk, fun p h => hp p (by simp [h])⟩
  · cases he
theorem says_obl {R : Type} {q : Prop} {a : Ans R} {r : R} (h : Says (obl q a) r) : q ∧ Says a r := by
  obtain ⟨ps, he, hp⟩ := h
  unfold obl at he
  split at he
  · rename_i r' ps'
    cases he
    exact ⟨hp (.p _) (by simp), ps', rfl, fun p h => hp p (by simp [h])⟩
  · cases he
theorem says_same {R : Type} {s s' : St} {a : Ans R} {r : R} (h : Says (same s s' a) r) : s = s' ∧ Says a r := by
  obtain ⟨ps, he, hp⟩ := h
  unfold same at he
  split at he
  · rename_i r' ps'
    cases he
    exact ⟨hp (.e _ _) (by simp), ps', rfl, fun p h => hp p (by simp [h])⟩
  · cases he
theorem says_chk {R : Type} {b : Bool} {k : Unit → Ans R} {r : R} (h : Says (chk b k) r) : b = true ∧ Says (k ()) r := by
  cases b
  · obtain ⟨ps, he, _⟩ := h; simp [chk] at he
  · exact ⟨rfl, h⟩
theorem says_get {R α : Type} {o : Option α} {k : α → Ans R} {r : R} (h : Says (getD' o k) r) : ∃ x, o = some x ∧ Says (k x) r := by
  cases o
  · obtain ⟨ps, he, _⟩ := h; simp [getD'] at he
  · exact ⟨_, rfl, h⟩
theorem says_none {R : Type} {r : R} (h : Says (none : Ans R) r) : False := by
  obtain ⟨ps, he, _⟩ := h; cases he
theorem says_wInt {R : Type} {v : SV} {k : IntKind → Int → Ans R} {r : R} (h : Says (wInt v k) r) : ∃ kd n, v = pint kd n ∧ Says (k kd n) r := by
  unfold wInt at h
  split at h
  · exact ⟨_, _, rfl, h⟩
  · exact (says_none h).elim
theorem says_wBool {R : Type} {v : SV} {k : Bool → Ans R} {r : R} (h : Says (wBool v k) r) : ∃ b, v = pbool b ∧ Says (k b) r := by
  unfold wBool at h
  split at h
  · exact ⟨_, rfl, h⟩
  · exact (says_none h).elim
theorem says_wAv {R : Type} {v : SV} {k : AV → Ans R} {r : R} (h : Says (wAv v k) r) : ∃ a, v = .av a ∧ Says (k a) r := by
  unfold wAv at h
  split at h
  · exact ⟨_, rfl, h⟩
  · exact (says_none h).elim
theorem says_wCv {R : Type} {v : SV} {k : CV → Ans R} {r : R} (h : Says (wCv v k) r) : ∃ c, v = cone c ∧ Says (k c) r := by
  unfold wCv at h
  split at h
  · exact ⟨_, rfl, h⟩
  · exact (says_none h).elim
theorem says_some {R : Type} {r r' : R} {ps : List Ob} (h : Says (some (r, ps)) r') : r = r' ∧ ∀ p ∈ ps, p.holds := by
  obtain ⟨qs, he, hp⟩ := h
  cases he
  exact ⟨rfl, hp⟩
theorem Says.intro {R : Type} {a : Ans R} {r : R} {ps : List Ob} (h : a = some (r, ps)) (hp : ∀ p ∈ ps, p.holds) : Says a r := ⟨ps, h, hp⟩

theorem lkup_cons {α : Type} (x y : Nat) (v : α) (l : List (Nat × α)) : lkup x ((y, v) :: l) = if x = y then some v else lkup x l := by
  by_cases h : x = y
  · subst h; simp [lkup]
  · have : Nat.beq x y = false := by cases hb : Nat.beq x y with
      | false => rfl
      | true => exact absurd (Nat.eq_of_beq_eq_true hb) h
    simp [lkup, this, h]
end Go.Ev
