/- The evaluator by value, and that it is sound; contracts by value. No program in sight. -/
import Derived.Test.YtjjcmgdgifcmgaaGreatQ3
import Derived.DeepKeys4
import Derived.Shelf.SlIterI.Sorted
import Derived.Shelf.SlMaps.Clone
set_option linter.unusedVariables false
set_option linter.unusedSimpArgs false
set_option linter.unusedSectionVars false
namespace Go.Ev
open Go.Shelf Go.RowKit Go.Lib Go.Sort Go.Proofs Go.Maps
open Go.WideElems (rd rg rg_of)
def pvM (a : Mk) : List PV := [.int .i64 a.fr, .int .u64 a.no]
theorem zr8 (l : List Mk) : ∀ ps ∈ l.map pvM, ps.length = 2 := by intro ps hps; obtain ⟨a, _, rfl⟩ := List.mem_map.1 hps; rfl
theorem zqn (l : List Mk) : ∀ ps ∈ l.map pvM, ∀ p ∈ ps, zoZ p = true := by
 intro ps hps
 obtain ⟨a, _, rfl⟩ := List.mem_map.1 hps
 intro p hp
 simp only [pvM, List.mem_cons, List.not_mem_nil, or_false] at hp
 rcases hp with rfl | rfl <;> rfl
theorem ztZ : ∀ (l : List Mk) (i j : Nat), i < l.length → j < 2 → (l.flatMap zhQ)[i * 2 + j]? = some (fvOf (((l.map pvM).getD i []).getD j .nils))
 | [], _, _, h, _ => by simp at h
 | a :: l, 0, j, _, hj => by
  match j, hj with
  | 0, _ => rfl
  | 1, _ => rfl
 | a :: l, i + 1, j, h, hj => by
  have := ztZ l i j (by simpa using h) hj
  rw [show (i + 1) * 2 + j = (i * 2 + j) + 2 by omega]
  simpa [List.flatMap_cons, zhQ] using this
def zkp (cf : Mk → Mk → Int) (l : List Mk) : List Mk := l.mergeSort fun x y => !(ltOf cf) y x
theorem zit (cf : Mk → Mk → Int) (l : List Mk) : (zkp cf l).length = l.length := List.length_mergeSort l
theorem zuS {P : Program} {f g0 : FuncId} {l l' : List Mk} (h : zte P f [.one (.own 0 0 l.length false), .one (.fn g0 [])] [] [.recs 2 (l.map pvM)] ([], [], [.recs 2 (l'.map pvM)])) (hl : l'.length = l.length) {x : Cx} {W : World} (hgd : Gd P x) (hS : ∀ b, x.okP b → b < x.w.heap.size)
  {base : Nat} {e : TypeId} {v : Value} (hbase : x.w.heap.size ≤ base) (hb : Below x.w.heap.size x.w W) (hown : W.ownsRow base e 2 v l.length (l.flatMap zhQ)) :
  Calls P f #[v, .func (.func g0) #[] #[]] W fun en w' => en = .returned (.tuple #[]) ∧ Below x.w.heap.size x.w w' ∧
   ((v = .slice none 0 0 ∨ ∃ g, v = .slice (some ⟨g, 0, none⟩) 0 0) ∧ l.length = 0 ∨ ∃ g cap c e fr, v = .slice (some ⟨g, 0, none⟩) l.length cap ∧ base ≤ g ∧ g < w'.heap.size ∧ l.length ≤ cap ∧ w'.heap[g]? = some (.cells c e fr) ∧ NoFr c fr ∧ c.size = cap * 2 ∧ ∀ i j, i < l'.length → j < 2 → c[i * 2 + j]? = some (fvOf (((l'.map pvM).getD i []).getD j .nils))) := by
 have hgdz : ∀ S : Nat → Prop, (∀ b, S b → x.w.heap.size ≤ b) → Gd P { w := W, g := topG, S := S, B := fun _ => False } := by
  intro S hS'
  exact hgd.of (fun b hb' => ⟨Nat.lt_of_lt_of_le hb'.1 hb.size, fun h => by have := hS' b h; have := hb'.1; omega, fun h => h⟩) (fun b hb' => hb.block b hb'.1)
 rcases hown.2 with ⟨rfl, h0⟩ | ⟨g, cap, cur, rfl, hg, hcur, hcap, hmax, hcs, htk⟩
 ·let z : Cx := { w := W, g := { ob := fun _ => 0, rb := fun _ => 0, rs := fun _ => 2, rc := fun _ => 0, rl := fun _ => 0, U := fun n => n < 1 }, S := fun _ => False, B := fun _ => False }
  have hl0 : l = [] := List.eq_nil_of_length_eq_zero h0
  subst hl0
  have one : ∀ {r : Nat} {rb : RowB}, lkup r (zaC 0 ([Row.recs 2 []].map RowB.live)) = some rb → r = 0 ∧ rb = .live (.recs 2 []) := by
   intro r rb hl
   simp only [zaC, List.map_cons, List.map_nil] at hl
   rw [zao] at hl
   split at hl
   ·rename_i e; cases hl; exact ⟨e, rfl⟩
   ·cases hl
  have hvir : Vir z 0 (.recs 2 []) := ⟨rfl, rfl, rfl, rfl, by decide⟩
  have hsto : Sto z (zaC 0 []) (zaC 0 ([Row.recs 2 []].map RowB.live)) := by
   refine ⟨fun _ _ h => (by cases h), fun r rw' hl => ?_, fun r rw' hl => ?_, fun _ _ _ _ h => (by cases h), fun r r' rw1 rw2 h1 h2 _ _ _ => ?_, fun _ _ _ _ h => (by cases h), fun b h => h.elim, fun b h => h.elim, fun b h => h.elim⟩
   ·obtain ⟨rfl, h3⟩ := one hl
    cases h3
    exact ⟨Nat.lt_succ_self 0, .inr hvir⟩
   ·obtain ⟨_, h3⟩ := one hl
    cases h3
   ·obtain ⟨rfl, _⟩ := one h1
    obtain ⟨rfl, _⟩ := one h2
    rfl
  have hgz : Gd P z := (hgdz (fun _ => False) (fun b h => h.elim)).of (fun b hb' => hb') (fun b hb' => rfl)
  refine Calls.mono (h.2 z [.slice none 0 0, .func (.func g0) #[] #[]] hgz hsto (fun n hn => by simpa [z] using hn) ⟨⟨rfl, Nat.lt_succ_self 0, Nat.le_refl _, .inl ⟨rfl, rfl⟩⟩, ⟨rfl, #[], rfl, trivial⟩, trivial⟩) ?_
  rintro en w' ⟨u, y, rfl, rfl, hx, _, _, hv⟩
  obtain ⟨vs, rfl, hvs⟩ := hv
  have hvs0 : vs = #[] := by
   cases hl : vs.toList with
   | nil => exact Array.toList_eq_nil_iff.1 hl
   | cons a b => rw [hl] at hvs; exact hvs.elim
  subst hvs0
  exact ⟨rfl, ⟨hx.os.trans hb.os, hx.tape.trans hb.tape, hx.output.trans hb.output, Nat.le_trans hb.size hx.size, fun k hk => (hx.blk k (Nat.lt_of_lt_of_le hk hb.size) (fun h => h)).trans (hb.block k hk)⟩, (.inl ⟨.inl rfl, rfl⟩)⟩
 ·let z : Cx := { w := W, g := { ob := fun _ => 0, rb := fun _ => g, rs := fun _ => 2, rc := fun _ => cur.size, rl := fun _ => l.length, U := fun n => n < 1 }, S := fun b => b = g, B := fun _ => False }
  have hglt : g < W.heap.size := (Array.getElem?_eq_some_iff.1 hcur).1
  have hcs1 : cur.size = cap * 2 := hcs
  have one : ∀ {r : Nat} {rb : RowB}, lkup r (zaC 0 ([Row.recs 2 (l.map pvM)].map RowB.live)) = some rb → r = 0 ∧ rb = .live (.recs 2 (l.map pvM)) := by
   intro r rb hl
   simp only [zaC, List.map_cons, List.map_nil] at hl
   rw [zao] at hl
   split at hl
   ·rename_i e; cases hl; exact ⟨e, rfl⟩
   ·cases hl
  have one' : ∀ {r : Nat} {rb : RowB}, lkup r (zaC 0 ([Row.recs 2 (l'.map pvM)].map RowB.live)) = some rb → r = 0 ∧ rb = .live (.recs 2 (l'.map pvM)) := by
   intro r rb hl
   simp only [zaC, List.map_cons, List.map_nil] at hl
   rw [zao] at hl
   split at hl
   ·rename_i e; cases hl; exact ⟨e, rfl⟩
   ·cases hl
  have hrow : zg0 z 0 (.recs 2 (l.map pvM)) := by
   refine ⟨cur, e, (0, 0), hcur, .inl rfl, rfl, rfl, by simp only [Row.len, List.length_map]; rfl, ?_, ?_⟩
   ·simp only [Row.len, Row.esz, List.length_map]; omega
   ·refine (zf9 (zr8 l) (zqn l)).2 fun i j hi hj => ?_
    rw [List.length_map] at hi
    have h1 : (cur.toList.take (l.length * 2))[i * 2 + j]? = (l.flatMap zhQ)[i * 2 + j]? := by rw [htk]
    rw [List.getElem?_take_of_lt (by omega)] at h1
    show cur[i * 2 + j]? = _
    rw [← Array.getElem?_toList, h1]
    exact ztZ l i j hi hj
  have hsto : Sto z (zaC 0 []) (zaC 0 ([Row.recs 2 (l.map pvM)].map RowB.live)) := by
   refine ⟨fun _ _ h => (by cases h), fun r rw' hl => ?_, fun r rw' hl => ?_, fun _ _ _ _ h => (by cases h), fun r r' rw1 rw2 h1 h2 _ _ _ => ?_, fun _ _ _ _ h => (by cases h), fun b h => (by rw [show b = g from h]; exact hglt), fun b h => h.elim, fun b h h' => h'⟩
   ·obtain ⟨rfl, h3⟩ := one hl
    cases h3
    exact ⟨Nat.lt_succ_self 0, .inl ⟨rfl, hrow⟩⟩
   ·obtain ⟨_, h3⟩ := one hl
    cases h3
   ·obtain ⟨rfl, _⟩ := one h1
    obtain ⟨rfl, _⟩ := one h2
    rfl
  have hgz : Gd P z := (hgdz (fun b => b = g) (fun b h => by rw [show b = g from h]; omega)).of (fun b hb' => hb') (fun b hb' => rfl)
  refine Calls.mono (h.2 z [.slice (some ⟨g, 0, none⟩) l.length cap, .func (.func g0) #[] #[]] hgz hsto (fun n hn => by simpa [z] using hn) ⟨⟨rfl, Nat.lt_succ_self 0, (by simp [z]), .inr ⟨g, 0, cap, rfl, hcap, (by simp), fun _ => ⟨rfl, (by simp), (by simp [z]; omega)⟩⟩⟩, ⟨rfl, #[], rfl, trivial⟩, trivial⟩) ?_
  rintro en w' ⟨u, y, rfl, rfl, hx, hpin, hsy, hv⟩
  obtain ⟨vs, rfl, hvs⟩ := hv
  have hvs0 : vs = #[] := by
   cases hl : vs.toList with
   | nil => exact Array.toList_eq_nil_iff.1 hl
   | cons a b => rw [hl] at hvs; exact hvs.elim
  subst hvs0
  obtain ⟨p1, p2, p3, p4⟩ := hpin 0 (by simp)
  have hbz : Below x.w.heap.size x.w y.w := ⟨hx.os.trans hb.os, hx.tape.trans hb.tape, hx.output.trans hb.output, Nat.le_trans hb.size hx.size, fun k hk => (hx.blk k (Nat.lt_of_lt_of_le hk hb.size) (fun h => by rw [show k = g from h] at hk; omega)).trans (hb.block k hk)⟩
  refine ⟨rfl, hbz, ?_⟩
  have hlk : lkup 0 (zaC 0 ([Row.recs 2 (l'.map pvM)].map RowB.live)) = some (.live (.recs 2 (l'.map pvM))) := by simp [zaC, lkup]
  obtain ⟨_, ⟨_, c, e2, fr, hh, hn, hcsz, _, _, _, his⟩ | hvir⟩ := hsy.live 0 _ hlk
  ·rw [p1] at hh
   refine .inr ⟨g, cap, c, e2, fr, rfl, hg, Nat.lt_of_lt_of_le hglt hx.size, hcap, hh, hn, ?_, fun i j hi hj => (zf9 (zr8 l') (zqn l')).1 his i j (by rw [List.length_map]; exact hi) hj⟩
   rw [hcsz, p3]; exact hcs1
  ·have h0 : l.length = 0 := by rw [← hl]; have := hvir.2.2.2.1; simpa only [Row.len, List.length_map] using this
   have hc0 : cap = 0 := by
    have := hvir.1
    rw [p3] at this
    have h2 : cur.size = 0 := this
    omega
   exact .inl ⟨.inr ⟨g, by rw [h0, hc0]⟩, h0⟩
theorem zq8 {x : Cx} {r off n : Nat} {t : Bool} {v : Value} (h : RepC x (.own r off n t) v) : v.oneCell' = true := by
 obtain ⟨_, _, ⟨rfl, _⟩ | ⟨b, o, cap, rfl, _⟩⟩ := h <;> rfl
theorem ztG {cf : Mk → Mk → Int} (hO : SWO (ltOf cf)) (hT : ∀ x y, (ltOf cf) x y = false → (ltOf cf) y x = false → x = y) {l m : List Mk} (h : l.Perm m) : zkp cf l = zkp cf m := by
 have tr : ∀ a b c : Mk, (!(ltOf cf) b a) = true → (!(ltOf cf) c b) = true → (!(ltOf cf) c a) = true := by
  intro a b c h1 h2
  simp only [Bool.not_eq_true'] at h1 h2 ⊢
  exact hO.ntrans _ _ _ h2 h1
 have to : ∀ a b : Mk, ((!(ltOf cf) b a) || (!(ltOf cf) a b)) = true := by
  intro a b
  cases h1 : ltOf cf b a with
  | false => rfl
  | true =>
   cases h2 : ltOf cf a b with
   | false => rfl
   | true => have := hO.trans _ _ _ h1 h2; rw [hO.irrefl] at this; cases this
 refine List.Perm.eq_of_pairwise (le := fun x y => (!(ltOf cf) y x) = true) (fun a b _ _ h1 h2 => ?_) (List.pairwise_mergeSort tr to l) (List.pairwise_mergeSort tr to m) (((List.mergeSort_perm l _).trans h).trans (List.mergeSort_perm m _).symm)
 simp only [Bool.not_eq_true'] at h1 h2
 exact hT a b h2 h1
section
variable {P : Program} {ρ : Ren} {fs : Array Field}
structure ztH (P : Program) (k : TypeId) (f1 f2 : Field) : Prop where
 u : P.underlying k = some (.struct #[f1, f2])
 u1 : P.underlying f1.type = some (.int .i64)
 u2 : P.underlying f2.type = some (.int .u64)
 o1 : f1.offset = 0
 o2 : f2.offset = 1
 c : P.cellsOf k = 2
 c1 : P.cellsOf f1.type = 1
 c2 : P.cellsOf f2.type = 1
 n1 : f1.name ≠ "_"
 n2 : f2.name ≠ "_"
 kt : P.keyType k = true
 sz : 0 < P.types.size
theorem zsO {P : Program} {t : TypeId} {q : IntKind} (hu : P.underlying t = some (.int q)) (n : Nat) (cs : List Value) {L : List Lit} (h : P.keyLits (n + 1) t cs = some L) : ∃ a, cs = [.int q a] := by
 unfold Program.keyLits at h
 simp only [hu] at h
 split at h <;> try (first | (rename_i he; cases he; done) | cases h)
 ·rename_i q2 q' a he
  cases he
  split at h
  ·rename_i hq; rw [hq.1]; exact ⟨a, rfl⟩
  ·cases h
theorem zub {P : Program} {t : TypeId} {q : IntKind} (hu : P.underlying t = some (.int q)) (n : Nat) {a : Int} (hw : (Lit.int q a).wf = true) : P.keyLits (n + 1) t [.int q a] = some [.int q a] := by
 unfold Program.keyLits
 simp only [hu]
 simp [hw]
theorem ztH.enc {P : Program} {k : TypeId} {f1 f2 : Field} (M : ztH P k f1 f2) {key : Value} {kl : Lit} (h : keyOf P k key = some kl) : ∃ x : Mk, key = encM x := by
 obtain ⟨n, hn⟩ : ∃ n, P.types.size = n + 1 := ⟨P.types.size - 1, by have := M.sz; omega⟩
 obtain ⟨xs, L, rfl, h1, _⟩ := keyOf_top (by rw [M.u]) h
 rw [hn] at h1
 unfold Program.keyLits at h1
 simp only [M.u] at h1
 split at h1
 ·rename_i hc
  obtain ⟨hlen, _⟩ := hc
  rw [M.c] at hlen
  match hx : xs.toList, hlen with
  | [a, b], _ =>
   rw [hx] at h1
   simp only [List.mapM_cons, List.mapM_nil, M.o1, M.o2, M.c1, M.c2, List.drop_zero, List.take_succ_cons, List.take_zero, List.drop_succ_cons, Option.map_eq_some_iff] at h1
   obtain ⟨LL, h2, _⟩ := h1
   cases e1 : P.keyLits (n + 1) f1.type [a] with
   | none => rw [e1] at h2; simp at h2
   | some L1 =>
    cases e2 : P.keyLits (n + 1) f2.type [b] with
    | none => rw [e1, e2] at h2; simp at h2
    | some L2 =>
     obtain ⟨x, hx1⟩ := zsO M.u1 n [a] e1
     obtain ⟨y, hy1⟩ := zsO M.u2 n [b] e2
     refine ⟨⟨x, y⟩, ?_⟩
     have : xs = #[.int .i64 x, .int .u64 y] := by
      apply Array.ext'
      rw [hx]
      simp only [List.cons.injEq, and_true] at hx1 hy1
      rw [hx1, hy1]
     rw [this]
 ·cases h1
theorem ztH.lit {P : Program} {k : TypeId} {f1 f2 : Field} (M : ztH P k f1 f2) (x : Mk) (h1 : (Lit.int .i64 x.fr).wf = true) (h2 : (Lit.int .u64 x.no).wf = true) : ∃ l, keyOf P k (encM x) = some l := by
 obtain ⟨n, hn⟩ : ∃ n, P.types.size = n + 1 := ⟨P.types.size - 1, by have := M.sz; omega⟩
 have hL : P.keyLits (P.types.size + 1) k [.int .i64 x.fr, .int .u64 x.no] = some [.int .i64 x.fr, .int .u64 x.no] := by
  rw [hn]
  unfold Program.keyLits
  simp only [M.u]
  rw [if_pos ⟨by rw [M.c]; rfl, by simp [M.n1, M.n2]⟩]
  have e1 := zub M.u1 n h1
  have e2 := zub M.u2 n h2
  simp [M.o1, M.o2, M.c1, M.c2, e1, e2]
 refine ⟨.string (keyBytes [.int .i64 x.fr, .int .u64 x.no]), ?_⟩
 unfold keyOf
 simp only [M.u, M.kt, Value.formed, M.c, Value.cells, encM]
 simp [hL]
def litM (P : Program) (k : TypeId) (a : Mk) : Lit := (keyOf P k (encM a)).getD (.bool false)
theorem zr3 {k : TypeId} {a : Mk} {l : Lit} (h : keyOf P k (encM a) = some l) : litM P k a = l := by simp [litM, h]
theorem zqK {H : Type} {k : TypeId} {w : World} {ok : Nat → Prop} {va : Bool} : ∀ {ents : List (List PV × List PV)} {es : List MapEntry} {ks : List Mk}, (∀ a ∈ ks, ∃ l, keyOf P k (encM a) = some l) → zdI w ok (.st [.i64, .u64]) va ents es → ents.map (·.1) = ks.map pvM →
  es.map (·.key) = ks.map encM ∧ (∀ e ∈ es, ∃ a, rd P k (fun _ => some ((.lit (.bool false) : DataW H), [])) e = some (litM P k a, .lit (.bool false))) ∧ es.map (rg P k (fun _ => some ((.lit (.bool false) : DataW H), []))) = ks.map fun a => (litM P k a, .lit (.bool false))
 | [], [], [], _, _, _ => ⟨rfl, by simp, rfl⟩
 | [], [], _ :: _, _, _, h => by simp at h
 | [], _ :: _, _, _, h, _ => h.elim
 | _ :: _, [], _, _, h, _ => h.elim
 | _ :: _, _ :: _, [], _, _, h => by simp at h
 | e :: ents, m :: es, a :: ks, hw, h, he => by
  simp only [List.map_cons, List.cons.injEq] at he
  obtain ⟨h1, h2, h3⟩ := zqK (H := H) (fun b hb => hw b (by simp [hb])) h.2 he.2
  obtain ⟨_, ⟨cs, hcs, hsz, hps⟩, _⟩ := h.1
  rw [he.1] at hps hsz
  simp only [pvM, zbx, RepP] at hps
  obtain ⟨⟨v, hv, rfl⟩, ⟨u, hu, rfl⟩, _⟩ := hps
  simp only [KK.ag, if_true] at hcs
  have hkey : m.key = encM a := by
   rw [hcs]
   have : cs = #[.int .i64 a.fr, .int .u64 a.no] := by
    apply Array.ext (by simpa [pvM] using hsz)
    intro i hi hi2
    match i, hi2 with
    | 0, _ => exact (Array.getElem?_eq_some_iff.1 hv).2
    | 1, _ => exact (Array.getElem?_eq_some_iff.1 hu).2
   rw [this]
  obtain ⟨l, hl⟩ := hw a (by simp)
  have hrd : rd P k (fun _ => some ((.lit (.bool false) : DataW H), [])) m = some (litM P k a, .lit (.bool false)) := by
   unfold WideElems.rd
   rw [hkey, hl, zr3 hl]
   rfl
  refine ⟨by simp [h1, hkey], fun e' he' => ?_, by simp only [List.map_cons]; rw [rg_of hrd, h3]⟩
  rcases List.mem_cons.1 he' with rfl | he'
  ·exact ⟨a, hrd⟩
  ·exact h2 e' he'
theorem hasM {H : Type} {k : TypeId} (K : Keyed P k) {ks : List Mk} (hw : ∀ a ∈ ks, ∃ l, keyOf P k (encM a) = some l) (x : Mk) :
  (∃ l, keyOf P k (encM x) = some l ∧ has (.map ((ks.map fun a => (litM P k a, (.lit (.bool false) : DataW H))).foldr DataW.insert [])) l = true) ↔ x ∈ ks := by
 have hp := WideShapes.sorted_perm (ks.map fun a => (litM P k a, (.lit (.bool false) : DataW H)))
 constructor
 ·rintro ⟨l, h1, h2⟩
  rw [has_eq, List.any_eq_true] at h2
  obtain ⟨p, hp1, hp2⟩ := h2
  have hm := hp.mem_iff.1 hp1
  obtain ⟨a, ha, rfl⟩ := List.mem_map.1 hm
  have he := WideAt.sameKey_eq hp2
  obtain ⟨l', hl'⟩ := hw a ha
  simp only [zr3 hl'] at he
  subst he
  rw [← zpX (K.inj hl' h1)]
  exact ha
 ·intro hx
  obtain ⟨l, hl⟩ := hw x hx
  refine ⟨l, hl, ?_⟩
  rw [has_eq, List.any_eq_true]
  exact ⟨(litM P k x, .lit (.bool false)), hp.mem_iff.2 (List.mem_map.2 ⟨x, hx, rfl⟩), by rw [zr3 hl]; exact WideAt.sameKey_self (K.key hl)⟩
set_option maxHeartbeats 2000000 in
theorem Runs.sortedMarks (L : LayM P ρ fs) (K : Keyed P (ρ.t 61)) (KE : ∀ {key : Value} {kl : Lit}, keyOf P (ρ.t 61) key = some kl → ∃ x : Mk, key = encM x) (hb : zjA P (ρ.f 59) = true)
  (ents : List (List PV × List PV)) (va : Bool) (ks : List Mk) (hks : ents.map (·.1) = ks.map pvM) (hnd : ks.Nodup) (hkl : ∀ a ∈ ks, ∃ l, keyOf P (ρ.t 61) (encM a) = some l) (hlen : ks.length ≤ 536870912)
  (cf : Mk → Mk → Int) (hO : SWO (ltOf cf)) (hT : ∀ x y, (ltOf cf) x y = false → (ltOf cf) y x = false → x = y) (g0 : FuncId)
  (hsort : ∀ l : List Mk, l.length = ks.length → zte P (ρ.f 79) [.one (.own 0 0 l.length false), .one (.fn g0 [])] [] [.recs 2 (l.map pvM)] ([], [], [.recs 2 ((zkp cf l).map pvM)])) :
  Runs P (ρ.f 59) [.one (.fn (ρ.f 80) [.ref 0 0]), .one (.fn g0 [])] [[.mp 1], [.maph (.st [.i64, .u64]) va ents []]] [] ([.one (.own 0 0 ks.length false)], [[.mp 1], [.maph (.st [.i64, .u64]) va ents []]], [.recs 2 ((zkp cf ks).map pvM)]) := by
 unfold zjA at hb
 split at hb
 ·rename_i fn hfn
  simp only [Bool.and_eq_true, Bool.not_eq_true'] at hb
  obtain ⟨c0, hc0⟩ := Option.isSome_iff_exists.1 hb.1
  refine ⟨⟨fn, c0, hfn, hc0, hb.2⟩, rfl, Nat.le_refl _, fun x vals hgd hs hu hr => ?_⟩
  clear hb hfn hc0
  match vals, hr with
  | [v0, v9], hr =>
   obtain ⟨⟨_, vs, hv0, hcap⟩, ⟨_, vs9, hv9, hcap9⟩, _⟩ := hr
   subst hv0
   have hvs9 : vs9 = #[] := by
    cases hvl : vs9.toList with
    | nil => exact Array.toList_eq_nil_iff.1 hvl
    | cons u us => rw [hvl] at hcap9; exact hcap9.elim
   subst hvs9
   subst hv9
   obtain ⟨hU0, hS0, hO0⟩ := hs.obj 0 [.mp 1] rfl
   obtain ⟨hU1, hS1, hO1⟩ := hs.obj 1 [.maph (.st [.i64, .u64]) va ents []] rfl
   obtain ⟨cc, e0, fr0, hh0, hn0, hrl0⟩ := hO0.plain rfl
   obtain ⟨es, clock, hb1, hes, hborn, hpw, _⟩ := hO1.map
   have hcc : cc = #[.map (some (x.g.ob 1))] := by
    apply Array.ext'
    match cc.toList, hrl0 with
    | [u], h => rw [h.1.2.2]
   subst hcc
   have hvs : vs = #[.pointer (some ⟨x.g.ob 0, 0, none⟩)] := by
    apply Array.ext'
    match vs.toList, hcap with
    | [u], h => rw [h.1.2]
   subst hvs
   obtain ⟨hkeys, hreads, hrgs⟩ := zqK (H := Unit) hkl hes hks
   have hsz : es.size = ks.length := by have := congrArg List.length hkeys; simpa using this
   have hknd : es.toList.Pairwise (fun a b => a.key ≠ b.key) := by
    have : (es.toList.map (·.key)).Nodup := by
     rw [hkeys]
     exact List.pairwise_map.2 (hnd.imp fun h e => h (zpX e))
    exact List.pairwise_map.1 this
   have hown : x.w.ownsMap P (ρ.t 61) (fun _ => some ((.lit (.bool false) : DataW Unit), [])) (x.g.ob 1) es.size (.map ((ks.map fun a => (litM P (ρ.t 61) a, (.lit (.bool false) : DataW Unit))).foldr DataW.insert [])) := by
    refine ⟨es, clock, hb1, ⟨?_, ?_, fun e he => ?_⟩, Nat.le_refl _, by rw [hrgs]⟩
    ·rw [hsz]; exact Nat.le_trans hlen (by decide)
    ·exact (MapKept.stamped_iff es clock).2 ⟨hborn, List.pairwise_map.2 hpw, hknd⟩
    ·obtain ⟨a, ha⟩ := hreads e he
     exact ⟨_, ha⟩
   have hsize : Maps.size (.map ((ks.map fun a => (litM P (ρ.t 61) a, (.lit (.bool false) : DataW Unit))).foldr DataW.insert [])) = ks.length := by
    have := (WideShapes.sorted_perm (ks.map fun a => (litM P (ρ.t 61) a, (.lit (.bool false) : DataW Unit)))).length_eq
    rw [Maps.size_eq, this]; simp
   have hperm := hasM (H := Unit) K hkl
   generalize hD : (.map ((ks.map fun a => (litM P (ρ.t 61) a, (.lit (.bool false) : DataW Unit))).foldr DataW.insert []) : DataW Unit) = D0 at hown hsize hperm
   have hlt0 : x.g.ob 0 < x.w.heap.size := hs.Slt _ hS0
   have hlt1 : x.g.ob 1 < x.w.heap.size := hs.Slt _ hS1
   have hne01 : x.g.ob 0 ≠ x.g.ob 1 := fun h => by have := hs.injO 0 1 _ _ rfl rfl h; cases this
   have hcell : x.w.cell? ⟨x.g.ob 0, 0, none⟩ = some (.map (some (x.g.ob 1))) := by
    unfold World.cell?
    simp [hh0]
   have hseq : SeqGives Fence.wide (5 - 1 - 1) P (ρ.f 80) #[.pointer (some ⟨x.g.ob 0, 0, none⟩)] encM (fun ss => zhM P (ρ.t 61) D0 (fun _ => false) ss) (Maps.size D0) x.w :=
    KeysM.keys_gives L K KE Fence.wide (5 - 1 - 1) trivial rfl (by omega) (x.g.ob 0) (x.g.ob 1) es.size D0 x.w hlt0 hcell hown
   rw [hsize] at hseq
   have eg : ∀ args w, (callFunc (ρ.f 80) args).run P w = .ok (.enter (ρ.f 80) args) w := L.f80.enters rfl
   refine (callsIn_wide (n := 6)).1 ?_
   have h1 : 1 ≤ 6 := by omega
   have e78 : ∀ args w, (callFunc (ρ.f 78) args).run P w = .ok (.enter (ρ.f 78) args) w := L.f78.enters rfl
   have e79 : ∀ args w, (callFunc (ρ.f 79) args).run P w = .ok (.enter (ρ.f 79) args) w := by
    obtain ⟨⟨fn, c, h1, h2, h3⟩, _⟩ := hsort ks rfl
    exact enters_of h1 h3 h2
   have mixed := L.mixed; have t0 := L.t0; have a0 := L.a0; have z0 := L.z0; have v0 := L.v0; have t4 := L.t4; have a4 := L.a4; have z4 := L.z4; have v4 := L.v4; have t3 := L.t3; have a3 := L.a3; have z3 := L.z3; have v3 := L.v3; have t61 := L.t61; have a61 := L.a61; have z61 := L.z61; have v61 := L.v61; have t64 := L.t64; have a64 := L.a64; have z64 := L.z64; have v64 := L.v64; have t99 := L.t99; have a99 := L.a99; have z99 := L.z99; have v99 := L.v99; have t59 := L.t59; have a59 := L.a59; have z59 := L.z59; have v59 := L.v59; have t110 := L.t110; have a110 := L.a110; have z110 := L.z110; have v110 := L.v110; have t111 := L.t111; have a111 := L.a111; have z111 := L.z111; have v111 := L.v111; have t113 := L.t113; have a113 := L.a113; have z113 := L.z113; have v113 := L.v113
   have u0 := run_underlying L.t0; have u4 := run_underlying L.t4; have u3 := run_underlying L.t3; have u61 := run_underlying L.t61; have u64 := run_underlying L.t64; have u99 := run_underlying L.t99; have u59 := run_underlying L.t59; have u110 := run_underlying L.t110; have u111 := run_underlying L.t111; have u113 := run_underlying L.t113
   have hfw : ∀ n, Fence.wide.fn n := fun _ => trivial
   have cC := KeysM.collect_in L Fence.wide 5 trivial trivial rfl (by omega) (ρ.f 80) #[.pointer (some ⟨x.g.ob 0, 0, none⟩)] trivial eg _ ks.length (Nat.le_trans hlen (by decide)) (by omega) x.w (by exact hseq.bounded)
   obtain ⟨_, _, FG⟩ := L.f59
   refine callsIn_of_wp FG rfl trivial ?_ rfl
   simp only [BodyM.n59_ntmps ρ, List.size_toArray, List.length_cons, List.length_nil, Nat.reduceAdd, Nat.reduceSub, Array.replicate_succ, Array.replicate_zero, List.push_toArray, List.append_toArray, List.nil_append, List.cons_append]
   gi_wp2_with (gi_at_fn (ρ.f 78); refine cC.mono ?_; rintro e W ⟨v, ss, rfl, ⟨hS, hlen2⟩, hrow, hnil, hbl⟩)
   have hss : ss.Perm ks := (List.perm_ext_iff_of_nodup hS.1 hnd).2 fun a => (hS.2 a).trans ⟨fun ⟨l, h1, h2, _⟩ => (hperm a).1 ⟨l, h1, h2⟩, fun h => (hperm a).2 h |>.elim fun l h => ⟨l, h.1, h.2, rfl⟩⟩
   have hssl : ss.length = ks.length := hss.length_eq
   have hsorted : zkp cf ss = zkp cf ks := ztG hO hT hss
   have cS := zuS (x := x) (hsort ss hssl) (zit cf ss) hgd (fun b hb => hb.1) (Nat.le_refl _) hbl hrow
   replace cS := (callsIn_wide (n := 5)).2 cS
   gi_wp2_with (gi_at_fn (ρ.f 79); refine cS.mono ?_; rintro e w' ⟨rfl, hb2, hend⟩)
   go_ret
   have one : ∀ {r : Nat} {rb : RowB}, lkup r (zaC 0 ([Row.recs 2 ((zkp cf ks).map pvM)].map RowB.live)) = some rb → r = 0 ∧ rb = .live (.recs 2 ((zkp cf ks).map pvM)) := by
    intro r rb hl
    simp only [zaC, List.map_cons, List.map_nil] at hl
    rw [zao] at hl
    split at hl
    ·rename_i e; cases hl; exact ⟨e, rfl⟩
    ·cases hl
   have fin : ∀ (g rc : Nat) (S : Nat → Prop), (∀ b, S b → x.w.heap.size ≤ b ∧ b < w'.heap.size) →
     (∀ y : Cx, y.w = w' → y.g = { ob := x.g.ob, rb := fun _ => g, rs := fun _ => 2, rc := fun _ => rc, rl := fun _ => ks.length, U := fun n => n < 2 } → (y.S = fun b => x.S b ∨ S b) → y.B = x.B → ((y.S g ∧ zg0 y 0 (.recs 2 ((zkp cf ks).map pvM)) ∧ x.w.heap.size ≤ g) ∨ Vir y 0 (.recs 2 ((zkp cf ks).map pvM))) ∧ RepC y (.own 0 0 ks.length false) v) →
     ∃ v1 y, Ending.returned v = Ending.returned v1 ∧ y.w = w' ∧ Ext x y ∧ (∀ o, o < 2 → y.g.ob o = x.g.ob o) ∧ Sto y (zaC 0 [[.mp 1], [.maph (.st [.i64, .u64]) va ents []]]) (zaC 0 ([Row.recs 2 ((zkp cf ks).map pvM)].map RowB.live)) ∧ RepS y (zge [.one (.own 0 0 ks.length false)]) v1 := by
    intro g rc S hS hyp
    let y : Cx := { w := w', g := { ob := x.g.ob, rb := fun _ => g, rs := fun _ => 2, rc := fun _ => rc, rl := fun _ => ks.length, U := fun n => n < 2 }, S := fun b => x.S b ∨ S b, B := x.B }
    obtain ⟨hrw, hrep⟩ := hyp y rfl rfl rfl rfl
    have hx : Ext x y := by
     exact ⟨hb2.os, hb2.tape, hb2.output, hb2.size, fun b hlt _ => hb2.block b hlt, fun b hb => hb.imp id fun h => (hS b h).1, rfl, fun h => by cases h⟩
    have hblk : ∀ b, x.S b → w'.heap[b]? = x.w.heap[b]? := fun b hb => hb2.block b (hs.Slt b hb)
    have two : ∀ {o : Nat} {l : Obj}, lkup o (zaC 0 [[CV.mp 1], [.maph (.st [.i64, .u64]) va ents []]]) = some l → (o = 0 ∧ l = [.mp 1]) ∨ (o = 1 ∧ l = [.maph (.st [.i64, .u64]) va ents []]) := by
     intro o l hl
     simp only [zaC] at hl
     rw [zao] at hl
     split at hl
     ·rename_i e; cases hl; exact .inl ⟨e, rfl⟩
     ·rw [zao] at hl
      split at hl
      ·rename_i e; cases hl; exact .inr ⟨e, rfl⟩
      ·cases hl
    refine ⟨v, y, rfl, rfl, hx, fun o _ => rfl, ⟨?_, ?_, ?_, ?_, ?_, ?_, ?_, ?_, ?_⟩, ⟨zq8 hrep, hrep⟩⟩
    ·intro o l hl
     rcases two hl with ⟨rfl, rfl⟩ | ⟨rfl, rfl⟩
     ·exact ⟨by show 0 < 2; omega, .inl hS0, .inl ⟨_, e0, fr0, (hblk _ hS0).trans hh0, hn0, ⟨rfl, by show 1 < 2; omega, rfl⟩, trivial⟩⟩
     ·refine ⟨by show 1 < 2; omega, .inl hS1, .inr ?_⟩
      exact zrD.of (fun _ hb => hx.okP hb) (fun b hb => hx.blk b hb.1 hb.2.1) (hblk _ hS1) hO1.map
    ·intro r rw' hl
     obtain ⟨rfl, h3⟩ := one hl
     cases h3
     exact ⟨by show 0 < 2; omega, hrw.imp (fun h => ⟨h.1, h.2.1⟩) id⟩
    ·intro r rw' hl
     obtain ⟨_, h3⟩ := one hl
     cases h3
    ·intro o o' l l' h1 h2 he
     exact hs.injO o o' l l' h1 h2 he
    ·intro r r' rw1 rw2 h1 h2 _ _ _
     obtain ⟨rfl, _⟩ := one h1
     obtain ⟨rfl, _⟩ := one h2
     rfl
    ·intro o r l rw' h1 h2 hnv
     obtain ⟨rfl, h3⟩ := one h2
     cases h3
     have hg := (hrw.resolve_right hnv).2.2
     have : x.g.ob o < x.w.heap.size := by rcases two h1 with ⟨rfl, _⟩ | ⟨rfl, _⟩ <;> assumption
     show x.g.ob o ≠ g
     omega
    ·intro b hb
     rcases hb with hb | hb
     ·exact Nat.lt_of_lt_of_le (hs.Slt b hb) hb2.size
     ·exact (hS b hb).2
    ·intro b hb
     exact Nat.lt_of_lt_of_le (hs.Blt b hb) hb2.size
    ·intro b hb hB
     rcases hb with hb | hb
     ·exact hs.SB b hb hB
     ·have := hs.Blt b hB; have := (hS b hb).1; omega
   rcases hend with ⟨hv, hl0⟩ | ⟨g, cap, c, e, fr, rfl, hg, hglt, hcap, hh, hn, hcs, his⟩
   ·refine fin 0 0 (fun _ => False) (fun b h => h.elim) fun y hyw hyg hyS hyB => ⟨.inr ?_, ?_⟩
    ·have hk0 : ks.length = 0 := by rw [← hssl]; exact hl0
     refine ⟨by rw [hyg], by rw [hyg]; rfl, by rw [hyg]; simp only [Row.len, List.length_map, zit], by simp only [Row.len, List.length_map, zit]; exact hk0, by simp [Row.esz]⟩
    ·have hk0 : ks.length = 0 := by rw [← hssl]; exact hl0
     refine ⟨by rw [hyg]; show 0 < 2; omega, by rw [hyg]; simp, ?_⟩
     rcases hv with rfl | ⟨g, rfl⟩
     ·exact .inl ⟨rfl, hk0⟩
     ·exact .inr ⟨g, 0, 0, by rw [hk0], by omega, fun _ => hk0.symm, fun h => by omega⟩
   ·refine fin g (cap * 2) (fun b => b = g) (fun b h => by rw [h]; exact ⟨hg, hglt⟩) fun y hyw hyg hyS hyB => ⟨.inl ⟨?_, ?_, hg⟩, ?_⟩
    ·rw [hyS]; exact .inr rfl
    ·refine ⟨c, e, fr, by rw [hyw, hyg]; exact hh, hn, by rw [hyg]; exact hcs, by rw [hyg]; rfl, by rw [hyg]; simp only [Row.len, List.length_map, zit], ?_, ?_⟩
     ·simp only [Row.len, Row.esz, List.length_map, zit]; omega
     ·refine (zf9 (zr8 _) (zqn _)).2 fun i j hi hj => ?_
      rw [← hsorted] at hi ⊢
      exact his i j (by rw [List.length_map] at hi; exact hi) hj
    ·refine ⟨by rw [hyg]; show 0 < 2; omega, by rw [hyg]; simp, .inr ⟨g, 0, cap, by rw [hssl], by omega, by simp, fun _ => ?_⟩⟩
     rw [hyg]
     exact ⟨rfl, by simp, by simp⟩
 ·cases hb
end
end Go.Ev
set_option linter.unusedVariables false
set_option linter.unusedSimpArgs false
set_option linter.unusedSectionVars false
namespace Go.Ev
open Go.Shelf Go.RowKit Go.Lib Go.Sort Go.Proofs Go.Maps
open Go.WideElems (rd rg rg_of)
def zk7 (l : List Int) : List Int := l.mergeSort fun a b => decide (a ≤ b)
theorem zis (l : List Int) : (zk7 l).length = l.length := List.length_mergeSort l
theorem zr6 {x : Cx} {r off n : Nat} {t : Bool} {v : Value} (h : RepC x (.own r off n t) v) : v.oneCell' = true := by
 obtain ⟨_, _, ⟨rfl, _⟩ | ⟨b, o, cap, rfl, _⟩⟩ := h <;> rfl
section
variable {P : Program} {ρk ρs : Ren}
theorem zsI {H : Type} {k : TypeId} (hk : P.underlying k = some (.int .i64)) {w : World} {ok : Nat → Prop} {va : Bool} : ∀ {ents : List (List PV × List PV)} {es : List MapEntry} {ks : List Int}, zdI w ok (.int .i64) va ents es → ents.map (·.1) = ks.map (fun k => [PV.int .i64 k]) → (∀ a ∈ ks, -9223372036854775808 ≤ a ∧ a ≤ 9223372036854775807) →
  es.map (·.key) = ks.map (Value.int .i64) ∧ (∀ e ∈ es, ∃ a, rd P k (fun _ => some ((.lit (.bool false) : DataW H), [])) e = some (.int .i64 a, .lit (.bool false))) ∧ es.map (rg P k (fun _ => some ((.lit (.bool false) : DataW H), []))) = ks.map fun a => (.int .i64 a, .lit (.bool false))
 | [], [], [], _, _, _ => ⟨rfl, by simp, rfl⟩
 | [], [], _ :: _, _, h, _ => by simp at h
 | [], _ :: _, _, h, _, _ => h.elim
 | _ :: _, [], _, h, _, _ => h.elim
 | _ :: _, _ :: _, [], _, h, _ => by simp at h
 | e :: ents, m :: es, a :: ks, h, he, hw => by
  simp only [List.map_cons, List.cons.injEq] at he
  obtain ⟨h1, h2, h3⟩ := zsI (H := H) hk h.2 he.2 (fun b hb => hw b (by simp [hb]))
  obtain ⟨_, ⟨cs, hcs, hsz, hps⟩, _⟩ := h.1
  rw [he.1] at hps
  simp only [zbx, RepP] at hps
  obtain ⟨⟨v, hv, rfl⟩, _⟩ := hps
  simp only [KK.ag, Bool.false_eq_true, if_false] at hcs
  subst hcs
  have hkey : m.key = .int .i64 a := by simpa using hv
  have hwf : (Lit.int .i64 a).wf = true := by
   have := hw a (by simp)
   simp [Lit.wf, IntKind.min, IntKind.max, IntKind.bits, IntKind.signed]
   omega
  have hrd : rd P k (fun _ => some ((.lit (.bool false) : DataW H), [])) m = some (.int .i64 a, .lit (.bool false)) := by
   unfold Go.WideElems.rd
   rw [hkey, keyOf_int_mk hk hwf]
   rfl
  refine ⟨by simp [h1, hkey], fun e' he' => ?_, by simp only [List.map_cons]; rw [rg_of hrd, h3]⟩
  rcases List.mem_cons.1 he' with rfl | he'
  ·exact ⟨a, hrd⟩
  ·exact h2 e' he'
theorem zur {H : Type} (ks : List Int) : (intKeys (.map ((ks.map fun a => ((.int .i64 a : Lit), (.lit (.bool false) : DataW H))).foldr DataW.insert []))).Perm ks := by
 have h := WideShapes.sorted_perm (ks.map fun a => ((.int .i64 a : Lit), (.lit (.bool false) : DataW H)))
 have h2 := h.map fun p => intOf p.1
 simpa [intKeys, intOf, Function.comp_def] using h2
set_option maxHeartbeats 2000000 in
theorem Runs.sortedInts (Lk : SlLaysZI.n7 P ρk) (Ls : SlLaysZI.n6 P ρs) (hb : zjA P (ρs.f 6) = true)
  (ents : List (List PV × List PV)) (va : Bool) (ks : List Int) (hks : ents.map (·.1) = ks.map (fun k => [PV.int .i64 k])) (hnd : ks.Nodup) (hwf : ∀ a ∈ ks, -9223372036854775808 ≤ a ∧ a ≤ 9223372036854775807) (hlen : ks.length ≤ 536870912)
  (hsort : AnyZI.SortsIn P ρs Fence.wide 5) (e9 : ∀ args w, (callFunc (ρs.f 9) args).run P w = .ok (.enter (ρs.f 9) args) w) (ht : ρs.t 26 = ρk.t 26) :
  Runs P (ρs.f 6) [.one (.fn (ρk.f 10) [.ref 0 0])] [[.mp 1], [.maph (.int .i64) va ents []]] [] ([.one (.own 0 0 ks.length false)], [[.mp 1], [.maph (.int .i64) va ents []]], [.ints .i64 (zk7 ks)]) := by
 unfold zjA at hb
 split at hb
 ·rename_i fn hfn
  simp only [Bool.and_eq_true, Bool.not_eq_true'] at hb
  obtain ⟨c0, hc0⟩ := Option.isSome_iff_exists.1 hb.1
  refine ⟨⟨fn, c0, hfn, hc0, hb.2⟩, rfl, Nat.le_refl _, fun x vals hgd hs hu hr => ?_⟩
  clear hb hfn hc0
  match vals, hr with
  | [v0], hr =>
   obtain ⟨⟨_, vs, hv0, hcap⟩, _⟩ := hr
   subst hv0
   obtain ⟨hU0, hS0, hO0⟩ := hs.obj 0 [.mp 1] rfl
   obtain ⟨hU1, hS1, hO1⟩ := hs.obj 1 [.maph (.int .i64) va ents []] rfl
   obtain ⟨cc, e0, fr0, hh0, hn0, hrl0⟩ := hO0.plain rfl
   obtain ⟨es, clock, hb1, hes, hborn, hpw, _⟩ := hO1.map
   have hcc : cc = #[.map (some (x.g.ob 1))] := by
    apply Array.ext'
    match cc.toList, hrl0 with
    | [u], h => rw [h.1.2.2]
   subst hcc
   have hvs : vs = #[.pointer (some ⟨x.g.ob 0, 0, none⟩)] := by
    apply Array.ext'
    match vs.toList, hcap with
    | [u], h => rw [h.1.2]
   subst hvs
   obtain ⟨hkeys, hreads, hrgs⟩ := zsI (H := Unit) Lk.t26 hes hks hwf
   have hsz : es.size = ks.length := by have := congrArg List.length hkeys; simpa using this
   have hknd : es.toList.Pairwise (fun a b => a.key ≠ b.key) := by
    have : (es.toList.map (·.key)).Nodup := by
     rw [hkeys]
     exact List.pairwise_map.2 (hnd.imp fun h e => h (by simpa using e))
    exact List.pairwise_map.1 this
   have hown : x.w.ownsMap P (ρk.t 26) (fun _ => some ((.lit (.bool false) : DataW Unit), [])) (x.g.ob 1) es.size (.map ((ks.map fun a => ((.int .i64 a : Lit), (.lit (.bool false) : DataW Unit))).foldr DataW.insert [])) := by
    refine ⟨es, clock, hb1, ⟨?_, ?_, fun e he => ?_⟩, Nat.le_refl _, by rw [hrgs]⟩
    ·rw [hsz]; exact Nat.le_trans hlen (by decide)
    ·exact (MapKept.stamped_iff es clock).2 ⟨hborn, List.pairwise_map.2 hpw, hknd⟩
    ·obtain ⟨a, ha⟩ := hreads e he
     exact ⟨_, ha⟩
   have hsize : Maps.size (.map ((ks.map fun a => ((.int .i64 a : Lit), (.lit (.bool false) : DataW Unit))).foldr DataW.insert [])) = ks.length := by
    have := (WideShapes.sorted_perm (ks.map fun a => ((.int .i64 a : Lit), (.lit (.bool false) : DataW Unit)))).length_eq
    rw [Maps.size_eq, this]; simp
   have hperm := zur (H := Unit) ks
   generalize hD : (.map ((ks.map fun a => ((.int .i64 a : Lit), (.lit (.bool false) : DataW Unit))).foldr DataW.insert []) : DataW Unit) = D0 at hown hsize hperm
   have hlt0 : x.g.ob 0 < x.w.heap.size := hs.Slt _ hS0
   have hlt1 : x.g.ob 1 < x.w.heap.size := hs.Slt _ hS1
   have hne01 : x.g.ob 0 ≠ x.g.ob 1 := fun h => by have := hs.injO 0 1 _ _ rfl rfl h; cases this
   have hcell : x.w.cell? ⟨x.g.ob 0, 0, none⟩ = some (.map (some (x.g.ob 1))) := by
    unfold World.cell?
    simp [hh0]
   have hseq : SeqGives Fence.wide (6 - 1 - 1 - 1) P (ρk.f 10) #[.pointer (some ⟨x.g.ob 0, 0, none⟩)] encZ (fun ss => ss.Perm (intKeys D0)) (Maps.size D0) x.w :=
    AnyZI.keys_gives (ρ := ρk) { Lk with } Fence.wide (6 - 1 - 1 - 1) trivial rfl (by omega) (x.g.ob 0) (x.g.ob 1) es.size D0 x.w hlt0 hcell hown
   rw [hsize] at hseq
   have eg : ∀ args w, (callFunc (ρk.f 10) args).run P w = .ok (.enter (ρk.f 10) args) w := Lk.f10.enters rfl
   refine (callsIn_wide (n := 6)).1 ?_
   refine (AnyZI.sorted_in (ρ := ρs) { Ls with } Fence.wide 6 trivial trivial trivial trivial rfl (by omega) hsort e9 (ρk.f 10) #[.pointer (some ⟨x.g.ob 0, 0, none⟩)] trivial eg _ ks.length (Nat.le_trans hlen (by decide)) (by omega) x.w (by exact hseq)).mono ?_
   rintro e w' ⟨v, ss, rfl, hS, hrow, hnil, hb2⟩
   have hss : ss.Perm ks := hS.trans hperm
   have hssl : ss.length = ks.length := hss.length_eq
   have hsorted : zk7 ss = zk7 ks := mergeSort_of_perm_i hss
   have hend : ((v = .slice none 0 0 ∨ ∃ g, v = .slice (some ⟨g, 0, none⟩) 0 0) ∧ ss.length = 0 ∨ ∃ g cap c e fr, v = .slice (some ⟨g, 0, none⟩) ss.length cap ∧ x.w.heap.size ≤ g ∧ g < w'.heap.size ∧ ss.length ≤ cap ∧ w'.heap[g]? = some (.cells c e fr) ∧ NoFr c fr ∧ c.size = cap ∧ ∀ i, i < (zk7 ss).length → c[i]? = some (.int .i64 ((zk7 ss).getD i 0))) := by
    rcases hrow.2 with ⟨rfl, h0⟩ | ⟨g, cap, cur, rfl, hg, hcur, hcap, hmax, hcs, htk⟩
    ·exact .inl ⟨.inl rfl, h0⟩
    ·refine .inr ⟨g, cap, cur, _, (0, 0), rfl, hg, (Array.getElem?_eq_some_iff.1 hcur).1, hcap, hcur, .inl rfl, by rw [hcs, Nat.mul_one], fun i hi => ?_⟩
     have hi2 : i < ss.length := by rw [zis] at hi; exact hi
     have h1 : (cur.toList.take (ss.length * 1))[i]? = ((zk7 ss).map encZ)[i]? := by rw [htk]; rfl
     rw [List.getElem?_take_of_lt (by omega)] at h1
     rw [← Array.getElem?_toList, h1]
     simp [List.getD, hi, encZ]
   have one : ∀ {r : Nat} {rb : RowB}, lkup r (zaC 0 ([Row.ints .i64 (zk7 ks)].map RowB.live)) = some rb → r = 0 ∧ rb = .live (.ints .i64 (zk7 ks)) := by
    intro r rb hl
    simp only [zaC, List.map_cons, List.map_nil] at hl
    rw [zao] at hl
    split at hl
    ·rename_i e; cases hl; exact ⟨e, rfl⟩
    ·cases hl
   have fin : ∀ (g rc : Nat) (S : Nat → Prop), (∀ b, S b → x.w.heap.size ≤ b ∧ b < w'.heap.size) →
     (∀ y : Cx, y.w = w' → y.g = { ob := x.g.ob, rb := fun _ => g, rs := fun _ => 1, rc := fun _ => rc, rl := fun _ => ks.length, U := fun n => n < 2 } → (y.S = fun b => x.S b ∨ S b) → y.B = x.B → ((y.S g ∧ zg0 y 0 (.ints .i64 (zk7 ks)) ∧ x.w.heap.size ≤ g) ∨ Vir y 0 (.ints .i64 (zk7 ks))) ∧ RepC y (.own 0 0 ks.length false) v) →
     ∃ v1 y, Ending.returned v = Ending.returned v1 ∧ y.w = w' ∧ Ext x y ∧ (∀ o, o < 2 → y.g.ob o = x.g.ob o) ∧ Sto y (zaC 0 [[.mp 1], [.maph (.int .i64) va ents []]]) (zaC 0 ([Row.ints .i64 (zk7 ks)].map RowB.live)) ∧ RepS y (zge [.one (.own 0 0 ks.length false)]) v1 := by
    intro g rc S hS hyp
    let y : Cx := { w := w', g := { ob := x.g.ob, rb := fun _ => g, rs := fun _ => 1, rc := fun _ => rc, rl := fun _ => ks.length, U := fun n => n < 2 }, S := fun b => x.S b ∨ S b, B := x.B }
    obtain ⟨hrw, hrep⟩ := hyp y rfl rfl rfl rfl
    have hx : Ext x y := by
     exact ⟨hb2.os, hb2.tape, hb2.output, hb2.size, fun b hlt _ => hb2.block b hlt, fun b hb => hb.imp id fun h => (hS b h).1, rfl, fun h => by cases h⟩
    have hblk : ∀ b, x.S b → w'.heap[b]? = x.w.heap[b]? := fun b hb => hb2.block b (hs.Slt b hb)
    have two : ∀ {o : Nat} {l : Obj}, lkup o (zaC 0 [[CV.mp 1], [.maph (.int .i64) va ents []]]) = some l → (o = 0 ∧ l = [.mp 1]) ∨ (o = 1 ∧ l = [.maph (.int .i64) va ents []]) := by
     intro o l hl
     simp only [zaC] at hl
     rw [zao] at hl
     split at hl
     ·rename_i e; cases hl; exact .inl ⟨e, rfl⟩
     ·rw [zao] at hl
      split at hl
      ·rename_i e; cases hl; exact .inr ⟨e, rfl⟩
      ·cases hl
    refine ⟨v, y, rfl, rfl, hx, fun o _ => rfl, ⟨?_, ?_, ?_, ?_, ?_, ?_, ?_, ?_, ?_⟩, ⟨zr6 hrep, hrep⟩⟩
    ·intro o l hl
     rcases two hl with ⟨rfl, rfl⟩ | ⟨rfl, rfl⟩
     ·exact ⟨by show 0 < 2; omega, .inl hS0, .inl ⟨_, e0, fr0, (hblk _ hS0).trans hh0, hn0, ⟨rfl, by show 1 < 2; omega, rfl⟩, trivial⟩⟩
     ·refine ⟨by show 1 < 2; omega, .inl hS1, .inr ?_⟩
      exact zrD.of (fun _ hb => hx.okP hb) (fun b hb => hx.blk b hb.1 hb.2.1) (hblk _ hS1) hO1.map
    ·intro r rw' hl
     obtain ⟨rfl, h3⟩ := one hl
     cases h3
     exact ⟨by show 0 < 2; omega, hrw.imp (fun h => ⟨h.1, h.2.1⟩) id⟩
    ·intro r rw' hl
     obtain ⟨_, h3⟩ := one hl
     cases h3
    ·intro o o' l l' h1 h2 he
     exact hs.injO o o' l l' h1 h2 he
    ·intro r r' rw1 rw2 h1 h2 _ _ _
     obtain ⟨rfl, _⟩ := one h1
     obtain ⟨rfl, _⟩ := one h2
     rfl
    ·intro o r l rw' h1 h2 hnv
     obtain ⟨rfl, h3⟩ := one h2
     cases h3
     have hg := (hrw.resolve_right hnv).2.2
     have : x.g.ob o < x.w.heap.size := by rcases two h1 with ⟨rfl, _⟩ | ⟨rfl, _⟩ <;> assumption
     show x.g.ob o ≠ g
     omega
    ·intro b hb
     rcases hb with hb | hb
     ·exact Nat.lt_of_lt_of_le (hs.Slt b hb) hb2.size
     ·exact (hS b hb).2
    ·intro b hb
     exact Nat.lt_of_lt_of_le (hs.Blt b hb) hb2.size
    ·intro b hb hB
     rcases hb with hb | hb
     ·exact hs.SB b hb hB
     ·have := hs.Blt b hB; have := (hS b hb).1; omega
   rcases hend with ⟨hv, hl0⟩ | ⟨g, cap, c, e, fr, rfl, hg, hglt, hcap, hh, hn, hcs, his⟩
   ·refine fin 0 0 (fun _ => False) (fun b h => h.elim) fun y hyw hyg hyS hyB => ⟨.inr ?_, ?_⟩
    ·have hk0 : ks.length = 0 := by rw [← hssl]; exact hl0
     refine ⟨by rw [hyg], by rw [hyg]; rfl, by rw [hyg]; simp only [Row.len, zis], by simp only [Row.len, zis]; exact hk0, by simp [Row.esz]⟩
    ·have hk0 : ks.length = 0 := by rw [← hssl]; exact hl0
     refine ⟨by rw [hyg]; show 0 < 2; omega, by rw [hyg]; simp, ?_⟩
     rcases hv with rfl | ⟨g, rfl⟩
     ·exact .inl ⟨rfl, hk0⟩
     ·exact .inr ⟨g, 0, 0, by rw [hk0], by omega, fun _ => hk0.symm, fun h => by omega⟩
   ·refine fin g cap (fun b => b = g) (fun b h => by rw [h]; exact ⟨hg, hglt⟩) fun y hyw hyg hyS hyB => ⟨.inl ⟨?_, ?_, hg⟩, ?_⟩
    ·rw [hyS]; exact .inr rfl
    ·refine ⟨c, e, fr, by rw [hyw, hyg]; exact hh, hn, by rw [hyg]; exact hcs, by rw [hyg]; rfl, by rw [hyg]; simp only [Row.len, zis], ?_, fun i hi => ?_⟩
     ·simp only [Row.len, Row.esz, zis, Nat.mul_one]; omega
     ·rw [← hsorted] at hi ⊢
      exact his i hi
    ·refine ⟨by rw [hyg]; show 0 < 2; omega, by rw [hyg]; simp, .inr ⟨g, 0, cap, by rw [hssl], by omega, by simp, fun _ => ?_⟩⟩
     rw [hyg]
     exact ⟨rfl, by simp, by simp⟩
 ·cases hb
end
end Go.Ev
