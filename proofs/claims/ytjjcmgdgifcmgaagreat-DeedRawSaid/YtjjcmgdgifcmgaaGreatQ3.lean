/- The evaluator by value, and that it is sound; contracts by value. No program in sight. -/
import Derived.Test.YtjjcmgdgifcmgaaGreatQ2
import Derived.ScopeJumps
import Derived.KernelRfl
import Derived.IntWalk
import Derived.WalkKit
import Derived.ProofKit
import Derived.OpenShut
import Derived.ShutString
import Derived.ChangeOld
import Derived.Below
import Derived.SizedLaws
import Derived.DataShut
import Derived.Sort.Grow
import Derived.Deep.Draws
import Derived.Shelf.SlLaysN
import Derived.Shelf.RegionOpenPlain
import Derived.Deep.LoopGhost
import Derived.Deep.RegionLaw
import Derived.Lib.Walk
import Derived.Sort.WalkB12
import Derived.Sort.EncStr
import Derived.Lib.SliceRun
import Derived.Lib.SlicesDelete
import Derived.Shelf.SlSortCmp.NoneTotal
import Derived.Shelf.SlBodiesZ
import Derived.Shelf.SlGeneric
import Derived.Lib.SlKeysI
import Derived.Shelf.SlIter.Collect
import Derived.RangeFuncBound
set_option linter.unusedSectionVars false
namespace Go.Ev
variable [DLaw]
set_option linter.unusedVariables false
set_option linter.unusedSimpArgs false
def zjk (x : Cx) (w : World) : Prop := ∀ b, x.okB b → w.heap[b]? = x.w.heap[b]?
theorem zjk.refl (x : Cx) : zjk x x.w := fun _ _ => rfl
theorem zjk.of_ext {x y : Cx} (h : Ext x y) {w : World} (hw : zjk y w) : zjk x w := fun b hb => by
 rw [hw b (h.okB hb)]
 exact h.blk b hb.1 hb.2
def zss {R : Type} (P : Program) (x : Cx) (e : Sem Next) (k : SV → Ans R) (r : R) : Prop := ∃ u sv, (∀ w, zjk x w → e.run P w = .ok (.value u) w) ∧ RepS x sv u ∧ Says (k sv) r
theorem zcx.steady {R : Type} {P : Program} {x : Cx} {e : Sem Value} {k : SV → Ans R} {r : R} (h : zcx P x e k r) : zss P x (do pure (.value (← e))) k r := by
 obtain ⟨u, sv, hr, hv, h⟩ := h
 exact ⟨u, sv, fun w _ => by simp [hr w], hv, h⟩
theorem ztB {R : Type} {P : Program} {x : Cx} {t : TypeId} {av : SV} {s : St} {v : Value} {k : SV → Ans R} {r : R} (hs : Sto x s.objs s.rows) (hv : RepS x av v)
  (hk : (∃ cells off, av = pone (.imm cells off)) ∨ ∃ p i fo, av = cone (.iadr p i fo)) (h : Says (zmx P t av s k) r) :
  zss P x (do pure (.value (← Instr.loadAt t v))) k r := by
 obtain ⟨ti, ht, h0⟩ := zam h
 clear h
 obtain ⟨c, hcc, h⟩ := zdf h0
 clear h0
 rw [hcc] at hv hk
 clear hcc
 have fin : ∀ {b o : Nat} {cs : List CV} {kk : AV → Ans R}, x.okB b → cs.length = ti.size → zjl x b o cs → Says (toAv ti.agg cs kk) r → v = .pointer (some ⟨b, o, none⟩) →
   ∃ u a, (∀ w, zjk x w → (Instr.loadAt t v).run P w = .ok u w) ∧ RepA x a u ∧ Says (kk a) r := by
  intro b o cs kk hb hn hc h hv
  obtain ⟨vs, hr, hcell⟩ := hc
  obtain ⟨a, hk, ha, h1⟩ := zlM hr h
  refine ⟨_, a, fun w hw => ?_, ha, hk⟩
  rw [hv]
  simp only [Instr.loadAt, Instr.sureAddr, pure_bind]
  refine zos ht (by rw [← hn, zb0 hr]) h1 (fun j v hj => ?_)
  rw [World.cell?_of_block (a := ⟨b, o + j, none⟩) (hw b hb)]
  exact hcell j v hj
 have done : (∃ u a, (∀ w, zjk x w → (Instr.loadAt t v).run P w = .ok u w) ∧ RepA x a u ∧ Says (k (.av a)) r) → zss P x (do pure (.value (← Instr.loadAt t v))) k r := by
  rintro ⟨u, a, h1, h2, h3⟩
  exact ⟨u, .av a, fun w hw => by simp [h1 w hw], h2, h3⟩
 obtain ⟨h1, hc⟩ := hv
 rcases hk with ⟨cells, off, hk⟩ | ⟨p, i, fo, hk⟩
 ·cases hk
  simp only [RepC, RepP] at hc
  obtain ⟨b, o, hv, hb, hcells⟩ := hc
  obtain ⟨cs, hn, hca, h⟩ := zj5 hcells h
  exact done (fin (Cx.okB_of_okP hb) hn hca h hv)
 ·cases hk
  obtain ⟨b, o, n, cap, hp, hi, hv⟩ := hc
  obtain ⟨rw, tt, h, hsl, hcase⟩ := zgV (r0 := .recs ti.size []) rfl (fun f => by simp [zbb, za4]) hp h
  rcases hsl with ⟨hx, _⟩ | ⟨b', o', cap', sp', hv', hle, _, hcell⟩
  ·cases hx
  ·obtain ⟨rfl, rfl, rfl, rfl⟩ : b' = b ∧ o' = o ∧ rw.len = n ∧ cap' = cap := by cases hv'; exact ⟨rfl, rfl, rfl, rfl⟩
   obtain ⟨cs, hn, hca, h⟩ := zox (hcell (by omega)).2.2 hi h
   have he : p.esz = rw.esz := by
    rcases hcase with rfl | ⟨rfl, _⟩
    ·cases rw <;> rfl
    ·simp [Row.len] at hi
   exact done (fin (hcell (by omega)).2.1 hn hca h (by rw [hv, he]))
theorem zsi {R : Type} {V : Env} {x : Cx} {s : St} {a : Act} {o : Oper} {nm : Nat → Nat} {sc : List Ev} {k : List Ev → SV → St → Ans R} {r : R} (hs : Sto x s.objs s.rows) (hsl : zi4 x s.slots a) (hst : zet V.P o.op s = true)
  (h : Says (zvf V o.op nm s sc k) r) : ∃ sc', zss V.P x (execOp a.eval o) (fun sv => k sc' sv s) r := by
 obtain ⟨dst, op, ty, pos, after, guard⟩ := o
 simp only at h hst
 cases op
 case move y =>
  obtain ⟨v, hv, h1⟩ := zam h
  exact ⟨sc, a.eval y, v, fun w _ => by simp [execOp], zaz hsl hv, h1⟩
 case assign y =>
  obtain ⟨v, hv, h1⟩ := zam h
  exact ⟨sc, a.eval y, v, fun w _ => by simp [execOp], zaz hsl hv, h1⟩
 case pick c y z =>
  obtain ⟨v, hv, h1⟩ := zam h
  obtain ⟨b, hb, h2⟩ := zj6 h1
  have hc := zaz hsl hv
  rw [hb] at hc
  have hc := zhz hc
  cases b with
  | true =>
   obtain ⟨v, hv, h3⟩ := zam h2
   exact ⟨sc, a.eval y, v, fun w _ => by simp [execOp, hc, asBool], zaz hsl hv, h3⟩
  | false =>
   obtain ⟨v, hv, h3⟩ := zam h2
   exact ⟨sc, a.eval z, v, fun w _ => by simp [execOp, hc, asBool], zaz hsl hv, h3⟩
 case nilCheck y =>
  obtain ⟨v, hv, h1⟩ := zam h
  obtain ⟨c, hc, h2⟩ := zdf h1
  have hr := zaz hsl hv
  rw [hc] at hr
  have hp : ((∃ b, a.eval y = .pointer (some b)) ∨ ∃ f vs, a.eval y = .func (.func f) #[] vs) ∧ Says (k sc v s) r := by
   split at h2
   ·have := hr.2
    simp only [RepC, RepP] at this
    obtain ⟨b, o, hv, _⟩ := this
    exact ⟨.inl ⟨_, hv⟩, h2⟩
   ·exact ⟨.inl ⟨_, hr.2.2⟩, h2⟩
   ·obtain ⟨vs, hv, _⟩ := hr.2
    exact ⟨.inr ⟨_, _, hv⟩, h2⟩
   ·exact (zal h2).elim
  obtain ⟨hb, h3⟩ := hp
  exact ⟨sc, a.eval y, v, fun w _ => by rcases hb with ⟨b, hb⟩ | ⟨f, vs, hb⟩ <;> simp [execOp, hb], zaz hsl hv, h3⟩
 case build t ps =>
  obtain ⟨l, hl, h1⟩ := zam h
  obtain ⟨h2, h3⟩ := znd hsl hl
  have e1 : ((ps.map fun z => (z.1, a.eval z.2)).toList.map (·.1)) = ps.toList.map (·.1) := by simp
  have e2 : ((ps.map fun z => (z.1, a.eval z.2)).toList.map (·.2)) = ps.toList.map fun z => a.eval z.2 := by simp
  exact ⟨sc, (zpA (P := V.P) (vs := ps.map fun z => (z.1, a.eval z.2)) (by rw [h2, e1]) (by rw [e2]; exact h3) h1).steady⟩
 case load t y =>
  obtain ⟨v, hv, h0⟩ := zam h
  obtain ⟨sc', h1⟩ := zpF h0
  refine ⟨sc', ztB (P := V.P) hs (zaz hsl hv) ?_ h1⟩
  simp only [zet, hv] at hst
  split at hst
  ·rename_i c o he; cases he; exact .inl ⟨_, _, rfl⟩
  ·rename_i p i fo he; cases he; exact .inr ⟨_, _, _, rfl⟩
  ·cases hst
 case binOp op t y z t2 =>
  obtain ⟨v, hv, h1⟩ := zam h
  cases hc : zqR z with
  | true =>
   rw [hc] at h1
   have hz : z = .const .nilIface := by
    unfold zqR at hc
    split at hc
    ·rfl
    ·cases hc
   subst hz
   simp only [cond_true] at h1
   exact ⟨sc, (zrw y (zaz hsl hv) h1).steady⟩
  | false =>
   rw [hc] at h1
   simp only [cond_false] at h1
   obtain ⟨u, hu, h2⟩ := zam h1
   exact ⟨sc, (zs8 y z (zaz hsl hv) (zaz hsl hu) h2).steady⟩
 case unOp op t y =>
  obtain ⟨v, hv, h1⟩ := zam h
  exact ⟨sc, (zuO (zaz hsl hv) h1).steady⟩
 case convert b c y =>
  obtain ⟨v, hv, h1⟩ := zam h
  obtain ⟨hsrc, h2⟩ := zar h1
  obtain ⟨ds, hds⟩ := Option.isSome_iff_exists.1 hsrc
  simp only [zet] at hst
  split at hst
  ·rename_i kd hdst
   simp only [hdst] at h2
   obtain ⟨k0, n, ha, h3⟩ := zdz h2
   have hr := zaz hsl hv
   rw [ha] at hr
   have he := zfg hr
   refine ⟨sc, zcx.steady (e := convert b c (a.eval y)) (.int h3 (fun _ => ?_))⟩
   rw [he]
   simp [convert, run_underlying hds, run_underlying hdst, Conv.intToInt]
  ·cases hst
 case slice t y lo hi mx =>
  obtain ⟨v, hv, h1⟩ := zam h
  obtain ⟨lo', hlo, h2⟩ := zam h1
  obtain ⟨hi', hhi, h3⟩ := zam h2
  obtain ⟨mx', hmx, h4⟩ := zam h3
  exact ⟨sc, (zpH hs (zaz hsl hv) (zj2 hsl hlo) (zj2 hsl hhi) (zj2 hsl hmx) h4).steady⟩
 case fieldAddr t y f =>
  obtain ⟨v, hv, h1⟩ := zam h
  exact ⟨sc, (zkv (zaz hsl hv) h1).steady⟩
 case field t y f =>
  obtain ⟨v, hv, h1⟩ := zam h
  exact ⟨sc, (zpB (zaz hsl hv) h1).steady⟩
 case indexAddr t y i =>
  obtain ⟨v, hv, h1⟩ := zam h
  obtain ⟨u, hu, h2⟩ := zam h1
  exact ⟨sc, (zkw hs (zaz hsl hv) (zaz hsl hu) h2).steady⟩
 case index t y i =>
  obtain ⟨v, hv, h1⟩ := zam h
  obtain ⟨u, hu, h2⟩ := zam h1
  obtain ⟨hb, h3⟩ := zar h2
  exact ⟨sc, (zpD (zaz hsl hv) (zaz hsl hu) hb h3).steady⟩
 case extract y i =>
  obtain ⟨v, hv, h1⟩ := zam h
  have hr := zaz hsl hv
  split at h1
  ·rename_i l
   obtain ⟨av, hav, h2⟩ := zam h1
   obtain ⟨vs, hvs, hl⟩ := hr
   have gen : ∀ {l : List AV} {us : List Value} {i : Nat}, ze0 x l us → l[i]? = some av → ∃ u, us[i]? = some u ∧ RepA x av u := by
    intro l
    induction l with
    | nil => intro us i _ h; simp at h
    | cons b l ih =>
     intro us i hh h
     cases us with
     | nil => exact hh.elim
     | cons u us =>
      cases i with
      | zero => simp at h; subst h; exact ⟨u, by simp, hh.1⟩
      | succ i => simp at h; obtain ⟨w, hw, hw2⟩ := ih hh.2 h; exact ⟨w, by simpa using hw, hw2⟩
   obtain ⟨u, hu, hra⟩ := gen hl hav
   have hu2 : vs[i]? = some u := by simpa using hu
   exact ⟨sc, zcx.steady (e := Instr.extract (a.eval y) i) (.av h2 (fun _ => by simp [Instr.extract, hvs, hu2]) hra)⟩
  ·exact (zal h1).elim
 case call c =>
  obtain ⟨callee, args, ts⟩ := c
  cases callee with
  | value f => simp [zet] at hst
  | invoke f m => simp [zet] at hst
  | builtin b =>
   obtain ⟨xs, hxs, h1⟩ := zam h
   have hx := ziP hsl hxs
   obtain ⟨cs, hex⟩ : ∃ cs, execOp a.eval ⟨dst, .call ⟨.builtin b, args, ts⟩, ty, pos, after, guard⟩ = builtin b ts ty cs (args.map a.eval) := by
    simp only [execOp, resolve, invoke, pure_bind]
    exact ⟨_, rfl⟩
   rw [hex]
   unfold zlj at h1
   split at h1
   ·rename_i t y hts
    cases hl : args.toList.map a.eval with
    | nil => rw [hl] at hx; exact hx.elim
    | cons v vs =>
     rw [hl] at hx
     cases vs with
     | cons => exact hx.2.elim
     | nil =>
      have e1 : args.map a.eval = #[v] := by apply Array.ext'; simpa using hl
      have e2 : ts = #[t] := by apply Array.ext'; simpa using hts
      rw [e1, e2]
      split at h1
      ·rename_i kt et hm
       simp [zet, hts, hm] at hst
      ·exact ⟨sc, (zs9 (ty := ty) hx.1 h1).steady⟩
   ·simp [zet] at hst
   ·simp [zet] at hst
   ·simp [zet] at hst
   ·simp [zet] at hst
   ·rename_i y l
    cases hl : args.toList.map a.eval with
    | nil => rw [hl] at hx; exact hx.elim
    | cons v vs =>
     rw [hl] at hx
     have := zjN (P := V.P) (g := Builtin.min2) zrv hx.1 hx.2 h1
     exact ⟨sc, zcx.steady (e := Builtin.min_ ts ty (args.map a.eval)) (by simpa [Builtin.min_, hl] using this)⟩
   ·rename_i y l
    cases hl : args.toList.map a.eval with
    | nil => rw [hl] at hx; exact hx.elim
    | cons v vs =>
     rw [hl] at hx
     have := zjN (P := V.P) (g := Builtin.max2) zru hx.1 hx.2 h1
     exact ⟨sc, zcx.steady (e := Builtin.max_ ts ty (args.map a.eval)) (by simpa [Builtin.max_, hl] using this)⟩
   ·exact (zal h1).elim
 all_goals simp [zet] at hst
end Go.Ev
set_option linter.unusedSectionVars false
namespace Go.Ev
variable [DLaw]
set_option linter.unusedVariables false
set_option linter.unusedSimpArgs false
section
variable {P : Program} {ops : Array Oper} {Q : Exit → Act → World → Prop} {md : Region.Mode}
def zpN (P : Program) (md : Region.Mode) (ops : Array Oper) (Q : Exit → Act → World → Prop) : Nat → Array Bool → (World → Prop) → Act → World → Prop
 | 0, listed, _, a, w => Region.ready md ops listed = [] ∧ Q .normal a w
 | fuel + 1, listed, S, a, w =>
  (Region.ready md ops listed = [] → Q .normal a w) ∧
  ∀ i ∈ Region.ready md ops listed, wpOp P ops Q i (fun a' w' => ∃ S' : World → Prop, (∀ v, S' v → S v) ∧ S' w' ∧ zpN P md ops Q fuel (listed.setIfInBounds i true) S' a' w') a w
theorem zpO : ∀ (fuel : Nat) (listed : Array Bool) (S : World → Prop) (a : Act) (w : World), zpN P md ops Q fuel listed S a w → wpAny P md ops Q fuel listed a w
 | 0, _, _, _, _, h => h
 | fuel + 1, _, S, _, _, h => ⟨h.1, fun i hi => wpOp_mono (fun a' w' ⟨S', _, _, h'⟩ => zpO fuel _ S' a' w' h') (h.2 i hi)⟩
theorem YieldsIf.weak {S S' : World → Prop} {o : Oper} {v : Value} {a : Act} (h : ∀ w, S' w → S w) (hy : YieldsIf P ops S o v a) : YieldsIf P ops S' o v a :=
 hy.imp (fun ⟨h1, h2⟩ => ⟨h1, fun w hw => h2 w (h w hw)⟩) id
theorem zrA {i : Nat} {oi : Oper} {v : Value} (hi : ops[i]? = some oi) (hsel : ∀ (j : Nat) (o : Oper) cs b, ops[j]? = some o → o.op ≠ .select cs b)
  (hQ : ∀ c a w, Q (.panic c) (a.put oi.dst v) w → Q (.panic c) a w) :
  ∀ (fuel : Nat) (listed : Array Bool) (S : World → Prop) (a : Act) (w : World),
   (∀ j oj, ops[j]? = some oj → j ≠ i → listed.getD j true = false → (∀ e ∈ oj.after, Region.binds md e = true → e.on ≠ i) → oi.apart ops oj = true) →
   i ∈ Region.ready md ops listed → YieldsIf P ops S oi v a → S w →
   zpN P md ops Q fuel (listed.setIfInBounds i true) S (a.put oi.dst v) w → zpN P md ops Q (fuel + 1) listed S a w := by
 intro fuel
 induction fuel with
 | zero =>
  intro listed S a w _ hr hy hS H
  refine ⟨fun h => (by rw [h] at hr; cases hr), fun j hj => ?_⟩
  by_cases hji : j = i
  ·subst hji; exact hy.wpOp hi hS ⟨S, fun _ h => h, hS, H⟩
  ·have := ready_mono hj hji
   rw [H.1] at this
   cases this
 | succ fuel ih =>
  intro listed S a w hfree hr hy hS H
  refine ⟨fun h => (by rw [h] at hr; cases hr), fun j hj => ?_⟩
  by_cases hji : j = i
  ·subst hji; exact hy.wpOp hi hS ⟨S, fun _ h => h, hS, H⟩
  ·have h1 := H.2 j (ready_mono hj hji)
   obtain ⟨hjun, oj, hoj, hall⟩ := mem_ready.1 hj
   have hnot : ∀ e ∈ oj.after, Region.binds md e = true → e.on ≠ i := fun e he hb heq => by
    have h1 := hall e he hb
    have h0 := (mem_ready.1 hr).1
    rw [heq] at h1
    rcases Nat.lt_or_ge i listed.size with h' | h'
    ·simp [h'] at h0 h1; rw [h0] at h1; cases h1
    ·simp [Array.getElem?_eq_none h'] at h1
   have h2 := wpOp_putIf hoj (hfree j oj hoj hji hjun hnot) (fun cs b => hsel i oi cs b hi) (fun cs b => hsel j oj cs b hoj) hQ hy h1
   have hfree' : ∀ k ok, ops[k]? = some ok → k ≠ i → (listed.setIfInBounds j true).getD k true = false →
     (∀ e ∈ ok.after, Region.binds md e = true → e.on ≠ i) → oi.apart ops ok = true := fun k ok hk hki hun hno => by
    refine hfree k ok hk hki ?_ hno
    by_cases hjk : j = k
    ·subst hjk; exact hjun
    ·rw [getD_set_ne true hjk] at hun; exact hun
   refine wpOp_mono (fun a' w' h3 => ?_) h2
   obtain ⟨hy', S', hw, hS', h4⟩ := h3
   refine ⟨S', hw, hS', ih (listed.setIfInBounds j true) S' a' w' hfree' (ready_mono hr (Ne.symm hji)) (YieldsIf.weak hw hy') hS' ?_⟩
   rw [Array.setIfInBounds_comm _ _ hji]
   exact h4
end
structure Lst (ops : Array Oper) (listed : Array Bool) (done : List Nat) : Prop where
 size : listed.size = ops.size
 is : ∀ i, i < ops.size → listed.getD i true = mem i done
 lt : ∀ i, mem i done = true → i < ops.size
theorem Lst.getF {ops : Array Oper} {listed : Array Bool} {done : List Nat} (h : Lst ops listed done) (i : Nat) : listed.getD i false = mem i done := by
 by_cases hi : i < ops.size
 ·rw [← h.is i hi]
  have : i < listed.size := by rw [h.size]; exact hi
  simp [this]
 ·have h2 : ¬ i < listed.size := by rw [h.size]; exact hi
  have h3 : mem i done = false := by
   cases hm : mem i done with
   | false => rfl
   | true => exact absurd (h.lt i hm) hi
  rw [h3]; simp [Array.getElem?_eq_none (Nat.le_of_not_lt h2)]
theorem zwB {ops : Array Oper} {listed : Array Bool} {done : List Nat} (h : Lst ops listed done) {i : Nat} (hi : i < ops.size) : Lst ops (listed.setIfInBounds i true) (i :: done) := by
 have hl : i < listed.size := by rw [h.size]; exact hi
 refine ⟨by simp [h.size], fun j hj => ?_, fun j hj => ?_⟩
 ·have hm : mem j (i :: done) = (Nat.beq j i || mem j done) := by show (bif Nat.beq j i then true else mem j done) = _; cases Nat.beq j i <;> rfl
  rw [hm]
  by_cases hji : j = i
  ·subst hji
   simp [hl]
  ·rw [getD_set_ne true (Ne.symm hji), h.is j hj]
   have : Nat.beq j i = false := by cases hb : Nat.beq j i with
    | false => rfl
    | true => exact absurd (Nat.eq_of_beq_eq_true hb) hji
   rw [this]; rfl
 ·have hm := mem_iff.1 hj
  rcases List.mem_cons.1 hm with rfl | hm
  ·exact hi
  ·exact h.lt j (mem_iff.2 hm)
theorem zwA (ops : Array Oper) : Lst ops (Array.replicate ops.size false) [] :=
 ⟨by simp, fun i hi => by simp [mem, hi], fun i h => by simp [mem] at h⟩
theorem zjY (m i : Nat) : memM m i = m.testBit i := by
 have e : memM m i = Nat.beq ((m >>> i) &&& 1) 1 := rfl
 have h2 : 1 &&& (m >>> i) = (m >>> i) % 2 := by rw [Nat.and_comm]; exact Nat.and_one_is_mod _
 rw [e, Nat.testBit, h2, Nat.and_one_is_mod]
 rcases Nat.mod_two_eq_zero_or_one (m >>> i) with h | h <;> rw [h] <;> rfl
theorem zk3 {i : Nat} : ∀ {l : List Nat}, memM (mask l) i = mem i l
 | [] => by rw [zjY]; simp [mask, mem]
 | j :: l => by
  have hr := zk3 (i := i) (l := l)
  rw [zjY] at hr ⊢
  have e2 : mask (j :: l) = (1 <<< j) ||| mask l := rfl
  rw [e2, Nat.testBit_or, hr]
  have e3 : (1 <<< j).testBit i = decide (j = i) := by rw [Nat.one_shiftLeft, Nat.testBit_two_pow]
  rw [e3]
  have h3 : mem i (j :: l) = true ↔ (decide (j = i) || mem i l) = true := by
   rw [mem_iff, List.mem_cons, Bool.or_eq_true, decide_eq_true_eq, mem_iff]
   constructor <;> rintro (h | h) <;> first | exact .inl h.symm | exact .inr h
  exact (Bool.eq_iff_iff.2 h3).symm
theorem zlx {j : Nat} : ∀ {l : List Edge}, j ∈ deps l ↔ ∃ e ∈ l, Region.binds .any e = true ∧ e.on = j
 | [] => by simp [deps]
 | e :: l => by
  unfold deps
  cases hb : Region.binds .any e with
  | true =>
   simp only [cond_true, List.mem_cons, zlx (l := l)]
   constructor
   ·rintro (rfl | ⟨e', h1, h2⟩)
    ·exact ⟨e, .inl rfl, hb, rfl⟩
    ·exact ⟨e', .inr h1, h2⟩
   ·rintro ⟨e', rfl | h1, h2⟩
    ·exact .inl h2.2.symm
    ·exact .inr ⟨e', h1, h2⟩
  | false =>
   simp only [cond_false, zlx (l := l), List.mem_cons]
   constructor
   ·rintro ⟨e', h1, h2⟩; exact ⟨e', .inr h1, h2⟩
   ·rintro ⟨e', rfl | h1, h2⟩
    ·rw [hb] at h2; cases h2.1
    ·exact ⟨e', h1, h2⟩
theorem zvt {a b : Nat} : Nat.beq (Nat.land a b) a = true ↔ ∀ i, a.testBit i = true → b.testBit i = true := by
 constructor
 ·intro h i hi
  have e : a &&& b = a := Nat.eq_of_beq_eq_true h
  rw [← e, Nat.testBit_and, Bool.and_eq_true] at hi
  exact hi.2
 ·intro h
  have e : a &&& b = a := by
   apply Nat.eq_of_testBit_eq
   intro i
   rw [Nat.testBit_and]
   cases ha : a.testBit i with
   | false => rfl
   | true => rw [h i ha]; rfl
  rw [show Nat.land a b = a from e]
  exact Nat.beq_refl a
theorem zwi {o : Oper} {done : List Nat} : Nat.beq (Nat.land (zlZ o) (mask done)) (zlZ o) = true ↔ ∀ e ∈ o.after, Region.binds .any e = true → mem e.on done = true := by
 rw [zvt]
 constructor
 ·intro h e he hb
  have h1 : (zlZ o).testBit e.on = true := by
   rw [← zjY, zlZ, zk3, mem_iff, zlx]
   exact ⟨e, by simpa using he, hb, rfl⟩
  have := h e.on h1
  rw [← zjY, zk3] at this
  exact this
 ·intro h i hi
  rw [← zjY, zlZ, zk3, mem_iff, zlx] at hi
  obtain ⟨e, he, hb, rfl⟩ := hi
  rw [← zjY, zk3]
  exact h e (by simpa using he) hb
theorem zr5 {ops : List Oper} {done : List Nat} : ∀ {l : List Oper} {k i : Nat}, i ∈ rdy ops done k l ↔ k ≤ i ∧ mem i done = false ∧ ∃ o, l[i - k]? = some o ∧ ∀ e ∈ o.after, Region.binds .any e = true → mem e.on done = true
 | [], k, i => by simp [rdy]
 | o :: l, k, i => by
  have key : (!(mem k done) && Nat.beq (Nat.land (zlZ o) (mask done)) (zlZ o)) = true ↔ mem k done = false ∧ ∀ e ∈ o.after, Region.binds .any e = true → mem e.on done = true := by
   rw [Bool.and_eq_true, Bool.not_eq_true', zwi]
  unfold rdy
  simp only [zk3]
  have hrec := zr5 (ops := ops) (done := done) (l := l) (k := k + 1) (i := i)
  have hstep : i ∈ rdy ops done (k + 1) l ↔ k < i ∧ mem i done = false ∧ ∃ o', (o :: l)[i - k]? = some o' ∧ ∀ e ∈ o'.after, Region.binds .any e = true → mem e.on done = true := by
   rw [hrec]
   constructor
   ·rintro ⟨h1, h2, o', h3, h4⟩
    refine ⟨h1, h2, o', ?_, h4⟩
    rw [show i - k = i - (k + 1) + 1 by omega]; simpa using h3
   ·rintro ⟨h1, h2, o', h3, h4⟩
    refine ⟨h1, h2, o', ?_, h4⟩
    rw [show i - k = i - (k + 1) + 1 by omega] at h3; simpa using h3
  cases hc : (!(mem k done) && Nat.beq (Nat.land (zlZ o) (mask done)) (zlZ o)) with
  | true =>
   simp only [cond_true, List.mem_cons]
   rw [hstep]
   have hk := key.1 hc
   constructor
   ·rintro (rfl | h)
    ·exact ⟨Nat.le_refl _, hk.1, o, by simp, hk.2⟩
    ·exact ⟨Nat.le_of_lt h.1, h.2⟩
   ·rintro ⟨h1, h2⟩
    rcases Nat.lt_or_eq_of_le h1 with h1 | rfl
    ·exact .inr ⟨h1, h2⟩
    ·exact .inl rfl
  | false =>
   simp only [cond_false]
   rw [hstep]
   constructor
   ·rintro ⟨h1, h2⟩; exact ⟨Nat.le_of_lt h1, h2⟩
   ·rintro ⟨h1, h2, o', h3, h4⟩
    rcases Nat.lt_or_eq_of_le h1 with h1 | rfl
    ·exact ⟨h1, h2, o', h3, h4⟩
    ·simp at h3; subst h3
     have := key.2 ⟨h2, h4⟩
     rw [hc] at this; cases this
theorem zlA {ops : Array Oper} {listed : Array Bool} {done : List Nat} (h : Lst ops listed done) {i : Nat} : i ∈ Region.ready .any ops listed ↔ i ∈ rdy ops.toList done 0 ops.toList := by
 rw [mem_ready, zr5]
 simp only [Nat.zero_le, true_and, Nat.sub_zero, Array.getElem?_toList]
 constructor
 ·rintro ⟨h1, o, ho, h2⟩
  have hlt : i < ops.size := (Array.getElem?_eq_some_iff.1 ho).1
  exact ⟨by rw [← h.is i hlt]; exact h1, o, ho, fun e he hb => by rw [← h.getF]; exact h2 e he hb⟩
 ·rintro ⟨h1, o, ho, h2⟩
  have hlt : i < ops.size := (Array.getElem?_eq_some_iff.1 ho).1
  exact ⟨by rw [h.is i hlt]; exact h1, o, ho, fun e he hb => by rw [h.getF]; exact h2 e he hb⟩
theorem zra {ops : Array Oper} {listed : Array Bool} {done : List Nat} (h : Lst ops listed done) : Region.ready .any ops listed = [] ↔ rdy ops.toList done 0 ops.toList = [] := by
 constructor
 ·intro h1
  cases hr : rdy ops.toList done 0 ops.toList with
  | nil => rfl
  | cons i l =>
   have : i ∈ Region.ready .any ops listed := (zlA h).2 (by rw [hr]; simp)
   rw [h1] at this; cases this
 ·intro h1
  cases hr : Region.ready .any ops listed with
  | nil => rfl
  | cons i l =>
   have : i ∈ rdy ops.toList done 0 ops.toList := (zlA h).1 (by rw [hr]; simp)
   rw [h1] at this; cases this
theorem zpM {ops : Array Oper} {i j : Nat} (h : zvQ ops.toList j i = true) : ∃ o, ops[j]? = some o ∧ ∃ e ∈ o.after, Region.binds .any e = true ∧ e.on = i := by
 unfold zvQ at h
 split at h
 ·rename_i o ho
  rw [zlZ, zk3, mem_iff, zlx] at h
  obtain ⟨e, he, hb⟩ := h
  exact ⟨o, by simpa using ho, e, by simpa using he, hb⟩
 ·cases h
theorem zsQ {i n : Nat} (h : i < n) : i ∈ upTo 0 n := by
 have := zj7 (i := 0) h
 simp only [Nat.zero_add] at this
 exact List.mem_of_getElem? this
theorem zpQ {ops : Array Oper} (h : zm8 ops ops.toList = true) {listed : Array Bool} {i : Nat} {oi : Oper} (hi : ops[i]? = some oi) (hr : i ∈ Region.ready .any ops listed) (j : Nat) (oj : Oper) (hj : ops[j]? = some oj) (hne : j ≠ i)
  (hun : listed.getD j true = false) (hno : ∀ e ∈ oj.after, Region.binds .any e = true → e.on ≠ i) : oi.apart ops oj = true := by
 unfold zm8 at h
 have hil : i < ops.size := (Array.getElem?_eq_some_iff.1 hi).1
 have hjl : j < ops.size := (Array.getElem?_eq_some_iff.1 hj).1
 have h1 := List.all_eq_true.1 (List.all_eq_true.1 h i (zsQ (by simpa using hil))) j (zsQ (by simpa using hjl))
 simp only [Array.getElem?_toList, hi, hj, Bool.or_eq_true] at h1
 rcases h1 with ((h1 | h1) | h1) | h1
 ·exact absurd (Nat.eq_of_beq_eq_true h1).symm hne
 ·obtain ⟨o, ho, e, he, hb, hon⟩ := zpM h1
  rw [hj] at ho; cases ho
  exact absurd hon (hno e he hb)
 ·obtain ⟨o, ho, e, he, hb, hon⟩ := zpM h1
  rw [hi] at ho; cases ho
  obtain ⟨_, o2, ho2, hall⟩ := mem_ready.1 hr
  rw [hi] at ho2; cases ho2
  have := hall e he hb
  rw [hon] at this
  have hlt : j < listed.size := by
   rcases Nat.lt_or_ge j listed.size with h' | h'
   ·exact h'
   ·simp [Array.getElem?_eq_none h'] at this
  simp [hlt] at this hun
  rw [this] at hun; cases hun
 ·exact h1
theorem ztp {ops : Array Oper} (h : zwG ops.toList = true) (j : Nat) (o : Oper) (cs : Array SelectCase) (b : Bool) (hj : ops[j]? = some o) : o.op ≠ .select cs b := by
 intro heq
 have := List.all_eq_true.1 h o (by simpa using Array.mem_of_getElem? hj)
 simp [heq] at this
theorem zip {A R : Type} {x : Ans A} {k : A → Ans R} {r : R} (h : Says (zrF x k) r) : ∃ z, Says x z ∧ Says (k z) r := by
 obtain ⟨ps, he, hp⟩ := h
 unfold zrF at he
 split at he
 ·rename_i z qs
  split at he
  ·rename_i r' qs' hk
   cases he
   exact ⟨z, ⟨qs, rfl, fun p hq => hp p (by simp [hq])⟩, ⟨qs', hk, fun p hq => hp p (by simp [hq])⟩⟩
  ·cases he
 ·cases he
theorem zq1 {α : Type} {k : Nat} {v : α} : ∀ {l : List (Nat × α)} {x : Nat}, lkup x (insK k v l) = lkup x ((k, v) :: l)
 | [], x => rfl
 | (y, u) :: l, x => by
  unfold insK
  cases h1 : Nat.beq k y with
  | true =>
   have := Nat.eq_of_beq_eq_true h1
   subst this
   simp only [lkup, cond_true]
   cases Nat.beq x k <;> rfl
  | false =>
   cases h2 : Nat.ble k y with
   | true => rfl
   | false =>
    simp only [lkup, cond_false, zq1]
    cases h3 : Nat.beq x y with
    | false => rfl
    | true =>
     have := Nat.eq_of_beq_eq_true h3
     subst this
     cases h4 : Nat.beq x k with
     | false => rfl
     | true =>
      have := Nat.eq_of_beq_eq_true h4
      subst this
      rw [h1] at h3; cases h3
theorem zjX {α : Type} : ∀ {l : List (Nat × α)} {x : Nat}, lkup x (ztF l) = lkup x l
 | [], x => rfl
 | (k, v) :: l, x => by
  rw [ztF, zq1]
  simp only [lkup, zjX]
theorem Fits.canon {V : Env} {x : Cx} {s s' : St} {a : Act} (h : Fits V x s a) (he : s.canon = s') : Fits V x s' a := by
 subst he
 have h1 : ∀ k, lkup k s.canon.slots = lkup k s.slots := fun k => by simp only [St.canon, zjX]
 have h2 : ∀ k, lkup k s.canon.objs = lkup k s.objs := fun k => by simp only [St.canon, zjX]
 have h3 : ∀ k, lkup k s.canon.rows = lkup k s.rows := fun k => by simp only [St.canon, zjX]
 refine ⟨⟨?_, ?_, ?_, ?_, ?_, ?_, h.sto.Slt, h.sto.Blt, h.sto.SB⟩, fun t v hl => h.sl t v (by rw [← h1]; exact hl), h.nt, h.df, h.pin, h.gd⟩
 ·intro o l hl; rw [h2] at hl; exact h.sto.obj o l hl
 ·intro r rw_ hl; rw [h3] at hl; exact h.sto.live r rw_ hl
 ·intro r rw_ hl; rw [h3] at hl; exact h.sto.froz r rw_ hl
 ·intro o o' l l' hl hl'; rw [h2] at hl hl'; exact h.sto.injO o o' l l' hl hl'
 ·intro r r' a b hl hl'; rw [h3] at hl hl'; exact h.sto.injR r r' a b hl hl'
 ·intro o r l a hl hl'; rw [h2] at hl; rw [h3] at hl'; exact h.sto.injX o r l a hl hl'
theorem zvU : ∀ {a b : List Nat}, eqL a b = true → a = b
 | [], [], _ => rfl
 | [], _ :: _, h => by cases h
 | _ :: _, [], h => by cases h
 | i :: l, j :: m, h => by
  unfold eqL at h
  cases hb : Nat.beq i j with
  | false => rw [hb] at h; cases h
  | true =>
   rw [hb] at h
   rw [Nat.eq_of_beq_eq_true hb, zvU h]
theorem zr4 {d : List Nat} {s : St} : ∀ {t : Tab}, lkT d t = some s → (d, s) ∈ t
 | [], h => by cases h
 | (e, s') :: t, h => by
  unfold lkT at h
  cases hq : Nat.beq (mask d) (mask e) with
  | false => rw [hq] at h; exact List.mem_cons_of_mem _ (zr4 h)
  | true =>
  rw [hq] at h
  cases hb : eqL d e with
  | false => rw [hb] at h; exact List.mem_cons_of_mem _ (zr4 h)
  | true =>
   rw [hb] at h
   cases h
   rw [zvU hb]
   simp
theorem zuh {i j : Nat} : ∀ {l : List Nat}, j ∈ ins i l ↔ j = i ∨ j ∈ l
 | [] => by simp [ins]
 | k :: l => by
  unfold ins
  cases Nat.ble i k with
  | true => simp
  | false =>
   simp only [cond_false, List.mem_cons, zuh (l := l)]
   constructor <;> rintro (h | h | h) <;> simp [h]
theorem zjZ {i : Nat} {l : List Nat} (j : Nat) : mem j (ins i l) = mem j (i :: l) := by
 have h : mem j (ins i l) = true ↔ mem j (i :: l) = true := by rw [mem_iff, mem_iff, zuh, List.mem_cons]
 cases h1 : mem j (ins i l) <;> cases h2 : mem j (i :: l) <;> simp_all
theorem zue {ops : Array Oper} {listed : Array Bool} {done : List Nat} (h : Lst ops listed done) {i : Nat} (hi : i < ops.size) : Lst ops (listed.setIfInBounds i true) (ins i done) := by
 have h' := zwB h hi
 exact ⟨h'.size, fun j hj => by rw [zjZ]; exact h'.is j hj, fun j hj => h'.lt j (by rw [← zjZ]; exact hj)⟩
theorem zgb {A : Type} {z r : A} (h : Says (some (z, [])) r) : r = z := by
 obtain ⟨ps, he, _⟩ := h
 simp only [Option.some.injEq, Prod.mk.injEq] at he
 exact he.1.symm
theorem zuH {d : List Nat} {s : St} {t t' : Tab} (h : Says (addT d s t) t') : (∀ e, e ∈ t → e ∈ t') ∧ ∃ s', (d, s') ∈ t' ∧ s.canon = s' := by
 unfold addT at h
 split at h
 ·rename_i s' hl
  obtain ⟨he, h1⟩ := zuL h
  have := zgb h1
  subst this
  exact ⟨fun e he => he, s', zr4 hl, he⟩
 ·have := zgb h
  subst this
  exact ⟨fun e he => List.mem_cons_of_mem _ he, s.canon, by simp, rfl⟩
theorem zrr {V : Env} {ops : Array Oper} {ol : List Oper} {base n : Nat} {d : List Nat} {s : St} : ∀ {l : List Nat} {sc : List Ev} {t : Tab} {z : List Ev × Tab}, Says (zsE V ops ol base n d s l sc t) z →
  (∀ e, e ∈ t → e ∈ z.2) ∧ ∀ j, j ∈ l → ∃ sc' z' s', Says (ztW V ops ol base n s j sc') z' ∧ (ins j d, s') ∈ z.2 ∧ z'.2.canon = s'
 | [], sc, t, z, h => by
  have := zgb h
  subst this
  exact ⟨fun e he => he, fun j hj => by cases hj⟩
 | i :: l, sc, t, z, h => by
  unfold zsE at h
  obtain ⟨z1, h1, h2⟩ := zip h
  obtain ⟨t2, h3, h4⟩ := zip h2
  obtain ⟨h5, s', h6, h7⟩ := zuH h3
  obtain ⟨h8, h9⟩ := zrr h4
  refine ⟨fun e he => h8 e (h5 e he), fun j hj => ?_⟩
  rcases List.mem_cons.1 hj with rfl | hj
  ·exact ⟨sc, z1, s', h1, h8 _ h6, h7⟩
  ·exact h9 j hj
theorem zpE {V : Env} {ops : Array Oper} {ol : List Oper} {base n : Nat} : ∀ {u : Tab} {sc : List Ev} {t : Tab} {z : List Ev × Tab}, Says (zpZ V ops ol base n u sc t) z →
  (∀ e, e ∈ t → e ∈ z.2) ∧ ∀ d s, (d, s) ∈ u → ∃ i r, rdy ol d 0 ol = i :: r ∧ ∀ j, j ∈ (match zfW V.P ol s (i :: r) with | some i => [i] | none => i :: r) → ∃ sc' z' s', Says (ztW V ops ol base n s j sc') z' ∧ (ins j d, s') ∈ z.2 ∧ z'.2.canon = s'
 | [], sc, t, z, h => by
  have := zgb h
  subst this
  exact ⟨fun e he => he, fun d s hj => by cases hj⟩
 | (d0, s0) :: u, sc, t, z, h => by
  unfold zpZ at h
  split at h
  ·exact (zal h).elim
  ·rename_i i r hr
   obtain ⟨z1, h1, h2⟩ := zip h
   obtain ⟨h3, h4⟩ := zrr h1
   obtain ⟨h5, h6⟩ := zpE h2
   refine ⟨fun e he => h5 e (h3 e he), fun d s hm => ?_⟩
   rcases List.mem_cons.1 hm with he | hm
   ·cases he
    refine ⟨i, r, hr, fun j hj => ?_⟩
    obtain ⟨sc', z', s', q1, q2, q3⟩ := h4 j hj
    exact ⟨sc', z', s', q1, h5 _ q2, q3⟩
   ·exact h6 d s hm
theorem zi0 {P : Program} {ol : List Oper} {s : St} : ∀ {l : List Nat} {i : Nat}, zfW P ol s l = some i → i ∈ l ∧ ∃ o, ol[i]? = some o ∧ zet P o.op s = true
 | [], i, h => by simp [zfW] at h
 | j :: l, i, h => by
  unfold zfW at h
  split at h
  ·rename_i o ho
   cases hb : zet P o.op s with
   | true => rw [hb] at h; cases h; exact ⟨by simp, o, ho, hb⟩
   | false =>
    rw [hb] at h
    obtain ⟨h1, h2⟩ := zi0 h
    exact ⟨by simp [h1], h2⟩
  ·cases h
set_option maxHeartbeats 1000000 in
theorem zuI {V : Env} (hV : ∀ b f as_ objs rows res, V.call b f as_ objs rows res → zhB V.P b f as_ objs rows res) {ops : Array Oper} {base : Nat} {keep : List Nat} {Q : Exit → Act → World → Prop} (hsel : zwG ops.toList = true) (hap : zm8 ops ops.toList = true)
  (hQp : ∀ c a w, ¬ Q (.panic c) a w) :
  ∀ (f : Nat) {t : Tab} {sc : List Ev} {r : List Ev × St}, Says (zqG V ops ops.toList base ops.size keep f t sc) r → ∀ {listed : Array Bool} {done : List Nat} {x : Cx} {s : St} {a : Act}, (done, s) ∈ t → Lst ops listed done → Fits V x s a → Used x base ops.size (fun i => mem i done = true) →
   (∀ y a', Rel V.m x y → zdg V y r.2 a' → Q .normal a' y.w) → zpN V.P .any ops Q f listed (zjk x) a x.w := by
 intro f
 have fin : ∀ {x : Cx} {s : St} {a : Act} {sc : List Ev} {r : List Ev × St}, Fits V x s a → Says (zqJ V keep s fun s => some ((sc, s), [])) r → (∀ y a', Rel V.m x y → zdg V y r.2 a' → Q .normal a' y.w) → Q .normal a x.w := by
  intro x s a sc r hf h hQ
  obtain ⟨y, s', hrel, hw, ht, h1⟩ := zoH hf h
  obtain ⟨ps, he, _⟩ := h1
  rw [← hw]
  exact hQ y a hrel (by cases he; exact ht)
 induction f with
 | zero =>
  intro t sc r h listed done x s a hm hl hf hU hQ
  unfold zqG at h
  split at h
  ·rename_i d0 s0 heq
   obtain ⟨rfl, rfl⟩ : done = d0 ∧ s = s0 := by simpa using hm
   split at h
   ·rename_i hr
    exact ⟨(zra hl).2 hr, fin hf h hQ⟩
   ·exact (zal h).elim
  ·exact (zal h).elim
  ·rename_i h0
   exact absurd h0 (by omega)
 | succ f ih =>
  intro t sc r h listed done x s a hm hl hf hU hQ
  unfold zqG at h
  obtain ⟨z, hz, hd⟩ := zip h
  obtain ⟨-, hlay⟩ := zpE hz
  obtain ⟨i0, l, hr, hall⟩ := hlay done s hm
  split at hall
  ·rename_i i hfs
   obtain ⟨hmem, o, ho, hst⟩ := zi0 hfs
   rw [← hr] at hmem
   have ho' : ops[i]? = some o := by simpa using ho
   have hlt : i < ops.size := (Array.getElem?_eq_some_iff.1 ho').1
   have hrdy := (zlA hl).2 hmem
   obtain ⟨sc', z', s', hs, hin, hcan⟩ := hall i (by simp)
   obtain ⟨o2, ho2, h1⟩ := zam hs
   rw [ho] at ho2; cases ho2
   unfold zqI at h1
   obtain ⟨b, hb, h2⟩ := zpC hf.sl h1
   have hy : ∃ v, YieldsIf V.P ops (zjk x) o v a ∧ Fits V x z'.2 (a.put o.dst v) := by
    cases b with
    | true =>
     simp only at h2
     obtain ⟨sc0, u, sv, hrun, hr2, h3⟩ := zsi hf.sto hf.sl hst h2
     obtain ⟨s2, hf2, h4⟩ := zne hf (Ext.refl x) (G.Le.refl _) hf.sto rfl hr2 h3
     obtain ⟨s3, sc3, hf3, h5⟩ := ziS hf2 h4
     have he := zgb h5
     rw [he]
     exact ⟨u, .inl ⟨hb, hrun⟩, hf3⟩
    | false =>
     simp only at h2
     obtain ⟨s2, hf2, h4⟩ := zne hf (Ext.refl x) (G.Le.refl _) hf.sto rfl zin h2
     obtain ⟨s3, sc3, hf3, h5⟩ := ziS hf2 h4
     have he := zgb h5
     rw [he]
     exact ⟨undef, .inr ⟨hb, rfl⟩, hf3⟩
   obtain ⟨v, hy, hf2⟩ := hy
   refine zrA ho' (ztp hsel) (fun c a w hq => (hQp c _ w hq).elim) f listed (zjk x) a x.w (fun j oj hj hne hun hno => zpQ hap ho' hrdy j oj hj hne hun hno) hrdy hy (zjk.refl x) ?_
   exact ih hd hin (zue hl hlt) (hf2.canon hcan) (zoJ hU hlt (fun m hm => .inl hm) (fun k hk => by rw [zjZ]; exact mem_iff.2 (List.mem_cons_of_mem _ (mem_iff.1 hk))) (by rw [zjZ]; exact mem_iff.2 (by simp))) hQ
  ·rename_i hfs
   refine ⟨fun hn => ?_, fun i hi => ?_⟩
   ·have := (zra hl).1 hn
    rw [this] at hr; cases hr
   ·have hmr := (zlA hl).1 hi
    obtain ⟨sc', z', s', hs, hin, hcan⟩ := hall i (by rw [← hr]; exact hmr)
    obtain ⟨o, ho, h1⟩ := zam hs
    have ho' : ops[i]? = some o := by simpa using ho
    have hlt : i < ops.size := (Array.getElem?_eq_some_iff.1 ho').1
    have hnd : ¬ mem i done = true := by
     have := (zr5.1 hmr).2.1
     rw [this]; simp
    unfold wpOp
    simp only [ho']
    have key := zrx (Q := Q) (K := fun a' w' => ∃ S' : World → Prop, (∀ v, S' v → zjk x v) ∧ S' w' ∧ zpN V.P .any ops Q f (listed.setIfInBounds i true) S' a' w') hV hf (zsR hU hlt hnd) (zv7 (by omega)) h1
     (fun y s2 a' sc2 hrel hx hUy hf' h' => by
      have he := zgb h'
      have hs2 : s2 = z'.2 := by rw [he]
      subst hs2
      exact ⟨zjk y, fun v hv => zjk.of_ext hx hv, zjk.refl y,
       ih hd hin (zue hl hlt) (hf'.canon hcan) (zoJ hU hlt hUy (fun k hk => by rw [zjZ]; exact mem_iff.2 (List.mem_cons_of_mem _ (mem_iff.1 hk))) (by rw [zjZ]; exact mem_iff.2 (by simp))) (fun z2 a2 hrel2 ht => hQ z2 a2 (hrel.trans hrel2) ht)⟩)
    split
    ·rename_i hw; rw [if_pos hw] at key; exact .inl key
    ·rename_i hw; rw [if_neg hw] at key; exact key
theorem ztA {R : Type} {V : Env} (hV : ∀ b f as_ objs rows res, V.call b f as_ objs rows res → zhB V.P b f as_ objs rows res) {ops : Array Oper} {id : Nat} {Q : Exit → Act → World → Prop} {x : Cx} {s : St} {a : Act} {sc : List Ev} {k : List Ev → St → Ans R} {r : R}
  (hf : zdg V x s a) (h : Says (zrM V id ops s sc k) r) (hQ : ∀ y s' a' sc', Rel V.m x y → zdg V y s' a' → Says (k sc' s') r → Q .normal a' y.w) : (Code.region id ops true).wp V.P Q a x.w := by
 unfold zrM at h
 obtain ⟨hc, h1⟩ := zar h
 simp only [Bool.and_eq_true] at hc
 obtain ⟨z, hz, h2⟩ := zip h1
 let Q' : Exit → Act → World → Prop := fun e a w => match e with
  | .normal => Q .normal a w
  | _ => False
 refine Code.wp_mono (Q := Q') (fun e a w hq => by cases e <;> first | exact hq | exact hq.elim) ?_
 refine wp_region_any hc.1.1 (zpO _ _ (zjk { x with w := { x.w with drawn := x.w.drawn + 1 } }) _ _ ?_)
 let x' : Cx := { x with w := { x.w with drawn := x.w.drawn + 1 } }
 have hg : Grow x x' := ⟨⟨rfl, rfl, rfl, Nat.le_refl _, fun _ _ _ => rfl, fun b hb => .inl hb, rfl, fun _ => Nat.le_succ _⟩, G.Le.refl _, fun _ _ => rfl, fun _ h => h, hf.sto.Slt⟩
 have hf' : Fits V x' s a := ⟨hf.sto.grow hg, hf.sl.mono hg.ext hg.g, hf.nt, hf.df, hf.pin, hg.ext.gd hf.gd⟩
 refine zuI (Q := Q') hV hc.1.2 hc.2 (fun c a w hq => hq) ops.size hz (List.mem_singleton.2 rfl) (zwA ops) hf' (fun m hu => .inl (hf.low m hu)) (fun y a' hrel ht => ?_)
 exact hQ y z.2 a' z.1 ((zrb hf.pin hg.ext hg.g).trans hrel) ht h2
end Go.Ev
set_option linter.unusedSectionVars false
namespace Go.Ev
variable [DLaw]
set_option linter.unusedVariables false
set_option linter.unusedSimpArgs false
def Ex.out : Ex → Exit
 | .normal => .normal
 | .exit i => .exit i
 | .goto l => .goto l
 | .ret => .ret
def Post (V : Env) (x : Cx) (e : Ex) (s : St) : Exit → Act → World → Prop := fun e' a' w' => e' = e.out ∧ ∃ y, y.w = w' ∧ Rel V.m x y ∧ zdg V y s a'
def zmk (P : Program) (l : Nat) : Code → (Exit → Act → World → Prop) → Act → World → Prop
 | .label _, Q, a, w => Q .normal a w
 | .seq c d, Q, a, w => if l ∈ labs c then zmk P l c (Exit.then (d.wp P Q) Q) a w else zmk P l d Q a w
 | _, _, _, _ => False
theorem zml {P : Program} {l : Nat} {c : Code} {Q Q' : Exit → Act → World → Prop} {a : Act} {w : World} (h : zmk P l c Q a w) (hq : ∀ e a w, Q e a w → Q' e a w) : zmk P l c Q' a w := by
 induction c generalizing Q Q' with
 | label l' => exact hq _ _ _ h
 | seq c d ih1 ih2 =>
  simp only [zmk] at h ⊢
  split at h
  ·rename_i hm
   rw [if_pos hm]
   refine ih1 h fun e a w q => ?_
   cases e with
   | normal => exact wp_mono q hq
   | exit _ => exact hq _ _ _ q
   | goto _ => exact hq _ _ _ q
   | ret => exact hq _ _ _ q
   | panic _ => exact hq _ _ _ q
   | outgrown => exact hq _ _ _ q
  ·rename_i hm
   rw [if_neg hm]
   exact ih2 h hq
 | _ => exact h.elim
theorem zhH {l : Nat} {c : Code} : (findLabel c l).isSome = true ↔ l ∈ labs c := by
 induction c with
 | label l' =>
  simp only [findLabel, labs, List.mem_singleton]
  by_cases h : l' = l
  ·simp [h]
  ·simp [h]; exact fun h2 => h h2.symm
 | seq c d ih1 ih2 =>
  simp only [findLabel, labs, List.mem_append]
  cases h : findLabel c l with
  | none =>
   rw [h] at ih1
   simp only [← ih1, ih2.symm]
   simp
  | some r =>
   rw [h] at ih1
   simp only [Option.isSome_some, true_iff]
   exact .inl (ih1.1 rfl)
 | _ => simp [findLabel, labs]
theorem ztl {P : Program} {l : Nat} {c rest : Code} {Q : Exit → Act → World → Prop} {a : Act} {w : World} (h : zmk P l c Q a w) (hf : findLabel c l = some rest) : rest.wp P Q a w := by
 induction c generalizing Q rest with
 | label l' =>
  simp only [findLabel] at hf
  split at hf
  ·cases hf; exact wp_skip h
  ·cases hf
 | seq c d ih1 ih2 =>
  simp only [zmk] at h
  simp only [findLabel] at hf
  cases hc : findLabel c l with
  | none =>
   rw [hc] at hf
   rw [if_neg (fun hm => by have := zhH.2 hm; rw [hc] at this; cases this)] at h
   exact ih2 h hf
  | some r =>
   rw [hc] at hf
   rw [if_pos (zhH.1 (by rw [hc]; rfl))] at h
   cases hf
   exact wp_seq (ih1 h hc)
 | _ => exact h.elim
def zo1 (P : Program) (c : Code) (l : Nat) (Q : Exit → Act → World → Prop) : Nat → Act → World → Prop
 | 0, _, _ => False
 | n + 1, a, w => zmk P l c (Exit.jump l (zo1 P c l Q n) Q) a w
theorem znQ {l : Nat} {J J' : Act → World → Prop} {Q Q' : Exit → Act → World → Prop} (hj : ∀ a w, J a w → J' a w) (hq : ∀ e a w, Q e a w → Q' e a w) {e : Exit} {a : Act} {w : World} (h : Exit.jump l J Q e a w) : Exit.jump l J' Q' e a w := by
 cases e with
 | goto l' => exact ⟨h.1, hj _ _ h.2⟩
 | normal => exact hq _ _ _ h
 | exit _ => exact hq _ _ _ h
 | ret => exact hq _ _ _ h
 | panic _ => exact hq _ _ _ h
 | outgrown => exact hq _ _ _ h
theorem zl4 {P : Program} {c : Code} {l : Nat} {Q Q' : Exit → Act → World → Prop} (hq : ∀ e a w, Q e a w → Q' e a w) : ∀ {n : Nat} {a : Act} {w : World}, zo1 P c l Q n a w → zo1 P c l Q' n a w
 | 0, _, _, h => h.elim
 | n + 1, a, w, h => zml h fun e a w q => znQ (fun a w h => zl4 hq h) hq q
theorem zqZ {p : Nat → Prop} (h : ∃ n, p n) : ∃ n, p n ∧ ∀ m, m < n → ¬ p m := by
 obtain ⟨n, hn⟩ := h
 induction n using Nat.strongRecOn with
 | _ n ih =>
  by_cases h : ∃ m, m < n ∧ p m
  ·obtain ⟨m, hm, hp⟩ := h
   exact ih m hm hp
  ·exact ⟨n, hn, fun m hm hp => h ⟨m, hm, hp⟩⟩
open Classical in
theorem zrB {P : Program} {c : Code} {l : Nat} {Q : Exit → Act → World → Prop} {a : Act} {w : World} (hl : l ∈ labs c) (first : c.wp P (Exit.jump l (fun a w => ∃ n, zo1 P c l Q n a w) Q) a w) : (Code.scope c).wp P Q a w := by
 obtain ⟨rest, hr⟩ := Option.isSome_iff_exists.1 (zhH.2 hl)
 refine wp_scope_jumps (rest := rest) l (fun a w => ∃ n, zo1 P c l Q n a w) (fun a w => if h : ∃ n, zo1 P c l Q n a w then Classical.choose (zqZ h) else 0) hr first fun a w hJ => ?_
 obtain ⟨h1, h2⟩ := Classical.choose_spec (zqZ hJ)
 have e : (if h : ∃ n, zo1 P c l Q n a w then Classical.choose (zqZ h) else 0) = Classical.choose (zqZ hJ) := dif_pos hJ
 rw [e]
 generalize Classical.choose (zqZ hJ) = n at h1 h2
 cases n with
 | zero => exact h1.elim
 | succ m =>
  refine ztl (zml h1 fun e a' w' q => znQ (fun a w hj => ?_) (fun _ _ _ q => q) q) hr
  refine ⟨⟨m, hj⟩, ?_⟩
  show (if h : ∃ n, zo1 P c l Q n a w then Classical.choose (zqZ h) else 0) < m + 1
  have hJ' : ∃ n, zo1 P c l Q n a w := ⟨m, hj⟩
  rw [dif_pos hJ']
  have h3 := (Classical.choose_spec (zqZ hJ')).2
  rcases Nat.lt_or_ge m (Classical.choose (zqZ hJ')) with h | h
  ·exact absurd hj (h3 m h)
  ·omega
def zaT (P : Program) (nt m : Nat) (c : Code) (s : St) (e : Ex) (s' : St) : Prop :=
 match c with
 | .loop c => ∃ n, ∀ V : Env, V.P = P → V.nt = nt → V.m = m → ∀ x a, zdg V x s a → Code.rounds P c (Post V x e s') n a x.w
 | .scope c => ∃ l n, labs c = [l] ∧ ∀ V : Env, V.P = P → V.nt = nt → V.m = m → ∀ x a, zdg V x s a → zo1 P c l (Post V x e s') n a x.w
 | c => ∀ V : Env, V.P = P → V.nt = nt → V.m = m → ∀ x a, zdg V x s a → c.wp P (Post V x e s') a x.w
theorem zow {V : Env} (hV : ∀ b f as_ objs rows res, V.call b f as_ objs rows res → zhB V.P b f as_ objs rows res) (hL : ∀ c s e s', V.L c s e s' → zaT V.P V.nt V.m c s e s') :
  ∀ {R : Type} {c : Code} {j : Bool} {x : Cx} {s : St} {a : Act} {sc : List Ev} {k : List Ev → Ex → St → Ans R} {r : R} {Q : Exit → Act → World → Prop}, (j = true → (labs c).length ≤ 1 ∧ ∀ l a w, l ∈ labs c → Q (.goto l) a w → zmk V.P l c Q a w) → zdg V x s a → Says (zgy V c j s sc k) r →
   (∀ y s' a' sc' e, Rel V.m x y → zdg V y s' a' → Says (k sc' e s') r → Q e.out a' y.w) → c.wp V.P Q a x.w := by
 intro R c
 induction c with
 | skip => intro j x s a sc k r Q hj hf h hQ; exact wp_skip (hQ x s a sc .normal (Rel.refl _ _) hf h)
 | label l =>
  intro j x s a sc k r Q hj hf h hQ
  cases j with
  | false => exact wp_label (hQ x s a sc .normal (Rel.refl _ _) hf h)
  | true =>
   have h1 := hQ x s a sc (.goto l) (Rel.refl _ _) hf h
   exact wp_label ((hj rfl).2 l a x.w (by simp [labs]) h1)
 | exit l => intro j x s a sc k r Q hj hf h hQ; exact wp_exit (hQ x s a sc (.exit l) (Rel.refl _ _) hf h)
 | goto l => intro j x s a sc k r Q hj hf h hQ; exact wp_goto (hQ x s a sc (.goto l) (Rel.refl _ _) hf h)
 | ret => intro j x s a sc k r Q hj hf h hQ; exact wp_ret (hQ x s a sc .ret (Rel.refl _ _) hf h)
 | region id ops draw =>
  intro j x s a sc k r Q hj hf h hQ
  unfold zgy at h
  cases draw with
  | true => exact ztA (V := V) hV hf (by exact h) fun y s' a' sc' hrel ht h' => hQ y s' a' sc' .normal hrel ht h'
  | false => exact zsh (V := V) hV hf (by exact h) fun y s' a' sc' hrel ht h' => hQ y s' a' sc' .normal hrel ht h'
 | seq c1 c2 ih1 ih2 =>
  intro j x s a sc k r Q hj hf h hQ
  unfold zgy at h
  have hj1 : j = true → (labs c1).length ≤ 1 ∧ ∀ l a w, l ∈ labs c1 → Exit.then (c2.wp V.P Q) Q (.goto l) a w → zmk V.P l c1 (Exit.then (c2.wp V.P Q) Q) a w := fun ht => by
   obtain ⟨h1, h2⟩ := hj ht
   simp only [labs, List.length_append] at h1
   refine ⟨by omega, fun l a w hl hg => ?_⟩
   have h3 := h2 l a w (by simp [labs, hl]) hg
   simp only [zmk] at h3
   rwa [if_pos hl] at h3
  have hj2 : j = true → (labs c2).length ≤ 1 ∧ ∀ l a w, l ∈ labs c2 → Q (.goto l) a w → zmk V.P l c2 Q a w := fun ht => by
   obtain ⟨h1, h2⟩ := hj ht
   simp only [labs, List.length_append] at h1
   refine ⟨by omega, fun l a w hl hg => ?_⟩
   have h3 := h2 l a w (by simp [labs, hl]) hg
   simp only [zmk] at h3
   rwa [if_neg (fun h4 => by have := List.length_pos_of_mem hl; have := List.length_pos_of_mem h4; omega)] at h3
  refine wp_seq (ih1 hj1 hf h fun y s' a' sc' e hrel ht h' => ?_)
  cases e with
  | normal => exact ih2 hj2 ht h' fun z s2 a2 sc2 e2 hrel2 ht2 h2 => hQ z s2 a2 sc2 e2 (hrel.trans hrel2) ht2 h2
  | exit i => exact hQ y s' a' sc' _ hrel ht h'
  | goto i => exact hQ y s' a' sc' _ hrel ht h'
  | ret => exact hQ y s' a' sc' _ hrel ht h'
 | cond o c1 c2 ih1 ih2 =>
  intro j x s a sc k r Q hj hf h hQ
  unfold zgy at h
  obtain ⟨v, hv, h1⟩ := zam h
  obtain ⟨b, hb, h2⟩ := zj6 h1
  have hr := zaz hf.sl hv
  rw [hb] at hr
  have he := zhz hr
  split at h2
  ·obtain ⟨ht, h3⟩ := zdy h2
   subst ht
   exact wp_cond_true he (ih1 (fun h => by cases h) (zuW hf (by rw [hv, hb])) h3 hQ)
  ·obtain ⟨ht, h3⟩ := zdy h2
   subst ht
   exact wp_cond_false he (ih2 (fun h => by cases h) (zuW hf (by rw [hv, hb])) h3 hQ)
  ·split at h2
   ·obtain ⟨z, s1, hrel, hw, ht, h3⟩ := ziq hf h2
    obtain ⟨hl, h4⟩ := zdy h3
    have h5 := hL _ _ _ _ hl V rfl rfl rfl z a ht
    rw [← hw]
    refine Code.wp_mono ?_ h5
    rintro e' a' w' ⟨rfl, z2, rfl, hrel2, ht2⟩
    exact hQ z2 _ a' _ _ (hrel.trans hrel2) ht2 h4
   ·exact (zal h2).elim
  ·exact (zal h2).elim
 | block id c ih =>
  intro j x s a sc k r Q hj hf h hQ
  unfold zgy at h
  refine wp_block (ih (fun h => by cases h) hf h fun y s' a' sc' e hrel ht h' => ?_)
  cases e with
  | normal => exact hQ y s' a' sc' .normal hrel ht h'
  | exit i =>
   simp only [Ex.out, Exit.inBlock]
   cases hb : Nat.beq i id with
   | true =>
    simp only [hb, cond_true] at h'
    rw [if_pos (Nat.eq_of_beq_eq_true hb)]
    exact hQ y s' a' sc' .normal hrel ht h'
   | false =>
    simp only [hb, cond_false] at h'
    rw [if_neg (fun he => by subst he; simp at hb)]
    exact hQ y s' a' sc' (.exit i) hrel ht h'
  | goto i => exact hQ y s' a' sc' (.goto i) hrel ht h'
  | ret => exact hQ y s' a' sc' .ret hrel ht h'
 | loop c ih =>
  intro j x s a sc k r Q hj hf h hQ
  unfold zgy at h
  obtain ⟨y, s1, hrel, hw, ht, h1⟩ := ziq hf h
  split at h1
  ·rename_i e s' sc'
   obtain ⟨hl, h2⟩ := zdy h1
   obtain ⟨n, hn⟩ := hL _ _ _ _ hl
   have h3 := hn V rfl rfl rfl y a ht
   rw [← hw]
   refine Code.wp_mono ?_ (wp_loop_rounds n h3)
   rintro e' a' w' ⟨rfl, z, rfl, hrel2, ht2⟩
   exact hQ z s' a' sc' e (hrel.trans hrel2) ht2 h2
  ·exact (zal h1).elim
 | scope c ih =>
  intro j x s a sc k r Q hj hf h hQ
  unfold zgy at h
  split at h
  ·rename_i l hl
   refine zrB (l := l) (by rw [hl]; simp) (ih (j := true) (fun _ => ⟨by rw [hl]; simp, fun l' a' w' hm hg => ?_⟩) hf h fun y s' a' sc' e hrel ht h' => ?_)
   ·obtain ⟨rfl, n, hn⟩ := hg
    cases n with
    | zero => exact hn.elim
    | succ n => exact zml hn fun e a w q => znQ (fun a w hj => ⟨n, hj⟩) (fun _ _ _ q => q) q
   ·cases e with
    | goto l' =>
     simp only at h'
     obtain ⟨hb, h1⟩ := zar h'
     have hb := Nat.eq_of_beq_eq_true hb
     subst hb
     obtain ⟨z, s1, hrel2, hw, ht2, h2⟩ := ziq ht h1
     refine ⟨rfl, ?_⟩
     split at h2
     ·rename_i e s' sc'
      obtain ⟨hlr, h3⟩ := zdy h2
      obtain ⟨l2, n, hl2, hn⟩ := hL _ _ _ _ hlr
      obtain rfl : l2 = l' := by rw [hl] at hl2; simpa using hl2.symm
      refine ⟨n, ?_⟩
      rw [← hw]
      refine zl4 ?_ (hn V rfl rfl rfl z a' ht2)
      rintro e' a' w' ⟨rfl, z2, rfl, hrel3, ht3⟩
      exact hQ z2 s' a' sc' e ((hrel.trans hrel2).trans hrel3) ht3 h3
     ·exact (zal h2).elim
    | normal => exact hQ y s' a' sc' _ hrel ht h'
    | exit i => exact hQ y s' a' sc' _ hrel ht h'
    | ret => exact hQ y s' a' sc' _ hrel ht h'
  ·exact (zal h).elim
 | _ =>
  intro j x s a sc k r Q hj hf h hQ
  unfold zgy at h
  exact (zal h).elim
theorem zk4 {P : Program} {c : Code} {Q Q' : Exit → Act → World → Prop} (h : ∀ e a w, Q e a w → Q' e a w) : ∀ {n : Nat} {a : Act} {w : World}, Code.rounds P c Q n a w → Code.rounds P c Q' n a w
 | 0, _, _, hr => hr.elim
 | n + 1, a, w, hr => Code.wp_mono (fun e a w q => by cases e <;> first | exact zk4 h q | exact h _ _ _ q) hr
theorem zpG {R : Type} {V : Env} {x : Cx} {a : Act} {c : Code} {s s' : St} {sc : List Ev} {e : Ex} {Q : Exit → Act → World → Prop} (hV : ∀ b f as_ objs rows res, V.call b f as_ objs rows res → zhB V.P b f as_ objs rows res) (hL : ∀ c s e s', V.L c s e s' → zaT V.P V.nt V.m c s e s')
  (hf : zdg V x s a) (h : Says (zl0 V c s sc) (e, s')) (hQ : ∀ y a', Rel V.m x y → zdg V y s' a' → Q e.out a' y.w) : c.wp V.P Q a x.w := by
 unfold zl0 at h
 refine zow hV hL (fun h => by cases h) hf h fun y s1 a1 sc1 e1 hrel ht h1 => ?_
 have same : ∀ {e1 : Ex} {s1 : St}, Says (R := Ex × St) (some ((e1, s1), [])) (e, s') → e = e1 ∧ s' = s1 := by
  rintro e1 s1 ⟨ps, he, _⟩
  simp only [Option.some.injEq, Prod.mk.injEq] at he
  exact ⟨he.1.1.symm, he.1.2.symm⟩
 cases e1 with
 | normal =>
  obtain ⟨z, s2, hrel2, hw, ht2, h2⟩ := ziq ht h1
  obtain ⟨rfl, rfl⟩ := same h2
  rw [← hw]
  exact hQ z a1 (hrel.trans hrel2) ht2
 | exit i => obtain ⟨rfl, rfl⟩ := same h1; exact hQ y a1 hrel ht
 | goto i => obtain ⟨rfl, rfl⟩ := same h1; exact hQ y a1 hrel ht
 | ret => obtain ⟨rfl, rfl⟩ := same h1; exact hQ y a1 hrel ht
def lEnv (P : Program) (C : Cfg) (f : FuncId) (m : Nat) : Env := zwD P C (zhB P) (zaT P (match P.funcs[f]? with | some fn => fn.ntmps | none => 0) m) f m
theorem zgd {V V' : Env} (hP : V'.P = V.P) (hn : V'.nt = V.nt) (hm : V'.m = V.m) {x : Cx} {s : St} {a : Act} (h : zdg V x s a) : zdg V' x s a :=
 ⟨⟨h.sto, h.sl, by rw [hn]; exact h.nt, h.df, by rw [hm]; exact h.pin, by rw [hP]; exact h.gd⟩, h.low⟩
theorem zud {P : Program} {C : Cfg} {f m : Nat} {c : Code} {s s1 s' : St} {sc : List Ev} {e : Ex} (h : Says (zl0 (lEnv P C f m) c s sc) (.normal, s1)) (hn : zaT P (lEnv P C f m).nt m (.loop c) s1 e s') :
  zaT P (lEnv P C f m).nt m (.loop c) s e s' := by
 obtain ⟨n, hn⟩ := hn
 refine ⟨n + 1, fun V hP hnt hm x a hf => ?_⟩
 have hf' : zdg (lEnv P C f m) x s a := zgd hP.symm hnt.symm hm.symm hf
 refine zpG (R := Unit) (V := lEnv P C f m) (fun _ _ _ _ _ _ h => h) (fun _ _ _ _ h => h) hf' h fun y a' hrel ht => ?_
 have hn2 := hn V hP hnt hm y a' (zgd hP hnt hm ht)
 refine zk4 ?_ hn2
 rintro e' a2 w2 ⟨h1, z, hz, hrel2, ht2⟩
 exact ⟨h1, z, hz, Rel.trans (by rw [hm]; exact hrel) hrel2, ht2⟩
theorem zuc {P : Program} {C : Cfg} {f m : Nat} {c : Code} {s s' : St} {sc : List Ev} {e : Ex} (h : Says (zl0 (lEnv P C f m) c s sc) (e, s')) (he : e ≠ .normal) :
  zaT P (lEnv P C f m).nt m (.loop c) s e s' := by
 refine ⟨1, fun V hP hnt hm x a hf => ?_⟩
 have hf' : zdg (lEnv P C f m) x s a := zgd hP.symm hnt.symm hm.symm hf
 refine zpG (R := Unit) (V := lEnv P C f m) (fun _ _ _ _ _ _ h => h) (fun _ _ _ _ h => h) hf' h fun y a' hrel ht => ?_
 have hp : Post V x e s' e.out a' y.w := ⟨rfl, y, rfl, by rw [hm]; exact hrel, zgd hP hnt hm ht⟩
 cases e with
 | normal => exact (he rfl).elim
 | exit i => exact hp
 | goto i => exact hp
 | ret => exact hp
theorem zcG {P : Program} {C : Cfg} {f m t : Nat} {c d : Code} {s s' : St} {sc : List Ev} {e : Ex} (h : Says (zp0 (lEnv P C f m) t c d s sc) (e, s')) : zaT P (lEnv P C f m).nt m (.cond (.tmp t) c d) s e s' := by
 intro V hP hnt hm x a hf
 have hf' : zdg (lEnv P C f m) x s a := zgd hP.symm hnt.symm hm.symm hf
 unfold zp0 at h
 refine zow (R := Ex × St) (V := lEnv P C f m) (fun _ _ _ _ _ _ h => h) (fun _ _ _ _ h => h) (fun h => by cases h) hf' h fun y s2 a2 sc2 e2 hrel ht h2 => ?_
 have same : ∀ {e1 : Ex} {s2 : St}, Says (R := Ex × St) (some ((e1, s2), [])) (e, s') → e = e1 ∧ s' = s2 := by
  rintro e1 s2 ⟨ps, he, _⟩
  simp only [Option.some.injEq, Prod.mk.injEq] at he
  exact ⟨he.1.1.symm, he.1.2.symm⟩
 have hp : ∀ {e1 : Ex}, e = e1 ∧ s' = s2 → Post V x e s' e1.out a2 y.w := by
  rintro e1 ⟨rfl, rfl⟩
  exact ⟨rfl, y, rfl, by rw [hm]; exact hrel, zgd hP hnt hm ht⟩
 cases e2 with
 | normal =>
  obtain ⟨z, s3, hrel2, hw, ht2, h4⟩ := ziq ht h2
  obtain ⟨rfl, rfl⟩ := same h4
  exact ⟨rfl, z, hw, by rw [hm]; exact hrel.trans hrel2, zgd hP hnt hm ht2⟩
 | goto l => exact hp (same h2)
 | exit i => exact hp (same h2)
 | ret => exact hp (same h2)
def zux (tmps : Array Value) : ResultVar → Sem Value
 | .tmp t => pure (tmps.getD t undef)
 | .cell a t => do loadVar t (← asAddr (tmps.getD a undef))
def zwX : List Value → Value
 | [v] => v
 | l => .tuple l.toArray
theorem zsb {P : Program} {fn : Func} {tmps : Array Value} {w : World} {vs : List Value}
  (h : (fn.results.toList.mapM (zux tmps)).run P w = .ok vs w) :
  (results fn tmps).run P w = .ok (zwX vs) w := by
 have he : results fn tmps = (do
   let vs ← fn.results.mapM (zux tmps)
   pure (if h : vs.size = 1 then vs[0] else .tuple vs)) := by
  unfold results
  congr 1
 rw [he, Sem.run_bind, Array.mapM_eq_mapM_toList]
 simp only [Sem.run_map, h, Result.andThen_ok, Sem.run_pure]
 match vs with
 | [] => rfl
 | [v] => rfl
 | a :: b :: l => simp [zwX]
theorem zjO {R : Type} {P : Program} {x : Cx} {s : St} {a : Act} (hs : Sto x s.objs s.rows) (hsl : zi4 x s.slots a) : ∀ {l : List ResultVar} {k : List AV → Ans R} {r : R}, Says (znH P s l k) r →
  ∃ vs as_, (l.mapM (zux a.tmps)).run P x.w = .ok vs x.w ∧ ze0 x as_ vs ∧ Says (k as_) r
 | [], k, r, h => ⟨[], [], by simp, trivial, h⟩
 | .tmp t :: l, k, r, h => by
  obtain ⟨v, hv, h1⟩ := zam h
  obtain ⟨av, hav, h2⟩ := ziU h1
  obtain ⟨vs, as_, h3, h4, h5⟩ := zjO hs hsl h2
  have hr := (hsl t v hv).2
  rw [hav] at hr
  refine ⟨a.tmps.getD t undef :: vs, av :: as_, ?_, ⟨hr, h4⟩, h5⟩
  simp only [List.mapM_cons, zux, Sem.run_bind, Sem.run_pure, Result.andThen_ok, h3]
 | .cell b t :: l, k, r, h => by
  obtain ⟨v, hv, h1⟩ := zam h
  obtain ⟨u, av, hrun, hra, h2⟩ := zoz (P := P) hs (hsl b v hv).2 h1
  obtain ⟨vs, as_, h3, h4, h5⟩ := zjO hs hsl h2
  refine ⟨u :: vs, av :: as_, ?_, ⟨hra, h4⟩, h5⟩
  have hp : (zux a.tmps (.cell b t)).run P x.w = .ok u x.w := by
   show (do loadVar t (← asAddr (a.tmps.getD b undef)) : Sem Value).run P x.w = _
   generalize a.tmps.getD b undef = val at hrun ⊢
   cases val with
   | pointer p =>
    cases p with
    | some q => simpa [Instr.loadAt, Instr.sureAddr, asAddr] using hrun
    | none => simp [Instr.loadAt, Instr.sureAddr] at hrun
   | _ => simp [Instr.loadAt, Instr.sureAddr] at hrun
  simp only [List.mapM_cons, Sem.run_bind, hp, Result.andThen_ok, h3, Sem.run_pure]
theorem zuM {R : Type} {b : R → Bool} {y : Ans R} {r : R} (h : Says (sift b y) r) : b r = true ∧ Says y r := by
 obtain ⟨ps, he, hp⟩ := h
 unfold sift at he
 split at he
 ·rename_i r' ps'
  cases hb : b r' with
  | true => rw [hb] at he; cases he; exact ⟨hb, ps, rfl, hp⟩
  | false => rw [hb] at he; cases he
 ·cases he
theorem zr9 {x : Cx} {as_ : List AV} {vs : List Value} (h : ze0 x as_ vs) : RepS x (zge as_) (zwX vs) := by
 match as_, vs, h with
 | [], [], _ => exact ⟨#[], rfl, trivial⟩
 | [a], [v], h => exact h.1
 | a :: b :: l, v :: u :: vs, h => exact ⟨(v :: u :: vs).toArray, rfl, by simpa using h⟩
theorem zsW {x : Cx} : ∀ {as_ : List AV} {vs : List Value} {t : Nat} {a : AV}, ze0 x as_ vs → as_[t]? = some a → ∃ v, vs[t]? = some v ∧ RepA x a v
 | [], [], t, a, _, h => by simp at h
 | b :: as_, v :: vs, 0, a, hh, h => by simp at h; subst h; exact ⟨v, by simp, hh.1⟩
 | b :: as_, v :: vs, t + 1, a, hh, h => by simp at h; obtain ⟨u, h1, h2⟩ := zsW hh.2 h; exact ⟨u, by simpa using h1, h2⟩
theorem zah {P : Program} {C : Cfg} {f : FuncId} {as_ : List AV} {objs : List Obj} {rows : List Row} {sc : List Ev} {res : Res}
  (h : Says (evFn P C (zhB P) (zaT P (lEnv P C f objs.length).nt objs.length) f as_ objs rows sc) res) : Runs P f as_ objs rows res := by
 unfold evFn at h
 split at h
 ·exact (zal h).elim
 rename_i fn hfn
 split at h
 ·exact (zal h).elim
 rename_i c hc
 obtain ⟨hname, h0⟩ := zar h
 obtain ⟨hbs, h1⟩ := zuM h0
 simp only [Bool.and_eq_true] at hbs
 simp only [Bool.and_eq_true, Bool.not_eq_true'] at hname
 obtain ⟨hname, hlt0⟩ := hname
 have hlt : objs.length < 1000 := Nat.le_of_ble_eq_true hlt0
 have hpO : pinO objs.length = objs.length := Nat.mod_eq_of_lt hlt
 have hpR : pinR objs.length = 0 := Nat.div_eq_of_lt hlt
 have hend : ∀ {x : Cx} {s : St} {a : Act}, zdg (lEnv P C f objs.length) x s a → Says (zvg P objs.length fn.results.toList s) res →
   ∃ v y, (results fn a.tmps).run P x.w = .ok v x.w ∧ y.w = x.w ∧ Rel objs.length x y ∧ Sto y (zaC 0 res.2.1) (zaC 0 (res.2.2.map .live)) ∧ RepS y (zge res.1) v := by
  intro x s a ht h
  unfold zvg at h
  obtain ⟨vs, as', hrun, hrep, h2⟩ := zjO (P := P) ht.sto ht.sl h
  split at h2
  ·rename_i p hp
   obtain ⟨ps, he, _⟩ := h2
   simp only [Option.some.injEq, Prod.mk.injEq] at he
   have hok : zgK x s p x.B := zog ht.sto hp (fun b hb => .inl hb)
   refine ⟨_, p.cx x x.B, zsb hrun, rfl, ⟨⟨rfl, rfl, rfl, Nat.le_refl _, fun _ _ _ => rfl, fun b hb => .inl (hok.Sx b hb), rfl, fun _ => Nat.le_refl _⟩, fun o ho => ?_, fun r hr => ?_⟩, ?_, ?_⟩
   ·show x.g.ob (p.os.getD o 0) = _
    rw [zbB (zoh hp ho)]
   ·rw [hpR] at hr; omega
   ·rw [← he.1]; exact hok.sto
   ·rw [← he.1]; exact zr9 (zim hok hrep)
  ·exact (zal h2).elim
 refine ⟨⟨fn, c, hfn, hc, hname⟩, hbs.1, Nat.le_of_ble_eq_true hbs.2, fun x vals hgd hsto hU hrep => ?_⟩
 refine calls_of_wp hfn hc ?_
 have hsz : fn.ntmps ≤ (vals.toArray ++ Array.replicate (fn.ntmps - vals.toArray.size) undef).size := by simp; omega
 have hnt : (lEnv P C f objs.length).nt = fn.ntmps := by simp [lEnv, zwD, hfn]
 have hf : zdg (lEnv P C f objs.length) x ⟨zaC 0 (as_.map .av), zaC 0 objs, zaC 0 (rows.map .live)⟩ { tmps := vals.toArray ++ Array.replicate (fn.ntmps - vals.toArray.size) undef, defers := [] } := by
  refine ⟨⟨hsto, ?_, by rw [hnt]; exact hsz, rfl, fun o ho => ?_, hgd⟩, fun n hn => by simp only [ziM, List.length_map]; exact hU n hn⟩
  ·intro t v hl
   rw [zbl, List.getElem?_map] at hl
   cases hat : as_[t]? with
   | none => rw [hat] at hl; cases hl
   | some av =>
    rw [hat] at hl
    cases hl
    obtain ⟨v, hv, hr⟩ := zsW hrep hat
    have hlt : t < vals.length := by
     rcases Nat.lt_or_ge t vals.length with h' | h'
     ·exact h'
     ·rw [List.getElem?_eq_none h'] at hv; cases hv
    refine ⟨by simp; omega, ?_⟩
    have : (vals.toArray ++ Array.replicate (fn.ntmps - vals.toArray.size) undef).getD t undef = v := by
     rw [Array.getD_eq_getD_getElem?, Array.getElem?_append_left (by simpa using hlt)]
     simp [hv]
    rw [this]; exact hr
  ·have hm : (lEnv P C f objs.length).m = objs.length := rfl
   rw [hm, hpO, hpR] at ho
   have ho : o < objs.length := by omega
   exact (hsto.obj o objs[o] (by rw [zbl]; exact List.getElem?_eq_getElem ho)).1
 refine zow (V := lEnv P C f objs.length) (fun _ _ _ _ _ _ h => h) (fun _ _ _ _ h => h) (fun h => by cases h) hf h1 fun y s' a' sc' e hrel ht h2 => ?_
 cases e with
 | normal =>
  obtain ⟨v, z, h3, h4, h5, h6, h7⟩ := hend ht h2
  exact ⟨ht.df, v, h3, v, z, rfl, h4, hrel.ext.trans h5.ext, fun o ho => (h5.pin o (by rw [hpO]; exact ho)).trans (hrel.pin o (by show o < pinO objs.length; rw [hpO]; exact ho)), h6, h7⟩
 | ret =>
  obtain ⟨v, z, h3, h4, h5, h6, h7⟩ := hend ht h2
  exact ⟨ht.df, v, h3, v, z, rfl, h4, hrel.ext.trans h5.ext, fun o ho => (h5.pin o (by rw [hpO]; exact ho)).trans (hrel.pin o (by show o < pinO objs.length; rw [hpO]; exact ho)), h6, h7⟩
 | exit i => exact (zal h2).elim
 | goto i => exact (zal h2).elim
end Go.Ev
set_option linter.unusedVariables false
set_option linter.unusedSimpArgs false
namespace Go.Ev
abbrev iadd (k : IntKind) (x y : Int) : Int := k.wrap (x + y)
abbrev isub (k : IntKind) (x y : Int) : Int := k.wrap (x - y)
abbrev imul (k : IntKind) (x y : Int) : Int := k.wrap (x * y)
def iand (k : IntKind) (x y : Int) : Int := k.wrap (BitVec.ofInt k.bits x &&& BitVec.ofInt k.bits y).toNat
def ior (k : IntKind) (x y : Int) : Int := k.wrap (BitVec.ofInt k.bits x ||| BitVec.ofInt k.bits y).toNat
def zdZ (k : IntKind) (x y : Int) : Int := k.wrap (BitVec.ofInt k.bits x &&& ~~~ BitVec.ofInt k.bits y).toNat
def ishl (k : IntKind) (a b : Int) : Int := k.wrap (a * 2 ^ (min b.toNat k.bits))
def ishr (k : IntKind) (a b : Int) : Int := a.fdiv (2 ^ (min b.toNat k.bits))
abbrev iquo (k : IntKind) (a b : Int) : Int := k.wrap (a.tdiv b)
abbrev irem (k : IntKind) (a b : Int) : Int := a.tmod b
@[reducible] def All : List Prop → Prop
 | [] => True
 | p :: l => p ∧ All l
def obs : List Prop → List Ob
 | [] => []
 | p :: l => .p p :: obs l
theorem ztI : ∀ {l : List Prop}, All l → ∀ o ∈ obs l, o.holds
 | [], _, o, h => by cases h
 | p :: l, h, o, hm => by
  rcases List.mem_cons.1 hm with rfl | hm
  ·exact h.1
  ·exact ztI h.2 o hm
theorem Says.of {R : Type} {a : Ans R} {r : R} {ps : List Prop} (h : a = some (r, obs ps)) (hp : All ps) : Says a r := ⟨_, h, ztI hp⟩
def zwL : List Ob → List Prop
 | [] => []
 | .p q :: l => q :: zwL l
 | .e _ _ :: l => zwL l
def zua : List Ob → List St
 | [] => []
 | .p _ :: l => zua l
 | .e s _ :: l => s :: zua l
def zri : List Ob → List St
 | [] => []
 | .p _ :: l => zri l
 | .e _ s :: l => s :: zri l
def ansP {R : Type} (a : Ans R) : Option (R × List Prop) := match a with | some (r, l) => some (r, zwL l) | none => none
def ansL {R : Type} (a : Ans R) : List St := match a with | some (_, l) => zua l | none => []
def ansR {R : Type} (a : Ans R) : List St := match a with | some (_, l) => zri l | none => []
@[reducible] def both {R : Type} (a : Ans R) (r : R) (ps : List Prop) : Prop := ansP a = some (r, ps) ∧ ansL a = ansR a
def zu5 : List Ob → Prop
 | [] => True
 | .p q :: l => q ∧ zu5 l
 | .e s s' :: l => s = s' ∧ zu5 l
def zu6 : List Ob → Prop
 | [] => True
 | .p q :: l => q ∧ zu6 l
 | .e _ _ :: l => zu6 l
def zxy {R : Type} (a : Ans R) : Option (R × Prop) := match a with | some (r, l) => some (r, zu5 l) | none => none
def zxz {R : Type} (a : Ans R) : Option (R × Prop) := match a with | some (r, l) => some (r, zu6 l) | none => none
theorem zkz : ∀ {l : List Ob}, zu5 l → ∀ o ∈ l, o.holds
 | [], _, o, h => by cases h
 | .p q :: l, h, o, hm => by
  rcases List.mem_cons.1 hm with rfl | hm
  ·exact h.1
  ·exact zkz h.2 o hm
 | .e s s' :: l, h, o, hm => by
  rcases List.mem_cons.1 hm with rfl | hm
  ·exact h.1
  ·exact zkz h.2 o hm
theorem zkA : ∀ {l : List Ob}, zu6 l → zua l = zri l → ∀ o ∈ l, o.holds
 | [], _, _, o, h => by cases h
 | .p q :: l, h, h2, o, hm => by
  rcases List.mem_cons.1 hm with rfl | hm
  ·exact h.1
  ·exact zkA h.2 h2 o hm
 | .e s s' :: l, h, h2, o, hm => by
  simp only [zua, zri, List.cons.injEq] at h2
  rcases List.mem_cons.1 hm with rfl | hm
  ·exact h2.1
  ·exact zkA (l := l) h h2.2 o hm
theorem Says.k0 {R : Type} {a : Ans R} {r : R} {Q : Prop} (hq : Q) (e : zxy a = some (r, Q)) : Says a r := by
 cases a with
 | none => cases e
 | some z =>
  obtain ⟨r', l⟩ := z
  simp only [zxy, Option.some.injEq, Prod.mk.injEq] at e
  obtain ⟨rfl, rfl⟩ := e
  exact ⟨l, rfl, zkz hq⟩
theorem Says.k1 {R : Type} {a : Ans R} {r : R} {Q : Prop} (hq : Q) (e : zxz a = some (r, Q)) (h : ansL a = ansR a) : Says a r := by
 cases a with
 | none => cases e
 | some z =>
  obtain ⟨r', l⟩ := z
  simp only [zxz, Option.some.injEq, Prod.mk.injEq] at e
  obtain ⟨rfl, rfl⟩ := e
  exact ⟨l, rfl, zkA hq h⟩
end Go.Ev
set_option linter.unusedVariables false
set_option linter.unusedSimpArgs false
set_option linter.unusedSectionVars false
namespace Go.Ev
variable [DLaw]
theorem Runs.args {P : Program} {f : FuncId} {as_ as' : List AV} {objs : List Obj} {rows : List Row} {res : Res} (h : Runs P f as_ objs rows res) (ha : ∀ x vals, ze0 x as' vals → ze0 x as_ vals) : Runs P f as' objs rows res :=
 ⟨h.1, h.2.1, h.2.2.1, fun x vals hgd h1 h2 h3 => h.2.2.2 x vals hgd h1 h2 (ha x vals h3)⟩
theorem Runs.split {P : Program} {f : FuncId} {as_ a1 a2 : List AV} {objs : List Obj} {rows : List Row} {res : Res} (h1 : Runs P f a1 objs rows res) (h2 : Runs P f a2 objs rows res)
  (ha : ∀ x vals, ze0 x as_ vals → ze0 x a1 vals ∨ ze0 x a2 vals) : Runs P f as_ objs rows res :=
 ⟨h1.1, h1.2.1, h1.2.2.1, fun x vals gd g1 g2 g3 => (ha x vals g3).elim (h1.2.2.2 x vals gd g1 g2) (h2.2.2.2 x vals gd g1 g2)⟩
theorem Runs.res {P : Program} {f : FuncId} {as_ : List AV} {objs : List Obj} {rows : List Row} {res res' : Res} (h : Runs P f as_ objs rows res) (hok : zhy res' = true) (hlen : objs.length ≤ res'.2.1.length)
  (hr : ∀ y v, Sto y (zaC 0 res.2.1) (zaC 0 (res.2.2.map .live)) → RepS y (zge res.1) v → ∃ z : Cx, z.w = y.w ∧ Ext y z ∧ z.g.ob = y.g.ob ∧ Sto z (zaC 0 res'.2.1) (zaC 0 (res'.2.2.map .live)) ∧ RepS z (zge res'.1) v) :
  Runs P f as_ objs rows res' :=
 ⟨h.1, hok, hlen, fun x vals hgd h1 h2 h3 => Calls.mono (h.2.2.2 x vals hgd h1 h2 h3) (by
  rintro e w' ⟨v, y, he, hw, hx, hpin, hs, hv⟩
  obtain ⟨z, hzw, hyz, hzo, hs2, hv2⟩ := hr y v hs hv
  exact ⟨v, z, he, hzw.trans hw, hx.trans hyz, fun o ho => by rw [hzo]; exact hpin o ho, hs2, hv2⟩)⟩
theorem Runs.close0 {P : Program} {f : FuncId} {as_ : List AV} {rows : List Row} {n : Nat} {t : Bool} {rw : Row} (h : Runs P f as_ [] rows ([.one (.own 0 0 n t)], [], [rw])) (hn : n = rw.len) :
  Runs P f as_ [] rows ([.one (.pv (rw.pv t))], [], []) := by
 refine h.res rfl (Nat.zero_le _) fun y v hs hv => ?_
 have hrb : lkup 0 (zaC 0 ([rw].map RowB.live)) = some (.live rw) := rfl
 obtain ⟨z, hzw, hzg, hx, hs', hrow⟩ := zlb hs hrb
 refine ⟨z, hzw, hx, by rw [hzg], ?_, ⟨?_, ?_⟩⟩
 ·exact ⟨fun o l hl => (by cases hl), fun r rw' hl => (by cases hl), fun r rw' hl => (by cases hl), fun o o' l l' hl => (by cases hl), fun r r' rw1 rw2 hl => (by cases hl), fun o r l rw' hl => (by cases hl), hs'.Slt, hs'.Blt, hs'.SB⟩
 ·exact hv.1
 ·have h1 := zhl (hv.2.mono hx (by rw [hzg]; exact G.Le.refl _)) hrow
  have : rw.cut 0 n = rw := by
   rw [hn]
   cases rw <;> simp [Row.cut, Row.len]
  rw [this] at h1
  exact h1
theorem zrh {x : Cx} {k : IntKind} {t : Bool} {v : Value} (h : RepA x (.one (.pv (.ints k [] t))) v) : RepA x (.one (.pv .nils)) v ∨ RepA x (.one (.pv .emp)) v := by
 obtain ⟨h1, h2⟩ := h
 simp only [RepC, RepP] at h2
 rcases h2 with ⟨h2, _⟩ | ⟨b, o, cap, sp, h2, _⟩
 ·exact .inl ⟨h1, by simpa only [RepC, RepP] using h2⟩
 ·exact .inr ⟨h1, by simp only [RepC, RepP]; exact ⟨b, o, cap, sp, h2⟩⟩
theorem ztw {x : Cx} {sz : Nat} {t : Bool} {v : Value} (h : RepA x (.one (.pv (.recs sz [] t))) v) : RepA x (.one (.pv .nils)) v ∨ RepA x (.one (.pv .emp)) v := by
 obtain ⟨h1, h2⟩ := h
 simp only [RepC, RepP] at h2
 rcases h2 with ⟨h2, _⟩ | ⟨b, o, cap, sp, h2, _⟩
 ·exact .inl ⟨h1, by simpa only [RepC, RepP] using h2⟩
 ·exact .inr ⟨h1, by simp only [RepC, RepP]; exact ⟨b, o, cap, sp, h2⟩⟩
theorem zul {x : Cx} {k : IntKind} {t : Bool} {v : Value} (h : RepA x (.one (.pv .nils)) v) : RepA x (.one (.pv (.ints k [] t))) v := by
 obtain ⟨h1, h2⟩ := h
 simp only [RepC, RepP] at h2
 exact ⟨h1, by simp only [RepC, RepP]; exact .inl ⟨h2, rfl⟩⟩
theorem Runs.void {P : Program} {f : FuncId} {as_ : List AV} {rw : Row} (h0 : rw.len = 0 ∧ 0 < rw.esz) (h : Runs P f as_ [] [] ([.one (.pv .nils)], [], [])) : Runs P f as_ [] [] ([.one (.own 0 0 0 false)], [], [rw]) := by
 refine h.res rfl (Nat.zero_le _) fun y v hs hv => ?_
 obtain ⟨h1, h2⟩ := hv
 simp only [RepC, RepP] at h2
 let z : Cx := { y with g := { ob := y.g.ob, rb := fun _ => 0, rs := fun _ => rw.esz, rc := fun _ => 0, rl := fun _ => 0, U := fun _ => True } }
 have hvir : Vir z 0 rw := ⟨rfl, rfl, h0.1, h0.1, h0.2⟩
 have one : ∀ {r : Nat} {rb : RowB}, lkup r (zaC 0 ([rw].map RowB.live)) = some rb → r = 0 ∧ rb = .live rw := by
  intro r rb hl
  simp only [zaC, List.map_cons, List.map_nil] at hl
  rw [zao] at hl
  split at hl
  ·rename_i e; cases hl; exact ⟨e, rfl⟩
  ·cases hl
 refine ⟨z, rfl, ⟨rfl, rfl, rfl, Nat.le_refl _, fun _ _ _ => rfl, fun _ h => .inl h, rfl, fun _ => Nat.le_refl _⟩, rfl, ⟨fun o l hl => (by cases hl), ?_, ?_, fun o o' l l' hl => (by cases hl), ?_, fun o r l rw' hl => (by cases hl), hs.Slt, hs.Blt, hs.SB⟩, h1, ?_⟩
 ·intro r rw' hl
  obtain ⟨rfl, h3⟩ := one hl
  cases h3
  exact ⟨trivial, .inr hvir⟩
 ·intro r rw' hl
  obtain ⟨_, h3⟩ := one hl
  cases h3
 ·intro r r' rw1 rw2 hl hl' hv1
  obtain ⟨rfl, h3⟩ := one hl
  cases h3
  exact (hv1 hvir).elim
 ·simp only [RepC]
  exact ⟨trivial, Nat.le_refl _, .inl ⟨h2, rfl⟩⟩
end Go.Ev
set_option linter.unusedVariables false
set_option linter.unusedSimpArgs false
namespace Go.Ev
theorem zql (n : Nat) : (2 : Int) ^ n = ((2 ^ n : Nat) : Int) := by simp
theorem znh {k : IntKind} (hs : k.signed = false) {a : Nat} (ha : a < 2 ^ k.bits) : k.wrap (a : Int) = (a : Int) := by
 unfold IntKind.wrap
 have h : (a : Int) % (2 ^ k.bits : Int) = (a : Int) := by
  rw [zql]
  exact Int.emod_eq_of_lt (by omega) (by exact_mod_cast ha)
 simp [h, hs]
theorem ziN {n a : Nat} (ha : a < 2 ^ n) : (BitVec.ofInt n (a : Int)).toNat = a := by
 rw [BitVec.ofInt_natCast, BitVec.toNat_ofNat, Nat.mod_eq_of_lt ha]
theorem zsK {k : IntKind} (hs : k.signed = false) {a b : Nat} (ha : a < 2 ^ k.bits) (hb : b < 2 ^ k.bits) : iand k a b = ((a &&& b : Nat) : Int) := by
 unfold iand
 rw [BitVec.toNat_and, ziN ha, ziN hb]
 exact znh hs (Nat.and_lt_two_pow a hb)
theorem zp5 {k : IntKind} (hs : k.signed = false) {a b : Nat} (ha : a < 2 ^ k.bits) (hb : b < 2 ^ k.bits) : ior k a b = ((a ||| b : Nat) : Int) := by
 unfold ior
 rw [BitVec.toNat_or, ziN ha, ziN hb]
 exact znh hs (Nat.or_lt_two_pow ha hb)
theorem zna {k : IntKind} {a n : Nat} (hn : n ≤ k.bits) : ishr k a n = ((a / 2 ^ n : Nat) : Int) := by
 unfold ishr
 rw [Int.toNat_natCast, Nat.min_eq_left hn, zql]
 exact Int.ofNat_fdiv a (2 ^ n) |>.symm
theorem zsL {k : IntKind} (hs : k.signed = false) {a n : Nat} (hn : n ≤ k.bits) (h : a * 2 ^ n < 2 ^ k.bits) : ishl k a n = ((a * 2 ^ n : Nat) : Int) := by
 unfold ishl
 rw [Int.toNat_natCast, Nat.min_eq_left hn, zql]
 have := znh hs h
 push_cast at this ⊢
 exact this
end Go.Ev
set_option linter.unusedSectionVars false
namespace Go.Ev
set_option linter.unusedVariables false
set_option linter.unusedSimpArgs false
mutual
inductive WkP : PV → PV → Prop
 | eq {p q} : p = q → WkP p q
 | nilsI {k t} : WkP .nils (.ints k [] t)
 | nilsB {t} : WkP .nils (.bools [] t)
 | nilsR {sz t} : WkP .nils (.recs sz [] t)
 | empI {k} : WkP .emp (.ints k [] false)
 | empB : WkP .emp (.bools [] false)
 | empR {sz} : WkP .emp (.recs sz [] false)
 | ints {k l l' t} : l = l' → WkP (.ints k l t) (.ints k l' false)
 | bools {l l' t} : l = l' → WkP (.bools l t) (.bools l' false)
 | recs {sz l l' t} : WkPss l l' → WkP (.recs sz l t) (.recs sz l' false)
 | recsT {sz l l' t} : WkPss l l' → WkP (.recs sz l t) (.recs sz l' t)
 | imm {l l' off} : WkPs l l' → WkP (.imm l off) (.imm l' off)
inductive WkPs : List PV → List PV → Prop
 | nil : WkPs [] []
 | cons {p q l m} : WkP p q → WkPs l m → WkPs (p :: l) (q :: m)
inductive WkPss : List (List PV) → List (List PV) → Prop
 | eq {l m} : l = m → WkPss l m
 | nil : WkPss [] []
 | cons {p q l m} : WkPs p q → WkPss l m → WkPss (p :: l) (q :: m)
 | app {α : Type} {f : α → List PV} {a b l m} : WkPss a (List.map f l) → WkPss b (List.map f m) → WkPss (a ++ b) (List.map f (l ++ m))
end
def WkEs : List (List PV × List PV) → List (List PV × List PV) → Prop
 | [], [] => True
 | e :: l, d :: m => (e.1 = d.1 ∧ WkPs e.2 d.2) ∧ WkEs l m
 | _, _ => False
inductive WkH : HV → HV → Prop
 | eq {c d} : c = d → WkH c d
 | pv {a p q} : WkPs p q → WkH (.pv a p) (.pv a q)
@[reducible] def WkHs : List HV → List HV → Prop
 | [], [] => True
 | c :: cs, d :: ds => WkH c d ∧ WkHs cs ds
 | _, _ => False
inductive Wk : CV → CV → Prop
 | eq {c d} : c = d → Wk c d
 | pv {p q} : WkP p q → Wk (.pv p) (.pv q)
 | bor {p q} : WkP p q → Wk (.bor p) (.bor q)
 | own {r off n n' t} : n = n' → Wk (.own r off n t) (.own r off n' t)
 | ownF {r off n n' t} : n = n' → Wk (.own r off n t) (.own r off n' false)
 | maph {kk va ents ents' mk} : WkEs ents ents' → Wk (.maph kk va ents mk) (.maph kk va ents' [])
 | fn {f caps caps'} : WkHs caps caps' → Wk (.fn f caps) (.fn f caps')
@[reducible] def WkL : List CV → List CV → Prop
 | [], [] => True
 | c :: cs, d :: ds => Wk c d ∧ WkL cs ds
 | _, _ => False
@[reducible] def WkA : AV → AV → Prop
 | .one c, .one d => Wk c d
 | .agg l, .agg m => WkL l m
 | _, _ => False
@[reducible] def WkAs : List AV → List AV → Prop
 | [], [] => True
 | c :: cs, d :: ds => WkA c d ∧ WkAs cs ds
 | _, _ => False
@[reducible] def WkOs : List Obj → List Obj → Prop
 | [], [] => True
 | c :: cs, d :: ds => WkL c d ∧ WkOs cs ds
 | _, _ => False
@[reducible] def WkS : SV → SV → Prop
 | .av a, .av b => WkA a b
 | .tup l, .tup m => WkAs l m
 | _, _ => False
@[reducible] def WkN {α : Type} (R : α → α → Prop) : List (Nat × α) → List (Nat × α) → Prop
 | [], [] => True
 | c :: cs, d :: ds => (c.1 = d.1 ∧ R c.2 d.2) ∧ WkN R cs ds
 | _, _ => False
inductive zjm : Row → Row → Prop
 | eq {r r'} : r = r' → zjm r r'
 | recs {sz l l'} : WkPss l l' → zjm (.recs sz l) (.recs sz l')
@[reducible] def WkRs : List Row → List Row → Prop
 | [], [] => True
 | c :: cs, d :: ds => zjm c d ∧ WkRs cs ds
 | _, _ => False
@[reducible] def WkRB : RowB → RowB → Prop
 | .live r, .live r' => zjm r r'
 | .froz r, .froz r' => zjm r r'
 | .gone, .gone => True
 | _, _ => False
@[reducible] def WkSl (s : List (Nat × SV)) : List (Nat × SV) → Prop
 | [] => True
 | (t, v) :: l => (∃ u, lkup t s = some u ∧ WkS u v) ∧ WkSl s l
@[reducible] def WkSt (s s' : St) : Prop := WkSl s.slots s'.slots ∧ WkN WkL s.objs s'.objs ∧ WkN WkRB s.rows s'.rows
theorem SlAt.slack {w : World} {ok : Nat → Prop} {n : Nat} {t : Bool} {v : Value} {F : (Nat → Option Value) → Prop} (h : SlAt w ok n t v F) : SlAt w ok n false v F := by
 rcases h with h | ⟨b, o, cap, sp, h1, h2, h3, h4⟩
 ·exact .inl h
 ·exact .inr ⟨b, o, cap, sp, h1, h2, by simp, h4⟩
theorem zpw {w : World} {ok : Nat → Prop} {sz : Nat} : ∀ {a b : List (List PV)} {f : Nat → Option Value}, za4 w ok sz (a ++ b) f ↔ za4 w ok sz a f ∧ za4 w ok sz b fun i => f (i + a.length * sz)
 | [], b, f => by simp [za4]
 | e :: a, b, f => by
  simp only [List.cons_append, za4, zpw (a := a), List.length_cons]
  have : (fun i => f (i + a.length * sz + sz)) = fun i => f (i + (a.length + 1) * sz) := by
   funext i; congr 1; rw [Nat.add_mul]; omega
  rw [this]
  constructor
  ·rintro ⟨h1, h2, h3, h4⟩; exact ⟨⟨h1, h2, h3⟩, h4⟩
  ·rintro ⟨⟨h1, h2, h3⟩, h4⟩; exact ⟨h1, h2, h3, h4⟩
mutual
theorem WkP.rep : ∀ {p q : PV}, WkP p q → ∀ {w : World} {ok okr : Nat → Prop} {v : Value}, RepP w ok okr p v → RepP w ok okr q v
 | _, _, .eq h, w, ok, okr, v, hp => by subst h; exact hp
 | _, _, .nilsI, w, ok, okr, v, hp => by simp only [RepP] at hp ⊢; exact .inl ⟨hp, rfl⟩
 | _, _, .nilsB, w, ok, okr, v, hp => by simp only [RepP] at hp ⊢; exact .inl ⟨hp, rfl⟩
 | _, _, .nilsR, w, ok, okr, v, hp => by simp only [RepP] at hp ⊢; exact .inl ⟨hp, rfl⟩
 | _, _, .empI, w, ok, okr, v, hp => by simp only [RepP] at hp ⊢; obtain ⟨b, o, cap, sp, hv⟩ := hp; exact .inr ⟨b, o, cap, sp, hv, Nat.zero_le _, by simp, fun h => absurd h (Nat.lt_irrefl _)⟩
 | _, _, .empB, w, ok, okr, v, hp => by simp only [RepP] at hp ⊢; obtain ⟨b, o, cap, sp, hv⟩ := hp; exact .inr ⟨b, o, cap, sp, hv, Nat.zero_le _, by simp, fun h => absurd h (Nat.lt_irrefl _)⟩
 | _, _, .empR, w, ok, okr, v, hp => by simp only [RepP] at hp ⊢; obtain ⟨b, o, cap, sp, hv⟩ := hp; exact .inr ⟨b, o, cap, sp, hv, Nat.zero_le _, by simp, fun h => absurd h (Nat.lt_irrefl _)⟩
 | _, _, .ints h, w, ok, okr, v, hp => by subst h; simp only [RepP] at hp ⊢; exact hp.slack
 | _, _, .bools h, w, ok, okr, v, hp => by subst h; simp only [RepP] at hp ⊢; exact hp.slack
 | _, _, .recs h, w, ok, okr, v, hp => by
  simp only [RepP] at hp ⊢
  rw [← WkPss.len h]
  exact hp.slack.mono (fun _ h => h) fun b o _ hF => WkPss.rep h hF
 | _, _, .recsT h, w, ok, okr, v, hp => by
  simp only [RepP] at hp ⊢
  rw [← WkPss.len h]
  exact hp.mono (fun _ h => h) fun b o _ hF => WkPss.rep h hF
 | _, _, .imm h, w, ok, okr, v, hp => by
  simp only [RepP] at hp ⊢
  obtain ⟨b, o, h1, h2, h3⟩ := hp
  exact ⟨b, o, h1, h2, WkPs.rep h h3⟩
theorem WkPs.rep : ∀ {l m : List PV}, WkPs l m → ∀ {w : World} {ok : Nat → Prop} {f : Nat → Option Value}, zbx w ok l f → zbx w ok m f
 | _, _, .nil, w, ok, f, h => h
 | _, _, .cons h1 h2, w, ok, f, h => by
  simp only [zbx] at h ⊢
  obtain ⟨⟨v, hv, hp⟩, hs⟩ := h
  exact ⟨⟨v, hv, WkP.rep h1 hp⟩, WkPs.rep h2 hs⟩
theorem WkPss.rep : ∀ {l m : List (List PV)}, WkPss l m → ∀ {w : World} {ok : Nat → Prop} {sz : Nat} {f : Nat → Option Value}, za4 w ok sz l f → za4 w ok sz m f
 | _, _, .eq h, w, ok, sz, f, hp => by subst h; exact hp
 | _, _, .nil, w, ok, sz, f, hp => hp
 | _, _, .cons h1 h2, w, ok, sz, f, hp => by
  simp only [za4] at hp ⊢
  exact ⟨by rw [← WkPs.len h1]; exact hp.1, WkPs.rep h1 hp.2.1, WkPss.rep h2 hp.2.2⟩
 | _, _, .app h1 h2, w, ok, sz, f, hp => by
  rw [List.map_append]
  rw [zpw] at hp ⊢
  refine ⟨WkPss.rep h1 hp.1, ?_⟩
  rw [← WkPss.len h1]
  exact WkPss.rep h2 hp.2
theorem WkPs.len : ∀ {l m : List PV}, WkPs l m → l.length = m.length
 | _, _, .nil => rfl
 | _, _, .cons _ h2 => by simp [WkPs.len h2]
theorem WkPss.len : ∀ {l m : List (List PV)}, WkPss l m → l.length = m.length
 | _, _, .eq h => by rw [h]
 | _, _, .nil => rfl
 | _, _, .cons _ h2 => by simp [WkPss.len h2]
 | _, _, .app h1 h2 => by
  have := WkPss.len h1
  have := WkPss.len h2
  simp at *
  omega
end
theorem WkPs.refl : ∀ (l : List PV), WkPs l l
 | [] => .nil
 | _ :: l => .cons (.eq rfl) (WkPs.refl l)
theorem WkEs.refl : ∀ (l : List (List PV × List PV)), WkEs l l
 | [] => trivial
 | e :: l => ⟨⟨rfl, WkPs.refl _⟩, WkEs.refl l⟩
theorem WkEs.to {a b c : List (List PV × List PV)} (h : WkEs a b) (he : b = c) : WkEs a c := he ▸ h
theorem WkEs.set {k v v' : List PV} (hv : WkPs v v') : ∀ {a b : List (List PV × List PV)}, WkEs a b → WkEs (kset k v a) (kset k v' b)
 | [], [], _ => ⟨⟨rfl, hv⟩, trivial⟩
 | e :: l, d :: m, h => by
  obtain ⟨⟨h1, h2⟩, h3⟩ := h
  unfold kset
  rw [h1]
  cases keq k d.1 with
  | true => exact ⟨⟨rfl, hv⟩, h3⟩
  | false => exact ⟨⟨h1, h2⟩, WkEs.set hv h3⟩
theorem RepV.wk {w : World} {ok : Nat → Prop} {a : Bool} {p q : List PV} {v : Value} (h : RepV w ok a p v) (hw : WkPs p q) : RepV w ok a q v := by
 obtain ⟨cs, h1, h2, h3⟩ := h
 exact ⟨cs, h1, by rw [← hw.len]; exact h2, hw.rep h3⟩
theorem WkEs.rep {w : World} {ok : Nat → Prop} {kk : KK} {va : Bool} : ∀ {a b : List (List PV × List PV)} {es : List MapEntry}, WkEs a b → zdI w ok kk va a es → zdI w ok kk va b es
 | [], [], [], _, _ => trivial
 | e :: l, d :: m, x :: xs, h, hr => by
  obtain ⟨⟨h1, h2⟩, h3⟩ := h
  obtain ⟨⟨r1, r2, r3⟩, r4⟩ := hr
  exact ⟨⟨by rw [← h1]; exact r1, by rw [← h1]; exact r2, r3.wk h2⟩, WkEs.rep h3 r4⟩
def mget {K V : Type} [DecidableEq K] (k : K) : List (K × V) → Option V
 | [] => none
 | e :: l => bif decide (k = e.1) then some e.2 else mget k l
def mset {K V : Type} [DecidableEq K] (k : K) (v : V) : List (K × V) → List (K × V)
 | [] => [(k, v)]
 | e :: l => bif decide (k = e.1) then (k, v) :: l else e :: mset k v l
section
variable {K V : Type} [DecidableEq K] {f : K × V → List PV × List PV} {kf : K → List PV} {vf : V → List PV}
theorem zp6 (hf : ∀ e, f e = (kf e.1, vf e.2)) (hk : ∀ a b, keq (kf a) (kf b) = decide (a = b)) (k : K) : ∀ (m : List (K × V)), kget (kf k) (m.map f) = (mget k m).map vf
 | [] => rfl
 | e :: m => by
  simp only [List.map_cons, kget, mget, hf, hk]
  cases decide (k = e.1) with
  | true => rfl
  | false => exact zp6 hf hk k m
theorem zqf (hf : ∀ e, f e = (kf e.1, vf e.2)) (hk : ∀ a b, keq (kf a) (kf b) = decide (a = b)) (k : K) (v : V) : ∀ (m : List (K × V)), kset (kf k) (vf v) (m.map f) = (mset k v m).map f
 | [] => by simp [kset, mset, hf]
 | e :: m => by
  simp only [List.map_cons, kset, mset, hf, hk]
  cases decide (k = e.1) with
  | true => simp [hf]
  | false => simp only [cond_false, List.map_cons, hf]; rw [zqf hf hk k v m]
end
theorem znS {k : List PV} (h : keq k k = true) : ∀ (l : List (List PV × List PV)) (v : List PV), kget k (kset k v l) = some v
 | [], v => by simp [kset, kget, h]
 | e :: l, v => by
  cases he : keq k e.1 with
  | true => simp [kset, kget, he, h]
  | false => simp only [kset, kget, he, cond_false]; exact znS h l v
theorem zsM {j k : IntKind} (a b : Int × Int) : keq [.int j a.1, .int k a.2] [.int j b.1, .int k b.2] = decide (a = b) := by
 obtain ⟨a1, a2⟩ := a
 obtain ⟨b1, b2⟩ := b
 simp only [keq, Prod.mk.injEq, Bool.decide_and]
theorem WkHs.rep {x : Cx} : ∀ {l m : List HV} {vs : List Value}, WkHs l m → zni x l vs → zni x m vs
 | [], [], _, _, h => h
 | c :: cs, d :: ds, [], _, h => h
 | c :: cs, d :: ds, v :: vs, hw, h => by
  refine ⟨?_, WkHs.rep hw.2 h.2⟩
  cases hw.1 with
  | eq he => subst he; exact h.1
  | pv hp => exact RepV.wk h.1 hp
theorem Wk.rep {c d : CV} (h : Wk c d) {x : Cx} {v : Value} (hc : RepC x c v) : RepC x d v := by
 cases h with
 | eq h => subst h; exact hc
 | pv h => exact h.rep hc
 | bor h => exact h.rep hc
 | own h => subst h; exact hc
 | ownF h =>
  subst h
  obtain ⟨h1, h2, h3⟩ := hc
  refine ⟨h1, h2, ?_⟩
  rcases h3 with h3 | ⟨b, o, cap, a1, a2, a3, a4⟩
  ·exact .inl h3
  ·exact .inr ⟨b, o, cap, a1, a2, by simp, a4⟩
 | maph h => exact hc.elim
 | fn h => obtain ⟨vs, hv, hl⟩ := hc; exact ⟨vs, hv, h.rep hl⟩
theorem zhO.wk {x : Cx} {b : Nat} {l m : List CV} (h : zhO x b l) (hw : WkL l m) : zhO x b m := by
 unfold zhO at h
 split at h
 ·match m, hw with
  | [d], hw =>
   cases hw.1 with
   | eq he => subst he; exact h
   | maph he =>
    obtain ⟨es, clock, h1, h2, h3, h4, _⟩ := h
    exact ⟨es, clock, h1, he.rep h2, h3, h4, by simp⟩
 ·match m, hw with
  | [d], hw =>
   cases hw.1 with
   | eq he => subst he; exact h
 ·exact h.elim
theorem WkL.rep {x : Cx} : ∀ {l m : List CV} {vs : List Value}, WkL l m → RepL x l vs → RepL x m vs
 | [], [], _, _, h => h
 | c :: cs, d :: ds, [], _, h => h
 | c :: cs, d :: ds, v :: vs, hw, h => ⟨⟨h.1.1, hw.1.rep h.1.2⟩, WkL.rep hw.2 h.2⟩
theorem WkA.rep {x : Cx} {a b : AV} {v : Value} (hw : WkA a b) (h : RepA x a v) : RepA x b v := by
 cases a <;> cases b
 ·exact ⟨h.1, Wk.rep hw h.2⟩
 ·exact hw.elim
 ·exact hw.elim
 ·obtain ⟨cs, hv, hl⟩ := h; exact ⟨cs, hv, WkL.rep hw hl⟩
theorem WkAs.rep {x : Cx} : ∀ {l m : List AV} {vs : List Value}, WkAs l m → ze0 x l vs → ze0 x m vs
 | [], [], _, _, h => h
 | c :: cs, d :: ds, [], _, h => h
 | c :: cs, d :: ds, v :: vs, hw, h => ⟨WkA.rep hw.1 h.1, WkAs.rep hw.2 h.2⟩
theorem WkS.rep {x : Cx} {a b : SV} {v : Value} (hw : WkS a b) (h : RepS x a v) : RepS x b v := by
 cases a <;> cases b
 ·exact WkA.rep hw h
 ·exact hw.elim
 ·exact hw.elim
 ·obtain ⟨vs, hv, hl⟩ := h; exact ⟨vs, hv, WkAs.rep hw hl⟩
theorem WkAs.tup {l m : List AV} (h : WkAs l m) : WkS (zge l) (zge m) := by
 match l, m, h with
 | [], [], _ => trivial
 | [a], [b], h => exact h.1
 | a :: b :: l, c :: d :: m, h => exact h
theorem WkN.lkup {α : Type} {R : α → α → Prop} : ∀ {l m : List (Nat × α)} {n : Nat} {v : α}, WkN R l m → lkup n m = some v → ∃ u, lkup n l = some u ∧ R u v
 | [], [], n, v, _, h => by simp [Ev.lkup] at h
 | (i, a) :: l, (j, b) :: m, n, v, hw, h => by
  obtain ⟨⟨h1, h2⟩, h3⟩ := hw
  simp only at h1 h2
  subst h1
  rw [zao] at h ⊢
  split at h
  ·rename_i he
   cases h
   exact ⟨a, by rw [if_pos he], h2⟩
  ·rename_i he
   rw [if_neg he]
   exact WkN.lkup h3 h
theorem WkN.len {α : Type} {R : α → α → Prop} : ∀ {l m : List (Nat × α)}, WkN R l m → l.length = m.length
 | [], [], _ => rfl
 | _ :: _, _ :: _, h => by simp [WkN.len h.2]
theorem WkSl.lkup {s : List (Nat × SV)} : ∀ {m : List (Nat × SV)} {n : Nat} {v : SV}, WkSl s m → Ev.lkup n m = some v → ∃ u, Ev.lkup n s = some u ∧ WkS u v
 | [], n, v, _, h => by simp [Ev.lkup] at h
 | (j, b) :: m, n, v, hw, h => by
  obtain ⟨h1, h3⟩ := hw
  rw [zao] at h
  split at h
  ·rename_i he
   cases h
   rw [he]; exact h1
  ·exact WkSl.lkup h3 h
theorem WkOs.num : ∀ {l m : List Obj} {i : Nat}, WkOs l m → WkN WkL (zaC i l) (zaC i m)
 | [], [], _, _ => trivial
 | _ :: _, _ :: _, _, h => ⟨⟨rfl, h.1⟩, WkOs.num h.2⟩
theorem WkOs.len : ∀ {l m : List Obj}, WkOs l m → l.length = m.length
 | [], [], _ => rfl
 | _ :: _, _ :: _, h => by simp [WkOs.len h.2]
theorem WkRs.num : ∀ {l m : List Row} {i : Nat}, WkRs l m → WkN WkRB (zaC i (l.map .live)) (zaC i (m.map .live))
 | [], [], _, _ => trivial
 | _ :: _, _ :: _, _, h => ⟨⟨rfl, h.1⟩, WkRs.num h.2⟩
theorem WkRs.len : ∀ {l m : List Row}, WkRs l m → l.length = m.length
 | [], [], _ => rfl
 | _ :: _, _ :: _, h => by simp [WkRs.len h.2]
theorem zjm.esz {r r' : Row} (h : zjm r r') : r'.esz = r.esz := by
 cases h with
 | eq h => rw [h]
 | recs h => rfl
theorem zjm.len {r r' : Row} (h : zjm r r') : r'.len = r.len := by
 cases h with
 | eq h => rw [h]
 | recs h => exact (WkPss.len h).symm
theorem zjm.is {r r' : Row} (h : zjm r r') {w : World} {ok : Nat → Prop} {f : Nat → Option Value} (hr : zbb w ok r f) : zbb w ok r' f := by
 cases h with
 | eq h => subst h; exact hr
 | recs h => exact WkPss.rep h hr
theorem zjm.at {x : Cx} {n : Nat} {r r' : Row} (h : zjm r r') (hr : zg0 x n r) : zg0 x n r' := by
 obtain ⟨c, e, fr, h1, h2, h3, h4, h5, h6, h7⟩ := hr
 exact ⟨c, e, fr, h1, h2, h3, by rw [h.esz]; exact h4, by rw [h.len]; exact h5, by rw [h.len, h.esz]; exact h6, h.is h7⟩
theorem zjm.vir {x : Cx} {n : Nat} {r r' : Row} (h : zjm r r') : Vir x n r' ↔ Vir x n r := by
 unfold Vir
 rw [h.len, h.esz]
variable [DLaw]
theorem Sto.wk {x : Cx} {objs objs' : List (Nat × Obj)} {rows rows' : List (Nat × RowB)} (h : Sto x objs rows) (ho : WkN WkL objs objs') (hr : WkN WkRB rows rows') : Sto x objs' rows' := by
 have live : ∀ {r rw}, lkup r rows' = some (.live rw) → ∃ rw0, lkup r rows = some (.live rw0) ∧ zjm rw0 rw := by
  intro r rw hl
  obtain ⟨u, h1, h2⟩ := hr.lkup hl
  cases u with
  | live r => exact ⟨_, h1, h2⟩
  | froz => exact h2.elim
  | gone => exact h2.elim
 have froz : ∀ {r rw}, lkup r rows' = some (.froz rw) → ∃ rw0, lkup r rows = some (.froz rw0) ∧ zjm rw0 rw := by
  intro r rw hl
  obtain ⟨u, h1, h2⟩ := hr.lkup hl
  cases u with
  | froz r => exact ⟨_, h1, h2⟩
  | live => exact h2.elim
  | gone => exact h2.elim
 refine ⟨?_, ?_, ?_, ?_, ?_, ?_, h.Slt, h.Blt, h.SB⟩
 ·intro o l hl
  obtain ⟨u, h1, h2⟩ := ho.lkup hl
  obtain ⟨hu, hS, hO⟩ := h.obj o u h1
  rcases hO with ⟨c, e, fr, hh, hn, hL⟩ | hO
  ·exact ⟨hu, hS, .inl ⟨c, e, fr, hh, hn, h2.rep hL⟩⟩
  ·exact ⟨hu, hS, .inr (hO.wk h2)⟩
 ·intro r rw hl
  obtain ⟨rw0, h1, h2⟩ := live hl
  obtain ⟨hu, h3⟩ := h.live r rw0 h1
  exact ⟨hu, h3.imp (fun ⟨a, b⟩ => ⟨a, h2.at b⟩) h2.vir.2⟩
 ·intro r rw hl
  obtain ⟨rw0, h1, h2⟩ := froz hl
  obtain ⟨hu, h3⟩ := h.froz r rw0 h1
  exact ⟨hu, h3.imp (fun ⟨a, b⟩ => ⟨a, h2.at b⟩) h2.vir.2⟩
 ·intro o o' l l' h1 h2
  obtain ⟨u, h3, _⟩ := ho.lkup h1
  obtain ⟨u', h4, _⟩ := ho.lkup h2
  exact h.injO o o' u u' h3 h4
 ·intro r r' a b h1 h2 hv hv'
  obtain ⟨a0, h3, h4⟩ := live h1
  obtain ⟨b0, h5, h6⟩ := live h2
  exact h.injR r r' a0 b0 h3 h5 (fun h' => hv (h4.vir.2 h')) (fun h' => hv' (h6.vir.2 h'))
 ·intro o r l rw h1 h2 hv
  obtain ⟨u, h3, _⟩ := ho.lkup h1
  obtain ⟨a0, h4, h5⟩ := live h2
  exact h.injX o r u a0 h3 h4 (fun h' => hv (h5.vir.2 h'))
theorem zdg.wk {V : Env} {x : Cx} {s s' : St} {a : Act} (h : zdg V x s a) (hw : WkSt s s') : zdg V x s' a := by
 refine ⟨⟨h.sto.wk hw.2.1 hw.2.2, ?_, h.nt, h.df, h.pin, h.gd⟩, fun n hn => ?_⟩
 ·intro t v hl
  obtain ⟨u, h1, h2⟩ := WkSl.lkup hw.1 hl
  obtain ⟨h3, h4⟩ := h.sl t u h1
  exact ⟨h3, h2.rep h4⟩
 ·rw [← hw.2.1.len, ← hw.2.2.len]; exact h.low n hn
theorem Runs.res' {P : Program} {f : FuncId} {as_ : List AV} {objs : List Obj} {rows : List Row} {res res' : Res} (h : Runs P f as_ objs rows res) (hok : zhy res' = true) (hlen : objs.length ≤ res'.2.1.length)
  (hr : ∀ y v, Sto y (zaC 0 res.2.1) (zaC 0 (res.2.2.map .live)) → RepS y (zge res.1) v → ∃ z : Cx, z.w = y.w ∧ Ext y z ∧ (∀ o, o < objs.length → z.g.ob o = y.g.ob o) ∧ Sto z (zaC 0 res'.2.1) (zaC 0 (res'.2.2.map .live)) ∧ RepS z (zge res'.1) v) :
  Runs P f as_ objs rows res' :=
 ⟨h.1, hok, hlen, fun x vals hgd h1 h2 h3 => Calls.mono (h.2.2.2 x vals hgd h1 h2 h3) (by
  rintro e w' ⟨v, y, he, hw, hx, hpin, hs, hv⟩
  obtain ⟨z, hzw, hyz, hzo, hs2, hv2⟩ := hr y v hs hv
  exact ⟨v, z, he, hzw.trans hw, hx.trans hyz, fun o ho => by rw [hzo o ho]; exact hpin o ho, hs2, hv2⟩)⟩
theorem Runs.coe {P : Program} {f : FuncId} {as_ as' : List AV} {objs objs' : List Obj} {rows rows' : List Row} {res : Res} (h : Runs P f as_ objs rows res) (ha : WkAs as' as_) (ho : WkOs objs' objs) (hr : WkRs rows' rows) : Runs P f as' objs' rows' res := by
 have hl := ho.len
 have hl2 := hr.len
 refine ⟨h.1, h.2.1, by rw [hl]; exact h.2.2.1, fun x vals hgd h1 h2 h3 => ?_⟩
 have := h.2.2.2 x vals hgd (h1.wk ho.num hr.num) (fun n hn => by rw [← hl, ← hl2]; exact h2 n hn) (ha.rep h3)
 rw [hl]
 exact this
theorem Runs.out {P : Program} {f : FuncId} {as_ : List AV} {objs : List Obj} {rows : List Row} {as1 as2 : List AV} {ob1 ob2 : List Obj} {rw1 rw2 : List Row} (h : Runs P f as_ objs rows (as1, ob1, rw1)) (ha : WkAs as1 as2) (ho : WkOs ob1 ob2) (hr : WkRs rw1 rw2) (hok : zhy (as2, ob2, rw2) = true) : Runs P f as_ objs rows (as2, ob2, rw2) := by
 have hl := h.2.2.1
 refine h.res' hok (by show _ ≤ ob2.length; rw [← ho.len]; exact hl) fun y v hs hv => ⟨y, rfl, Ext.refl y, fun _ _ => rfl, hs.wk ho.num hr.num, ha.tup.rep hv⟩
def zgW : List Nat → List (Nat × RowB) → List (Nat × RowB)
 | [], rows => rows
 | r :: rs, rows => match lkup r rows with
  | some (.live rw) => zgW rs ((r, .froz rw) :: rows)
  | _ => zgW rs rows
theorem zk6 {objs : List (Nat × Obj)} : ∀ {rs : List Nat} {rows : List (Nat × RowB)} {x : Cx}, Sto x objs rows → ∃ y : Cx, y.w = x.w ∧ y.g = x.g ∧ Ext x y ∧ Sto y objs (zgW rs rows)
 | [], rows, x, h => ⟨x, rfl, rfl, Ext.refl x, h⟩
 | r :: rs, rows, x, h => by
  unfold zgW
  split
  ·rename_i rw hl
   obtain ⟨y, h1, h2, h3, h4, _⟩ := zlb h hl
   obtain ⟨z, h5, h6, h7, h8⟩ := zk6 (rs := rs) h4
   exact ⟨z, h5.trans h1, h6.trans h2, h3.trans h7, h8⟩
  ·exact zk6 h
def zuQ (m : Nat) (rs : List Nat) (res : Res) : Option Res :=
 let s : St := ⟨[], zaC 0 res.2.1, zgW rs (zaC 0 (res.2.2.map .live))⟩
 match part (upTo 0 m) [] (res.1.flatMap AV.cells) s with
 | some p => bif zhy (res.1.map (AV.map (p.f s.rows)), p.objs, p.rows) && Nat.ble m p.objs.length then some (res.1.map (AV.map (p.f s.rows)), p.objs, p.rows) else none
 | none => none
theorem Runs.shut {P : Program} {f : FuncId} {as_ : List AV} {objs : List Obj} {rows : List Row} {res res' : Res} (h : Runs P f as_ objs rows res) (rs : List Nat) (hc : zuQ objs.length rs res = some res') : Runs P f as_ objs rows res' := by
 unfold zuQ at hc
 dsimp only at hc
 split at hc
 ·rename_i p hp
  cases hb : (zhy (res.1.map (AV.map (p.f (zgW rs (zaC 0 (res.2.2.map .live))))), p.objs, p.rows) && Nat.ble objs.length p.objs.length) with
  | false => rw [hb] at hc; cases hc
  | true =>
   rw [hb] at hc
   simp only [cond_true, Option.some.injEq] at hc
   simp only [Bool.and_eq_true] at hb
   subst hc
   refine h.res' hb.1 (Nat.le_of_ble_eq_true hb.2) fun y v hs hv => ?_
   obtain ⟨z, h1, h2, h3, h4⟩ := zk6 (rs := rs) hs
   have hok : zgK z ⟨[], zaC 0 res.2.1, zgW rs (zaC 0 (res.2.2.map .live))⟩ p z.B := zog h4 hp (fun b hb => .inl hb)
   refine ⟨p.cx z z.B, h1, h3.trans ⟨rfl, rfl, rfl, Nat.le_refl _, fun _ _ _ => rfl, fun b hb => .inl (hok.Sx b hb), rfl, fun _ => Nat.le_refl _⟩, fun o ho => ?_, hok.sto, ?_⟩
   ·show z.g.ob (p.os.getD o 0) = _
    rw [zbB (zoh hp ho), h2]
   ·have hv2 : RepS z (zge res.1) v := hv.mono h3 (by rw [h2]; exact G.Le.refl _)
    have := zrg hok hv2
    have e : SV.map (p.f (zgW rs (zaC 0 (res.2.2.map .live)))) (zge res.1) = zge (res.1.map (AV.map (p.f (zgW rs (zaC 0 (res.2.2.map .live)))))) := by
     match res.1 with
     | [] => rfl
     | [a] => rfl
     | a :: b :: l => rfl
    rw [← e]
    exact this
 ·cases hc
section
variable {S R : Type}
def zmT (step : S → Option (S ⊕ R)) : Nat → S → Option R
 | 0, _ => none
 | n + 1, s => match step s with
  | none => none
  | some (.inl s') => zmT step n s'
  | some (.inr r) => some r
theorem zl3 {step : S → Option (S ⊕ R)} : ∀ {n m : Nat} {s : S} {r : R}, zmT step n s = some r → n ≤ m → zmT step m s = some r
 | 0, _, s, r, h, _ => by cases h
 | n + 1, 0, s, r, h, hm => by omega
 | n + 1, m + 1, s, r, h, hm => by
  simp only [zmT] at h ⊢
  split at h
  ·cases h
  ·exact zl3 h (by omega)
  ·exact h
open Classical in
noncomputable def runL (step : S → Option (S ⊕ R)) (s : S) : Option R :=
 if h : ∃ n r, zmT step n s = some r then some h.choose_spec.choose else none
theorem zlD {step : S → Option (S ⊕ R)} {s : S} {r : R} : runL step s = some r ↔ ∃ n, zmT step n s = some r := by
 unfold runL
 constructor
 ·intro h
  split at h
  ·rename_i hx
   have h1 := hx.choose_spec.choose_spec
   cases h
   exact ⟨_, h1⟩
  ·cases h
 ·rintro ⟨n, h⟩
  have hx : ∃ n r, zmT step n s = some r := ⟨n, r, h⟩
  rw [dif_pos hx]
  have h1 := hx.choose_spec.choose_spec
  have h2 := zl3 h1 (Nat.le_max_left _ n)
  have h3 := zl3 h (Nat.le_max_right hx.choose n)
  rw [h2] at h3
  exact h3
theorem za8 {step : S → Option (S ⊕ R)} {s s' : S} (h : step s = some (.inl s')) : runL step s = runL step s' := by
 apply Option.ext
 intro r
 rw [zlD, zlD]
 constructor
 ·rintro ⟨n, hn⟩
  cases n with
  | zero => cases hn
  | succ n => simp only [zmT, h] at hn; exact ⟨n, hn⟩
 ·rintro ⟨n, hn⟩
  exact ⟨n + 1, by simp only [zmT, h]; exact hn⟩
theorem zaA {step : S → Option (S ⊕ R)} {s : S} {r : R} (h : step s = some (.inr r)) : runL step s = some r :=
 zlD.2 ⟨1, by simp only [zmT, h]⟩
def zaP (P : Program) (C : Cfg) (f m : Nat) (c : Code) (st : S → St) (ex : R → Ex × St) (s : S) : S ⊕ R → Prop
 | .inl s' => ∃ sc s1, Says (zl0 (lEnv P C f m) c (st s) sc) (.normal, s1) ∧ WkSt s1 (st s')
 | .inr r => ∃ sc s1, Says (zl0 (lEnv P C f m) c (st s) sc) ((ex r).1, s1) ∧ WkSt s1 (ex r).2
theorem zaT.coe {P : Program} {nt m : Nat} {c : Code} {s0 s s' : St} {e : Ex} (h : zaT P nt m c s e s') (hw : WkSt s0 s) : zaT P nt m c s0 e s' := by
 cases c with
 | loop c =>
  obtain ⟨n, hn⟩ := h
  exact ⟨n, fun V h1 h2 h3 x a hf => hn V h1 h2 h3 x a (hf.wk hw)⟩
 | scope c =>
  obtain ⟨l, n, hl, hn⟩ := h
  exact ⟨l, n, hl, fun V h1 h2 h3 x a hf => hn V h1 h2 h3 x a (hf.wk hw)⟩
 | _ => exact fun V h1 h2 h3 x a hf => h V h1 h2 h3 x a (hf.wk hw)
theorem zaT.out {P : Program} {nt m : Nat} {c : Code} {s s1 s' : St} {e : Ex} (h : zaT P nt m c s e s1) (hw : WkSt s1 s') : zaT P nt m c s e s' := by
 have post : ∀ {V : Env} {x : Cx} {e' : Exit} {a : Act} {w : World}, Post V x e s1 e' a w → Post V x e s' e' a w := by
  rintro V x e' a w ⟨h1, y, h2, h3, h4⟩
  exact ⟨h1, y, h2, h3, h4.wk hw⟩
 cases c with
 | loop c =>
  obtain ⟨n, hn⟩ := h
  exact ⟨n, fun V h1 h2 h3 x a hf => zk4 (fun _ _ _ => post) (hn V h1 h2 h3 x a hf)⟩
 | scope c =>
  obtain ⟨l, n, hl, hn⟩ := h
  exact ⟨l, n, hl, fun V h1 h2 h3 x a hf => zl4 (fun _ _ _ => post) (hn V h1 h2 h3 x a hf)⟩
 | _ => exact fun V h1 h2 h3 x a hf => Code.wp_mono (fun _ _ _ => post) (h V h1 h2 h3 x a hf)
theorem zus {P : Program} {C : Cfg} {f m t : Nat} {c d : Code} {s s1 s' : St} {sc : List Ev} {e : Ex} (h : Says (zp0 (lEnv P C f m) t c d s sc) (e, s1)) (hw : WkSt s1 s') : zaT P (lEnv P C f m).nt m (.cond (.tmp t) c d) s e s' :=
 (zcG h).out hw
theorem zq2 {P : Program} {C : Cfg} {f m : Nat} {c : Code} {step : S → Option (S ⊕ R)} {st : S → St} {ex : R → Ex × St} (hok : ∀ s z, step s = some z → zaP P C f m c st ex s z) (hne : ∀ r, (ex r).1 ≠ .normal) :
  ∀ (n : Nat) (s : S) (r : R), zmT step n s = some r → zaT P (lEnv P C f m).nt m (.loop c) (st s) (ex r).1 (ex r).2
 | 0, s, r, h => by cases h
 | n + 1, s, r, h => by
  simp only [zmT] at h
  split at h
  ·cases h
  ·rename_i s' hs
   obtain ⟨sc, s1, h1, h2⟩ := hok _ _ hs
   exact zud h1 ((zq2 hok hne n s' r h).coe h2)
  ·rename_i r' hs
   cases h
   obtain ⟨sc, s1, h1, h2⟩ := hok _ _ hs
   exact (zuc h1 (hne r)).out h2
theorem zaJ {P : Program} {C : Cfg} {f m : Nat} {c : Code} {step : S → Option (S ⊕ R)} {st : S → St} {ex : R → Ex × St} {s : S} {r : R} (h : runL step s = some r) (hok : ∀ s z, step s = some z → zaP P C f m c st ex s z) (hne : ∀ r, (ex r).1 ≠ .normal) :
  zaT P (lEnv P C f m).nt m (.loop c) (st s) (ex r).1 (ex r).2 := by
 obtain ⟨n, hn⟩ := zlD.1 h
 exact zq2 hok hne n s r hn
end
theorem zaq {α : Type} {b : Bool} {x : Option α} {r : α} (h : (bif b then x else none) = some r) : b = true ∧ x = some r := by
 cases b
 ·cases h
 ·exact ⟨rfl, h⟩
theorem zaj {α : Type} {b : Bool} {x y : Option α} {r : α} (h : (bif b then x else y) = some r) : (b = true ∧ x = some r) ∨ (b = false ∧ y = some r) := by
 cases b
 ·exact .inr ⟨rfl, h⟩
 ·exact .inl ⟨rfl, h⟩
theorem zaf {α β : Type} {o : Option β} {k : β → Option α} {r : α} (h : o.bind k = some r) : ∃ z, o = some z ∧ k z = some r := by
 cases o
 ·cases h
 ·exact ⟨_, rfl, h⟩
theorem zad {α : Type} {x r : α} (h : some x = some r) : x = r := Option.some.inj h
theorem za7 {b : Bool} (h : b = false) : (!b) = true := by rw [h]; rfl
def zsS {α : Type} : List (Nat × α) → Bool
 | [] => true
 | (k, _) :: l => (match lkup k l with | none => true | some _ => false) && zsS l
theorem zpo {α : Type} : ∀ {l : List (Nat × α)} {k : Nat} {v : α}, zsS l = true → (k, v) ∈ l → lkup k l = some v
 | [], k, v, h, hm => by cases hm
 | (j, u) :: l, k, v, h, hm => by
  simp only [zsS, Bool.and_eq_true] at h
  rw [zao]
  rcases List.mem_cons.1 hm with he | hm
  ·cases he; rw [if_pos rfl]
  ·have h2 := zpo h.2 hm
   have hne : k ≠ j := by
    rintro rfl
    rw [h2] at h
    exact absurd h.1 (by simp)
   rw [if_neg hne]; exact h2
theorem WkL.refl : ∀ (l : List CV), WkL l l
 | [] => trivial
 | c :: l => ⟨.eq rfl, WkL.refl l⟩
theorem WkA.refl (a : AV) : WkA a a := by
 cases a with
 | one c => exact .eq rfl
 | agg l => exact WkL.refl l
theorem WkAs.refl : ∀ (l : List AV), WkAs l l
 | [] => trivial
 | a :: l => ⟨WkA.refl a, WkAs.refl l⟩
theorem WkS.refl (v : SV) : WkS v v := by
 cases v with
 | av a => exact WkA.refl a
 | tup l => exact WkAs.refl l
theorem WkN.refl {α : Type} {R : α → α → Prop} (hR : ∀ x, R x x) : ∀ (l : List (Nat × α)), WkN R l l
 | [] => trivial
 | c :: l => ⟨⟨rfl, hR c.2⟩, WkN.refl hR l⟩
theorem WkRB.refl (r : RowB) : WkRB r r := by cases r <;> first | exact .eq rfl | trivial
theorem zuY {S : List (Nat × SV)} : ∀ {L : List (Nat × SV)}, (∀ t v, (t, v) ∈ L → lkup t S = some v) → WkSl S L
 | [], _ => trivial
 | (t, v) :: L, h => ⟨⟨v, h t v (by simp), WkS.refl v⟩, zuY fun t' v' hm => h t' v' (List.mem_cons_of_mem _ hm)⟩
theorem WkSt.same {s : St} (h : zsS s.slots = true) : WkSt s s :=
 ⟨zuY fun t v hm => zpo h hm, WkN.refl WkL.refl _, WkN.refl WkRB.refl _⟩
structure Tell (sc : List Ev) (Q : Prop) : Prop where
 pf : Q
@[reducible] def Tell.ev {sc : List Ev} {Q : Prop} (_ : Tell sc Q) : List Ev := sc
theorem tN : Tell [] True := ⟨trivial⟩
theorem tO {sc : List Ev} {p Q : Prop} (h : p) (t : Tell sc Q) : Tell sc (p ∧ Q) := ⟨h, t.pf⟩
theorem tE {sc : List Ev} {Q : Prop} (e : Ev) (t : Tell sc Q) : Tell (e :: sc) Q := ⟨t.pf⟩
theorem tT {sc : List Ev} {p Q : Prop} (h : p) (t : Tell sc Q) : Tell (.br true :: sc) (p ∧ Q) := ⟨h, t.pf⟩
theorem tF {sc : List Ev} {p Q : Prop} (h : p) (t : Tell sc Q) : Tell (.br false :: sc) (p ∧ Q) := ⟨h, t.pf⟩
theorem tR {sc : List Ev} {Q : Prop} {P : Program} {f : FuncId} {as_ : List AV} {objs : List Obj} {rows : List Row} {res : Res} (h : Runs P f as_ objs rows res) (t : Tell sc Q) : Tell (.res res :: sc) (Runs P f as_ objs rows res ∧ Q) := ⟨h, t.pf⟩
theorem tL {sc : List Ev} {Q : Prop} {P : Program} {nt m : Nat} {c : Code} {s s' : St} {e : Ex} (h : zaT P nt m c s e s') (t : Tell sc Q) : Tell (.lp e s' :: sc) (zaT P nt m c s e s' ∧ Q) := ⟨h, t.pf⟩
theorem WkPss.take : ∀ {l m : List (List PV)}, WkPss l m → ∀ n : Nat, WkPss (l.take n) (m.take n)
 | _, _, .eq h, n => .eq (by rw [h])
 | _, _, .nil, n => by rw [List.take_nil]; exact .nil
 | _, _, .cons _ _, 0 => .nil
 | _, _, .cons h1 h2, n + 1 => .cons h1 (WkPss.take h2 n)
 | _, _, .app (f := f) (a := a) (b := b) (l := l) (m := m) h1 h2, n => by
  have hl := WkPss.len h1
  rw [List.length_map] at hl
  have g1 := WkPss.take h1 n
  have g2 := WkPss.take h2 (n - a.length)
  rw [← List.map_take] at g1 g2
  rw [List.take_append, ← List.map_take, List.take_append, ← hl]
  exact .app g1 g2
theorem WkPss.takeM {α : Type} {f : α → List PV} {l : List (List PV)} {m : List α} {n : Nat} (h : WkPss l (List.map f m)) : WkPss (List.take n l) (List.map f (List.take n m)) := by
 rw [List.map_take]
 exact h.take n
end Go.Ev
set_option linter.unusedVariables false
set_option linter.unusedSimpArgs false
set_option linter.unusedSectionVars false
namespace Go.Ev
variable [DLaw]
open Go.RowKit (Below)
def topG : G := { ob := fun _ => 0, rb := fun _ => 0, rs := fun _ => 0, rc := fun _ => 0, rl := fun _ => 0, U := fun _ => False }
def zqt (W : World) : Cx := { w := W, g := topG, S := fun _ => False, B := fun _ => False }
theorem zwW (W : World) : Sto (zqt W) [] [] :=
 ⟨fun _ _ h => (by cases h), fun _ _ h => (by cases h), fun _ _ h => (by cases h), fun _ _ _ _ h => (by cases h), fun _ _ _ _ h => (by cases h), fun _ _ _ _ h => (by cases h), fun _ h => h.elim, fun _ h => h.elim, fun _ h => h.elim⟩
theorem zwt {P : Program} {x : Cx} (h : (tabs.all fun e => (P.globalNamed e.1).isNone) = true) (h2 : (errs.all fun e => (P.globalNamed e).isNone) = true) (h3 : (zvS.all fun e => (P.globalNamed e.1).isNone) = true) : Gd P x := by
 refine ⟨fun e he g hg => ?_, fun e he g hg => ?_, fun e he g hg => ?_⟩
 ·have := List.all_eq_true.1 h e he
  rw [hg] at this
  cases this
 ·have := List.all_eq_true.1 h2 e he
  rw [hg] at this
  cases this
 ·have := List.all_eq_true.1 h3 e he
  rw [hg] at this
  cases this
theorem Runs.top {P : Program} {f : FuncId} {xs : List AV} {vals : List Value} {W : World} (h : Runs P f xs [] [] ([.one (.pv (.bool true))], [], [])) (hgd : Gd P (zqt W)) (hr : ze0 (zqt W) xs vals) :
  Calls P f vals.toArray W fun e W' => e = .returned (.bool true) ∧ Below W.heap.size W W' :=
 Calls.mono (h.2.2.2 (zqt W) vals hgd (zwW W) (fun _ hu => hu.elim) hr) (by
  rintro e w' ⟨v, y, rfl, rfl, hx, _, _, hv⟩
  have hb : v = .bool true := by
   have := hv.2
   simpa only [RepC, RepP] using this
  exact ⟨by rw [hb], ⟨hx.os, hx.tape, hx.output, hx.size, fun b hb => hx.blk b hb (fun h => h)⟩⟩)
theorem zwV {W : World} {b : Nat} (h : b < W.heap.size) : (zqt W).okP b := ⟨h, fun h => h, fun h => h⟩
section
open Go.ChangeShapes Go.WideShapes Go.ChangeAt Go.RowKit
variable {P : Program} {H : Type} {enc : TypeId × Value → H} {W : World} {b0 fuel : Nat} {spare : Nat → Bool} {held : Bool} {cs : List Value} {y : DataW H × List MemPlace}
theorem zwf {a : Addr} {v : Value} (h : W.cell? a = some v) : a.block < W.heap.size ∧ a.spot = none := by
 unfold World.cell? at h
 split at h
 ·rename_i hb
  refine ⟨?_, ?_⟩
  ·rcases Nat.lt_or_ge a.block W.heap.size with h' | h'
   ·exact h'
   ·rw [Array.getElem?_eq_none h'] at hb; cases hb
  ·cases hs : a.spot with
   | none => rfl
   | some _ => rw [hs] at h; simp at h
 ·cases h
theorem zwv {t e : TypeId} {k : IntKind} (ht : P.underlying t = some (.slice e)) (he : P.underlying e = some (.int k)) (hc : P.cellsOf e = 1) (h : DataW.trod enc P W b0 spare held fuel t cs = some y) :
  ∃ v l, cs = [v] ∧ v.oneCell' = true ∧ (∀ n ∈ l, (Lit.int k n).wf = true) ∧ RepP W (zqt W).okP (zqt W).okP (.ints k l false) v := by
 rcases open_ints ht he hc h with ⟨hcs, _⟩ | ⟨a, len, cap, zs, hcs, _, hl, hm, hz, _, hcell, hwz⟩
 ·exact ⟨_, [], hcs, rfl, by simp, by simp only [RepP]; exact .inl ⟨rfl, rfl⟩⟩
 ·have hlz : len ≤ zs.length := by rw [hz]; split <;> omega
  have hlen : (zs.take len).length = len := by rw [List.length_take]; omega
  refine ⟨_, zs.take len, hcs, rfl, fun n hn => hwz n (List.mem_of_mem_take hn), ?_⟩
  simp only [RepP]
  obtain ⟨b, o, sp⟩ := a
  refine .inr ⟨b, o, cap, sp, by rw [hlen], by rw [hlen]; exact hl, by simp, fun h0 => ?_⟩
  rw [hlen] at h0
  have hc0 := hcell 0 (by omega)
  obtain ⟨hb, hsp⟩ := zwf hc0
  have hsp0 : sp = none := hsp
  subst hsp0
  refine ⟨rfl, zwV hb, fun i hi => ?_⟩
  rw [hlen] at hi
  have := hcell i (by omega)
  rw [Addr.add_lit] at this
  show W.cell? ⟨b, o + i, none⟩ = _
  rw [this]
  congr 2
  simp [List.getD, List.getElem?_take, hi]
end
end Go.Ev
set_option linter.unusedVariables false
set_option linter.unusedSimpArgs false
namespace Go.Ev
instance dl00 : DLaw := dl0
theorem i64_in {n : Int} (h : -1000000000000 ≤ n) (h' : n ≤ 1000000000000) : IntKind.i64.wrap n = n := IntWalk.i64_in n ⟨by omega, by omega⟩
theorem u64_in {n : Int} (h : 0 ≤ n) (h' : n < 18446744073709551616) : IntKind.u64.wrap n = n := IntWalk.u64_in n ⟨by omega, by omega⟩
theorem zes {a b : Int} (h : -1000000000000 ≤ a + b) (h' : a + b ≤ 1000000000000) : iadd .i64 a b = a + b := i64_in h h'
theorem zia {a b : Int} (h : -1000000000000 ≤ a - b) (h' : a - b ≤ 1000000000000) : isub .i64 a b = a - b := i64_in h h'
theorem zt4 {a b : Int} (h : -1000000000000 ≤ a * b) (h' : a * b ≤ 1000000000000) : imul .i64 a b = a * b := i64_in h h'
theorem zw9 {a b : Int} (h : 0 ≤ a + b) (h' : a + b < 18446744073709551616) : iadd .u64 a b = a + b := u64_in h h'
theorem zv1 {a b : Nat} (h : a ≤ 1000000000000) : iquo .i64 (a : Int) (b : Int) = ((a / b : Nat) : Int) := by
 rw [iquo, Int.tdiv_eq_ediv_of_nonneg (by omega), ← Int.natCast_ediv]
 have h1 : ((a / b : Nat) : Int) ≤ a := by exact_mod_cast Nat.div_le_self a b
 have h0 : (0 : Int) ≤ ((a / b : Nat) : Int) := Int.natCast_nonneg _
 generalize ((a / b : Nat) : Int) = d at *
 exact i64_in (by omega) (by omega)
theorem zv2 {a b : Nat} (h : a ≤ 1000000000000) : irem .i64 (a : Int) (b : Int) = ((a % b : Nat) : Int) := by
 rw [irem, Int.tmod_eq_emod_of_nonneg (by omega), ← Int.natCast_emod]
theorem zrS {n : Nat} : fits n = decide (n ≤ 536870912) := rfl
theorem zfX {n : Nat} (h : n ≤ 536870912) : fits n = true := by simp [zrS, h]
def Bytes (l : List Int) : Prop := ∀ x ∈ l, 0 ≤ x ∧ x < 256
theorem Bytes.at {l : List Int} (h : Bytes l) {i : Nat} (hi : i < l.length) : 0 ≤ l.getD i 0 ∧ l.getD i 0 < 256 := by
 have : l.getD i 0 ∈ l := by simp [List.getD, hi]
 exact h _ this
theorem Bytes.app {l m : List Int} (h : Bytes l) (k : Bytes m) : Bytes (l ++ m) := by
 intro x hx
 rcases List.mem_append.1 hx with hx | hx
 ·exact h x hx
 ·exact k x hx
theorem zh8 {l : List Int} {i : Nat} (h : i < l.length) : l.drop i = l.getD i 0 :: l.drop (i + 1) := by
 rw [List.drop_eq_getElem_cons h]
 simp [List.getD, h]
theorem dt {p : Prop} [Decidable p] (h : p) : decide p = true := decide_eq_true h
theorem df {p : Prop} [Decidable p] (h : ¬ p) : decide p = false := decide_eq_false h
def zeu : Nat → Nat → List Bool
 | 0, _ => []
 | k + 1, v => v.testBit k :: zeu k v
theorem za3 : ∀ (k v : Nat), (zeu k v).length = k
 | 0, _ => rfl
 | k + 1, v => by simp [zeu, za3 k v]
structure Pk (l : List Int) (B : List Bool) : Prop where
 len : l.length = (B.length + 7) / 8
 byte : Bytes l
 bit : ∀ q j, j < 8 → q < l.length → (l.getD q 0).toNat.testBit (7 - j) = B.getD (8 * q + j) false
theorem Pk.nil : Pk [] [] := ⟨rfl, fun x hx => by simp at hx, fun q j _ h => by simp at h⟩
theorem zp4 {α : Type} (B : List α) (b d : α) (i : Nat) : (B ++ [b]).getD i d = if i < B.length then B.getD i d else if i = B.length then b else d := by
 simp only [List.getD]
 split
 ·rename_i h; rw [List.getElem?_append_left h]
 ·rename_i h
  rw [List.getElem?_append_right (by omega)]
  split
  ·rename_i h2; subst h2; simp
  ·rename_i h2
   rw [List.getElem?_eq_none (by simp; omega)]
   rfl
theorem znK {α : Type} {B : List α} {d : α} {i : Nat} (h : B.length ≤ i) : B.getD i d = d := by
 simp [List.getD, List.getElem?_eq_none h]
structure Pk1 (l : List Int) (B : List Bool) : Prop where
 len : l.length = B.length / 8 + 1
 byte : Bytes l
 bit : ∀ q j, j < 8 → q < l.length → (l.getD q 0).toNat.testBit (7 - j) = B.getD (8 * q + j) false
theorem Pk.room {l : List Int} {B : List Bool} (h : Pk l B) (h8 : B.length % 8 = 0) : Pk1 (l ++ [0]) B where
 len := by have := h.len; simp only [List.length_append, List.length_cons, List.length_nil]; omega
 byte := h.byte.app (by intro x hx; simp only [List.mem_singleton] at hx; omega)
 bit := by
  intro q j hj hq
  have hl := h.len
  rw [zp4]
  split
  ·rename_i hlt; exact h.bit q j hj hlt
  ·rename_i hlt
   have : q = l.length := by simp only [List.length_append, List.length_cons, List.length_nil] at hq; omega
   rw [if_pos this, znK (by omega)]
   simp
theorem Pk.room' {l : List Int} {B : List Bool} (h : Pk l B) (h8 : ¬ B.length % 8 = 0) : Pk1 l B := ⟨by have := h.len; omega, h.byte, h.bit⟩
theorem Pk1.no {l : List Int} {B : List Bool} (h : Pk1 l B) : Pk l (B ++ [false]) where
 len := by have := h.len; simp only [List.length_append, List.length_cons, List.length_nil]; omega
 byte := h.byte
 bit := by
  intro q j hj hq
  rw [h.bit q j hj hq, zp4]
  split
  ·rfl
  ·rename_i hlt; rw [znK (by omega)]; split <;> rfl
theorem zwU (r : Nat) (hr : r < 8) : 128 / 2 ^ r = 2 ^ (7 - r) := by
 rw [show (128 : Nat) = 2 ^ (7 - r) * 2 ^ r by rw [← Nat.pow_add, show 7 - r + r = 7 by omega]]
 exact Nat.mul_div_cancel _ (Nat.two_pow_pos r)
theorem Pk1.yes {l : List Int} {B : List Bool} (h : Pk1 l B) : Pk (l.set (B.length / 8) (ior .u8 (l.getD (B.length / 8) 0) (ishr .u8 128 ((B.length % 8 : Nat) : Int)))) (B ++ [true]) := by
 have hl := h.len
 have hq : B.length / 8 < l.length := by omega
 have h0 := h.byte.at hq
 have hr : B.length % 8 < 8 := Nat.mod_lt _ (by decide)
 have e1 : ishr .u8 128 ((B.length % 8 : Nat) : Int) = ((2 ^ (7 - B.length % 8) : Nat) : Int) := by
  have := zna (k := .u8) (a := 128) (n := B.length % 8) (show _ ≤ 8 by omega)
  rw [zwU _ hr] at this
  exact this
 have h2 : 2 ^ (7 - B.length % 8) < 2 ^ 8 := Nat.pow_lt_pow_right (by decide) (by omega)
 obtain ⟨c, hc⟩ : ∃ c : Nat, l.getD (B.length / 8) 0 = (c : Int) := ⟨_, (Int.toNat_of_nonneg h0.1).symm⟩
 have hc8 : c < 2 ^ 8 := by rw [hc] at h0; omega
 rw [e1, hc, zp5 (k := .u8) rfl hc8 h2]
 have ho : c ||| 2 ^ (7 - B.length % 8) < 256 := Nat.or_lt_two_pow hc8 h2
 refine ⟨by simp only [List.length_set, List.length_append, List.length_cons, List.length_nil]; omega, fun x hx => ?_, fun q j hj hq2 => ?_⟩
 ·rcases List.mem_or_eq_of_mem_set hx with hx | rfl
  ·exact h.byte x hx
  ·omega
 ·rw [List.length_set] at hq2
  have hb := h.bit q j hj hq2
  rw [zp4]
  by_cases he : q = B.length / 8
  ·subst he
   rw [hc, Int.toNat_natCast] at hb
   have hg : (l.set (B.length / 8) ((c ||| 2 ^ (7 - B.length % 8) : Nat) : Int)).getD (B.length / 8) 0 = ((c ||| 2 ^ (7 - B.length % 8) : Nat) : Int) := by
    simp [List.getD, hq]
   rw [hg, Int.toNat_natCast, Nat.testBit_or, hb, Nat.testBit_two_pow]
   by_cases hlt : 8 * (B.length / 8) + j < B.length
   ·rw [if_pos hlt]
    have : ¬ (7 - B.length % 8 = 7 - j) := by omega
    simp [this]
   ·rw [if_neg hlt, znK (by omega)]
    by_cases he2 : 8 * (B.length / 8) + j = B.length
    ·rw [if_pos he2]
     have : 7 - B.length % 8 = 7 - j := by omega
     simp [this]
    ·rw [if_neg he2]
     have : ¬ (7 - B.length % 8 = 7 - j) := by omega
     simp [this]
  ·have hg : (l.set (B.length / 8) ((c ||| 2 ^ (7 - B.length % 8) : Nat) : Int)).getD q 0 = l.getD q 0 := by
    simp only [List.getD]
    rw [List.getElem?_set_ne (Ne.symm he)]
   rw [hg, hb]
   by_cases hlt : 8 * q + j < B.length
   ·rw [if_pos hlt]
   ·exact absurd hlt (by omega)
theorem zva {a b : Nat} (ha : a < 256) (hb : b < 256) (h : ∀ j, j < 8 → a.testBit (7 - j) = b.testBit (7 - j)) : a = b := by
 apply Nat.eq_of_testBit_eq
 intro i
 rcases Nat.lt_or_ge i 8 with hi | hi
 ·have := h (7 - i) (by omega)
  rwa [show 7 - (7 - i) = i by omega] at this
 ·rw [Nat.testBit_lt_two_pow (Nat.lt_of_lt_of_le ha (Nat.pow_le_pow_right (n := 2) (by decide) hi)), Nat.testBit_lt_two_pow (Nat.lt_of_lt_of_le hb (Nat.pow_le_pow_right (n := 2) (by decide) hi))]
theorem Pk.uniq {l m : List Int} {B : List Bool} (h : Pk l B) (k : Pk m B) : l = m := by
 have hlen : l.length = m.length := by rw [h.len, k.len]
 apply List.ext_getElem hlen
 intro q h1 h2
 have a := h.byte.at h1
 have b := k.byte.at h2
 have e1 : l.getD q 0 = l[q] := by simp [List.getD, h1]
 have e2 : m.getD q 0 = m[q] := by simp [List.getD, h2]
 have := zva (a := (l.getD q 0).toNat) (b := (m.getD q 0).toNat) (by omega) (by omega) (fun j hj => by rw [h.bit q j hj h1, k.bit q j hj h2])
 rw [e1] at a this
 rw [e2] at b this
 omega
end Go.Ev
set_option linter.unusedVariables false
set_option linter.unusedSimpArgs false
namespace Go.Ev
open Go.ChangeShapes Go.WideShapes Go.ChangeAt Go.RowKit
section
variable {P : Program} {H : Type} {enc : TypeId × Value → H} {W : World} {base b0 : Nat} {r : Reach} {spare : Nat → Bool} {held : Bool} {a : Option Addr} {len cap : Nat} {d : DataW H} {p : List MemPlace}
theorem zvc {l : List Int} (h : ∀ n ∈ l, (Lit.int .u8 n).wf = true) : Bytes l := by
 intro x hx
 have := (Lit.wf_int_iff .u8 x).1 (h x hx)
 simp [IntKind.min, IntKind.max, IntKind.bits, IntKind.signed] at this
 omega
theorem zvb {t e : Nat} (ht : P.underlying t = some (.slice e)) (he : P.underlying e = some (.int .u8)) (hc : P.cellsOf e = 1)
  (h : ∃ fuel, DataW.trod enc P W b0 spare held fuel t (Value.slice a len cap).cells.toList = some (d, p)) : ∃ l, Bytes l ∧ RepA (zqt W) (.one (.pv (.ints .u8 l false))) (.slice a len cap) := by
 obtain ⟨fuel, hf⟩ := h
 obtain ⟨v, l, h1, h2, h3, h4⟩ := zwv ht he hc hf
 simp [Value.cells] at h1
 subst h1
 exact ⟨l, zvc h3, rfl, h4⟩
end
end Go.Ev
set_option linter.unusedVariables false
set_option linter.unusedSimpArgs false
set_option linter.unusedSectionVars false
namespace Go.Ev
open Go.RowKit (Below)
def zjA (P : Program) (f : FuncId) : Bool :=
 match P.funcs[f]? with
 | some fn => fn.body.isSome && !(fn.name == "runtime.NumGoroutine")
 | none => false
end Go.Ev
set_option linter.unusedVariables false
set_option linter.unusedSimpArgs false
set_option linter.unusedSectionVars false
namespace Go.Proofs
open Go.Shelf Go.RowKit Go.Lib Go.Sort
variable {P : Program} {ρ : Ren}
structure DelLays (P : Program) (ρ : Ren) (k : Nat) : Prop where
 mixed : P.follows .mixedOrders = true
 f45 : Bears P (ρ.f 45) (SlBodyN.n45 ρ)
 t0 : P.underlying (ρ.t 0) = some (TypeDesc.tuple #[])
 a0 : ∀ w, (isAgg (ρ.t 0)).run P w = .ok false w
 z0 : ∀ w, (Go.sizeOf (ρ.t 0)).run P w = .ok 1 w
 v0 : ∀ w, (zeroValue (ρ.t 0)).run P w = .ok (Value.tuple #[]) w
 t3 : P.underlying (ρ.t 3) = some (TypeDesc.int IntKind.i64)
 a3 : ∀ w, (isAgg (ρ.t 3)).run P w = .ok false w
 z3 : ∀ w, (Go.sizeOf (ρ.t 3)).run P w = .ok 1 w
 v3 : ∀ w, (zeroValue (ρ.t 3)).run P w = .ok (Value.int IntKind.i64 0) w
 t4 : P.underlying (ρ.t 4) = some (TypeDesc.bool)
 a4 : ∀ w, (isAgg (ρ.t 4)).run P w = .ok false w
 z4 : ∀ w, (Go.sizeOf (ρ.t 4)).run P w = .ok 1 w
 v4 : ∀ w, (zeroValue (ρ.t 4)).run P w = .ok (Value.bool false) w
 t22 : P.underlying (ρ.t 22) = some (TypeDesc.slice (ρ.t 23))
 a22 : ∀ w, (isAgg (ρ.t 22)).run P w = .ok false w
 z22 : ∀ w, (Go.sizeOf (ρ.t 22)).run P w = .ok 1 w
 v22 : ∀ w, (zeroValue (ρ.t 22)).run P w = .ok (Value.slice none 0 0) w
 z23 : ∀ w, (Go.sizeOf (ρ.t 23)).run P w = .ok k w
 i23 : (P.info? (ρ.t 23)).map (fun i => i.size) = some k
set_option maxHeartbeats 4000000 in
set_option maxRecDepth 1000000 in
theorem zvd {k : Nat} (L : DelLays P ρ k) (blk off cap n i : Nat) (w : World) (hcap : n ≤ cap) (hm : n ≤ 9223372036854775807) (hj : i ≤ n) :
  Calls P (ρ.f 45) #[.slice (some ⟨blk, off, none⟩) n cap, .int .i64 i, .int .i64 i] w fun e w' => e = .returned (.slice (some ⟨blk, off, none⟩) n cap) ∧ w' = w := by
 have mixed := L.mixed; have t0 := L.t0; have a0 := L.a0; have z0 := L.z0; have v0 := L.v0; have t3 := L.t3; have a3 := L.a3; have z3 := L.z3; have v3 := L.v3; have t4 := L.t4; have a4 := L.a4; have z4 := L.z4; have v4 := L.v4; have t22 := L.t22; have a22 := L.a22; have z22 := L.z22; have v22 := L.v22; have z23 := L.z23
 obtain ⟨_, _, FG⟩ := L.f45
 go_enter FG, SlBodyN.n45_ntmps ρ
 go_wp2
 all_goals (go_ret; exact ⟨rfl, rfl⟩)
set_option maxHeartbeats 4000000 in
set_option maxRecDepth 1000000 in
theorem zwh {k : Nat} (L : DelLays P ρ k) (w : World) :
  Calls P (ρ.f 45) #[.slice none 0 0, .int .i64 0, .int .i64 0] w fun e w' => e = .returned (.slice none 0 0) ∧ w' = w := by
 have mixed := L.mixed; have t0 := L.t0; have a0 := L.a0; have z0 := L.z0; have v0 := L.v0; have t3 := L.t3; have a3 := L.a3; have z3 := L.z3; have v3 := L.v3; have t4 := L.t4; have a4 := L.a4; have z4 := L.z4; have v4 := L.v4; have t22 := L.t22; have a22 := L.a22; have z22 := L.z22; have v22 := L.v22; have z23 := L.z23
 obtain ⟨_, _, FG⟩ := L.f45
 go_enter FG, SlBodyN.n45_ntmps ρ
 go_wp2
 all_goals (go_ret; exact ⟨rfl, rfl⟩)
set_option maxHeartbeats 4000000 in
set_option maxRecDepth 1000000 in
theorem zve {k : Nat} (L : DelLays P ρ k) (blk off cap n i j : Nat) (news : List Value) (w W1 W2 : World) (hcap : n ≤ cap) (hm : n ≤ 9223372036854775807) (hij : i < j) (hj : j ≤ n)
  (hlen : news.length = (n - j) * k) (hget : ∀ t u, news[t]? = some u → w.cell? ⟨blk, off + j * k + t, none⟩ = some u) (h1 : ∀ u ∈ news, u.oneCell' = true)
  (hc : ∀ t, t < n * k → (w.cell? ⟨blk, off + t, none⟩).isSome = true ∧ w.frozen? ⟨blk, off + t, none⟩ = false)
  (hW1 : W1 = w.drew.setCells blk (off + i * k) news)
  (hcl : ∀ ty, (Builtin.clear_ #[ρ.t 22] ty #[.slice (some ⟨blk, off + (i + (n - j)) * k, none⟩) (n - (i + (n - j))) (cap - (i + (n - j)))]).run P W1 = .ok (.tuple #[]) W2) :
  Calls P (ρ.f 45) #[.slice (some ⟨blk, off, none⟩) n cap, .int .i64 i, .int .i64 j] w fun e w' => e = .returned (.slice (some ⟨blk, off, none⟩) (n - (j - i)) cap) ∧ w' = W2 := by
 have mixed := L.mixed; have t0 := L.t0; have a0 := L.a0; have z0 := L.z0; have v0 := L.v0; have t3 := L.t3; have a3 := L.a3; have z3 := L.z3; have v3 := L.v3; have t4 := L.t4; have a4 := L.a4; have z4 := L.z4; have v4 := L.v4; have t22 := L.t22; have a22 := L.a22; have z22 := L.z22; have v22 := L.v22; have z23 := L.z23
 obtain ⟨i0, hi0, hz1⟩ := Option.map_eq_some_iff.1 L.i23
 obtain ⟨A, hA, hsrc⟩ : ∃ A : Addr, (if cap = j then some (⟨blk, off, none⟩ : Addr) else some ⟨blk, off + j * k, none⟩) = some A ∧ Hid (∀ t u, news[t]? = some u → w.drew.cell? (A.add t) = some u) := by
  by_cases h : cap = j
  ·refine ⟨⟨blk, off, none⟩, by simp [h], fun t u hu => ?_⟩
   have h0 : news.length = 0 := by rw [hlen, show n - j = 0 by omega, Nat.zero_mul]
   rw [List.length_eq_zero_iff.1 h0] at hu
   simp at hu
  ·refine ⟨⟨blk, off + j * k, none⟩, by simp [h], fun t u hu => ?_⟩
   rw [Addr.add_lit]
   exact hget t u hu
 have s1 : Hid (news.length = (n - j) * k) := hlen
 have s2 : Hid (∀ u ∈ news, u.oneCell' = true) := h1
 have s3 : Hid (∀ t, t < news.length → (w.drew.cell? ⟨blk, off + i * k + t, none⟩).isSome = true ∧ w.drew.frozen? ⟨blk, off + i * k + t, none⟩ = false) := by
  intro t ht
  rw [hlen] at ht
  have : i * k + t < n * k := by
   have h2 : i * k + (n - j) * k ≤ n * k := by rw [← Nat.add_mul]; exact Nat.mul_le_mul_right _ (by omega)
   omega
  rw [Nat.add_assoc]
  exact hc _ this
 have hW : Hid (W1 = w.drew.setCells blk (off + i * k) news) := hW1
 have hic : i ≤ cap := by omega
 have hjc : j ≤ cap := by omega
 clear hW1 hget hlen h1 hc
 obtain ⟨_, _, FG⟩ := L.f45
 go_enter FG, SlBodyN.n45_ntmps ρ
 go_wp2_with fail
 go_region_law_o (refine step_append_room rfl (.tmp 22) (.tmp 25) (ρ.t 22) rfl (ρ.t 23) i0 k t22 hi0 hz1 blk off i cap (by simp [Act.eval, Act.put]) A (n - j) (cap - j) news (by simp [Act.eval, Act.put]) s1.out hsrc.out s2.out (by omega) s3.out ?_; rw [← hW.out])
 go_wp2
 go_ret
 exact ⟨by rw [show n - (j - i) = i + (n - j) by omega]; rfl, rfl⟩
end Go.Proofs
set_option linter.unusedVariables false
set_option linter.unusedSimpArgs false
set_option linter.unusedSectionVars false
namespace Go.Ev
open Go.Shelf Go.RowKit Go.Lib Go.Sort Go.Proofs
variable [DLaw] {P : Program} {ρ : Ren}
theorem Sto.lk {x : Cx} {objs : List (Nat × Obj)} {rows rows' : List (Nat × RowB)} (h : ∀ q, lkup q rows' = lkup q rows) (hs : Sto x objs rows) : Sto x objs rows' :=
 ⟨hs.obj, fun q rw hq => hs.live q rw (by rw [← h]; exact hq), fun q rw hq => hs.froz q rw (by rw [← h]; exact hq), hs.injO, fun q q' a b h1 h2 => hs.injR q q' a b (by rw [← h]; exact h1) (by rw [← h]; exact h2),
  fun o q l rw h1 h2 => hs.injX o q l rw h1 (by rw [← h]; exact h2), hs.Slt, hs.Blt, hs.SB⟩
def zli (l : List (List PV)) (z : List PV) (i j : Nat) : List (List PV) := l.take i ++ (l.drop j ++ List.replicate (j - i) z)
theorem ztn {l : List (List PV)} {z : List PV} {i j : Nat} (hij : i ≤ j) (hj : j ≤ l.length) : (zli l z i j).length = l.length := by
 simp only [zli, List.length_append, List.length_take, List.length_drop, List.length_replicate]; omega
set_option maxHeartbeats 2000000 in
theorem Runs.delete {k : Nat} (L : DelLays P ρ k) (hb : zjA P (ρ.f 45) = true) (hk0 : 0 < k)
  (z : List PV) (hzl : z.length = k) {ti : TI} (hti : zeZ P (ρ.t 23) = some ti) (hzt : zoj ti.zero = some z)
  (l : List (List PV)) (hl : l.length < 4611686018427387904) (i j : Nat) (hij : i ≤ j) (hj : j ≤ l.length) :
  Runs P (ρ.f 45) [.one (.own 0 0 l.length false), .one (.pv (.int .i64 i)), .one (.pv (.int .i64 j))] [] [.recs k l] ([.one (.own 0 0 (l.length - (j - i)) false)], [], [.recs k (zli l z i j)]) := by
 unfold zjA at hb
 split at hb
 ·rename_i fn hfn
  simp only [Bool.and_eq_true, Bool.not_eq_true'] at hb
  obtain ⟨c, hc⟩ := Option.isSome_iff_exists.1 hb.1
  refine ⟨⟨fn, c, hfn, hc, hb.2⟩, rfl, Nat.le_refl _, fun x vals hgd hs hu hr => ?_⟩
  clear hb hfn hc
  match vals, hr with
  | [v0, v1, v2], hr =>
   obtain ⟨⟨h1c, hU0, hle, hown⟩, ⟨_, hv1⟩, ⟨_, hv2⟩, _⟩ := hr
   simp only [RepC, RepP] at hv1 hv2
   subst hv1
   subst hv2
   have hlive : lkup 0 (zaC 0 ([Row.recs k l].map RowB.live)) = some (.live (.recs k l)) := by simp [zaC, lkup]
   by_cases heq : i = j
   ·subst heq
    have hd : zli l z i i = l := by simp [zli]
    rw [hd, Nat.sub_self, Nat.sub_zero]
    have hlast : Calls P (ρ.f 45) #[v0, .int .i64 i, .int .i64 i] x.w fun e w' => e = .returned v0 ∧ w' = x.w := by
     rcases hown with ⟨rfl, h0⟩ | ⟨b, o, cap, rfl, hcap, _⟩
     ·obtain rfl : i = 0 := by omega
      exact zwh L x.w
     ·exact zvd L b o cap l.length i x.w hcap (by omega) hj
    refine Calls.mono hlast ?_
    rintro e w' ⟨rfl, rfl⟩
    exact ⟨v0, x, rfl, rfl, Ext.refl x, fun _ _ => rfl, hs, ⟨h1c, hU0, hle, hown⟩⟩
   ·have hlt : i < j := by omega
    have hnv : ¬ Vir x 0 (.recs k l) := fun h => by have := h.2.2.2.1; simp only [Row.len] at this; omega
    obtain ⟨_, hvir | ⟨_, hS, c, ce, fr, hh, hnf, hcs, hes, hrl, hlesz, his⟩⟩ := hs.liveC hlive
    ·exact (hnv hvir).elim
    simp only [Row.esz, Row.len] at hes hrl hlesz
    rcases hown with ⟨_, h0⟩ | ⟨b, o, cap, rfl, hcap, ht, hpl0⟩
    ·omega
    obtain ⟨rfl, ho, hfit⟩ := hpl0 (by omega)
    have ho : o = 0 := by rw [ho]; simp
    subst ho
    have hcell : ∀ t, t < l.length * k → (x.w.cell? ⟨x.g.rb 0, 0 + t, none⟩).isSome = true ∧ x.w.frozen? ⟨x.g.rb 0, 0 + t, none⟩ = false := by
     intro t ht
     have hj2 : t < c.size := by omega
     refine ⟨?_, ?_⟩
     ·unfold World.cell?
      rw [show (⟨x.g.rb 0, 0 + t, none⟩ : Addr).block = x.g.rb 0 from rfl, hh]
      simp [hj2]
     ·unfold World.frozen?
      rw [show (⟨x.g.rb 0, 0 + t, none⟩ : Addr).block = x.g.rb 0 from rfl, hh]
      have := hnf.at t hj2
      obtain ⟨lo, hi⟩ := fr
      simp only [Nat.zero_add, Bool.and_eq_false_iff, decide_eq_false_iff_not, Nat.not_le, Nat.not_lt] at this ⊢
      omega
    have c0 := zfK (r := .recs k l) (off := 0) (n := i) (by simp only [Row.len]; omega) his
    have c1 := zfK (r := .recs k l) (off := j) (n := l.length - j) (by simp only [Row.len]; omega) his
    have c3 := zfK (r := .recs k l) (off := l.length - (j - i)) (n := j - i) (by simp only [Row.len]; omega) his
    obtain ⟨news, hnl, hn1, hng⟩ := zs3 c1
    rw [ziJ (by simp only [Row.len]; omega)] at hnl
    simp only [Row.cut, Row.esz] at hnl hng
    simp only [zbb, Row.cut, Row.esz, List.drop_zero, Nat.zero_mul, Nat.zero_add] at c0 c1 c3
    rw [List.take_of_length_le (by rw [List.length_drop]; exact Nat.le_refl _)] at c1
    rw [List.take_of_length_le (by rw [List.length_drop]; omega)] at c3
    have hik : i * k + (l.length - j) * k ≤ l.length * k := by rw [← Nat.add_mul]; exact Nat.mul_le_mul_right _ (by omega)
    have hgr := Cx.grow_drew (x := x) hs.Slt
    have hs1 := hs.grow hgr
    have lt_ : (l.take i).length = i := by rw [List.length_take]; omega
    have hlen1 : (Row.recs k (l.take i ++ (l.drop j ++ l.drop (l.length - (j - i))))).len = (Row.recs k l).len := by
     simp only [Row.len, List.length_append, List.length_take, List.length_drop]; omega
    obtain ⟨y1, hrun1, hx1, hg1, hs2⟩ := zoI (P := P) (x := x.drew) (p := i * k) (vs := news) (rw' := .recs k (l.take i ++ (l.drop j ++ l.drop (l.length - (j - i))))) hs1 hlive hnv hn1 hlen1 rfl (by
      rw [hnl]; exact hik) (c0 := c) (e0 := ce) (fr0 := fr) hh (by
      refine zbb.mono (w := x.w) (w' := x.drew.w) (ok := x.okP) (fun _ hb => hb) (fun _ _ => rfl) ?_
      simp only [zbb]
      refine zd5 (zdx c0 fun q hq => ?_) (zd5 (zdx c1 fun q hq => ?_) (zdx c3 fun q hq => ?_))
      ·rw [lt_] at hq
       rw [if_neg (by omega)]
      ·rw [List.length_drop] at hq
       have hq2 : q < news.length := by rw [hnl]; exact hq
       rw [lt_, if_pos (by omega), show i * k + q - i * k = q by omega, List.getElem?_eq_getElem hq2]
       exact hng q _ (List.getElem?_eq_getElem hq2)
      ·rw [lt_, List.length_drop, if_neg (by rw [hnl]; omega)]
       congr 1
       rw [show l.length - (j - i) = i + (l.length - j) by omega, Nat.add_mul]
       omega)
    have hW1 : y1.w = x.w.drew.setCells (x.g.rb 0) (0 + i * k) news := by
     have h2 := run_storeCells_cells (P := P) (x.g.rb 0) (i * k) news 0 x.w.drew (fun q hq => (by
      have := (hcell (i * k + q) (by omega)).1
      rw [Nat.zero_add] at this
      exact this)) (fun q hq => (by
      have := (hcell (i * k + q) (by omega)).2
      rw [Nat.zero_add] at this
      exact this)) hn1
     have h3 := hrun1.symm.trans h2
     rw [Nat.zero_add]
     exact (Result.ok.inj h3).2
    have hlive2 : lkup 0 ((0, RowB.live (.recs k (l.take i ++ (l.drop j ++ l.drop (l.length - (j - i)))))) :: zaC 0 ([Row.recs k l].map RowB.live)) = some (.live (.recs k (l.take i ++ (l.drop j ++ l.drop (l.length - (j - i)))))) := by simp [lkup]
    have hnv1 : ¬ Vir y1 0 (.recs k (l.take i ++ (l.drop j ++ l.drop (l.length - (j - i))))) := fun h => by have := h.2.2.2.1; rw [hlen1] at this; simp only [Row.len] at this; omega
    obtain ⟨_, hvir | ⟨_, hS1, c', ce', fr', hh1, hnf1, hcs1, hes1, hrl1, hle1, his1⟩⟩ := hs2.liveC hlive2
    ·exact (hnv1 hvir).elim
    obtain ⟨zv, hzv, hzr⟩ := zb5 y1 hti
    have hz' := zfj hzt
    have hz1 : ∀ u ∈ zv.cells.toList, u.oneCell' = true := fun u hu => zlB hzr u hu
    have hzs : zv.cells.size = k := by
     have := zb0 hzr
     rw [hz'] at this
     rw [← hzl]
     simpa using this.symm
    have hzp : zbx y1.w y1.okP z fun i => zv.cells[i]? := by
     rw [hz'] at hzr
     have : ∀ {ps : List PV} {vs : List Value}, RepL y1 (ps.map .pv) vs → zbx y1.w y1.okP ps fun i => vs[i]? := by
      intro ps
      induction ps with
      | nil => intro vs _; simp [zbx]
      | cons p ps ih =>
       intro vs hl
       cases vs with
       | nil => exact hl.elim
       | cons u us =>
        simp only [zbx]
        exact ⟨⟨u, by simp, hl.1.2⟩, by simpa using ih hl.2⟩
     have h7 := this hzr
     simpa using h7
    have zlen : (Builtin.zeroCells zv.cells (j - i)).toList.length = (j - i) * k := by
     rw [Array.length_toList, size_zeroCells, hzs]
    have d0 := zfK (off := 0) (n := i + (l.length - j)) (by rw [hlen1]; simp only [Row.len]; omega) his1
    simp only [zbb, Row.cut, Row.esz, List.drop_zero, Nat.zero_mul, Nat.zero_add] at d0
    rw [← List.append_assoc, List.take_left' (by rw [List.length_append, lt_, List.length_drop])] at d0
    obtain ⟨y2, hrun2, hx2, hg2, hs3⟩ := zoI (P := P) (p := (i + (l.length - j)) * k) (vs := (Builtin.zeroCells zv.cells (j - i)).toList) (rw' := .recs k (zli l z i j)) hs2 hlive2 hnv1 (by
      intro u hu
      obtain ⟨q, hq⟩ := List.getElem?_of_mem hu
      have hql : q < (j - i) * zv.cells.size := by
       have := (List.getElem?_eq_some_iff.1 hq).1
       rw [zlen] at this
       rw [hzs]; exact this
      rw [zfM hql] at hq
      exact hz1 u (by have := List.mem_of_getElem? (l := zv.cells.toList) (by simpa using hq); exact this)) (by rw [hlen1]; simp only [Row.len]; exact ztn hij hj) rfl (by
      rw [zlen, hlen1]
      simp only [Row.len, Row.esz]
      rw [← Nat.add_mul]
      exact Nat.mul_le_mul_right _ (by omega)) hh1 (by
      simp only [zbb, zli]
      rw [← List.append_assoc]
      refine zd5 (zdx d0 fun q hq => ?_) ?_
      ·rw [List.length_append, lt_, List.length_drop] at hq
       rw [if_neg (by omega)]
      ·subst hzl
       refine ziO hzp hzs hk0 fun q hq => ?_
       rw [List.length_append, lt_, List.length_drop, if_pos (by rw [zlen]; omega), show (i + (l.length - j)) * z.length + q - (i + (l.length - j)) * z.length = q by omega, zfM (by rw [hzs]; exact hq), hzs])
    have hg1 : y1.g = x.g := hg1
    rw [hg1] at hrun2
    have hcl : ∀ ty, (Builtin.clear_ #[ρ.t 22] ty #[.slice (some ⟨x.g.rb 0, 0 + (i + (l.length - j)) * k, none⟩) (l.length - (i + (l.length - j))) (cap - (i + (l.length - j)))]).run P y1.w = .ok (.tuple #[]) y2.w := by
     intro ty
     rw [Nat.zero_add, show l.length - (i + (l.length - j)) = j - i by omega]
     obtain ⟨n', hn'⟩ : ∃ n', j - i = n' + 1 := ⟨j - i - 1, by omega⟩
     rw [hn'] at hrun2 ⊢
     simp [Builtin.clear_, run_underlying L.t22, hzv, hrun2]
    have hcalls := zve L (x.g.rb 0) 0 cap l.length i j news x.w y1.w y2.w hcap (by omega) hlt hj hnl (fun t u ht => by
     have := hng t u ht
     rw [Nat.zero_add]
     unfold World.cell?
     rw [show (⟨x.g.rb 0, j * k + t, none⟩ : Addr).block = x.g.rb 0 from rfl, hh]
     simpa using this) hn1 hcell hW1 hcl
    refine Calls.mono hcalls ?_
    rintro e w' ⟨rfl, rfl⟩
    have hgy : y2.g = x.g := hg2.trans hg1
    refine ⟨_, y2, rfl, rfl, hgr.ext.trans (hx1.trans hx2), fun o ho => absurd ho (Nat.not_lt_zero _), hs3.lk fun q => ?_, ⟨rfl, by rw [hgy]; exact hU0, by rw [hgy]; omega, .inr ⟨_, 0, cap, rfl, by omega, by simp, fun _ => ?_⟩⟩⟩
    ·simp only [zaC, List.map_cons, List.map_nil]
     by_cases hq : q = 0
     ·subst hq; simp [zao]
     ·simp [zao, hq]
    ·rw [hgy]
     exact ⟨rfl, by simp, hfit⟩
 ·cases hb
end Go.Ev
set_option linter.unusedVariables false
set_option linter.unusedSimpArgs false
set_option linter.unusedSectionVars false
namespace Go.Ev
open Go.Shelf Go.RowKit Go.Lib Go.Sort Go.Proofs
def fvOf : PV → Value
 | .bool b => .bool b
 | .int k n => .int k n
 | .str s => .string s
 | _ => .nilIface
def zoZ : PV → Bool
 | .bool _ => true
 | .int _ _ => true
 | .str _ => true
 | _ => false
theorem zom {w : World} {ok okr : Nat → Prop} {p : PV} {v : Value} (h : zoZ p = true) : RepP w ok okr p v ↔ v = fvOf p := by
 cases p <;> simp [zoZ] at h <;> simp [RepP, fvOf]
theorem zsJ {p : PV} (h : zoZ p = true) : (fvOf p).oneCell' = true := by
 cases p <;> simp [zoZ] at h <;> rfl
theorem zpu {w : World} {ok : Nat → Prop} : ∀ {ps : List PV} {f : Nat → Option Value}, (∀ p ∈ ps, zoZ p = true) → (zbx w ok ps f ↔ ∀ j, j < ps.length → f j = some (fvOf (ps.getD j .nils)))
 | [], f, _ => by simp [zbx]
 | p :: ps, f, h => by
  simp only [zbx]
  rw [zpu (fun q hq => h q (by simp [hq]))]
  constructor
  ·rintro ⟨⟨v, h1, h2⟩, h3⟩ j hj
   cases j with
   | zero => rw [h1, (zom (h p (by simp))).1 h2]; rfl
   | succ j => exact h3 j (by simpa using hj)
  ·intro h1
   exact ⟨⟨_, h1 0 (by simp), (zom (h p (by simp))).2 rfl⟩, fun j hj => h1 (j + 1) (by simpa using hj)⟩
theorem zf9 {w : World} {ok : Nat → Prop} {sz : Nat} : ∀ {l : List (List PV)} {f : Nat → Option Value}, (∀ ps ∈ l, ps.length = sz) → (∀ ps ∈ l, ∀ p ∈ ps, zoZ p = true) → (za4 w ok sz l f ↔ ∀ i j, i < l.length → j < sz → f (i * sz + j) = some (fvOf ((l.getD i []).getD j .nils)))
 | [], f, _, _ => by simp [za4]
 | ps :: l, f, hl, h => by
  simp only [za4]
  rw [zpu (h ps (by simp)), zf9 (fun q hq => hl q (by simp [hq])) (fun q hq => h q (by simp [hq]))]
  have hs := hl ps (by simp)
  constructor
  ·rintro ⟨_, h1, h2⟩ i j hi hj
   cases i with
   | zero => simpa using h1 j (by omega)
   | succ i =>
    have := h2 i j (by simpa using hi) hj
    rw [show (i + 1) * sz + j = i * sz + (j + sz) by rw [Nat.add_mul]; omega]
    rw [← Nat.add_assoc]
    simpa using this
  ·intro h1
   refine ⟨hs, fun j hj => by simpa using h1 0 j (by simp) (by omega), fun i j hi hj => ?_⟩
   have := h1 (i + 1) j (by simpa using hi) hj
   rw [show (i + 1) * sz + j = i * sz + j + sz by rw [Nat.add_mul]; omega] at this
   simpa using this
theorem zvn [inst : DLaw] (hd : inst.d = true) {x y : Cx} (h : Ext x y) (hS : ∀ b, ¬ x.S b) : ∃ q os, y.w = grow (x.w.drewN q) os := by
 refine ⟨y.w.drawn - x.w.drawn, y.w.heap.extract x.w.heap.size y.w.heap.size, ?_⟩
 have h1 : y.w.heap = x.w.heap ++ y.w.heap.extract x.w.heap.size y.w.heap.size := by
  apply Array.ext_getElem?
  intro b
  rcases Nat.lt_or_ge b x.w.heap.size with hb | hb
  ·rw [Array.getElem?_append_left hb]; exact h.blk b hb (hS b)
  ·rw [Array.getElem?_append_right hb, Array.getElem?_extract]
   have := h.size
   split
   ·congr 1; omega
   ·rename_i hn
    exact Array.getElem?_eq_none (by omega)
 have h2 := h.drawn hd
 have e1 := h.os
 have e2 := h.tape
 have e3 := h.output
 cases hy : y.w with
 | mk hp tp dr o ou =>
  rw [hy] at h1 h2 e1 e2 e3
  simp only at h1 h2 e1 e2 e3
  simp only [grow, World.drewN]
  rw [← h1, e1, e2, e3]
  congr 1
  omega
section
variable {P : Program} {ρ : Ren} {α : Type} [Inhabited α]
theorem zrV {pv : α → List PV} (l : List α) (i : Nat) (h : i < l.length) : (l.map pv).getD i [] = pv (l[i]'h) := by
 simp [List.getD, h]
set_option maxHeartbeats 1000000 in
theorem zte.sortFunc (L : SlLaysF0.n6 P ρ) (hb : zjA P (ρ.f 6) = true) (k : Nat) (hk0 : 0 < k) (aE : ∀ w, (isAgg (ρ.t 24)).run P w = .ok true w) (zE : ∀ w, (Go.sizeOf (ρ.t 24)).run P w = .ok k w)
  (pv : α → List PV) (hk : ∀ x, (pv x).length = k) (hpl : ∀ x, ∀ p ∈ pv x, zoZ p = true) (cf : α → α → Int) (hO : SWO (ltOf cf)) (hT : ∀ x y, (ltOf cf) x y = false → (ltOf cf) y x = false → x = y) (g : Nat)
  (hg : ∀ x y, @Runs dl1 P g [.agg ((pv x).map .pv), .agg ((pv y).map .pv)] [] [] ([.one (.pv (.int .i64 (cf x y)))], [], []))
  (eg : ∀ args w, (callFunc g args).run P w = .ok (.enter g args) w) (l : List α) (t : Bool) (hlen : l.length < 4611686018427387904) :
  zte P (ρ.f 6) [.one (.own 0 0 l.length t), .one (.fn g [])] [] [.recs k (l.map pv)] ([], [], [.recs k ((l.mergeSort fun x y => !(ltOf cf) y x).map pv)]) := by
 unfold zjA at hb
 split at hb
 ·rename_i fn hfn
  simp only [Bool.and_eq_true, Bool.not_eq_true'] at hb
  obtain ⟨c, hc⟩ := Option.isSome_iff_exists.1 hb.1
  refine ⟨⟨fn, c, hfn, hc, hb.2⟩, fun x vals hgd hs hu hr => ?_⟩
  clear hb hfn hc
  match vals, hr with
  | [v0, v1], hr =>
   obtain ⟨⟨_, hU0, hle, hown⟩, ⟨_, vs, hv1, hcap⟩, _⟩ := hr
   have hvs : vs = #[] := by
    cases hvl : vs.toList with
    | nil => exact Array.toList_eq_nil_iff.1 hvl
    | cons u us => rw [hvl] at hcap; exact hcap.elim
   subst hvs
   subst hv1
   have hrow := hs.live 0 (.recs k (l.map pv)) (by simp [zaC, lkup])
   have hpin : ∀ r, r < 1 → x.g.rb r = x.g.rb r ∧ x.g.rs r = x.g.rs r ∧ x.g.rc r = x.g.rc r ∧ x.g.rl r = x.g.rl r := fun r _ => ⟨rfl, rfl, rfl, rfl⟩
   cases l with
   | nil =>
    have hlast : Calls P (ρ.f 6) #[v0, .func (.func g) #[] #[]] x.w fun e w' => e = .returned (.tuple #[]) ∧ w' = x.w := by
     rcases hown with ⟨rfl, _⟩ | ⟨b, o, cap, rfl, _⟩
     ·exact AnyF.slices_SortFunc_none L none 0 _ x.w
     ·exact AnyF.slices_SortFunc_none L _ cap _ x.w
    refine Calls.mono hlast ?_
    rintro e w' ⟨rfl, rfl⟩
    exact ⟨_, x, rfl, rfl, Ext.refl x, hpin, by simpa [List.mergeSort] using hs, ⟨#[], rfl, trivial⟩⟩
   | cons z0 l0 =>
    generalize hll : z0 :: l0 = l at *
    have hpos : 0 < l.length := by rw [← hll]; simp
    have hnv : ¬ Vir x 0 (.recs k (l.map pv)) := fun h => by have := h.2.2.2.1; simp [Row.len] at this; rw [this] at hpos; simp at hpos
    obtain ⟨hS, ce, e, fr, hh, hnf, hcs, hes, hrl, hle1, his⟩ := hrow.2.resolve_right hnv
    simp only [Row.esz, Row.len, List.length_map] at hes hrl hle1
    rcases hown with ⟨_, h0⟩ | ⟨b, o, cap, rfl, hcap, _, hpl0⟩
    ·omega
    obtain ⟨rfl, ho, _⟩ := hpl0 (by omega)
    have ho : o = 0 := by rw [ho]; simp
    subst ho
    have hlt : x.g.rb 0 < x.w.heap.size := hs.Slt _ hS
    have hl1 : ∀ ps ∈ l.map pv, ps.length = k := by intro ps hps; obtain ⟨a, _, rfl⟩ := List.mem_map.1 hps; exact hk a
    have hl2 : ∀ ps ∈ l.map pv, ∀ p ∈ ps, zoZ p = true := by intro ps hps; obtain ⟨a, _, rfl⟩ := List.mem_map.1 hps; exact hpl a
    have his' := (zf9 hl1 hl2).1 his
    let enc : α → List Value := fun a => (pv a).map fvOf
    have henc : ∀ a, (enc a).length = k := fun a => by simp [enc, hk]
    have hget : ∀ (m : List α) (tt : Nat), tt < m.length * k → (flatK enc k m.toArray)[tt]! = fvOf (((m.map pv).getD (tt / k) []).getD (tt % k) .nils) := by
     intro m tt htt
     rw [get_flatK enc k m.toArray tt (by simpa using htt)]
     have hi : tt / k < m.length := (Nat.div_lt_iff_lt_mul hk0).2 htt
     have hj : tt % k < k := Nat.mod_lt _ hk0
     rw [zrV m _ hi]
     have hj2 : tt % k < (pv m[tt / k]).length := by rw [hk]; exact hj
     simp [enc, List.getElem!_toArray, hi, hj2, List.getD, getElem!_pos]
    have hHolds : HoldsK enc k x.w (x.g.rb 0) 0 l.toArray := by
     intro j hj
     have hj' : j < l.length * k := by simpa using hj
     have hj2 : j < ce.size := by omega
     refine ⟨?_, ?_⟩
     ·rw [id_eq, hget l j hj']
      have := his' (j / k) (j % k) (by simp; exact (Nat.div_lt_iff_lt_mul hk0).2 hj') (Nat.mod_lt _ hk0)
      rw [Nat.div_add_mod' j k] at this
      unfold World.cell?
      rw [show (⟨x.g.rb 0, 0 + j, none⟩ : Addr).block = x.g.rb 0 from rfl, hh]
      simpa using this
     ·unfold World.frozen?
      rw [show (⟨x.g.rb 0, 0 + j, none⟩ : Addr).block = x.g.rb 0 from rfl, hh]
      have := hnf.at j hj2
      obtain ⟨lo, hi⟩ := fr
      simp only [Nat.zero_add, Bool.and_eq_false_iff, decide_eq_false_iff_not, Nat.not_le, Nat.not_lt] at this ⊢
      omega
    have hcmp : CmpLays P g #[] enc k cf (x.g.rb 0) 0 l.toArray.size x.w := by
     intro m os dk hdk a1 a2
     let W := sortWorldK enc k x.w (x.g.rb 0) 0 m dk os
     let X0 : Cx := { w := W, g := topG, S := fun _ => False, B := fun _ => False }
     have hWb : ∀ b, b < x.w.heap.size → b ≠ x.g.rb 0 → W.heap[b]? = x.w.heap[b]? := by
      intro b hb hne
      show ((putRowK enc k (Sort.ahead x.w m) (x.g.rb 0) 0 dk).heap ++ os)[b]? = _
      rw [Array.getElem?_append_left (by simpa [putRowK] using hb)]
      show ((Sort.ahead x.w m).heap.modify (x.g.rb 0) _)[b]? = _
      rw [Array.getElem?_modify]
      rw [if_neg (fun h => hne h.symm)]
      rfl
     have hWs : x.w.heap.size ≤ W.heap.size := by
      show x.w.heap.size ≤ ((putRowK enc k (Sort.ahead x.w m) (x.g.rb 0) 0 dk).heap ++ os).size
      rw [Array.size_append]
      have : (putRowK enc k (Sort.ahead x.w m) (x.g.rb 0) 0 dk).heap.size = x.w.heap.size := by simp [putRowK, Sort.ahead]
      omega
     have hgd0 : Gd P X0 := hgd.of (fun b hb => ⟨Nat.lt_of_lt_of_le hb.1 hWs, fun h => h, fun h => h⟩) (fun b hb => hWb b hb.1 (fun h => hb.2.1 (h ▸ hS)))
     have hR : ze0 X0 [.agg ((pv a1).map .pv), .agg ((pv a2).map .pv)] [.agg (enc a1).toArray, .agg (enc a2).toArray] := by
      have one : ∀ a, RepA X0 (.agg ((pv a).map .pv)) (.agg (enc a).toArray) := by
       intro a
       refine ⟨(enc a).toArray, rfl, ?_⟩
       have : ∀ ps : List PV, (∀ p ∈ ps, zoZ p = true) → RepL X0 (ps.map .pv) (ps.map fvOf) := by
        intro ps
        induction ps with
        | nil => intro _; trivial
        | cons p ps ih => intro h; exact ⟨⟨zsJ (h p (by simp)), (zom (h p (by simp))).2 rfl⟩, ih fun q hq => h q (by simp [hq])⟩
       simpa [enc] using this (pv a) (hpl a)
      exact ⟨one a1, one a2, trivial⟩
     have hcall := (hg a1 a2).2.2.2 X0 [.agg (enc a1).toArray, .agg (enc a2).toArray] hgd0 ⟨fun _ _ h => (by cases h), fun _ _ h => (by cases h), fun _ _ h => (by cases h), fun _ _ _ _ h => (by cases h), fun _ _ _ _ h => (by cases h), fun _ _ _ _ h => (by cases h), fun _ h => h.elim, fun _ h => h.elim, fun _ h => h.elim⟩ (fun _ hu => hu.elim) hR
     refine Calls.mono (show Calls P g (#[.agg (enc a1).toArray, .agg (enc a2).toArray] ++ #[]) W _ from hcall) ?_
     rintro e w' ⟨v, y, rfl, rfl, hx, _, _, hv⟩
     refine ⟨?_, zvn (inst := dl1) rfl hx fun _ h => h⟩
     have := hv.2
     simp only [RepC, RepP] at this
     rw [this]
    have hcon := AnyQ.slices_SortFunc_total L k aE zE enc henc (fun a v hv => by obtain ⟨p, hp, rfl⟩ := List.mem_map.1 hv; exact zsJ (hpl a p hp)) cf hO g #[] (x.g.rb 0) 0 cap l.toArray x.w eg hcmp hHolds hlt (by simpa using hlen) hT
    have hsz : l.toArray.size = l.length := by simp
    rw [hsz] at hcon
    have htl : l.toArray.toList = l := rfl
    rw [htl] at hcon
    refine Calls.mono hcon ?_
    clear hcon hcmp
    rintro e w' ⟨rfl, m, os, rfl⟩
    generalize hms : l.mergeSort (fun x y => !(ltOf cf) y x) = ms
    have hml : ms.length = l.length := by rw [← hms]; exact List.length_mergeSort _
    have hml2 : ∀ {q : Nat}, q = l.length ↔ q = ms.length := by intro q; rw [hml]
    let W := sortWorldK enc k x.w (x.g.rb 0) 0 m ms.toArray os
    let y : Cx := { x with w := W }
    have hWb : ∀ b, b < x.w.heap.size → b ≠ x.g.rb 0 → W.heap[b]? = x.w.heap[b]? := by
     intro b hb hne
     show ((putRowK enc k (Sort.ahead x.w m) (x.g.rb 0) 0 ms.toArray).heap ++ os)[b]? = _
     rw [Array.getElem?_append_left (by simpa [putRowK] using hb)]
     show ((Sort.ahead x.w m).heap.modify (x.g.rb 0) _)[b]? = _
     rw [Array.getElem?_modify]
     rw [if_neg (fun h => hne h.symm)]
     rfl
    have hWs : x.w.heap.size ≤ W.heap.size := by
     show x.w.heap.size ≤ ((putRowK enc k (Sort.ahead x.w m) (x.g.rb 0) 0 ms.toArray).heap ++ os).size
     rw [Array.size_append]
     have : (putRowK enc k (Sort.ahead x.w m) (x.g.rb 0) 0 ms.toArray).heap.size = x.w.heap.size := by simp [putRowK, Sort.ahead]
     omega
    have hHW : HoldsK enc k W (x.g.rb 0) 0 ms.toArray := holdsK_sortWorldK enc k x.w (x.g.rb 0) 0 m l.toArray ms.toArray os hlt hHolds (by simp [hml])
    have hWr : ∃ c', W.heap[x.g.rb 0]? = some (.cells c' e fr) ∧ c'.size = ce.size := by
     refine ⟨putCells id 0 (flatK enc k ms.toArray) ce, ?_, ?_⟩
     ·show ((putRowK enc k (Sort.ahead x.w m) (x.g.rb 0) 0 ms.toArray).heap ++ os)[x.g.rb 0]? = _
      rw [Array.getElem?_append_left (by simpa [putRowK] using hlt)]
      show ((Sort.ahead x.w m).heap.modify (x.g.rb 0) _)[x.g.rb 0]? = _
      rw [Array.getElem?_modify, if_pos rfl]
      show (x.w.heap[x.g.rb 0]?).map _ = _
      rw [hh]
      rfl
     ·simp [putCells]
    obtain ⟨c', hc1, hc2⟩ := hWr
    have hx : Ext x y := ⟨rfl, rfl, rfl, hWs, fun b hb hS' => hWb b hb (fun h => hS' (h ▸ hS)), fun b hb => .inl hb, rfl, fun h => by cases h⟩
    refine ⟨_, y, rfl, rfl, hx, hpin, ⟨?_, ?_, ?_, ?_, ?_, ?_, ?_, ?_, hs.SB⟩, ⟨#[], rfl, trivial⟩⟩
    ·intro o' l' hl'; simp [zaC, lkup] at hl'
    ·intro r rw' hl'
     have hr0 : r = 0 ∧ rw' = .recs k (ms.map pv) := by
      simp only [zaC, List.map_cons, List.map_nil] at hl'
      rw [zao] at hl'
      split at hl'
      ·rename_i h0; cases hl'; exact ⟨h0, rfl⟩
      ·simp [lkup] at hl'
     obtain ⟨rfl, rfl⟩ := hr0
     refine ⟨hrow.1, .inl ⟨hS, c', e, fr, hc1, ?_, by rw [hc2]; exact hcs, hes, by simp only [Row.len, List.length_map, hml]; exact hrl, by simp only [Row.len, Row.esz, List.length_map, hml]; omega, ?_⟩⟩
     ·rcases hnf with h | h
      ·exact .inl h
      ·exact .inr (by rw [hc2]; exact h)
     ·refine (zf9 (fun ps hps => by obtain ⟨a, _, rfl⟩ := List.mem_map.1 hps; exact hk a) (fun ps hps => by obtain ⟨a, _, rfl⟩ := List.mem_map.1 hps; exact hpl a)).2 fun i j hi hj => ?_
      rw [List.length_map] at hi
      have hij : i * k + j < ms.length * k := by
       have := Nat.mul_le_mul_right k (show i + 1 ≤ ms.length from hi)
       rw [Nat.add_mul] at this
       omega
      have hc := (hHW (i * k + j) (by simpa using hij)).1
      rw [id_eq, hget ms _ hij, Nat.add_comm (i * k), Nat.add_mul_div_right _ _ hk0, Nat.add_mul_mod_self_right, Nat.div_eq_of_lt hj, Nat.mod_eq_of_lt hj, Nat.zero_add, Nat.zero_add] at hc
      unfold World.cell? at hc
      rw [show (⟨x.g.rb 0, j + i * k, none⟩ : Addr).block = x.g.rb 0 from rfl, hc1] at hc
      rw [Nat.add_comm (i * k)]
      simpa using hc
    ·intro r rw' hl'
     simp only [zaC, List.map_cons, List.map_nil] at hl'
     rw [zao] at hl'
     split at hl'
     ·cases hl'
     ·simp [lkup] at hl'
    ·intro o' _ _ _ hl'; simp [zaC, lkup] at hl'
    ·intro r r' rw1 rw2 h1 h2 _ _ _
     simp only [zaC, List.map_cons, List.map_nil] at h1 h2
     rw [zao] at h1 h2
     split at h1
     ·split at h2
      ·rename_i e1 e2; rw [e1, e2]
      ·simp [lkup] at h2
     ·simp [lkup] at h1
    ·intro o' _ _ _ hl'; simp [zaC, lkup] at hl'
    ·intro b hb; exact Nat.lt_of_lt_of_le (hs.Slt b hb) hWs
    ·intro b hb; exact Nat.lt_of_lt_of_le (hs.Blt b hb) hWs
 ·cases hb
end
end Go.Ev
set_option linter.unusedVariables false
set_option linter.unusedSimpArgs false
namespace Go.Ev
section
variable {α : Type}
structure Tot (lt : α → α → Bool) : Prop where
 irr : ∀ x, lt x x = false
 trans : ∀ x y z, lt x y = true → lt y z = true → lt x z = true
 tri : ∀ x y, lt x y = true ∨ x = y ∨ lt y x = true
theorem Tot.asym {lt : α → α → Bool} (h : Tot lt) {x y : α} (h1 : lt x y = true) : lt y x = false := by
 cases h2 : lt y x with
 | false => rfl
 | true => have := h.trans _ _ _ h1 h2; rw [h.irr] at this; cases this
def SS (lt : α → α → Bool) : List α → Prop
 | [] => True
 | x :: l => (∀ y ∈ l, lt x y = true) ∧ SS lt l
def LS (lt : α → α → Bool) : List α → Prop
 | [] => True
 | x :: l => (∀ y ∈ l, lt y x = false) ∧ LS lt l
theorem SS.uniq {lt : α → α → Bool} (h : Tot lt) : ∀ {l m : List α}, SS lt l → SS lt m → (∀ x, x ∈ l ↔ x ∈ m) → l = m
 | [], [], _, _, _ => rfl
 | [], y :: m, _, _, hm => by have := (hm y).2 (by simp); simp at this
 | x :: l, [], _, _, hm => by have := (hm x).1 (by simp); simp at this
 | x :: l, y :: m, h1, h2, hm => by
  have hxy : x = y := by
   have hx := (hm x).1 (by simp)
   have hy := (hm y).2 (by simp)
   rcases List.mem_cons.1 hx with e | hx
   ·exact e
   rcases List.mem_cons.1 hy with e | hy
   ·exact e.symm
   have a := h2.1 x hx
   have b := h1.1 y hy
   rw [h.asym a] at b
   cases b
  subst hxy
  congr 1
  refine SS.uniq h h1.2 h2.2 fun z => ?_
  constructor
  ·intro hz
   rcases List.mem_cons.1 ((hm z).1 (by simp [hz])) with e | hz'
   ·subst e; have := h1.1 z hz; rw [h.irr] at this; cases this
   ·exact hz'
  ·intro hz
   rcases List.mem_cons.1 ((hm z).2 (by simp [hz])) with e | hz'
   ·subst e; have := h2.1 z hz; rw [h.irr] at this; cases this
   ·exact hz'
theorem LS.uniq {lt : α → α → Bool} (h : Tot lt) : ∀ {l m : List α}, LS lt l → LS lt m → l.Perm m → l = m
 | [], m, _, _, hp => hp.nil_eq
 | x :: l, m, h1, h2, hp => by
  cases m with
  | nil => exact absurd hp.symm.nil_eq (by simp)
  | cons y m =>
   have hxy : x = y := by
    have hx := hp.mem_iff.1 (by simp : x ∈ x :: l)
    have hy := hp.mem_iff.2 (by simp : y ∈ y :: m)
    rcases List.mem_cons.1 hx with e | hx
    ·exact e
    rcases List.mem_cons.1 hy with e | hy
    ·exact e.symm
    rcases h.tri x y with a | a | a
    ·rw [h2.1 x hx] at a; cases a
    ·exact a
    ·rw [h1.1 y hy] at a; cases a
   subst hxy
   congr 1
   exact LS.uniq h h1.2 h2.2 ((List.perm_cons x).1 hp)
end
end Go.Ev
set_option linter.unusedVariables false
set_option linter.unusedSimpArgs false
namespace Go.Proofs
open Go.Shelf Go.Maps Go.RowKit Go.Sort
structure Mk where
 fr : Int
 no : Int
 deriving DecidableEq, Inhabited
abbrev encM (a : Mk) : Value := .agg #[.int .i64 a.fr, .int .u64 a.no]
def zhQ (a : Mk) : List Value := [.int .i64 a.fr, .int .u64 a.no]
def BodyM.n60 : Ren → Func := fun ρ => { name := "maps.Keys[map[kinfolk/deed.Mark]int,kinfolk/deed.Mark,int]", origin := "maps.Keys", targs := #[ρ.t 99, ρ.t 61, ρ.t 3], params := #[ρ.t 99], resultTypes := #[ρ.t 111], nfree := 0, ntmps := 4, results := #[ResultVar.tmp 2], body := some ((Code.region 0 #[{ dst := some 1, op := Op.box (ρ.t 99) (Operand.tmp 0), type := ρ.t 0, pos := "iter.go:25", after := #[], guard := none }, { dst := some 2, op := Op.assign (Operand.const Value.nilFunc), type := ρ.t 111, pos := "iter.go:25", after := #[], guard := none }] false).seq ((Code.region 1 #[{ dst := some 3, op := Op.makeFunc (Fn.func (ρ.f 80)) #[] #[Operand.tmp 1], type := ρ.t 110, pos := "iter.go:26", after := #[], guard := none }, { dst := some 2, op := Op.assign (Operand.tmp 3), type := ρ.t 111, pos := "iter.go:26", after := #[{ on := 0, ground := Ground.data }, { on := 0, ground := Ground.phase }], guard := none }] false).seq Code.ret)), norace := false, file := "maps/iter.go", endLine := 33, tmpNames := #["m", "m", "", ""] }
def BodyM.n80 : Ren → Func := fun ρ => { name := "maps.Keys[map[kinfolk/deed.Mark]int,kinfolk/deed.Mark,int]$1", origin := "", params := #[ρ.t 59], resultTypes := #[], nfree := 1, ntmps := 14, results := #[], body := some ((Code.region 0 #[{ dst := some 4, op := Op.load (ρ.t 99) (Operand.tmp 1), type := ρ.t 99, pos := "iter.go:27", after := #[], guard := none }, { dst := some 5, op := Op.range (ρ.t 99) (Operand.tmp 4), type := ρ.t 0, pos := "iter.go:27", after := #[{ on := 0, ground := Ground.data }], guard := none }] false).seq (Code.block 0 ((Code.region 1 #[{ dst := some 6, op := Op.next (Operand.tmp 5) false, type := ρ.t 0, pos := "iter.go:27", after := #[], guard := none }, { dst := some 7, op := Op.extract (Operand.tmp 6) 0, type := ρ.t 4, pos := "iter.go:27", after := #[{ on := 0, ground := Ground.data }], guard := none }] false).seq ((Code.cond (Operand.tmp 7) Code.skip (Code.exit 0)).seq (Code.block 1 ((Code.region 2 #[{ dst := some 8, op := Op.entry (Operand.tmp 5), type := ρ.t 0, pos := "iter.go:27", after := #[], guard := none }, { dst := some 9, op := Op.extract (Operand.tmp 8) 0, type := ρ.t 61, pos := "iter.go:27", after := #[{ on := 0, ground := Ground.data }], guard := none }, { dst := some 3, op := Op.alloc (ρ.t 61), type := ρ.t 0, pos := "iter.go:27", after := #[], guard := none }, { dst := none, op := Op.store (ρ.t 61) (Operand.tmp 3) (Operand.tmp 9), type := ρ.t 0, pos := "iter.go:27", after := #[{ on := 2, ground := Ground.data }, { on := 1, ground := Ground.data }, { on := 0, ground := Ground.phase }, { on := 1, ground := Ground.phase }, { on := 2, ground := Ground.phase }], guard := none }] false).seq ((Code.region 3 #[{ dst := some 10, op := Op.move (Operand.tmp 0), type := ρ.t 59, pos := "iter.go:28", after := #[], guard := none }, { dst := some 11, op := Op.load (ρ.t 61) (Operand.tmp 3), type := ρ.t 61, pos := "iter.go:28", after := #[], guard := none }, { dst := some 12, op := Op.call { callee := Callee.value (Operand.tmp 10), args := #[Operand.tmp 11], argTypes := #[ρ.t 61] }, type := ρ.t 4, pos := "iter.go:28", after := #[{ on := 0, ground := Ground.data }, { on := 1, ground := Ground.data }], guard := none }, { dst := some 13, op := Op.unOp UnOp.not (ρ.t 4) (Operand.tmp 12), type := ρ.t 4, pos := "iter.go:28", after := #[{ on := 2, ground := Ground.data }], guard := none }] false).seq (Code.cond (Operand.tmp 13) Code.ret Code.skip)))))).loop)), norace := false, file := "maps/iter.go", endLine := 32, tmpNames := #["yield", "", "yield", "k", "", "", "", "", "", "", "", "", "", ""] }
theorem BodyM.n80_ntmps (ρ : Ren) : (BodyM.n80 ρ).ntmps = 14 := rfl
def BodyM.n78 : Ren → Func := fun ρ => { name := "slices.Collect[kinfolk/deed.Mark]", origin := "slices.Collect", targs := #[ρ.t 61], params := #[ρ.t 111], resultTypes := #[ρ.t 64], nfree := 0, ntmps := 5, results := #[ResultVar.tmp 2], body := some ((Code.region 0 #[{ dst := some 2, op := Op.assign (Operand.const (Value.slice none 0 0)), type := ρ.t 64, pos := "iter.go:59", after := #[], guard := none }] false).seq ((Code.region 1 #[{ dst := some 3, op := Op.move (Operand.tmp 0), type := ρ.t 111, pos := "iter.go:60", after := #[], guard := none }, { dst := some 4, op := Op.call { callee := Callee.value (Operand.func (ρ.f 93)), args := #[Operand.const (Value.slice none 0 0), Operand.tmp 3], argTypes := #[ρ.t 64, ρ.t 111] }, type := ρ.t 64, pos := "iter.go:60", after := #[{ on := 0, ground := Ground.data }], guard := none }, { dst := some 2, op := Op.assign (Operand.tmp 4), type := ρ.t 64, pos := "iter.go:60", after := #[{ on := 1, ground := Ground.data }, { on := 1, ground := Ground.chain }, { on := 0, ground := Ground.phase }, { on := 1, ground := Ground.phase }], guard := none }] false).seq Code.ret)), norace := false, file := "slices/iter.go", endLine := 61, tmpNames := #["seq", "seq", "", "", ""] }
theorem BodyM.n78_ntmps (ρ : Ren) : (BodyM.n78 ρ).ntmps = 5 := rfl
def BodyM.n93 : Ren → Func := fun ρ => { name := "slices.AppendSeq[[]kinfolk/deed.Mark,kinfolk/deed.Mark]", origin := "slices.AppendSeq", targs := #[ρ.t 64, ρ.t 61], params := #[ρ.t 64, ρ.t 111], resultTypes := #[ρ.t 64], nfree := 0, ntmps := 13, results := #[ResultVar.tmp 4], body := some ((Code.region 0 #[{ dst := some 2, op := Op.box (ρ.t 64) (Operand.tmp 0), type := ρ.t 0, pos := "iter.go:50", after := #[], guard := none }, { dst := some 4, op := Op.assign (Operand.const (Value.slice none 0 0)), type := ρ.t 64, pos := "iter.go:50", after := #[], guard := none }] false).seq (((Code.region 1 #[{ dst := some 6, op := Op.move (Operand.tmp 1), type := ρ.t 111, pos := "iter.go:51", after := #[], guard := none }] false).seq (Code.block 0 (Code.rangeFunc (Operand.tmp 6) #[7] (Code.region 2 #[{ dst := some 5, op := Op.alloc (ρ.t 61), type := ρ.t 0, pos := "iter.go:51", after := #[], guard := none }, { dst := none, op := Op.store (ρ.t 61) (Operand.tmp 5) (Operand.tmp 7), type := ρ.t 0, pos := "iter.go:51", after := #[{ on := 0, ground := Ground.data }, { on := 0, ground := Ground.phase }], guard := none }] false) (Code.block 1 (Code.region 3 #[{ dst := some 8, op := Op.load (ρ.t 64) (Operand.tmp 2), type := ρ.t 64, pos := "iter.go:52", after := #[], guard := none }, { dst := some 9, op := Op.load (ρ.t 61) (Operand.tmp 5), type := ρ.t 61, pos := "iter.go:52", after := #[], guard := none }, { dst := some 10, op := Op.buildSlice (ρ.t 64) 1 #[(0, Operand.tmp 9)], type := ρ.t 64, pos := "iter.go:52", after := #[{ on := 1, ground := Ground.data }], guard := none }, { dst := some 11, op := Op.call { callee := Callee.builtin Builtin.append, args := #[Operand.tmp 8, Operand.tmp 10], argTypes := #[ρ.t 64, ρ.t 64] }, type := ρ.t 64, pos := "iter.go:52", after := #[{ on := 0, ground := Ground.data }, { on := 2, ground := Ground.data }], guard := none }, { dst := none, op := Op.store (ρ.t 64) (Operand.tmp 2) (Operand.tmp 11), type := ρ.t 0, pos := "iter.go:52", after := #[{ on := 3, ground := Ground.data }, { on := 3, ground := Ground.chain }, { on := 0, ground := Ground.phase }, { on := 1, ground := Ground.phase }, { on := 2, ground := Ground.phase }, { on := 3, ground := Ground.phase }], guard := none }] false))))).seq ((Code.region 4 #[{ dst := some 12, op := Op.load (ρ.t 64) (Operand.tmp 2), type := ρ.t 64, pos := "iter.go:54", after := #[], guard := none }, { dst := some 4, op := Op.assign (Operand.tmp 12), type := ρ.t 64, pos := "iter.go:54", after := #[{ on := 0, ground := Ground.data }, { on := 0, ground := Ground.phase }], guard := none }] false).seq Code.ret))), norace := false, file := "slices/iter.go", endLine := 55, tmpNames := #["s", "seq", "s", "seq", "", "v", "", "", "", "", "", "", ""] }
theorem BodyM.n93_ntmps (ρ : Ren) : (BodyM.n93 ρ).ntmps = 13 := rfl
def BodyM.n59 : Ren → Func := fun ρ => { name := "slices.SortedFunc[kinfolk/deed.Mark]", origin := "slices.SortedFunc", targs := #[ρ.t 61], params := #[ρ.t 111, ρ.t 113], resultTypes := #[ρ.t 64], nfree := 0, ntmps := 12, results := #[ResultVar.tmp 4], body := some ((Code.region 0 #[{ dst := some 4, op := Op.assign (Operand.const (Value.slice none 0 0)), type := ρ.t 64, pos := "iter.go:75", after := #[], guard := none }] false).seq ((Code.region 1 #[{ dst := some 6, op := Op.move (Operand.tmp 0), type := ρ.t 111, pos := "iter.go:76", after := #[], guard := none }, { dst := some 7, op := Op.call { callee := Callee.value (Operand.func (ρ.f 78)), args := #[Operand.tmp 6], argTypes := #[ρ.t 111] }, type := ρ.t 64, pos := "iter.go:76", after := #[{ on := 0, ground := Ground.data }], guard := none }, { dst := some 5, op := Op.assign (Operand.tmp 7), type := ρ.t 64, pos := "iter.go:76", after := #[{ on := 1, ground := Ground.data }, { on := 1, ground := Ground.chain }, { on := 0, ground := Ground.phase }, { on := 1, ground := Ground.phase }], guard := none }] false).seq ((Code.region 2 #[{ dst := some 8, op := Op.move (Operand.tmp 5), type := ρ.t 64, pos := "iter.go:77", after := #[], guard := none }, { dst := some 9, op := Op.move (Operand.tmp 1), type := ρ.t 113, pos := "iter.go:77", after := #[], guard := none }, { dst := some 10, op := Op.call { callee := Callee.value (Operand.func (ρ.f 79)), args := #[Operand.tmp 8, Operand.tmp 9], argTypes := #[ρ.t 64, ρ.t 113] }, type := ρ.t 0, pos := "iter.go:77", after := #[{ on := 0, ground := Ground.data }, { on := 1, ground := Ground.data }], guard := none }] false).seq ((Code.region 3 #[{ dst := some 11, op := Op.move (Operand.tmp 5), type := ρ.t 64, pos := "iter.go:78", after := #[], guard := none }, { dst := some 4, op := Op.assign (Operand.tmp 11), type := ρ.t 64, pos := "iter.go:78", after := #[{ on := 0, ground := Ground.data }, { on := 0, ground := Ground.phase }], guard := none }] false).seq Code.ret)))), norace := false, file := "slices/iter.go", endLine := 79, tmpNames := #["seq", "cmp", "seq", "cmp", "", "s", "", "", "", "", "", ""] }
theorem BodyM.n59_ntmps (ρ : Ren) : (BodyM.n59 ρ).ntmps = 12 := rfl
structure LayM (P : Program) (ρ : Ren) (fs : Array Field) : Prop where
 mixed : P.follows .mixedOrders = true
 f59 : Bears P (ρ.f 59) (BodyM.n59 ρ)
 f60 : Bears P (ρ.f 60) (BodyM.n60 ρ)
 f78 : Bears P (ρ.f 78) (BodyM.n78 ρ)
 f80 : Bears P (ρ.f 80) (BodyM.n80 ρ)
 f93 : Bears P (ρ.f 93) (BodyM.n93 ρ)
 t0 : P.underlying (ρ.t 0) = some (TypeDesc.tuple #[])
 a0 : ∀ w, (isAgg (ρ.t 0)).run P w = .ok false w
 z0 : ∀ w, (Go.sizeOf (ρ.t 0)).run P w = .ok 1 w
 v0 : ∀ w, (zeroValue (ρ.t 0)).run P w = .ok (Value.tuple #[]) w
 t4 : P.underlying (ρ.t 4) = some (TypeDesc.bool)
 a4 : ∀ w, (isAgg (ρ.t 4)).run P w = .ok false w
 z4 : ∀ w, (Go.sizeOf (ρ.t 4)).run P w = .ok 1 w
 v4 : ∀ w, (zeroValue (ρ.t 4)).run P w = .ok (Value.bool false) w
 t3 : P.underlying (ρ.t 3) = some (TypeDesc.int IntKind.i64)
 a3 : ∀ w, (isAgg (ρ.t 3)).run P w = .ok false w
 z3 : ∀ w, (Go.sizeOf (ρ.t 3)).run P w = .ok 1 w
 v3 : ∀ w, (zeroValue (ρ.t 3)).run P w = .ok (Value.int IntKind.i64 0) w
 t61 : P.underlying (ρ.t 61) = some (TypeDesc.struct fs)
 a61 : ∀ w, (isAgg (ρ.t 61)).run P w = .ok true w
 z61 : ∀ w, (Go.sizeOf (ρ.t 61)).run P w = .ok 2 w
 v61 : ∀ w, (zeroValue (ρ.t 61)).run P w = .ok (Value.agg #[Value.int IntKind.i64 0, Value.int IntKind.u64 0]) w
 t64 : P.underlying (ρ.t 64) = some (TypeDesc.slice (ρ.t 61))
 a64 : ∀ w, (isAgg (ρ.t 64)).run P w = .ok false w
 z64 : ∀ w, (Go.sizeOf (ρ.t 64)).run P w = .ok 1 w
 v64 : ∀ w, (zeroValue (ρ.t 64)).run P w = .ok (Value.slice none 0 0) w
 t99 : P.underlying (ρ.t 99) = some (TypeDesc.map (ρ.t 61) (ρ.t 3))
 a99 : ∀ w, (isAgg (ρ.t 99)).run P w = .ok false w
 z99 : ∀ w, (Go.sizeOf (ρ.t 99)).run P w = .ok 1 w
 v99 : ∀ w, (zeroValue (ρ.t 99)).run P w = .ok (Value.map none) w
 t59 : P.underlying (ρ.t 59) = some (TypeDesc.func #[ρ.t 61] #[ρ.t 4] false)
 a59 : ∀ w, (isAgg (ρ.t 59)).run P w = .ok false w
 z59 : ∀ w, (Go.sizeOf (ρ.t 59)).run P w = .ok 1 w
 v59 : ∀ w, (zeroValue (ρ.t 59)).run P w = .ok (Value.nilFunc) w
 t110 : P.underlying (ρ.t 110) = some (TypeDesc.func #[ρ.t 59] #[] false)
 a110 : ∀ w, (isAgg (ρ.t 110)).run P w = .ok false w
 z110 : ∀ w, (Go.sizeOf (ρ.t 110)).run P w = .ok 1 w
 v110 : ∀ w, (zeroValue (ρ.t 110)).run P w = .ok (Value.nilFunc) w
 t111 : P.underlying (ρ.t 111) = some (TypeDesc.func #[ρ.t 59] #[] false)
 a111 : ∀ w, (isAgg (ρ.t 111)).run P w = .ok false w
 z111 : ∀ w, (Go.sizeOf (ρ.t 111)).run P w = .ok 1 w
 v111 : ∀ w, (zeroValue (ρ.t 111)).run P w = .ok (Value.nilFunc) w
 t113 : P.underlying (ρ.t 113) = some (TypeDesc.func #[ρ.t 61, ρ.t 61] #[ρ.t 3] false)
 a113 : ∀ w, (isAgg (ρ.t 113)).run P w = .ok false w
 z113 : ∀ w, (Go.sizeOf (ρ.t 113)).run P w = .ok 1 w
 v113 : ∀ w, (zeroValue (ρ.t 113)).run P w = .ok (Value.nilFunc) w
 i61 : (P.info? (ρ.t 61)).map (fun i => (i.zero, i.size, i.bytes)) = some (some (.agg #[.int .i64 0, .int .u64 0]), 2, 16)
theorem zpX {x y : Mk} (h : encM x = encM y) : x = y := by
 obtain ⟨a, b⟩ := x
 obtain ⟨c, d⟩ := y
 simpa [encM] using h
def zhM {H : Type} (P : Program) (k : TypeId) (D0 : DataW H) (left : Lit → Bool) (ss : List Mk) : Prop := ss.Nodup ∧ ∀ x, x ∈ ss ↔ ∃ l, keyOf P k (encM x) = some l ∧ has D0 l = true ∧ left l = false
theorem zhM.start {H : Type} (P : Program) (k : TypeId) (D0 : DataW H) : zhM P k D0 (has D0) [] := ⟨List.nodup_nil, fun x => by
 constructor
 ·intro h; cases h
 ·rintro ⟨l, _, h1, h2⟩; rw [h1] at h2; cases h2⟩
theorem zhM.step {H : Type} {P : Program} {k : TypeId} {D0 : DataW H} {left : Lit → Bool} {ss : List Mk} (K : Keyed P k) (h : zhM P k D0 left ss) {x : Mk} {kl : Lit} {y : DataW H} (hk : keyOf P k (encM x) = some kl) (hlk : left kl = true) (hat : ∀ zd, D0.atKey kl zd = y) :
  zhM P k D0 (fun z => left z && !z.sameKey kl) (ss ++ [x]) := by
 have hhas : has D0 kl = true := has_true_of_atKey hat
 have hnew : x ∉ ss := fun hx => by
  obtain ⟨l, h1, _, h3⟩ := (h.2 x).1 hx
  rw [hk] at h1
  cases h1
  rw [hlk] at h3
  cases h3
 refine ⟨List.nodup_append.2 ⟨h.1, by simp, fun a ha b hb => by simp at hb; subst hb; exact fun e => hnew (e ▸ ha)⟩, fun z => ?_⟩
 by_cases hz : z = x
 ·subst hz
  simp only [List.mem_append, List.mem_singleton, or_true, true_iff]
  exact ⟨kl, hk, hhas, by rw [WideAt.sameKey_self (K.key hk)]; simp⟩
 ·simp only [List.mem_append, List.mem_singleton, hz, or_false, h.2 z]
  constructor
  ·rintro ⟨l, h1, h2, h3⟩
   exact ⟨l, h1, h2, by rw [h3]; rfl⟩
  ·rintro ⟨l, h1, h2, h3⟩
   refine ⟨l, h1, h2, ?_⟩
   cases hs : l.sameKey kl with
   | false => rw [hs] at h3; simpa using h3
   | true =>
    have := WideAt.sameKey_eq hs
    subst this
    exact absurd (zpX (K.inj h1 hk)) hz
theorem zhM.done {H : Type} {P : Program} {k : TypeId} {D0 : DataW H} {left : Lit → Bool} {ss : List Mk} (h : zhM P k D0 left ss) (hl : ∀ kl, left kl = false) : zhM P k D0 (fun _ => false) ss :=
 ⟨h.1, fun x => (h.2 x).trans ⟨fun ⟨l, h1, h2, _⟩ => ⟨l, h1, h2, rfl⟩, fun ⟨l, h1, h2, _⟩ => ⟨l, h1, h2, hl l⟩⟩⟩
variable {P : Program} {ρ : Ren} {fs : Array Field}
variable {P : Program} {ρ : Ren}
set_option maxRecDepth 100000 in
set_option maxHeartbeats 1000000 in
theorem KeysM.keys1N_in (L : LayM P ρ fs) (K : Keyed P (ρ.t 61)) (KE : ∀ {key : Value} {kl : Lit}, keyOf P (ρ.t 61) key = some kl → ∃ x : Mk, key = encM x) {H : Type} (F : Fence) (n : Nat) (h80 : F.fn (ρ.f 80)) (hro : F.round = none) (hn : 1 ≤ n) (l Bm b nn : Nat) (D0 : DataW H) {R : Value → Option (DataW H × List MemPlace)} (J : List Mk → World → Prop)
  (hY : ∀ pre x W, J pre W → pre.length < Maps.size D0 → YieldAt F (n - 1) P l #[encM x] W fun e W' => e = .returned (.bool true) ∧ J (pre ++ [x]) W' ∧ KeepsWalks W W')
  (W : World) (hJ : AbidesFrom W.heap.size J) (hm : W.cell? ⟨Bm, 0, none⟩ = some (.map (some b))) (hown : W.ownsMap P (ρ.t 61) R b nn D0) (h0 : J [] W) :
  CallsIn F n P (ρ.f 80) #[.func (.yield l) #[] #[], .pointer (some ⟨Bm, 0, none⟩)] W fun e W' => (∃ v, e = .returned v) ∧ ∃ ss : List Mk, zhM P (ρ.t 61) D0 (fun _ => false) ss ∧ J ss W' := by
 have mixed := L.mixed; have t0 := L.t0; have a0 := L.a0; have z0 := L.z0; have v0 := L.v0; have t4 := L.t4; have a4 := L.a4; have z4 := L.z4; have v4 := L.v4; have t3 := L.t3; have a3 := L.a3; have z3 := L.z3; have v3 := L.v3; have t61 := L.t61; have a61 := L.a61; have z61 := L.z61; have v61 := L.v61; have t64 := L.t64; have a64 := L.a64; have z64 := L.z64; have v64 := L.v64; have t99 := L.t99; have a99 := L.a99; have z99 := L.z99; have v99 := L.v99; have t59 := L.t59; have a59 := L.a59; have z59 := L.z59; have v59 := L.v59; have t110 := L.t110; have a110 := L.a110; have z110 := L.z110; have v110 := L.v110; have t111 := L.t111; have a111 := L.a111; have z111 := L.z111; have v111 := L.v111; have t113 := L.t113; have a113 := L.a113; have z113 := L.z113; have v113 := L.v113
 have u0 := run_underlying L.t0; have u4 := run_underlying L.t4; have u3 := run_underlying L.t3; have u61 := run_underlying L.t61; have u64 := run_underlying L.t64; have u99 := run_underlying L.t99; have u59 := run_underlying L.t59; have u110 := run_underlying L.t110; have u111 := run_underlying L.t111; have u113 := run_underlying L.t113
 obtain ⟨_, _, FG⟩ := L.f80
 refine callsIn_of_wp FG rfl h80 ?_ hro
 simp only [BodyM.n80_ntmps ρ, List.size_toArray, List.length_cons, List.length_nil, Nat.reduceAdd, Nat.reduceSub, Array.replicate_succ, Array.replicate_zero, List.push_toArray, List.append_toArray, List.nil_append, List.cons_append]
 gi_wp2_with (first
  | (gi_at_range; refine wpListIn_range_own _ rfl _ (ρ.t 99) rfl (ρ.t 61) (ρ.t 3) (K) L.t99 _ b nn _ rfl hown ?_; intro w0 hrg0 hg0 hs0)
  | gi_in)
 go_frame
 gi_loopw [3] (fun _ wr => ∃ (left : Lit → Bool) (cnt : Nat) (ss : List Mk), wr.ranges P (ρ.t 61) R b W.heap.size nn D0 left cnt ∧ ss.length + cnt ≤ Maps.size D0 ∧ zhM P (ρ.t 61) D0 left ss ∧ J ss wr)
  (fun _ wr => wr.rangeLeft b W.heap.size)
 case atStart =>
  exact ⟨_, _, [], hrg0, by simp, zhM.start P (ρ.t 61) D0, hJ [] W w0 none h0 hg0 (fun r e => by cases e)⟩
 case round =>
  obtain ⟨left, cnt, ss, hrg, hcs, hC, hJs⟩ := hrel
  gi_wp2_with (first
   | (gi_at_next; refine wpListIn_next_ranges _ rfl _ rfl (ρ.t 61) (K) R encM id (fun key kl hk => KE hk) (fun v _ _ => ⟨v, rfl⟩) b W.heap.size nn _ _ _ rfl hrg ?_ ?_)
   | gi_in)
  ·skip
   intro hc0 hl0
   gi_wp2
   go_end0
   exact ⟨⟨_, rfl⟩, ss, hC.done hl0, hJs⟩
  ·skip
   intro x c kl yd yp w2 cnt2 hkey hlk hv hat hrg2 hlt hg2 hs2 hen
   have hJ2 : J ss w2 := hJ ss wr w2 (some W.heap.size) hJs hg2 (fun r e => by cases e; exact ⟨Nat.le_refl _, hrg.iter_walk⟩)
   have hJ3 : J ss (w2.alloc (.cells #[.int .i64 x.fr, .int .u64 x.no] (ρ.t 61))) := hJ ss w2 _ none hJ2 (World.grownBy_alloc w2 _ none) (fun r e => by cases e)
   obtain ⟨fn, tmps, assign, body, hy, hR⟩ := hY ss x _ hJ3 (by omega)
   clear hs2
   gi_wp2
   refine hR.mono ?_
   rintro e W3 ⟨rfl, hJ3, hk3⟩
   gi_wp2
   have hrg3 := hrg2.of_walks ((KeepsWalks.alloc w2 _).trans hk3)
   go_roundw
   case rel => exact ⟨_, cnt2, ss ++ [x], hrg3, by simp; omega, hC.step K hkey hlk hat, hJ3⟩
   case measure => rw [hrg3.left_eq, hrg.left_eq]; exact hlt
theorem KeysM.keys_gives (L : LayM P ρ fs) (K : Keyed P (ρ.t 61)) (KE : ∀ {key : Value} {kl : Lit}, keyOf P (ρ.t 61) key = some kl → ∃ x : Mk, key = encM x) {H : Type} (F : Fence) (n : Nat) (h80 : F.fn (ρ.f 80)) (hro : F.round = none) (hn : 1 ≤ n) (Bm b nn : Nat) (D0 : DataW H) {R : Value → Option (DataW H × List MemPlace)} (w : World) (hBm : Bm < w.heap.size)
  (hm : w.cell? ⟨Bm, 0, none⟩ = some (.map (some b))) (hown : w.ownsMap P (ρ.t 61) R b nn D0) :
  SeqGives F n P (ρ.f 80) #[.pointer (some ⟨Bm, 0, none⟩)] encM (fun ss => zhM P (ρ.t 61) D0 (fun _ => false) ss) (Maps.size D0) w := fun l J W hW hJ hY h0 => by
 have hown' : W.ownsMap P (ρ.t 61) R b nn D0 := by
  have hbl := hown.lt
  obtain ⟨es, clock, hb, Ft, hs, hD⟩ := hown
  exact ⟨es, clock, (hW.block b hbl).trans hb, Ft, hs, hD⟩
 exact KeysM.keys1N_in L K KE F n h80 hro hn l Bm b nn D0 J hY W hJ ((hW.cell (p := ⟨Bm, 0, none⟩) hBm).trans hm) hown' h0
def KeysM.apAssign (ρ : Ren) : Code := (Code.region 2 #[{ dst := some 5, op := Op.alloc (ρ.t 61), type := ρ.t 0, pos := "iter.go:51", after := #[], guard := none }, { dst := none, op := Op.store (ρ.t 61) (Operand.tmp 5) (Operand.tmp 7), type := ρ.t 0, pos := "iter.go:51", after := #[{ on := 0, ground := Ground.data }, { on := 0, ground := Ground.phase }], guard := none }] false)
def KeysM.apBody (ρ : Ren) : Code := (Code.block 1 (Code.region 3 #[{ dst := some 8, op := Op.load (ρ.t 64) (Operand.tmp 2), type := ρ.t 64, pos := "iter.go:52", after := #[], guard := none }, { dst := some 9, op := Op.load (ρ.t 61) (Operand.tmp 5), type := ρ.t 61, pos := "iter.go:52", after := #[], guard := none }, { dst := some 10, op := Op.buildSlice (ρ.t 64) 1 #[(0, Operand.tmp 9)], type := ρ.t 64, pos := "iter.go:52", after := #[{ on := 1, ground := Ground.data }], guard := none }, { dst := some 11, op := Op.call { callee := Callee.builtin Builtin.append, args := #[Operand.tmp 8, Operand.tmp 10], argTypes := #[ρ.t 64, ρ.t 64] }, type := ρ.t 64, pos := "iter.go:52", after := #[{ on := 0, ground := Ground.data }, { on := 2, ground := Ground.data }], guard := none }, { dst := none, op := Op.store (ρ.t 64) (Operand.tmp 2) (Operand.tmp 11), type := ρ.t 0, pos := "iter.go:52", after := #[{ on := 3, ground := Ground.data }, { on := 3, ground := Ground.chain }, { on := 0, ground := Ground.phase }, { on := 1, ground := Ground.phase }, { on := 2, ground := Ground.phase }, { on := 3, ground := Ground.phase }], guard := none }] false))
def KeysM.apRec (ρ : Ren) (fn : FuncId) (sv : Value) (Bs D : Nat) (st : LoopState) (pend : Option Code) : Loop :=
 { state := st, pending := pend, fn, tmps := #[.slice none 0 0, sv, .pointer (some ⟨Bs, 0, none⟩), undef, .slice none 0 0, undef, sv, undef, undef, undef, undef, undef, undef], params := #[7], assign := KeysM.apAssign ρ, body := KeysM.apBody ρ, defers := D }
theorem zqC (w : World) (x y : Value) (t : TypeId) : ∀ j u, [x, y][j]? = some u → (w.alloc (.cells #[x, y] t)).cell? ((⟨w.heap.size, 0, none⟩ : Addr).add j) = some u := by
 intro j u hj
 match j, hj with
 | 0, hj => simp at hj; subst hj; unfold World.cell?; rw [show ((⟨w.heap.size, 0, none⟩ : Addr).add 0).block = w.heap.size from rfl, World.alloc_heap_new]; rfl
 | 1, hj => simp at hj; subst hj; unfold World.cell?; rw [show ((⟨w.heap.size, 0, none⟩ : Addr).add 1).block = w.heap.size from rfl, World.alloc_heap_new]; rfl
 | j + 2, hj => simp at hj
structure KeysM.ApAt (ρ : Ren) (w0 : World) (fn : FuncId) (sv : Value) (Bs l D : Nat) (ss : List Mk) (W : World) : Prop where
 box : ∃ v, W.heap[Bs]? = some (.cells #[v] (ρ.t 64) (0, 0)) ∧ W.ownsRow w0.heap.size (ρ.t 61) 2 v ss.length (ss.flatMap zhQ) ∧ (v = .slice none 0 0 ↔ ss = [])
 L : W.heap[l]? = some (.loop (KeysM.apRec ρ fn sv Bs D .ready none))
 K : W.heap[D]? = some (.deferred (some []))
 below : Below w0.heap.size w0 W
theorem KeysM.ap_abides (ρ : Ren) (w0 : World) (fn : FuncId) (sv : Value) (Bs l D B : Nat) (hB : w0.heap.size ≤ B) : AbidesFrom B (KeysM.ApAt ρ w0 fn sv Bs l D) := fun s W W' row h hg hrow => by
 have hrow' : ∀ r, row = some r → ∃ o : Obj, W.heap[r]? = some o ∧ o.isWalk = true := fun r e => (hrow r e).2
 obtain ⟨v, hv, hr, hn⟩ := h.box
 exact ⟨⟨v, (grownBy_keeps hg hrow' hv rfl).trans hv, ownsRow_abides_a hr hg hrow', hn⟩, (grownBy_keeps hg hrow' h.L rfl).trans h.L, (grownBy_keeps hg hrow' h.K rfl).trans h.K,
  h.below.grown hg h.below.size (fun k e => Nat.le_trans hB (hrow k e).1)⟩
set_option maxRecDepth 100000 in
set_option maxHeartbeats 2000000 in
theorem KeysM.apYield (L : LayM P ρ fs) (F : Fence) (m : Nat) (w0 : World) (fn : FuncId) (hfn : F.fn fn) (sv : Value) (Bs l D : Nat) (hBl : Bs ≠ l) (hDl : D ≠ l) (hDB : D ≠ Bs) (h0B : w0.heap.size ≤ Bs) (h0l : w0.heap.size ≤ l)
    (N : Nat) (hN : N ≤ maxLen) (hNb : N * 16 ≤ 140737488355328) (ss : List Mk) (x : Mk) (W : World) (h : KeysM.ApAt ρ w0 fn sv Bs l D ss W) (hlen : ss.length < N) :
    YieldAt F m P l #[encM x] W fun e W' => e = .returned (.bool true) ∧ KeysM.ApAt ρ w0 fn sv Bs l D (ss ++ [x]) W' ∧ KeepsWalks W W' := by
  have mixed := L.mixed; have t0 := L.t0; have a0 := L.a0; have z0 := L.z0; have v0 := L.v0; have t4 := L.t4; have a4 := L.a4; have z4 := L.z4; have v4 := L.v4; have t3 := L.t3; have a3 := L.a3; have z3 := L.z3; have v3 := L.v3; have t61 := L.t61; have a61 := L.a61; have z61 := L.z61; have v61 := L.v61; have t64 := L.t64; have a64 := L.a64; have z64 := L.z64; have v64 := L.v64; have t99 := L.t99; have a99 := L.a99; have z99 := L.z99; have v99 := L.v99; have t59 := L.t59; have a59 := L.a59; have z59 := L.z59; have v59 := L.v59; have t110 := L.t110; have a110 := L.a110; have z110 := L.z110; have v110 := L.v110; have t111 := L.t111; have a111 := L.a111; have z111 := L.z111; have v111 := L.v111; have t113 := L.t113; have a113 := L.a113; have z113 := L.z113; have v113 := L.v113
  have hne : ρ.t 64 ≠ ρ.t 61 := fun e => by have h := L.t64; rw [e, L.t61] at h; cases h
  have u0 := run_underlying L.t0; have u4 := run_underlying L.t4; have u3 := run_underlying L.t3; have u61 := run_underlying L.t61; have u64 := run_underlying L.t64; have u99 := run_underlying L.t99; have u59 := run_underlying L.t59; have u110 := run_underlying L.t110; have u111 := run_underlying L.t111; have u113 := run_underlying L.t113
  obtain ⟨i0, hi, hz0, hz1, hz2⟩ := info_parts L.i61
  obtain ⟨v, hv, hrow, _⟩ := h.box
  refine ⟨fn, #[.slice none 0 0, sv, .pointer (some ⟨Bs, 0, none⟩), undef, .slice none 0 0, undef, sv, encM x, undef, undef, undef, undef, undef], KeysM.apAssign ρ, KeysM.apBody ρ, by simpa [KeysM.apRec] using run_yield (P := P) (args := #[encM x]) h.L rfl, roundIn_of_wpIn hfn ?_⟩
  have hl0 : l < W.heap.size := (Array.getElem?_eq_some_iff.1 h.L).1
  obtain ⟨Wn, hWn⟩ : ∃ Wn, W.alloc (Obj.cells #[.int .i64 x.fr, .int .u64 x.no] (ρ.t 61)) = Wn := ⟨_, rfl⟩
  have hnw : Wn.heap[W.heap.size]? = some (.cells #[.int .i64 x.fr, .int .u64 x.no] (ρ.t 61) (0, 0)) := by rw [← hWn]; exact World.alloc_heap_new W _
  have holdn : ∀ k, k < W.heap.size → Wn.heap[k]? = W.heap[k]? := fun k hk => by rw [← hWn]; exact Below.heap_alloc _ _ k hk
  have hkn : KeepsWalks W Wn := by rw [← hWn]; exact KeepsWalks.alloc _ _
  have hrown : Wn.ownsRow w0.heap.size (ρ.t 61) 2 v ss.length (ss.flatMap zhQ) := by rw [← hWn]; exact hrow.alloc _
  have hbn : Below w0.heap.size w0 Wn := by rw [← hWn]; exact h.below.alloc h.below.size _
  have hLn := (holdn l hl0).trans h.L
  have hKn := (holdn D (Array.getElem?_eq_some_iff.1 h.K).1).trans h.K
  have hvn := (holdn Bs (Array.getElem?_eq_some_iff.1 hv).1).trans hv
  have hl : l < Wn.heap.size := (Array.getElem?_eq_some_iff.1 hLn).1
  have hbr := run_beginRound (P := P) hLn rfl
  obtain ⟨W2, hW2⟩ : ∃ W2, Wn.putObj l (.loop { KeysM.apRec ρ fn sv Bs D .ready none with state := .busy }) = W2 := ⟨_, rfl⟩
  rw [hW2] at hbr
  have hg2 : Wn.grownBy W2 (some l) := by rw [← hW2]; exact grownBy_putObj_a _ _ _
  have hk2 : KeepsWalks W W2 := by rw [← hW2]; exact hkn.trans (KeepsWalks.putObj _ hLn rfl)
  have hv2 : W2.heap[Bs]? = some (.cells #[v] (ρ.t 64) (0, 0)) := by rw [← hW2]; exact (World.putObj_heap_other hBl).trans hvn
  have hK2 : W2.heap[D]? = some (.deferred (some [])) := by rw [← hW2]; exact (World.putObj_heap_other hDl).trans hKn
  have hL2 : W2.heap[l]? = some (.loop { KeysM.apRec ρ fn sv Bs D .ready none with state := .busy }) := by rw [← hW2]; exact World.putObj_heap_same hl
  have hn2 : W2.heap[W.heap.size]? = some (.cells #[.int .i64 x.fr, .int .u64 x.no] (ρ.t 61) (0, 0)) := by rw [← hW2]; exact (World.putObj_heap_other (by omega)).trans hnw
  have hna : W2.cell? ⟨W.heap.size, 0, none⟩ = some (.int .i64 x.fr) := by unfold World.cell?; rw [show (⟨W.heap.size, 0, none⟩ : Addr).block = W.heap.size from rfl, hn2]; rfl
  have hnb : W2.cell? ⟨W.heap.size, 1, none⟩ = some (.int .u64 x.no) := by unfold World.cell?; rw [show (⟨W.heap.size, 1, none⟩ : Addr).block = W.heap.size from rfl, hn2]; rfl
  have hrow2 : W2.ownsRow w0.heap.size (ρ.t 61) 2 v ss.length (ss.flatMap zhQ) := hrown.kept hg2 (ownsRow_ne_a hrown hLn (fun cur e => by first | cases e | exact hne (Obj.cells.inj e).2.1))
  have hb2 : Below w0.heap.size w0 W2 := hbn.grown hg2 hbn.size (fun k e => by cases e; exact h0l)
  obtain ⟨hc2, hf2⟩ := cell_of_box_a hv2
  have hBlt : Bs < W2.heap.size := (Array.getElem?_eq_some_iff.1 hv2).1
  have hl2 : l < W2.heap.size := (Array.getElem?_eq_some_iff.1 hL2).1
  have hDlt : D < W2.heap.size := (Array.getElem?_eq_some_iff.1 hK2).1
  have ne_of : ∀ {j : Nat} {o : Obj}, W2.heap[j]? = some o → (∀ cur, o ≠ .cells cur (ρ.t 61) (0, 0)) → some j ≠ v.ownBlock := fun hj hno => by
    rcases ownsRow_ne_a hrow2 hj hno with e | e
    · rw [e]; simp
    · exact fun e' => e e'.symm
  have hold2 : ∀ k, k < W2.heap.size → (W2.alloc (.cells #[.int .i64 x.fr, .int .u64 x.no] (ρ.t 61))).heap[k]? = W2.heap[k]? := fun k hk => Below.heap_alloc _ _ k hk
  clear hW2
  unfold KeysM.apAssign
  gi_wp2_with gi_round_op_a
  unfold KeysM.apBody
  gi_wp2_with (first
    | (gi_at_builtin; refine wpListIn_append_own _ rfl _ _ (ρ.t 64) rfl w0.heap.size (ρ.t 61) i0 (.agg #[.int .i64 0, .int .u64 0]) 2 16 L.t64 hi hz0 hz1 hz2 rfl (by decide) _ _ _ rfl (hrow2.alloc _) ⟨W2.heap.size, 0, none⟩ 1 1 (zhQ x) rfl rfl (zqC _ _ _ _) (by simp [Value.oneCell', zhQ]) (by omega) (by omega) (by have := hb2.size; simp; omega) ?_; intro v' w3 hown' hg3 hnil3
       have hv3 : w3.heap[Bs]? = some (.cells #[v] (ρ.t 64) (0, 0)) := (hg3.block Bs (by simp; omega) (ne_of hv2 (fun cur e => by first | cases e | exact hne (Obj.cells.inj e).2.1))).trans ((hold2 Bs hBlt).trans hv2)
       obtain ⟨hc3, hf3⟩ := cell_of_box_a hv3
       obtain ⟨g', cap', cur', rfl, hbase', hgb', hr1, hr2, hr3, hr4⟩ : ∃ g' cap' cur', v' = .slice (some ⟨g', 0, none⟩) (ss.length + 1) cap' ∧ w0.heap.size ≤ g' ∧ w3.heap[g']? = some (.cells cur' (ρ.t 61) (0, 0)) ∧ ss.length + 1 ≤ cap' ∧ cap' ≤ maxLen ∧ cur'.size = cap' * 2 ∧ cur'.toList.take ((ss.length + 1) * 2) = ss.flatMap zhQ ++ zhQ x := by
         rcases hown'.2 with ⟨_, h0⟩ | h'
         · exact absurd h0 (by omega)
         · exact h'
       go_frame)
    | gi_round_op_a)
  have hg3' : (W2.alloc (.cells #[.int .i64 x.fr, .int .u64 x.no] (ρ.t 61))).grownBy w3 v.ownBlock := hg3
  have hL3 : w3.heap[l]? = some (.loop { KeysM.apRec ρ fn sv Bs D .ready none with state := .busy }) := (hg3'.block l (by simp; omega) (ne_of hL2 (fun cur e => by first | cases e | exact hne (Obj.cells.inj e).2.1))).trans ((hold2 l hl2).trans hL2)
  have hK3 : w3.heap[D]? = some (.deferred (some [])) := (hg3'.block D (by simp; omega) (ne_of hK2 (fun cur e => by first | cases e | exact hne (Obj.cells.inj e).2.1))).trans ((hold2 D hDlt).trans hK2)
  obtain ⟨w4, hw4⟩ : ∃ w4, w3.setCell ⟨Bs, 0, none⟩ (.slice (some ⟨g', 0, none⟩) (ss.length + 1) cap') = w4 := ⟨_, rfl⟩
  rw [hw4]
  have hg4 : w3.grownBy w4 (some Bs) := by rw [← hw4]; exact grownBy_setCell0_a _ _ _
  have hv4 : w4.heap[Bs]? = some (.cells #[.slice (some ⟨g', 0, none⟩) (ss.length + 1) cap'] (ρ.t 64) (0, 0)) := by rw [← hw4]; exact heap_setCell_box_a _ hv3
  have hL4 : w4.heap[l]? = some (.loop { KeysM.apRec ρ fn sv Bs D .ready none with state := .busy }) := (hg4.block l (Array.getElem?_eq_some_iff.1 hL3).1 (fun e => hBl (by cases e; rfl))).trans hL3
  have hK4 : w4.heap[D]? = some (.deferred (some [])) := (hg4.block D (Array.getElem?_eq_some_iff.1 hK3).1 (fun e => hDB (by cases e; rfl))).trans hK3
  have hrow4 := hown'.kept hg4 (ownsRow_ne_a hown' hv3 (fun cur e => by first | cases e | exact hne (Obj.cells.inj e).2.1))
  have hl4 : l < w4.heap.size := (Array.getElem?_eq_some_iff.1 hL4).1
  have hb3 : Below w0.heap.size w0 w3 := (hb2.alloc hb2.size _).grown hg3' (by have := hb2.size; simp; omega) (fun k e => (hrow2.lt k e).1)
  have hb4 : Below w0.heap.size w0 w4 := hb3.grown hg4 hb3.size (fun k e => by cases e; exact h0B)
  have hk4 : KeepsWalks W w4 := ((hk2.trans (KeepsWalks.alloc _ _)).trans (KeepsWalks.of_grownBy hg3' (ownsRow_not_walk_a (hrow2.alloc _)))).trans (by rw [← hw4]; exact KeepsWalks.setCell _ _ _)
  clear hw4
  refine ⟨_, _, run_endRound none hL4, rfl, ⟨⟨_, (World.putObj_heap_other hBl).trans hv4, ?_, by simp⟩, World.putObj_heap_same hl4, (World.putObj_heap_other hDl).trans hK4, hb4.grown (grownBy_putObj_a _ _ _) hb4.size (fun k e => by cases e; exact h0l)⟩, hk4.trans (KeepsWalks.putObj _ hL4 rfl)⟩
  have := hrow4.kept (grownBy_putObj_a w4 l (.loop { { KeysM.apRec ρ fn sv Bs D .ready none with state := .busy } with state := if (none : Option Code).isNone then .ready else .done, pending := none })) (ownsRow_ne_a hrow4 hL4 (fun cur e => by first | cases e | exact hne (Obj.cells.inj e).2.1))
  simpa using this
set_option maxRecDepth 100000 in
set_option maxHeartbeats 2000000 in
theorem KeysM.appendSeq_in (L : LayM P ρ fs) (F : Fence) (n : Nat) (h93 : F.fn (ρ.f 93)) (hro : F.round = none) (hn : 2 ≤ n) (g : Nat) (lb : Array Value) (hFg : F.fn g) (eg : ∀ args w, (callFunc g args).run P w = .ok (.enter g args) w)
    (S : List Mk → Prop) (N : Nat) (hN : N ≤ maxLen) (hNb : N * 16 ≤ 140737488355328) (w : World) (hseq : SeqGives F (n - 1) P g lb encM S N w) :
    CallsIn F n P (ρ.f 93) #[.slice none 0 0, .func (.func g) #[] lb] w fun e w' => ∃ (v : Value) (ss : List Mk), e = .returned v ∧ S ss ∧ w'.ownsRow w.heap.size (ρ.t 61) 2 v ss.length (ss.flatMap zhQ) ∧ (v = .slice none 0 0 ↔ ss = []) ∧ Below w.heap.size w w' := by
  have h1 : 1 ≤ n := by omega
  have mixed := L.mixed; have t0 := L.t0; have a0 := L.a0; have z0 := L.z0; have v0 := L.v0; have t4 := L.t4; have a4 := L.a4; have z4 := L.z4; have v4 := L.v4; have t3 := L.t3; have a3 := L.a3; have z3 := L.z3; have v3 := L.v3; have t61 := L.t61; have a61 := L.a61; have z61 := L.z61; have v61 := L.v61; have t64 := L.t64; have a64 := L.a64; have z64 := L.z64; have v64 := L.v64; have t99 := L.t99; have a99 := L.a99; have z99 := L.z99; have v99 := L.v99; have t59 := L.t59; have a59 := L.a59; have z59 := L.z59; have v59 := L.v59; have t110 := L.t110; have a110 := L.a110; have z110 := L.z110; have v110 := L.v110; have t111 := L.t111; have a111 := L.a111; have z111 := L.z111; have v111 := L.v111; have t113 := L.t113; have a113 := L.a113; have z113 := L.z113; have v113 := L.v113
  have hne : ρ.t 64 ≠ ρ.t 61 := fun e => by have h := L.t64; rw [e, L.t61] at h; cases h
  have u0 := run_underlying L.t0; have u4 := run_underlying L.t4; have u3 := run_underlying L.t3; have u61 := run_underlying L.t61; have u64 := run_underlying L.t64; have u99 := run_underlying L.t99; have u59 := run_underlying L.t59; have u110 := run_underlying L.t110; have u111 := run_underlying L.t111; have u113 := run_underlying L.t113
  obtain ⟨_, _, FG⟩ := L.f93
  refine callsIn_of_wp_marks FG rfl h93 ?_ hro
  simp only [BodyM.n93_ntmps ρ, List.size_toArray, List.length_cons, List.length_nil, Nat.reduceAdd, Nat.reduceSub, Array.replicate_succ, Array.replicate_zero, List.push_toArray, List.append_toArray, List.nil_append, List.cons_append]
  gi_wp2
  refine wpIn_rangeFunc ?_
  intro fn hfn
  rw [hro]
  obtain ⟨W0, hW0⟩ : ∃ W0, w.alloc (.cells #[.slice none 0 0] (ρ.t 64)) = W0 := ⟨_, rfl⟩
  have hs0 : W0.heap.size = w.heap.size + 1 := by rw [← hW0]; simp
  have hv0 : W0.heap[w.heap.size]? = some (.cells #[.slice none 0 0] (ρ.t 64) (0, 0)) := by rw [← hW0]; exact World.alloc_heap_new w _
  have hb0 : Below w.heap.size w W0 := by rw [← hW0]; exact (Below.refl _ w).alloc (Nat.le_refl _) _
  rw [hW0]
  obtain ⟨W1, hW1⟩ : ∃ W1, (W0.alloc (.deferred (some []))).alloc (.loop (KeysM.apRec ρ fn (.func (.func g) #[] lb) w.heap.size W0.heap.size .ready none)) = W1 := ⟨_, rfl⟩
  have hold : ∀ k, k < W0.heap.size → W1.heap[k]? = W0.heap[k]? := fun k hk => by
    rw [← hW1]; exact (Below.heap_alloc _ _ k (by simp; omega)).trans (Below.heap_alloc _ _ k hk)
  have hb1 : Below w.heap.size w W1 := by rw [← hW1]; exact (hb0.alloc hb0.size _).alloc (by have := hb0.size; simp; omega) _
  have hs1 : W1.heap.size = W0.heap.size + 2 := by rw [← hW1]; simp
  have hM : KeysM.ApAt ρ w fn (.func (.func g) #[] lb) w.heap.size (W0.heap.size + 1) W0.heap.size [] W1 :=
    ⟨⟨_, (hold w.heap.size (by omega)).trans hv0, ⟨rfl, .inl ⟨rfl, rfl⟩⟩, by simp⟩,
     by rw [← hW1]; have := World.alloc_heap_new (W0.alloc (.deferred (some []))) (.loop (KeysM.apRec ρ fn (.func (.func g) #[] lb) w.heap.size W0.heap.size .ready none)); rwa [World.size_alloc] at this,
     by rw [← hW1]; exact (Below.heap_alloc _ _ _ (by simp)).trans (World.alloc_heap_new W0 _), hb1⟩
  refine ⟨W0.heap.size + 1, [{ target := .collected W0.heap.size, args := #[] }], W1, { target := .fn (.func g) lb, args := #[.func (.yield (W0.heap.size + 1)) #[] #[]] }, W1, g,
    #[.func (.yield (W0.heap.size + 1)) #[] #[]] ++ lb, W1, ?_, ?_, ?_, ?_, fun _ => h1, ?_⟩
  · rw [← hW1]; exact run_enterLoop_outer _ _ _ _ _
  · simp [resolve, go_sem]
  · intro f' hf'; simp [Target.leads] at hf'; subst hf'; exact hFg
  · simp [invoke, go_sem, eg]
  · refine (hseq (W0.heap.size + 1) (KeysM.ApAt ρ w fn (.func (.func g) #[] lb) w.heap.size (W0.heap.size + 1) W0.heap.size) W1 hb1 (KeysM.ap_abides ρ _ _ _ _ _ _ _ hb1.size)
      (fun pre x W hJ hl => KeysM.apYield L F (n - 1 - 1) w fn hfn _ w.heap.size (W0.heap.size + 1) W0.heap.size (by omega) (by omega) (by omega) (Nat.le_refl _) (by omega) N hN hNb pre x W hJ hl) hM).mono ?_
    rintro e W2 ⟨⟨v0, rfl⟩, ss, hS, h2⟩
    obtain ⟨v, hv, hrow, hnil⟩ := h2.box
    have hend := run_endLoop (P := P) h2.L (by simp [KeysM.apRec])
    obtain ⟨W3, hW3⟩ : ∃ W3, W2.putObj (W0.heap.size + 1) (.loop { KeysM.apRec ρ fn (.func (.func g) #[] lb) w.heap.size W0.heap.size .ready none with state := .exhausted }) = W3 := ⟨_, rfl⟩
    rw [hW3] at hend
    have hg3 : W2.grownBy W3 (some (W0.heap.size + 1)) := by rw [← hW3]; exact grownBy_putObj_a _ _ _
    have hv3 : W3.heap[w.heap.size]? = some (.cells #[v] (ρ.t 64) (0, 0)) := by rw [← hW3]; exact (World.putObj_heap_other (by omega)).trans hv
    have hK3 : W3.heap[W0.heap.size]? = some (.deferred (some [])) := by rw [← hW3]; exact (World.putObj_heap_other (by omega)).trans h2.K
    have hrow3 := hrow.kept hg3 (ownsRow_ne_a hrow h2.L (fun cur e => by first | cases e | exact hne (Obj.cells.inj e).2.1))
    have hb3 : Below w.heap.size w W3 := h2.below.grown hg3 h2.below.size (fun k e => by cases e; omega)
    obtain ⟨hc3, hf3⟩ := cell_of_box_a hv3
    clear hW3
    refine ⟨none, W3, hend, ?_⟩
    gi_wp2
    rw [← hs0]
    refine ⟨by simp, .inl ⟨_, _, rfl, run_takeDeferred hK3, ?_⟩⟩
    exact ⟨_, results_tmp rfl _ _ _, v, ss, rfl, hS, hrow3.kept (grownBy_putObj_a _ _ _) (ownsRow_ne_a hrow3 hK3 (fun cur e => by first | cases e | exact hne (Obj.cells.inj e).2.1)), hnil, hb3.grown (grownBy_putObj_a _ _ _) hb3.size (fun k e => by cases e; omega)⟩
set_option maxHeartbeats 1000000 in
theorem KeysM.collect_in (L : LayM P ρ fs) (F : Fence) (n : Nat) (h78 : F.fn (ρ.f 78)) (h93 : F.fn (ρ.f 93)) (hro : F.round = none) (hn : 3 ≤ n) (g : Nat) (lb : Array Value) (hFg : F.fn g) (eg : ∀ args w, (callFunc g args).run P w = .ok (.enter g args) w)
  (S : List Mk → Prop) (N : Nat) (hN : N ≤ maxLen) (hNb : N * 16 ≤ 140737488355328) (w : World) (hseq : SeqGives F (n - 1 - 1) P g lb encM S N w) :
  CallsIn F n P (ρ.f 78) #[.func (.func g) #[] lb] w fun e w' => ∃ (v : Value) (ss : List Mk), e = .returned v ∧ S ss ∧ w'.ownsRow w.heap.size (ρ.t 61) 2 v ss.length (ss.flatMap zhQ) ∧ (v = .slice none 0 0 ↔ ss = []) ∧ Below w.heap.size w w' := by
 have h1 : 1 ≤ n := by omega
 have e93 : ∀ args w, (callFunc (ρ.f 93) args).run P w = .ok (.enter (ρ.f 93) args) w := L.f93.enters rfl
 have mixed := L.mixed; have t0 := L.t0; have a0 := L.a0; have z0 := L.z0; have v0 := L.v0; have t4 := L.t4; have a4 := L.a4; have z4 := L.z4; have v4 := L.v4; have t3 := L.t3; have a3 := L.a3; have z3 := L.z3; have v3 := L.v3; have t61 := L.t61; have a61 := L.a61; have z61 := L.z61; have v61 := L.v61; have t64 := L.t64; have a64 := L.a64; have z64 := L.z64; have v64 := L.v64; have t99 := L.t99; have a99 := L.a99; have z99 := L.z99; have v99 := L.v99; have t59 := L.t59; have a59 := L.a59; have z59 := L.z59; have v59 := L.v59; have t110 := L.t110; have a110 := L.a110; have z110 := L.z110; have v110 := L.v110; have t111 := L.t111; have a111 := L.a111; have z111 := L.z111; have v111 := L.v111; have t113 := L.t113; have a113 := L.a113; have z113 := L.z113; have v113 := L.v113
 have u0 := run_underlying L.t0; have u4 := run_underlying L.t4; have u3 := run_underlying L.t3; have u61 := run_underlying L.t61; have u64 := run_underlying L.t64; have u99 := run_underlying L.t99; have u59 := run_underlying L.t59; have u110 := run_underlying L.t110; have u111 := run_underlying L.t111; have u113 := run_underlying L.t113
 obtain ⟨_, _, FG⟩ := L.f78
 refine callsIn_of_wp FG rfl h78 ?_ hro
 simp only [BodyM.n78_ntmps ρ, List.size_toArray, List.length_cons, List.length_nil, Nat.reduceAdd, Nat.reduceSub, Array.replicate_succ, Array.replicate_zero, List.push_toArray, List.append_toArray, List.nil_append, List.cons_append]
 gi_wp2_with (gi_at_fn (ρ.f 93); refine (KeysM.appendSeq_in L F (n - 1) h93 hro (by omega) g lb hFg eg S N hN hNb _ hseq).mono ?_; rintro e w' ⟨v, ss, rfl, hS, hrow, hnil, hb⟩)
 go_ret
 exact ⟨v, ss, rfl, hS, hrow, hnil, hb⟩
end Go.Proofs
