/- Chapter 15: an act on both: what they answer, and what they are, is one. Plain. -/
import Derived.Test.YtjjcmgdgifcmgaaGreatH2
set_option linter.unusedVariables false
set_option linter.unusedSimpArgs false
namespace Go.Proofs.YtjjcmgdgifcmgaaGreat
open Go.Ev Go.Lib
structure Rel (B : Nat) (last : Int) (pend : List zaa) (gave : List (Int × Int)) (took : List ((Int × Int) × Int)) (rpend : List zab) (rgave : List Int) (rtook : List zac) : Prop where
 hp : rpend = pend.map toR
 okp : ∀ g ∈ pend, okG g
 plen : pend.length ≤ B
 last0 : 0 ≤ last
 lastB : last ≤ B
 gnd : (gave.map (·.1)).Nodup
 gok : ∀ e ∈ gave, 0 < e.2 ∧ e.2 ≤ B ∧ 0 ≤ e.1 ∧ e.1 < 12
 glen : gave.length ≤ B
 hg : rgave = r12 fun x => decide (x ∈ gave.map (·.1))
 tnd : (took.map (·.1)).Nodup
 tok : ∀ e ∈ took, 0 < e.2 ∧ 0 ≤ e.1.1 ∧ e.1.1 < 12 ∧ 1 ≤ e.1.2 ∧ e.1.2 < 4611686018427387904
 tlen : took.length ≤ B
 ts : (rtook.map mkR).Pairwise ltP
 tp : (rtook.map mkR).Perm (took.map (·.1))
theorem Rel.zero : Rel 0 0 [] [] [] [] [] [] :=
 ⟨rfl, by simp, by simp, by omega, by omega, by simp, by simp, by simp, by rfl, by simp, by simp, by simp, by simp, by simp⟩
theorem Rel.mono {B B' : Nat} {last : Int} {pend : List zaa} {gave : List (Int × Int)} {took : List ((Int × Int) × Int)} {rpend : List zab} {rgave : List Int} {rtook : List zac} (h : Rel B last pend gave took rpend rgave rtook) (hB : B ≤ B') : Rel B' last pend gave took rpend rgave rtook :=
 ⟨h.hp, h.okp, Nat.le_trans h.plen hB, h.last0, by have := h.lastB; omega, h.gnd, fun e he => by have := h.gok e he; exact ⟨this.1, by omega, this.2.2⟩, Nat.le_trans h.glen hB, h.hg, h.tnd, h.tok, Nat.le_trans h.tlen hB, h.ts, h.tp⟩
section
variable {B : Nat} {last : Int} {pend : List zaa} {gave : List (Int × Int)} {took : List ((Int × Int) × Int)} {rpend : List zab} {rgave : List Int} {rtook : List zac}
theorem Rel.rtl (h : Rel B last pend gave took rpend rgave rtook) : rtook.length = took.length := by
 have := h.tp.length_eq
 simpa using this
theorem Rel.rpl (h : Rel B last pend gave took rpend rgave rtook) : rpend.length = pend.length := by rw [h.hp, List.length_map]
theorem Rel.gave_mem (h : Rel B last pend gave took rpend rgave rtook) {x : Int} : x ∈ rgave ↔ x ∈ gave.map (·.1) := by
 rw [h.hg, zsH]
 constructor
 ·intro h1; exact of_decide_eq_true h1.2.2
 ·intro h1
  obtain ⟨e, he, rfl⟩ := List.mem_map.1 h1
  have := h.gok e he
  exact ⟨this.2.2.1, this.2.2.2, decide_eq_true h1⟩
theorem Rel.done (h : Rel B last pend gave took rpend rgave rtook) (hB : B ≤ 900) (no n : Int) :
  ∃ e pend' rpend', zbV no n last pend gave took = some (e, pend') ∧ zeG no n last rpend rgave rtook = some (e, rpend') ∧ Rel (B + 1) last pend' gave took rpend' rgave rtook := by
 have hl := h.plen
 have h1 := zrZ (r := pend) (by omega) no n last gave took
 have h2 := ztR (r := rpend) (by rw [h.rpl]; omega) no n last rgave rtook
 rw [h.hp, zqR] at h2
 simp only [zvi] at h2
 cases hf : fi (fun g => decide (noG g = no)) pend 0 with
 | none =>
  rw [hf] at h1 h2
  exact ⟨2, pend, pend.map toR, h1, by rw [h.hp]; exact h2, by rw [← h.hp]; exact h.mono (by omega)⟩
 | some z =>
  rw [hf] at h1 h2
  obtain ⟨j, a⟩ := z
  refine ⟨0, pend.eraseIdx j, (pend.map toR).eraseIdx j, h1, by rw [h.hp]; exact h2, ?_⟩
  have hlen : (pend.eraseIdx j).length ≤ pend.length := (List.eraseIdx_sublist _ _).length_le
  exact ⟨by simp [List.eraseIdx_eq_take_drop_succ, List.map_take, List.map_drop], fun g hg => h.okp g (List.mem_of_mem_eraseIdx hg), by omega, h.last0, by have := h.lastB; omega, h.gnd, fun e he => by have := h.gok e he; exact ⟨this.1, by omega, this.2.2⟩, by have := h.glen; omega, h.hg, h.tnd, h.tok, by have := h.tlen; omega, h.ts, h.tp⟩
theorem Rel.took_eq (h : Rel B last pend gave took rpend rgave rtook) (f no n : Int) : zcP f no n last pend gave took = some (decide ((f, no) ∈ took.map (·.1))) := by
 unfold zcP
 cases hm : mget (f, no) took with
 | none => simp only [df (zkn.1 hm)]
 | some v =>
  have hmem := zlG hm
  have := h.tok _ hmem
  simp only [dt this.1, dt (List.mem_map.2 ⟨_, hmem, rfl⟩)]
theorem Rel.take (h : Rel B last pend gave took rpend rgave rtook) (hB : B ≤ 900) (no f to n : Int) (i : Bool) (t : Idt) :
  ∃ e took' rtook', zbF no f to i t n last pend gave took = some (e, took') ∧ zcD no f to (zeh i t) n last rpend rgave rtook = some (e, rtook') ∧ Rel (B + 1) last pend gave took' rpend rgave rtook' := by
 obtain ⟨b, hR, hR2, hRt⟩ := zoD no f to i t
 have hrl := h.rtl
 have htl := h.tlen
 cases hb : b with
 | false =>
  subst hb
  refine ⟨1, took, rtook, ?_, ?_, h.mono (by omega)⟩
  ·unfold zbF; rw [hR]; rfl
  ·unfold zcD; rw [hR2]; rfl
 | true =>
  subst hb
  by_cases hto : to = n
  ·have ht := h.took_eq f no n
   have hmm : (f, no) ∈ rtook.map mkR ↔ (f, no) ∈ took.map (·.1) := h.tp.mem_iff
   by_cases hm : (f, no) ∈ took.map (·.1)
   ·refine ⟨14, took, rtook, ?_, ?_, h.mono (by omega)⟩
    ·unfold zbF
     rw [hR]
     simp only [Option.bind_some, cond_true, dt hto, ht, dt hm]
    ·unfold zcD
     rw [hR2]
     simp only [Option.bind_some, cond_true, dt hto, zrf (r2 := rtook) (by omega), dt (hmm.2 hm)]
   ·obtain ⟨r4, h4, h5⟩ := zsR (r2 := rtook) (by omega) f no to n last rpend rgave hR2 hto (fun hc => hm (hmm.1 hc))
    obtain ⟨q1, q2, q3, q4, _⟩ := hRt rfl
    have hkeys : (mset (f, no) 1 (mset (f, no) 0 took)).map (·.1) = took.map (·.1) ++ [(f, no)] := by
     rw [ziW, zmy, if_neg hm]
    refine ⟨0, mset (f, no) 1 (mset (f, no) 0 took), r4, ?_, h4, ?_⟩
    ·unfold zbF
     rw [hR]
     simp only [Option.bind_some, cond_true, dt hto, ht, df hm, cond_false, zkn.2 hm]
    ·refine ⟨h.hp, h.okp, by have := h.plen; omega, h.last0, by have := h.lastB; omega, h.gnd, fun e he => by have := h.gok e he; exact ⟨this.1, by omega, this.2.2⟩, by have := h.glen; omega, h.hg, ?_, ?_, ?_, ?_, ?_⟩
     ·rw [hkeys, List.nodup_append]
      refine ⟨h.tnd, by simp, fun a ha b hb => ?_⟩
      rw [List.mem_singleton] at hb
      rw [hb]
      exact fun e => hm (e ▸ ha)
     ·intro e he
      rw [ziW] at he
      rcases zoz he with he | rfl
      ·exact h.tok e he
      ·exact ⟨by show (0 : Int) < 1; omega, q3, q4, q1, q2⟩
     ·rw [ziW]
      have := zoy (k := (f, no)) (v := (1 : Int)) (m := took)
      omega
     ·rw [h5]; exact zmd h.ts (fun hc => hm (hmm.1 hc))
     ·rw [h5, hkeys]
      exact ((zo6 _ _).trans (List.Perm.cons _ h.tp)).trans (List.perm_append_singleton _ _).symm
  ·refine ⟨1, took, rtook, ?_, ?_, h.mono (by omega)⟩
   ·unfold zbF; rw [hR]
    simp only [Option.bind_some, cond_true, df hto, cond_false]
   ·unfold zcD; rw [hR2]
    simp only [Option.bind_some, cond_true, df hto, cond_false]
theorem Rel.give (h : Rel B last pend gave took rpend rgave rtook) (hB : B ≤ 900) (to n : Int) {i : Bool} {t : Idt} (hn : nfI i t) (hd : zbv t ≤ 16) :
  ∃ no f to' i' t' e last' pend' gave' rpend' rgave', zbE to i t n last pend gave took = some (no, f, to', i', t', e, last', pend', gave') ∧
   zdF to (zeh i t) n last rpend rgave rtook = some (no, f, to', zeh i' t', e, last', rpend', rgave') ∧ nfI i' t' ∧ zbv t' ≤ 16 ∧ Rel (B + 1) last' pend' gave' took rpend' rgave' rtook := by
 have hl := h.plen
 have l0 := h.last0
 have lB := h.lastB
 have e1 : iadd .u64 last 1 = last + 1 := zu4 _ l0 (by omega)
 obtain ⟨b, hR, hR2, hRt⟩ := zoD (last + 1) n to i t
 have hz : ziD = some (zeh false .nil) := rfl
 have hto := zvm (r := pend) (by omega) to n last gave took
 have hrto := zuh (r := rpend) (by rw [h.rpl]; omega) to n last rgave rtook
 rw [h.hp, zqR] at hrto
 simp only [ztc] at hrto
 rw [← h.hp] at hrto
 cases hb : b with
 | false =>
  subst hb
  refine ⟨0, 0, 0, false, .nil, 1, last, pend, gave, rpend, rgave, ?_, ?_, trivial, Nat.zero_le _, h.mono (by omega)⟩
  ·unfold zbE
   rw [e1, hto, hR]
   simp only [zbN, zbO, Option.bind_some]
   cases fi (fun g => decide (toG g = to)) pend 0 with
   | none => rfl
   | some z => obtain ⟨j, a⟩ := z; cases a; rfl
  ·unfold zdF
   rw [hz, e1, hR2]
   rfl
 | true =>
  subst hb
  obtain ⟨q1, q2, q3, q4, q5, q6, _⟩ := hRt rfl
  cases hf : fi (fun g => decide (toG g = to)) pend 0 with
  | some z =>
   obtain ⟨j, a⟩ := z
   rw [hf] at hto hrto
   refine ⟨0, 0, 0, false, .nil, 14, last, pend, gave, rpend, rgave, ?_, ?_, trivial, Nat.zero_le _, h.mono (by omega)⟩
   ·unfold zbE
    rw [e1, hto, hR]
    cases a
    rfl
   ·unfold zdF
    rw [hz, e1, hR2, hrto]
    simp only [Option.bind_some, cond_true, Option.map_some, dt (show (0 : Int) ≤ (j : Int) by omega)]
  | none =>
   rw [hf] at hto hrto
   have hpl : fits (((List.map zaa.pv pend) ++ ([[(.int .u64 (last + 1)), (.int .i64 n), (.int .i64 to), (.bool i), (zad.pv t)]] : List (List PV)))).length = true := zo1 (by simp; omega)
   have htk : List.take (((List.map zaa.pv pend) ++ ([[(.int .u64 (last + 1)), (.int .i64 n), (.int .i64 to), (.bool i), (zad.pv t)]] : List (List PV)))).length (pend ++ [(zaa.mk (last + 1) n to i t)]) = pend ++ [(zaa.mk (last + 1) n to i t)] := List.take_of_length_le (by simp)
   obtain ⟨v, hP, hv0, hvB⟩ : ∃ v : Int, zbE to i t n last pend gave took = some (last + 1, n, to, i, t, 0, last + 1, pend ++ [.mk (last + 1) n to i t], mset to v gave) ∧ 0 < v ∧ v ≤ B + 1 := by
    unfold zbE
    rw [e1, hto, hR]
    simp only [zbN, zbO, Option.bind_some, cond_true, cond_false, zgn (show pend.length ≤ 1000 by omega), hpl, htk]
    cases hm : mget to gave with
    | none => exact ⟨1, rfl, by omega, by omega⟩
    | some w =>
     have := h.gok _ (zlG hm)
     refine ⟨w + 1, ?_, by omega, by omega⟩
     simp only [zep w (by omega) (by omega)]
   have hQ : ∃ rgave', zdF to (zeh i t) n last rpend rgave rtook = some (last + 1, n, to, zeh i t, 0, last + 1, rpend ++ [.mk (last + 1) n to (zeh i t)], rgave') ∧ rgave' = r12 fun x => decide (x = to) || decide (x ∈ rgave) := by
    have hgl : rgave.length ≤ 1000 := by rw [h.hg]; have := zsG (fun x => decide (x ∈ gave.map (·.1))); omega
    have hrl := h.rpl
    have same : to ∈ rgave → rgave = r12 fun x => decide (x = to) || decide (x ∈ rgave) := by
     intro hm
     have e2 : rgave = r12 fun x => decide (x ∈ rgave) := by
      conv => lhs; rw [h.hg]
      exact zmF fun x _ _ => by rw [decide_eq_decide]; exact h.gave_mem.symm
     conv => lhs; rw [e2]
     refine zmF fun x _ _ => ?_
     by_cases hx : x = to
     ·subst hx; simp [hm]
     ·simp [hx]
    unfold zdF
    rw [hz, e1, hR2, hrto]
    simp only [Option.bind_some, cond_true, Option.map_none, df (show ¬ (0 : Int) ≤ -1 by omega), cond_false, List.length_map, zoC hgl, zsb hgl, List.nil_append, List.length_append, List.length_cons, List.length_nil]
    by_cases h0 : rpend.length = 0
    ·have hr : rpend = [] := List.eq_nil_of_length_eq_zero h0
     subst hr
     by_cases hm : to ∈ rgave
     ·refine ⟨rgave, ?_, same hm⟩
      simp [Nat.beq, hm]
     ·refine ⟨_, ?_, rfl⟩
      simp [Nat.beq, hm]
    ·have hbq : Nat.beq rpend.length 0 = false := by
      cases hq : rpend.length with
      | zero => exact absurd hq h0
      | succ n => rfl
     rw [hbq, zo1 (show rpend.length ≤ 100000 by omega), zo1 (show rpend.length + (0 + 1) ≤ 100000 by omega)]
     have htk2 : List.take (rpend.length + (0 + 1)) (rpend ++ [zab.mk (last + 1) n to (zeh i t)]) = rpend ++ [zab.mk (last + 1) n to (zeh i t)] := List.take_of_length_le (by simp)
     by_cases hm : to ∈ rgave
     ·refine ⟨rgave, ?_, same hm⟩
      simp only [cond_false, cond_true, dt hm, htk2]
     ·refine ⟨_, ?_, rfl⟩
      simp only [cond_false, cond_true, df hm, htk2]
   obtain ⟨rgave', hQ, hrg⟩ := hQ
   refine ⟨last + 1, n, to, i, t, 0, last + 1, pend ++ [.mk (last + 1) n to i t], mset to v gave, rpend ++ [.mk (last + 1) n to (zeh i t)], rgave', hP, hQ, hn, hd, ?_⟩
   have hkeys : (mset to v gave).map (·.1) = if to ∈ gave.map (·.1) then gave.map (·.1) else gave.map (·.1) ++ [to] := zmy
   refine ⟨by rw [h.hp]; simp [toR], ?_, by simp; omega, by omega, by omega, ?_, ?_, ?_, ?_, h.tnd, h.tok, by have := h.tlen; omega, h.ts, h.tp⟩
   ·intro g hg
    rcases List.mem_append.1 hg with hg | hg
    ·exact h.okp g hg
    ·rw [List.mem_singleton] at hg
     subst hg
     exact ⟨hn, hd, q1, q2, q3, q4, q5, q6⟩
   ·rw [hkeys]
    split
    ·exact h.gnd
    ·rename_i hm
     rw [List.nodup_append]
     refine ⟨h.gnd, by simp, fun a ha b hb => ?_⟩
     rw [List.mem_singleton] at hb
     rw [hb]
     exact fun e => hm (e ▸ ha)
   ·intro e he
    rcases zoz he with he | rfl
    ·have := h.gok e he; exact ⟨this.1, by omega, this.2.2⟩
    ·exact ⟨hv0, by omega, q5, q6⟩
   ·have := zoy (k := to) (v := v) (m := gave)
    have := h.glen
    omega
   ·rw [hrg]
    refine zmF fun x _ _ => ?_
    rw [hkeys]
    have hgm := h.gave_mem (x := x)
    by_cases hx : x = to
    ·subst hx
     split
     ·rename_i hm; simp [hm]
     ·simp
    ·by_cases hxr : x ∈ rgave
     ·have hxg := hgm.1 hxr
      split <;> simp [hx, hxr, hxg]
     ·have hxg : x ∉ gave.map (·.1) := fun hc => hxr (hgm.2 hc)
      split <;> simp [hx, hxr, hxg]
theorem Rel.act {N : Nat} (hN : 100 ≤ N) (h : Rel B last pend gave took rpend rgave rtook) (hB : B ≤ 900) (n a a2 a3 a4 : Int) {a5 : List Int} (ha5 : Bytes a5) :
  ∃ last' pend' gave' took' rpend' rgave' rtook', zfw N a a2 a3 a4 a5 n last pend gave took n last rpend rgave rtook = some (true, last', pend', gave', took', last', rpend', rgave', rtook') ∧ Rel (B + 1) last' pend' gave' took' rpend' rgave' rtook' := by
 obtain ⟨i, t, hm, hn, hd⟩ := zub hN ha5
 unfold zfw
 rw [hm]
 simp only [Option.bind_some]
 by_cases h2 : irem .u8 a 5 = 2
 ·obtain ⟨e, pend', rpend', p1, p2, p3⟩ := h.done hB a4 n
  refine ⟨last, pend', gave, took, rpend', rgave, rtook, ?_, p3⟩
  simp only [dt h2, cond_true, p1, p2, Option.bind_some, decide_true]
 ·by_cases h3 : irem .u8 a 5 = 3
  ·obtain ⟨e, took', rtook', p1, p2, p3⟩ := h.take hB a4 a3 a2 n i t
   refine ⟨last, pend, gave, took', rpend, rgave, rtook', ?_, p3⟩
   simp only [df h2, dt h3, cond_true, cond_false, p1, p2, Option.bind_some, decide_true]
  ·by_cases h4 : irem .u8 a 5 = 4
   ·obtain ⟨e, took', rtook', p1, p2, p3⟩ := h.take hB a4 a3 a2 n i t
    refine ⟨last, pend, gave, took', rpend, rgave, rtook', ?_, p3⟩
    simp only [df h2, df h3, dt h4, cond_true, cond_false, p1, p2, Option.bind_some, decide_true]
   ·obtain ⟨no, f, to', i', t', e, last', pend', gave', rpend', rgave', p1, p2, p3, p4, p5⟩ := h.give hB a2 n hn hd
    refine ⟨last', pend', gave', took, rpend', rgave', rtook, ?_, p5⟩
    simp only [df h2, df h3, df h4, cond_true, cond_false, p1, p2, Option.bind_some, decide_true, zsT hN no f to' p3 p4]
end
end Go.Proofs.YtjjcmgdgifcmgaaGreat
