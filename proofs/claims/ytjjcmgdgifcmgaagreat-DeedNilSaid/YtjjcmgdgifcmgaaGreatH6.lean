/- Chapter 15: a copy goes its own way; nil deeds. Plain. -/
import Derived.Test.YtjjcmgdgifcmgaaGreatH5
import Derived.Test.YtjjcmgdgifcmgaaGreatA7
set_option linter.unusedVariables false
set_option linter.unusedSimpArgs false
set_option linter.unusedSectionVars false
namespace Go.Proofs.YtjjcmgdgifcmgaaGreat
open Go.Ev Go.Lib
theorem ztC (n : Int) (h0 : 0 ≤ n) (h : n + 1 ≤ 9223372036854775807) : iadd .i64 n 1 = n + 1 := by
 unfold iadd
 simp [IntKind.wrap, IntKind.bits, IntKind.signed]
 omega
section
variable {N : Nat} {r : List zaa} (hr : r.length ≤ 1000)
include hr
theorem zuK (n n2 : Int) (m : List (Int × Int)) (m2 : List ((Int × Int) × Int)) : zbS n n2 m m2 r = some (r, r) := by
 unfold zbS
 rw [List.length_map, List.take_length, zn7 hr]
 rfl
theorem zvr (no n n2 : Int) (m : List (Int × Int)) (m2 : List ((Int × Int) × Int)) : zdr no n n2 m m2 r = zbV no n n2 r m m2 := by
 unfold zdr zbV
 simp only [zuK hr, zgn hr, Option.bind_some]
theorem zvE (g g2 g3 : Int) (i : Bool) (t : Idt) (n n2 : Int) (m : List (Int × Int)) (m2 : List ((Int × Int) × Int)) : zdv g g2 g3 i t n n2 m m2 r = zbF g g2 g3 i t n n2 r m m2 := rfl
theorem zvt (to : Int) (i : Bool) (t : Idt) (n n2 : Int) (m : List (Int × Int)) (m2 : List ((Int × Int) × Int)) : zds to i t n n2 m m2 r = zbE to i t n n2 r m m2 := by
 unfold zds zbE zeQ zcR
 simp only [zuK hr, zgn hr, Option.bind_some, zef, zeg, zbN, zbO]
 cases runL (zbk to (((List.map zaa.pv r)).length : Int) n n2 r m m2 r) 0 with
 | none => rfl
 | some z =>
  cases z with
  | inl x =>
   obtain ⟨x1, x2, x3, x4, x5⟩ := x
   simp only [Option.bind_some, zgn hr]
   rfl
  | inr x =>
   simp only [Option.bind_some, zgn hr]
   rfl
theorem do5 (a a2 a3 a4 : Int) (a5 : List Int) (n n2 : Int) (m : List (Int × Int)) (m2 : List ((Int × Int) × Int)) (n3 n4 : Int) (r1 : List zab) (l : List Int) (r2 : List zac) :
  ziA N a a2 a3 a4 a5 n n2 m m2 n3 n4 r1 l r2 r = zfw N a a2 a3 a4 a5 n n2 r m m2 n3 n4 r1 l r2 := by
 unfold ziA zfw
 simp only [zvr hr, zvE hr, zvt hr, List.length_map, List.take_length]
theorem zvy (n n2 : Int) (m : List (Int × Int)) (m2 : List ((Int × Int) × Int)) (n3 n4 : Int) (r1 : List zab) (l : List Int) (r2 : List zac) (h : zbh N n n2 r m m2 n3 n4 r1 l r2 = some ()) :
  zcC N n n2 m m2 n3 n4 r1 l r2 r = some r := by
 unfold zbh at h
 unfold zcC
 simp only [zuK hr, zgn hr, Option.bind_some] at h ⊢
 obtain ⟨r6, h1, h⟩ := zae h
 obtain ⟨_, h2, h⟩ := zae h
 rw [h1, h2]
 simp only [Option.bind_some]
 cases c1 : decide (n = n3) with
 | false => rw [c1] at h; cases h
 | true =>
  rw [c1] at h
  simp only [cond_true] at h ⊢
  obtain ⟨_, h3, h⟩ := zae h
  rw [h3]
  simp only [Option.bind_some]
  cases c2 : decide (n2 = n4) with
  | false => rw [c2] at h; cases h
  | true =>
   rw [c2] at h
   simp only [cond_true] at h ⊢
   cases c3 : decide (((((List.map zaa.pv r)).length : Int) : Int) = (((List.map zab.pv r1)).length : Int)) with
   | false => rw [c3] at h; cases h
   | true =>
    rw [c3] at h
    simp only [cond_true] at h ⊢
    cases c4 : decide (((((List.map zal.pv r6)).length : Int) : Int) = (((List.map zac.pv r2)).length : Int)) with
    | false => rw [c4] at h; cases h
    | true =>
     rw [c4] at h
     simp only [cond_true] at h ⊢
     obtain ⟨l1, h4, h⟩ := zae h
     obtain ⟨l2, h5, h⟩ := zae h
     obtain ⟨b, h6, h⟩ := zae h
     rw [h4, h5]
     simp only [Option.bind_some]
     rw [h6]
     simp only [Option.bind_some]
     cases b with
     | false => cases h
     | true =>
      simp only [cond_true] at h ⊢
      obtain ⟨z1, h7, h⟩ := zae h
      rw [h7]
      simp only [Option.bind_some]
      cases z1 with
      | inl x => cases h
      | inr x =>
       simp only at h ⊢
       obtain ⟨z2, h8, h⟩ := zae h
       rw [h8]
       simp only [Option.bind_some]
       cases z2 with
       | inl x => cases h
       | inr x =>
        simp only at h ⊢
        obtain ⟨z3, h9, h⟩ := zae h
        rw [h9]
        simp only [Option.bind_some]
        cases z3 with
        | inl x => cases h
        | inr x => rfl
end
theorem zvz {N : Nat} (hN : 100 ≤ N) {acts : List zao} (hs : ∀ a ∈ acts, Bytes (zm4 a)) (hl : acts.length ≤ 9223372036854775807) (self : Int) (more : List zao) (share : List Int) :
  ∀ (d k : Nat) {B : Nat} {last : Int} {pend : List zaa} {gave : List (Int × Int)} {took : List ((Int × Int) × Int)} {rpend : List zab} {rgave : List Int} {rtook : List zac}, k + d = acts.length → B = min k 15 → Rel B last pend gave took rpend rgave rtook →
  ∃ last' pend' gave' took' rpend' rgave' rtook', Rel 15 last' pend' gave' took' rpend' rgave' rtook' ∧
   runL (za8 N self more share acts (acts.length : Int)) ((k : Int), last, pend, gave, took, last, rpend, rgave, rtook) = some (last', pend', gave', took', last', rpend', rgave', rtook') := by
 intro d
 induction d with
 | zero =>
  intro k B last pend gave took rpend rgave rtook hk hB h
  refine ⟨last, pend, gave, took, rpend, rgave, rtook, h.mono (by omega), zbi ?_⟩
  simp only [za8, df (show ¬ (k : Int) < (acts.length : Int) by omega), cond_false]
 | succ d ih =>
  intro k B last pend gave took rpend rgave rtook hk hB h
  have hlt : k < acts.length := by omega
  have hg := List.getElem?_eq_getElem hlt
  have hb := hs _ (List.getElem_mem hlt)
  have hc : (k : Int) + 1 = ((k + 1 : Nat) : Int) := by simp
  cases hx : acts[k] with
  | mk a a2 a3 a4 a5 =>
   rw [hx] at hg hb
   have hb : Bytes a5 := hb
   by_cases h15 : (k : Int) < 15
   ·obtain ⟨last', pend', gave', took', rpend', rgave', rtook', h1, h2⟩ := h.act hN (by omega) 3 a a2 a3 a4 hb
    have hst : za8 N self more share acts (acts.length : Int) ((k : Int), last, pend, gave, took, last, rpend, rgave, rtook) = some (.inl (((k + 1 : Nat) : Int), last', pend', gave', took', last', rpend', rgave', rtook')) := by
     simp only [za8, zdL, List.length_map, dt (show (k : Int) < (acts.length : Int) by omega), dt (show (0 : Int) ≤ (k : Int) by omega), cond_true, Bool.and_self, Int.toNat_natCast, hg, Option.bind_some, dt h15, h1, ztC (k : Int) (by omega) (by omega), hc]
    rw [zbw hst]
    exact ih (k + 1) (B := B + 1) (by omega) (by omega) h2
   ·have hst : za8 N self more share acts (acts.length : Int) ((k : Int), last, pend, gave, took, last, rpend, rgave, rtook) = some (.inl (((k + 1 : Nat) : Int), last, pend, gave, took, last, rpend, rgave, rtook)) := by
     simp only [za8, zdL, List.length_map, dt (show (k : Int) < (acts.length : Int) by omega), dt (show (0 : Int) ≤ (k : Int) by omega), cond_true, Bool.and_self, Int.toNat_natCast, hg, Option.bind_some, df h15, cond_false, ztC (k : Int) (by omega) (by omega), hc]
    rw [zbw hst]
    exact ih (k + 1) (B := B) (by omega) (by omega) h
theorem zvA {N : Nat} (hN : 100 ≤ N) {acts : List zao} (hs : ∀ a ∈ acts, Bytes (zm4 a)) (hl : acts.length ≤ 9223372036854775807) (self : Int) (share : List Int)
  (b1 : Int) (b2 : List zaa) (b3 : List (Int × Int)) (b4 : List ((Int × Int) × Int)) (b5 : Int) (b6 : List zab) (b7 : List Int) (b8 : List zac) (c1 : Int) (c2 : List (Int × Int)) (c3 : List ((Int × Int) × Int)) (c4 : Int) (c5 : List zab) (c6 : List Int) (c7 : List zac) (c8 : List zaa) :
  ∀ (d k : Nat) {B : Nat} {last : Int} {pend : List zaa} {gave : List (Int × Int)} {took : List ((Int × Int) × Int)} {rpend : List zab} {rgave : List Int} {rtook : List zac}, k + d = acts.length → B ≤ 15 + min k 15 → Rel B last pend gave took rpend rgave rtook →
  ∃ last' pend' gave' took' rpend' rgave' rtook', Rel 30 last' pend' gave' took' rpend' rgave' rtook' ∧
   runL (zaX N self share acts (acts.length : Int) b1 b2 b3 b4 b5 b6 b7 b8 c1 c2 c3 c4 c5 c6 c7 c8) (.inr ((k : Int), last, pend, gave, took, last, rpend, rgave, rtook)) = some (.inr (.inr (last', pend', gave', took', last', rpend', rgave', rtook'))) := by
 intro d
 induction d with
 | zero =>
  intro k B last pend gave took rpend rgave rtook hk hB h
  refine ⟨last, pend, gave, took, rpend, rgave, rtook, h.mono (by omega), zbi ?_⟩
  simp only [zaX, df (show ¬ (k : Int) < (acts.length : Int) by omega), cond_false]
 | succ d ih =>
  intro k B last pend gave took rpend rgave rtook hk hB h
  have hlt : k < acts.length := by omega
  have hg := List.getElem?_eq_getElem hlt
  have hb := hs _ (List.getElem_mem hlt)
  have hc : (k : Int) + 1 = ((k + 1 : Nat) : Int) := by simp
  cases hx : acts[k] with
  | mk a a2 a3 a4 a5 =>
   rw [hx] at hg hb
   have hb : Bytes a5 := hb
   by_cases h15 : (k : Int) < 15
   ·obtain ⟨last', pend', gave', took', rpend', rgave', rtook', h1, h2⟩ := h.act hN (by omega) 3 a a2 a3 a4 hb
    have hst : zaX N self share acts (acts.length : Int) b1 b2 b3 b4 b5 b6 b7 b8 c1 c2 c3 c4 c5 c6 c7 c8 (.inr ((k : Int), last, pend, gave, took, last, rpend, rgave, rtook)) = some (.inl (.inr (((k + 1 : Nat) : Int), last', pend', gave', took', last', rpend', rgave', rtook'))) := by
     simp only [zaX, List.length_map, dt (show (k : Int) < (acts.length : Int) by omega), dt (show (0 : Int) ≤ (k : Int) by omega), cond_true, Bool.and_self, Int.toNat_natCast, hg, Option.bind_some, dt h15, h1, ztC (k : Int) (by omega) (by omega), hc]
    rw [zbw hst]
    exact ih (k + 1) (B := B + 1) (by omega) (by omega) h2
   ·have hst : zaX N self share acts (acts.length : Int) b1 b2 b3 b4 b5 b6 b7 b8 c1 c2 c3 c4 c5 c6 c7 c8 (.inr ((k : Int), last, pend, gave, took, last, rpend, rgave, rtook)) = some (.inl (.inr (((k + 1 : Nat) : Int), last, pend, gave, took, last, rpend, rgave, rtook))) := by
     simp only [zaX, List.length_map, dt (show (k : Int) < (acts.length : Int) by omega), dt (show (0 : Int) ≤ (k : Int) by omega), cond_true, Bool.and_self, Int.toNat_natCast, hg, Option.bind_some, df h15, cond_false, ztC (k : Int) (by omega) (by omega), hc]
    rw [zbw hst]
    exact ih (k + 1) (B := B) (by omega) (by omega) h
theorem zu2 (self : Int) (i : Bool) (t : Idt) : (0 ≤ self ∧ self < 12 ∧ self ≠ 3 ∧ zm7 i t = false ∧ ∃ x, zbL 3 i t self 0 [] [] = some (.inr x)) ∨
  (¬ (0 ≤ self ∧ self < 12 ∧ self ≠ 3 ∧ zm7 i t = false) ∧ zbL 3 i t self 0 [] [] = some (.inl 1)) := by
 obtain ⟨b, hR, _, hRt⟩ := zoD 1 self 3 i t
 have h1 : iadd .u64 0 1 = 1 := rfl
 have hz : b = true ↔ (0 ≤ self ∧ self < 12 ∧ self ≠ 3 ∧ zm7 i t = false) := by
  constructor
  ·intro hb
   have := hRt hb
   refine ⟨this.2.2.1, this.2.2.2.1, this.2.2.2.2.2.2, ?_⟩
   unfold zbC zf2 at hR
   simp only [dt (show (1 : Int) ≤ 1 by omega), dt (show (1 : Int) < 4611686018427387904 by omega), dt this.2.2.1, dt this.2.2.2.1, dt (show (0 : Int) ≤ 3 by omega), dt (show (3 : Int) < 12 by omega), cond_true, Option.bind_some, df this.2.2.2.2.2.2, cond_false, zo5, Option.some.injEq] at hR
   rw [hb] at hR
   simpa using hR
  ·rintro ⟨a1, a2, a3, a4⟩
   unfold zbC zf2 at hR
   simp only [dt (show (1 : Int) ≤ 1 by omega), dt (show (1 : Int) < 4611686018427387904 by omega), dt a1, dt a2, dt (show (0 : Int) ≤ 3 by omega), dt (show (3 : Int) < 12 by omega), cond_true, Option.bind_some, df a3, cond_false, zo5, Option.some.injEq, a4] at hR
   rw [← hR]; rfl
 cases hb : b with
 | true =>
  subst hb
  obtain ⟨a1, a2, a3, a4⟩ := hz.1 rfl
  refine .inl ⟨a1, a2, a3, a4, (1, 1, [.mk 1 self 3 i t], [(3, 1)]), ?_⟩
  unfold zbL
  simp only [zdt, zdu, Option.bind_some, zqA, h1, hR, cond_true, cond_false, zuJ]
  rfl
 | false =>
  subst hb
  refine .inr ⟨(fun hc => by have := hz.2 hc; cases this), ?_⟩
  unfold zbL
  simp only [zdt, zdu, Option.bind_some, zqA, h1, hR, cond_false]
theorem zuL : zav = some () := by first | rfl | (unfold zav; simp [zt3])
theorem to4 : zaI 1 = some (0, 0, 0, false, .nil, false) := by
 have h : runL (zb3 1 (((List.map zaa.pv [])).length : Int)) 0 = some (.inr ()) := zbi (by simp [zb3])
 unfold zaI
 rw [h, zuL]
 rfl
theorem zvu : zaC 1 true .nil = some () := by
 unfold zaC
 rw [to4]
 rfl
theorem zvs : zaS 1 = some () := by
 unfold zaS
 rw [zuL, zqV (by simp)]
 rfl
theorem zvB {N : Nat} (hN : 100 ≤ N) (self : Int) {acts more : List zao} {share : List Int} (ha : ∀ a ∈ acts, Bytes (zm4 a)) (hla : acts.length ≤ 9223372036854775807) (hm : ∀ a ∈ more, Bytes (zm4 a)) (hlm : more.length ≤ 9223372036854775807) (hsh : Bytes share) :
  zeu N self acts more share = some true := by
 obtain ⟨i, t, hmade, hn, hd⟩ := zub hN hsh
 obtain ⟨last, pend, gave, took, rpend, rgave, rtook, hR, h0⟩ := zvz hN ha hla self more share acts.length 0 (by omega) rfl Rel.zero
 have h0 : runL (za8 N self more share acts (acts.length : Int)) (0, 0, [], [], [], 0, [], [], []) = _ := h0
 have hlk := hR.like hN (by omega) (n := 3) (by omega) (by omega)
 have hpl : pend.length ≤ 1000 := by have := hR.plen; omega
 have hcopy : zd1 3 last pend gave took = some () := by
  unfold zd1
  rw [zgn hpl]
  rfl
 have fin : ∀ b : Bool, b = true → some b = some true := fun b h => by rw [h]
 unfold zeu
 rw [zul]
 simp only [Option.bind_some, cond_true, zgw, List.length_map, h0, hcopy, zkh, hmade, zdK, zvu, to4, zvs, hlk, zo5, za1, za0, za2, zaU, zaT, zaZ, zaQ, zuL, zaR, cond_false]
 have tail : some (decide ((iadd .i64 (iadd .i64 0 (((List.map zaa.pv [])).length : Int)) (((List.map zal.pv [])).length : Int)) = 0)) = some true := rfl
 cases more with
 | nil =>
  have h1 : runL (zaX N self share [] (([] : List zao).length : Int) last pend gave took last rpend rgave rtook last gave took last rpend rgave rtook pend) (.inl ()) = some (.inr (.inl ())) := zbi (by simp [zaX])
  rw [h1]
  simp only [Option.bind_some, zvy hpl _ _ _ _ _ _ _ _ _ hlk, cond_true]
  rcases zu2 self i t with ⟨a1, a2, a3, a4, x, hg⟩ | ⟨hno, hg⟩
  ·obtain ⟨x1, x2, x3, x4⟩ := x
   rw [hg]
   simp only [Option.bind_some, dt a1, dt a2, df a3, cond_true, cond_false, a4]
   rfl
  ·rw [hg]
   simp only [Option.bind_some]
   by_cases a1 : 0 ≤ self
   ·by_cases a2 : self < 12
    ·by_cases a3 : self = 3
     ·simp only [dt a1, dt a2, dt a3, cond_true, cond_false]
      rfl
     ·have a4 : zm7 i t = true := by
       cases hz : zm7 i t with
       | true => rfl
       | false => exact absurd ⟨a1, a2, a3, hz⟩ hno
      simp only [dt a1, dt a2, df a3, cond_true, cond_false, a4]
      rfl
    ·simp only [dt a1, df a2, cond_true, cond_false]
     rfl
   ·simp only [df a1, cond_true, cond_false]
    rfl
 | cons a0 more0 =>
  obtain ⟨last2, pend2, gave2, took2, rpend2, rgave2, rtook2, hR2, h1⟩ : ∃ last' pend' gave' took' rpend' rgave' rtook', Rel 30 last' pend' gave' took' rpend' rgave' rtook' ∧
    runL (zaX N self share (a0 :: more0) (((a0 :: more0)).length : Int) last pend gave took last rpend rgave rtook last gave took last rpend rgave rtook pend) (.inl ()) = some (.inr (.inr (last', pend', gave', took', last', rpend', rgave', rtook'))) := by
   have hb := hm a0 (by simp)
   cases a0 with
   | mk a a2 a3 a4 a5 =>
    have hb : Bytes a5 := hb
    obtain ⟨last', pend', gave', took', rpend', rgave', rtook', e1, e2⟩ := hR.act hN (by omega) 3 a a2 a3 a4 hb
    obtain ⟨last2, pend2, gave2, took2, rpend2, rgave2, rtook2, e3, e4⟩ := zvA hN hm hlm self share last pend gave took last rpend rgave rtook last gave took last rpend rgave rtook pend more0.length 1 (by simp; omega) (by omega) e2
    refine ⟨last2, pend2, gave2, took2, rpend2, rgave2, rtook2, e3, ?_⟩
    rw [← e4]
    refine zbw ?_
    simp only [zaX, List.length_map, dt (show (0 : Int) < (((zao.mk a a2 a3 a4 a5 :: more0)).length : Int) by simp only [List.length_cons]; omega), dt (show (0 : Int) ≤ 0 by omega), cond_true, Bool.and_self, List.getElem?_cons_zero, Option.bind_some, do5 hpl, e1]
    rfl
  rw [h1]
  have hlk2 := hR2.like hN (by omega) (n := 3) (by omega) (by omega)
  simp only [Option.bind_some, hlk2, cond_true]
  rcases zu2 self i t with ⟨a1, a2, a3, a4, x, hg⟩ | ⟨hno, hg⟩
  ·obtain ⟨x1, x2, x3, x4⟩ := x
   rw [hg]
   simp only [Option.bind_some, dt a1, dt a2, df a3, cond_true, cond_false, a4]
   rfl
  ·rw [hg]
   simp only [Option.bind_some]
   by_cases a1 : 0 ≤ self
   ·by_cases a2 : self < 12
    ·by_cases a3 : self = 3
     ·simp only [dt a1, dt a2, dt a3, cond_true, cond_false]
      rfl
     ·have a4 : zm7 i t = true := by
       cases hz : zm7 i t with
       | true => rfl
       | false => exact absurd ⟨a1, a2, a3, hz⟩ hno
      simp only [dt a1, dt a2, df a3, cond_true, cond_false, a4]
      rfl
    ·simp only [dt a1, df a2, cond_true, cond_false]
     rfl
   ·simp only [df a1, cond_true, cond_false]
    rfl
end Go.Proofs.YtjjcmgdgifcmgaaGreat
