/- Chapter 15: every script of acts. Plain. -/
import Derived.Test.YtjjcmgdgifcmgaaGreatH4
set_option linter.unusedVariables false
set_option linter.unusedSimpArgs false
namespace Go.Proofs.YtjjcmgdgifcmgaaGreat
open Go.Ev Go.Lib
theorem clone0 : slices_Clone_deed_Gift [] = some () := clone_ok (by simp)
theorem pend0 (n n2 : Int) (m : List (Int × Int)) (m2 : List ((Int × Int) × Int)) : deed_Deeds_Pending n n2 m m2 = some () := by simp [deed_Deeds_Pending, clone0]
theorem to_none (to n n2 : Int) (m : List (Int × Int)) (m2 : List ((Int × Int) × Int)) : deed_Deeds_To to n n2 m m2 = some (0, 0, 0, false, T_id_halves.nil, false) := by
 have h : runL (deed_Deeds_To_L0_step to (((List.map E_deed_Gift.pv [])).length : Int) n n2 m m2) 0 = some (.inr ()) := runL_done (by simp [deed_Deeds_To_L0_step])
 unfold deed_Deeds_To
 rw [h, pend0]
 rfl
theorem awake15 : kl15_awake = some true := by
 have g : deed_Deeds_Give 2 true T_id_halves.nil 0 0 [] [] = some (.inr (1, 1, [.mk 1 0 2 true .nil], [(2, 1)])) := by
  obtain ⟨b, hR, _⟩ := right15 1 0 2 true .nil
  unfold deed_Deeds_Give
  have h1 : iadd .u64 0 1 = 1 := rfl
  have hr : deed_Gift_Right 1 0 2 true T_id_halves.nil = some true := rfl
  simp only [deed_Deeds_Last, deed_Deeds_Self, Option.bind_some, to_none, h1, hr, cond_true, cond_false, pend0]
  rfl
 have d : deed_Deeds_Done 1 0 1 [.mk 1 0 2 true .nil] [(2, 1)] [] = some (0, []) := by
  rw [done_eq (by simp)]
  rfl
 have v : deed_Deeds_Gave 2 0 1 [] [(2, 1)] [] = some true := by
  simp [deed_Deeds_Gave, mget]
 simp only [kl15_awake, deed_New, id_One, g, Option.bind_some, decide_true, cond_true, d, v, pend_ok (show ([] : List E_deed_Gift).length ≤ 1000 by simp)]
 rfl
theorem irem12 {a : Int} (h : 0 ≤ a) : IntKind.i64.wrap (irem .u8 a 12) = a % 12 := by
 have := irem8 (b := a) (c := 12) h
 rw [show irem .u8 a 12 = a % 12 from this]
 simp [IntKind.wrap, IntKind.bits, IntKind.signed]
 omega
def shareOf : E_kl15_Act → List Int | .mk _ _ _ _ l => l
theorem plays_loop {N : Nat} (hN : 100 ≤ N) {acts : List E_kl15_Act} (hs : ∀ a ∈ acts, Bytes (shareOf a)) (n : Int) :
  ∀ (d k : Nat) {last : Int} {pend : List E_deed_Gift} {gave : List (Int × Int)} {took : List ((Int × Int) × Int)} {rpend : List E_kr15_Gift} {rgave : List Int} {rtook : List E_kr15_Mark}, k + d = acts.length → k ≤ 40 → Rel k last pend gave took rpend rgave rtook →
  ∃ last' pend' gave' took' rpend' rgave' rtook', Rel 40 last' pend' gave' took' rpend' rgave' rtook' ∧
   ((∃ x1 x2 x3 x4 x5, runL (kl15_DeedPlays_L0_4_step N acts (acts.length : Int) n n) ((k : Int), last, pend, gave, took, last, rpend, rgave, rtook) = some (.inl (last', pend', gave', took', last', rpend', rgave', rtook', x1, x2, x3, x4, x5))) ∨
   runL (kl15_DeedPlays_L0_4_step N acts (acts.length : Int) n n) ((k : Int), last, pend, gave, took, last, rpend, rgave, rtook) = some (.inr (.inr (last', pend', gave', took', last', rpend', rgave', rtook')))) := by
 intro d
 induction d with
 | zero =>
  intro k last pend gave took rpend rgave rtook hk hk40 h
  refine ⟨last, pend, gave, took, rpend, rgave, rtook, h.mono hk40, .inr (runL_done ?_)⟩
  simp only [kl15_DeedPlays_L0_4_step, df (show ¬ (k : Int) < (acts.length : Int) by omega), cond_false]
 | succ d ih =>
  intro k last pend gave took rpend rgave rtook hk hk40 h
  have hlt : k < acts.length := by omega
  have hg := List.getElem?_eq_getElem hlt
  have hb := hs _ (List.getElem_mem hlt)
  cases hx : acts[k] with
  | mk a a2 a3 a4 a5 =>
   rw [hx] at hg hb
   have hb : Bytes a5 := hb
   by_cases h40 : (40 : Int) ≤ (k : Int)
   ·refine ⟨last, pend, gave, took, rpend, rgave, rtook, h.mono hk40, .inl ⟨a, a2, a3, a4, a5, runL_done ?_⟩⟩
    simp only [kl15_DeedPlays_L0_4_step, List.length_map, dt (show (k : Int) < (acts.length : Int) by omega), dt (show (0 : Int) ≤ (k : Int) by omega), cond_true, Bool.and_self, Int.toNat_natCast, hg, Option.bind_some, dt h40]
   ·obtain ⟨last', pend', gave', took', rpend', rgave', rtook', h1, h2⟩ := h.act hN (by omega) n a a2 a3 a4 hb
    have hst : kl15_DeedPlays_L0_4_step N acts (acts.length : Int) n n ((k : Int), last, pend, gave, took, last, rpend, rgave, rtook) = some (.inl (((k + 1 : Nat) : Int), last', pend', gave', took', last', rpend', rgave', rtook')) := by
     simp only [kl15_DeedPlays_L0_4_step, List.length_map, dt (show (k : Int) < (acts.length : Int) by omega), dt (show (0 : Int) ≤ (k : Int) by omega), cond_true, Bool.and_self, Int.toNat_natCast, hg, Option.bind_some, df h40, cond_false, h1, iadd1' (k : Int) (by omega) (by omega)]
     simp
    rw [runL_next hst]
    exact ih (k + 1) (by omega) (by omega) h2
theorem plays15 {N : Nat} (hN : 100 ≤ N) {self : Int} (h0 : 0 ≤ self) {acts : List E_kl15_Act} (hs : ∀ a ∈ acts, Bytes (shareOf a)) : kl15_DeedPlays N self acts = some true := by
 unfold kl15_DeedPlays
 rw [awake15, irem12 h0]
 simp only [Option.bind_some, cond_true, deed_New, List.length_map]
 obtain ⟨last', pend', gave', took', rpend', rgave', rtook', hR, h⟩ := plays_loop hN hs (self % 12) acts.length 0 (by omega) (by omega) Rel.zero
 have hl := hR.like hN (by omega) (n := self % 12) (by omega) (by omega)
 rcases h with ⟨x1, x2, x3, x4, x5, h⟩ | h
 ·have h : runL (kl15_DeedPlays_L0_4_step N acts (acts.length : Int) (self % 12) (self % 12)) (0, 0, [], [], [], 0, [], [], []) = _ := h
  rw [h]
  simp only [Option.bind_some, hl]
 ·have h : runL (kl15_DeedPlays_L0_4_step N acts (acts.length : Int) (self % 12) (self % 12)) (0, 0, [], [], [], 0, [], [], []) = _ := h
  rw [h]
  simp only [Option.bind_some, hl]
end Go.Proofs.YtjjcmgdgifcmgaaGreat
