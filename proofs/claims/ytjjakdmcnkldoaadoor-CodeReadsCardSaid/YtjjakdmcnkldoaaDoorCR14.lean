/- A stamp's bytes; awake; the cut. Plain. -/
import Derived.Test.YtjjakdmcnkldoaaDoorCR13
set_option linter.unusedVariables false
set_option linter.unusedSimpArgs false
namespace Go.Proofs.YtjjakdmcnkldoaaDoor
open Go.Ev Go.Lib

theorem putID_first (N : Nat) (i : Bool) (t : T_id_halves) (n : Int) : code_PutID N i t n = code_PutID_2 (N + 1) i t n [] := by
  show code_PutID N i t n = code_PutID_2_b (code_PutID_2 N) i t n []
  unfold code_PutID code_PutID_2_b
  simp only [put_first]
theorem stampBytes {N : Nat} {i : Bool} {t : T_id_halves} {e : Int} {u : T_event_halves} (hd : depthID t < N) (hd2 : depthE u < N) (ho : okE e u) (hl : (encID i t ++ encEv e u).length ≤ 700000) : ∃ l, code_Stamp N i t e u = some l ∧ Pk l (encID i t ++ encEv e u) := by
  rw [List.length_append] at hl
  obtain ⟨l, h1, h2⟩ := putID_go (N := N + 1) (i := i) (t := t) (l := []) (B := []) (by omega) (by simpa using by omega) Pk.nil
  have h1' : code_PutID_2 (N + 1) i t 0 [] = _ := h1
  rw [List.nil_append] at h1' h2
  obtain ⟨l2, h3, h4⟩ := putEv_go (N := N) (e := e) (t := u) (l := l) (B := encID i t) hd2 ho (by simp only [List.length_append]; omega) h2
  refine ⟨l2, ?_, h4⟩
  unfold code_Stamp bits_NewWriter bits_Writer_Bytes
  have hlen := h4.len
  simp only [List.length_append] at hlen
  simp only [putID_first, h1', Option.bind_some, h3, List.take_length]
  rw [fits_ok (by omega)]
  rfl
theorem strOf_inj {a b : List Int} (ha : Bytes a) (hb : Bytes b) : strOf a = strOf b ↔ a = b := by
  constructor
  · intro h
    have h1 : (a.map fun n => UInt8.ofNat n.toNat) = (b.map fun n => UInt8.ofNat n.toNat) := by
      have := congrArg (fun z => z.data.toList) h
      simpa [strOf] using this
    have key : ∀ {a b : List Int}, Bytes a → Bytes b → (a.map fun n => UInt8.ofNat n.toNat) = (b.map fun n => UInt8.ofNat n.toNat) → a = b := by
      intro a
      induction a with
      | nil => intro b _ _ h; cases b with
        | nil => rfl
        | cons => simp at h
      | cons x a ih =>
        intro b ha hb h
        cases b with
        | nil => simp at h
        | cons y b =>
          simp only [List.map_cons, List.cons.injEq] at h
          have hx := ha x (by simp)
          have hy := hb y (by simp)
          have h2 := congrArg UInt8.toNat h.1
          simp only [UInt8.toNat_ofNat'] at h2
          rw [ih (fun z hz => ha z (by simp [hz])) (fun z hz => hb z (by simp [hz])) h.2, show x = y by omega]
    exact key ha hb h1
  · rintro rfl; rfl
theorem eq_eq {a b : List Int} (ha : Bytes a) (hb : Bytes b) : bytes_Equal a b = some (decide (a = b)) := by
  unfold bytes_Equal
  congr 1
  exact decide_eq_decide.2 (strOf_inj ha hb)
theorem awake_eq {N : Nat} (hN : 2 ≤ N) : kinfolklaw07_awake N = some true := by
  obtain ⟨l, h1, h2⟩ := stampBytes (N := N) (i := true) (t := .nil) (e := 0) (u := .nil) (by simp only [depthID]; omega) (by simp only [depthE]; omega) ⟨by decide, by decide⟩ (by decide)
  have hP : Pk [48] (encID true .nil ++ encEv 0 .nil) := by
    refine ⟨by decide, fun x hx => by simp at hx; omega, fun q j hj hq => ?_⟩
    obtain rfl : q = 0 := by simpa using hq
    have : ∀ j : Fin 8, (([48] : List Int).getD 0 0).toNat.testBit (7 - j.val) = (encID true .nil ++ encEv 0 .nil).getD (8 * 0 + j.val) false := by decide
    exact this ⟨j, hj⟩
  have he : l = [48] := h2.uniq hP
  subst he
  unfold kinfolklaw07_awake stamp_Seed id_One
  simp only [Option.bind_some, h1]
  rw [eq_eq hP.byte hP.byte]
  simp
theorem cut_eq {p : List Int} {most : Nat} (hm : most ≤ 10000) : kinfolklaw07_cut p most = some (p.take most) := by
  unfold kinfolklaw07_cut
  have hl : (p.take (min most p.length)) = p.take most := by
    rcases Nat.le_total most p.length with h | h
    · rw [Nat.min_eq_left h]
    · rw [Nat.min_eq_right h, List.take_length, List.take_of_length_le h]
  have h1 : ((if (most : Int) < (p.length : Int) then (most : Int) else (p.length : Int)) - 0).toNat = min most p.length := by
    split <;> omega
  have h3 : fits (p.take most).length = true := fits_ok (by rw [List.length_take]; omega)
  rw [h1, hl, h3]
  have h4 : (0 : Int) ≤ (if (most : Int) < (p.length : Int) then (most : Int) else (p.length : Int)) := by split <;> omega
  have h5 : (if (most : Int) < (p.length : Int) then (most : Int) else (p.length : Int)) ≤ (p.length : Int) := by split <;> omega
  rw [dt h4, dt h5]
  simp
end Go.Proofs.YtjjakdmcnkldoaaDoor
