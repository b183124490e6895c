/- CodeOnce answers true. Plain. -/
import Derived.Test.YtjjakdmcnkldoaaB7
set_option linter.unusedVariables false
set_option linter.unusedSimpArgs false
namespace Go.Proofs.Ytjjakdmcnkldoaa
open Go.Ev

theorem encID_len : ∀ {t : T_id_halves} {i : Bool}, (encID i t).length + 2 ≤ 5 * 2 ^ depthID t
  | .nil, i => by cases i <;> simp [encID, bitsN_len, depthID]
  | .mk b l b2 r, true => by
    have : 0 < 2 ^ depthID (.mk b l b2 r) := Nat.two_pow_pos _
    simp only [encID, List.length_append, bitsN_len]
    omega
  | .mk b l b2 r, false => by
    have h1 := encID_len (t := l) (i := b)
    have h2 := encID_len (t := r) (i := b2)
    have p1 : 2 ^ depthID l ≤ 2 ^ (max (depthID l) (depthID r)) := Nat.pow_le_pow_right (by decide) (by omega)
    have p2 : 2 ^ depthID r ≤ 2 ^ (max (depthID l) (depthID r)) := Nat.pow_le_pow_right (by decide) (by omega)
    have p3 : 0 < 2 ^ (max (depthID l) (depthID r)) := Nat.two_pow_pos _
    simp only [encID, depthID, Nat.pow_succ]
    split
    · simp only [List.length_append, bitsN_len]; omega
    · split <;> simp only [List.length_append, bitsN_len] <;> omega
theorem encEv_len : ∀ {t : T_event_halves} {e : Int}, (encEv e t).length + 132 ≤ 260 * 2 ^ depthE t
  | .nil, e => by
    have := encGo_len 62 2 e.toNat
    simp only [encEv, encNum, depthE, List.length_append, bitsN_len]
    omega
  | .mk a t b u, e => by
    have h1 := encEv_len (t := t) (e := a)
    have h2 := encEv_len (t := u) (e := b)
    have p1 : 2 ^ depthE t ≤ 2 ^ (max (depthE t) (depthE u)) := Nat.pow_le_pow_right (by decide) (by omega)
    have p2 : 2 ^ depthE u ≤ 2 ^ (max (depthE t) (depthE u)) := Nat.pow_le_pow_right (by decide) (by omega)
    have p3 : 0 < 2 ^ (max (depthE t) (depthE u)) := Nat.two_pow_pos _
    have hn := encGo_len 62 2 e.toNat
    have ht : (tagB (decide (e = 0)) (zeroEv a t) (zeroEv b u)).length ≤ 4 := by
      cases decide (e = 0) <;> cases zeroEv a t <;> cases zeroEv b u <;> decide
    have hx : (if 0 < e then encNum e.toNat else []).length ≤ 127 := by
      split
      · unfold encNum; omega
      · simp
    have hy : (if zeroEv a t then [] else encEv a t).length ≤ (encEv a t).length := by split <;> simp
    have hz : (if zeroEv b u then [] else encEv b u).length ≤ (encEv b u).length := by split <;> simp
    rw [encEv_mk]
    simp only [depthE, Nat.pow_succ, List.length_append, bitsN_len]
    omega
theorem putID_first (N : Nat) (i : Bool) (t : T_id_halves) (n : Int) : code_PutID N i t n = code_PutID_2 (N + 1) i t n [] := by
  show code_PutID N i t n = code_PutID_2_b (code_PutID_2 N) i t n []
  unfold code_PutID code_PutID_2_b
  simp only [put_first]
theorem putEv_first (N : Nat) (e : Int) (t : T_event_halves) (n : Int) : code_PutEvent_2 N e t n = code_PutEvent (N + 1) e t n [] := by
  show code_PutEvent_2 N e t n = code_PutEvent_b (code_PutEvent N) e t n []
  unfold code_PutEvent_2 code_PutEvent_b
  simp only [put_first]
theorem id_le {t : T_id_halves} {i : Bool} (h : depthID t ≤ 7) : (encID i t).length ≤ 1000 := by
  have h1 := encID_len (t := t) (i := i)
  have h2 : 2 ^ depthID t ≤ 2 ^ 7 := Nat.pow_le_pow_right (by decide) h
  omega
theorem ev_le {t : T_event_halves} {e : Int} (h : depthE t ≤ 7) : (encEv e t).length ≤ 40000 := by
  have h1 := encEv_len (t := t) (e := e)
  have h2 : 2 ^ depthE t ≤ 2 ^ 7 := Nat.pow_le_pow_right (by decide) h
  omega
theorem idBytes {N : Nat} {i : Bool} {t : T_id_halves} (hN : 20 ≤ N) (hd : depthID t ≤ 7) : ∃ l, code_ID N i t = some l ∧ Pk l (encID i t) := by
  have hl := id_le (i := i) hd
  obtain ⟨l, h1, h2⟩ := putID_go (N := N + 1) (i := i) (t := t) (l := []) (B := []) (by omega) (by simpa using by omega) Pk.nil
  have h1' : code_PutID_2 (N + 1) i t 0 [] = _ := h1
  refine ⟨l, ?_, h2⟩
  unfold code_ID bits_NewWriter bits_Writer_Bytes
  have hlen := h2.len
  simp only [List.nil_append] at hlen
  simp only [putID_first, h1', Option.bind_some, List.take_length]
  rw [fits_ok (by omega)]
  rfl
theorem evBytes {N : Nat} {e : Int} {t : T_event_halves} (hN : 20 ≤ N) (hd : depthE t ≤ 7) (hw : wfE e t) : ∃ l, code_Event N e t = some l ∧ Pk l (encEv e t) := by
  have hl := ev_le (e := e) hd
  obtain ⟨l, h1, h2⟩ := putEv_go (N := N + 1) (e := e) (t := t) (l := []) (B := []) (by omega) hw.ok (by simpa using by omega) Pk.nil
  have h1' : code_PutEvent (N + 1) e t 0 [] = _ := h1
  refine ⟨l, ?_, h2⟩
  unfold code_Event bits_NewWriter bits_Writer_Bytes
  have hlen := h2.len
  simp only [List.nil_append] at hlen
  simp only [putEv_first, h1', Option.bind_some, List.take_length]
  rw [fits_ok (by omega)]
  rfl
theorem stampBytes {N : Nat} {i : Bool} {t : T_id_halves} {e : Int} {u : T_event_halves} (hN : 20 ≤ N) (hd : depthID t ≤ 7) (hd2 : depthE u ≤ 7) (hw : wfE e u) : ∃ l, code_Stamp N i t e u = some l ∧ Pk l (encID i t ++ encEv e u) := by
  have hl := id_le (i := i) hd
  have hl2 := ev_le (e := e) hd2
  obtain ⟨l, h1, h2⟩ := putID_go (N := N + 1) (i := i) (t := t) (l := []) (B := []) (by omega) (by simpa using by omega) Pk.nil
  have h1' : code_PutID_2 (N + 1) i t 0 [] = _ := h1
  rw [List.nil_append] at h1' h2
  obtain ⟨l2, h3, h4⟩ := putEv_go (N := N) (e := e) (t := u) (l := l) (B := encID i t) (by omega) hw.ok (by simp only [List.length_append]; omega) h2
  refine ⟨l2, ?_, h4⟩
  unfold code_Stamp bits_NewWriter bits_Writer_Bytes
  have hlen := h4.len
  simp only [List.length_append] at hlen
  simp only [putID_first, h1', Option.bind_some, h3, List.take_length]
  rw [fits_ok (by omega)]
  rfl
theorem strOf_inj {a b : List Int} (ha : Bytes a) (hb : Bytes b) : strOf a = strOf b ↔ a = b := by
  constructor
  · intro h
    have h1 : (a.map fun n => UInt8.ofNat n.toNat) = (b.map fun n => UInt8.ofNat n.toNat) := by
      have := congrArg (fun z => z.data.toList) h
      simpa [strOf] using this
    have key : ∀ {a b : List Int}, Bytes a → Bytes b → (a.map fun n => UInt8.ofNat n.toNat) = (b.map fun n => UInt8.ofNat n.toNat) → a = b := by
      intro a
      induction a with
      | nil => intro b _ _ h; cases b with
        | nil => rfl
        | cons => simp at h
      | cons x a ih =>
        intro b ha hb h
        cases b with
        | nil => simp at h
        | cons y b =>
          simp only [List.map_cons, List.cons.injEq] at h
          have hx := ha x (by simp)
          have hy := hb y (by simp)
          have h2 := congrArg UInt8.toNat h.1
          simp only [UInt8.toNat_ofNat'] at h2
          rw [ih (fun z hz => ha z (by simp [hz])) (fun z hz => hb z (by simp [hz])) h.2, show x = y by omega]
    exact key ha hb h1
  · rintro rfl; rfl
theorem eq_eq {a b : List Int} (ha : Bytes a) (hb : Bytes b) : bytes_Equal a b = some (decide (a = b)) := by
  unfold bytes_Equal
  congr 1
  exact decide_eq_decide.2 (strOf_inj ha hb)
theorem awake_eq {N : Nat} (hN : 20 ≤ N) : kinfolklaw07_awake N = some true := by
  obtain ⟨l, h1, h2⟩ := stampBytes (N := N) (i := true) (t := .nil) (e := 0) (u := .nil) hN (by decide) (by decide) ⟨by decide, by decide⟩
  have hP : Pk [48] (encID true .nil ++ encEv 0 .nil) := by
    refine ⟨by decide, fun x hx => by simp at hx; omega, fun q j hj hq => ?_⟩
    obtain rfl : q = 0 := by simpa using hq
    have : ∀ j : Fin 8, (([48] : List Int).getD 0 0).toNat.testBit (7 - j.val) = (encID true .nil ++ encEv 0 .nil).getD (8 * 0 + j.val) false := by decide
    exact this ⟨j, hj⟩
  have he : l = [48] := h2.uniq hP
  subst he
  unfold kinfolklaw07_awake stamp_Seed id_One
  simp only [Option.bind_some, h1]
  rw [eq_eq hP.byte hP.byte]
  simp
theorem beq_of {b c : Bool} (h : b = true ↔ c = true) : (b == c) = true := by
  cases b <;> cases c <;> simp_all
theorem stampSame_eq {N : Nat} {i j : Bool} {t v : T_id_halves} {e f : Int} {u w : T_event_halves} (hN : 20 ≤ N) (d1 : depthID t ≤ 7) (d2 : depthID v ≤ 7) (d3 : depthE u ≤ 7) (d4 : depthE w ≤ 7) (h1 : wfID i t) (h2 : wfID j v) (h3 : wfE e u) (h4 : wfE f w) (m3 : maxE e u ≤ 28) (m4 : maxE f w ≤ 28) :
    ∃ b, stamp_Same N i t e u j v f w = some b ∧ (b = true ↔ (i = j ∧ t = v ∧ e = f ∧ u = w)) := by
  obtain ⟨b1, q1, q2⟩ := idSame_eq (N := N) (i := i) (j := j) (t := t) (u := v) (by omega) (by omega) h1 h2
  obtain ⟨b2, q3, q4⟩ := evSame_eq (N := N) (e := e) (f := f) (t := u) (u := w) (by omega) (by omega) h3 h4 (by omega) (by omega)
  unfold stamp_Same
  rw [q1, q3]
  refine ⟨b1 && b2, by cases b1 <;> rfl, ?_⟩
  rw [Bool.and_eq_true, q2, q4]
  constructor
  · rintro ⟨⟨a, b⟩, c, d⟩; exact ⟨a, b, c, d⟩
  · rintro ⟨a, b, c, d⟩; exact ⟨⟨a, b⟩, c, d⟩
theorem codeOnce_true {N : Nat} {p q r s : List Int} {same : Bool} (hN : 20 ≤ N) (hp : Bytes p) (hq : Bytes q) (hr : Bytes r) (hs : Bytes s) : kinfolklaw07_CodeOnce N p q r s same = some true := by
  obtain ⟨i, t, e, u, m1, a1, a2, a3, a4, a5⟩ := made_eq hN hp hq
  obtain ⟨j, v, f, w, m2, b1, b2, b3, b4, b5⟩ := made_eq hN hr hs
  -- of two stamps: the same bytes just if the same
  have once : ∀ {i j : Bool} {t v : T_id_halves} {e f : Int} {u w : T_event_halves}, nfID i t → nfID j v → depthID t ≤ 7 → depthID v ≤ 7 → wfE e u → wfE f w → depthE u ≤ 7 → depthE w ≤ 7 → maxE e u ≤ 28 → maxE f w ≤ 28 →
      ∃ l1 l2 l3 l4 l5 l6 x y z, code_Stamp N i t e u = some l1 ∧ code_Stamp N j v f w = some l2 ∧ code_ID N i t = some l3 ∧ code_ID N j v = some l4 ∧ code_Event N e u = some l5 ∧ code_Event N f w = some l6 ∧
        stamp_Same N i t e u j v f w = some x ∧ id_Same N i t j v = some y ∧ event_Same N e u f w = some z ∧ bytes_Equal l1 l2 = some x ∧ bytes_Equal l3 l4 = some y ∧ bytes_Equal l5 l6 = some z := by
    intro i j t v e f u w n1 n2 d1 d2 w1 w2 d3 d4 x1 x2
    obtain ⟨l1, c1, k1⟩ := stampBytes (i := i) (e := e) hN d1 d3 w1
    obtain ⟨l2, c2, k2⟩ := stampBytes (i := j) (e := f) hN d2 d4 w2
    obtain ⟨l3, c3, k3⟩ := idBytes (i := i) hN d1
    obtain ⟨l4, c4, k4⟩ := idBytes (i := j) hN d2
    obtain ⟨l5, c5, k5⟩ := evBytes (e := e) hN d3 w1
    obtain ⟨l6, c6, k6⟩ := evBytes (e := f) hN d4 w2
    obtain ⟨x, s1, s2⟩ := stampSame_eq hN d1 d2 d3 d4 n1.wf n2.wf w1 w2 x1 x2
    obtain ⟨y, s3, s4⟩ := idSame_eq (N := N) (i := i) (j := j) (t := t) (u := v) (by omega) (by omega) n1.wf n2.wf
    obtain ⟨z, s5, s6⟩ := evSame_eq (N := N) (e := e) (f := f) (t := u) (u := w) (by omega) (by omega) w1 w2 (by omega) (by omega)
    have tell : ∀ {b : Bool} {P : Prop} [Decidable P], (b = true ↔ P) → some (decide P) = some b := by
      intro b P _ h
      congr 1
      cases b
      · exact df (fun hp => by have := h.2 hp; cases this)
      · exact dt (h.1 rfl)
    refine ⟨l1, l2, l3, l4, l5, l6, x, y, z, c1, c2, c3, c4, c5, c6, s1, s3, s5, ?_, ?_, ?_⟩
    · rw [eq_eq k1.byte k2.byte]
      refine tell (s2.trans ⟨?_, ?_⟩)
      · rintro ⟨rfl, rfl, rfl, rfl⟩; exact k1.uniq k2
      · rintro rfl
        obtain ⟨r, s, h⟩ := Pk.same k1 k2
        rw [List.append_assoc, List.append_assoc] at h
        obtain ⟨g1, g2, g3⟩ := encID_eq n1.wf n2.wf h
        obtain ⟨g4, g5, -⟩ := encEv_eq w1 w2 g3
        exact ⟨g1, g2, g4, g5⟩
    · rw [eq_eq k3.byte k4.byte]
      refine tell (s4.trans ⟨?_, ?_⟩)
      · rintro ⟨rfl, rfl⟩; exact k3.uniq k4
      · rintro rfl
        obtain ⟨r, s, h⟩ := Pk.same k3 k4
        obtain ⟨g1, g2, -⟩ := encID_eq n1.wf n2.wf h
        exact ⟨g1, g2⟩
    · rw [eq_eq k5.byte k6.byte]
      refine tell (s6.trans ⟨?_, ?_⟩)
      · rintro ⟨rfl, rfl⟩; exact k5.uniq k6
      · rintro rfl
        obtain ⟨r, s, h⟩ := Pk.same k5 k6
        obtain ⟨g1, g2, -⟩ := encEv_eq w1 w2 h
        exact ⟨g1, g2⟩
  unfold kinfolklaw07_CodeOnce
  rw [awake_eq hN, m1, m2]
  simp only [Option.bind_some, cond_true]
  cases same with
  | true =>
    obtain ⟨l1, l2, l3, l4, l5, l6, x, y, z, c1, c2, c3, c4, c5, c6, s1, s2, s3, e1, e2, e3⟩ := once a1 a1 a2 a2 a3 a3 a4 a4 a5 a5
    rw [c1] at c2; rw [c3] at c4; rw [c5] at c6
    cases c2; cases c4; cases c6
    simp only [cond_true, c1, c3, c5, s1, s2, s3, e1, e2, e3, Option.bind_some, beq_self_eq_true]
  | false =>
    obtain ⟨l1, l2, l3, l4, l5, l6, x, y, z, c1, c2, c3, c4, c5, c6, s1, s2, s3, e1, e2, e3⟩ := once a1 b1 a2 b2 a3 b3 a4 b4 a5 b5
    simp only [cond_true, cond_false, c1, c2, c3, c4, c5, c6, s1, s2, s3, e1, e2, e3, Option.bind_some, beq_self_eq_true]
end Go.Proofs.Ytjjakdmcnkldoaa
