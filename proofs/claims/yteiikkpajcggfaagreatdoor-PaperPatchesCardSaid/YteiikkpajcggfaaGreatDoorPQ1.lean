/- Patches read whole; PaperTotal. Plain. -/
import Derived.Test.YteiikkpajcggfaaGreatDoorPT3
set_option linter.unusedVariables false
set_option linter.unusedSimpArgs false
namespace Go.Proofs.YteiikkpajcggfaaGreatDoor
open Go.Ev Go.Lib
theorem iu1 {k : Nat} (h : k ≤ 1000000) : iadd .u64 (k : Int) 1 = ((k + 1 : Nat) : Int) := by
 show IntKind.u64.wrap ((k : Int) + 1) = _
 rw [IntWalk.u64_in _ ⟨by omega, by omega⟩]
 omega
theorem byte_err {l : List Int} {e : Int} (he : ¬ e = 0) : wire_In_Byte l e = some (0, l, e) := by
 unfold wire_In_Byte
 simp only [W.err_eq, W.fail_eq, Option.bind_some, df he, cond_false, if_neg he]
theorem text_err {m : Int} {l : List Int} {e : Int} (he : ¬ e = 0) : wire_In_Text m l e = some ((⟨#[]⟩ : ByteArray), l, e) := by
 unfold wire_In_Text
 simp only [W.err_eq, Option.bind_some, df he, cond_false]
def Byt : Fd → Prop | .mk a b c => (0 ≤ a ∧ a < 256) ∧ b.size ≤ 255 ∧ c.size ≤ 255
theorem Byt.small {x : Fd} (h : Byt x) : Small x := by
 cases x with
 | mk a b c => exact ⟨by have := h.2.1; omega, by have := h.2.2; omega⟩
theorem some_err {n : Nat} (hn : n ≤ 255) {l : List Int} {e : Int} (he : ¬ e = 0) : ∀ {d k : Nat} {r : List Fd}, n - k = d → r.length ≤ k →
  ∃ r' : List Fd, runL (paper_some_L0_2_step (n : Int)) ((k : Int), l, e, r) = some (l, e, r')
 | 0, k, r, hd, hr => by
  refine ⟨r, runL_done ?_⟩
  rw [paper_some_L0_2_step, df (by omega)]
  rfl
 | d + 1, k, r, hd, hr => by
  obtain ⟨r', h⟩ := some_err hn he (l := l) (d := d) (k := k + 1) (r := r ++ [(E_card_Field.mk (IntKind.i64.wrap 0) (⟨#[]⟩ : ByteArray) (⟨#[]⟩ : ByteArray))]) (by omega) (by rw [List.length_append]; simp; omega)
  refine ⟨r', ?_⟩
  rw [runL_next (s' := (((k + 1 : Nat) : Int), l, e, r ++ [(E_card_Field.mk (IntKind.i64.wrap 0) (⟨#[]⟩ : ByteArray) (⟨#[]⟩ : ByteArray))])), h]
  rw [paper_some_L0_2_step, dt (by omega), cond_true, byte_err he, Option.bind_some]
  simp only
  rw [text_err he, Option.bind_some]
  simp only
  rw [text_err he, Option.bind_some]
  simp only
  rw [fits_of (by simp; omega), cond_true, iu1 (by omega)]
theorem some_loop {n : Nat} (hn : n ≤ 255) {p : List Int} (hb : W.Bytes p) (hp : p.length ≤ 1000000) : ∀ {d k at_ : Nat} {r : List Fd}, n - k = d → k ≤ n → r.length = k → at_ ≤ p.length →
  ∃ (at2 : Nat) (e2 : Int) (c : List Fd) (rr : List E_kinfolkref09_Field), runL (paper_some_L0_2_step (n : Int)) ((k : Int), p.drop at_, 0, r) = some (p.drop at2, e2, c) ∧
   runL (kinfolkref10_some_L0_2_step (n : Int) p) ((k : Int), (at_ : Int), 0, r.map toR) = some ((at2 : Int), e2, rr) ∧ at2 ≤ p.length ∧
   (e2 = 0 → ∃ s : List Fd, c = r ++ s ∧ rr = c.map toR ∧ c.length = n ∧ (∀ x ∈ s, Byt x) ∧ p.drop at_ = encFs s ++ p.drop at2)
 | 0, k, at_, r, hd, hkn, hr, ha => by
  refine ⟨at_, 0, r, r.map toR, runL_done ?_, runL_done ?_, ha, fun _ => ⟨[], by simp, rfl, by omega, by simp, rfl⟩⟩
  ·rw [paper_some_L0_2_step, df (by omega)]; rfl
  ·rw [kinfolkref10_some_L0_2_step, df (by omega)]; rfl
 | d + 1, k, at_, r, hd, hkn, hr, ha => by
  obtain ⟨v, a1, e1, p1, q1, l1, g1⟩ := W.byte_spec hp ha 0
  obtain ⟨s1, a2, e2, p2, q2, l2, z2, g2⟩ := W.text_spec hb hp l1 e1 (most := 255) (by decide)
  obtain ⟨s2, a3, e3, p3, q3, l3, z3, g3⟩ := W.text_spec hb hp l2 e2 (most := 255) (by decide)
  have p2' : wire_In_Text 255 (p.drop a1) e1 = some (s1, p.drop a2, e2) := p2
  have p3' : wire_In_Text 255 (p.drop a2) e2 = some (s2, p.drop a3, e3) := p3
  have q2' : kinfolkref06_GetText 255 p (a1 : Int) e1 = some (s1, (a2 : Int), e2) := q2
  have q3' : kinfolkref06_GetText 255 p (a2 : Int) e2 = some (s2, (a3 : Int), e3) := q3
  have st1 : paper_some_L0_2_step (n : Int) ((k : Int), p.drop at_, 0, r) = some (.inl (((k + 1 : Nat) : Int), p.drop a3, e3, r ++ [(E_card_Field.mk (IntKind.i64.wrap v) s1 s2)])) := by
   rw [paper_some_L0_2_step, dt (by omega), cond_true, p1, Option.bind_some]
   simp only
   rw [p2', Option.bind_some]
   simp only
   rw [p3', Option.bind_some]
   simp only
   rw [fits_of (by simp; omega), cond_true, iu1 (by omega)]
  have st2 : kinfolkref10_some_L0_2_step (n : Int) p ((k : Int), (at_ : Int), 0, r.map toR) = some (.inl (((k + 1 : Nat) : Int), (a3 : Int), e3, (r ++ [(E_card_Field.mk (IntKind.i64.wrap v) s1 s2)]).map toR)) := by
   rw [kinfolkref10_some_L0_2_step, dt (by omega), cond_true, dt rfl, cond_true, q1, Option.bind_some]
   simp only
   rw [q2', Option.bind_some]
   simp only
   rw [q3', Option.bind_some]
   simp only
   rw [fits_of (by simp; omega), cond_true, iu1 (by omega), List.map_append]
   rfl
  rw [runL_next st1, runL_next st2]
  by_cases he : e3 = 0
  ·subst he
   obtain ⟨he2, hs2, t2⟩ := g3 rfl
   obtain ⟨he1, hs1, t1⟩ := g2 he2
   obtain ⟨_, hlt, rfl, hv⟩ := g1 he1
   have hvb : 0 ≤ v ∧ v < 256 := by
    rw [hv, List.getD_eq_getElem?_getD, List.getElem?_eq_getElem hlt]
    exact hb _ (List.getElem_mem hlt)
   have hw : IntKind.i64.wrap v = v := byte_i64 hvb
   obtain ⟨at2, e2', c, rr, h1, h2, h3, h4⟩ := some_loop hn hb hp (d := d) (k := k + 1) (at_ := a3) (r := r ++ [(E_card_Field.mk (IntKind.i64.wrap v) s1 s2)]) (by omega) (by omega) (by rw [List.length_append]; simp; omega) l3
   refine ⟨at2, e2', c, rr, h1, h2, h3, fun h0 => ?_⟩
   obtain ⟨s, x1, x2, x3, x4, x5⟩ := h4 h0
   refine ⟨(E_card_Field.mk (IntKind.i64.wrap v) s1 s2) :: s, by rw [x1, List.append_assoc]; rfl, x2, x3, ?_, ?_⟩
   ·intro x hx
    rcases List.mem_cons.1 hx with rfl | hx
    ·exact ⟨by rw [hw]; exact hvb, hs1, hs2⟩
    ·exact x4 x hx
   ·have h6 : p.drop at_ = v :: p.drop (at_ + 1) := by
     rw [List.drop_eq_getElem_cons hlt, hv, List.getD_eq_getElem?_getD, List.getElem?_eq_getElem hlt]
     rfl
    have h7 : encFs ((E_card_Field.mk (IntKind.i64.wrap v) s1 s2) :: s) = encF (E_card_Field.mk (IntKind.i64.wrap v) s1 s2) ++ encFs s := rfl
    rw [h7, h6, t1, t2, x5]
    simp only [encF, hw, byte_u8 hvb, List.cons_append, List.append_assoc]
  ·obtain ⟨r', h1⟩ := some_err hn he (l := p.drop a3) (d := d) (k := k + 1) (r := r ++ [(E_card_Field.mk (IntKind.i64.wrap v) s1 s2)]) (by omega) (by rw [List.length_append]; simp; omega)
   refine ⟨a3, e3, r', _, h1, runL_done (r := ((a3 : Int), e3, (r ++ [(E_card_Field.mk (IntKind.i64.wrap v) s1 s2)]).map toR)) ?_, l3, fun h0 => absurd h0 he⟩
   rw [kinfolkref10_some_L0_2_step]
   by_cases hk : ((k + 1 : Nat) : Int) < (n : Int)
   ·rw [dt hk, cond_true, df he]; rfl
   ·rw [df hk]; rfl
theorem some_pair {p : List Int} (hb : W.Bytes p) (hp : p.length ≤ 1000000) {at_ : Nat} (ha : at_ ≤ p.length) (e : Int) :
  ∃ (at2 : Nat) (e2 : Int) (c : List Fd) (rr : List E_kinfolkref09_Field), paper_some (p.drop at_) e = some (p.drop at2, e2, c) ∧ kinfolkref10_some p (at_ : Int) e = some ((at2 : Int), e2, rr) ∧ at2 ≤ p.length ∧
   (e2 = 0 → e = 0 ∧ rr = c.map toR ∧ c.length ≤ 255 ∧ (∀ x ∈ c, Byt x) ∧ p.drop at_ = encC c ++ p.drop at2) := by
 obtain ⟨v, at1, e1, n1, n2, n3, n4, n5, n6⟩ := W.num_spec hb hp ha e
 unfold paper_some kinfolkref10_some paper_count
 rw [n1, n2]
 simp only [Option.bind_some]
 by_cases h8 : 255 < v
 ·have he4 : ¬ (if e1 = 0 then (9 : Int) else e1) = 0 := by split <;> omega
  rw [dt h8]
  simp only [cond_true, W.fail_eq, W.rfail_eq, Option.bind_some]
  generalize (if e1 = 0 then (9 : Int) else e1) = e4 at he4
  have s1 : paper_some_L0_2_step 0 (0, p.drop at1, e4, []) = some (.inr (p.drop at1, e4, [])) := rfl
  have s2 : kinfolkref10_some_L0_2_step v p (0, (at1 : Int), e4, []) = some (.inr ((at1 : Int), e4, [])) := by
   rw [kinfolkref10_some_L0_2_step, dt (by omega), cond_true, df he4]; rfl
  rw [runL_done s1, runL_done s2]
  exact ⟨at1, e4, [], [], rfl, rfl, n3, fun h => absurd h he4⟩
 ·obtain ⟨n, rfl⟩ : ∃ n : Nat, v = (n : Int) := ⟨v.toNat, by omega⟩
  rw [df h8]
  simp only [cond_false, Option.bind_some]
  by_cases he1 : e1 = 0
  ·subst he1
   obtain ⟨he, k, k1, k2⟩ := n6 rfl
   obtain ⟨at2, e2, c, rr, h1, h2, h3, h4⟩ := some_loop (n := n) (by omega) hb hp (d := n) (k := 0) (at_ := at1) (r := []) (by omega) (Nat.zero_le _) rfl n3
   simp only [Int.natCast_zero, List.map_nil] at h1 h2
   rw [h1, h2]
   refine ⟨at2, e2, c, rr, rfl, rfl, h3, fun h0 => ?_⟩
   obtain ⟨s, x1, x2, x3, x4, x5⟩ := h4 h0
   rw [List.nil_append] at x1
   subst x1
   refine ⟨he, x2, by omega, x4, ?_⟩
   have hv := W.dec_var (hb.drop at_) k1
   rw [List.drop_drop, ← k2] at hv
   rw [hv, x5, encC, x3, List.append_assoc]
  ·obtain ⟨r', h1⟩ := some_err (n := n) (by omega) he1 (l := p.drop at1) (d := n) (k := 0) (r := []) (by omega) (by simp)
   simp only [Int.natCast_zero] at h1
   have s2 : kinfolkref10_some_L0_2_step (n : Int) p (0, (at1 : Int), e1, []) = some (.inr ((at1 : Int), e1, [])) := by
    rw [kinfolkref10_some_L0_2_step, df he1]
    cases decide ((0 : Int) < (n : Int)) <;> rfl
   rw [h1, runL_done s2]
   exact ⟨at1, e1, r', [], rfl, rfl, n3, fun h => absurd h he1⟩
theorem ints_err {n : Nat} (hn : n ≤ 255) {l : List Int} {e : Int} (he : ¬ e = 0) {r1 r2 : List Fd} : ∀ {d k : Nat} {r : List Int}, n - k = d → r.length ≤ k →
  ∃ r' : List Int, runL (paper_ReadPatch_L0_2_step (n : Int) r1 r2) ((k : Int), l, e, r) = some (l, e, r')
 | 0, k, r, hd, hr => by
  refine ⟨r, runL_done ?_⟩
  rw [paper_ReadPatch_L0_2_step, df (by omega)]
  rfl
 | d + 1, k, r, hd, hr => by
  obtain ⟨r', h⟩ := ints_err hn he (l := l) (r1 := r1) (r2 := r2) (d := d) (k := k + 1) (r := r ++ [IntKind.i64.wrap 0]) (by omega) (by rw [List.length_append]; simp; omega)
  refine ⟨r', ?_⟩
  rw [runL_next (s' := (((k + 1 : Nat) : Int), l, e, r ++ [IntKind.i64.wrap 0])), h]
  rw [paper_ReadPatch_L0_2_step, dt (by omega), cond_true, byte_err he, Option.bind_some]
  simp only
  rw [fits_of (by simp; omega), cond_true, iu1 (by omega)]
theorem ints_loop {n : Nat} (hn : n ≤ 255) {p : List Int} (hb : W.Bytes p) (hp : p.length ≤ 1000000) {r1 r2 : List Fd} {g1 g2 : List E_kinfolkref09_Field} : ∀ {d k at_ : Nat} {r : List Int}, n - k = d → k ≤ n → r.length = k → at_ ≤ p.length →
  ∃ (at2 : Nat) (e2 : Int) (c rr : List Int), runL (paper_ReadPatch_L0_2_step (n : Int) r1 r2) ((k : Int), p.drop at_, 0, r) = some (p.drop at2, e2, c) ∧
   runL (kinfolkref10_ReadPatch_L0_2_step (n : Int) p g1 g2) ((k : Int), (at_ : Int), 0, r) = some ((at2 : Int), e2, rr) ∧ at2 ≤ p.length ∧
   (e2 = 0 → ∃ s : List Int, c = r ++ s ∧ rr = c ∧ c.length = n ∧ (∀ x ∈ s, 0 ≤ x ∧ x < 256) ∧ p.drop at_ = s ++ p.drop at2)
 | 0, k, at_, r, hd, hkn, hr, ha => by
  refine ⟨at_, 0, r, r, runL_done ?_, runL_done ?_, ha, fun _ => ⟨[], by simp, rfl, by omega, by simp, rfl⟩⟩
  ·rw [paper_ReadPatch_L0_2_step, df (by omega)]; rfl
  ·rw [kinfolkref10_ReadPatch_L0_2_step, df (by omega)]; rfl
 | d + 1, k, at_, r, hd, hkn, hr, ha => by
  obtain ⟨v, a1, e1, p1, q1, l1, y1⟩ := W.byte_spec hp ha 0
  have st1 : paper_ReadPatch_L0_2_step (n : Int) r1 r2 ((k : Int), p.drop at_, 0, r) = some (.inl (((k + 1 : Nat) : Int), p.drop a1, e1, r ++ [IntKind.i64.wrap v])) := by
   rw [paper_ReadPatch_L0_2_step, dt (by omega), cond_true, p1, Option.bind_some]
   simp only
   rw [fits_of (by simp; omega), cond_true, iu1 (by omega)]
  have st2 : kinfolkref10_ReadPatch_L0_2_step (n : Int) p g1 g2 ((k : Int), (at_ : Int), 0, r) = some (.inl (((k + 1 : Nat) : Int), (a1 : Int), e1, r ++ [IntKind.i64.wrap v])) := by
   rw [kinfolkref10_ReadPatch_L0_2_step, dt (by omega), cond_true, dt rfl, cond_true, q1, Option.bind_some]
   simp only
   rw [fits_of (by simp; omega), cond_true, iu1 (by omega)]
  rw [runL_next st1, runL_next st2]
  by_cases he : e1 = 0
  ·subst he
   obtain ⟨_, hlt, rfl, hv⟩ := y1 rfl
   have hvb : 0 ≤ v ∧ v < 256 := by
    rw [hv, List.getD_eq_getElem?_getD, List.getElem?_eq_getElem hlt]
    exact hb _ (List.getElem_mem hlt)
   have hw : IntKind.i64.wrap v = v := byte_i64 hvb
   obtain ⟨at2, e2', c, rr, h1, h2, h3, h4⟩ := ints_loop hn hb hp (r1 := r1) (r2 := r2) (g1 := g1) (g2 := g2) (d := d) (k := k + 1) (at_ := at_ + 1) (r := r ++ [IntKind.i64.wrap v]) (by omega) (by omega) (by rw [List.length_append]; simp; omega) l1
   refine ⟨at2, e2', c, rr, h1, h2, h3, fun h0 => ?_⟩
   obtain ⟨s, x1, x2, x3, x4, x5⟩ := h4 h0
   refine ⟨v :: s, by rw [x1, List.append_assoc, hw]; rfl, x2, x3, ?_, ?_⟩
   ·intro x hx
    rcases List.mem_cons.1 hx with rfl | hx
    ·exact hvb
    ·exact x4 x hx
   ·have h6 : p.drop at_ = v :: p.drop (at_ + 1) := by
     rw [List.drop_eq_getElem_cons hlt, hv, List.getD_eq_getElem?_getD, List.getElem?_eq_getElem hlt]
     rfl
    rw [h6, x5]
    rfl
  ·obtain ⟨r', h1⟩ := ints_err hn he (l := p.drop a1) (r1 := r1) (r2 := r2) (d := d) (k := k + 1) (r := r ++ [IntKind.i64.wrap v]) (by omega) (by rw [List.length_append]; simp; omega)
   refine ⟨a1, e1, r', _, h1, runL_done (r := ((a1 : Int), e1, r ++ [IntKind.i64.wrap v])) ?_, l1, fun h0 => absurd h0 he⟩
   rw [kinfolkref10_ReadPatch_L0_2_step]
   by_cases hk : ((k + 1 : Nat) : Int) < (n : Int)
   ·rw [dt hk, cond_true, df he]; rfl
   ·rw [df hk]; rfl
def encP (a b : List Fd) (c : List Int) : List Int := encC a ++ (encC b ++ (W.varint (c.length : Int) ++ c))
theorem patch_pair {p : List Int} (hb : W.Bytes p) (hp : p.length ≤ 1000000) :
  ∃ (a b : List Fd) (c : List Int) (e : Int), paper_ReadPatch p = some (a, b, c, e) ∧ kinfolkref10_ReadPatch p = some (a.map toR, b.map toR, c, e) ∧ (a.length ≤ 255 ∧ b.length ≤ 255 ∧ c.length ≤ 255) ∧
   (∀ x ∈ a, Byt x) ∧ (∀ x ∈ b, Byt x) ∧ (∀ x ∈ c, 0 ≤ x ∧ x < 256) ∧ (e = 0 → p = encP a b c) := by
 unfold paper_ReadPatch kinfolkref10_ReadPatch wire_Of paper_count
 rw [fits_of (by omega), cond_true, Option.bind_some]
 obtain ⟨a1, e1, ca, ra, x1, x2, x3, x4⟩ := some_pair hb hp (Nat.zero_le p.length) 0
 rw [List.drop_zero] at x1 x4
 simp only [Int.natCast_zero] at x2
 rw [x1, x2, Option.bind_some, Option.bind_some]
 simp only
 obtain ⟨a2, e2, cb, rb, y1, y2, y3, y4⟩ := some_pair hb hp x3 e1
 rw [y1, y2, Option.bind_some, Option.bind_some]
 simp only
 obtain ⟨v, a3, e3, n1, n2, n3, n4, n5, n6⟩ := W.num_spec hb hp y3 e2
 rw [n1, n2]
 simp only [Option.bind_some]
 have fin : ∀ (a4 : Nat) (e4 : Int) (cc rr : List Int), a4 ≤ p.length → (e4 = 0 → e3 = 0 ∧ rr = cc ∧ cc.length ≤ 255 ∧ (∀ x ∈ cc, 0 ≤ x ∧ x < 256) ∧ p.drop a2 = W.varint (cc.length : Int) ++ (cc ++ p.drop a4)) →
   ∃ (a b : List Fd) (c : List Int) (e : Int), ((wire_In_End (p.drop a4) e4).bind fun (n6, n7) =>
     bif (decide ((n6 : Int) = 0)) then
      some ((List.take ((List.map E_card_Field.pv ca)).length ca), (List.take ((List.map E_card_Field.pv cb)).length cb), cc, 0)
     else
      some ([], [], [], n6)) = some (a, b, c, e) ∧
    ((kinfolkref06_End p (a4 : Int) e4).bind fun (n10, n11) =>
     bif (decide ((n10 : Int) = 0)) then
      some ((List.take ((List.map E_kinfolkref09_Field.pv ra)).length ra), (List.take ((List.map E_kinfolkref09_Field.pv rb)).length rb), rr, 0)
     else
      some ([], [], [], n10)) = some (a.map toR, b.map toR, c, e) ∧ (a.length ≤ 255 ∧ b.length ≤ 255 ∧ c.length ≤ 255) ∧
   (∀ x ∈ a, Byt x) ∧ (∀ x ∈ b, Byt x) ∧ (∀ x ∈ c, 0 ≤ x ∧ x < 256) ∧ (e = 0 → p = encP a b c) := by
  intro a4 e4 cc rr h4 hg
  obtain ⟨e5, z1, z2, z3⟩ := end_spec h4 e4
  rw [z1, z2, Option.bind_some, Option.bind_some]
  simp only
  by_cases he : e5 = 0
  ·obtain ⟨w1, w2⟩ := z3 he
   obtain ⟨u1, u2, u3, u4, u5⟩ := hg w1
   obtain ⟨he2, _⟩ := n6 u1
   obtain ⟨v1, v2, v3, v4, v5⟩ := y4 he2
   obtain ⟨_, t2, t3, t4, t5⟩ := x4 v1
   rw [dt he]
   simp only [cond_true, take_len, gtake_len]
   refine ⟨ca, cb, cc, 0, rfl, by rw [t2, v2, u2], ⟨t3, v3, u3⟩, t4, v4, u4, fun _ => ?_⟩
   rw [t5, v5, u5, w2, List.append_nil, encP]
  ·rw [df he]
   exact ⟨[], [], [], e5, rfl, rfl, by simp, by simp, by simp, by simp, fun h => absurd h he⟩
 by_cases h8 : 255 < v
 ·have he4 : ¬ (if e3 = 0 then (9 : Int) else e3) = 0 := by split <;> omega
  rw [dt h8]
  simp only [cond_true, W.fail_eq, W.rfail_eq, Option.bind_some]
  generalize (if e3 = 0 then (9 : Int) else e3) = e4 at he4
  have s1 : paper_ReadPatch_L0_2_step 0 ca cb (0, p.drop a3, e4, []) = some (.inr (p.drop a3, e4, [])) := rfl
  have s2 : kinfolkref10_ReadPatch_L0_2_step v p ra rb (0, (a3 : Int), e4, []) = some (.inr ((a3 : Int), e4, [])) := by
   rw [kinfolkref10_ReadPatch_L0_2_step, dt (by omega), cond_true, df he4]; rfl
  rw [runL_done s1, runL_done s2, Option.bind_some, Option.bind_some]
  exact fin a3 e4 [] [] n3 fun h => absurd h he4
 ·obtain ⟨n, rfl⟩ : ∃ n : Nat, v = (n : Int) := ⟨v.toNat, by omega⟩
  rw [df h8]
  simp only [cond_false, Option.bind_some]
  by_cases he3 : e3 = 0
  ·subst he3
   obtain ⟨he, k, k1, k2⟩ := n6 rfl
   obtain ⟨a4, e4, c, rr, h1, h2, h3, h4⟩ := ints_loop (n := n) (by omega) hb hp (r1 := ca) (r2 := cb) (g1 := ra) (g2 := rb) (d := n) (k := 0) (at_ := a3) (r := []) (by omega) (Nat.zero_le _) rfl n3
   simp only [Int.natCast_zero] at h1 h2
   rw [h1, h2, Option.bind_some, Option.bind_some]
   refine fin a4 e4 c rr h3 fun h0 => ?_
   obtain ⟨s, z1, z2, z3, z4, z5⟩ := h4 h0
   rw [List.nil_append] at z1
   subst z1
   refine ⟨rfl, z2, by omega, z4, ?_⟩
   have hv := W.dec_var (hb.drop a2) k1
   rw [List.drop_drop, ← k2] at hv
   rw [hv, z5, z3]
  ·obtain ⟨r', h1⟩ := ints_err (n := n) (by omega) he3 (l := p.drop a3) (r1 := ca) (r2 := cb) (d := n) (k := 0) (r := []) (by omega) (by simp)
   simp only [Int.natCast_zero] at h1
   have s2 : kinfolkref10_ReadPatch_L0_2_step (n : Int) p ra rb (0, (a3 : Int), e3, []) = some (.inr ((a3 : Int), e3, [])) := by
    rw [kinfolkref10_ReadPatch_L0_2_step, df he3]
    cases decide ((0 : Int) < (n : Int)) <;> rfl
   rw [h1, runL_done s2, Option.bind_some, Option.bind_some]
   exact fin a3 e3 r' [] n3 fun h => absurd h he3
end Go.Proofs.YteiikkpajcggfaaGreatDoor
