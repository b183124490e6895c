/- Chapter 15: a gift read at any place; zo8 that read on both sides. Plain. -/
import Derived.Test.YtjjcmgdgifcmgaaGreatG6
set_option linter.unusedVariables false
set_option linter.unusedSimpArgs false
namespace Go.Proofs.YtjjcmgdgifcmgaaGreat
open Go.Ev Go.Lib
def toR : zaa → zae | .mk no f to i t => .mk no f to (zjg i t)
noncomputable def zg7 (N : Nat) : zaa → List Int
 | .mk no f to i t => W.varint no ++ (W.varint f ++ (W.varint to ++ (W.varint (((zhE N i t).getD []).length : Int) ++ (zhE N i t).getD [])))
def okR (N : Nat) : zaa → Prop
 | .mk no f to i t => 0 ≤ no ∧ no < 18446744073709551616 ∧ 0 ≤ f ∧ f < 2147483648 ∧ 0 ≤ to ∧ to < 2147483648 ∧ ∃ m, zhE N i t = some m ∧ Bytes m ∧ m.length ≤ 100000
theorem zeg (n : Int) : 1 ≤ (W.varint n).length := by
 unfold W.varint W.vnat
 split <;> simp
theorem zxC {N : Nat} {p : List Int} (hN : 100 ≤ N) (hb : Bytes p) (hp : p.length ≤ 1000000) {at_ : Nat} (ha : at_ ≤ p.length) (e : Int) :
  ∃ no f to : Int, ∃ i : Bool, ∃ t : Idt, ∃ at2 : Nat, ∃ e2 : Int, zgu N (p.drop at_) e = some (no, f, to, i, t, p.drop at2, e2) ∧ zgC N p at_ e = some (no, f, to, zjg i t, (at2 : Int), e2) ∧ at2 ≤ p.length ∧
   (e2 = 0 → e = 0 ∧ okR N (.mk no f to i t) ∧ p.drop at_ = zg7 N (.mk no f to i t) ++ p.drop at2) := by
 obtain ⟨v1, a1, e1, p1, q1, l1, n1, m1, c1⟩ := W.num_spec hb hp ha e
 obtain ⟨v2, a2, e2, p2, q2, l2, n2, m2, c2⟩ := zly hb hp l1 e1
 obtain ⟨v3, a3, e3, p3, q3, l3, n3, m3, c3⟩ := zly hb hp l2 e2
 obtain ⟨s, a4, e4, p4, q4, l4, n4, m4⟩ := W.text_spec hb hp l3 e3 (most := 4096) (by omega)
 have p4 : zfm 4096 (p.drop a3) e3 = _ := p4
 have q4 : zfi 4096 p a3 e3 = _ := q4
 unfold zgu zgC
 rw [p1, q1]
 simp only [Option.bind_some, p2, q2, p3, q3, p4, q4, W.err_eq]
 by_cases he : e4 = 0
 ·obtain ⟨z3, hs, d4⟩ := m4 he
  have hsz : (zcn s).length ≤ 10000 := by rw [W.bytesL_len]; omega
  have hs2 : decide (s.size ≤ 140737488355328) = true := by simp; omega
  simp only [dt he, cond_true, hs2, zvC hN (W.bytesL_bytes s) hsz, zuB hN (W.bytesL_bytes s) hsz, Option.bind_some, W.fail_eq]
  by_cases h9 : (zd4 (zcn s)).2.2 = 0
  ·simp only [dt h9, cond_true]
   refine ⟨_, _, _, _, _, a4, _, rfl, rfl, l4, fun _ => ?_⟩
   obtain ⟨z2, k3, d3, x3⟩ := c3 z3
   obtain ⟨z1, k2, d2, x2⟩ := c2 z2
   obtain ⟨z0, k1, d1, x1⟩ := c1 z1
   have hid := zxa hN (W.bytesL_bytes s) hsz h9
   refine ⟨z0, ⟨n1, m1, n2, m2, n3, m3, _, hid, W.bytesL_bytes s, by omega⟩, ?_⟩
   have y1 := W.dec_var (hb.drop at_) d1
   have y2 := W.dec_var (hb.drop a1) d2
   have y3 := W.dec_var (hb.drop a2) d3
   rw [List.drop_drop, ← x1] at y1
   rw [List.drop_drop, ← x2] at y2
   rw [List.drop_drop, ← x3] at y3
   simp only [zg7, hid, Option.getD_some, W.bytesL_len]
   rw [y1, y2, y3, d4]
   simp only [List.append_assoc]
  ·simp only [df h9, cond_false, he, if_true]
   exact ⟨0, 0, 0, false, .nil, a4, _, rfl, rfl, l4, fun h => absurd h h9⟩
 ·simp only [df he, cond_false]
  exact ⟨0, 0, 0, false, .nil, a4, _, rfl, rfl, l4, fun h => absurd h he⟩
theorem zxE {n : Int} (h0 : 0 < n) (h1 : n < 18446744073709551616) : isub .u64 n 1 = n - 1 := by
 unfold isub
 simp [IntKind.wrap, IntKind.bits, IntKind.signed]
 omega
theorem both {A B : Type} {p : List Int} (hp : p.length ≤ 1000) (f : A → B) (enc : A → List Int) (ok : A → Prop)
  {stP : Int × List Int × Int × List A → Option ((Int × List Int × Int × List A) ⊕ (List Int × Int × List A))}
  {stR : Int × Int × Int × List B → Option ((Int × Int × Int × List B) ⊕ (Int × Int × List B))}
  (h0 : ∀ n l e r, ¬ (0 < n) → stP (n, l, e, r) = some (.inr (l, e, r))) (h0R : ∀ n a e r, ¬ (0 < n) → stR (n, a, e, r) = some (.inr (a, e, r)))
  (h1 : ∀ n l e r, 0 < n → e ≠ 0 → stP (n, l, e, r) = some (.inr (l, e, r))) (h1R : ∀ n a e r, 0 < n → e ≠ 0 → stR (n, a, e, r) = some (.inr (a, e, r)))
  (hs : ∀ (n : Int) (at_ : Nat) (r : List A), 0 < n → at_ ≤ p.length → r.length ≤ 1000 → ∃ x, ∃ at2 : Nat, ∃ e2 : Int, stP (n, p.drop at_, 0, r) = some (.inl (isub .u64 n 1, p.drop at2, e2, r ++ [x])) ∧
   stR (n, (at_ : Int), 0, r.map f) = some (.inl (isub .u64 n 1, (at2 : Int), e2, r.map f ++ [f x])) ∧ at2 ≤ p.length ∧ (e2 = 0 → at_ < at2 ∧ ok x ∧ p.drop at_ = enc x ++ p.drop at2)) :
  ∀ (k : Nat) (n : Int) (at_ : Nat) (e : Int) (r : List A), 0 ≤ n → n < 18446744073709551616 → at_ ≤ p.length → (e = 0 → r.length ≤ at_ ∧ p.length + 1 ≤ at_ + k) →
   ∃ new : List A, ∃ at2 : Nat, ∃ e2 : Int, runL stP (n, p.drop at_, e, r) = some (p.drop at2, e2, r ++ new) ∧ runL stR (n, (at_ : Int), e, r.map f) = some ((at2 : Int), e2, (r ++ new).map f) ∧ at2 ≤ p.length ∧
    (e2 = 0 → e = 0 ∧ (new.length : Int) = n ∧ (∀ x ∈ new, ok x) ∧ p.drop at_ = new.flatMap enc ++ p.drop at2) := by
 intro k
 induction k with
 | zero =>
  intro n at_ e r hn hn2 ha he
  by_cases hz : e = 0
  ·have := (he hz).2; omega
  ·by_cases hp0 : 0 < n
   ·exact ⟨[], at_, e, by rw [zaA (h1 n _ e r hp0 hz)]; simp, by rw [zaA (h1R n _ e _ hp0 hz)]; simp, ha, fun h => absurd h hz⟩
   ·exact ⟨[], at_, e, by rw [zaA (h0 n _ e r hp0)]; simp, by rw [zaA (h0R n _ e _ hp0)]; simp, ha, fun h => absurd h hz⟩
 | succ k ih =>
  intro n at_ e r hn hn2 ha he
  by_cases hp0 : 0 < n
  case neg => exact ⟨[], at_, e, by rw [zaA (h0 n _ e r hp0)]; simp, by rw [zaA (h0R n _ e _ hp0)]; simp, ha, fun h => ⟨h, by simp; omega, by simp, by simp⟩⟩
  by_cases hz : e = 0
  case neg => exact ⟨[], at_, e, by rw [zaA (h1 n _ e r hp0 hz)]; simp, by rw [zaA (h1R n _ e _ hp0 hz)]; simp, ha, fun h => absurd h hz⟩
  subst hz
  obtain ⟨hr, hk⟩ := he rfl
  obtain ⟨x, at1, e1, s1, s2, s3, s4⟩ := hs n at_ r hp0 ha (by omega)
  rw [zxE hp0 hn2] at s1 s2
  obtain ⟨new, at2, e2, t1, t2, t3, t4⟩ := ih (n - 1) at1 e1 (r ++ [x]) (by omega) (by omega) s3 (fun h => by have := s4 h; simp only [List.length_append, List.length_cons, List.length_nil]; omega)
  refine ⟨x :: new, at2, e2, by rw [za8 s1, t1]; simp, by rw [za8 s2]; simpa using t2, t3, fun h => ?_⟩
  obtain ⟨u1, u2, u3, u4⟩ := t4 h
  obtain ⟨w1, w2, w3⟩ := s4 u1
  refine ⟨rfl, by simp only [List.length_cons]; omega, fun y hy => ?_, by rw [w3, u4]; simp⟩
  rcases List.mem_cons.1 hy with rfl | hy
  ·exact w2
  ·exact u3 y hy
end Go.Proofs.YtjjcmgdgifcmgaaGreat
