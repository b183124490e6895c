/- Chapter 15: a gift written: the program's bytes are the document's; ids' two forms are one. Plain. -/
import Derived.Test.YtjjcmgdgifcmgaaGreatG7
set_option linter.unusedVariables false
set_option linter.unusedSimpArgs false
namespace Go.Proofs.YtjjcmgdgifcmgaaGreat
open Go.Ev Go.Lib
theorem zof : ∀ (i : Bool) (t : zad), ziv i t = zeh i t
 | true, _ => by simp [ziv, zeh]
 | false, .nil => rfl
 | false, .mk b l b2 r => by simp only [ziv, zeh, zof b l, zof b2 r]
theorem zsy : ∀ (i : Bool) (t : zad), nfI i t → nfID i t
 | true, .nil, _ => trivial
 | true, .mk .., h => h.elim
 | false, .nil, _ => trivial
 | false, .mk b l b2 r, h => by
  obtain ⟨h1, h2, h3⟩ := h
  exact ⟨zsy b l h1, zsy b2 r h2, h3⟩
theorem zsE {N : Nat} {p : List Int} {no from_ to : Int} {i : Bool} {t : zad} (hN : 100 ≤ N) (hp : p.length ≤ 9000000) (h0 : 0 ≤ no) (h1 : no < 18446744073709551616) (hn : nfI i t) (hd : zbv t ≤ 16) :
  ∃ l, zfA N no from_ to (zeh i t) = some l ∧ zfu N p no from_ to i t = some (p ++ l) ∧ l.length ≤ 100000 ∧ Bytes l := by
 obtain ⟨m, c1, c2, c3, c4, c5⟩ := zsd hN (zsy i t hn) (by rw [zn9]; exact hd)
 rw [zof] at c2
 obtain ⟨a0, a1⟩ := zui from_
 obtain ⟨b0, b1⟩ := zui to
 have hm : Bytes m := c4.byte
 have hs : (Ev.strOf m).size = m.length := W.strOf_len m
 have hb : zc6 (Ev.strOf m) = m := W.bytesL_strOf hm
 have hw : IntKind.u64.wrap (m.length : Int) = (m.length : Int) := u64_in (by omega) (by omega)
 have v1 := W.varint_len no
 have v2 := W.varint_len (IntKind.u64.wrap from_)
 have v3 := W.varint_len (IntKind.u64.wrap to)
 have v4 := W.varint_len (m.length : Int)
 have vb : ∀ {n : Int}, 0 ≤ n → n < 18446744073709551616 → Bytes (W.varint n) := by
  intro n h0 h1
  obtain ⟨q, rfl⟩ : ∃ q : Nat, n = q := ⟨n.toNat, by omega⟩
  exact W.varint_bytes (by omega)
 refine ⟨W.varint no ++ (W.varint (IntKind.u64.wrap from_) ++ (W.varint (IntKind.u64.wrap to) ++ (W.varint (m.length : Int) ++ m))), ?_, ?_, ?_, ?_⟩
 ·have ht : ziF N (Ev.strOf (List.take m.length m)) = some (W.varint (m.length : Int) ++ m) := by
   rw [List.take_length]
   unfold ziF
   rw [hs, hw, zhL hN (by omega) (by omega), hb, List.take_length]
   have hf : fits (W.varint (m.length : Int) ++ m).length = true := zdg (by rw [List.length_append]; omega)
   have hd2 : decide (m.length ≤ 140737488355328) = true := by simp; omega
   simp only [Option.bind_some, hd2, hf, cond_true]
  have hj := zsj (r := [zaq.mk (W.varint no), zaq.mk (W.varint (IntKind.u64.wrap from_)), zaq.mk (W.varint (IntKind.u64.wrap to)), zaq.mk (W.varint (m.length : Int) ++ m)]) (by simp) (by
   simp only [List.flatMap_cons, List.flatMap_nil, jl15, List.length_append, List.length_nil]; omega)
  unfold zfA
  simp only [zhL hN h0 h1, zhL hN a0 a1, zhL hN b0 b1, Option.bind_some, c2, c3, ht, hj]
  simp only [List.flatMap_cons, List.flatMap_nil, jl15, List.append_nil]
 ·unfold zfu zkG
  have e1 := W.num_eq (p := p) h0 h1 (by omega)
  have e2 := W.num_eq (p := p ++ W.varint no) a0 a1 (by rw [List.length_append]; omega)
  have e3 := W.num_eq (p := p ++ W.varint no ++ W.varint (IntKind.u64.wrap from_)) b0 b1 (by simp only [List.length_append]; omega)
  have e4 := W.num_eq (p := p ++ W.varint no ++ W.varint (IntKind.u64.wrap from_) ++ W.varint (IntKind.u64.wrap to)) (n := (m.length : Int)) (by omega) (by omega) (by simp only [List.length_append]; omega)
  simp only [e1, e2, e3, Option.bind_some, c1, hs, hw, e4, hb]
  rw [zdg (by simp only [List.length_append]; omega)]
  simp only [cond_true, Option.bind_some, List.append_assoc]
 ·simp only [List.length_append]; omega
 ·intro x hx
  simp only [List.mem_append] at hx
  rcases hx with hx | hx | hx | hx | hx
  ·exact vb h0 h1 x hx
  ·exact vb a0 a1 x hx
  ·exact vb b0 b1 x hx
  ·exact vb (n := (m.length : Int)) (by omega) (by omega) x hx
  ·exact hm x hx
end Go.Proofs.YtjjcmgdgifcmgaaGreat
