/- Chapter 15: a gift written: the program's bytes are the document's; ids' two forms are one. Plain. -/
import Derived.Test.YtjjcmgdgifcmgaaGreatG7
set_option linter.unusedVariables false
set_option linter.unusedSimpArgs false
namespace Go.Proofs.YtjjcmgdgifcmgaaGreat
open Go.Ev Go.Lib
theorem fromID_I : ∀ (i : Bool) (t : T_id_halves), fromID i t = fromI i t
 | true, _ => by simp [fromID, fromI]
 | false, .nil => rfl
 | false, .mk b l b2 r => by simp only [fromID, fromI, fromID_I b l, fromID_I b2 r]
theorem nfID_I : ∀ (i : Bool) (t : T_id_halves), nfI i t → nfID i t
 | true, .nil, _ => trivial
 | true, .mk .., h => h.elim
 | false, .nil, _ => trivial
 | false, .mk b l b2 r, h => by
  obtain ⟨h1, h2, h3⟩ := h
  exact ⟨nfID_I b l h1, nfID_I b2 r h2, h3⟩
theorem putGift15 {N : Nat} {p : List Int} {no from_ to : Int} {i : Bool} {t : T_id_halves} (hN : 100 ≤ N) (hp : p.length ≤ 9000000) (h0 : 0 ≤ no) (h1 : no < 18446744073709551616) (hn : nfI i t) (hd : depthI t ≤ 16) :
  ∃ l, kr15_PutGift N no from_ to (fromI i t) = some l ∧ deed_PutGift N p no from_ to i t = some (p ++ l) ∧ l.length ≤ 100000 ∧ Bytes l := by
 obtain ⟨m, c1, c2, c3, c4, c5⟩ := idBytes15 hN (nfID_I i t hn) (by rw [depth_is]; exact hd)
 rw [fromID_I] at c2
 obtain ⟨a0, a1⟩ := u64_15 from_
 obtain ⟨b0, b1⟩ := u64_15 to
 have hm : Bytes m := c4.byte
 have hs : (Ev.strOf m).size = m.length := W.strOf_len m
 have hb : bytesL (Ev.strOf m) = m := W.bytesL_strOf hm
 have hw : IntKind.u64.wrap (m.length : Int) = (m.length : Int) := u64_in (by omega) (by omega)
 have v1 := W.varint_len no
 have v2 := W.varint_len (IntKind.u64.wrap from_)
 have v3 := W.varint_len (IntKind.u64.wrap to)
 have v4 := W.varint_len (m.length : Int)
 have vb : ∀ {n : Int}, 0 ≤ n → n < 18446744073709551616 → Bytes (W.varint n) := by
  intro n h0 h1
  obtain ⟨q, rfl⟩ : ∃ q : Nat, n = q := ⟨n.toNat, by omega⟩
  exact W.varint_bytes (by omega)
 refine ⟨W.varint no ++ (W.varint (IntKind.u64.wrap from_) ++ (W.varint (IntKind.u64.wrap to) ++ (W.varint (m.length : Int) ++ m))), ?_, ?_, ?_, ?_⟩
 ·have ht : kr06_Text N (Ev.strOf (List.take m.length m)) = some (W.varint (m.length : Int) ++ m) := by
   rw [List.take_length]
   unfold kr06_Text
   rw [hs, hw, rnum15 hN (by omega) (by omega), hb, List.take_length]
   have hf : fits (W.varint (m.length : Int) ++ m).length = true := fits_ok (by rw [List.length_append]; omega)
   have hd2 : decide (m.length ≤ 140737488355328) = true := by simp; omega
   simp only [Option.bind_some, hd2, hf, cond_true]
  have hj := join15 (r := [E_L_uint8.mk (W.varint no), E_L_uint8.mk (W.varint (IntKind.u64.wrap from_)), E_L_uint8.mk (W.varint (IntKind.u64.wrap to)), E_L_uint8.mk (W.varint (m.length : Int) ++ m)]) (by simp) (by
   simp only [List.flatMap_cons, List.flatMap_nil, jl15, List.length_append, List.length_nil]; omega)
  unfold kr15_PutGift
  simp only [rnum15 hN h0 h1, rnum15 hN a0 a1, rnum15 hN b0 b1, Option.bind_some, c2, c3, ht, hj]
  simp only [List.flatMap_cons, List.flatMap_nil, jl15, List.append_nil]
 ·unfold deed_PutGift wire_Text
  have e1 := W.num_eq (p := p) h0 h1 (by omega)
  have e2 := W.num_eq (p := p ++ W.varint no) a0 a1 (by rw [List.length_append]; omega)
  have e3 := W.num_eq (p := p ++ W.varint no ++ W.varint (IntKind.u64.wrap from_)) b0 b1 (by simp only [List.length_append]; omega)
  have e4 := W.num_eq (p := p ++ W.varint no ++ W.varint (IntKind.u64.wrap from_) ++ W.varint (IntKind.u64.wrap to)) (n := (m.length : Int)) (by omega) (by omega) (by simp only [List.length_append]; omega)
  simp only [e1, e2, e3, Option.bind_some, c1, hs, hw, e4, hb]
  rw [fits_ok (by simp only [List.length_append]; omega)]
  simp only [cond_true, Option.bind_some, List.append_assoc]
 ·simp only [List.length_append]; omega
 ·intro x hx
  simp only [List.mem_append] at hx
  rcases hx with hx | hx | hx | hx | hx
  ·exact vb h0 h1 x hx
  ·exact vb a0 a1 x hx
  ·exact vb b0 b1 x hx
  ·exact vb (n := (m.length : Int)) (by omega) (by omega) x hx
  ·exact hm x hx
end Go.Proofs.YtjjcmgdgifcmgaaGreat
