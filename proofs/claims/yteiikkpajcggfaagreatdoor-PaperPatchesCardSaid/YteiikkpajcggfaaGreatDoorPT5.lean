/- The document's card, the order of bytes; PaperCards. Plain. -/
import Derived.Test.YteiikkpajcggfaaGreatDoorPT4
set_option linter.unusedVariables false
set_option linter.unusedSimpArgs false
namespace Go.Proofs.YteiikkpajcggfaaGreatDoor
open Go.Ev Go.Lib
theorem rnum_go {N : Nat} (hN : 1000 < N) {n : Nat} (h : n < 2 ^ 64) : kinfolkref06_Num N (n : Int) = some (W.varint (n : Int)) := by
 have := W.num_vnat (f := 9) (n := n) (i := 0) (N := N) rfl (by simpa using h) (by omega)
 rw [this]
 unfold W.varint
 rw [Int.toNat_natCast]
theorem rtext_go {N : Nat} (hN : 1000 < N) {s : ByteArray} (hs : s.size ≤ 1000) : kinfolkref06_Text N s = some (W.varint (s.size : Int) ++ bytesL s) := by
 have hv := W.varint_len (s.size : Int)
 have hb := W.bytesL_len s
 unfold kinfolkref06_Text
 rw [size_u64 (by omega), rnum_go hN (by omega)]
 simp only [Option.bind_some, List.take_length]
 rw [fits_of (by rw [List.length_append]; omega), decide_eq_true (show s.size ≤ 140737488355328 by omega)]
 rfl
def jl : E_L_uint8 → List Int | .mk l => l
theorem ulen_eq (l : List E_L_uint8) : (((List.map E_L_uint8.pv l).length : Nat) : Int) = (l.length : Int) := by rw [List.length_map]
theorem join_go {l : List E_L_uint8} (hl : l.length ≤ 1000) (hj : (l.flatMap jl).length ≤ 10000000) : kinfolkref06_Join l = some (l.flatMap jl) := by
 unfold kinfolkref06_Join
 rw [ulen_eq]
 have h := runL_iter (step := kinfolkref06_Join_L0_2_step l ((l.length : Nat) : Int)) (fun k => ((k : Int), (l.take k).flatMap jl)) (z := l.flatMap jl) l.length (fun k hk => by
  obtain ⟨z, hz⟩ := getS hk
  have ht := take_s hz
  have h1 : (l.take k ++ [z]).flatMap jl = (l.take k).flatMap jl ++ jl z := by simp
  have h2 : ((l.take (k + 1)).flatMap jl).length ≤ (l.flatMap jl).length := by
   have : l.flatMap jl = (l.take (k + 1)).flatMap jl ++ (l.drop (k + 1)).flatMap jl := by rw [← List.flatMap_append, List.take_append_drop]
   rw [this, List.length_append]; omega
  rw [ht, h1] at h2
  rw [ht, h1]
  cases z with
  | mk x =>
   have hf : fits ((l.take k).flatMap jl ++ x).length = true := fits_of (by have : (jl (.mk x)) = x := rfl; rw [this] at h2; omega)
   simp only [kinfolkref06_Join_L0_2_step, ulen_eq, ltT hk, le0, Int.toNat_natCast, hz, cond_true, Bool.and_self, Option.bind_some, hf, iaddN (show k ≤ 9223372036854775806 by omega), jl]) (by
  simp only [kinfolkref06_Join_L0_2_step, ltF_ (Nat.lt_irrefl _), List.take_length]; rfl)
 have e : ((0 : Nat) : Int) = 0 := rfl
 simp only [List.take_zero, List.flatMap_nil, e] at h
 rw [h]; rfl
theorem rcard_go {N : Nat} (hN : 1000 < N) {l : List Fd} (hl : l.length ≤ 1000) (hs : ∀ x ∈ l, Small x) : kinfolkref10_Card N (l.map toR) = some (encC l) := by
 unfold kinfolkref10_Card
 rw [glen_eq, List.length_map, size_u64 (by omega), rnum_go hN (by omega)]
 have hv := W.varint_len (l.length : Int)
 simp only [Option.bind_some]
 have h := runL_iter (step := kinfolkref10_Card_L0_step N (l.map toR) ((l.length : Nat) : Int)) (fun k => ((k : Int), W.varint (l.length : Int) ++ encFs (l.take k))) (z := W.varint (l.length : Int) ++ encFs l) l.length (fun k hk => by
  obtain ⟨x, hx⟩ := getS hk
  have ht := take_s hx
  have hk' : k < (l.map toR).length := by rw [List.length_map]; exact hk
  have hx' : (l.map toR)[k]? = some (toR x) := by rw [List.getElem?_map, hx]; rfl
  have hsx := hs x (mem_of_get hx)
  have hel := encFs_len (l := l.take k) fun y hy => hs y (List.mem_of_mem_take hy)
  rw [List.length_take] at hel
  have hql : (W.varint (l.length : Int) ++ encFs (l.take k)).length ≤ 4000000 := by simp only [List.length_append]; omega
  rw [ht, encFs_snoc, ← List.append_assoc (W.varint (l.length : Int))]
  generalize W.varint (l.length : Int) ++ encFs (l.take k) = q at *
  cases x with
  | mk a b c =>
   simp only [toR] at hx'
   have hvb := W.varint_len (b.size : Int)
   have hbb := W.bytesL_len b
   have hvc := W.varint_len (c.size : Int)
   have hbc := W.bytesL_len c
   have hb := hsx.1
   have hc := hsx.2
   have hj := join_go (l := [(E_L_uint8.mk q), (E_L_uint8.mk [IntKind.u8.wrap a]), (E_L_uint8.mk (W.varint (b.size : Int) ++ bytesL b)), (E_L_uint8.mk (W.varint (c.size : Int) ++ bytesL c))]) (by simp) (by
    simp only [List.flatMap_cons, List.flatMap_nil, jl, List.length_append, List.length_cons, List.length_nil]; omega)
   simp only [kinfolkref10_Card_L0_step, glen_eq, ltT hk', le0, Int.toNat_natCast, hx', cond_true, Bool.and_self, Option.bind_some, rtext_go hN hb, rtext_go hN hc, hj, iaddN (show k ≤ 9223372036854775806 by omega)]
   rw [decide_eq_true (show (k : Int) < (l.length : Int) by omega)]
   simp only [cond_true, List.flatMap_cons, List.flatMap_nil, jl, List.append_nil, encF, List.append_assoc, List.cons_append, List.nil_append]) (by
  simp only [kinfolkref10_Card_L0_step, ltF_ (Nat.lt_irrefl _), List.take_length]; rfl)
 have e : ((0 : Nat) : Int) = 0 := rfl
 have e2 : encFs ([] : List Fd) = [] := rfl
 simp only [e, List.take_zero, e2, List.append_nil] at h
 rw [h]; rfl
end Go.Proofs.YteiikkpajcggfaaGreatDoor
