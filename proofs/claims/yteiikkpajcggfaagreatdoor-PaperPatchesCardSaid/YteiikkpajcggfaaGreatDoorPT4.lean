/- Cards that stand one behind the other; PaperRows. Plain. -/
import Derived.Test.YteiikkpajcggfaaGreatDoorPT3
set_option linter.unusedVariables false
set_option linter.unusedSimpArgs false
namespace Go.Proofs.YteiikkpajcggfaaGreatDoor
open Go.Ev Go.Lib
theorem W.Bytes.app {l m : List Int} (h : W.Bytes l) (k : W.Bytes m) : W.Bytes (l ++ m) := fun x hx => (List.mem_append.1 hx).elim (h x) (k x)
theorem byte_fwd (b : Int) (r : List Int) : wire_In_Byte (b :: r) 0 = some (b, r, 0) := by
 unfold wire_In_Byte
 have h0 : ¬ (((b :: r).length : Int) = 0) := by simp; omega
 have h1 : (1 : Int) ≤ ((b :: r).length : Int) := by simp; omega
 have h2 : (0 : Int) < ((b :: r).length : Int) := by omega
 simp only [W.err_eq, Option.bind_some, decide_true, cond_true, decide_eq_false h0, cond_false, decide_eq_true h1, decide_eq_true h2, Bool.and_self, show decide ((0 : Int) ≤ 0) = true from rfl, show decide ((0 : Int) ≤ 1) = true from rfl]
 simp
theorem text_fwd {s : ByteArray} {r : List Int} {most : Nat} (hm : most ≤ 1000) (hs : s.size ≤ most) (hb : W.Bytes r) (hl : r.length ≤ 900000) : wire_In_Text most (W.varint (s.size : Int) ++ (bytesL s ++ r)) 0 = some (s, r, 0) := by
 have hvb := W.varint_bytes (n := s.size) (by omega)
 have hsb := W.bytesL_bytes s
 have hsl := W.bytesL_len s
 have hvl := W.varint_len (s.size : Int)
 have hB : W.Bytes (W.varint (s.size : Int) ++ (bytesL s ++ r)) := hvb.app (hsb.app hb)
 unfold wire_In_Text
 rw [W.in_num_eq hB (by simp only [List.length_append]; omega), W.dec_varint (by omega)]
 simp only [W.err_eq, W.fail_eq, Option.bind_some, if_true, decide_true, cond_true, List.drop_left]
 have ew : IntKind.u64.wrap (((bytesL s ++ r).length : Nat) : Int) = (((bytesL s ++ r).length : Nat) : Int) := size_u64 (by simp only [List.length_append]; omega)
 have em : IntKind.u64.wrap (most : Int) = (most : Int) := size_u64 (by omega)
 have h1 : ¬ ((most : Int) < 0) := by omega
 have h2 : ¬ ((most : Int) < (s.size : Int)) := by omega
 have hL : (((bytesL s ++ r).length : Nat) : Int) = (s.size : Int) + (r.length : Int) := by simp only [List.length_append]; omega
 have h3 : ¬ ((((bytesL s ++ r).length : Nat) : Int) < (s.size : Int)) := by omega
 have h4 : (s.size : Int) ≤ (((bytesL s ++ r).length : Nat) : Int) := by omega
 simp only [ew, em, decide_eq_false h1, decide_eq_false h2, decide_eq_false h3, decide_eq_true h4, le0, cond_false, cond_true, decide_true, Bool.and_self, Int.le_refl, show decide ((0 : Int) ≤ 0) = true from rfl, Int.sub_zero, Int.toNat_natCast]
 have t1 : List.take s.size (bytesL s ++ r) = bytesL s := by
  have := List.take_left (l₁ := bytesL s) (l₂ := r)
  rwa [hsl] at this
 have t2 : List.drop s.size (bytesL s ++ r) = r := by
  have := List.drop_left (l₁ := bytesL s) (l₂ := r)
  rwa [hsl] at this
 rw [t1, t2, W.strOf_bytesL, List.take_of_length_le (by omega)]
theorem encFs_cons (x : Fd) (l : List Fd) : encFs (x :: l) = encF x ++ encFs l := rfl
theorem encF_bytes {x : Fd} (h : Small x) : W.Bytes (encF x) := by
 cases x with
 | mk a b c =>
  intro y hy
  rcases List.mem_cons.1 hy with rfl | hy
  ·rw [IntKind.wrap_u8]; omega
  ·have h1 := h.1
   have h2 := h.2
   exact ((W.varint_bytes (n := b.size) (by omega)).app ((W.bytesL_bytes b).app ((W.varint_bytes (n := c.size) (by omega)).app (W.bytesL_bytes c)))) y hy
theorem encFs_bytes : ∀ {l : List Fd}, (∀ x ∈ l, Small x) → W.Bytes (encFs l)
 | [], _ => fun x hx => (by cases hx)
 | x :: l, h => (encF_bytes (h x (by simp))).app (encFs_bytes fun y hy => h y (by simp [hy]))
theorem encC_bytes {l : List Fd} (hl : l.length ≤ 1000) (h : ∀ x ∈ l, Small x) : W.Bytes (encC l) := (W.varint_bytes (n := l.length) (by omega)).app (encFs_bytes h)
end Go.Proofs.YteiikkpajcggfaaGreatDoor
