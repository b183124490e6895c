/- Cards as bytes, and back. Plain. -/
import Derived.Test.YteiikkpajcggfaaGreatDoorPT1
import Derived.Test.YteiikkpajcggfaaGreatDoorCT3
set_option linter.unusedVariables false
set_option linter.unusedSimpArgs false
namespace Go.Proofs.YteiikkpajcggfaaGreatDoor
open Go.Ev Go.Lib
def encF : Fd → List Int | .mk a b c => (IntKind.u8.wrap a) :: (W.varint (b.size : Int) ++ (bytesL b ++ (W.varint (c.size : Int) ++ bytesL c)))
def encFs (l : List Fd) : List Int := l.flatMap encF
def encC (l : List Fd) : List Int := W.varint (l.length : Int) ++ encFs l
theorem size_u64 {n : Nat} (h : n ≤ 1000000) : IntKind.u64.wrap (n : Int) = (n : Int) := IntWalk.u64_in _ ⟨by omega, by omega⟩
theorem text_w {q : List Int} {s : ByteArray} (hq : q.length ≤ 10000000) (hs : s.size ≤ 1000) : wire_Text q s = some (q ++ (W.varint (s.size : Int) ++ bytesL s)) := by
 have hv := W.varint_len (s.size : Int)
 have hb := W.bytesL_len s
 unfold wire_Text
 rw [size_u64 (by omega), W.num_eq (by omega) (by omega) (by omega)]
 simp only [Option.bind_some]
 rw [fits_of (by simp only [List.length_append]; omega), List.append_assoc]
 rfl
theorem encF_len {x : Fd} (h : Small x) : (encF x).length ≤ 2100 := by
 cases x with
 | mk a b c =>
  have h1 := W.varint_len (b.size : Int)
  have h2 := W.varint_len (c.size : Int)
  have h3 := W.bytesL_len b
  have h4 := W.bytesL_len c
  obtain ⟨h5, h6⟩ := h
  simp only [encF, List.length_cons, List.length_append]
  omega
theorem encFs_len : ∀ {l : List Fd}, (∀ x ∈ l, Small x) → (encFs l).length ≤ 2100 * l.length
 | [], _ => Nat.le_refl _
 | x :: l, h => by
  have h1 := encF_len (h x (by simp))
  have h2 := encFs_len (l := l) fun y hy => h y (by simp [hy])
  have : encFs (x :: l) = encF x ++ encFs l := rfl
  rw [this, List.length_append, List.length_cons]
  omega
theorem encFs_snoc (l : List Fd) (x : Fd) : encFs (l ++ [x]) = encFs l ++ encF x := by simp [encFs]
theorem fields_w {p : List Int} {l : List Fd} (hp : p.length ≤ 1000000) (hl : l.length ≤ 1000) (hs : ∀ x ∈ l, Small x) : paper_fields p l = some (p ++ encC l) := by
 unfold paper_fields
 rw [len_eq, size_u64 (by omega), W.num_eq (by omega) (by omega) (by omega)]
 have hv := W.varint_len (l.length : Int)
 simp only [Option.bind_some]
 have h := runL_iter (step := paper_fields_L0_step l ((l.length : Nat) : Int)) (fun k => ((k : Int), p ++ W.varint (l.length : Int) ++ encFs (l.take k))) (z := p ++ W.varint (l.length : Int) ++ encFs l) l.length (fun k hk => by
  obtain ⟨x, hx⟩ := getS hk
  have ht := take_s hx
  have hsx := hs x (mem_of_get hx)
  have hel := encFs_len (l := l.take k) fun y hy => hs y (List.mem_of_mem_take hy)
  rw [List.length_take] at hel
  have hql : (p ++ W.varint (l.length : Int) ++ encFs (l.take k)).length ≤ 4000000 := by simp only [List.length_append]; omega
  rw [ht, encFs_snoc, ← List.append_assoc (p ++ W.varint (l.length : Int))]
  generalize p ++ W.varint (l.length : Int) ++ encFs (l.take k) = q at *
  cases x with
  | mk a b c =>
   have hvb := W.varint_len (b.size : Int)
   have hbb := W.bytesL_len b
   have hb := hsx.1
   have hc := hsx.2
   have hf : fits (q ++ [IntKind.u8.wrap a]).length = true := fits_of (by simp; omega)
   simp only [paper_fields_L0_step, len_eq, ltT hk, le0, Int.toNat_natCast, hx, cond_true, Bool.and_self, Option.bind_some, hf, iaddN (show k ≤ 9223372036854775806 by omega)]
   rw [text_w (by simp only [List.length_append, List.length_singleton]; omega) hb]
   simp only [Option.bind_some]
   rw [text_w (by simp only [List.length_append, List.length_singleton]; omega) hc]
   simp only [Option.bind_some, encF, List.append_assoc, List.singleton_append, List.cons_append, List.nil_append]) (by
  simp only [paper_fields_L0_step, ltF_ (Nat.lt_irrefl _), List.take_length]; rfl)
 have e : ((0 : Nat) : Int) = 0 := rfl
 have e2 : encFs ([] : List Fd) = [] := rfl
 simp only [e, List.take_zero, e2, List.append_nil] at h
 rw [h]
 simp only [Option.bind_some, encC, List.append_assoc]
theorem put_w {p : List Int} {c : List Fd} (hp : p.length ≤ 1000000) (hl : c.length ≤ 1000) (hs : ∀ x ∈ c, Small x) : paper_PutCard p c = some (p ++ encC c) := by
 unfold paper_PutCard
 rw [fields_go hl]
 simp only [Option.bind_some, take_len]
 rw [fields_w hp hl hs]; rfl
theorem card_w {c : List Fd} (hl : c.length ≤ 1000) (hs : ∀ x ∈ c, Small x) : paper_Card c = some (encC c) := by
 unfold paper_Card
 rw [put_w (by simp) hl hs]; rfl
structure Fit (c : List Fd) : Prop where
 ss : SS ltF c
 ok : ∀ x ∈ c, okF x = true
 small : ∀ x ∈ c, Small x
theorem make_fit {c : List Fd} (h : Fit c) (h8 : c.length ≤ 8) : card_Make c = some (c, 0) := by
 rw [make_go (by omega) h.small]
 unfold makeV
 rw [badF_none.2 h.ok]
 simp only
 rw [madeF_self h.ss, if_neg (by omega)]
theorem byte_i64 {v : Int} (h : 0 ≤ v ∧ v < 256) : IntKind.i64.wrap v = v := IntWalk.i64_in _ ⟨by omega, by omega⟩
theorem byte_u8 {v : Int} (h : 0 ≤ v ∧ v < 256) : IntKind.u8.wrap v = v := by
 rw [IntKind.wrap_u8]; omega
end Go.Proofs.YteiikkpajcggfaaGreatDoor
