/- The document's patch; a patch is read again; PaperPatches. Plain. -/
import Derived.Test.YteiikkpajcggfaaGreatDoorA8
import Derived.Test.YteiikkpajcggfaaGreatDoorPQ2
import Derived.Test.YteiikkpajcggfaaGreatDoorPT5
set_option linter.unusedVariables false
set_option linter.unusedSimpArgs false
namespace Go.Proofs.YteiikkpajcggfaaGreatDoor
open Go.Ev Go.Lib
theorem rlong_loop {A B : List E_kinfolkref09_Field} {C : List Int} {n : Int} {R : List E_L_kinfolkref09_Field} {l : List Fd} (hl : l.length ≤ 100000) : ∀ {q : List Fd} {i : Nat} {lo od : Bool}, l.drop i = q → i ≤ l.length →
  runL (kinfolkref10_Patch_L1_4_step A B C n (l.map toR) (l.length : Int) R) (lo, od, (i : Int)) = some (lo || q.any longF, od || q.any (fun x => oddI (kindF x)))
 | [], i, lo, od, hd, hi => by
  have : l.length ≤ i := List.drop_eq_nil_iff.1 hd
  refine runL_done ?_
  rw [kinfolkref10_Patch_L1_4_step, df (by omega)]
  simp
 | ⟨a, b, c⟩ :: q, i, lo, od, hd, hi => by
  have hlt : i < l.length := by
   rcases Nat.lt_or_ge i l.length with h | h
   ·exact h
   ·rw [List.drop_eq_nil_of_le h] at hd; cases hd
  have hd2 : l.drop (i + 1) = q := by
   rw [← List.drop_drop, hd]; rfl
  have hk : l[i]? = some (E_card_Field.mk a b c) := by
   have : (l.drop i)[0]? = some (E_card_Field.mk a b c) := by rw [hd]; rfl
   rw [List.getElem?_drop] at this
   simpa using this
  have hk2 : (l.map toR)[i]? = some (E_kinfolkref09_Field.mk a b c) := by rw [List.getElem?_map, hk]; rfl
  have e1 := dnat 255 b.size
  have e2 := dnat 255 c.size
  rw [show ((255 : Nat) : Int) = 255 from rfl] at e1 e2
  rw [runL_next (s' := (lo || longF (.mk a b c), od || oddI a, ((i + 1 : Nat) : Int)))]
  ·rw [rlong_loop hl hd2 (by omega)]
   simp only [List.any_cons, kindF, Bool.or_assoc]
  ·rw [kinfolkref10_Patch_L1_4_step]
   simp only [glen_eq, List.length_map, dt (show (i : Int) < (l.length : Int) by omega), dt (show (0 : Int) ≤ (i : Int) by omega), cond_true, Bool.and_self, Int.toNat_natCast, hk2, Option.bind_some, e1, e2, iaddN (show i ≤ 9223372036854775806 by omega), longF, oddI]
   generalize decide (255 < b.size) = x1
   generalize decide (255 < c.size) = x2
   generalize decide (a < 0) = y1
   generalize decide (255 < a) = y2
   cases lo <;> cases od <;> cases x1 <;> cases y1 <;> simp
theorem rodd_loop {A B : List E_kinfolkref09_Field} {C : List Int} {lo : Bool} {l : List Int} (hl : l.length ≤ 100000) : ∀ {q : List Int} {i : Nat} {od : Bool}, l.drop i = q → i ≤ l.length →
  runL (kinfolkref10_Patch_L2_2_step A B C lo l (l.length : Int)) (od, (i : Int)) = some (od || q.any oddI)
 | [], i, od, hd, hi => by
  have : l.length ≤ i := List.drop_eq_nil_iff.1 hd
  refine runL_done ?_
  rw [kinfolkref10_Patch_L2_2_step, df (by omega)]
  simp
 | a :: q, i, od, hd, hi => by
  have hlt : i < l.length := by
   rcases Nat.lt_or_ge i l.length with h | h
   ·exact h
   ·rw [List.drop_eq_nil_of_le h] at hd; cases hd
  have hd2 : l.drop (i + 1) = q := by
   rw [← List.drop_drop, hd]; rfl
  have hk : l.getD i 0 = a := by
   have : (l.drop i)[0]? = some a := by rw [hd]; rfl
   rw [List.getElem?_drop] at this
   simp only [Nat.add_zero] at this
   rw [List.getD_eq_getElem?_getD, this]; rfl
  rw [runL_next (s' := (od || oddI a, ((i + 1 : Nat) : Int)))]
  ·rw [rodd_loop hl hd2 (by omega)]
   simp only [List.any_cons, Bool.or_assoc]
  ·rw [kinfolkref10_Patch_L2_2_step]
   simp only [dt (show (i : Int) < (l.length : Int) by omega), dt (show (0 : Int) ≤ (i : Int) by omega), cond_true, Bool.and_self, Int.toNat_natCast, hk, iaddN (show i ≤ 9223372036854775806 by omega), oddI]
   generalize decide (a < 0) = y1
   generalize decide (255 < a) = y2
   cases od <;> cases y1 <;> simp
theorem rput_ints {l : List Int} (hl : l.length ≤ 255) (hb : ∀ x ∈ l, 0 ≤ x ∧ x < 256) : ∀ {q : List Int} {i : Nat} {p : List Int}, l.drop i = q → i ≤ l.length → p.length ≤ 10000000 + i →
  runL (kinfolkref10_Patch_L3_step l (l.length : Int)) ((i : Int), p) = some (p ++ q)
 | [], i, p, hd, hi, hp => by
  have : l.length ≤ i := List.drop_eq_nil_iff.1 hd
  refine runL_done ?_
  rw [kinfolkref10_Patch_L3_step, df (by omega), List.append_nil]
  rfl
 | a :: q, i, p, hd, hi, hp => by
  have hlt : i < l.length := by
   rcases Nat.lt_or_ge i l.length with h | h
   ·exact h
   ·rw [List.drop_eq_nil_of_le h] at hd; cases hd
  have hd2 : l.drop (i + 1) = q := by
   rw [← List.drop_drop, hd]; rfl
  have hg : l[i]? = some a := by
   have : (l.drop i)[0]? = some a := by rw [hd]; rfl
   rw [List.getElem?_drop] at this
   simpa using this
  have hk : l.getD i 0 = a := by rw [List.getD_eq_getElem?_getD, hg]; rfl
  have ha : IntKind.u8.wrap a = a := byte_u8 (hb a (List.mem_of_getElem? hg))
  rw [runL_next (s' := (((i + 1 : Nat) : Int), p ++ [a]))]
  ·rw [rput_ints hl hb hd2 (by omega) (by rw [List.length_append]; simp; omega), List.append_assoc]
   rfl
  ·rw [kinfolkref10_Patch_L3_step]
   simp only [dt (show (i : Int) < (l.length : Int) by omega), dt (show (0 : Int) ≤ (i : Int) by omega), cond_true, Bool.and_self, Int.toNat_natCast, hk, ha, iaddN (show i ≤ 9223372036854775806 by omega), fits_of (show (p ++ [a]).length ≤ 100000000 by rw [List.length_append]; simp; omega)]
theorem rlen2 (l : List E_L_kinfolkref09_Field) : (((List.map E_L_kinfolkref09_Field.pv l).length : Nat) : Int) = (l.length : Int) := by rw [List.length_map]
theorem rpatch_go {N : Nat} (hN : 1000 < N) {a b : List Fd} {c : List Int} (ha : a.length ≤ 255) (hb : b.length ≤ 255) (hc : c.length ≤ 255) (sa : ∀ x ∈ a, Small x) (sb : ∀ x ∈ b, Small x) : kinfolkref10_Patch N (a.map toR) (b.map toR) c = some (patchV a b c) := by
 have hL : runL (kinfolkref10_Patch_L0_2_step (a.map toR) (b.map toR) c [(E_L_kinfolkref09_Field.mk (a.map toR)), (E_L_kinfolkref09_Field.mk (b.map toR))]) (false, false, 0) = some ((a ++ b).any longF, (a ++ b).any (fun x => oddI (kindF x))) := by
  have p1 := rlong_loop (A := a.map toR) (B := b.map toR) (C := c) (n := 0) (R := [(E_L_kinfolkref09_Field.mk (a.map toR)), (E_L_kinfolkref09_Field.mk (b.map toR))]) (l := a) (by omega) (i := 0) (lo := false) (od := false) rfl (Nat.zero_le _)
  have p2 := rlong_loop (A := a.map toR) (B := b.map toR) (C := c) (n := 1) (R := [(E_L_kinfolkref09_Field.mk (a.map toR)), (E_L_kinfolkref09_Field.mk (b.map toR))]) (l := b) (by omega) (i := 0) (lo := a.any longF) (od := a.any (fun x => oddI (kindF x))) rfl (Nat.zero_le _)
  simp only [Int.natCast_zero, List.drop_zero, Bool.false_or] at p1 p2
  have h1 : kinfolkref10_Patch_L0_2_step (a.map toR) (b.map toR) c [(E_L_kinfolkref09_Field.mk (a.map toR)), (E_L_kinfolkref09_Field.mk (b.map toR))] (false, false, 0) = some (.inl (a.any longF, a.any (fun x => oddI (kindF x)), 1)) := by
   rw [kinfolkref10_Patch_L0_2_step]
   simp only [rlen2, List.length_cons, List.length_nil]
   rw [show ([(E_L_kinfolkref09_Field.mk (a.map toR)), (E_L_kinfolkref09_Field.mk (b.map toR))][0 + (0 : Int).toNat]?) = some (E_L_kinfolkref09_Field.mk (a.map toR)) from rfl]
   simp only [Option.bind_some, glen_eq, List.length_map, p1]
   rfl
  have h2 : kinfolkref10_Patch_L0_2_step (a.map toR) (b.map toR) c [(E_L_kinfolkref09_Field.mk (a.map toR)), (E_L_kinfolkref09_Field.mk (b.map toR))] (a.any longF, a.any (fun x => oddI (kindF x)), 1) = some (.inl (a.any longF || b.any longF, a.any (fun x => oddI (kindF x)) || b.any (fun x => oddI (kindF x)), 2)) := by
   rw [kinfolkref10_Patch_L0_2_step]
   simp only [rlen2, List.length_cons, List.length_nil]
   rw [show ([(E_L_kinfolkref09_Field.mk (a.map toR)), (E_L_kinfolkref09_Field.mk (b.map toR))][0 + (1 : Int).toNat]?) = some (E_L_kinfolkref09_Field.mk (b.map toR)) from rfl]
   simp only [Option.bind_some, glen_eq, List.length_map, p2]
   rfl
  rw [runL_next h1, runL_next h2, List.any_append, List.any_append]
  exact runL_done rfl
 have hI := rodd_loop (A := a.map toR) (B := b.map toR) (C := c) (lo := (a ++ b).any longF) (l := c) (by omega) (i := 0) (od := (a ++ b).any (fun x => oddI (kindF x))) rfl (Nat.zero_le _)
 simp only [Int.natCast_zero, List.drop_zero] at hI
 unfold kinfolkref10_Patch patchV
 rw [glen_eq, glen_eq, List.length_map, List.length_map, df (by omega), cond_false, df (by omega), cond_false, df (show ¬ (255 : Int) < (c.length : Int) by omega), hL, Option.bind_some]
 simp only
 rw [hI, Option.bind_some, if_neg (show ¬ (255 < a.length ∨ 255 < b.length ∨ 255 < c.length) by omega)]
 by_cases h2 : (a ++ b).any longF = true
 ·rw [if_pos h2, h2]; rfl
 ·rw [if_neg h2, show (a ++ b).any longF = false by simpa using h2, cond_false]
  by_cases h3 : (a ++ b).any (fun x => oddI (kindF x)) = true
  ·rw [if_pos (.inl h3), h3]; rfl
  ·rw [show (a ++ b).any (fun x => oddI (kindF x)) = false by simpa using h3, Bool.false_or]
   by_cases h4 : c.any oddI = true
   ·rw [if_pos (.inr h4), h4]; rfl
   ·rw [if_neg (fun h => h.elim (fun h => by cases h) h4), show c.any oddI = false by simpa using h4, cond_false]
    have hla := encFs_len sa
    have hlb := encFs_len sb
    have hva := W.varint_len (a.length : Int)
    have hvb := W.varint_len (b.length : Int)
    have hvc := W.varint_len (c.length : Int)
    rw [rcard_go hN (by omega) sa, Option.bind_some, rcard_go hN (by omega) sb, Option.bind_some, size_u64 (by omega), rnum_go hN (by omega), Option.bind_some, join_go (by simp) (by simp only [List.flatMap_cons, List.flatMap_nil, jl, encC, List.length_append, List.length_nil]; omega), Option.bind_some]
    have hp := rput_ints (l := c) (by omega) (any_oddI h4) (i := 0) (p := List.flatMap jl [(E_L_uint8.mk (encC a)), (E_L_uint8.mk (encC b)), (E_L_uint8.mk (W.varint (c.length : Int)))]) rfl (Nat.zero_le _) (by simp only [List.flatMap_cons, List.flatMap_nil, jl, encC, List.length_append, List.length_nil]; omega)
    simp only [Int.natCast_zero, List.drop_zero] at hp
    rw [hp, Option.bind_some, encP]
    simp only [List.flatMap_cons, List.flatMap_nil, jl, List.append_assoc, List.append_nil, List.nil_append]
theorem num_fwd {n : Nat} (hn : n ≤ 1000000) {r : List Int} (hb : W.Bytes r) (hl : r.length ≤ 900000) : wire_In_Num (W.varint (n : Int) ++ r) 0 = some ((n : Int), r, 0) := by
 have hvb := W.varint_bytes (n := n) (by omega)
 have hvl := W.varint_len (n : Int)
 rw [W.in_num_eq (hvb.app hb) (by simp only [List.length_append]; omega), W.dec_varint (by omega)]
 simp only [if_true, List.drop_left]
theorem some_fwd_loop {n : Nat} (hn : n ≤ 255) {rest : List Int} (hb : W.Bytes rest) (hl : rest.length ≤ 100000) : ∀ {s : List Fd} {k : Nat} {r : List Fd}, (∀ x ∈ s, Byt x) → k + s.length = n → r.length = k →
  runL (paper_some_L0_2_step (n : Int)) ((k : Int), encFs s ++ rest, 0, r) = some (rest, 0, r ++ s)
 | [], k, r, hs, hk, hr => by
  simp only [List.length_nil] at hk
  refine runL_done ?_
  rw [paper_some_L0_2_step, df (by omega), List.append_nil]
  rfl
 | ⟨a, b, c⟩ :: s, k, r, hs, hk, hr => by
  simp only [List.length_cons] at hk
  obtain ⟨ha, hb1, hc1⟩ := hs (.mk a b c) (by simp)
  have hs2 : ∀ x ∈ s, Byt x := fun x hx => hs x (by simp [hx])
  have hsl := encFs_len (l := s) fun x hx => (hs2 x hx).small
  have hsb := encFs_bytes (l := s) fun x hx => (hs2 x hx).small
  have hR : W.Bytes (encFs s ++ rest) := hsb.app hb
  have hRl : (encFs s ++ rest).length ≤ 700000 := by rw [List.length_append]; omega
  have hcv := W.varint_bytes (n := c.size) (by omega)
  have hcl := W.varint_len (c.size : Int)
  have hcb := W.bytesL_len c
  have t2 : wire_In_Text 255 (W.varint (c.size : Int) ++ (bytesL c ++ (encFs s ++ rest))) 0 = some (c, encFs s ++ rest, 0) := text_fwd (most := 255) (by decide) hc1 hR (by omega)
  have t1 : wire_In_Text 255 (W.varint (b.size : Int) ++ (bytesL b ++ (W.varint (c.size : Int) ++ (bytesL c ++ (encFs s ++ rest))))) 0 = some (b, W.varint (c.size : Int) ++ (bytesL c ++ (encFs s ++ rest)), 0) := text_fwd (most := 255) (by decide) hb1 (hcv.app ((W.bytesL_bytes c).app hR)) (by simp only [List.length_append] at hRl ⊢; omega)
  have he : encFs (E_card_Field.mk a b c :: s) ++ rest = a :: (W.varint (b.size : Int) ++ (bytesL b ++ (W.varint (c.size : Int) ++ (bytesL c ++ (encFs s ++ rest))))) := by
   rw [encFs_cons]
   simp only [encF, byte_u8 ha, List.cons_append, List.append_assoc]
  rw [he, runL_next (s' := (((k + 1 : Nat) : Int), encFs s ++ rest, 0, r ++ [E_card_Field.mk a b c]))]
  ·rw [some_fwd_loop hn hb hl hs2 (by omega) (by rw [List.length_append]; simp; omega), List.append_assoc]
   rfl
  ·rw [paper_some_L0_2_step, dt (by omega), cond_true, byte_fwd, Option.bind_some]
   simp only
   rw [t1, Option.bind_some]
   simp only
   rw [t2, Option.bind_some]
   simp only
   rw [fits_of (by simp; omega), cond_true, iu1 (by omega), byte_i64 ha]
theorem some_fwd {c : List Fd} (hc : c.length ≤ 255) (hs : ∀ x ∈ c, Byt x) {rest : List Int} (hb : W.Bytes rest) (hl : rest.length ≤ 100000) : paper_some (encC c ++ rest) 0 = some (rest, 0, c) := by
 have hsl := encFs_len (l := c) fun x hx => (hs x hx).small
 have hsb := encFs_bytes (l := c) fun x hx => (hs x hx).small
 unfold paper_some paper_count
 rw [encC, List.append_assoc, num_fwd (by omega) (hsb.app hb) (by rw [List.length_append]; omega), Option.bind_some]
 simp only
 rw [df (by omega), cond_false, Option.bind_some]
 simp only
 have h := some_fwd_loop (n := c.length) hc hb hl (s := c) (k := 0) (r := []) hs (by omega) rfl
 simp only [Int.natCast_zero, List.nil_append] at h
 rw [h]
 rfl
theorem ints_fwd {n : Nat} (hn : n ≤ 255) {r1 r2 : List Fd} : ∀ {s : List Int} {k : Nat} {r : List Int}, (∀ x ∈ s, 0 ≤ x ∧ x < 256) → k + s.length = n → r.length = k →
  runL (paper_ReadPatch_L0_2_step (n : Int) r1 r2) ((k : Int), s, 0, r) = some ([], 0, r ++ s)
 | [], k, r, hs, hk, hr => by
  simp only [List.length_nil] at hk
  refine runL_done ?_
  rw [paper_ReadPatch_L0_2_step, df (by omega), List.append_nil]
  rfl
 | a :: s, k, r, hs, hk, hr => by
  simp only [List.length_cons] at hk
  have ha := hs a (by simp)
  rw [runL_next (s' := (((k + 1 : Nat) : Int), s, 0, r ++ [a]))]
  ·rw [ints_fwd hn (fun x hx => hs x (by simp [hx])) (by omega) (by rw [List.length_append]; simp; omega), List.append_assoc]
   rfl
  ·rw [paper_ReadPatch_L0_2_step, dt (by omega), cond_true, byte_fwd, Option.bind_some]
   simp only
   rw [fits_of (by simp; omega), cond_true, iu1 (by omega), byte_i64 ha]
theorem ints_bytes {c : List Int} (h : ∀ x ∈ c, 0 ≤ x ∧ x < 256) : W.Bytes c := h
theorem patch_fwd {a b : List Fd} {c : List Int} (hl : a.length ≤ 14 ∧ b.length ≤ 14 ∧ c.length ≤ 255) (ha : ∀ x ∈ a, Byt x) (hb : ∀ x ∈ b, Byt x) (hc : ∀ x ∈ c, 0 ≤ x ∧ x < 256) : paper_ReadPatch (encP a b c) = some (a, b, c, 0) := by
 have hla := encFs_len (l := a) fun x hx => (ha x hx).small
 have hlb := encFs_len (l := b) fun x hx => (hb x hx).small
 have hva := W.varint_len (a.length : Int)
 have hvb := W.varint_len (b.length : Int)
 have hvc := W.varint_len (c.length : Int)
 have bb := encC_bytes (l := b) (by omega) fun x hx => (hb x hx).small
 have bc : W.Bytes (W.varint (c.length : Int) ++ c) := (W.varint_bytes (n := c.length) (by omega)).app (ints_bytes hc)
 unfold paper_ReadPatch wire_Of paper_count encP
 rw [fits_of (by simp only [encC, List.length_append]; omega), cond_true, Option.bind_some]
 rw [some_fwd (by omega) ha (bb.app bc) (by simp only [encC, List.length_append]; omega), Option.bind_some]
 simp only
 rw [some_fwd (by omega) hb bc (by simp only [List.length_append]; omega), Option.bind_some]
 simp only
 rw [num_fwd (by omega) (ints_bytes hc) (by omega), Option.bind_some]
 simp only
 rw [df (by omega), cond_false, Option.bind_some]
 simp only
 have h := ints_fwd (n := c.length) hl.2.2 (r1 := a) (r2 := b) (s := c) (k := 0) (r := []) hc (by omega) rfl
 simp only [Int.natCast_zero, List.nil_append] at h
 rw [h, Option.bind_some]
 simp only
 have he : wire_In_End [] 0 = some (0, 0) := by
  unfold wire_In_End
  simp only [W.left_eq, W.err_eq, Option.bind_some]
  rfl
 rw [he, Option.bind_some]
 simp only [take_len]
 rfl
theorem any_long {l : List Fd} (h : ¬ l.any longF = true) (h2 : ¬ l.any (fun x => oddI (kindF x)) = true) : ∀ x ∈ l, Byt x := by
 intro x hx
 have g1 : l.any longF = false := by simpa using h
 have g2 : l.any (fun x => oddI (kindF x)) = false := by simpa using h2
 rw [List.any_eq_false] at g1 g2
 have k1 := g1 x hx
 have k2 := g2 x hx
 cases x with
 | mk a b c =>
  have k3 : ¬ oddI a = true := k2
  simp only [oddI, Bool.or_eq_true, decide_eq_true_eq, not_or] at k3
  simp only [longF, Bool.or_eq_true, decide_eq_true_eq, not_or] at k1
  exact ⟨by omega, by omega, by omega⟩
theorem patchV_zero {a b : List Fd} {c : List Int} (h : (patchV a b c).2 = 0) : (patchV a b c) = (encP a b c, 0) ∧ (∀ x ∈ a, Byt x) ∧ (∀ x ∈ b, Byt x) ∧ (∀ x ∈ c, 0 ≤ x ∧ x < 256) := by
 unfold patchV at h ⊢
 by_cases h1 : 255 < a.length ∨ 255 < b.length ∨ 255 < c.length
 ·rw [if_pos h1] at h; cases h
 ·rw [if_neg h1] at h ⊢
  by_cases h2 : (a ++ b).any longF = true
  ·rw [if_pos h2] at h; cases h
  ·rw [if_neg h2] at h ⊢
   by_cases h3 : (a ++ b).any (fun x => oddI (kindF x)) = true ∨ c.any oddI = true
   ·rw [if_pos h3] at h; cases h
   ·rw [if_neg h3]
    rw [not_or] at h3
    have hB := any_long h2 h3.1
    exact ⟨rfl, fun x hx => hB x (List.mem_append_left _ hx), fun x hx => hB x (List.mem_append_right _ hx), any_oddI h3.2⟩
theorem patchV_len {a b : List Fd} {c : List Int} (ha : a.length ≤ 14) (hb : b.length ≤ 14) (hc : c.length ≤ 9) (sa : ∀ x ∈ a, Small x) (sb : ∀ x ∈ b, Small x) : (patchV a b c).1.length ≤ 100000 := by
 have hla := encFs_len sa
 have hlb := encFs_len sb
 have hva := W.varint_len (a.length : Int)
 have hvb := W.varint_len (b.length : Int)
 have hvc := W.varint_len (c.length : Int)
 unfold patchV
 split
 ·simp
 ·split
  ·simp
  ·split
   ·simp
   ·simp only [encP, encC, List.length_append]; omega
theorem patches_tail {N : Nat} (hN : 1000 < N) {a b : List Fd} {c : List Int} (ha : a.length ≤ 14) (hb : b.length ≤ 14) (hc : c.length ≤ 9) (sa : ∀ x ∈ a, Small x) (sb : ∀ x ∈ b, Small x) :
  ((paper_Patch a b c).bind fun (l_, n) =>
   (kinfolklaw10_own a).bind fun r3 =>
   (kinfolklaw10_own b).bind fun r4 =>
   (kinfolkref10_Patch N (List.take ((List.map E_kinfolkref09_Field.pv r3)).length r3) (List.take ((List.map E_kinfolkref09_Field.pv r4)).length r4) c).bind fun (l_2, n2) =>
   bif (decide ((n : Int) = n2)) then
    (kinfolkref06_Same l_ l_2).bind fun b2 =>
    bif b2 then
     bif (decide ((n : Int) = 0)) then
      (paper_ReadPatch l_).bind fun (r5, r6, l_3, n3) =>
      bif (decide ((n3 : Int) = 0)) then
       (slices_Equal_card_Field r5 a).bind fun b3 =>
       bif b3 then
        (slices_Equal_card_Field r6 b).bind fun b4 =>
        bif b4 then
         (slices_Equal_int l_3 c).bind fun b5 =>
         some b5
        else
         some false
       else
        some false
      else
       some false
     else
      some true
    else
     some false
   else
    some false) = some true := by
 rw [patch_go (by omega) (by omega) (by omega) sa sb, Option.bind_some]
 have hlen := patchV_len ha hb hc sa sb
 have hr := rpatch_go hN (a := a) (b := b) (c := c) (by omega) (by omega) (by omega) sa sb
 have hz := patchV_zero (a := a) (b := b) (c := c)
 rw [own_go (by omega), own_go (by omega)]
 simp only [Option.bind_some, gtake_len, hr]
 generalize patchV a b c = v at hlen hz
 obtain ⟨v1, v2⟩ := v
 simp only at hlen hz ⊢
 simp only [decide_true, cond_true]
 rw [W.same_eq (by omega), dt rfl, Option.bind_some, cond_true]
 by_cases h0 : v2 = 0
 ·obtain ⟨g1, g2, g3, g4⟩ := hz h0
  have hv1 : v1 = encP a b c := congrArg Prod.fst g1
  rw [dt h0, cond_true, hv1, patch_fwd ⟨ha, hb, by omega⟩ g2 g3 g4, Option.bind_some]
  simp only [decide_true, cond_true]
  rw [equal_go (by omega), dt rfl, Option.bind_some, cond_true, equal_go (by omega), dt rfl, Option.bind_some, cond_true, eqI (by omega)]
  rfl
 ·rw [df h0]; rfl
theorem paperPatches_true {N : Nat} (hN : 1000 < N) {adds drops : List Fd} (ha : adds.length ≤ 9223372036854775807) (hd : drops.length ≤ 9223372036854775807) (clear : List Int) {more : Int} (hm : 0 ≤ more ∧ more ≤ 65535) : kinfolklaw10_PaperPatches N adds drops clear more = some true := by
 unfold kinfolklaw10_PaperPatches
 have hb1 : (0 : Int) ≤ (if 9 < (clear.length : Int) then 9 else (clear.length : Int)) ∧ (if 9 < (clear.length : Int) then 9 else (clear.length : Int)) ≤ (clear.length : Int) ∧ (if 9 < (clear.length : Int) then 9 else (clear.length : Int)) ≤ 9 := by split <;> omega
 generalize (if 9 < (clear.length : Int) then (9 : Int) else (clear.length : Int)) = m at *
 have hq : (List.take (m - 0).toNat clear).length ≤ 9 := by rw [List.length_take]; omega
 have z0 : decide ((0 : Int) ≤ 0) = true := decide_eq_true (by omega)
 have f1 := fewV_len adds
 have f2 := fewV_len drops
 have s1 := fewV_short adds
 have s2 := fewV_short drops
 rw [awake10_go, dt hb1.1, dt hb1.2.1, z0]
 rw [Option.bind_some, cond_true, dt rfl, show (true && true && true && true) = true from rfl, cond_true, few_go ha, Option.bind_some, few_go hd, Option.bind_some]
 generalize List.take (m - 0).toNat clear = c at *
 generalize fewV adds = r at *
 generalize fewV drops = r2 at *
 have hcl : slices_Clone_int c = some () := by
  unfold slices_Clone_int
  rw [if_pos (fits_of (by omega))]
 rw [hcl, Option.bind_some]
 simp only [take_len, len_eq]
 have hk : ∃ k : Nat, k ≤ 300 ∧ irem .i64 (IntKind.i64.wrap more) 300 = (k : Int) := by
  have e : IntKind.i64.wrap more = more := IntWalk.i64_in _ ⟨by omega, by omega⟩
  refine ⟨more.toNat % 300, by omega, ?_⟩
  rw [e, show more = ((more.toNat : Nat) : Int) by omega, Int.toNat_natCast]
  rfl
 obtain ⟨k, hk1, hk2⟩ := hk
 rw [hk2]
 cases hr : r with
 | nil =>
  simp only [List.length_nil]
  rw [df (by omega), cond_false]
  exact patches_tail hN (a := []) (by simp) f2 hq (by simp) (fun x hx => (s2 x hx).small)
 | cons e q =>
  cases e with
  | mk n s sv =>
   rw [hr] at f1 s1
   have he := s1 (.mk n s sv) (by simp)
   have hlen : (strOf (List.replicate k (0 : Int))).size = k := by rw [W.strOf_len, List.length_replicate]
   have hpos : (0 : Int) < (((E_card_Field.mk n s sv :: q).length : Nat) : Int) := by rw [List.length_cons]; omega
   have hsz : sv.size + (strOf (List.replicate k (0 : Int))).size ≤ 140737488355328 := by
    rw [hlen]
    have := he.2
    omega
   rw [dt hpos, cond_true]
   simp only [Bool.and_self, cond_true, List.getElem?_cons_zero, Option.bind_some, Int.toNat_natCast, dt (show (0 : Int) ≤ (k : Int) by omega), decide_true, fits_of (show k ≤ 100000000 by omega), List.take_length, dt hsz, List.set_cons_zero]
   have htk : ∀ X : Fd, List.take (List.map E_card_Field.pv (E_card_Field.mk n s sv :: q)).length (X :: q) = X :: q := fun X => List.take_of_length_le (by simp)
   simp only [htk]
   exact patches_tail hN (a := E_card_Field.mk n s (sv ++ strOf (List.replicate k (0 : Int))) :: q) (by simpa using f1) f2 hq (fun x hx => by
    rcases List.mem_cons.1 hx with rfl | hx
    ·refine ⟨Nat.le_trans he.1 (by decide), ?_⟩
     rw [ByteArray.size_append, hlen]
     have := he.2
     omega
    ·exact (s1 x (by simp [hx])).small) (fun x hx => (s2 x hx).small)
end Go.Proofs.YteiikkpajcggfaaGreatDoor
