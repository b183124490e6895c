/- WireFrames and WireRows answer true. Plain. -/
import Derived.Test.YtecblpgljmbpeaaB3
set_option linter.unusedVariables false
set_option linter.unusedSimpArgs false
namespace Go.Proofs.Ytecblpgljmbpeaa
open Go.Ev

theorem wireFrames_true {l m : List Int} {at_ turn : Int} (h : Bytes l) (h2 : Bytes m) (ha : 0 ≤ at_ ∧ at_ < 65536) (ht : 0 ≤ turn ∧ turn < 256) : kinfolklaw06_WireFrames l m at_ turn = some true := by
  have hpl : (List.take 200 l).length ≤ 200 := by simp; omega
  have hml : (List.take 30 m).length ≤ 30 := by simp; omega
  have hp : Bytes (List.take 200 l) := h.take 200
  have hb : Bytes (List.take 30 m) := h2.take 30
  unfold kinfolklaw06_WireFrames
  rw [awake_eq, cut_eq (by omega) (by omega), cut_eq (by omega) (by omega)]
  simp only [Option.bind_some, show (200 : Int).toNat = 200 from rfl, show (30 : Int).toNat = 30 from rfl, cond_true]
  generalize List.take 200 l = p at *
  generalize List.take 30 m = b at *
  have hfl := frame_len p
  have e3 : List.take (300 : Int).toNat (frame p) = frame p := List.take_of_length_le (by rw [hfl]; show _ ≤ 300; omega)
  have e4 : wire_Open (frame p ++ b) = some (p, 8 + (p.length : Int), 0) := by
    rw [opened_neq ((frame_bytes hp).app hb) (by simp [hfl]; omega), opened_frame hp (by omega)]
  have e5 := same_eq (a := frame p) (b := frame p) (by omega)
  have e6 := same_eq (a := p) (b := p) (by omega)
  have hf : fits (frame p ++ List.take b.length b).length = true := fits_ok (by simp [hfl]; omega)
  have e7 : (8 + (p.length : Int)) = ((frame p).length : Int) := by rw [hfl]; omega
  simp only [frame_eq hp (by omega), rframe_eq hp (by omega), cut_eq (p := frame p) (n := 300) (by omega) (by omega), e3, e4, e5, e6, hf, Option.bind_some, cond_true, decide_true, e7]
  by_cases h0 : turn = 0
  · simp [h0]
  · have a1 : IntKind.i64.wrap at_ = at_ := i64_in (by omega) (by omega)
    have a2 : isub .i64 ((frame p).length : Int) 4 = ((4 + p.length : Nat) : Int) := by rw [hfl, isub64 (by omega) (by omega)]; omega
    have a3 : irem .i64 at_ ((4 + p.length : Nat) : Int) = ((at_.toNat % (4 + p.length) : Nat) : Int) := by
      rw [irem, Int.tmod_eq_emod_of_nonneg ha.1, Int.natCast_emod]
      congr 1
      omega
    have hlt := Nat.mod_lt at_.toNat (show 0 < 4 + p.length by omega)
    have a4 : iadd .i64 4 ((at_.toNat % (4 + p.length) : Nat) : Int) = ((4 + at_.toNat % (4 + p.length) : Nat) : Int) := by
      rw [iadd64 (by omega) (by omega)]; omega
    rw [a1, a2, a3, a4]
    have hi : 4 ≤ 4 + at_.toNat % (4 + p.length) ∧ 4 + at_.toNat % (4 + p.length) < 8 + p.length := by omega
    generalize 4 + at_.toNat % (4 + p.length) = i at hi ⊢
    obtain ⟨x1, x2⟩ := xor_turn ((frame_bytes hp).at (i := i) (by rw [hfl]; exact hi.2)) ht h0
    have et : List.take (frame p).length ((frame p).set i (ixor .u8 ((frame p).getD i 0) turn)) = (frame p).set i (ixor .u8 ((frame p).getD i 0) turn) := List.take_of_length_le (by simp)
    have hbs : Bytes ((frame p).set i (ixor .u8 ((frame p).getD i 0) turn)) := by
      intro x hx
      rcases List.mem_or_eq_of_mem_set hx with hx | rfl
      · exact frame_bytes hp x hx
      · exact x1
    have eo := opened_turned hp (by omega) hi.1 hi.2 x1 x2
    have e8 := opened_neq hbs (by simp [hfl]; omega)
    rw [eo] at e8
    simp only [Nat.zero_add, Int.toNat_natCast, et, e8, Option.bind_some]
    simp [h0, hfl, show (i : Int) < 8 + p.length by omega, show ¬ ((4 : Int) + p.length = 0) by omega, show i < 8 + p.length by omega]

/-! ### rows of frames -/
def cut50 (z : E_uint8) : List Int := List.take 50 z.l
def allF (ls : List E_uint8) : List Int := (ls.map fun z => frame (cut50 z)).flatten
def BytesL (ls : List E_uint8) : Prop := ∀ z ∈ ls, Bytes z.l
theorem cut50_len (z : E_uint8) : (cut50 z).length ≤ 50 := by simp [cut50]; omega
theorem allF_cons (z : E_uint8) (ls : List E_uint8) : allF (z :: ls) = frame (cut50 z) ++ allF ls := by simp [allF]
theorem allF_bytes : ∀ {ls : List E_uint8}, BytesL ls → Bytes (allF ls)
  | [], _ => by intro x hx; simp [allF] at hx
  | z :: ls, h => by
    rw [allF_cons]
    exact (frame_bytes ((h z (by simp)).take 50)).app (allF_bytes fun y hy => h y (by simp [hy]))
theorem allF_len : ∀ (ls : List E_uint8), (allF ls).length ≤ 58 * ls.length
  | [] => by simp [allF]
  | z :: ls => by
    have := allF_len ls
    have := cut50_len z
    rw [allF_cons, List.length_append, frame_len, List.length_cons]
    omega
theorem rows_put (ls r0 : List E_uint8) (hb : BytesL ls) (hl : ls.length ≤ 8) : ∀ (m i : Nat) (acc : List Int), i + m = ls.length → acc.length ≤ 58 * i → runL (kinfolklaw06_WireRows_L0_2_step r0 ls ls.length) ((i : Int), acc) = some (acc ++ allF (ls.drop i))
  | 0, i, acc, h, ha => by
    obtain rfl : i = ls.length := by omega
    exact runL_done (by simp [kinfolklaw06_WireRows_L0_2_step, allF])
  | m + 1, i, acc, h, ha => by
    have hi : i < ls.length := by omega
    have hc := cut50_len ls[i]
    have ih := rows_put ls r0 hb hl m (i + 1) (acc ++ frame (cut50 ls[i])) (by omega) (by rw [List.length_append, frame_len]; omega)
    rw [List.drop_eq_getElem_cons hi, allF_cons, runL_next (s' := (((i + 1 : Nat) : Int), acc ++ frame (cut50 ls[i]))), ih, List.append_assoc]
    have hbi : Bytes (cut50 ls[i]) := (hb _ (List.getElem_mem hi)).take 50
    cases he : ls[i] with
    | mk a =>
      have hg : ls[i]? = some (E_uint8.mk a) := by rw [List.getElem?_eq_getElem hi, he]
      rw [he] at hbi hc
      have e1 : cut50 (E_uint8.mk a) = List.take (50 : Int).toNat a := rfl
      have hf : fits (acc ++ List.take (frame (cut50 (E_uint8.mk a))).length (frame (cut50 (E_uint8.mk a)))).length = true := fits_ok (by simp [frame_len]; omega)
      simp only [kinfolklaw06_WireRows_L0_2_step, Int.toNat_natCast, hg, Option.bind_some, cut_eq (p := a) (n := 50) (by omega) (by omega), ← e1, frame_eq hbi (by omega), hf, iadd64 (show -1000000000000 ≤ (i : Int) + 1 by omega) (by omega), List.length_map]
      simp [hi]
theorem rows_open (ls : List E_uint8) (l0 : List Int) (hb : BytesL ls) (hl : ls.length ≤ 8) : ∀ (m i : Nat), i + m = ls.length → runL (kinfolklaw06_WireRows_L1_step ls ls.length l0) (.inr (allF (ls.drop i), (i : Int))) = some (.inr (.inr []))
  | 0, i, h => by
    obtain rfl : i = ls.length := by omega
    exact runL_done (by simp [kinfolklaw06_WireRows_L1_step, allF])
  | m + 1, i, h => by
    have hi : i < ls.length := by omega
    have hc := cut50_len ls[i]
    have ih := rows_open ls l0 hb hl m (i + 1) (by omega)
    have hbi : Bytes (cut50 ls[i]) := (hb _ (List.getElem_mem hi)).take 50
    have hbr : BytesL (ls.drop (i + 1)) := fun y hy => hb y (List.mem_of_mem_drop hy)
    have hlr := allF_len (ls.drop (i + 1))
    rw [List.drop_eq_getElem_cons hi, allF_cons, runL_next (s' := .inr (allF (ls.drop (i + 1)), ((i + 1 : Nat) : Int))), ih]
    cases he : ls[i] with
    | mk a =>
      have hg : ls[i]? = some (E_uint8.mk a) := by rw [List.getElem?_eq_getElem hi, he]
      rw [he] at hbi hc
      have e1 : cut50 (E_uint8.mk a) = List.take (50 : Int).toNat a := rfl
      have hlen : (allF (ls.drop (i + 1))).length ≤ 464 := by simp at hlr; omega
      have e4 : wire_Open (frame (cut50 (E_uint8.mk a)) ++ allF (ls.drop (i + 1))) = some (cut50 (E_uint8.mk a), 8 + ((cut50 (E_uint8.mk a)).length : Int), 0) := by
        rw [opened_neq ((frame_bytes hbi).app (allF_bytes hbr)) (by simp [frame_len]; omega), opened_frame hbi (by omega)]
      have e5 := same_eq (a := cut50 (E_uint8.mk a)) (b := cut50 (E_uint8.mk a)) (by omega)
      have e6 : iadd .i64 8 ((cut50 (E_uint8.mk a)).length : Int) = 8 + ((cut50 (E_uint8.mk a)).length : Int) := iadd64 (by omega) (by omega)
      have e7 : List.drop (8 + ((cut50 (E_uint8.mk a)).length : Int)).toNat (frame (cut50 (E_uint8.mk a)) ++ allF (ls.drop (i + 1))) = allF (ls.drop (i + 1)) := by
        rw [List.drop_append_of_le_length (by rw [frame_len]; omega), List.drop_of_length_le (by rw [frame_len]; omega), List.nil_append]
      have e8 : List.take (((frame (cut50 (E_uint8.mk a)) ++ allF (ls.drop (i + 1))).length : Int) - (8 + ((cut50 (E_uint8.mk a)).length : Int))).toNat (allF (ls.drop (i + 1))) = allF (ls.drop (i + 1)) := List.take_of_length_le (by rw [List.length_append, frame_len]; omega)
      simp only [kinfolklaw06_WireRows_L1_step, Int.toNat_natCast, hg, Option.bind_some, e4, cut_eq (p := a) (n := 50) (by omega) (by omega), ← e1, e5, e6, e7, e8, iadd64 (show -1000000000000 ≤ (i : Int) + 1 by omega) (by omega), List.length_map, decide_true, cond_true]
      have d1 : (i : Int) < ls.length := by omega
      have d2 : (8 + ((cut50 (E_uint8.mk a)).length : Int)) ≤ ((frame (cut50 (E_uint8.mk a)) ++ allF (ls.drop (i + 1))).length : Int) := by rw [List.length_append, frame_len]; omega
      have d3 : (0 : Int) ≤ 8 + ((cut50 (E_uint8.mk a)).length : Int) := by omega
      simp only [d1, d2, d3]
      simp
theorem wireRows_true {ls : List E_uint8} (hb : BytesL ls) : kinfolklaw06_WireRows ls = some true := by
  have e : (if (8 : Int) < ((List.map E_uint8.pv ls).length : Int) then (8 : Int) else ((List.map E_uint8.pv ls).length : Int)) = ((min 8 ls.length : Nat) : Int) := by simp only [List.length_map]; split <;> omega
  have e2 : ∀ {α : Type} (x : List α), x.length = ls.length → List.take (((min 8 ls.length : Nat) : Int) - 0).toNat x = List.take 8 x := by
    intro α x hx
    have : (((min 8 ls.length : Nat) : Int) - 0).toNat = min 8 x.length := by omega
    rw [this]
    rcases Nat.le_total 8 x.length with h | h
    · rw [Nat.min_eq_left h]
    · rw [Nat.min_eq_right h, List.take_length, List.take_of_length_le h]
  unfold kinfolklaw06_WireRows
  rw [awake_eq]
  simp only [Option.bind_some, cond_true]
  rw [e, e2 ls rfl, e2 (List.map E_uint8.pv ls) (by simp)]
  have hb8 : BytesL (List.take 8 ls) := fun y hy => hb y (List.mem_of_mem_take hy)
  have hl8 : (List.take 8 ls).length ≤ 8 := by simp; omega
  have e3 : ((List.take 8 (List.map E_uint8.pv ls)).length : Int) = ((List.take 8 ls).length : Int) := by simp
  have e4 : ((List.map E_uint8.pv (List.take 8 ls)).length : Int) = ((List.take 8 ls).length : Int) := by simp
  have hm : ((min 8 ls.length : Nat) : Int) ≤ ((List.map E_uint8.pv ls).length : Int) := by simp; omega
  have hm0 : (0 : Int) ≤ ((min 8 ls.length : Nat) : Int) := by omega
  simp only [List.length_map] at hm
  rw [e3, e4]
  generalize ((min 8 ls.length : Nat) : Int) = z at hm hm0
  generalize List.take 8 ls = r at *
  have p1 := rows_put r r hb8 hl8 r.length 0 [] (by omega) (by simp)
  simp only [Int.natCast_zero, Int.ofNat_eq_natCast, List.drop_zero, List.nil_append] at p1
  simp only [p1, Option.bind_some]
  have hop0 : wire_Open [] = some ([], 0, 6) := by simp [wire_Open]
  by_cases h0 : r.length = 0
  · have hr := List.eq_nil_of_length_eq_zero h0
    have hd : runL (kinfolklaw06_WireRows_L1_step r r.length (allF r)) (.inl ()) = some (.inr (.inl ())) := runL_done (by simp [kinfolklaw06_WireRows_L1_step, h0])
    rw [hd]
    have hn : allF r = [] := by rw [hr]; rfl
    simp only [Option.bind_some, hn, hop0]
    simp [hm, hm0]
  · have p2 := rows_open r (allF r) hb8 hl8 r.length 0 (by omega)
    have hd : runL (kinfolklaw06_WireRows_L1_step r r.length (allF r)) (.inl ()) = runL (kinfolklaw06_WireRows_L1_step r r.length (allF r)) (.inr (allF r, 0)) := by
      apply runL_same
      simp [kinfolklaw06_WireRows_L1_step, show 0 < r.length by omega, show iadd .i64 0 1 = 1 from rfl]
    simp only [List.drop_zero, Int.natCast_zero, Int.ofNat_eq_natCast] at p2
    rw [hd, p2]
    simp only [Option.bind_some, hop0]
    simp [hm, hm0]
end Go.Proofs.Ytecblpgljmbpeaa
