/- Patches, merges, what two cards differ by. Plain. -/
import Derived.Test.YteiikkpajcggfaaGreatDoorCT5G
set_option linter.unusedVariables false
set_option linter.unusedSimpArgs false
namespace Go.Proofs.YteiikkpajcggfaaGreatDoor
open Go.Ev Go.Lib

theorem iadd2 {a b : Nat} (ha : a ≤ 1000) (hb : b ≤ 1000) : iadd .i64 (a : Int) (b : Int) = ((a + b : Nat) : Int) := by
  unfold iadd
  simp [IntKind.wrap, IntKind.bits, IntKind.signed]
  omega
def keepF (q : List Fd) (cl : List Int) (x : Fd) : Bool := !(goneF q cl x)
noncomputable def bodyV (c p q : List Fd) (cl : List Int) : List Fd × Int := if 8 < (madeF (c.filter (keepF q cl) ++ p)).length then (c, 8) else (madeF (c.filter (keepF q cl) ++ p), 0)
noncomputable def patchV (c p q : List Fd) (cl : List Int) : List Fd × Int := match badF p with | some n => (c, n) | none => bodyV c p q cl
theorem patch_go {c p q : List Fd} {cl : List Int} (hc : c.length ≤ 100) (hp : p.length ≤ 100) (hq : q.length ≤ 1000) (hcl : cl.length ≤ 1000) (hs : ∀ x ∈ p, Small x) : card_Card_Patch c p q cl = some (patchV c p q cl) := by
  unfold card_Card_Patch patchV
  rw [make_go (by omega) hs]
  obtain ⟨z, hz1, hz2⟩ := delete_go_2 (c := c) (p := p) (q := q) (cl := cl) (by omega) hq hcl
  have hfl : (c.filter (keepF q cl)).length ≤ c.length := List.length_filter_le _ _
  have hm := made_go (l := c.filter (keepF q cl) ++ p) (by rw [List.length_append]; omega)
  have hbody : ((slices_DeleteFunc_card_Field_2 p q cl c).bind fun z_ => match z_ with
    | .inl _ =>
      bif fits ((List.map E_card_Field.pv c) ++ (List.map E_card_Field.pv p)).length then
      (card_made (List.take (((List.map E_card_Field.pv c) ++ (List.map E_card_Field.pv p))).length (c ++ p))).bind fun r2 =>
      (card_Card_Len r2).bind fun n2 =>
      bif (decide (8 < n2)) then some (c, (8 : Int)) else some (r2, 0)
      else none
    | .inr (k, r2) =>
      bif Nat.ble k ((List.map E_card_Field.pv r2)).length then
      bif Nat.beq k ((List.take k (List.map E_card_Field.pv r2))).length then
      bif fits ((List.take k (List.map E_card_Field.pv r2)) ++ (List.map E_card_Field.pv p)).length then
      (card_made (List.take (((List.take k (List.map E_card_Field.pv r2)) ++ (List.map E_card_Field.pv p))).length ((List.take k r2) ++ p))).bind fun r3 =>
      (card_Card_Len r3).bind fun n2 =>
      bif (decide (8 < n2)) then some (c, (8 : Int)) else some (r3, 0)
      else none
      else none
      else none) = some (bodyV c p q cl) := by
    rw [hz1, Option.bind_some]
    have hdec : ∀ m : List Fd, (bif decide ((8 : Int) < (m.length : Int)) then some (c, (8 : Int)) else some (m, 0)) = some (if 8 < m.length then (c, 8) else (m, 0)) := fun m => by
      by_cases h8 : 8 < m.length
      · rw [if_pos h8, decide_eq_true (show (8 : Int) < (m.length : Int) by omega)]; rfl
      · rw [if_neg h8, decide_eq_false (show ¬ (8 : Int) < (m.length : Int) by omega)]; rfl
    cases z with
    | inl _ =>
      have hz : c.filter (keepF q cl) = c := hz2
      rw [hz] at hm
      have hf : fits ((List.map E_card_Field.pv c) ++ (List.map E_card_Field.pv p)).length = true := fits_of (by simp; omega)
      have ht : List.take (((List.map E_card_Field.pv c) ++ (List.map E_card_Field.pv p))).length (c ++ p) = c ++ p := List.take_of_length_le (by simp)
      simp only [hf, cond_true, ht, hm, Option.bind_some, clen_go]
      rw [hdec]
      unfold bodyV
      rw [hz]
    | inr z =>
      obtain ⟨k, r2⟩ := z
      obtain ⟨hk, hz⟩ : k ≤ r2.length ∧ r2.take k = c.filter (keepF q cl) := hz2
      have hlk : k ≤ c.length := by
        have := congrArg List.length hz
        rw [List.length_take] at this
        omega
      have hb1 : Nat.ble k ((List.map E_card_Field.pv r2)).length = true := by rw [List.length_map]; exact Nat.ble_eq_true_of_le hk
      have hb2 : Nat.beq k ((List.take k (List.map E_card_Field.pv r2))).length = true := by rw [List.length_take, List.length_map, Nat.min_eq_left hk]; exact Nat.beq_refl k
      have hf : fits ((List.take k (List.map E_card_Field.pv r2)) ++ (List.map E_card_Field.pv p)).length = true := fits_of (by simp; omega)
      have ht : List.take (((List.take k (List.map E_card_Field.pv r2)) ++ (List.map E_card_Field.pv p))).length ((List.take k r2) ++ p) = c.filter (keepF q cl) ++ p := by rw [List.take_of_length_le (by simp), hz]
      simp only [hb1, hb2, hf, cond_true, ht, hm, Option.bind_some, clen_go]
      rw [hdec]
      rfl
  unfold makeV
  cases hb : badF p with
  | some n =>
    obtain ⟨h0, h8⟩ := badF_ne hb
    simp only [Option.bind_some, decide_eq_false h0, decide_eq_false h8, cond_false]
  | none =>
    simp only [Option.bind_some]
    rw [fields_go (by omega)]
    simp only [Option.bind_some]
    by_cases h8 : 8 < (madeF p).length
    · rw [if_pos h8]; exact hbody
    · rw [if_neg h8]; exact hbody
theorem patchV_len {c p q : List Fd} {cl : List Int} (hc : c.length ≤ 8) : (patchV c p q cl).1.length ≤ 8 := by
  unfold patchV bodyV
  cases badF p with
  | some n => exact hc
  | none =>
    simp only
    split
    · exact hc
    · simp only; omega
theorem gone_loop {l : List Gd} {ad dr : List Gd} {cl cl2 : List Int} (hcl : cl.length ≤ 1000) {r : List Gd} {n n2 : Int} {x : Int} {s s2 : ByteArray} {r2 : List Gd} (g : Bool) :
    runL (kinfolkref09_Patch_L2_3_step l ad dr cl2 r n n2 cl ((cl.length : Nat) : Int) x s s2 r2) (g, 0) = some (g || decide (x ∈ cl)) := by
  have h := runL_iter (step := kinfolkref09_Patch_L2_3_step l ad dr cl2 r n n2 cl ((cl.length : Nat) : Int) x s s2 r2) (fun k => (g || decide (x ∈ cl.take k), (k : Int))) (z := (g || decide (x ∈ cl))) cl.length (fun k hk => by
    obtain ⟨y, hy⟩ := getS hk
    have hg : cl.getD k 0 = y := by rw [List.getD, hy]; rfl
    have ht : decide (x ∈ cl.take (k + 1)) = (decide (x ∈ cl.take k) || decide (x = y)) := by
      rw [take_s hy, Bool.eq_iff_iff]
      simp
    simp only [kinfolkref09_Patch_L2_3_step, ltT hk, le0, Int.toNat_natCast, hg, cond_true, Bool.and_self, iaddN (show k ≤ 9223372036854775806 by omega), ht]
    cases g
    · cases decide (x ∈ cl.take k) <;> rfl
    · rfl) (by simp only [kinfolkref09_Patch_L2_3_step, ltF_ (Nat.lt_irrefl _), List.take_length]; rfl)
  have e2 : (g || decide (x ∈ cl.take 0)) = g := by cases g <;> simp
  rw [e2] at h
  exact h
theorem rpatch_go {N : Nat} (hN : 1000 < N) {c p q : List Fd} {cl : List Int} (hc : c.length ≤ 100) (hp : p.length ≤ 100) (hq : q.length ≤ 1000) (hcl : cl.length ≤ 1000) (hs : ∀ x ∈ p, Small x) (hsc : ∀ x ∈ c, Small x) (hss : SS ltF c) :
    kinfolkref09_Patch N (c.map toR) (p.map toR) (q.map toR) cl = some ((patchV c p q cl).1.map toR, (patchV c p q cl).2) := by
  unfold kinfolkref09_Patch patchV
  have h := first_go (p := fun y : Gd => !(okF (match y with | .mk a b d => .mk a b d))) (s := p.map toR) (a := fun _ y => rightF (match y with | .mk a b d => .mk a b d)) (b := ()) (step := kinfolkref09_Patch_L0_step N (c.map toR) (p.map toR) (q.map toR) cl (p.map toR) (((List.map E_kinfolkref09_Field.pv (p.map toR))).length : Int)) (fun k y hy => by
    have hk := lt_of_get hy
    have hk2 : k ≤ 9223372036854775806 := by rw [List.length_map] at hk; omega
    obtain ⟨x, hx, rfl⟩ : ∃ x, x ∈ p ∧ toR x = y := List.mem_map.1 (mem_of_get hy)
    have hsx := hs x hx
    cases x with
    | mk a b d =>
      simp only [toR] at hy
      simp only [kinfolkref09_Patch_L0_step, glen_eq, ltT hk, le0, Int.toNat_natCast, hy, cond_true, Bool.and_self, Option.bind_some, rright_go hN hsx, iaddN hk2, toR]
      unfold okF
      by_cases h : rightF (.mk a b d) = 0
      · simp [h]
      · simp [h]) (by simp only [kinfolkref09_Patch_L0_step, glen_eq, ltF_ (Nat.lt_irrefl _)]; rfl)
  rcases h with ⟨i, y, h1, h2, h3, h4⟩ | ⟨h1, h2⟩
  · rw [h4]
    have hb : badF p = some (rightF (match y with | .mk a b d => .mk a b d)) := by
      rw [List.getElem?_map, Option.map_eq_some_iff] at h1
      obtain ⟨x, hx, rfl⟩ := h1
      have hf : p.find? (fun x => !(okF x)) = some x := find_of hx (by cases x; exact h2) fun j z hj hz => by
        have := h3 j (toR z) hj (by rw [List.getElem?_map, hz]; rfl)
        cases z; exact this
      unfold badF
      rw [hf]
      cases x; rfl
    rw [hb]; rfl
  · rw [h2]
    have hb : badF p = none := badF_none.2 fun x hx => by
      have := h1 (toR x) (List.mem_map_of_mem hx)
      cases x
      simpa [toR] using this
    rw [hb]
    simp only [Option.bind_some]
    have h5 := runL_iter (step := kinfolkref09_Patch_L1_2_step (c.map toR) (p.map toR) (q.map toR) cl (c.map toR) (((List.map E_kinfolkref09_Field.pv (c.map toR))).length : Int)) (fun k => ((k : Int), ((c.take k).filter (keepF q cl)).map toR)) (z := (c.filter (keepF q cl)).map toR) c.length (fun k hk => by
      obtain ⟨x, hx⟩ := getS hk
      have ht := take_s hx
      have hk' : k < (c.map toR).length := by rw [List.length_map]; exact hk
      have hx' : (c.map toR)[k]? = some (toR x) := by rw [List.getElem?_map, hx]; rfl
      have hfl : ((c.take k).filter (keepF q cl)).length ≤ (c.take k).length := List.length_filter_le _ _
      rw [List.length_take] at hfl
      rw [ht, List.filter_append]
      cases x with
      | mk a b d =>
        simp only [toR] at hx'
        have hf : fits (List.map E_kinfolkref09_Field.pv (((c.take k).filter (keepF q cl)).map toR) ++ ([[(.int .i64 a), (.str b), (.str d)]] : List (List PV))).length = true := fits_of (by simp; omega)
        simp only [kinfolkref09_Patch_L1_2_step, glen_eq, ltT hk', le0, Int.toNat_natCast, hx', cond_true, Bool.and_self, Option.bind_some, has_go hq, gone_loop hcl, iaddN (show k ≤ 9223372036854775806 by omega), hf]
        have hg : (decide (E_card_Field.mk a b d ∈ q) || decide (a ∈ cl)) = goneF q cl (.mk a b d) := Bool.or_comm _ _
        rw [hg]
        cases hgo : goneF q cl (.mk a b d) with
        | true =>
          have hk : ¬ keepF q cl (.mk a b d) = true := by unfold keepF; rw [hgo]; simp
          rw [List.filter_cons_of_neg hk, List.filter_nil, List.append_nil]; rfl
        | false =>
          have hk : keepF q cl (.mk a b d) = true := by unfold keepF; rw [hgo]; rfl
          rw [List.filter_cons_of_pos hk, List.filter_nil, List.map_append]; rfl) (by
      simp only [kinfolkref09_Patch_L1_2_step, glen_eq, List.length_map, ltF_ (Nat.lt_irrefl _), List.take_length]; rfl)
    have e : ((0 : Nat) : Int) = 0 := rfl
    simp only [List.take_zero, List.filter_nil, List.map_nil, e] at h5
    rw [h5]
    simp only [Option.bind_some, gtake_len]
    generalize hB : c.filter (keepF q cl) = B
    have hBs : SS ltF B := by rw [← hB]; exact SS_filter hss
    have hBl : B.length ≤ 100 := by have := List.length_filter_le (keepF q cl) c; rw [hB] at this; omega
    have hBm : ∀ x ∈ B, Small x := fun x hx => hsc x (by rw [← hB] at hx; exact (List.mem_filter.1 hx).1)
    have hps : ∀ k, ∀ x ∈ putsV B (p.take k), Small x := fun k x hx => by
      rcases (mem_putsV _ _).1 hx with h | h
      · exact hBm x h
      · exact hs x (List.mem_of_mem_take h)
    have hpl : ∀ k, (putsV B (p.take k)).length ≤ 1000 := fun k => by
      have := putsV_len (p.take k) B
      rw [List.length_take] at this
      omega
    let H : Nat → Unit ⊕ (List Gd × Int) := fun k => match k with | 0 => .inl () | k + 1 => .inr ((putsV B (p.take (k + 1))).map toR, ((k + 1 : Nat) : Int))
    have hit : ∀ k, k < p.length → kinfolkref09_Patch_L3_step (c.map toR) (p.map toR) (((List.map E_kinfolkref09_Field.pv (p.map toR))).length : Int) (B.map toR) (H k) = some (.inl (H (k + 1))) := fun k hk => by
      obtain ⟨x, hx⟩ := getS hk
      have hk' : k < (p.map toR).length := by rw [List.length_map]; exact hk
      have hx' : (p.map toR)[k]? = some (toR x) := by rw [List.getElem?_map, hx]; rfl
      have hsx := hs x (mem_of_get hx)
      have hsn := putsV_snoc B (p.take k) x
      rw [← take_s hx] at hsn
      cases x with
      | mk a b d =>
        simp only [toR] at hx'
        have hpg := put_go (hpl k) (hps k) hsx
        cases k with
        | zero =>
          have z0 : decide ((0 : Int) ≤ 0) = true := rfl
          have z1 : decide ((0 : Int) < ((p.map toR).length : Int)) = true := decide_eq_true (by omega)
          have hp0 : kinfolkref09_Put (B.map toR) a b d = some ((putV (putsV B (p.take 0)) (.mk a b d)).map toR) := hpg
          simp only [H, kinfolkref09_Patch_L3_step, glen_eq, z0, z1, hx', cond_true, Bool.and_self, Option.bind_some, gtake_len, hp0, hsn]
          rfl
        | succ k =>
          simp only [H, kinfolkref09_Patch_L3_step, glen_eq, ltT hk', le0, Int.toNat_natCast, hx', cond_true, Bool.and_self, Option.bind_some, hpg, hsn, iaddN (k := k + 1) (by omega)]
    have h0 : H 0 = .inl () := rfl
    have hE : putsV B p = madeF (B ++ p) := putsV_eq hBs
    have hEnd : ∀ m : List Fd, (bif decide ((8 : Int) < ((m.map toR).length : Int)) then some (c.map toR, (8 : Int)) else some (m.map toR, 0)) = some ((if 8 < m.length then (c, (8 : Int)) else (m, 0)).1.map toR, (if 8 < m.length then (c, (8 : Int)) else (m, 0)).2) := fun m => by
      rw [List.length_map]
      by_cases h8 : 8 < m.length
      · rw [if_pos h8, decide_eq_true (show (8 : Int) < (m.length : Int) by omega)]; rfl
      · rw [if_neg h8, decide_eq_false (show ¬ (8 : Int) < (m.length : Int) by omega)]; rfl
    have hbv : bodyV c p q cl = if 8 < (madeF (B ++ p)).length then (c, 8) else (madeF (B ++ p), 0) := by unfold bodyV; rw [hB]
    rw [hbv]
    cases hl0 : p.length with
    | zero =>
      have hnil : p = [] := List.length_eq_zero_iff.1 hl0
      have hr := runL_iter (step := kinfolkref09_Patch_L3_step (c.map toR) (p.map toR) (((List.map E_kinfolkref09_Field.pv (p.map toR))).length : Int) (B.map toR)) H (z := .inl ()) 0 (fun k hk => absurd hk (by omega)) (by
        rw [hnil]
        simp only [h0, kinfolkref09_Patch_L3_step]; rfl)
      rw [h0] at hr
      rw [hr]
      simp only [Option.bind_some, glen_eq]
      have hBB : madeF (B ++ p) = B := by rw [hnil, List.append_nil]; exact madeF_self hBs
      rw [hEnd, hBB]
    | succ n =>
      have hH : H p.length = .inr ((putsV B p).map toR, (p.length : Int)) := by rw [hl0]; simp only [H]; rw [← hl0, List.take_length]
      have hr := runL_iter (step := kinfolkref09_Patch_L3_step (c.map toR) (p.map toR) (((List.map E_kinfolkref09_Field.pv (p.map toR))).length : Int) (B.map toR)) H (z := .inr ((putsV B p).map toR)) p.length hit (by
        rw [hH]
        simp only [kinfolkref09_Patch_L3_step, glen_eq, List.length_map, ltF_ (Nat.lt_irrefl _)]; rfl)
      rw [h0] at hr
      rw [hr, hE]
      simp only [Option.bind_some, glen_eq]
      rw [hEnd]
def lessV (a b : List Fd) : List Fd := a.filter fun x => !(inF b x)
theorem less_go {a b : List Fd} (ha : a.length ≤ 1000) (hb : b.length ≤ 1000) : card_less a b = some (lessV a b) := by
  unfold card_less
  obtain ⟨z, h1, h2⟩ := delete_go_3 (c := a) (q := b) ha hb
  rw [fields_go ha, Option.bind_some, h1, Option.bind_some]
  cases z with
  | inl _ => have h3 : lessV a b = a := h2; simp only [take_len, h3]
  | inr z =>
    obtain ⟨k, r⟩ := z
    have h3 : r.take k = lessV a b := h2.2
    simp only [h3]
theorem rless2_go {a b : List Fd} (ha : a.length ≤ 1000) (hb : b.length ≤ 1000) : kinfolkref09_Less2 (a.map toR) (b.map toR) = some ((lessV a b).map toR) := by
  unfold kinfolkref09_Less2
  have h := runL_iter (step := kinfolkref09_Less2_L0_2_step (b.map toR) (a.map toR) (((List.map E_kinfolkref09_Field.pv (a.map toR))).length : Int)) (fun k => ((k : Int), (lessV (a.take k) b).map toR)) (z := (lessV a b).map toR) a.length (fun k hk => by
    obtain ⟨x, hx⟩ := getS hk
    have ht := take_s hx
    have hk' : k < (a.map toR).length := by rw [List.length_map]; exact hk
    have hx' : (a.map toR)[k]? = some (toR x) := by rw [List.getElem?_map, hx]; rfl
    have hfl : (lessV (a.take k) b).length ≤ (a.take k).length := List.length_filter_le _ _
    rw [List.length_take] at hfl
    have hap : lessV (a.take k ++ [x]) b = lessV (a.take k) b ++ lessV [x] b := List.filter_append _ _
    rw [ht, hap]
    cases x with
    | mk d e f =>
      simp only [toR] at hx'
      have hf : fits (List.map E_kinfolkref09_Field.pv ((lessV (a.take k) b).map toR) ++ ([[(.int .i64 d), (.str e), (.str f)]] : List (List PV))).length = true := fits_of (by simp; omega)
      simp only [kinfolkref09_Less2_L0_2_step, glen_eq, ltT hk', le0, Int.toNat_natCast, hx', cond_true, Bool.and_self, Option.bind_some, has_go hb, iaddN (show k ≤ 9223372036854775806 by omega), hf]
      by_cases hm : E_card_Field.mk d e f ∈ b
      · have hn : lessV [E_card_Field.mk d e f] b = [] := by simp [lessV, inF, hm]
        rw [decide_eq_true hm, hn, List.append_nil]; rfl
      · have hn : lessV [E_card_Field.mk d e f] b = [E_card_Field.mk d e f] := by simp [lessV, inF, hm]
        rw [decide_eq_false hm, hn, List.map_append]; rfl) (by
    simp only [kinfolkref09_Less2_L0_2_step, glen_eq, List.length_map, ltF_ (Nat.lt_irrefl _), List.take_length]; rfl)
  have e : ((0 : Nat) : Int) = 0 := rfl
  have e2 : lessV ([] : List Fd) b = [] := rfl
  simp only [List.take_zero, e, e2, List.map_nil] at h
  rw [h]; rfl
theorem lessV_len (a b : List Fd) : (lessV a b).length ≤ a.length := List.length_filter_le _ _
theorem mem_lessV {a b : List Fd} {x : Fd} : x ∈ lessV a b ↔ x ∈ a ∧ ¬ x ∈ b := by
  unfold lessV inF
  rw [List.mem_filter]
  simp
theorem mem_keep {c q : List Fd} {cl : List Int} {x : Fd} : x ∈ c.filter (keepF q cl) ↔ x ∈ c ∧ ¬ kindOf x ∈ cl ∧ ¬ x ∈ q := by
  unfold keepF goneF
  rw [List.mem_filter]
  simp

/-! ### The laws -/
theorem cardPatches_true {N : Nat} (hN : 1000 < N) {l adds drops : List Fd} {clear : List Int} (h1 : l.length ≤ 9223372036854775807) (h2 : adds.length ≤ 9223372036854775807) (h3 : drops.length ≤ 9223372036854775807) (h4 : clear.length ≤ 9223372036854775807) : kinfolklaw09_CardPatches N l adds drops clear = some true := by
  unfold kinfolklaw09_CardPatches
  have hc := cardV_is l
  have hcl := hc.few
  have hfa := fewV_len adds
  have hfd := fewV_len drops
  have hsa : ∀ x ∈ fewV adds, Small x := fun x hx => (fewV_short adds x hx).small
  have hsc : ∀ x ∈ cardV l, Small x := fun x hx => (hc.short x hx).small
  have e6 : ((if 6 < (clear.length : Int) then 6 else (clear.length : Int)) - 0).toNat ≤ 6 := by split <;> omega
  have hb1 : (0 : Int) ≤ (if 6 < (clear.length : Int) then 6 else (clear.length : Int)) ∧ (if 6 < (clear.length : Int) then 6 else (clear.length : Int)) ≤ (clear.length : Int) := by split <;> omega
  generalize (if 6 < (clear.length : Int) then (6 : Int) else (clear.length : Int)) = m6 at *
  have hcl6 : (List.take (m6 - 0).toNat clear).length ≤ 1000 := by rw [List.length_take]; omega
  have hclone : slices_Clone_int (List.take (m6 - 0).toNat clear) = some () := by
    unfold slices_Clone_int
    rw [if_pos (fits_of (by omega))]
  have z0 : decide ((0 : Int) ≤ 0) = true := rfl
  have hpl := patchV_len (c := cardV l) (p := fewV adds) (q := fewV drops) (cl := List.take (m6 - 0).toNat clear) hcl
  simp only [awake_go, Option.bind_some, cond_true, made2_go hN h1, decide_eq_true hb1.1, decide_eq_true hb1.2, z0, decide_true, Bool.and_self, few_go h2, few_go h3, hclone, take_len, gtake_len]
  rw [patch_go (by omega) (by omega) (by omega) hcl6 hsa]
  simp only [Option.bind_some]
  rw [own_go (l := fewV adds) (by omega), own_go (l := fewV drops) (by omega)]
  simp only [Option.bind_some, gtake_len]
  rw [rpatch_go hN (by omega) (by omega) (by omega) hcl6 hsa hsc hc.ss]
  simp only [Option.bind_some, decide_true, cond_true]
  rw [fields_go (by omega), own_go (by omega)]
  simp only [Option.bind_some, gtake_len]
  rw [rsame_go (by rw [List.length_map]; omega), fields_go (by omega), own_go (by omega)]
  simp only [Option.bind_some, gtake_len, decide_true, cond_true]
  rw [rsame_go (by rw [List.length_map]; omega)]
  simp
theorem patch_to {r r3 : List Fd} (h : IsCard r) (h3 : IsCard r3) : patchV r (lessV r3 r) (lessV r r3) [] = (r3, 0) := by
  have hb : badF (lessV r3 r) = none := badF_none.2 fun x hx => h3.ok x (mem_lessV.1 hx).1
  unfold patchV
  rw [hb]
  simp only
  have hm : madeF (r.filter (keepF (lessV r r3) []) ++ lessV r3 r) = r3 := madeF_of h3.ss fun x => by
    rw [List.mem_append, mem_keep, mem_lessV, mem_lessV]
    by_cases h1 : x ∈ r <;> by_cases h2 : x ∈ r3 <;> simp [h1, h2]
  unfold bodyV
  rw [hm, if_neg (by have := h3.few; omega)]
theorem cardDiffs_true {N : Nat} (hN : 1000 < N) {l m : List Fd} (h1 : l.length ≤ 9223372036854775807) (h2 : m.length ≤ 9223372036854775807) : kinfolklaw09_CardDiffs N l m = some true := by
  unfold kinfolklaw09_CardDiffs
  have hc := cardV_is l
  have hd := cardV_is m
  simp only [awake_go, Option.bind_some, cond_true, made2_go hN h1, made2_go hN h2]
  generalize cardV l = r at *
  generalize cardV m = r3 at *
  have hcl := hc.few
  have hdl := hd.few
  have e1 := lessV_len r r3
  have e2 := lessV_len r3 r
  have hs : ∀ x ∈ lessV r3 r, Small x := fun x hx => (hd.short x (mem_lessV.1 hx).1).small
  have hdiff : card_Diff r r3 = some (lessV r3 r, lessV r r3) := by
    unfold card_Diff
    rw [less_go (by omega) (by omega), less_go (by omega) (by omega)]; rfl
  rw [hdiff]
  simp only [Option.bind_some]
  rw [patch_go (by omega) (by omega) (by omega) (by simp) hs, patch_to hc hd]
  simp only [Option.bind_some, decide_true, cond_true]
  rw [csame_go (by omega)]
  simp only [Option.bind_some, decide_true, cond_true]
  rw [own_go (by omega), rless2_go (by omega) (by omega)]
  simp only [Option.bind_some, gtake_len]
  rw [rsame_go (by rw [List.length_map]; omega)]
  simp only [Option.bind_some, decide_true, cond_true]
  rw [own_go (by omega), rless2_go (by omega) (by omega)]
  simp only [Option.bind_some, gtake_len]
  rw [rsame_go (by rw [List.length_map]; omega)]
  simp only [Option.bind_some, decide_true, cond_true]
  rw [csame_go (by omega)]
  simp only [Option.bind_some, len_eq]
  rw [iadd2 (by omega) (by omega)]
  have key : ((lessV r3 r).length + (lessV r r3).length = 0) ↔ r = r3 := by
    constructor
    · intro h
      have n1 : lessV r3 r = [] := List.length_eq_zero_iff.1 (by omega)
      have n2 : lessV r r3 = [] := List.length_eq_zero_iff.1 (by omega)
      refine SS.uniq ltF_tot hc.ss hd.ss fun x => ⟨fun hx => ?_, fun hx => ?_⟩
      · rcases Classical.em (x ∈ r3) with h | h
        · exact h
        · have := mem_lessV.2 ⟨hx, h⟩; rw [n2] at this; cases this
      · rcases Classical.em (x ∈ r) with h | h
        · exact h
        · have := mem_lessV.2 ⟨hx, h⟩; rw [n1] at this; cases this
    · intro h
      subst h
      have : lessV r r = [] := List.filter_eq_nil_iff.2 fun x hx => by simp [inF, hx]
      rw [this]; rfl
  by_cases h : r = r3
  · rw [decide_eq_true h, decide_eq_true (show (((lessV r3 r).length + (lessV r r3).length : Nat) : Int) = 0 by have := key.2 h; omega)]; rfl
  · rw [decide_eq_false h, decide_eq_false (show ¬ (((lessV r3 r).length + (lessV r r3).length : Nat) : Int) = 0 by
      intro hh; exact h (key.1 (by omega)))]; rfl
theorem patch_self {r : List Fd} (h : IsCard r) : patchV r r [] [] = (r, 0) := by
  have hb : badF r = none := badF_none.2 h.ok
  unfold patchV
  rw [hb]
  simp only
  have hm : madeF (r.filter (keepF [] []) ++ r) = r := madeF_of h.ss fun x => by
    rw [List.mem_append, mem_keep]
    simp
  unfold bodyV
  rw [hm, if_neg (by have := h.few; omega)]
theorem merge_facts {r : List Fd} (hc : IsCard r) {X Y : Fd} (hab : ¬ X = Y) (hra : rightF X = 0) (hA : Short X) : ∃ m0 m6 : List Fd, m0.length ≤ 8 ∧ card_Card_Patch r [] [Y] [] = some (m0, 0) ∧
    card_Card_Patch m0 [X] [] [] = some (if 8 < m6.length then (m0, 8) else (m6, 0)) ∧ card_Card_Patch r [X] [Y] [] = some (if 8 < m6.length then (r, 8) else (m6, 0)) ∧ X ∈ m6 ∧ ¬ Y ∈ m6 := by
  have hcl := hc.few
  have hbX : badF [X] = none := badF_none.2 fun x hx => by
    have : x = X := by simpa using hx
    rw [this]; unfold okF; exact decide_eq_true hra
  have hb0 : badF [] = none := badF_none.2 fun x hx => (by cases hx)
  have hsX : ∀ x ∈ [X], Small x := fun x hx => by
    have : x = X := by simpa using hx
    rw [this]; exact hA.small
  generalize hm0 : madeF (r.filter (keepF [Y] []) ++ []) = m0
  have hl0 : m0.length ≤ 8 := by
    rw [← hm0]
    have := madeF_len (r.filter (keepF [Y] []) ++ [])
    rw [List.append_nil] at this ⊢
    have := List.length_filter_le (keepF [Y] []) r
    omega
  have hp1 : patchV r [] [Y] [] = (m0, 0) := by
    unfold patchV bodyV
    rw [hb0]
    simp only
    rw [hm0, if_neg (by omega)]
  have hmem0 : ∀ x, x ∈ m0 ↔ x ∈ r ∧ x ≠ Y := fun x => by
    rw [← hm0, mem_madeF, List.append_nil, mem_keep]
    simp
  generalize hm6 : madeF (r.filter (keepF [Y] []) ++ [X]) = m6
  have hmem6 : ∀ x, x ∈ m6 ↔ (x ∈ r ∧ x ≠ Y) ∨ x = X := fun x => by
    rw [← hm6, mem_madeF, List.mem_append, mem_keep]
    simp
  have hss6 : SS ltF m6 := by rw [← hm6]; exact madeF_ss _
  have hm5 : madeF (m0.filter (keepF [] []) ++ [X]) = m6 := madeF_of hss6 fun x => by
    rw [List.mem_append, mem_keep, hmem0, hmem6]
    simp
  have hp2 : patchV m0 [X] [] [] = if 8 < m6.length then (m0, 8) else (m6, 0) := by
    unfold patchV bodyV
    rw [hbX]
    simp only
    rw [hm5]
  have hp3 : patchV r [X] [Y] [] = if 8 < m6.length then (r, 8) else (m6, 0) := by
    unfold patchV bodyV
    rw [hbX]
    simp only
    rw [hm6]
  refine ⟨m0, m6, hl0, ?_, ?_, ?_, (hmem6 X).2 (.inr rfl), fun h => ?_⟩
  · rw [patch_go (by omega) (by simp) (by simp) (by simp) (by simp), hp1]
  · rw [patch_go (by omega) (by simp) (by simp) (by simp) hsX, hp2]
  · rw [patch_go (by omega) (by simp) (by simp) (by simp) hsX, hp3]
  · rcases (hmem6 Y).1 h with h | h
    · exact h.2 rfl
    · exact hab h.symm
theorem few2 (x y : Fd) : kinfolklaw09_few [x, y] = some [cutF x, cutF y] := few_go (l := [x, y]) (by simp)
theorem cardMerges_true {N : Nat} (hN : 1000 < N) {l : List Fd} (h1 : l.length ≤ 9223372036854775807) (a : Int) (a2 a3 : ByteArray) (b : Int) (b2 b3 : ByteArray) : kinfolklaw09_CardMerges N l a a2 a3 b b2 b3 = some true := by
  unfold kinfolklaw09_CardMerges
  have hc := cardV_is l
  rw [awake_go, made2_go hN h1, few2]
  have hA : Short (.mk a (cutS a2) (cutS a3)) := cutF_short (.mk a a2 a3)
  have hB : Short (.mk b (cutS b2) (cutS b3)) := cutF_short (.mk b b2 b3)
  rw [cutF, cutF]
  generalize cutS a2 = a2' at *
  generalize cutS a3 = a3' at *
  generalize cutS b2 = b2' at *
  generalize cutS b3 = b3' at *
  generalize cardV l = r at *
  have hcl := hc.few
  have z0 : decide ((0 : Int) ≤ 0) = true := decide_eq_true (by omega)
  have z1 : decide ((0 : Int) ≤ 1) = true := decide_eq_true (by omega)
  have z2 : ∀ x y : Fd, decide ((0 : Int) < (([x, y] : List Fd).length : Int)) = true := fun x y => decide_eq_true (by simp)
  have z3 : ∀ x y : Fd, decide ((1 : Int) < (([x, y] : List Fd).length : Int)) = true := fun x y => decide_eq_true (by simp)
  have g0 : ∀ x y : Fd, ([x, y] : List Fd)[0]? = some x := fun _ _ => by simp
  have g1 : ∀ x y : Fd, ([x, y] : List Fd)[1]? = some y := fun _ _ => by simp
  simp only [Option.bind_some, cond_true]
  simp only [len_eq, z0, z1, z2, z3, Bool.and_self, cond_true, g0, g1, Option.bind_some]
  rw [right_go hA.small, right_go hB.small, eqd]
  simp only [Option.bind_some]
  by_cases hra : rightF (.mk a a2' a3') = 0
  · rw [decide_eq_true hra, cond_true]
    by_cases hrb : rightF (.mk b b2' b3') = 0
    · rw [decide_eq_true hrb, cond_true]
      by_cases hab : E_card_Field.mk a a2' a3' = .mk b b2' b3'
      · rw [decide_eq_true hab, cond_true]
      · rw [decide_eq_false hab, cond_false]
        obtain ⟨m0, m6, hl0, f1, f2, f3, f4, f5⟩ := merge_facts hc hab hra hA
        rw [f1]
        simp only [Option.bind_some]
        rw [f2, f3]
        have hself : card_Card_Patch r r [] [] = some (r, 0) := by
          rw [patch_go (by omega) (by omega) (by simp) (by simp) (fun x hx => (hc.short x hx).small), patch_self hc]
        by_cases h8 : 8 < m6.length
        · rw [if_pos h8, if_pos h8]
          have d8 : decide ((8 : Int) = 0) = false := decide_eq_false (by omega)
          simp only [Option.bind_some, decide_true, cond_true, cond_false, d8]
          rw [fields_go (by omega)]
          simp only [Option.bind_some, take_len]
          rw [hself]
          simp only [Option.bind_some, decide_true, cond_true]
          rw [csame_go (by omega)]
          simp only [Option.bind_some, decide_true, cond_true]
        · rw [if_neg h8, if_neg h8]
          simp only [Option.bind_some, decide_true, cond_true]
          rw [csame_go (by omega), fields_go (l := r) (by omega)]
          simp only [Option.bind_some, decide_true, cond_true, take_len]
          rw [hself]
          simp only [Option.bind_some, decide_true, cond_true]
          rw [csame_go (by omega), fields_go (l := m6) (by omega)]
          simp only [Option.bind_some, decide_true, cond_true]
          rw [fcontains_go (by omega), fcontains_go (by omega)]
          rw [decide_eq_true f4, decide_eq_false f5]
          simp only [Option.bind_some, cond_true, Bool.not_false]
    · rw [decide_eq_false hrb, cond_false]
  · rw [decide_eq_false hra, cond_false]
end Go.Proofs.YteiikkpajcggfaaGreatDoor
