/- Cards that are made, what they tell, their order. Plain. -/
import Derived.Test.YteiikkpajcggfaaDoorCT4
set_option linter.unusedVariables false
set_option linter.unusedSimpArgs false
namespace Go.Proofs.YteiikkpajcggfaaDoor
open Go.Ev Go.Lib

theorem cardMakes_true {N : Nat} (hN : 1000 < N) {l : List Fd} (h1 : l.length ≤ 9223372036854775807) : kinfolklaw09_CardMakes N l = some true := by
  unfold kinfolklaw09_CardMakes
  have hl := fewV_len l
  have hs := fewV_short l
  have hsm : ∀ x ∈ fewV l, Small x := fun x hx => (hs x hx).small
  rw [awake_go, few_go h1]
  simp only [Option.bind_some, cond_true, take_len]
  rw [few_go (by omega), fewV_id hl hs]
  generalize fewV l = r at *
  have hm : (makeV r).1.length ≤ 1000 := by
    unfold makeV
    cases badF r with
    | some n => simp
    | none =>
      simp only
      split
      · simp
      · simp only; omega
  simp only [Option.bind_some, take_len]
  rw [make_go (by omega) hsm, own_go (by omega)]
  simp only [Option.bind_some, gtake_len]
  rw [rmake_go hN (by omega) hsm]
  simp only [Option.bind_some, decide_true, cond_true]
  rw [fields_go hm, own_go hm]
  simp only [Option.bind_some, gtake_len]
  rw [rsame_go (by rw [List.length_map]; exact hm)]
  simp only [Option.bind_some, decide_true, cond_true, clen_go, glen_eq, List.length_map]
  rw [equal_go (by omega)]
  simp only [Option.bind_some, decide_true, cond_true]
  have h := runL_iter (step := kinfolklaw09_CardMakes_L0_step N r ((r.length : Nat) : Int)) (fun k => (k : Int)) (z := .inr ()) r.length (fun k hk => by
    obtain ⟨x, hx⟩ := getS hk
    have hsx := hsm x (mem_of_get hx)
    cases x with
    | mk a b c =>
      simp only [kinfolklaw09_CardMakes_L0_step, len_eq, ltT hk, le0, Int.toNat_natCast, hx, cond_true, Bool.and_self, Option.bind_some, right_go hsx, rright_go hN hsx, decide_true, iaddN (show k ≤ 9223372036854775806 by omega)]) (by
    simp only [kinfolklaw09_CardMakes_L0_step, ltF_ (Nat.lt_irrefl _)]; rfl)
  have e : ((0 : Nat) : Int) = 0 := rfl
  simp only [e] at h
  rw [show (List.take r.length (List.map E_card_Field.pv r)).length = r.length by rw [List.length_take, List.length_map, Nat.min_self], h]
  rfl

/-! ### What a card tells -/
theorem val_ne {x : Fd} (h : okF x = true) : valOf x ≠ (⟨#[]⟩ : ByteArray) := by
  cases x with
  | mk a b c =>
    intro e
    have hc : c = (⟨#[]⟩ : ByteArray) := e
    subst hc
    have h0 : rightL a b.data.toList [] = 0 := of_decide_eq_true h
    have h1 := chkC_ne b.data.toList 12
    unfold rightL at h0
    split at h0
    · cases h0
    · split at h0
      · split at h0
        · rw [if_pos rfl] at h0; cases h0
        · rename_i hh; exact hh h0
      · rename_i hh; exact hh h0
theorem first_go' {kind : Int} {c : List Fd} {y : List Gd} {r r3 : List Fd} (hl : c.length ≤ 1000) (hok : ∀ x ∈ c, okF x = true) :
    runL (kinfolklaw09_CardTells_L0_2_step kind (c.map toR) y (c.map toR) (((List.map E_kinfolkref09_Field.pv (c.map toR))).length : Int) r r3) ((⟨#[]⟩ : ByteArray), 0, []) = some ((headV c).getD ⟨#[]⟩, (ofV c kind).map toR) := by
  have h := runL_iter (step := kinfolklaw09_CardTells_L0_2_step kind (c.map toR) y (c.map toR) (((List.map E_kinfolkref09_Field.pv (c.map toR))).length : Int) r r3) (fun k => ((headV (c.take k)).getD (⟨#[]⟩ : ByteArray), (k : Int), (ofV (c.take k) kind).map toR)) (z := ((headV c).getD ⟨#[]⟩, (ofV c kind).map toR)) c.length (fun k hk => by
    obtain ⟨x, hx⟩ := getS hk
    have ht := take_s hx
    have hk' : k < (c.map toR).length := by rw [List.length_map]; exact hk
    have hx' : (c.map toR)[k]? = some (toR x) := by rw [List.getElem?_map, hx]; rfl
    have hox := hok x (mem_of_get hx)
    have hfl : (ofV (c.take k) kind).length ≤ (c.take k).length := List.length_filter_le _ _
    rw [List.length_take] at hfl
    have hap : ofV (c.take k ++ [x]) kind = ofV (c.take k) kind ++ ofV [x] kind := List.filter_append _ _
    have hh : (headV (c.take k ++ [x])).getD (⟨#[]⟩ : ByteArray) = (bif decide ((headV (c.take k)).getD (⟨#[]⟩ : ByteArray) = (⟨#[]⟩ : ByteArray)) then valOf x else (headV (c.take k)).getD (⟨#[]⟩ : ByteArray)) := by
      cases hc : c.take k with
      | nil => rfl
      | cons z m =>
        have hz : okF z = true := hok z (List.mem_of_mem_take (by rw [hc]; simp))
        have hne : ¬ (headV (z :: m)).getD (⟨#[]⟩ : ByteArray) = (⟨#[]⟩ : ByteArray) := val_ne hz
        rw [decide_eq_false hne]; rfl
    rw [ht, hap, hh]
    cases x with
    | mk d e f =>
      simp only [toR] at hx'
      have hf : fits (List.map E_kinfolkref09_Field.pv ((ofV (c.take k) kind).map toR) ++ ([[(.int .i64 d), (.str e), (.str f)]] : List (List PV))).length = true := fits_of (by simp; omega)
      simp only [kinfolklaw09_CardTells_L0_2_step, glen_eq, ltT hk', le0, Int.toNat_natCast, hx', cond_true, Bool.and_self, Option.bind_some, iaddN (show k ≤ 9223372036854775806 by omega), hf]
      by_cases hkd : d = kind
      · have hn : ofV [E_card_Field.mk d e f] kind = [E_card_Field.mk d e f] := by simp [ofV, kindOf, hkd]
        rw [decide_eq_true hkd, hn, List.map_append, cond_true]
        cases decide ((headV (c.take k)).getD (⟨#[]⟩ : ByteArray) = (⟨#[]⟩ : ByteArray)) <;> rfl
      · have hn : ofV [E_card_Field.mk d e f] kind = [] := by simp [ofV, kindOf, hkd]
        rw [decide_eq_false hkd, hn, List.append_nil, cond_false]
        cases decide ((headV (c.take k)).getD (⟨#[]⟩ : ByteArray) = (⟨#[]⟩ : ByteArray)) <;> rfl) (by
    simp only [kinfolklaw09_CardTells_L0_2_step, glen_eq, List.length_map, ltF_ (Nat.lt_irrefl _), List.take_length]; rfl)
  have e : ((0 : Nat) : Int) = 0 := rfl
  have e2 : ofV ([] : List Fd) kind = [] := rfl
  simp only [List.take_zero, e, e2, List.map_nil] at h
  exact h
theorem isub_any {n : Nat} (h : n < 9223372036854775807) : isub .i64 (n : Int) 1 = (n : Int) - 1 := isub_1 (by omega) (by omega)
theorem back_go {kind : Int} {c : List Fd} {y : List Gd} {r r3 : List Fd} {r5 : List Gd} (hl : c.length ≤ 1000) (s : ByteArray) :
    runL (kinfolklaw09_CardTells_L1_step kind (c.map toR) y r r3 r5) (s, (isub .i64 (((List.map E_kinfolkref09_Field.pv (c.map toR))).length : Int) 1)) = some ((headV (ofV c 1)).getD s) := by
  have h := runL_iter (step := kinfolklaw09_CardTells_L1_step kind (c.map toR) y r r3 r5) (fun j => ((headV (ofV (c.drop (c.length - j)) 1)).getD s, ((c.length : Int) - 1 - (j : Int)))) (z := (headV (ofV c 1)).getD s) c.length (fun j hj => by
    have hk : c.length - (j + 1) < c.length := by omega
    obtain ⟨x, hx⟩ := getS (l := c) (k := c.length - (j + 1)) hk
    have hd : c.drop (c.length - (j + 1)) = x :: c.drop (c.length - j) := by
      have h1 := List.drop_eq_getElem_cons hk
      rw [List.getElem?_eq_getElem hk] at hx
      rw [h1, Option.some.inj hx, show c.length - (j + 1) + 1 = c.length - j by omega]
    have hi : (c.length : Int) - 1 - (j : Int) = ((c.length - (j + 1) : Nat) : Int) := by omega
    have hk' : c.length - (j + 1) < (c.map toR).length := by rw [List.length_map]; exact hk
    have hx' : (c.map toR)[c.length - (j + 1)]? = some (toR x) := by rw [List.getElem?_map, hx]; rfl
    have hs1 : isub .i64 ((c.length - (j + 1) : Nat) : Int) 1 = (c.length : Int) - 1 - ((j + 1 : Nat) : Int) := by rw [isub_any (by omega)]; omega
    rw [hi, hd]
    cases x with
    | mk d e f =>
      simp only [toR] at hx'
      simp only [kinfolklaw09_CardTells_L1_step, glen_eq, ltT hk', le0, Int.toNat_natCast, hx', cond_true, Bool.and_self, Option.bind_some, hs1]
      by_cases hkd : d = 1
      · have hn : ofV (E_card_Field.mk d e f :: c.drop (c.length - j)) 1 = E_card_Field.mk d e f :: ofV (c.drop (c.length - j)) 1 := by
          unfold ofV; rw [List.filter_cons_of_pos (by simp [kindOf, hkd])]
        rw [decide_eq_true hkd, hn]; rfl
      · have hn : ofV (E_card_Field.mk d e f :: c.drop (c.length - j)) 1 = ofV (c.drop (c.length - j)) 1 := by
          unfold ofV; rw [List.filter_cons_of_neg (by simp [kindOf, hkd])]
        rw [decide_eq_false hkd, hn]; rfl) (by
    have hz : ¬ (0 : Int) ≤ (c.length : Int) - 1 - (c.length : Int) := by omega
    simp only [kinfolklaw09_CardTells_L1_step, decide_eq_false hz, Nat.sub_self, List.drop_zero]; rfl)
  have e2 : ofV ([] : List Fd) 1 = [] := rfl
  have e3 : (c.length : Int) - 1 - ((0 : Nat) : Int) = isub .i64 (((List.map E_kinfolkref09_Field.pv (c.map toR))).length : Int) 1 := by
    rw [glen_eq, List.length_map, isub_any (by omega)]; omega
  simp only [Nat.sub_zero, List.drop_length, e2, e3] at h
  exact h
theorem kind_list {kind : Int} (h0 : 0 < kind) (h7 : kind < 7) : ([(E_string.mk (⟨#[]⟩ : ByteArray)), (E_string.mk (⟨#[110, 97, 109, 101]⟩ : ByteArray)), (E_string.mk (⟨#[112, 104, 111, 110, 101]⟩ : ByteArray)), (E_string.mk (⟨#[109, 97, 105, 108]⟩ : ByteArray)), (E_string.mk (⟨#[97, 100, 100, 114, 101, 115, 115]⟩ : ByteArray)), (E_string.mk (⟨#[110, 111, 116, 101]⟩ : ByteArray)), (E_string.mk (⟨#[103, 114, 111, 117, 112]⟩ : ByteArray))] : List E_string)[(0 + (kind).toNat)]? = some (.mk (kindNm kind)) := by
  have : kind = 1 ∨ kind = 2 ∨ kind = 3 ∨ kind = 4 ∨ kind = 5 ∨ kind = 6 := by omega
  rcases this with rfl | rfl | rfl | rfl | rfl | rfl <;> rfl
theorem kind_none {kind : Int} (h : ¬ (0 < kind ∧ kind < 7)) : kindNm kind = (⟨#[]⟩ : ByteArray) := by
  have := kind_nil kind
  rw [decide_eq_true (show kind < 1 ∨ 6 < kind by omega)] at this
  exact of_decide_eq_true this
theorem ofV_len (c : List Fd) (n : Int) : (ofV c n).length ≤ c.length := List.length_filter_le _ _
theorem titleV_eq (c : List Fd) : titleV c = (headV (ofV c 1)).getD ((headV c).getD ⟨#[]⟩) := by
  unfold titleV
  cases headV (ofV c 1) <;> rfl
theorem cardTells_true {N : Nat} (hN : 1000 < N) {l m : List Fd} (h1 : l.length ≤ 9223372036854775807) (h2 : m.length ≤ 9223372036854775807) (kind : Int) (same : Bool) : kinfolklaw09_CardTells N l m kind same = some true := by
  unfold kinfolklaw09_CardTells
  have hc := cardV_is l
  have hd := cardV_is m
  rw [awake_go, made2_go hN h1, made2_go hN h2]
  generalize cardV l = r at *
  generalize cardV m = r3 at *
  have hcl := hc.few
  have hdl := hd.few
  have hol := ofV_len r kind
  have hrs : ∀ a : List Fd, a.length ≤ 8 → kinfolkref09_Same (a.map toR) (a.map toR) = some true := fun a ha => by rw [rsame_go (by rw [List.length_map]; omega)]; simp
  have hcs : card_Same r r = some true := by rw [csame_go (by omega)]; simp
  have hs3 : card_Same r r3 = some (decide (r = r3)) := csame_go (by omega)
  have hr3 : kinfolkref09_Same (r.map toR) (r3.map toR) = some (decide (r = r3)) := by
    rw [rsame_go (by rw [List.length_map]; omega)]
    congr 1
    exact decide_eq_decide.2 map_toR
  have hOf : card_Card_Of r kind = some (ofV r kind) := of_go (by omega) kind
  have hOwn : kinfolklaw09_own (ofV r kind) = some ((ofV r kind).map toR) := own_go (by omega)
  have hTi : card_Card_Title r = some (titleV r) := title_go (by omega)
  have hKN : card_KindName kind = some (kindNm kind) := rfl
  have hF := hrs (ofV r kind) (by omega)
  have hF2 := hrs r hcl
  simp only [Option.bind_some, cond_true]
  cases same with
  | true =>
    rw [cond_true, first_go' (by omega) hc.ok]
    simp only [Option.bind_some]
    rw [back_go (by omega), ← titleV_eq]
    simp only [Option.bind_some]
    by_cases hk0 : (0 : Int) < kind
    · by_cases hk7 : kind < 7
      · rw [decide_eq_true hk0, decide_eq_true hk7, decide_eq_true (show (0 : Int) ≤ kind by omega), kind_list hk0 hk7]
        simp only [cond_true, Bool.and_self, Option.bind_some, hOf, hOwn, gtake_len, hF, hTi, hKN, decide_true, hcs, hF2]
        rfl
      · have hn := kind_none (show ¬ (0 < kind ∧ kind < 7) by omega)
        rw [decide_eq_true hk0, decide_eq_false hk7]
        simp only [cond_true, cond_false, Bool.and_self, Option.bind_some, hOf, hOwn, gtake_len, hF, hTi, hKN, hn, decide_true, hcs, hF2]
        rfl
    · have hn := kind_none (show ¬ (0 < kind ∧ kind < 7) by omega)
      rw [decide_eq_false hk0]
      simp only [cond_true, cond_false, Bool.and_self, Option.bind_some, hOf, hOwn, gtake_len, hF, hTi, hKN, hn, decide_true, hcs, hF2]
      rfl
  | false =>
    rw [cond_false, first_go' (by omega) hc.ok]
    simp only [Option.bind_some]
    rw [back_go (by omega), ← titleV_eq]
    simp only [Option.bind_some]
    by_cases hk0 : (0 : Int) < kind
    · by_cases hk7 : kind < 7
      · rw [decide_eq_true hk0, decide_eq_true hk7, decide_eq_true (show (0 : Int) ≤ kind by omega), kind_list hk0 hk7]
        simp only [cond_true, Bool.and_self, Option.bind_some, hOf, hOwn, gtake_len, hF, hTi, hKN, decide_true, hcs, hs3, hr3, beq_self_eq_true]
      · have hn := kind_none (show ¬ (0 < kind ∧ kind < 7) by omega)
        rw [decide_eq_true hk0, decide_eq_false hk7]
        simp only [cond_true, cond_false, Bool.and_self, Option.bind_some, hOf, hOwn, gtake_len, hF, hTi, hKN, hn, decide_true, hcs, hs3, hr3, beq_self_eq_true]
    · have hn := kind_none (show ¬ (0 < kind ∧ kind < 7) by omega)
      rw [decide_eq_false hk0]
      simp only [cond_true, cond_false, Bool.and_self, Option.bind_some, hOf, hOwn, gtake_len, hF, hTi, hKN, hn, decide_true, hcs, hs3, hr3, beq_self_eq_true]

/-! ### Orders -/
theorem cless_go (a : Int) (b c : ByteArray) (d : Int) (e f : ByteArray) : card_Less a b c d e f = some (ltF (.mk a b c) (.mk d e f)) := by
  unfold card_Less
  rw [order_eq]
  simp only [Option.bind_some]
  congr 1
  cases h : ltF (.mk a b c) (.mk d e f) with
  | true => exact decide_eq_true ((lt_key _ _).2 h)
  | false => exact decide_eq_false (fun hn => by rw [(lt_key _ _).1 hn] at h; cases h)
theorem inner_go {l : List Fd} {order : List Int} {n n2 : Int} {a : Int} {b c : ByteArray} {r : List Fd} (hl : r.length ≤ 1000) (hs : ∀ x ∈ r, Small x) (hx : Small (.mk a b c)) :
    runL (kinfolklaw09_CardOrders_L1_2_step l order n n2 (((List.map E_card_Field.pv r)).length : Int) a b c r) 0 = some (.inr ()) := by
  have h := runL_iter (step := kinfolklaw09_CardOrders_L1_2_step l order n n2 (((List.map E_card_Field.pv r)).length : Int) a b c r) (fun k => (k : Int)) (z := .inr ()) r.length (fun k hk => by
    obtain ⟨y, hy⟩ := getS hk
    have hsy := hs y (mem_of_get hy)
    cases y with
    | mk d e f =>
      simp only [kinfolklaw09_CardOrders_L1_2_step, len_eq, ltT hk, le0, Int.toNat_natCast, Nat.zero_add, hy, cond_true, Bool.and_self, Option.bind_some, cless_go, rless_go hx hsy, beq_self_eq_true, eqd, iaddN (show k ≤ 9223372036854775806 by omega)]
      cases hlt : ltF (.mk a b c) (.mk d e f) with
      | true =>
        rw [ltF_tot.asym hlt]
        simp only [cond_true, cond_false]
        cases decide (E_card_Field.mk a b c = E_card_Field.mk d e f) <;> rfl
      | false =>
        simp only [cond_false]
        by_cases he : E_card_Field.mk a b c = E_card_Field.mk d e f
        · rw [decide_eq_true he]; rfl
        · have : ltF (.mk d e f) (.mk a b c) = true := by
            rcases ltF_tot.tri (E_card_Field.mk a b c) (.mk d e f) with h | h | h
            · rw [h] at hlt; cases hlt
            · exact absurd h he
            · exact h
          rw [decide_eq_false he, this]; rfl) (by
    simp only [kinfolklaw09_CardOrders_L1_2_step, len_eq, ltF_ (Nat.lt_irrefl _)]; rfl)
  have e : ((0 : Nat) : Int) = 0 := rfl
  simp only [e] at h
  exact h
theorem outer_go {l : List Fd} {order : List Int} {r : List Fd} (hl : r.length ≤ 1000) (hs : ∀ x ∈ r, Small x) :
    runL (kinfolklaw09_CardOrders_L0_step l order (((List.map E_card_Field.pv r)).length : Int) r) 0 = some (.inr ()) := by
  have h := runL_iter (step := kinfolklaw09_CardOrders_L0_step l order (((List.map E_card_Field.pv r)).length : Int) r) (fun k => (k : Int)) (z := .inr ()) r.length (fun k hk => by
    obtain ⟨y, hy⟩ := getS hk
    have hsy := hs y (mem_of_get hy)
    cases y with
    | mk d e f =>
      have hi := inner_go (l := l) (order := order) (n := (((List.map E_card_Field.pv r)).length : Int)) (n2 := (k : Int)) hl hs hsy
      rw [len_eq] at hi
      simp only [kinfolklaw09_CardOrders_L0_step, len_eq, ltT hk, le0, Int.toNat_natCast, Nat.zero_add, hy, cond_true, Bool.and_self, Option.bind_some, hi, iaddN (show k ≤ 9223372036854775806 by omega)]) (by
    simp only [kinfolklaw09_CardOrders_L0_step, len_eq, ltF_ (Nat.lt_irrefl _)]; rfl)
  have e : ((0 : Nat) : Int) = 0 := rfl
  simp only [e] at h
  exact h
theorem mem_swap {l : List Fd} {i j : Nat} {a b : Fd} (hi : l[i]? = some b) (hj : l[j]? = some a) (x : Fd) : x ∈ (l.set i a).set j b ↔ x ∈ l := by
  have li := lt_of_get hi
  have lj := lt_of_get hj
  constructor
  · intro h
    rcases List.mem_or_eq_of_mem_set h with h | rfl
    · rcases List.mem_or_eq_of_mem_set h with h | rfl
      · exact h
      · exact mem_of_get hj
    · exact mem_of_get hi
  · intro h
    obtain ⟨k, hk⟩ := List.mem_iff_getElem?.1 h
    have lk := lt_of_get hk
    refine List.mem_iff_getElem?.2 ?_
    by_cases h1 : k = i
    · refine ⟨j, ?_⟩
      subst h1
      rw [hi] at hk
      rw [List.getElem?_set_self (by rw [List.length_set]; exact lj), hk]
    · by_cases h2 : k = j
      · subst h2
        rw [hj] at hk
        refine ⟨i, ?_⟩
        rw [List.getElem?_set_ne (by omega), List.getElem?_set_self li, hk]
      · exact ⟨k, by rw [List.getElem?_set_ne (by omega), List.getElem?_set_ne (by omega), hk]⟩
theorem perm_go {order : List Int} {y : List Gd} {c r0 : List Fd} (hl : c.length ≤ 100) (ho : ∀ v ∈ order, (0 : Int) ≤ v ∧ v < 256) : ∀ (f k : Nat) (r : List Fd), c.length ≤ k + f → k ≤ c.length → r.length = c.length → (∀ x, x ∈ r ↔ x ∈ c) →
    ∃ r', runL (kinfolklaw09_CardOrders_L2_step order y ((c.length : Nat) : Int) r0) ((k : Int), r) = some r' ∧ r'.length = c.length ∧ ∀ x, x ∈ r' ↔ x ∈ c := by
  intro f
  induction f with
  | zero =>
    intro k r h1 h2 h3 h4
    have hk : k = c.length := by omega
    subst hk
    exact ⟨r, runL_done (by simp only [kinfolklaw09_CardOrders_L2_step, ltF_ (Nat.lt_irrefl _)]; rfl), h3, h4⟩
  | succ f ih =>
    intro k r h1 h2 h3 h4
    by_cases hk : k = c.length
    · subst hk
      exact ⟨r, runL_done (by simp only [kinfolklaw09_CardOrders_L2_step, ltF_ (Nat.lt_irrefl _)]; rfl), h3, h4⟩
    · by_cases hko : k < order.length
      · obtain ⟨v, hv⟩ := getS hko
        have hg : order.getD k 0 = v := by rw [List.getD, hv]; rfl
        obtain ⟨hv0, hv1⟩ := ho v (mem_of_get hv)
        obtain ⟨u, rfl⟩ : ∃ u : Nat, v = (u : Int) := ⟨v.toNat, by omega⟩
        have hw : IntKind.i64.wrap (u : Int) = (u : Int) := by
          simp [IntKind.wrap, IntKind.bits, IntKind.signed]
          omega
        have hsub : isub .i64 ((c.length : Nat) : Int) (k : Int) = ((c.length - k : Nat) : Int) := by
          unfold isub
          simp [IntKind.wrap, IntKind.bits, IntKind.signed]
          omega
        have hmod : u % (c.length - k) < c.length - k := Nat.mod_lt _ (by omega)
        have hrem : irem .i64 (u : Int) ((c.length - k : Nat) : Int) = ((u % (c.length - k) : Nat) : Int) := (Int.ofNat_tmod u (c.length - k)).symm
        have hadd : iadd .i64 (k : Int) ((u % (c.length - k) : Nat) : Int) = ((k + u % (c.length - k) : Nat) : Int) := by
          unfold iadd
          simp only [IntKind.wrap, IntKind.bits, IntKind.signed]
          simp
          omega
        generalize u % (c.length - k) = q at *
        have hj : k + q < r.length := by omega
        have hkr : k < r.length := by omega
        obtain ⟨a, ha⟩ := getS hj
        obtain ⟨b, hb⟩ := getS hkr
        have hne : decide (((c.length - k : Nat) : Int) = 0) = false := decide_eq_false (by omega)
        obtain ⟨r', h5, h6⟩ := ih (k + 1) ((r.set k a).set (k + q) b) (by omega) (by omega) (by rw [List.length_set, List.length_set, h3]) (fun x => by rw [mem_swap hb ha, h4])
        refine ⟨r', ?_, h6⟩
        rw [← h5]
        refine runL_next ?_
        simp only [kinfolklaw09_CardOrders_L2_step, len_eq, h3, ltT (show k < c.length by omega), ltT hko, le0, Int.toNat_natCast, hg, hw, hsub, hrem, hadd, hne, ltT (show k + q < c.length by omega), Bool.not_false, Bool.and_self, cond_true, Nat.zero_add, ha, hb, Option.bind_some, iaddN (show k ≤ 9223372036854775806 by omega)]
      · obtain ⟨r', h5, h6⟩ := ih (k + 1) r (by omega) (by omega) h3 h4
        refine ⟨r', ?_, h6⟩
        rw [← h5]
        refine runL_next ?_
        simp only [kinfolklaw09_CardOrders_L2_step, ltT (show k < c.length by omega), ltF_ hko, cond_true, cond_false, iaddN (show k ≤ 9223372036854775806 by omega)]
theorem few3 (x y z : Fd) : kinfolklaw09_few [x, y, z] = some [cutF x, cutF y, cutF z] := few_go (l := [x, y, z]) (by simp)
theorem cardOrders_true {N : Nat} (hN : 1000 < N) {l : List Fd} {order : List Int} (h1 : l.length ≤ 9223372036854775807) (ho : ∀ v ∈ order, (0 : Int) ≤ v ∧ v < 256) (a : Int) (a2 a3 : ByteArray) (b : Int) (b2 b3 : ByteArray) (c : Int) (c2 c3 : ByteArray) :
    kinfolklaw09_CardOrders N l order a a2 a3 b b2 b3 c c2 c3 = some true := by
  unfold kinfolklaw09_CardOrders
  have hc := cardV_is l
  have hsm : ∀ x ∈ [cutF (.mk a a2 a3), cutF (.mk b b2 b3), cutF (.mk c c2 c3)], Small x := fun x hx => by
    simp only [List.mem_cons, List.not_mem_nil, or_false] at hx
    rcases hx with rfl | rfl | rfl <;> exact (cutF_short _).small
  have hout := outer_go (l := l) (order := order) (r := [cutF (.mk a a2 a3), cutF (.mk b b2 b3), cutF (.mk c c2 c3)]) (by simp) hsm
  rw [awake_go, few3]
  simp only [Option.bind_some, cond_true]
  rw [hout]
  simp only [Option.bind_some]
  rw [made2_go hN h1]
  generalize cardV l = r at *
  have hcl := hc.few
  simp only [Option.bind_some]
  rw [fields_go (by omega)]
  simp only [Option.bind_some]
  obtain ⟨r', h5, h6, h7⟩ := perm_go (order := order) (y := r.map toR) (c := r) (r0 := r) (by omega) ho r.length 0 r (by omega) (by omega) rfl (fun _ => Iff.rfl)
  have e : ((0 : Nat) : Int) = 0 := rfl
  rw [e] at h5
  rw [len_eq, h5]
  have hb : badF r' = none := badF_none.2 fun x hx => hc.ok x ((h7 x).1 hx)
  have hm : madeF r' = r := madeF_of hc.ss h7
  have hV : makeV r' = (r, 0) := by
    unfold makeV
    rw [hb]
    simp only
    rw [hm, if_neg (by omega)]
  simp only [Option.bind_some, take_len]
  rw [make_go (by omega) (fun x hx => (hc.short x ((h7 x).1 hx)).small), hV]
  simp only [Option.bind_some, decide_true, cond_true]
  rw [csame_go (by omega)]
  simp only [Option.bind_some, decide_true, cond_true]
  rw [fields_go (l := r) (by omega), own_go (by omega)]
  simp only [Option.bind_some, gtake_len]
  rw [rsame_go (by rw [List.length_map]; omega)]
  simp only [Option.bind_some, decide_true, cond_true]
  rw [clen_go, title_go (c := []) (by simp), fields_go (l := []) (by simp)]
  have ht : titleV [] = (⟨#[]⟩ : ByteArray) := rfl
  rw [ht]
  simp
end Go.Proofs.YteiikkpajcggfaaDoor
