/- The reader: ids, trees, as they were written. Plain. -/
import Derived.Test.YtjjakdmcnkldoaaB9
set_option linter.unusedVariables false
set_option linter.unusedSimpArgs false
namespace Go.Proofs.Ytjjakdmcnkldoaa
open Go.Ev

theorem num_rd {p : List Int} {was : Int} (hb : Bytes p) (hp : p.length ≤ 100000) : ∀ (f b : Nat) {v base n : Nat}, f + b = 64 → v < 2 ^ 30 → base + v < 2 ^ 40 → Has p n (encGo f b v) →
    runL (bits_Reader_Num_S0_step was p) ((b : Int), (base : Int), (n : Int), 0) = some (((base + v : Nat) : Int), ((n + (encGo f b v).length : Nat) : Int), 0) := by
  have fin : ∀ {b v base n : Nat}, b ≤ 64 → v < 2 ^ b → base + v < 2 ^ 40 → Has p n (false :: bitsN b v) →
      runL (bits_Reader_Num_S0_step was p) ((b : Int), (base : Int), (n : Int), 0) = some (((base + v : Nat) : Int), ((n + (b + 1) : Nat) : Int), 0) := by
    intro b v base n hb64 hv hbase h
    have h' : Has p n (bitsN 1 0 ++ bitsN b v) := h
    have g1 : bits_Reader_Get 1 p (n : Int) 0 = some (0, ((n + 1 : Nat) : Int), 0) := get_eq hb hp (by decide) (by decide) h'.left
    have g2 : bits_Reader_Get (b : Int) p ((n + 1 : Nat) : Int) 0 = some ((v : Int), ((n + 1 + b : Nat) : Int), 0) := get_eq hb hp hb64 hv h'.right
    refine runL_done ?_
    have e1 : isub .u64 18446744073709551615 (base : Int) = 18446744073709551615 - base := isubU (by omega) (by omega)
    have e2 : iadd .u64 (base : Int) (v : Int) = ((base + v : Nat) : Int) := by rw [iaddU (by omega) (by omega)]; omega
    unfold bits_Reader_Num_S0_step
    simp only [g1, g2, Option.bind_some, decide_true, cond_true, e1, e2, df (show ¬ (0 : Int) = 1 by decide), cond_false, df (show ¬ (18446744073709551615 - (base : Int) < (v : Int)) by omega)]
    rw [show n + 1 + b = n + (b + 1) by omega]
  intro f
  induction f with
  | zero =>
    intro b v base n hfb hv hbase h
    have := fin (b := b) (by omega) (Nat.lt_of_lt_of_le hv (Nat.pow_le_pow_right (by decide) (by omega))) hbase h
    simpa [encGo, bitsN_len] using this
  | succ f ih =>
    intro b v base n hfb hv hbase h
    simp only [encGo] at h ⊢
    by_cases hlt : 2 ^ b ≤ v
    · rw [if_pos hlt] at h ⊢
      have h' : Has p n (bitsN 1 1 ++ encGo f (b + 1) (v - 2 ^ b)) := h
      have h'' : Has p (n + 1) (encGo f (b + 1) (v - 2 ^ b)) := h'.right
      have g1 : bits_Reader_Get 1 p (n : Int) 0 = some (1, ((n + 1 : Nat) : Int), 0) := get_eq hb hp (by decide) (by decide) h'.left
      have hb30 : b < 30 := by
        rcases Nat.lt_or_ge b 30 with h | h
        · exact h
        · exact absurd (Nat.lt_of_le_of_lt (Nat.le_trans (Nat.pow_le_pow_right (by decide) h) hlt) hv) (Nat.lt_irrefl _)
      have e1 : iadd .i64 (b : Int) 1 = ((b + 1 : Nat) : Int) := by rw [iadd64 (by omega) (by omega)]; omega
      have e2 : ishl .u64 1 (b : Int) = ((2 ^ b : Nat) : Int) := by
        have := ishl_nat (k := .u64) rfl (a := 1) (n := b) (show b ≤ 64 by omega) (show 1 * 2 ^ b < 2 ^ 64 by omega)
        rw [Nat.one_mul] at this
        exact this
      generalize 2 ^ b = w at *
      have e3 : iadd .u64 (base : Int) (w : Int) = ((base + w : Nat) : Int) := by rw [iaddU (by omega) (by omega)]; omega
      have hs : bits_Reader_Num_S0_step was p ((b : Int), (base : Int), (n : Int), 0) = some (.inl (((b + 1 : Nat) : Int), ((base + w : Nat) : Int), ((n + 1 : Nat) : Int), 0)) := by
        unfold bits_Reader_Num_S0_step
        simp only [g1, Option.bind_some, decide_true, cond_true, e1, e2, e3, dt (show (0 : Int) ≤ (b : Int) by omega), dt (show ((b + 1 : Nat) : Int) < 64 by omega)]
      rw [runL_next hs, ih (b + 1) (v := v - w) (base := base + w) (n := n + 1) (by omega) (by omega) (by omega) h'']
      congr 3
      · omega
      · rw [List.length_cons]; omega
    · rw [if_neg hlt] at h ⊢
      have := fin (b := b) (by omega) (by omega) hbase h
      simpa [bitsN_len] using this
theorem readNum_eq {p : List Int} (hb : Bytes p) (hp : p.length ≤ 100000) {v n : Nat} (hv : v < 2 ^ 30) (h : Has p n (encNum v)) :
    bits_Reader_Num p (n : Int) 0 = some ((v : Int), ((n + (encNum v).length : Nat) : Int), 0) := by
  have := num_rd (was := (n : Int)) hb hp 62 2 (v := v) (base := 0) (n := n) rfl hv (by omega) h
  rw [Nat.zero_add] at this
  have this' : runL (bits_Reader_Num_S0_step (n : Int) p) (2, 0, (n : Int), 0) = _ := this
  unfold bits_Reader_Num
  rw [this']
  rfl
theorem srcBit_eq {p : List Int} (hb : Bytes p) (hp : p.length ≤ 100000) {k v n : Nat} (hk : k ≤ 64) (hv : v < 2 ^ k) (h : Has p n (bitsN k v)) :
    code_source_bit (k : Int) 0 p (n : Int) 0 = some ((v : Int), 0, ((n + k : Nat) : Int), 0) := by
  unfold code_source_bit
  rw [show code_source_ok 0 p (n : Int) 0 = some (true, 0) from rfl]
  simp only [Option.bind_some, cond_true, get_eq hb hp hk hv h]
  rfl
theorem srcNum_eq {p : List Int} (hb : Bytes p) (hp : p.length ≤ 100000) {v n : Nat} (hv : v ≤ 1048576) (h : Has p n (encNum v)) :
    code_source_number 0 p (n : Int) 0 = some ((v : Int), 0, ((n + (encNum v).length : Nat) : Int), 0) := by
  unfold code_source_number
  rw [show code_source_ok 0 p (n : Int) 0 = some (true, 0) from rfl]
  simp only [Option.bind_some, cond_true, readNum_eq hb hp (show v < 2 ^ 30 by omega) h]
  rw [show ∀ m : Int, code_source_ok 0 p m 0 = some (true, 0) from fun _ => rfl]
  simp only [Option.bind_some, cond_true, df (show ¬ (1048576 : Int) < (v : Int) by omega), cond_false]
theorem pair_eq {N : Nat} {b b2 : Bool} {l r : T_id_halves} (hn : nfID false (.mk b l b2 r)) (hd : depthID (.mk b l b2 r) ≤ 16) (hN : depthID (.mk b l b2 r) < N) : id_Pair N b l b2 r = some (false, .mk b l b2 r, 0) := by
  have hdp := depthID_eq (N := N) (i := false) (t := .mk b l b2 r) hN (by omega)
  have hp : id_pair b l b2 r = some (false, .mk b l b2 r) := by
    have h3 := hn.2.2
    have h1 := hn.1
    have h2 := hn.2.1
    cases b <;> cases l <;> cases b2 <;> cases r <;> first | rfl | exact h1.elim | exact h2.elim | exact absurd ⟨rfl, rfl, rfl⟩ h3
  simp only [Option.bind_some, id_Pair, hp, hdp, df (show ¬ (16 : Int) < ((depthID (.mk b l b2 r) : Nat) : Int) by omega), cond_false]
theorem srcOk (p : List Int) (n : Int) : code_source_ok 0 p n 0 = some (true, 0) := rfl
theorem srcMust (p : List Int) (n : Int) : code_source_must true 0 p n 0 = some 0 := rfl
theorem getID_rd {p : List Int} (hb : Bytes p) (hp : p.length ≤ 100000) : ∀ {N : Nat} {t : T_id_halves} {i : Bool} {d n : Nat}, depthID t + 1 < N → nfID i t → d + depthID t ≤ 16 → Has p n (encID i t) →
    code_source_id_2 N (d : Int) 0 p (n : Int) 0 = some (i, t, 0, ((n + (encID i t).length : Nat) : Int), 0)
  | 0, t, i, d, n, hN, hw, hd, h => by omega
  | N + 1, t, i, d, n, hN, hw, hd, h => by
    unfold code_source_id_2 code_source_id_2_b
    cases t with
    | nil =>
      have h' : Has p n (bitsN 2 0 ++ bitsN 1 i.toNat) := by cases i <;> exact h
      have g1 : code_source_bit 2 0 p (n : Int) 0 = some (0, 0, ((n + 2 : Nat) : Int), 0) := srcBit_eq hb hp (by decide) (by decide) h'.left
      have g2 : code_source_bit 1 0 p ((n + 2 : Nat) : Int) 0 = some ((i.toNat : Int), 0, ((n + 2 + 1 : Nat) : Int), 0) := srcBit_eq hb hp (by decide) (by cases i <;> decide) h'.right
      have hl : (encID i .nil).length = 3 := by cases i <;> rfl
      rw [hl]
      simp only [show id_Zero = some () from rfl, Option.bind_some, g1, g2, decide_true, cond_true]
      cases i <;> rfl
    | mk b l b2 r =>
      cases i with
      | true => exact hw.elim
      | false =>
        have hpair := pair_eq (N := N) hw (by omega) (by omega)
        simp only [depthID] at hN hd
        have hd16 : decide ((d : Int) = 16) = false := df (by omega)
        have ed : iadd .i64 (d : Int) 1 = ((d + 1 : Nat) : Int) := by rw [iadd64 (by omega) (by omega)]; omega
        have key : ∀ (kind : Nat) (n' : Nat), kind ≤ 3 → kind ≠ 0 → decide ((kind : Int) = 1) = zeroID b l → decide ((kind : Int) = 2) = zeroID b2 r →
            code_source_bit 2 0 p (n : Int) 0 = some ((kind : Int), 0, ((n + 2 : Nat) : Int), 0) →
            code_source_id_C30 (code_source_id_2 N) (d : Int) (kind : Int) (!zeroID b l) 0 p ((n + 2 : Nat) : Int) 0 = some (0, ((n' : Nat) : Int), 0, b, l) →
            code_source_id_C40 (code_source_id_2 N) (d : Int) (kind : Int) (!zeroID b2 r) 0 p ((n' : Nat) : Int) 0 b l = some (0, ((n + (encID false (.mk b l b2 r)).length : Nat) : Int), 0, b2, r) →
            ((id_Zero).bind fun _ => (code_source_bit 2 0 p (n : Int) 0).bind fun (n4, n5, n6, n7) => code_source_id_2_b N (code_source_id_2 N) (d : Int) 0 p (n : Int) 0) = some (false, T_id_halves.mk b l b2 r, 0, ((n + (encID false (.mk b l b2 r)).length : Nat) : Int), 0) := by
          intro kind n' hk hk0 z1 z2 g1 g2 g3
          unfold code_source_id_2_b
          simp only [show id_Zero = some () from rfl, Option.bind_some, g1, df (show ¬ (kind : Int) = 0 by omega), cond_false, code_source_id_C22, hd16, srcOk, cond_true, z1, z2, g2, g3, isZero_eq, beq_self_eq_true]
          have hw' := hw
          simp only [nfID] at hw'
          cases b with
          | true =>
            cases l with
            | mk => exact hw'.1.elim
            | nil =>
              have hb2 : b2 = false ∨ r ≠ .nil := by
                rcases hw' with ⟨-, -, h3⟩
                cases b2
                · exact .inl rfl
                · refine .inr fun h => h3 ⟨rfl, h, rfl⟩
              have hb2f : b2 = false := by
                rcases hb2 with hne | hne
                · exact hne
                · cases b2 with
                  | false => rfl
                  | true => cases r with
                    | nil => exact absurd rfl hne
                    | mk => exact hw'.2.1.elim
              subst hb2f
              simp only [id_ID_IsOne, Option.bind_some, cond_true, Bool.not_false, srcMust, hpair]
          | false => simp only [id_ID_IsOne, Option.bind_some, cond_false, srcMust, hpair]
        have fin : ∀ {x : Option (Bool × T_id_halves × Int × Int × Int)} {kind : Nat}, code_source_bit 2 0 p (n : Int) 0 = some ((kind : Int), 0, ((n + 2 : Nat) : Int), 0) →
            ((id_Zero).bind fun _ => (code_source_bit 2 0 p (n : Int) 0).bind fun (n4, n5, n6, n7) => code_source_id_2_b N (code_source_id_2 N) (d : Int) 0 p (n : Int) 0) = x → code_source_id_2_b N (code_source_id_2 N) (d : Int) 0 p (n : Int) 0 = x := by
          intro x kind g h
          rw [← h]
          simp only [show id_Zero = some () from rfl, Option.bind_some, g]
        show code_source_id_2_b N (code_source_id_2 N) (d : Int) 0 p (n : Int) 0 = _
        cases hz : zeroID b l with
        | true =>
          have hz2 : zeroID b2 r = false := by
            cases hz2 : zeroID b2 r with
            | false => rfl
            | true =>
              obtain ⟨rfl, rfl⟩ : b = false ∧ l = .nil := by cases b <;> cases l <;> simp_all [zeroID]
              obtain ⟨rfl, rfl⟩ : b2 = false ∧ r = .nil := by cases b2 <;> cases r <;> simp_all [zeroID]
              exact absurd ⟨rfl, rfl, rfl⟩ hw.2.2
          obtain ⟨rfl, rfl⟩ : b = false ∧ l = .nil := by cases b <;> cases l <;> simp_all [zeroID]
          have he : encID false (.mk false .nil b2 r) = bitsN 2 1 ++ encID b2 r := by simp only [encID, zeroID, if_true]
          rw [he] at h
          have g1 : code_source_bit 2 0 p (n : Int) 0 = some (((1 : Nat) : Int), 0, ((n + 2 : Nat) : Int), 0) := srcBit_eq hb hp (by decide) (by decide) h.left
          have r2 := getID_rd hb hp (N := N) (t := r) (i := b2) (d := d + 1) (n := n + 2) (by omega) hw.2.1 (by omega) h.right
          refine fin g1 (key 1 (n + 2) (by decide) (by decide) (by rw [hz]; rfl) (by rw [hz2]; rfl) g1 ?_ ?_)
          · rw [hz]; rfl
          · rw [hz2]
            unfold code_source_id_C40
            simp only [Bool.not_false, cond_true, ed, r2, Option.bind_some, he, List.length_append, bitsN_len]
            congr 3
            omega
        | false =>
          cases hz2 : zeroID b2 r with
          | true =>
            obtain ⟨rfl, rfl⟩ : b2 = false ∧ r = .nil := by cases b2 <;> cases r <;> simp_all [zeroID]
            have he : encID false (.mk b l false .nil) = bitsN 2 2 ++ encID b l := by simp only [encID, hz, hz2, if_true, Bool.false_eq_true, if_false]
            rw [he] at h
            have g1 : code_source_bit 2 0 p (n : Int) 0 = some (((2 : Nat) : Int), 0, ((n + 2 : Nat) : Int), 0) := srcBit_eq hb hp (by decide) (by decide) h.left
            have r2 := getID_rd hb hp (N := N) (t := l) (i := b) (d := d + 1) (n := n + 2) (by omega) hw.1 (by omega) h.right
            refine fin g1 (key 2 (n + (encID false (.mk b l false .nil)).length) (by decide) (by decide) (by rw [hz]; rfl) (by rw [hz2]; rfl) g1 ?_ ?_)
            · rw [hz]
              unfold code_source_id_C30
              simp only [Bool.not_false, cond_true, ed, r2, Option.bind_some, he, List.length_append, bitsN_len]
              congr 3
              omega
            · rw [hz2]; rfl
          | false =>
            have he : encID false (.mk b l b2 r) = bitsN 2 3 ++ (encID b l ++ encID b2 r) := by simp only [encID, hz, hz2, Bool.false_eq_true, if_false]
            rw [he] at h
            have g1 : code_source_bit 2 0 p (n : Int) 0 = some (((3 : Nat) : Int), 0, ((n + 2 : Nat) : Int), 0) := srcBit_eq hb hp (by decide) (by decide) h.left
            have r1 := getID_rd hb hp (N := N) (t := l) (i := b) (d := d + 1) (n := n + 2) (by omega) hw.1 (by omega) h.right.left
            have r2 := getID_rd hb hp (N := N) (t := r) (i := b2) (d := d + 1) (n := n + 2 + (encID b l).length) (by omega) hw.2.1 (by omega) h.right.right
            refine fin g1 (key 3 (n + 2 + (encID b l).length) (by decide) (by decide) (by rw [hz]; rfl) (by rw [hz2]; rfl) g1 ?_ ?_)
            · rw [hz]
              unfold code_source_id_C30
              simp only [Bool.not_false, cond_true, ed, r1, Option.bind_some]
            · rw [hz2]
              unfold code_source_id_C40
              simp only [Bool.not_false, cond_true, ed, r2, Option.bind_some, he, List.length_append, bitsN_len]
              congr 3
              omega
end Go.Proofs.Ytjjakdmcnkldoaa
