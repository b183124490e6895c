/- The reader: trees, as they were written; what is left at the end. Plain. -/
import Derived.Test.YtjjakdmcnkldoaaB10
set_option linter.unusedVariables false
set_option linter.unusedSimpArgs false
namespace Go.Proofs.Ytjjakdmcnkldoaa
open Go.Ev

theorem node_eq {N : Nat} {e a b : Int} {t u : T_event_halves} (hw : wfE e (.mk a t b u)) (hd : depthE (.mk a t b u) ≤ 16) (hm : maxE e (.mk a t b u) ≤ 1048576) (hN : depthE (.mk a t b u) < N) : event_Node N e a t b u = some (e, .mk a t b u, 0) := by
  have hdp := depthE_eq (N := N) (e := e) (t := .mk a t b u) (by omega) (by omega)
  have hmx := maxE_eq (N := N) (e := e) (t := .mk a t b u) (by omega) hw.ok (by omega)
  obtain ⟨w1, w2, w3, w4, w5⟩ := hw
  have g1 := maxE_ge w2.ok
  have g2 := maxE_ge w3.ok
  have g3 := w2.ok.base
  have g4 := w3.ok.base
  have hm' := hm
  simp only [maxE] at hm'
  have em : (if b < a then b else a) = 0 := by split <;> omega
  have ea : isub .u64 a 0 = a := by rw [isubU (by omega) (by omega)]; omega
  have eb : isub .u64 b 0 = b := by rw [isubU (by omega) (by omega)]; omega
  have ee : iadd .u64 e 0 = e := by rw [iaddU (by omega) (by omega)]; omega
  have hn : event_node (if (2097152 : Int) < e then 2097152 else e) a t b u = some (e, .mk a t b u) := by
    rw [if_neg (by omega)]
    cases t with
    | nil =>
      cases u with
      | nil =>
        have hne : ¬ a = b := fun h => w5 ⟨rfl, rfl, h⟩
        simp only [event_node, df hne, cond_false, em, ea, eb, ee]
      | mk => simp only [event_node, em, ea, eb, ee]
    | mk => simp only [event_node, em, ea, eb, ee]
  have hr : event_Event_right N e (.mk a t b u) = some 0 := by
    unfold event_Event_right
    rw [hdp, hmx]
    simp only [Option.bind_some, df (show ¬ (16 : Int) < ((depthE (.mk a t b u) : Nat) : Int) by omega), df (show ¬ (1048576 : Int) < maxE e (.mk a t b u) by omega), cond_false]
  unfold event_Node
  rw [hn]
  simp only [Option.bind_some, hr, decide_true, cond_true]
/-- What a node's first bits tell. -/
theorem tag_rd {p : List Int} (hb : Bytes p) (hp : p.length ≤ 100000) {d : Int} {e : Int} {za zb : Bool} {n : Nat} (he : 0 ≤ e ∧ e ≤ 1048576) (hz : ¬ (za = true ∧ zb = true))
    (h : Has p n (tagB (decide (e = 0)) za zb ++ (if 0 < e then encNum e.toNat else []))) :
    ∃ kind n' : Nat, code_source_bit 2 0 p (n : Int) 0 = some ((kind : Int), 0, (n' : Int), 0) ∧
      code_source_event_C34 d (!(decide ((kind : Int) = 0))) (!(decide ((kind : Int) = 1))) (decide ((kind : Int) = 3)) 0 p (n' : Int) 0 = some (e, !za, !zb, 0, ((n + (tagB (decide (e = 0)) za zb ++ (if 0 < e then encNum e.toNat else [])).length : Nat) : Int), 0) := by
  by_cases h0 : e = 0
  · subst h0
    simp only [decide_true, Int.lt_irrefl, if_false, List.append_nil] at h ⊢
    cases za with
    | true =>
      cases zb with
      | true => exact absurd ⟨rfl, rfl⟩ hz
      | false => exact ⟨0, n + 2, srcBit_eq hb hp (k := 2) (v := 0) (by decide) (by decide) h, rfl⟩
    | false =>
      cases zb with
      | true => exact ⟨1, n + 2, srcBit_eq hb hp (k := 2) (v := 1) (by decide) (by decide) h, rfl⟩
      | false => exact ⟨2, n + 2, srcBit_eq hb hp (k := 2) (v := 2) (by decide) (by decide) h, rfl⟩
  · have hpos : 0 < e := by omega
    rw [df h0, if_pos hpos] at *
    have nt : (e.toNat : Int) = e := by omega
    refine ⟨3, n + 2, ?_, ?_⟩
    · cases za with
      | true => exact srcBit_eq hb hp (k := 2) (v := 3) (by decide) (by decide) h.left.left
      | false => cases zb <;> exact srcBit_eq hb hp (k := 2) (v := 3) (by decide) (by decide) h.left.left
    · unfold code_source_event_C34
      have hnum := srcNum_eq hb hp (show e.toNat ≤ 1048576 by omega) h.right
      have hm : ∀ m : Int, code_source_must (decide ((0 : Int) < e)) 0 p m 0 = some 0 := fun m => by rw [dt hpos]; rfl
      simp only [List.length_append] at hnum ⊢
      cases za with
      | true =>
        have h1 : Has p n (bitsN 2 3 ++ bitsN 2 0) := h.left
        have h2 : Has p (n + 2) (bitsN 1 0 ++ bitsN 1 0) := h1.right
        have g1 : code_source_bit 1 0 p ((n + 2 : Nat) : Int) 0 = some (0, 0, ((n + 2 + 1 : Nat) : Int), 0) := srcBit_eq hb hp (by decide) (by decide) h2.left
        have g2 : code_source_bit 1 0 p ((n + 2 + 1 : Nat) : Int) 0 = some (0, 0, ((n + 2 + 1 + 1 : Nat) : Int), 0) := srcBit_eq hb hp (by decide) (by decide) h2.right
        have hl : (tagB false true zb).length = 4 := rfl
        rw [hl] at hnum ⊢
        rw [Nat.add_assoc] at hnum
        rw [show n + 2 + 1 + 1 = n + 4 by omega] at g2
        cases zb with
        | true => exact absurd ⟨rfl, rfl⟩ hz
        | false => simp only [show decide (((3 : Nat) : Int) = 3) = true from rfl, cond_true, g1, g2, Option.bind_some, code_source_event_C37, decide_true, hnum, nt, hm]; rfl
      | false =>
        cases zb with
        | true =>
          have h1 : Has p n (bitsN 2 3 ++ bitsN 2 1) := h.left
          have h2 : Has p (n + 2) (bitsN 1 0 ++ bitsN 1 1) := h1.right
          have g1 : code_source_bit 1 0 p ((n + 2 : Nat) : Int) 0 = some (0, 0, ((n + 2 + 1 : Nat) : Int), 0) := srcBit_eq hb hp (by decide) (by decide) h2.left
          have g2 : code_source_bit 1 0 p ((n + 2 + 1 : Nat) : Int) 0 = some (1, 0, ((n + 2 + 1 + 1 : Nat) : Int), 0) := srcBit_eq hb hp (by decide) (by decide) h2.right
          have hl : (tagB false false true).length = 4 := rfl
          rw [hl] at hnum ⊢
          rw [Nat.add_assoc] at hnum
          rw [show n + 2 + 1 + 1 = n + 4 by omega] at g2
          simp only [show decide (((3 : Nat) : Int) = 3) = true from rfl, cond_true, g1, g2, Option.bind_some, code_source_event_C37, decide_true, hnum, nt, hm]; rfl
        | false =>
          have h1 : Has p n (bitsN 2 3 ++ bitsN 1 1) := h.left
          have g1 : code_source_bit 1 0 p ((n + 2 : Nat) : Int) 0 = some (1, 0, ((n + 2 + 1 : Nat) : Int), 0) := srcBit_eq hb hp (by decide) (by decide) h1.right
          have hl : (tagB false false false).length = 3 := rfl
          rw [hl] at hnum ⊢
          rw [Nat.add_assoc] at hnum
          rw [show n + 2 + 1 = n + 3 by omega] at g1
          simp only [show decide (((3 : Nat) : Int) = 3) = true from rfl, cond_true, g1, Option.bind_some, code_source_event_C37, show decide ((1 : Int) = 0) = false from rfl, cond_false, hnum, nt, hm]; rfl
theorem getEv_rd {p : List Int} (hb : Bytes p) (hp : p.length ≤ 100000) : ∀ {N : Nat} {t : T_event_halves} {e : Int} {d n : Nat}, depthE t + 1 < N → wfE e t → maxE e t ≤ 1048576 → d + depthE t ≤ 16 → Has p n (encEv e t) →
    code_source_event_2 N (d : Int) 0 p (n : Int) 0 = some (e, t, 0, ((n + (encEv e t).length : Nat) : Int), 0)
  | 0, t, e, d, n, hN, hw, hm, hd, h => by omega
  | N + 1, t, e, d, n, hN, hw, hm, hd, h => by
    unfold code_source_event_2 code_source_event_2_b
    have hbase := hw.ok.base
    have hge := maxE_ge hw.ok
    cases t with
    | nil =>
      have h' : Has p n (bitsN 1 1 ++ encNum e.toNat) := h
      have nt : (e.toNat : Int) = e := by omega
      have g1 : code_source_bit 1 0 p (n : Int) 0 = some (1, 0, ((n + 1 : Nat) : Int), 0) := srcBit_eq hb hp (by decide) (by decide) h'.left
      have g2 := srcNum_eq hb hp (show e.toNat ≤ 1048576 by omega) h'.right
      rw [bitsN_len, nt] at g2
      simp only [g1, g2, Option.bind_some, decide_true, cond_true, event_Leaf, df (show ¬ (1048576 : Int) < e by omega), cond_false, encEv, List.length_append, bitsN_len]
      congr 5
      omega
    | mk a t b u =>
      have hnode := node_eq (N := N) hw (by omega) hm (by omega)
      simp only [depthE] at hN hd
      rw [encEv_mk] at h ⊢
      obtain ⟨w1, w2, w3, w4, w5⟩ := hw
      have b1 := w2.ok.base
      have b2 := w3.ok.base
      have q1 := maxE_ge w2.ok
      have q2 := maxE_ge w3.ok
      have hm' := hm
      simp only [maxE] at hm'
      have hzz : ¬ (zeroEv a t = true ∧ zeroEv b u = true) := by
        rintro ⟨h1, h2⟩
        obtain ⟨rfl, rfl⟩ := zeroEv_eq h1
        obtain ⟨rfl, rfl⟩ := zeroEv_eq h2
        exact w5 ⟨rfl, rfl, rfl⟩
      have hr := h.right
      rw [bitsN_len, ← List.append_assoc] at hr
      obtain ⟨kind, n', t1, t2⟩ := tag_rd (d := (d : Int)) hb hp (show 0 ≤ e ∧ e ≤ 1048576 by omega) hzz hr.left
      have hr2 := hr.right
      generalize hT : (tagB (decide (e = 0)) (zeroEv a t) (zeroEv b u) ++ if 0 < e then encNum e.toNat else []) = T at *
      have g1 : code_source_bit 1 0 p (n : Int) 0 = some (0, 0, ((n + 1 : Nat) : Int), 0) := srcBit_eq hb hp (by decide) (by decide) h.left
      have hd16 : decide ((d : Int) = 16) = false := df (by omega)
      have ed : iadd .i64 (d : Int) 1 = ((d + 1 : Nat) : Int) := by rw [iadd64 (by omega) (by omega)]; omega
      have g3 : ∀ bb, code_source_event_C53 (code_source_event_2 N) (d : Int) e bb (!zeroEv b u) (!zeroEv a t) 0 p ((n + 1 + T.length : Nat) : Int) 0 = some (0, ((n + 1 + T.length + (if zeroEv a t then [] else encEv a t).length : Nat) : Int), 0, a, t) := by
        intro bb
        unfold code_source_event_C53
        cases hz : zeroEv a t with
        | true => obtain ⟨rfl, rfl⟩ := zeroEv_eq hz; rfl
        | false =>
          have hl := hr2.left
          rw [hz] at hl
          have r1 := getEv_rd hb hp (N := N) (t := t) (e := a) (d := d + 1) (n := n + 1 + T.length) (by omega) w2 (by omega) (by omega) hl
          simp only [Bool.not_false, cond_true, ed, r1, Option.bind_some]
          rfl
      have g4 : ∀ bb, code_source_event_C62 (code_source_event_2 N) (d : Int) e (!zeroEv a t) bb (!zeroEv b u) 0 p ((n + 1 + T.length + (if zeroEv a t then [] else encEv a t).length : Nat) : Int) 0 a t = some (0, ((n + 1 + T.length + (if zeroEv a t then [] else encEv a t).length + (if zeroEv b u then [] else encEv b u).length : Nat) : Int), 0, b, u) := by
        intro bb
        unfold code_source_event_C62
        cases hz : zeroEv b u with
        | true => obtain ⟨rfl, rfl⟩ := zeroEv_eq hz; rfl
        | false =>
          have hl := hr2.right
          rw [hz] at hl
          have r1 := getEv_rd hb hp (N := N) (t := u) (e := b) (d := d + 1) (n := n + 1 + T.length + (if zeroEv a t then [] else encEv a t).length) (by omega) w3 (by omega) (by omega) hl
          simp only [Bool.not_false, cond_true, ed, r1, Option.bind_some]
          rfl
      have em : (if b < a then b else a) = 0 := by split <;> omega
      have hlen : n + 1 + T.length + (if zeroEv a t then [] else encEv a t).length + (if zeroEv b u then [] else encEv b u).length = n + (bitsN 1 0 ++ (T ++ ((if zeroEv a t then [] else encEv a t) ++ (if zeroEv b u then [] else encEv b u)))).length := by
        simp only [List.length_append, bitsN_len]; omega
      have hlist : (bitsN 1 0 ++ (tagB (decide (e = 0)) (zeroEv a t) (zeroEv b u) ++ ((if 0 < e then encNum e.toNat else []) ++ ((if zeroEv a t then [] else encEv a t) ++ (if zeroEv b u then [] else encEv b u))))) = bitsN 1 0 ++ (T ++ ((if zeroEv a t then [] else encEv a t) ++ (if zeroEv b u then [] else encEv b u))) := by
        rw [← hT, List.append_assoc]
      rw [hlist, ← hlen]
      have hnd : ∀ m : Int, code_source_node N e a t b u 0 p m 0 = some (e, .mk a t b u, 0) := fun m => by
        unfold code_source_node
        rw [hnode]
        rfl
      simp only [g1, Option.bind_some, df (show ¬ (0 : Int) = 1 by decide), cond_false, code_source_event_C24, hd16, t1, t2, srcOk, cond_true, g3, g4, zero_eq, Bool.not_not, beq_self_eq_true, event_Event_Base, em, decide_true]
      have hleaf : ∀ (x : Int) (v : T_event_halves), event_Event_IsLeaf x v = some (match v with | .nil => true | .mk .. => false) := fun x v => by cases v <;> rfl
      simp only [hleaf, Option.bind_some]
      cases t with
      | nil =>
        cases u with
        | nil =>
          have hne : ¬ a = b := fun h => w5 ⟨rfl, rfl, h⟩
          simp only [cond_true, df hne, Bool.not_false, srcMust, srcOk, Option.bind_some, hnd]
        | mk => simp only [cond_true, cond_false, srcMust, srcOk, Option.bind_some, hnd]
      | mk => simp only [cond_true, cond_false, srcMust, srcOk, Option.bind_some, hnd]
theorem getID_eq {p : List Int} (hb : Bytes p) (hp : p.length ≤ 100000) {N : Nat} {t : T_id_halves} {i : Bool} {n : Nat} (hN : depthID t + 1 < N) (hw : nfID i t) (hd : depthID t ≤ 16) (h : Has p n (encID i t)) :
    code_GetID N p (n : Int) 0 = some (i, t, 0, ((n + (encID i t).length : Nat) : Int), 0) := by
  have := getID_rd hb hp (d := 0) hN hw (by omega) h
  have this' : code_source_id_2 N 0 0 p (n : Int) 0 = _ := this
  unfold code_GetID
  rw [this']
  rfl
theorem getEv_eq {p : List Int} (hb : Bytes p) (hp : p.length ≤ 100000) {N : Nat} {t : T_event_halves} {e : Int} {n : Nat} (hN : depthE t + 1 < N) (hw : wfE e t) (hm : maxE e t ≤ 1048576) (hd : depthE t ≤ 16) (h : Has p n (encEv e t)) :
    code_GetEvent N p (n : Int) 0 = some (e, t, 0, ((n + (encEv e t).length : Nat) : Int), 0) := by
  have := getEv_rd hb hp (d := 0) hN hw hm (by omega) h
  have this' : code_source_event_2 N 0 0 p (n : Int) 0 = _ := this
  unfold code_GetEvent
  rw [this']
  rfl
/-- Nothing is left: the last bits of the last byte are 0. -/
theorem end_eq {p : List Int} {B : List Bool} (hp : p.length ≤ 100000) (h : Pk p B) : bits_Reader_End p (B.length : Int) 0 = some (0, 0) := by
  have hl := h.len
  have hk : 8 * p.length - B.length < 8 := by omega
  have hz : Has p B.length (bitsN (8 * p.length - B.length) 0) := by
    refine ⟨by rw [bitsN_len]; omega, fun i hi => ?_⟩
    rw [bitsN_len] at hi
    rw [h.bit ((B.length + i) / 8) ((B.length + i) % 8) (Nat.mod_lt _ (by decide)) (by omega), show 8 * ((B.length + i) / 8) + (B.length + i) % 8 = B.length + i by omega, getD_none (by omega), bits_at hi]
    simp
  have g := get_eq h.byte hp (show 8 * p.length - B.length ≤ 64 by omega) (Nat.two_pow_pos _) hz
  unfold bits_Reader_End bits_Reader_Err bits_Reader_Left
  have e1 : isub .i64 (imul .i64 8 (p.length : Int)) (B.length : Int) = ((8 * p.length - B.length : Nat) : Int) := by
    rw [imul64 (by omega) (by omega), isub64 (by omega) (by omega)]; omega
  simp only [Option.bind_some, decide_true, cond_true, e1, df (show ¬ (8 : Int) ≤ ((8 * p.length - B.length : Nat) : Int) by omega), cond_false, g]
  rfl
end Go.Proofs.Ytjjakdmcnkldoaa
