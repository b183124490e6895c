/- The law's own trees; awake; the laws of the counting trees. Plain. -/
import Derived.Test.YtjjakdmcnkldoaaDoorT6
set_option linter.unusedVariables false
set_option linter.unusedSimpArgs false
namespace Go.Proofs.YtjjakdmcnkldoaaDoor
open Go.Ev Go.Lib

theorem _root_.Go.Ev.Bytes.drop {l : List Int} (h : Bytes l) (n : Nat) : Bytes (l.drop n) := fun x hx => h x (List.mem_of_mem_drop hx)
theorem _root_.Go.Ev.Bytes.take {l : List Int} (h : Bytes l) (n : Nat) : Bytes (l.take n) := fun x hx => h x (List.mem_of_mem_take hx)
theorem take_drop1 (l : List Int) (k : Nat) : List.take ((l.length : Int) - k).toNat (List.drop k l) = List.drop k l := List.take_of_length_le (by simp)
theorem irem8 {b : Int} {c : Nat} (h : 0 ≤ b) : irem .u8 b (c : Int) = b % c := by rw [irem, Int.tmod_eq_emod_of_nonneg h]
theorem iquo8 {b : Int} (h : 0 ≤ b ∧ b < 256) : iquo .u8 b 4 = b / 4 := by
  rw [iquo, Int.tdiv_eq_ediv_of_nonneg h.1, IntKind.wrap_u8]; omega
theorem rmakeEv : ∀ {N most : Nat} {p : List Int}, most + 1 < N → most ≤ 1000 → Bytes p → ∃ e t rest, kinfolkref02_Make N p (most : Int) = some (fromEv e t, rest) ∧ nf e t ∧ depthE t ≤ most ∧ maxE e t ≤ 3 * most + 7 ∧ Bytes rest
  | 0, most, p, hN, hm, h => by omega
  | N + 1, most, p, hN, hm, h => by
    unfold kinfolkref02_Make kinfolkref02_Make_b kinfolkref02_Leaf
    by_cases h0 : (p.length : Int) = 0
    · rw [dt h0]
      exact ⟨0, .nil, [], rfl, Int.le_refl 0, Nat.zero_le _, by simp only [maxE]; omega, fun x hx => by simp at hx⟩
    · have hl : 0 < p.length := by omega
      have hb := h.at hl
      have e8 : IntKind.u64.wrap (irem .u8 (iquo .u8 (p.getD 0 0) 4) 8) = p.getD 0 0 / 4 % 8 := by
        rw [iquo8 hb, show (8 : Int) = ((8 : Nat) : Int) from rfl, irem8 (by omega), u64_in (by omega) (by omega)]
      have e4 : IntKind.u64.wrap (irem .u8 (iquo .u8 (p.getD 0 0) 4) 4) = p.getD 0 0 / 4 % 4 := by
        rw [iquo8 hb, show (4 : Int) = ((4 : Nat) : Int) from rfl, irem8 (by omega), u64_in (by omega) (by omega)]
      have leaf : ∀ q : List Int, Bytes q → ∃ e t rest, some (T_kinfolkref02_Event.mk (p.getD 0 0 / 4 % 8) T_kinfolkref02_Event.nil T_kinfolkref02_Event.nil, q) = some (fromEv e t, rest) ∧ nf e t ∧ depthE t ≤ most ∧ maxE e t ≤ 3 * most + 7 ∧ Bytes rest :=
        fun q hq => ⟨p.getD 0 0 / 4 % 8, .nil, q, rfl, by simp only [nf]; omega, Nat.zero_le _, by simp only [maxE]; omega, hq⟩
      have ht := take_drop1 p 1
      have ht' : List.take ((p.length : Int) - 1).toNat (List.drop 1 p) = List.drop 1 p := ht
      have hd := h.drop 1
      simp only [df h0, cond_false, ht', e8, e4, dt (show (0 : Int) < p.length by omega), dt (show (1 : Int) ≤ p.length by omega), dt (Int.le_refl (0 : Int)), dt (show (0 : Int) ≤ 1 by omega), dt (Int.le_refl (p.length : Int)), dt (show (p.length : Int) = p.length from rfl), Bool.and_self, cond_true, Option.bind_some]
      by_cases hm0 : (most : Int) = 0
      · rw [dt hm0, cond_true]; exact leaf _ hd
      · rw [df hm0, cond_false]
        by_cases h4 : irem .u8 (p.getD 0 0) 4 < 2
        · rw [dt h4, cond_true]; exact leaf _ hd
        · rw [df h4, cond_false]
          obtain ⟨m, rfl⟩ : ∃ m, most = m + 1 := ⟨most - 1, by omega⟩
          have em : isub .i64 ((m + 1 : Nat) : Int) 1 = (m : Int) := by rw [isub64 (by omega) (by omega)]; omega
          rw [em]
          obtain ⟨e, t, r1, q1, q2, q3, q4, q5⟩ := rmakeEv (N := N) (most := m) (by omega) (by omega) hd
          obtain ⟨f, u, r2, s1, s2, s3, s4, s5⟩ := rmakeEv (N := N) (most := m) (by omega) (by omega) q5
          have hn := rNode (N := N) (n := p.getD 0 0 / 4 % 4) (by omega) (by omega) q2 s2 (by omega) (by omega) (by omega)
          rw [q1]
          simp only [Option.bind_some]
          rw [s1]
          simp only [Option.bind_some]
          rw [hn]
          refine ⟨_, _, r2, rfl, node_nf (by omega) q2 s2, ?_, ?_, s5⟩
          · have := node_depth (p.getD 0 0 / 4 % 4) e f t u; omega
          · rw [node_max]; omega
theorem node_keep {n a b : Int} {t u : Tr} (h : nf n (.mk a t b u)) : nodeE n a t b u = (n, .mk a t b u) := by
  obtain ⟨h0, h1, h2, h3, h4⟩ := h
  have := h1.base
  have := h2.base
  rw [nodeE_mk h4, show min a b = 0 by omega, Int.add_zero, Int.sub_zero, Int.sub_zero]
theorem own_eq : ∀ {N : Nat} {e : Int} {t : Tr}, nf e t → depthE t ≤ 16 → maxE e t ≤ 1048576 → depthE t + 1 < N → kinfolklaw02_own N (fromEv e t) = some (e, t)
  | 0, e, t, hw, hd, hm, hN => by omega
  | N + 1, e, t, hw, hd, hm, hN => by
    unfold kinfolklaw02_own kinfolklaw02_own_b
    cases t with
    | nil =>
      simp only [maxE] at hm
      simp only [fromEv, event_Leaf, df (show ¬ (1048576 : Int) < e by omega), cond_false, Option.bind_some]
    | mk a t b u =>
      have hk := node_keep hw
      simp only [depthE] at hN hd
      obtain ⟨w1, w2, w3, w4, w5⟩ := hw
      have g1 := maxE_ge w2
      have g2 := maxE_ge w3
      have g3 := w2.base
      have g4 := w3.base
      simp only [maxE] at hm
      have r1 := own_eq (N := N) w2 (by omega) (by omega) (by omega)
      have r2 := own_eq (N := N) w3 (by omega) (by omega) (by omega)
      have hn := evNode (N := N) (n := e) (by omega) (by omega) (by omega) (by omega) w1 w2 w3 (by omega)
      rw [hk] at hn
      obtain ⟨x, y, hx⟩ := fromEv_mk a t
      rw [hx] at r1
      simp only [fromEv, hx, r1, r2, hn, Option.bind_some]
/-- A tree that the law makes of bytes. -/
structure Made (e : Int) (t : Tr) : Prop where
  nf : nf e t
  depth : depthE t ≤ 6
  max : maxE e t ≤ 25
theorem made_eq {N : Nat} {p : List Int} (hN : 20 ≤ N) (hp : Bytes p) : ∃ e t, kinfolklaw02_made N p = some (e, t, fromEv e t) ∧ Made e t := by
  obtain ⟨e, t, r2, s1, s2, s3, s4, s5⟩ := rmakeEv (N := N) (most := 6) (p := List.take (min 60 p.length) p) (by omega) (by decide) (hp.take _)
  refine ⟨e, t, ?_, s2, s3, by omega⟩
  have hmin : (if (60 : Int) < (p.length : Int) then 60 else (p.length : Int)) = ((min 60 p.length : Nat) : Int) := by split <;> omega
  have s1' : kinfolkref02_Make N (List.take (min 60 p.length) p) 6 = some (fromEv e t, r2) := s1
  unfold kinfolklaw02_made
  simp only [hmin, Int.sub_zero, Int.toNat_natCast, dt (Int.le_refl (0 : Int)), dt (show (0 : Int) ≤ ((min 60 p.length : Nat) : Int) by omega), dt (show ((min 60 p.length : Nat) : Int) ≤ (p.length : Int) by omega), decide_true, Bool.and_self, cond_true, s1', Option.bind_some, own_eq s2 (by omega) (by omega) (show depthE t + 1 < N by omega)]
theorem awake_eq {N : Nat} (hN : 20 ≤ N) : kinfolklaw02_awake N = some true := by
  obtain ⟨k, rfl⟩ : ∃ k, N = k + 8 := ⟨N - 8, by omega⟩
  have h1 : event_Parse (k + 8) (⟨#[40, 49, 44, 50, 44, 48, 41]⟩ : ByteArray) = some (1, .mk 2 .nil 0 .nil, 0) := evParse (N := k + 8) (l := [40, 49, 44, 50, 44, 48, 41]) (by simp only [List.length_cons, List.length_nil]; omega) (by decide)
  have h2 : event_Parse (k + 8) (⟨#[40, 48, 44, 48, 44, 52, 41]⟩ : ByteArray) = some (0, .mk 0 .nil 4 .nil, 0) := evParse (N := k + 8) (l := [40, 48, 44, 48, 44, 52, 41]) (by simp only [List.length_cons, List.length_nil]; omega) (by decide)
  have n1 : nf 1 (.mk 2 .nil 0 .nil) := by simp [nf]
  have n2 : nf 0 (.mk 0 .nil 4 .nil) := by simp [nf]
  have n3 : nf 3 (.mk 0 .nil 1 .nil) := by simp [nf]
  have h3 := evJoin (d := 1) (N := k + 8) (by omega) n1 n2 (by simp [depthE]) (by simp [depthE]) (by simp [maxE]; omega) (by simp [maxE]; omega)
  have h4 : joinF 1 1 (.mk 2 .nil 0 .nil) 0 (.mk 0 .nil 4 .nil) = (3, .mk 0 .nil 1 .nil) := join_is n1 n2 n3 (by simp [depthE]) (by simp [depthE]) (by simp [depthE]) rfl
  rw [h4] at h3
  have hd : ∀ u : Nat, u < 10 → decDigits u = [UInt8.ofNat (48 + u)] := fun u hu => dec_small hu
  have hx : textE 3 (.mk 0 .nil 1 .nil) = [40, 51, 44, 48, 44, 49, 41] := by
    simp only [textE, Int.toNat_zero, Int.toNat_one, show (3 : Int).toNat = 3 from rfl, hd 3 (by decide), hd 0 (by decide), hd 1 (by decide)]
    rfl
  have h5 := evText (N := k + 8) (e := 3) (t := .mk 0 .nil 1 .nil) (by simp only [depthE]; omega) n3 (by simp [maxE]; omega) (by rw [hx]; decide)
  rw [hx] at h5
  unfold kinfolklaw02_awake
  rw [h1, h2]
  simp only [Option.bind_some, decide_true, cond_true, h3, h5]
  exact congrArg some (decide_eq_true rfl)
theorem Made.leq {N : Nat} (hN : 20 ≤ N) {e f : Int} {t u : Tr} (h1 : Made e t) (h2 : Made f u) : event_Leq N e t f u = some (leL (hts 6 e t) (hts 6 f u)) := by
  have h3 := h1.depth
  have h4 := h2.depth
  have h5 := h1.max
  have h6 := h2.max
  rw [evLeq (by omega) h1.nf h2.nf (by omega) (by omega), leq_hts h1.nf h2.nf h3 h4]
theorem Made.join {N : Nat} (hN : 20 ≤ N) {e f : Int} {t u : Tr} (h1 : Made e t) (h2 : Made f u) : ∃ g v, event_Join N e t f u = some (g, v) ∧ Made g v ∧ hts 6 g v = maxL (hts 6 e t) (hts 6 f u) := by
  have h3 := h1.depth
  have h4 := h2.depth
  have h5 := h1.max
  have h6 := h2.max
  obtain ⟨a1, a2, a3, a4⟩ := join_ok h1.nf h2.nf h3 h4
  exact ⟨_, _, evJoin (by omega) h1.nf h2.nf h3 h4 (by omega) (by omega), ⟨a1, a2, by omega⟩, a3⟩
theorem Made.same {N : Nat} (hN : 20 ≤ N) {e f : Int} {t u : Tr} (h1 : Made e t) (h2 : Made f u) : ∃ b, event_Same N e t f u = some b ∧ (b = true ↔ (e = f ∧ t = u)) := by
  have h3 := h1.depth
  have h4 := h2.depth
  have h5 := h1.max
  have h6 := h2.max
  exact evSame (d := 6) (by omega) h3 h4 h1.nf h2.nf (by omega) (by omega)
theorem Made.same_of {N : Nat} (hN : 20 ≤ N) {e f : Int} {t u : Tr} (h1 : Made e t) (h2 : Made f u) (h : hts 6 e t = hts 6 f u) : event_Same N e t f u = some true := by
  obtain ⟨b, q1, q2⟩ := h1.same hN h2
  rw [q1, q2.2 (hts_inj h1.nf h2.nf h1.depth h2.depth h)]
theorem eventJoins_true {N : Nat} {p q r : List Int} (hN : 20 ≤ N) (hp : Bytes p) (hq : Bytes q) (hr : Bytes r) : kinfolklaw02_EventJoins N p q r = some true := by
  obtain ⟨e1, t1, a1, a2⟩ := made_eq hN hp
  obtain ⟨e2, t2, b1, b2⟩ := made_eq hN hq
  obtain ⟨e3, t3, c1, c2⟩ := made_eq hN hr
  obtain ⟨e4, t4, d1, d2, d3⟩ := a2.join hN b2
  obtain ⟨e5, t5, f1, f2, f3⟩ := d2.join hN c2
  obtain ⟨e6, t6, g1, g2, g3⟩ := b2.join hN a2
  obtain ⟨e7, t7, i1, i2, i3⟩ := b2.join hN c2
  obtain ⟨e8, t8, j1, j2, j3⟩ := a2.join hN i2
  obtain ⟨e9, t9, k1, k2, k3⟩ := a2.join hN a2
  have s1 := d2.same_of hN g2 (by rw [d3, g3, maxL_comm])
  have s2 := f2.same_of hN j2 (by rw [f3, d3, j3, i3, maxL_assoc])
  have s3 := k2.same_of hN a2 (by rw [k3, maxL_self])
  unfold kinfolklaw02_EventJoins
  rw [awake_eq hN, a1, b1, c1]
  simp only [Option.bind_some, cond_true, d1, f1, g1, i1, j1, k1, s1, s2, s3, a2.leq hN c2, b2.leq hN c2, d2.leq hN c2, a2.leq hN b2]
  cases h5 : leL (hts 6 e1 t1) (hts 6 e3 t3) with
  | true =>
    cases h6 : leL (hts 6 e2 t2) (hts 6 e3 t3) with
    | true =>
      have h7 : leL (hts 6 e4 t4) (hts 6 e3 t3) = true := by rw [d3]; exact leL_lub h5 h6
      simp only [cond_true, h7]
      cases leL (hts 6 e1 t1) (hts 6 e2 t2) <;> rfl
    | false =>
      simp only [cond_true, cond_false]
      cases leL (hts 6 e1 t1) (hts 6 e2 t2) <;> rfl
  | false =>
    cases h6 : leL (hts 6 e1 t1) (hts 6 e2 t2) with
    | false => rfl
    | true =>
      cases h7 : leL (hts 6 e2 t2) (hts 6 e3 t3) with
      | false => rfl
      | true => rw [leL_trans h6 h7] at h5; cases h5
theorem Made.text {N : Nat} (hN : 40 ≤ N) {e : Int} {t : Tr} (h : Made e t) : event_Event_Text N e t = some (mkS (textE e t)) := by
  have h3 := h.depth
  have h5 := h.max
  have hl := text_len h.nf (by omega)
  have hp : 2 ^ depthE t ≤ 2 ^ 6 := Nat.pow_le_pow_right (by decide) h3
  exact evText (by omega) h.nf (by omega) (by omega)
theorem like_of {N : Nat} (hN : 60 ≤ N) {e : Int} {t : Tr} (h : nf e t) (hd : depthE t ≤ 17) (hm : maxE e t ≤ 1099511627776) : kinfolklaw02_like N e t (fromEv e t) = some true := evLike (by omega) (by omega) h hm
theorem eventForms_true {N : Nat} {p q : List Int} {n : Int} (hN : 60 ≤ N) (hp : Bytes p) (hq : Bytes q) (hn : 0 ≤ n ∧ n ≤ 255) : kinfolklaw02_EventForms N p q n = some true := by
  obtain ⟨e1, t1, a1, a2⟩ := made_eq (N := N) (by omega) hp
  obtain ⟨e2, t2, b1, b2⟩ := made_eq (N := N) (by omega) hq
  have h3 := a2.depth
  have h4 := b2.depth
  have h5 := a2.max
  have h6 := b2.max
  have k1 := evNode (N := N) (n := n) (by omega) (by omega) (by omega) (by omega) hn.1 a2.nf b2.nf (by omega)
  have k2 := rNode (N := N) (n := n) (by omega) (by omega) a2.nf b2.nf (by omega) (by omega) (by omega)
  have k3 := node_nf hn.1 a2.nf b2.nf
  have k4 := node_depth n e1 e2 t1 t2
  have k5 := node_max n e1 e2 t1 t2
  generalize hz : nodeE n e1 t1 e2 t2 = z at *
  obtain ⟨e, t⟩ := z
  simp only at k1 k2 k3 k4 k5
  have hw : IntKind.u64.wrap n = n := u64_in hn.1 (by omega)
  have hl := text_len k3 (by omega)
  have hpow : 2 ^ depthE t ≤ 2 ^ 7 := Nat.pow_le_pow_right (by decide) (by omega)
  have g1 := rDepth (N := N) (e := e) (t := t) (by omega) (by omega)
  have g2 := rHeights (d := depthE t) (N := N) (e := e) (t := t) (by omega) (by omega) k3 (by omega)
  have gm := maxE_ge k3
  have htop : ∀ {d : Nat} {e : Int} {t : Tr}, nf e t → ∀ x ∈ hts d e t, 0 ≤ x ∧ x ≤ maxE e t := by
    intro d
    induction d with
    | zero =>
      intro e t h x hx
      simp only [hts, List.mem_singleton] at hx
      have := maxE_ge h
      have := h.base
      omega
    | succ d ih =>
      intro e t h x hx
      rw [hts_lr] at hx
      have := left_max (e := e) (t := t)
      have := right_max (e := e) (t := t)
      rcases List.mem_append.1 hx with hx | hx
      · have := ih (left_nf h) x hx; omega
      · have := ih (right_nf h) x hx; omega
  have g3 := rOf (d := depthE t) (N := N) (l := hts (depthE t) e t) (by omega) (by omega) (hts_len _ _ _) (fun x hx => by have := htop k3 x hx; omega)
  rw [ofH_hts k3 (Nat.le_refl _)] at g3
  have g4 := rText (N := N) (e := e) (t := t) (by omega) k3 (by omega) (by omega)
  have g5 := evText (N := N) (e := e) (t := t) (by omega) k3 (by omega) (by omega)
  have z1 : nf 0 T_event_halves.nil := Int.le_refl 0
  have l1 := like_of hN a2.nf (by omega) (by omega)
  have l2 := like_of hN k3 (by omega) (by omega)
  have l3 := like_of (e := 0) (t := .nil) hN z1 (by simp [depthE]) (by simp [maxE])
  have l3' : kinfolklaw02_like N 0 T_event_halves.nil (T_kinfolkref02_Event.mk 0 T_kinfolkref02_Event.nil T_kinfolkref02_Event.nil) = some true := l3
  unfold kinfolklaw02_EventForms
  rw [awake_eq (by omega), a1, b1, hw]
  simp only [Option.bind_some, cond_true, k1, k2, g1, g2, g3, l1, l2, decide_true, g4, g5, kinfolkref02_Leaf, l3']
theorem clone_eq {l : List Int} (h : l ≠ []) (hl : l.length ≤ 536870912) : slices_Clone_uint64_uint64 l = some l := by
  unfold slices_Clone_uint64_uint64
  have h0 : Nat.beq l.length 0 = false := by
    cases l with
    | nil => exact absurd rfl h
    | cons => rfl
  rw [h0, List.nil_append, fits_ok hl]
  rfl
theorem leL_snoc {a b : List Int} {x y : Int} (h : a.length = b.length) : leL (a ++ [x]) (b ++ [y]) = (leL a b && decide (x ≤ y)) := by
  rw [leL_app h]; simp [leL]
theorem maxL_snoc {a b : List Int} {x y : Int} (h : a.length = b.length) : maxL (a ++ [x]) (b ++ [y]) = maxL a b ++ [max x y] := by
  rw [maxL_app h]; simp [maxL]
theorem leq_go {l m : List Int} {n n2 : Int} {t t2 : Tr} (hl : l.length = m.length) (hs : l.length ≤ 1000000) : ∀ (j k : Nat), k + j = l.length →
    runL (kinfolklaw02_EventLeq_L0_step l (l.length : Int) n t n2 t2 m) (leL (l.take k) (m.take k), (k : Int), maxL (l.take k) (m.take k) ++ l.drop k) = some (leL l m, maxL l m)
  | 0, k, h => by
    refine runL_done ?_
    unfold kinfolklaw02_EventLeq_L0_step
    simp only []
    rw [df (show ¬ (k : Int) < (l.length : Int) by omega), cond_false, List.take_of_length_le (by omega), List.take_of_length_le (by omega), List.drop_of_length_le (by omega), List.append_nil]
  | j + 1, k, h => by
    have hk : k < l.length := by omega
    have hk2 : k < m.length := by omega
    rw [← leq_go hl hs j (k + 1) (by omega)]
    refine runL_next ?_
    have hlen : (l.take k).length = (m.take k).length := by rw [List.length_take, List.length_take]; omega
    have hml : (maxL (l.take k) (m.take k)).length = k := by rw [maxL_len hlen, List.length_take]; omega
    have e1 : l.getD k 0 = l[k] := by rw [List.getD_eq_getElem?_getD, List.getElem?_eq_getElem hk]; rfl
    have e2 : m.getD k 0 = m[k] := by rw [List.getD_eq_getElem?_getD, List.getElem?_eq_getElem hk2]; rfl
    have e3 : (if l[k] < m[k] then m[k] else l[k]) = max l[k] m[k] := by split <;> omega
    have e4 : (maxL (l.take k) (m.take k) ++ l.drop k).set k (max l[k] m[k]) = maxL (l.take (k + 1)) (m.take (k + 1)) ++ l.drop (k + 1) := by
      rw [List.take_succ_eq_append_getElem hk, List.take_succ_eq_append_getElem hk2, maxL_snoc hlen, List.set_append_right _ _ (by omega), hml, Nat.sub_self, List.drop_eq_getElem_cons hk, List.set_cons_zero, List.append_assoc]
      rfl
    have e5 : ((maxL (l.take k) (m.take k) ++ l.drop k).length : Int) = (l.length : Int) := by rw [List.length_append, hml, List.length_drop]; omega
    unfold kinfolklaw02_EventLeq_L0_step
    simp only [Int.toNat_natCast, Nat.zero_add, e1, e2, e3, e4, e5, dt (show (k : Int) < (l.length : Int) by omega), dt (show (k : Int) < (m.length : Int) by omega), dt (show (0 : Int) ≤ (k : Int) by omega), Bool.and_self, cond_true]
    rw [iadd64 (by omega) (by omega), List.take_succ_eq_append_getElem (l := l) hk, List.take_succ_eq_append_getElem (l := m) hk2, leL_snoc hlen, ← List.take_succ_eq_append_getElem hk, ← List.take_succ_eq_append_getElem hk2]
    cases leL (l.take k) (m.take k)
    · rfl
    · simp only [cond_true, Bool.true_and]; rfl
theorem eventLeq_true {N : Nat} {p q : List Int} (hN : 60 ≤ N) (hp : Bytes p) (hq : Bytes q) : kinfolklaw02_EventLeq N p q = some true := by
  obtain ⟨e1, t1, a1, a2⟩ := made_eq (N := N) (by omega) hp
  obtain ⟨e2, t2, b1, b2⟩ := made_eq (N := N) (by omega) hq
  have h3 := a2.depth
  have h4 := b2.depth
  have h5 := a2.max
  have h6 := b2.max
  obtain ⟨d, hd⟩ : ∃ d, d = max (depthE t1) (depthE t2) := ⟨_, rfl⟩
  have hdi : (if (depthE t1 : Int) < (depthE t2 : Int) then (depthE t2 : Int) else (depthE t1 : Int)) = (d : Int) := by split <;> omega
  have hpow : 2 ^ d ≤ 2 ^ 6 := Nat.pow_le_pow_right (by decide) (by omega)
  have hpos : 0 < 2 ^ d := Nat.two_pow_pos d
  have g1 := rDepth (N := N) (e := e1) (t := t1) (by omega) (by omega)
  have g2 := rDepth (N := N) (e := e2) (t := t2) (by omega) (by omega)
  have g3 := rHeights (d := d) (N := N) (e := e1) (t := t1) (by omega) (by omega) a2.nf (by omega)
  have g4 := rHeights (d := d) (N := N) (e := e2) (t := t2) (by omega) (by omega) b2.nf (by omega)
  have hl1 := hts_len d e1 t1
  have hl2 := hts_len d e2 t2
  have hne : hts d e1 t1 ≠ [] := fun h => by rw [h] at hl1; simp only [List.length_nil] at hl1; omega
  have g5 := clone_eq hne (by omega)
  have hgo := leq_go (n := e1) (n2 := e2) (t := t1) (t2 := t2) (hl1.trans hl2.symm) (by omega) (hts d e1 t1).length 0 (by omega)
  have hgo' : runL (kinfolklaw02_EventLeq_L0_step (hts d e1 t1) ((hts d e1 t1).length : Int) e1 t1 e2 t2 (hts d e2 t2)) (true, 0, hts d e1 t1) = some (leL (hts d e1 t1) (hts d e2 t2), maxL (hts d e1 t1) (hts d e2 t2)) := hgo
  obtain ⟨j1, j2, j3, j4⟩ := join_ok (d := d) a2.nf b2.nf (by omega) (by omega)
  have g6 := evJoin (d := d) (N := N) (by omega) a2.nf b2.nf (by omega) (by omega) (by omega) (by omega)
  generalize hz : joinF d e1 t1 e2 t2 = z at *
  obtain ⟨e, t⟩ := z
  simp only at j1 j2 j3 j4
  have hlq : ∀ {e f : Int} {t u : Tr}, nf e t → nf f u → depthE t ≤ d → depthE u ≤ d → maxE e t ≤ 25 → maxE f u ≤ 25 → event_Leq N e t f u = some (leL (hts d e t) (hts d f u)) := by
    intro e f t u n1 n2 d1 d2 m1 m2
    rw [evLeq (by omega) n1 n2 (by omega) (by omega), leq_hts n1 n2 d1 d2]
  have g7 := hlq a2.nf b2.nf (by omega) (by omega) h5 h6
  have g8 := hlq a2.nf j1 (by omega) j2 h5 (by omega)
  have g9 := hlq b2.nf j1 (by omega) j2 h6 (by omega)
  rw [j3, leL_max1 (hl1.trans hl2.symm)] at g8
  rw [j3, leL_max2 (hl1.trans hl2.symm)] at g9
  obtain ⟨b, s1, s2⟩ := evSame (N := N) (d := d) (by omega) (by omega) (by omega) a2.nf b2.nf (by omega) (by omega)
  have x1 := a2.text (N := N) (by omega)
  have x2 := b2.text (N := N) (by omega)
  have hb : (b == decide (mkS (textE e1 t1) = mkS (textE e2 t2))) = true := by
    have hi : mkS (textE e1 t1) = mkS (textE e2 t2) ↔ b = true := by rw [mkS_inj, text_iff a2.nf b2.nf, s2]
    cases b with
    | true => rw [dt (hi.2 rfl)]; rfl
    | false => rw [df (fun h => by have := hi.1 h; cases this)]; rfl
  have htop : ∀ x ∈ maxL (hts d e1 t1) (hts d e2 t2), 0 ≤ x ∧ x ≤ 1099511627776 := by
    rw [← j3]
    have htop : ∀ {d : Nat} {e : Int} {t : Tr}, nf e t → ∀ x ∈ hts d e t, 0 ≤ x ∧ x ≤ maxE e t := by
      intro d
      induction d with
      | zero =>
        intro e t h x hx
        simp only [hts, List.mem_singleton] at hx
        have := maxE_ge h
        have := h.base
        omega
      | succ d ih =>
        intro e t h x hx
        rw [hts_lr] at hx
        have := left_max (e := e) (t := t)
        have := right_max (e := e) (t := t)
        rcases List.mem_append.1 hx with hx | hx
        · have := ih (left_nf h) x hx; omega
        · have := ih (right_nf h) x hx; omega
    intro x hx
    have := htop j1 x hx
    omega
  have g10 := rOf (d := d) (N := N) (l := maxL (hts d e1 t1) (hts d e2 t2)) (by omega) (by omega) (by rw [← j3, hts_len]) htop
  rw [← j3, ofH_hts j1 j2] at g10
  rw [j3] at g10
  have g11 := like_of hN j1 (by omega) (by omega)
  unfold kinfolklaw02_EventLeq
  rw [awake_eq (by omega), a1, b1]
  simp only [Option.bind_some, cond_true, g1, g2, hdi, g3, g4, g5, List.take_length, hgo', g6, g7, beq_self_eq_true, s1, x1, x2, hb, g10, g11, g8, g9]
  cases hle : leL (hts d e1 t1) (hts d e2 t2) with
  | false => rfl
  | true =>
    have hj : e = e2 ∧ t = t2 := hts_inj j1 b2.nf j2 (by omega) (by rw [j3, leL_max_eq (hl1.trans hl2.symm) hle])
    obtain ⟨rfl, rfl⟩ := hj
    simp only [cond_true, evSame_self (N := N) (d := d) (by omega) j2 j1 (by omega), Option.bind_some]
end Go.Proofs.YtjjakdmcnkldoaaDoor
