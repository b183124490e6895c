/- The law's own trees; awake; the laws of the counting trees. Plain. -/
import Derived.Test.YtjjakdmcnkldoaaDoorHT6
set_option linter.unusedVariables false
set_option linter.unusedSimpArgs false
namespace Go.Proofs.YtjjakdmcnkldoaaDoor
open Go.Ev Go.Lib

theorem _root_.Go.Ev.Bytes.drop {l : List Int} (h : Bytes l) (n : Nat) : Bytes (l.drop n) := fun x hx => h x (List.mem_of_mem_drop hx)
theorem _root_.Go.Ev.Bytes.take {l : List Int} (h : Bytes l) (n : Nat) : Bytes (l.take n) := fun x hx => h x (List.mem_of_mem_take hx)
theorem take_drop1 (l : List Int) (k : Nat) : List.take ((l.length : Int) - k).toNat (List.drop k l) = List.drop k l := List.take_of_length_le (by simp)
theorem irem8 {b : Int} {c : Nat} (h : 0 ≤ b) : irem .u8 b (c : Int) = b % c := by rw [irem, Int.tmod_eq_emod_of_nonneg h]
theorem iquo8 {b : Int} (h : 0 ≤ b ∧ b < 256) : iquo .u8 b 4 = b / 4 := by
  rw [iquo, Int.tdiv_eq_ediv_of_nonneg h.1, IntKind.wrap_u8]; omega
theorem rmakeEv : ∀ {N most : Nat} {p : List Int}, most + 1 < N → most ≤ 1000 → Bytes p → ∃ e t rest, kinfolkref02_Make N p (most : Int) = some (fromEv e t, rest) ∧ nf e t ∧ depthE t ≤ most ∧ maxE e t ≤ 3 * most + 7 ∧ Bytes rest
  | 0, most, p, hN, hm, h => by omega
  | N + 1, most, p, hN, hm, h => by
    unfold kinfolkref02_Make kinfolkref02_Make_b kinfolkref02_Leaf
    by_cases h0 : (p.length : Int) = 0
    · rw [dt h0]
      exact ⟨0, .nil, [], rfl, Int.le_refl 0, Nat.zero_le _, by simp only [maxE]; omega, fun x hx => by simp at hx⟩
    · have hl : 0 < p.length := by omega
      have hb := h.at hl
      have e8 : IntKind.u64.wrap (irem .u8 (iquo .u8 (p.getD 0 0) 4) 8) = p.getD 0 0 / 4 % 8 := by
        rw [iquo8 hb, show (8 : Int) = ((8 : Nat) : Int) from rfl, irem8 (by omega), u64_in (by omega) (by omega)]
      have e4 : IntKind.u64.wrap (irem .u8 (iquo .u8 (p.getD 0 0) 4) 4) = p.getD 0 0 / 4 % 4 := by
        rw [iquo8 hb, show (4 : Int) = ((4 : Nat) : Int) from rfl, irem8 (by omega), u64_in (by omega) (by omega)]
      have leaf : ∀ q : List Int, Bytes q → ∃ e t rest, some (T_kinfolkref02_Event.mk (p.getD 0 0 / 4 % 8) T_kinfolkref02_Event.nil T_kinfolkref02_Event.nil, q) = some (fromEv e t, rest) ∧ nf e t ∧ depthE t ≤ most ∧ maxE e t ≤ 3 * most + 7 ∧ Bytes rest :=
        fun q hq => ⟨p.getD 0 0 / 4 % 8, .nil, q, rfl, by simp only [nf]; omega, Nat.zero_le _, by simp only [maxE]; omega, hq⟩
      have ht := take_drop1 p 1
      have ht' : List.take ((p.length : Int) - 1).toNat (List.drop 1 p) = List.drop 1 p := ht
      have hd := h.drop 1
      simp only [df h0, cond_false, ht', e8, e4, dt (show (0 : Int) < p.length by omega), dt (show (1 : Int) ≤ p.length by omega), dt (Int.le_refl (0 : Int)), dt (show (0 : Int) ≤ 1 by omega), dt (Int.le_refl (p.length : Int)), dt (show (p.length : Int) = p.length from rfl), Bool.and_self, cond_true, Option.bind_some]
      by_cases hm0 : (most : Int) = 0
      · rw [dt hm0, cond_true]; exact leaf _ hd
      · rw [df hm0, cond_false]
        by_cases h4 : irem .u8 (p.getD 0 0) 4 < 2
        · rw [dt h4, cond_true]; exact leaf _ hd
        · rw [df h4, cond_false]
          obtain ⟨m, rfl⟩ : ∃ m, most = m + 1 := ⟨most - 1, by omega⟩
          have em : isub .i64 ((m + 1 : Nat) : Int) 1 = (m : Int) := by rw [isub64 (by omega) (by omega)]; omega
          rw [em]
          obtain ⟨e, t, r1, q1, q2, q3, q4, q5⟩ := rmakeEv (N := N) (most := m) (by omega) (by omega) hd
          obtain ⟨f, u, r2, s1, s2, s3, s4, s5⟩ := rmakeEv (N := N) (most := m) (by omega) (by omega) q5
          have hn := rNode (N := N) (n := p.getD 0 0 / 4 % 4) (by omega) (by omega) q2 s2 (by omega) (by omega) (by omega)
          rw [q1]
          simp only [Option.bind_some]
          rw [s1]
          simp only [Option.bind_some]
          rw [hn]
          refine ⟨_, _, r2, rfl, node_nf (by omega) q2 s2, ?_, ?_, s5⟩
          · have := node_depth (p.getD 0 0 / 4 % 4) e f t u; omega
          · rw [node_max]; omega
theorem node_keep {n a b : Int} {t u : Tr} (h : nf n (.mk a t b u)) : nodeE n a t b u = (n, .mk a t b u) := by
  obtain ⟨h0, h1, h2, h3, h4⟩ := h
  have := h1.base
  have := h2.base
  rw [nodeE_mk h4, show min a b = 0 by omega, Int.add_zero, Int.sub_zero, Int.sub_zero]
theorem own_eq : ∀ {N : Nat} {e : Int} {t : Tr}, nf e t → depthE t ≤ 16 → maxE e t ≤ 1048576 → depthE t + 1 < N → kinfolklaw02_own N (fromEv e t) = some (e, t)
  | 0, e, t, hw, hd, hm, hN => by omega
  | N + 1, e, t, hw, hd, hm, hN => by
    unfold kinfolklaw02_own kinfolklaw02_own_b
    cases t with
    | nil =>
      simp only [maxE] at hm
      simp only [fromEv, event_Leaf, df (show ¬ (1048576 : Int) < e by omega), cond_false, Option.bind_some]
    | mk a t b u =>
      have hk := node_keep hw
      simp only [depthE] at hN hd
      obtain ⟨w1, w2, w3, w4, w5⟩ := hw
      have g1 := maxE_ge w2
      have g2 := maxE_ge w3
      have g3 := w2.base
      have g4 := w3.base
      simp only [maxE] at hm
      have r1 := own_eq (N := N) w2 (by omega) (by omega) (by omega)
      have r2 := own_eq (N := N) w3 (by omega) (by omega) (by omega)
      have hn := evNode (N := N) (n := e) (by omega) (by omega) (by omega) (by omega) w1 w2 w3 (by omega)
      rw [hk] at hn
      obtain ⟨x, y, hx⟩ := fromEv_mk a t
      rw [hx] at r1
      simp only [fromEv, hx, r1, r2, hn, Option.bind_some]
/-- A tree that the law makes of bytes. -/
structure Made (e : Int) (t : Tr) : Prop where
  nf : nf e t
  depth : depthE t ≤ 6
  max : maxE e t ≤ 25
theorem made_eq {N : Nat} {p : List Int} (hN : 20 ≤ N) (hp : Bytes p) : ∃ e t, kinfolklaw02_made N p = some (e, t, fromEv e t) ∧ Made e t := by
  obtain ⟨e, t, r2, s1, s2, s3, s4, s5⟩ := rmakeEv (N := N) (most := 6) (p := List.take (min 60 p.length) p) (by omega) (by decide) (hp.take _)
  refine ⟨e, t, ?_, s2, s3, by omega⟩
  have hmin : (if (60 : Int) < (p.length : Int) then 60 else (p.length : Int)) = ((min 60 p.length : Nat) : Int) := by split <;> omega
  have s1' : kinfolkref02_Make N (List.take (min 60 p.length) p) 6 = some (fromEv e t, r2) := s1
  unfold kinfolklaw02_made
  simp only [hmin, Int.sub_zero, Int.toNat_natCast, dt (Int.le_refl (0 : Int)), dt (show (0 : Int) ≤ ((min 60 p.length : Nat) : Int) by omega), dt (show ((min 60 p.length : Nat) : Int) ≤ (p.length : Int) by omega), decide_true, Bool.and_self, cond_true, s1', Option.bind_some, own_eq s2 (by omega) (by omega) (show depthE t + 1 < N by omega)]
theorem awake_eq {N : Nat} (hN : 20 ≤ N) : kinfolklaw02_awake N = some true := by
  obtain ⟨k, rfl⟩ : ∃ k, N = k + 8 := ⟨N - 8, by omega⟩
  have h1 : event_Parse (k + 8) (⟨#[40, 49, 44, 50, 44, 48, 41]⟩ : ByteArray) = some (1, .mk 2 .nil 0 .nil, 0) := evParse (N := k + 8) (l := [40, 49, 44, 50, 44, 48, 41]) (by simp only [List.length_cons, List.length_nil]; omega) (by decide)
  have h2 : event_Parse (k + 8) (⟨#[40, 48, 44, 48, 44, 52, 41]⟩ : ByteArray) = some (0, .mk 0 .nil 4 .nil, 0) := evParse (N := k + 8) (l := [40, 48, 44, 48, 44, 52, 41]) (by simp only [List.length_cons, List.length_nil]; omega) (by decide)
  have n1 : nf 1 (.mk 2 .nil 0 .nil) := by simp [nf]
  have n2 : nf 0 (.mk 0 .nil 4 .nil) := by simp [nf]
  have n3 : nf 3 (.mk 0 .nil 1 .nil) := by simp [nf]
  have h3 := evJoin (d := 1) (N := k + 8) (by omega) n1 n2 (by simp [depthE]) (by simp [depthE]) (by simp [maxE]; omega) (by simp [maxE]; omega)
  have h4 : joinF 1 1 (.mk 2 .nil 0 .nil) 0 (.mk 0 .nil 4 .nil) = (3, .mk 0 .nil 1 .nil) := join_is n1 n2 n3 (by simp [depthE]) (by simp [depthE]) (by simp [depthE]) rfl
  rw [h4] at h3
  have hd : ∀ u : Nat, u < 10 → decDigits u = [UInt8.ofNat (48 + u)] := fun u hu => dec_small hu
  have hx : textE 3 (.mk 0 .nil 1 .nil) = [40, 51, 44, 48, 44, 49, 41] := by
    simp only [textE, Int.toNat_zero, Int.toNat_one, show (3 : Int).toNat = 3 from rfl, hd 3 (by decide), hd 0 (by decide), hd 1 (by decide)]
    rfl
  have h5 := evText (N := k + 8) (e := 3) (t := .mk 0 .nil 1 .nil) (by simp only [depthE]; omega) n3 (by simp [maxE]; omega) (by rw [hx]; decide)
  rw [hx] at h5
  unfold kinfolklaw02_awake
  rw [h1, h2]
  simp only [Option.bind_some, decide_true, cond_true, h3, h5]
  exact congrArg some (decide_eq_true rfl)
theorem Made.leq {N : Nat} (hN : 20 ≤ N) {e f : Int} {t u : Tr} (h1 : Made e t) (h2 : Made f u) : event_Leq N e t f u = some (leL (hts 6 e t) (hts 6 f u)) := by
  have h3 := h1.depth
  have h4 := h2.depth
  have h5 := h1.max
  have h6 := h2.max
  rw [evLeq (by omega) h1.nf h2.nf (by omega) (by omega), leq_hts h1.nf h2.nf h3 h4]
theorem Made.join {N : Nat} (hN : 20 ≤ N) {e f : Int} {t u : Tr} (h1 : Made e t) (h2 : Made f u) : ∃ g v, event_Join N e t f u = some (g, v) ∧ Made g v ∧ hts 6 g v = maxL (hts 6 e t) (hts 6 f u) := by
  have h3 := h1.depth
  have h4 := h2.depth
  have h5 := h1.max
  have h6 := h2.max
  obtain ⟨a1, a2, a3, a4⟩ := join_ok h1.nf h2.nf h3 h4
  exact ⟨_, _, evJoin (by omega) h1.nf h2.nf h3 h4 (by omega) (by omega), ⟨a1, a2, by omega⟩, a3⟩
theorem Made.same {N : Nat} (hN : 20 ≤ N) {e f : Int} {t u : Tr} (h1 : Made e t) (h2 : Made f u) : ∃ b, event_Same N e t f u = some b ∧ (b = true ↔ (e = f ∧ t = u)) := by
  have h3 := h1.depth
  have h4 := h2.depth
  have h5 := h1.max
  have h6 := h2.max
  exact evSame (d := 6) (by omega) h3 h4 h1.nf h2.nf (by omega) (by omega)
theorem Made.same_of {N : Nat} (hN : 20 ≤ N) {e f : Int} {t u : Tr} (h1 : Made e t) (h2 : Made f u) (h : hts 6 e t = hts 6 f u) : event_Same N e t f u = some true := by
  obtain ⟨b, q1, q2⟩ := h1.same hN h2
  rw [q1, q2.2 (hts_inj h1.nf h2.nf h1.depth h2.depth h)]
theorem Made.text {N : Nat} (hN : 40 ≤ N) {e : Int} {t : Tr} (h : Made e t) : event_Event_Text N e t = some (mkS (textE e t)) := by
  have h3 := h.depth
  have h5 := h.max
  have hl := text_len h.nf (by omega)
  have hp : 2 ^ depthE t ≤ 2 ^ 6 := Nat.pow_le_pow_right (by decide) h3
  exact evText (by omega) h.nf (by omega) (by omega)
theorem like_of {N : Nat} (hN : 60 ≤ N) {e : Int} {t : Tr} (h : nf e t) (hd : depthE t ≤ 17) (hm : maxE e t ≤ 1099511627776) : kinfolklaw02_like N e t (fromEv e t) = some true := evLike (by omega) (by omega) h hm
theorem leL_snoc {a b : List Int} {x y : Int} (h : a.length = b.length) : leL (a ++ [x]) (b ++ [y]) = (leL a b && decide (x ≤ y)) := by
  rw [leL_app h]; simp [leL]
theorem maxL_snoc {a b : List Int} {x y : Int} (h : a.length = b.length) : maxL (a ++ [x]) (b ++ [y]) = maxL a b ++ [max x y] := by
  rw [maxL_app h]; simp [maxL]
end Go.Proofs.YtjjakdmcnkldoaaDoor
