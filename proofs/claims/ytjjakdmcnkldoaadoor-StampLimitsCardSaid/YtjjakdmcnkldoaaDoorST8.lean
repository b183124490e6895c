/- The laws of the stamps: awake; ticked; grown, filled. Plain. -/
import Derived.Test.YtjjakdmcnkldoaaDoorST7
set_option linter.unusedVariables false
set_option linter.unusedSimpArgs false
namespace Go.Proofs.YtjjakdmcnkldoaaDoor
open Go.Ev Go.Lib

theorem fork_eq {N : Nat} {i : Bool} {t : Idt} {e : Int} {u : Tr} (hN : depthI t + 1 < N) (h : nfI i t) (hd : depthI t < 16) : ∃ a v b w, stamp_Stamp_Fork N i t e u = some (a, v, e, u, b, w, e, u, 0) ∧ kinfolkref01_Split N (fromI i t) = some (fromI a v, fromI b w) ∧ nfI a v ∧ nfI b w ∧ depthI v ≤ depthI t + 1 ∧ depthI w ≤ depthI t + 1 ∧
    ∀ d, depthI t + 1 ≤ d → disjL (bits d a v) (bits d b w) = true ∧ orL (bits d a v) (bits d b w) = bits d i t := by
  obtain ⟨a, v, b, w, s1, s2, s3, s4, s5, s6, s7⟩ := idSplit hN h hd
  refine ⟨a, v, b, w, ?_, s2, s3, s4, s5, s6, s7⟩
  unfold stamp_Stamp_Fork
  rw [s1]
  simp only [Option.bind_some, decide_true, cond_true]
theorem tick_fill {N : Nat} {i : Bool} {t : Idt} {e : Int} {u : Tr} (hN : 20 ≤ N) (hi : nfI i t) (h : nf e u) (hd : depthE u ≤ 16) (hm : maxE e u ≤ 1048576) (hf : fillF i t e u ≠ (e, u)) : stamp_Stamp_Tick N i t e u = some ((fillF i t e u).1, (fillF i t e u).2, 0) := by
  obtain ⟨p1, p2, p3⟩ := fill_ok (t := t) (i := i) h
  obtain ⟨b, q1, q2⟩ := evSame (N := N) (d := 16) (by omega) (by omega) hd p1 h (by omega) (by omega)
  have hb : b = false := by
    cases b with
    | false => rfl
    | true =>
      obtain ⟨z1, z2⟩ := q2.1 rfl
      exact absurd (Prod.ext z1 z2) hf
  subst hb
  unfold stamp_Stamp_Tick
  rw [evFill (by omega) hi h hd hm]
  simp only [Option.bind_some, q1, cond_false]
theorem tick_grow {N : Nat} {i : Bool} {t : Idt} {e : Int} {u : Tr} (hN : 20 ≤ N) (hi : nfI i t) (h : nf e u) (hd : depthE u ≤ 16) (hm : maxE e u ≤ 1048576) (hf : fillF i t e u = (e, u)) : stamp_Stamp_Tick N i t e u = (stamp_Grow N i t e u).bind fun (n2, t2, n3, n4) => some (n2, t2, n4) := by
  unfold stamp_Stamp_Tick
  rw [evFill (by omega) hi h hd hm, hf]
  simp only [Option.bind_some, evSame_self (N := N) (d := 16) (by omega) hd h (by omega), cond_true]
theorem awake_eq {N : Nat} (hN : 60 ≤ N) : kinfolklaw04_awake N = some true := by
  obtain ⟨k, rfl⟩ : ∃ k, N = k + 8 := ⟨N - 8, by omega⟩
  have n1 : nfI false (.mk true .nil false .nil) := by simp [nfI]
  have n2 : nfI false (.mk false .nil true .nil) := by simp [nfI]
  have n3 : nf 0 T_event_halves.nil := Int.le_refl 0
  have n4 : nf 0 (.mk 1 .nil 0 .nil) := by simp [nf]
  have h1 : stamp_Stamp_Fork (k + 8) true T_id_halves.nil 0 T_event_halves.nil = some (false, .mk true .nil false .nil, 0, .nil, false, .mk false .nil true .nil, 0, .nil, 0) := rfl
  have h2 : stamp_Stamp_Tick (k + 8) false (.mk true .nil false .nil) 0 .nil = some (0, .mk 1 .nil 0 .nil, 0) := by
    rw [tick_grow (by omega) n1 n3 (by simp [depthE]) (by simp [maxE]) rfl, evGrow (d := 1) (by omega) (by omega) n1 rfl n3 (by simp [depthI]) (by simp [depthE]) (by simp [maxE])]
    rfl
  have hd0 : decDigits 0 = [48] := dec_small (by decide)
  have hd1 : decDigits 1 = [49] := dec_small (by decide)
  have x1 := sText (N := k + 8) (by omega) n1 n3 (by simp [depthI]) (by simp [depthE]) (by simp [maxE])
  have x2 := sText (N := k + 8) (by omega) n2 n3 (by simp [depthI]) (by simp [depthE]) (by simp [maxE])
  have x3 := sText (N := k + 8) (by omega) n1 n4 (by simp [depthI]) (by simp [depthE]) (by simp only [maxE]; omega)
  simp only [textS, textI, textE, Int.toNat_zero, Int.toNat_one, hd0, hd1, List.cons_append, List.nil_append, List.append_assoc] at x1 x2 x3
  unfold kinfolklaw04_awake
  simp only [stamp_Seed, id_One, Option.bind_some, h1, h2, decide_true, cond_true, x1]
  rw [dt (show mkS [40, 40, 49, 44, 48, 41, 59, 48, 41] = (⟨#[40, 40, 49, 44, 48, 41, 59, 48, 41]⟩ : ByteArray) from rfl), cond_true, x2]
  simp only [Option.bind_some]
  rw [dt (show mkS [40, 40, 48, 44, 49, 41, 59, 48, 41] = (⟨#[40, 40, 48, 44, 49, 41, 59, 48, 41]⟩ : ByteArray) from rfl), cond_true, x3]
  exact congrArg some (decide_eq_true rfl)
theorem rCheckIs4 {N : Nat} {e : Int} {t : Tr} (h : depthE t < N) (hd : depthE t ≤ 16) (hn : nf e t) (hm : maxE e t ≤ 1048576) : kinfolkref02_Check N (fromEv e t) = some 0 := by
  unfold kinfolkref02_Check
  rw [rDepth h (by omega), rMax h hn (by omega)]
  simp only [Option.bind_some, df (show ¬ (16 : Int) < (depthE t : Int) by omega), df (show ¬ (1048576 : Int) < maxE e t by omega), cond_false]
theorem text_both {N : Nat} {e : Int} {u : Tr} (hN : 60 ≤ N) (h : nf e u) (hd : depthE u ≤ 17) (hm : maxE e u ≤ 1099511627776) : event_Event_Text N e u = some (mkS (textE e u)) ∧ kinfolkref02_Text N (fromEv e u) = some (mkS (textE e u)) := by
  have l2 := text_len h hm
  have p2 : 2 ^ depthE u ≤ 2 ^ 17 := Nat.pow_le_pow_right (by decide) hd
  exact ⟨evText (by omega) h hm (by omega), rText (by omega) h hm (by omega)⟩
theorem stampGrows_true {N : Nat} {p q : List Int} (hN : 60 ≤ N) (hp : Bytes p) (hq : Bytes q) : kinfolklaw04_StampGrows N p q = some true := by
  obtain ⟨i, t, e, u, m1, ⟨hi, h, d1, d2, mx⟩⟩ := made_eq (N := N) (by omega) hp hq
  obtain ⟨p1, p2, p3⟩ := fill_ok (t := t) (i := i) h
  obtain ⟨x1, x2⟩ := text_both hN p1 (by omega) (by omega)
  have f1 := evFill (N := N) (by omega) hi h (by omega) (by omega)
  have f2 := rFill (N := N) (by omega) hi h (by omega)
  unfold kinfolklaw04_StampGrows
  rw [awake_eq hN, m1]
  simp only [Option.bind_some, cond_true, f1, f2, x1, x2, decide_true]
  obtain ⟨x, y, f⟩ := fromI_kind i t
  cases hz : zeroI i t with
  | true =>
    obtain ⟨rfl, rfl⟩ := zeroI_iff.1 hz
    have hg : stamp_Grow N false .nil e u = some (e, u, 0, 2) := rfl
    simp only [hg, Option.bind_some, fromI, decide_true, cond_true, evSame_self (N := N) (d := 6) (by omega) d2 h (by omega)]
  | false =>
    have hg := evGrow (N := N) (d := 6) (by omega) (by omega) hi hz h d1 d2 (by omega)
    have hr := rGrow (N := N) (d := 6) (by omega) (by omega) hi hz h d1 d2 (by omega)
    obtain ⟨g1, g2, g3, g4⟩ := grow_ok (d := 6) hi hz h d1 d2
    obtain ⟨y1, y2⟩ := text_both hN g1 (by omega) (by omega)
    have hk : decide (kindI i t = 0) = false := by rw [kind_z, hz]
    rw [f] at hr ⊢
    simp only [hg, Option.bind_some, hk, cond_false, hr, decide_true, cond_true, y1, y2]
theorem fills_go {N : Nat} {y t4 : T_kinfolkref02_Event} {b : Bool} {t : Idt} {n2 n3 M : Int} {t2 t5 : Tr} {t3 : T_kinfolkref01_ID} {l l2 : List Int} {l3 : List Bool} (hu : upL M l l2 l3) (h2 : l2.length = l.length) (h3 : l3.length = l.length) (hl : l.length ≤ 1000) (hM : kinfolkref02_Max N t4 = some M) :
    ∀ (j k : Nat), k + j = l.length → runL (kinfolklaw04_StampFills_L0_step N y (l.length : Int) b t n2 t2 t3 t4 n3 t5 l l2 l3) (k : Int) = some (.inr ())
  | 0, k, h => by
    refine runL_done ?_
    unfold kinfolklaw04_StampFills_L0_step
    dsimp only
    rw [df (show ¬ (k : Int) < (l.length : Int) by omega), cond_false]
  | j + 1, k, h => by
    rw [← fills_go hu h2 h3 hl hM j (k + 1) (by omega)]
    refine runL_next ?_
    obtain ⟨a1, a2, a3⟩ := upL_at hu k (by omega)
    unfold kinfolklaw04_StampFills_L0_step
    simp only [Int.toNat_natCast, Nat.zero_add, hM, Option.bind_some, dt (show (k : Int) < (l.length : Int) by omega), dt (show (k : Int) < (l2.length : Int) by omega), dt (show (k : Int) < (l3.length : Int) by omega), dt (show (0 : Int) ≤ (k : Int) by omega), Bool.and_self, cond_true, df (show ¬ l2.getD k 0 < l.getD k 0 by omega), df (show ¬ M < l2.getD k 0 by omega), cond_false]
    rw [iadd64 (by omega) (by omega)]
    rcases a3 with a3 | a3
    · rw [dt a3, cond_true]; rfl
    · rw [a3]
      cases decide (l.getD k 0 = l2.getD k 0) <;> rfl
theorem ticks_go {b b2 : Bool} {t t3 : Idt} {n2 n3 M : Int} {t2 t4 : Tr} {l l2 : List Int} {l3 : List Bool} (hu : upL M l l2 l3) (h2 : l2.length = l.length) (h3 : l3.length = l.length) (hl : l.length ≤ 1000) :
    ∀ (j k : Nat), k + j = l.length → runL (kinfolklaw04_StampTicks_L0_step (l.length : Int) b t n2 t2 b2 t3 n3 t4 l l2 l3) (k : Int) = some (.inr ())
  | 0, k, h => by
    refine runL_done ?_
    unfold kinfolklaw04_StampTicks_L0_step
    dsimp only
    rw [df (show ¬ (k : Int) < (l.length : Int) by omega), cond_false]
  | j + 1, k, h => by
    rw [← ticks_go hu h2 h3 hl j (k + 1) (by omega)]
    refine runL_next ?_
    obtain ⟨a1, a2, a3⟩ := upL_at hu k (by omega)
    unfold kinfolklaw04_StampTicks_L0_step
    simp only [Int.toNat_natCast, Nat.zero_add, Option.bind_some, dt (show (k : Int) < (l.length : Int) by omega), dt (show (k : Int) < (l2.length : Int) by omega), dt (show (k : Int) < (l3.length : Int) by omega), dt (show (0 : Int) ≤ (k : Int) by omega), Bool.and_self, cond_true, df (show ¬ l2.getD k 0 < l.getD k 0 by omega), cond_false]
    rw [iadd64 (by omega) (by omega)]
    rcases a3 with a3 | a3
    · rw [dt a3, cond_true]; rfl
    · rw [a3]
      cases decide (l.getD k 0 = l2.getD k 0) <;> rfl
theorem stampFills_true {N : Nat} {p q : List Int} (hN : 60 ≤ N) (hp : Bytes p) (hq : Bytes q) : kinfolklaw04_StampFills N p q = some true := by
  obtain ⟨i, t, e, u, m1, ⟨hi, h, d1, d2, mx⟩⟩ := made_eq (N := N) (by omega) hp hq
  obtain ⟨p1, p2, p3⟩ := fill_ok (t := t) (i := i) h
  obtain ⟨x1, x2⟩ := text_both hN p1 (by omega) (by omega)
  have f1 := evFill (N := N) (by omega) hi h (by omega) (by omega)
  have f2 := rFill (N := N) (by omega) hi h (by omega)
  have f3 := evFill (N := N) (by omega) hi p1 (by omega) (by omega)
  rw [fill_idem h] at f3
  have g1 := rHeights (d := 7) (N := N) (e := e) (t := u) (by omega) (by omega) h (by omega)
  have g2 := rHeights (d := 7) (N := N) (e := (fillF i t e u).1) (t := (fillF i t e u).2) (by omega) (by omega) p1 (by omega)
  have g3 := rHas (d := 7) (N := N) (by omega) (by omega) hi
  have g1' : kinfolkref02_Heights N (fromEv e u) 7 = _ := g1
  have g2' : kinfolkref02_Heights N (fromEv (fillF i t e u).1 (fillF i t e u).2) 7 = _ := g2
  have g3' : kinfolkref01_Has N (fromI i t) 7 = _ := g3
  have hmx := rMax (N := N) (e := e) (t := u) (by omega) h (by omega)
  have hgo := fills_go (N := N) (y := fromEv (fillF i t e u).1 (fillF i t e u).2) (t4 := fromEv e u) (b := i) (t := t) (n2 := e) (n3 := (fillF i t e u).1) (t2 := u) (t5 := (fillF i t e u).2) (t3 := fromI i t)
    (fill_up (M := maxE e u) (d := 7) hi h (Int.le_refl _)) (by rw [hts_len, hts_len]) (by rw [bits_len, hts_len]) (by rw [hts_len]; decide) hmx (hts 7 e u).length 0 (by omega)
  have hgo' : runL (kinfolklaw04_StampFills_L0_step N (fromEv (fillF i t e u).1 (fillF i t e u).2) ((hts 7 e u).length : Int) i t e u (fromI i t) (fromEv e u) (fillF i t e u).1 (fillF i t e u).2 (hts 7 e u) (hts 7 (fillF i t e u).1 (fillF i t e u).2) (bits 7 i t)) 0 = some (.inr ()) := hgo
  unfold kinfolklaw04_StampFills
  rw [awake_eq hN, m1]
  simp only [Option.bind_some, cond_true, f1, f2, f3, g1', g2', g3', hgo', x1, x2, decide_true, evSame_self (N := N) (d := 6) (by omega) (show depthE (fillF i t e u).2 ≤ 6 by omega) p1 (by omega), evMax (N := N) (show depthE u < N by omega) h (by omega), evMax (N := N) (show depthE (fillF i t e u).2 < N by omega) p1 (by omega), p3]
theorem leq_is {N : Nat} {A B : Int} {t u : Tr} {d : Nat} (hN : d < N) (h1 : nf A t) (h2 : nf B u) (d1 : depthE t ≤ d) (d2 : depthE u ≤ d) (m1 : maxE A t ≤ 1099511627776) (m2 : maxE B u ≤ 1099511627776) {i j : Bool} {v w : Idt} : stamp_Leq N i v A t j w B u = some (leL (hts d A t) (hts d B u)) := by
  unfold stamp_Leq
  rw [evLeq (by omega) h1 h2 m1 m2, leq_hts h1 h2 d1 d2]
  rfl
theorem same_self {N : Nat} {i : Bool} {t : Idt} {e : Int} {u : Tr} (hN : 20 ≤ N) (hi : nfI i t) (d1 : depthI t ≤ 17) (h : nf e u) (d2 : depthE u ≤ 17) (hm : maxE e u ≤ 1099511627776) : stamp_Same N i t e u i t e u = some true := by
  unfold stamp_Same
  rw [idSame (by omega) hi, evSame_self (d := 17) (by omega) d2 h hm]
  rfl
theorem stampTicks_true {N : Nat} {p q : List Int} (hN : 60 ≤ N) (hp : Bytes p) (hq : Bytes q) : kinfolklaw04_StampTicks N p q = some true := by
  obtain ⟨i, t, e, u, m1, ⟨hi, h, d1, d2, mx⟩⟩ := made_eq (N := N) (by omega) hp hq
  obtain ⟨p1, p2, p3⟩ := fill_ok (t := t) (i := i) h
  have f2 := rFill (N := N) (by omega) hi h (by omega)
  obtain ⟨b, s1, s2⟩ := rSame (N := N) (d := 6) (by omega) (show depthE (fillF i t e u).2 ≤ 6 by omega) d2 p1 h (by omega) (by omega)
  -- lifted to f, v: told
  have rest : ∀ (f : Int) (v : Tr) (M : Int), nf f v → depthE v ≤ 7 → maxE f v ≤ 26 → upL M (hts 7 e u) (hts 7 f v) (bits 7 i t) → hts 7 e u ≠ hts 7 f v → stamp_Stamp_Tick N i t e u = some (f, v, 0) → kinfolkref04_Tick N (fromI i t) (fromEv e u) = some (fromEv f v, 0) → kinfolklaw04_StampTicks N p q = some true := by
    intro f v M n1 dv mv hu hne t1 t2
    have lk := like_eq hN hi n1 (by omega) (show depthE v ≤ 17 by omega) (by omega)
    have g1 : kinfolkref02_Heights N (fromEv e u) 7 = some (hts 7 e u) := rHeights (d := 7) (N := N) (e := e) (t := u) (by omega) (by omega) h (by omega)
    have g2 : kinfolkref02_Heights N (fromEv f v) 7 = some (hts 7 f v) := rHeights (d := 7) (N := N) (e := f) (t := v) (by omega) (by omega) n1 (by omega)
    have g3 : kinfolkref01_Has N (fromI i t) 7 = some (bits 7 i t) := rHas (d := 7) (N := N) (by omega) (by omega) hi
    have hgo : runL (kinfolklaw04_StampTicks_L0_step ((hts 7 e u).length : Int) i t e u i t f v (hts 7 e u) (hts 7 f v) (bits 7 i t)) 0 = some (.inr ()) :=
      ticks_go hu (by rw [hts_len, hts_len]) (by rw [bits_len, hts_len]) (by rw [hts_len]; decide) (hts 7 e u).length 0 (by omega)
    have l1 := leq_is (N := N) (d := 7) (i := i) (j := i) (v := t) (w := t) (by omega) h n1 (by omega) dv (by omega) (by omega)
    have l2 := leq_is (N := N) (d := 7) (i := i) (j := i) (v := t) (w := t) (by omega) n1 h dv (by omega) (by omega) (by omega)
    have hle := upL_le hu
    have hnot : leL (hts 7 f v) (hts 7 e u) = false := by
      rcases Bool.eq_false_or_eq_true (leL (hts 7 f v) (hts 7 e u)) with hc | hc
      · exact absurd (leL_anti hle hc) hne
      · exact hc
    rw [hle] at l1
    rw [hnot] at l2
    unfold kinfolklaw04_StampTicks
    rw [awake_eq hN, m1]
    simp only [Option.bind_some, cond_true, cond_false, t1, t2, decide_true, lk, g1, g2, g3, hgo, l1, l2, idSame (N := N) (show depthI t < N by omega) hi]
  by_cases hf : fillF i t e u = (e, u)
  · have hb : b = true := s2.2 (by rw [hf]; exact ⟨rfl, rfl⟩)
    subst hb
    have t1 := tick_grow (N := N) (by omega) hi h (by omega) (by omega) hf
    rw [hf] at f2 s1
    obtain ⟨x, y, fk⟩ := fromI_kind i t
    cases hz : zeroI i t with
    | true =>
      obtain ⟨rfl, rfl⟩ := zeroI_iff.1 hz
      have hg : stamp_Grow N false .nil e u = some (e, u, 0, 2) := rfl
      rw [hg] at t1
      simp only [Option.bind_some] at t1
      have t2 : kinfolkref04_Tick N (fromI false .nil) (fromEv e u) = some (fromEv e u, 2) := by
        unfold kinfolkref04_Tick
        rw [f2]
        simp only [Option.bind_some, s1, cond_true, fromI, decide_true]
      have lk := like_eq hN hi h (by omega) (show depthE u ≤ 17 by omega) (by omega)
      unfold kinfolklaw04_StampTicks
      rw [awake_eq hN, m1]
      simp only [Option.bind_some, cond_true, cond_false, t1, t2, decide_true, lk, df (show ¬ (2 : Int) = 0 by decide), idZero, hz, same_self (N := N) (by omega) hi (show depthI T_id_halves.nil ≤ 17 by simp [depthI]) h (by omega) (by omega)]
    | false =>
      have hg := evGrow (N := N) (d := 6) (by omega) (by omega) hi hz h d1 d2 (by omega)
      have hr := rGrow (N := N) (d := 6) (by omega) (by omega) hi hz h d1 d2 (by omega)
      obtain ⟨g1, g2, g3, g4⟩ := grow_ok (d := 6) hi hz h d1 d2
      -- it is the same at seven
      have hg7 := evGrow (N := N) (d := 7) (by omega) (by omega) hi hz h (by omega) (by omega) (by omega)
      have he7 : (growR 7 i t e u).1 = (growR 6 i t e u).1 := by
        rw [hg] at hg7
        simp only [Option.some.injEq, Prod.mk.injEq] at hg7
        exact Prod.ext hg7.1.symm hg7.2.1.symm
      obtain ⟨u1, u2⟩ := grow_up (M := maxE e u + 1) (d := 7) hi hz h (by omega) (by omega) (Int.le_refl _)
      rw [he7] at u1 u2
      rw [hg] at t1
      simp only [Option.bind_some] at t1
      have hck := rCheckIs4 (N := N) (e := (growR 6 i t e u).1.1) (t := (growR 6 i t e u).1.2) (by omega) (by omega) g1 (by omega)
      have t2 : kinfolkref04_Tick N (fromI i t) (fromEv e u) = some (fromEv (growR 6 i t e u).1.1 (growR 6 i t e u).1.2, 0) := by
        have hk : decide (kindI i t = 0) = false := by rw [kind_z, hz]
        unfold kinfolkref04_Tick
        rw [f2]
        rw [fk] at hr ⊢
        simp only [Option.bind_some, s1, cond_true, hk, cond_false, hr, hck, decide_true]
      exact rest _ _ _ g1 (by omega) (by omega) u1 u2 t1 t2
  · have hb : b = false := by
      cases b with
      | false => rfl
      | true =>
        obtain ⟨z1, z2⟩ := s2.1 rfl
        exact absurd (Prod.ext z1 z2) hf
    subst hb
    have t1 := tick_fill (N := N) (by omega) hi h (by omega) (by omega) hf
    have t2 : kinfolkref04_Tick N (fromI i t) (fromEv e u) = some (fromEv (fillF i t e u).1 (fillF i t e u).2, 0) := by
      unfold kinfolkref04_Tick
      rw [f2]
      simp only [Option.bind_some, s1, cond_false]
    refine rest _ _ _ p1 (by omega) (by omega) (fill_up (M := maxE e u) (d := 7) hi h (Int.le_refl _)) (fun hc => ?_) t1 t2
    obtain ⟨z1, z2⟩ := hts_inj (d := 7) h p1 (by omega) (by omega) hc
    exact hf (Prod.ext z1.symm z2.symm)
end Go.Proofs.YtjjakdmcnkldoaaDoor
