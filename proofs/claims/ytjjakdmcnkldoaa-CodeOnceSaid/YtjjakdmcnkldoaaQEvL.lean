/- Slices of their own: literals, conversions, append. No program in sight. -/
import Derived.Test.YtjjakdmcnkldoaaQEvK
namespace Go.Ev
set_option linter.unusedVariables false
set_option linter.unusedSimpArgs false

theorem repL_of_pv {x : Cx} : ∀ {ps : List PV} {vs : List Value}, RepPv x ps vs → RepL x (ps.map .pv) vs
  | [], [], _ => trivial
  | _ :: _, _ :: _, h => ⟨⟨oneCell_repP h.1, h.1⟩, repL_of_pv h.2⟩

theorem says_partsR {R : Type} {size n : Nat} {r0 : Row} (hsz : r0.esz = size) (h0len : r0.len = 0) (h0 : ∀ w ok f, RowIs w ok r0 f) :
    ∀ {parts : List (Nat × SV)} {vs : List (Nat × Value)} {x : Cx} {i : Nat} {s : St} {k : Row → St → Ans R} {r : R}, Sto x s.objs s.rows → parts.map (·.1) = vs.map (·.1) → RepSs x (parts.map (·.2)) (vs.map (·.2)) →
      Says (partsR r0 n i parts s k) r →
      ∃ rw s1 y, Ext x y ∧ y.g = x.g ∧ y.w = x.w ∧ Sto y s1.objs s1.rows ∧ s1.slots = s.slots ∧ Says (k rw s1) r ∧ rw.len = parts.length ∧ rw.esz = size ∧
        ∀ C : Array Value, (i + parts.length) * size ≤ C.size → ∃ D, Instr.fill (fun i => some (i * size, size)) C vs = some D ∧ D.size = C.size ∧ (∀ j, j < i * size → D[j]? = C[j]?) ∧ RowIs y.w y.okP rw fun j => D[i * size + j]?
  | [], [], x, i, s, k, r, hs, _, _, h => ⟨r0, s, x, Ext.refl x, rfl, rfl, hs, rfl, h, by simpa using h0len, hsz, fun C hC => ⟨C, rfl, rfl, fun _ _ => rfl, h0 _ _ _⟩⟩
  | (j, sv) :: parts, (j', v) :: vs, x, i, s, k, r, hs, hi, hr, h => by
    simp only [List.map_cons, List.cons.injEq] at hi
    simp only [List.map_cons] at hr
    obtain ⟨hb, h1⟩ := says_chk h
    obtain ⟨a, ha, h2⟩ := says_wAv h1
    have hij := Nat.eq_of_beq_eq_true hb
    have hr1 := hr.1
    rw [ha] at hr1
    obtain ⟨ps, s1, y1, hx1, hg1, hw1, hs1, hsl1, hso1, hps, h3⟩ := says_lastL hs (repA_cells hr1) h2
    have hr2 : RepSs y1 (parts.map (·.2)) (vs.map (·.2)) := by
      have gen : ∀ {l : List SV} {us : List Value}, RepSs x l us → RepSs y1 l us := by
        intro l
        induction l with
        | nil => intro us hh; cases us with | nil => trivial | cons => exact hh.elim
        | cons b l ih => intro us hh; cases us with | nil => exact hh.elim | cons u us => exact ⟨hh.1.mono hx1 (by rw [hg1]; exact G.Le.refl _), ih hh.2⟩
      exact gen hr.2
    obtain ⟨rw', s2, y2, hx2, hg2, hw2, hs2, hsl2, h4, hlen, hesz, hfill⟩ := says_partsR hsz h0len h0 hs1 hi.2 hr2 h3
    have hps2 := hps.mono hx2
    -- the rest goes on
    have fin : ∀ (rw'' : Row), Says (k rw'' s2) r → rw''.len = rw'.len + 1 → rw''.esz = size → v.cells.size = size →
        (∀ (D : Array Value), (∀ m u, v.cells.toList[m]? = some u → D[i * size + m]? = some u) → RowIs y2.w y2.okP rw' (fun q => D[(i + 1) * size + q]?) → RowIs y2.w y2.okP rw'' fun q => D[i * size + q]?) →
        ∃ rw s1 y, Ext x y ∧ y.g = x.g ∧ y.w = x.w ∧ Sto y s1.objs s1.rows ∧ s1.slots = s.slots ∧ Says (k rw s1) r ∧ rw.len = ((j, sv) :: parts).length ∧ rw.esz = size ∧
        ∀ C : Array Value, (i + ((j, sv) :: parts).length) * size ≤ C.size → ∃ D, Instr.fill (fun i => some (i * size, size)) C ((j', v) :: vs) = some D ∧ D.size = C.size ∧ (∀ q, q < i * size → D[q]? = C[q]?) ∧ RowIs y.w y.okP rw fun q => D[i * size + q]? := by
      intro rw'' h5 hl hz hvs hrow
      refine ⟨rw'', s2, y2, hx1.trans hx2, hg2.trans hg1, hw2.trans hw1, hs2, hsl2.trans hsl1, h5, by rw [hl, hlen]; rfl, hz, fun C hC => ?_⟩
      simp only [List.length_cons] at hC
      have hC2 : (i + 1) * size ≤ C.size := Nat.le_trans (Nat.mul_le_mul_right _ (by omega)) hC
      have hC3 : i * size + size ≤ C.size := by rw [Nat.add_mul, Nat.one_mul] at hC2; exact hC2
      have hsC : (v.cells.zipIdx.foldl (fun cs (c, m) => cs.setIfInBounds (i * size + m) c) C).size = C.size := by
        rw [← Array.length_toList, fill_step, length_setL, Array.length_toList]
      obtain ⟨D, hD, hDs, hDb, hDr⟩ := hfill (v.cells.zipIdx.foldl (fun cs (c, m) => cs.setIfInBounds (i * size + m) c) C) (by rw [hsC]; rw [show i + 1 + parts.length = i + (parts.length + 1) by omega]; exact hC)
      have hget : ∀ q, q < (i + 1) * size → D[q]? = (setL C.toList (i * size) v.cells.toList)[q]? := by
        intro q hq
        rw [hDb q hq, ← Array.getElem?_toList, fill_step]
      refine ⟨D, ?_, by rw [hDs, hsC], fun q hq => ?_, hrow D (fun m u hu => ?_) hDr⟩
      · have hjj : j' = i := by omega
        simp only [Instr.fill, hjj]
        rw [if_neg]
        · exact hD
        · simp only [Bool.or_eq_true, decide_eq_true_eq]; omega
      · rw [hget q (by rw [Nat.add_mul]; omega), getElem?_setL, if_neg (by omega)]
        simp
      · have hm : m < v.cells.toList.length := by
          rcases Nat.lt_or_ge m v.cells.toList.length with h' | h'
          · exact h'
          · rw [List.getElem?_eq_none h'] at hu; cases hu
        simp only [Array.length_toList] at hm
        rw [hget _ (by rw [Nat.add_mul]; omega), getElem?_setL, if_pos (by simp only [Array.length_toList]; omega)]
        rw [show i * size + m - i * size = m by omega]
        exact hu
    have hpl := hps.length
    simp only [Array.length_toList] at hpl
    cases rw' with
    | ints kd l =>
      simp only at h4
      split at h4
      · rename_i kd' nn
        obtain ⟨hk, h5⟩ := says_chk h4
        simp only [decide_eq_true_eq] at hk
        have hv : v.cells.toList = [.int kd' nn] := by
          match v.cells.toList, hps with
          | [u], hps => rw [show u = .int kd' nn by simpa only [RepP] using hps.1]
        have h1 : size = 1 := hesz.symm
        refine fin (.ints kd (nn :: l)) h5 rfl hesz (by rw [← hpl, h1]; rfl) (fun D hD hrow => ?_)
        intro q hq
        subst h1
        cases q with
        | zero =>
          have := hD 0 (.int kd' nn) (by rw [hv]; rfl)
          rw [← hk] at this
          simpa [List.getD] using this
        | succ q =>
          have := hrow q (by simpa using hq)
          simp only [Nat.mul_one] at this ⊢
          rw [show i + (q + 1) = i + 1 + q by omega]
          simpa [List.getD] using this
      · exact (says_none h4).elim
    | bools l =>
      simp only at h4
      split at h4
      · rename_i nn
        have hv : v.cells.toList = [.bool nn] := by
          match v.cells.toList, hps with
          | [u], hps => rw [show u = .bool nn by simpa only [RepP] using hps.1]
        have h1 : size = 1 := hesz.symm
        refine fin (.bools (nn :: l)) h4 rfl hesz (by rw [← hpl, h1]; rfl) (fun D hD hrow => ?_)
        intro q hq
        subst h1
        cases q with
        | zero =>
          have := hD 0 (.bool nn) (by rw [hv]; rfl)
          simpa [List.getD] using this
        | succ q =>
          have := hrow q (by simpa using hq)
          simp only [Nat.mul_one] at this ⊢
          rw [show i + (q + 1) = i + 1 + q by omega]
          simpa [List.getD] using this
      · exact (says_none h4).elim
    | recs sz l =>
      simp only at h4
      obtain ⟨hk, h5⟩ := says_chk h4
      have hk2 := Nat.eq_of_beq_eq_true hk
      have h1 : sz = size := hesz
      refine fin (.recs sz (ps :: l)) h5 rfl hesz (by omega) (fun D hD hrow => ?_)
      simp only [RowIs, RepPss]
      refine ⟨hk2, hps2.ps (fun m u hu => hD m u hu), ?_⟩
      have e1 : (fun q => D[i * size + (q + sz)]?) = fun q => D[(i + 1) * size + q]? := by
        funext q
        rw [h1, Nat.add_mul, Nat.one_mul]
        congr 1; omega
      rw [e1]
      exact hrow

theorem says_buildSlice {R : Type} {P : Program} {x : Cx} {t len nm : Nat} {parts : List (Nat × SV)} {vs : Array (Nat × Value)} {s : St} {k : SV → St → Ans R} {r : R} (hs : Sto x s.objs s.rows) (hn : ¬ x.g.U nm)
    (hi : parts.map (·.1) = vs.toList.map (·.1)) (hr : RepSs x (parts.map (·.2)) (vs.toList.map (·.2))) (h : Says (evBuildSlice P t len parts nm s k) r) : Turns P x (· = nm) s (Instr.buildSlice t len vs) k r := by
  obtain ⟨e, he, h1⟩ := says_get h
  obtain ⟨r0, hr0, h2⟩ := says_get h1
  obtain ⟨ti, hti, h3⟩ := says_get h2
  obtain ⟨hc1, h4⟩ := says_chk h3
  obtain ⟨hc2, h5⟩ := says_chk h4
  clear h h1 h2 h3 h4
  obtain ⟨hesz, h0len, h0is⟩ := row0_spec hr0
  obtain ⟨hsizeOf, hpos, hcells⟩ := eszOk_spec hesz
  simp only [Bool.and_eq_true] at hc2
  have hplen := Nat.eq_of_beq_eq_true hc2.1
  have hmax := Nat.le_of_ble_eq_true hc2.2
  rw [hcells] at hmax
  obtain ⟨rw', s1, y, hx, hg, hw, hs1, hsl, h6, hlen, hesz', hfill⟩ := says_partsR (size := r0.esz) rfl h0len h0is hs hi hr h5
  obtain ⟨z, hz, hzl⟩ := run_zeroValue' x hti
  obtain ⟨D, hD, hDs, _, hDr⟩ := hfill ((Array.range (len * r0.esz)).map ((if len * r0.esz = 0 then #[] else z.cells)[· % (if len * r0.esz = 0 then #[] else z.cells).size]!)) (by simp [hplen])
  have hDs2 : D.size = len * r0.esz := by rw [hDs]; simp
  obtain ⟨hgr, hs2⟩ := sto_newR (x := y) (nm := nm) (rw := rw') (c := D) (e := e) (fr := (0, 0)) hs1 (by rw [hg]; exact hn) (.inl rfl) (by rw [hlen, hesz', hplen, hDs2]; exact Nat.le_refl _) (by simpa using hDr)
  refine ⟨.slice (some ⟨y.w.heap.size, 0, none⟩) len len, cone (.own nm 0 rw'.len true), { s1 with rows := (nm, .live rw') :: s1.rows }, _, ?_, hx.trans hgr.ext, by rw [← hg]; exact hgr.g, ?_, hs2, hsl, ?_, h6⟩
  · show _ = Result.ok _ (y.w.alloc (.cells D e))
    have hb : ¬ len * r0.esz > 2 ^ 24 := by omega
    simp only [Instr.buildSlice, Sem.run_bind, run_underlying (run_elemT he), Result.andThen_ok, hsizeOf, if_neg hb, Sem.run_pure, hw]
    by_cases hz0 : len * r0.esz = 0
    · rw [if_pos hz0]
      rw [if_pos hz0] at hD
      simp only [Sem.run_bind, Sem.run_pure, Result.andThen_ok, hD, run_newRow]
    · rw [if_neg hz0]
      rw [if_neg hz0] at hD
      simp only [Sem.run_bind, Sem.run_pure, hz, Result.andThen_ok, hD, run_newRow]
  · intro n hU
    rcases hU with hU | hU
    · exact .inl (by rw [← hg]; exact hU)
    · exact .inr hU
  · have hrl : rw'.len = len := by rw [hlen, hplen]
    refine ⟨rfl, .inr rfl, ?_, .inr ⟨_, _, _, by rw [hrl], by omega, fun _ => rfl, fun _ => ?_⟩⟩
    · simp [Cx.more, G.newR]
    · simp only [Cx.more, G.newR, if_pos]
      refine ⟨trivial, by simp, ?_⟩
      rw [hDs2, hesz', hrl]; simp
end Go.Ev
