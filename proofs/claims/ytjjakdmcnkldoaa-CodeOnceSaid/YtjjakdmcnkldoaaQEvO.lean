/- append, whole. No program in sight. -/
import Derived.Test.YtjjakdmcnkldoaaQEvN
namespace Go.Ev
set_option linter.unusedVariables false
set_option linter.unusedSimpArgs false

/-- As Turns, with what is left of the walk. -/
def TurnsS {R : Type} (P : Program) (x : Cx) (nw : Nat → Prop) (s : St) (e : Sem Value) (k : List Ev → SV → St → Ans R) (r : R) : Prop := ∃ sc, Turns P x nw s e (k sc) r

theorem list_app_at {old vs rest : List Value} {i : Nat} (h : i < vs.length) : (old ++ vs ++ rest)[old.length + i]? = vs[i]? := by
  rw [List.append_assoc, List.getElem?_append_right (by omega), show old.length + i - old.length = i by omega, List.getElem?_append_left h]
theorem list_app_lo {old vs rest : List Value} {i : Nat} (h : i < old.length) : (old ++ vs ++ rest)[i]? = old[i]? := by
  rw [List.append_assoc, List.getElem?_append_left h]

theorem says_append {R : Type} {P : Program} {x : Cx} {t tu ty nm : Nat} {xv yv : SV} {s : St} {v u : Value} {sc : List Ev} {k : List Ev → SV → St → Ans R} {r : R} (hs : Sto x s.objs s.rows) (hn : ¬ x.g.U nm) (hv : RepS x xv v) (hu : RepS x yv u)
    (htu : srcT P tu = true) (h : Says (evAppend P t xv yv nm s sc k) r) : TurnsS P x (· = nm) s (Builtin.append_ #[t, tu] ty #[v, u]) k r := by
  obtain ⟨e, he, h1⟩ := says_get h
  obtain ⟨r0, hr0, h2⟩ := says_get h1
  obtain ⟨ti, hti, h3⟩ := says_get h2
  obtain ⟨hck, h4⟩ := says_chk h3
  obtain ⟨hesz, h0len, h0is⟩ := row0_spec hr0
  obtain ⟨r2, h5, vs, hvl, hv1, hvr, hvrun, hvi⟩ := says_src (P := P) h0len hs hu h4
  obtain ⟨hes2, h6⟩ := says_chk h5
  clear h h1 h2 h3 h4 h5
  have hes2 := Nat.eq_of_beq_eq_true hes2
  obtain ⟨hsize, hpos, hcells⟩ := eszOk_spec hesz
  simp only [Bool.and_eq_true] at hck
  obtain ⟨⟨hc1, hc2⟩, hc3⟩ := hck
  have hc1 := Nat.eq_of_beq_eq_true hc1
  have hc2 := Nat.eq_of_beq_eq_true hc2
  have hc3 := Nat.le_of_ble_eq_true hc3
  obtain ⟨z, hz, hzl⟩ := run_zeroValue' x hti
  have hzs : z.cells.size = r0.esz := by have := repL_length hzl; simp only [Array.length_toList] at this; omega
  have hT : ApT P t tu e r0.esz z := by
    refine ⟨run_elemT he, ?_, hsize, hz, hzs, hc3, ?_⟩
    · unfold srcT at htu
      split at htu
      · exact .inl ⟨_, by assumption⟩
      · exact .inr (by assumption)
      · cases htu
    · obtain ⟨i, hi, _⟩ := info_of_tinfo hti; exact ⟨i, hi⟩
  rw [hes2] at hvl hvrun
  have hlu : (Builtin.lenOf u).run P x.w = .ok r2.len x.w := (hvrun x.w rfl).2
  -- nothing is appended
  have none_ : ∀ {base : Option Addr} {n cap : Nat}, v = .slice base n cap → n ≤ cap → r2.len = 0 → (Builtin.append_ #[t, tu] ty #[v, u]).run P x.w = .ok v x.w := by
    intro base n cap hv hle hz0
    rw [hv]
    have hvs : vs = [] := List.length_eq_zero_iff.1 (by rw [hvl, hz0]; simp)
    have := run_append_in (ty := ty) hT (w := x.w) (w' := x.w) (base := base) (n := n) (cap := cap) (m := r2.len) (vs := []) hlu (by omega) (by rw [← hvs]; exact (hvrun x.w rfl).1) (fun a _ => by simp [storeCells]) (fun _ => rfl)
    rw [hz0] at this
    exact this
  -- a new block
  have new_ : ∀ {base : Option Addr} {n cap : Nat} {okr : Nat → Prop} {r1 : Row} {tt : Bool} {rows' : List (Nat × RowB)}, v = .slice base n cap → SlAt x.w okr r1.len tt v (RowIs x.w x.okP r1) → n = r1.len → cap < n + r2.len → r1.esz = r0.esz → Sto x s.objs rows' →
      ∀ {r' : Row}, r'.len = r1.len + r2.len → r'.esz = r1.esz → fits r'.len = true → (∀ w ok f, RowIs w ok r1 f → RowIs w ok r2 (fun i => f (r1.len * r1.esz + i)) → RowIs w ok r' f) →
      ∃ y u', (Builtin.append_ #[t, tu] ty #[v, u]).run P x.w = .ok u' y.w ∧ Ext x y ∧ x.g.Le y.g ∧ (∀ m, y.g.U m → x.g.U m ∨ m = nm) ∧ Sto y s.objs ((nm, .live r') :: rows') ∧ u'.oneCell' = true ∧ RepC y (.own nm 0 r'.len false) u' := by
    intro base n cap okr r1 tt rows' hvv hsl hnl hcap hes1 hs' r' hl' he' hfit hrow
    obtain ⟨old, hol, ho1, hor, horun⟩ := run_first (P := P) hsl (fun h f => rowIs_empty h f)
    rw [hes1] at hol horun
    simp only [fits, decide_eq_true_eq] at hfit
    rw [hvv] at horun
    obtain ⟨newCap, rest, hnc, hrl, hrun⟩ := run_append_new (ty := ty) hT (w := x.w) (base := base) (n := n) (cap := cap) (m := r2.len) (old := old) (vs := vs) hlu hcap (by omega) (by rw [hnl]; rw [hnl] at horun; exact (horun x.w.drew rfl).1) ((hvrun x.w.drew rfl).1)
    have hgd := Cx.grow_drew (x := x) hs.Slt
    have hor' : RowIs x.drew.w x.drew.okP r1 (fun i => old[i]?) := RowIs.mono (w := x.w) (w' := x.drew.w) (ok := x.okP) (fun _ hb => hb) (fun _ _ => rfl) hor
    have hvr' : RowIs x.drew.w x.drew.okP r2 (fun i => vs[i]?) := RowIs.mono (w := x.w) (w' := x.drew.w) (ok := x.okP) (fun _ hb => hb) (fun _ _ => rfl) hvr
    have hsd := hs'.grow hgd
    have hcsz : (old ++ vs ++ rest).length = newCap * r0.esz := by
      rw [List.length_append, List.length_append, hol, hvl, hrl, ← Nat.add_mul, ← Nat.add_mul]
      congr 1; omega
    obtain ⟨hg2, hs2⟩ := sto_newR (x := x.drew) (nm := nm) (rw := r') (c := (old ++ vs ++ rest).toArray) (e := e) (fr := (0, 0)) hsd hn (.inl rfl) (by
        simp only [List.size_toArray, hcsz, he', hes1, hl']
        exact Nat.mul_le_mul_right _ (by omega)) (by
        refine hrow _ _ _ ?_ ?_
        · refine rowIs_congr hor' (fun i hi => ?_)
          rw [hes1, ← hol] at hi
          simp only [List.getElem?_toArray]
          exact (list_app_lo hi).symm
        · refine rowIs_congr hvr' (fun i hi => ?_)
          rw [hes2, ← hvl] at hi
          simp only [List.getElem?_toArray, hes1]
          rw [← hol]
          exact (list_app_at hi).symm)
    refine ⟨_, .slice (some ⟨x.w.heap.size, 0, none⟩) (n + r2.len) newCap, by rw [hvv]; exact hrun, hgd.ext.trans hg2.ext, hgd.g.trans hg2.g, fun m hU => hU, hs2, rfl, ?_⟩
    refine ⟨.inr rfl, by simp [Cx.more, G.newR], .inr ⟨_, _, newCap, by rw [hl', hnl], by omega, by simp, fun _ => ?_⟩⟩
    simp only [Cx.more, G.newR, if_pos]
    refine ⟨rfl, by simp, ?_⟩
    rw [he', hes1, List.size_toArray, hcsz]; simp
  -- what has no room
  have grown : ∀ {okr : Nat → Prop} {r1 : Row} {same : CV} {sc : List Ev}, SlAt x.w okr r1.len true v (RowIs x.w x.okP r1) → (∀ y : Cx, y = x → RepC y same v) →
      Says (match sc with
      | .br true :: sc => need (Nat.beq r2.len 0) fun _ => k sc (cone same) s
      | .br false :: sc => need (!(Nat.beq r2.len 0)) fun _ => chk (Nat.beq r1.esz r0.esz) fun _ => r1.app r2 fun r' => need (fits r'.len) fun _ => rowNew nm r' false s (k sc)
      | _ => none) r → TurnsS P x (· = nm) s (Builtin.append_ #[t, tu] ty #[v, u]) k r := by
    intro okr r1 same sc hsl hsame h
    have hform : ∃ base n cap, v = .slice base n cap ∧ n = r1.len ∧ cap = n := by
      rcases hsl with ⟨hv, h0⟩ | ⟨b, o, cap, sp, hv, _, ht, _⟩
      · exact ⟨_, _, _, hv, h0.symm, rfl⟩
      · exact ⟨_, _, _, hv, rfl, ht rfl⟩
    obtain ⟨base, n, cap, hvv, hnl, hcap⟩ := hform
    split at h
    · rename_i sc'
      obtain ⟨hb, h7⟩ := says_need h
      refine ⟨sc', v, cone same, s, x, none_ hvv (by omega) (Nat.eq_of_beq_eq_true hb), Ext.refl x, G.Le.refl _, fun m hU => .inl hU, hs, rfl, ⟨?_, hsame x rfl⟩, h7⟩
      rw [hvv]; rfl
    · rename_i sc'
      obtain ⟨hb, h7⟩ := says_need h
      obtain ⟨hes1, h8⟩ := says_chk h7
      obtain ⟨r', h9, hl', he', hb', hrow⟩ := says_app h8
      obtain ⟨hfit, h10⟩ := says_need h9
      have hm : r2.len ≠ 0 := by intro h0; rw [h0] at hb; simp at hb
      obtain ⟨y, u', hrun, hx, hg, hU, hs2, h1c, hrep⟩ := new_ hvv hsl hnl (by omega) (Nat.eq_of_beq_eq_true hes1) hs hl' he' hfit hrow
      exact ⟨sc', u', cone (.own nm 0 r'.len false), { s with rows := (nm, .live r') :: s.rows }, y, hrun, hx, hg, hU, hs2, rfl, ⟨h1c, hrep⟩, h10⟩
    · exact (says_none h).elim
  split at h6
  · rename_i rr off n tt
    obtain ⟨rb, hrb, h7⟩ := says_get h6
    have hv2 : RepC x (.own rr off n tt) v := hv.2
    have weak : RepC x (.own rr off n false) v := by
      obtain ⟨a, b, c⟩ := hv2
      refine ⟨a, b, ?_⟩
      rcases c with c | ⟨b, o, cap, c1, c2, c3, c4⟩
      · exact .inl c
      · exact .inr ⟨b, o, cap, c1, c2, by simp, c4⟩
    cases rb with
    | live rw =>
      have hrow : RowAt x rr rw ∨ Vir x rr rw := (hs.live _ _ hrb).2.imp (·.2) id
      have hrl := (hs.liveE hrb).2
      cases tt with
      | true =>
        have hle : off + n ≤ rw.len := by
          have := hv2.2.1
          omega
        have hsl := snap_any hv2 hrow
        refine grown (r1 := rw.cut off n) (by rw [len_cut hle]; exact hsl) (fun y hy => by rw [hy]; exact weak) h7
      | false =>
        obtain ⟨hb, h8⟩ := says_chk h7
        obtain ⟨hb2, h9⟩ := says_need h8
        obtain ⟨r', h10, hl', he', hb', hrowapp⟩ := says_app h9
        obtain ⟨hfit, h11⟩ := says_need h10
        simp only [Bool.and_eq_true] at hb
        have hoff := Nat.eq_of_beq_eq_true hb.1
        have hes1 := Nat.eq_of_beq_eq_true hb.2
        have hnl := Nat.eq_of_beq_eq_true hb2
        have hle : off + n ≤ rw.len := by omega
        have hsl := snap_any hv2 hrow
        have hsl2 : SlAt x.w (fun _ => True) rw.len false v (RowIs x.w x.okP rw) := by
          have hcut : rw.cut off n = rw := by
            subst hoff
            cases rw <;> simp only [Row.len] at hnl <;> simp [Row.cut, hnl]
          rw [hcut, hnl] at hsl
          exact hsl
        obtain ⟨hU, hlen, hown⟩ := hv2
        have hform : ∃ base cap, v = .slice base n cap ∧ n ≤ cap := by
          rcases hown with ⟨h1, h2⟩ | ⟨b, o, cap, h1, h2, _⟩
          · exact ⟨_, _, by rw [h2]; exact h1, by omega⟩
          · exact ⟨_, _, h1, h2⟩
        obtain ⟨base, cap, hvv, hncap⟩ := hform
        have hnl' : n + r2.len = r'.len := by omega
        by_cases hroom : n + r2.len ≤ cap
        · -- into room
          obtain ⟨hu', hvir | ⟨hnv, hS, c, ec, fr, hh, hnf, hcs, hes, hrl, hlesz, his⟩⟩ := hs.liveC hrb
          · obtain ⟨hn0, _, hvv2⟩ := hvir.own (v := v) ⟨hU, hlen, hown⟩
            have hc0 : cap = 0 := by
              rcases hvv2 with h1 | ⟨b, o, h1⟩ <;> · rw [h1] at hvv; cases hvv; rfl
            have hz0 : r2.len = 0 := by omega
            have hz : r'.len = 0 := by omega
            obtain ⟨y, hyw, hyg, hx, hg, _, hs2⟩ := sto_void (b := 0) (sto_gone (r := rr) hs) hn hz (by rw [he']; exact hvir.2.2.2.2)
            refine ⟨_, v, cone (.own nm 0 r'.len false), { s with rows := (nm, .live r') :: (rr, .gone) :: s.rows }, y, by rw [hyw]; exact none_ hvv hncap hz0, hx, hg, fun m hU' => by rw [hyg] at hU'; exact hU', hs2, rfl, ⟨by rw [hvv]; rfl, by rw [hyg]; exact .inr rfl, by rw [hyg]; simp [G.newR, hz], ?_⟩, h11⟩
            rw [hz]
            rcases hvv2 with h1 | ⟨b, o, h1⟩
            · exact .inl ⟨h1, rfl⟩
            · exact .inr ⟨b, o, 0, h1, Nat.le_refl _, by simp, fun h => absurd h (Nat.lt_irrefl _)⟩
          have hoff2 : ∃ y : Cx, (Builtin.append_ #[t, tu] ty #[v, u]).run P x.w = .ok (.slice base (n + r2.len) cap) y.w ∧ Ext x y ∧ x.g.Le y.g ∧ (∀ m, y.g.U m → x.g.U m ∨ m = nm) ∧ Sto y s.objs ((nm, .live r') :: (rr, .gone) :: s.rows) ∧
              RepC y (.own nm 0 (n + r2.len) false) (.slice base (n + r2.len) cap) := by
            by_cases hc0 : cap = 0
            · -- nothing at all
              have hz0 : r2.len = 0 := by omega
              have hvs : vs = [] := List.length_eq_zero_iff.1 (by rw [hvl, hz0]; simp)
              obtain ⟨y, hyw, hyg, hx, hg, hs2⟩ := sto_extend (r' := r') (c := c) hs hn hrb hnv hh rfl he' (by rw [hl', he', hz0]; simpa using hlesz) (hrowapp _ _ _ his (rowIs_empty hz0 _))
              refine ⟨y, ?_, hx, hg, fun m hU' => by rw [hyg] at hU'; exact hU', hs2, ?_⟩
              · have hsame : y.w = x.w := by
                  rw [hyw]
                  unfold setBlk
                  have : x.w.heap.setIfInBounds (x.g.rb rr) (.cells c ec fr) = x.w.heap := by
                    apply Array.ext_getElem?
                    intro j
                    rw [Array.getElem?_setIfInBounds]
                    split
                    · rename_i hj; subst hj
                      split
                      · exact hh.symm
                      · rename_i hlt; simp [Array.getElem?_eq_none (Nat.le_of_not_lt hlt)] at hh
                    · rfl
                  rw [this]
                rw [hsame, none_ hvv hncap hz0, hvv, hz0]
                simp
              · refine ⟨by rw [hyg]; exact .inr rfl, by rw [hyg]; simp [G.newR, hnl'], ?_⟩
                rcases hown with ⟨h1, h2⟩ | ⟨b, o, cap', h1, h2, _⟩
                · rw [h1] at hvv; cases hvv; exact .inl ⟨by rw [hz0, hc0], by omega⟩
                · rw [h1] at hvv; cases hvv
                  exact .inr ⟨_, _, _, rfl, by omega, by simp, fun h => by omega⟩
            · -- the row itself
              obtain ⟨b, o, hb, ho, hfitc⟩ : ∃ b o, base = some ⟨b, o, none⟩ ∧ b = x.g.rb rr ∧ o = 0 ∧ cap * x.g.rs rr ≤ x.g.rc rr := by
                rcases hown with ⟨h1, h2⟩ | ⟨b, o, cap', h1, h2, _, h4⟩
                · rw [h1] at hvv; cases hvv; exact absurd rfl hc0
                · rw [h1] at hvv; cases hvv
                  obtain ⟨a1, a2, a3⟩ := h4 (by omega)
                  exact ⟨b, o, rfl, a1, by rw [a2, hoff]; simp, by rw [hoff] at a3; simpa using a3⟩
              obtain ⟨ho, hfitc⟩ := hfitc
              subst ho
              have hbound : n * r0.esz + vs.length ≤ c.size := by
                rw [hvl, ← Nat.add_mul, hcs]
                refine Nat.le_trans (Nat.mul_le_mul_right _ hroom) ?_
                rw [← hes1, hes]; exact hfitc
              have hst := run_storeCells (P := P) (off := n * r0.esz) (vs := vs) (i := 0) hh hnf (by omega) hv1
              have hget : ∀ j : Nat, (setL c.toList (n * r0.esz) vs).toArray[j]? = if n * r0.esz ≤ j ∧ j < n * r0.esz + vs.length ∧ j < c.size then vs[j - n * r0.esz]? else c[j]? := by
                intro j
                rw [List.getElem?_toArray, getElem?_setL]
                simp
              obtain ⟨y, hyw, hyg, hx, hg, hs2⟩ := sto_extend (r' := r') (c := (setL c.toList (n * r0.esz) vs).toArray) hs hn hrb hnv hh (by simp [length_setL]) he' (by
                  simp only [List.size_toArray, length_setL, Array.length_toList]
                  rw [hl', he', hes1, ← hnl]
                  rw [hvl, ← Nat.add_mul] at hbound
                  exact hbound) (by
                  refine hrowapp _ _ _ (rowIs_congr his (fun j hj => ?_)) (rowIs_congr hvr (fun j hj => ?_))
                  · rw [hget, if_neg]
                    rw [hes1, ← hnl] at hj
                    omega
                  · rw [hes2, ← hvl] at hj
                    rw [hget, hes1, ← hnl, if_pos (by omega)]
                    congr 1; omega)
              refine ⟨y, ?_, hx, hg, fun m hU' => by rw [hyg] at hU'; exact hU', hs2, ?_⟩
              · rw [hvv, hyw]
                refine run_append_in (ty := ty) hT hlu hroom ((hvrun x.w rfl).1) (fun a ha => ?_) (fun hb' => by rw [hb] at hb'; cases hb')
                rw [hb] at ha
                cases ha
                rw [Addr.add_lit, ho.symm]
                simp only [Nat.zero_add]
                rw [ho]
                simpa using hst
              · refine ⟨by rw [hyg]; exact .inr rfl, by rw [hyg]; simp [G.newR, hnl'], .inr ⟨b, 0, cap, by rw [hb], hroom, by simp, fun _ => ?_⟩⟩
                rw [hyg]
                simp only [G.newR, if_pos]
                exact ⟨ho, by simp, by rw [hes]; simpa using hfitc⟩
          obtain ⟨y, hrun, hx, hg, hU', hs2, hrep⟩ := hoff2
          exact ⟨_, _, cone (.own nm 0 r'.len false), { s with rows := (nm, .live r') :: (rr, .gone) :: s.rows }, y, hrun, hx, hg, hU', hs2, rfl, ⟨rfl, by rw [← hnl']; exact hrep⟩, h11⟩
        · obtain ⟨y, u', hrun, hx, hg, hU', hs2, h1c, hrep⟩ := new_ hvv hsl2 hnl (by omega) hes1 (sto_gone (r := rr) hs) hl' he' hfit hrowapp
          exact ⟨_, u', cone (.own nm 0 r'.len false), { s with rows := (nm, .live r') :: (rr, .gone) :: s.rows }, y, hrun, hx, hg, hU', hs2, rfl, ⟨h1c, hrep⟩, h11⟩
    | froz rw =>
      have hrow : RowAt x rr rw ∨ Vir x rr rw := (hs.froz _ _ hrb).2.imp (·.2) id
      have hrl := (hs.frozE hrb).2
      obtain ⟨ht, h8⟩ := says_chk h7
      subst ht
      have hle : off + n ≤ rw.len := by
        have := hv2.2.1
        omega
      have hsl := snap_any hv2 hrow
      refine grown (r1 := rw.cut off n) (by rw [len_cut hle]; exact hsl) (fun y hy => by rw [hy]; exact weak) h8
    | gone => exact (says_none h7).elim
  · rename_i p
    obtain ⟨rw, tt, h7, hsl, _⟩ := says_row h0len (fun f => rowIs_empty h0len f) hv.2 h6
    obtain ⟨ht, h8⟩ := says_chk h7
    subst ht
    exact grown hsl (fun y hy => by rw [hy]; exact hv.2) h8
  · rename_i p
    obtain ⟨rw, tt, h7, hsl, _⟩ := says_row h0len (fun f => rowIs_empty h0len f) hv.2 h6
    obtain ⟨ht, h8⟩ := says_chk h7
    subst ht
    exact grown hsl (fun y hy => by rw [hy]; exact hv.2) h8
  · exact (says_none h6).elim
end Go.Ev
