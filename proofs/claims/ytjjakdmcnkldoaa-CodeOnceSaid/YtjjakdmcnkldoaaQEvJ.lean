/- Stores whole; variables, composite values. No program in sight. -/
import Derived.Test.YtjjakdmcnkldoaaQEvI
namespace Go.Ev
set_option linter.unusedVariables false
set_option linter.unusedSimpArgs false

/-- What a store gives. -/
def TurnsU {R : Type} (P : Program) (x : Cx) (s : St) (e : Sem Unit) (k : St → Ans R) (r : R) : Prop :=
  ∃ s' y, e.run P x.w = .ok () y.w ∧ Ext x y ∧ y.g = x.g ∧ Sto y s'.objs s'.rows ∧ s'.slots = s.slots ∧ Says (k s') r

theorem says_storeR {P : Program} {x : Cx} {ti : TI} {t : TypeId} {objs : List (Nat × Obj)} {rows : List (Nat × RowB)} {rr i fo : Nat} {rw rw' : Row} {u : Value} (ht : tinfo P t = some ti) (hs : Sto x objs rows)
    (hlk : lkup rr rows = some (.live rw)) (hi : i < rw.len) (hsz : u.cells.size = ti.size) (h1c : ∀ v ∈ u.cells.toList, v.oneCell' = true) (hlen : rw'.len = rw.len) (hesz : rw'.esz = rw.esz) (hfo : fo + u.cells.toList.length ≤ rw.esz)
    {c0 : Array Value} {e0 : TypeId} {fr0 : Nat × Nat} (hc0 : x.w.heap[x.g.rb rr]? = some (.cells c0 e0 fr0))
    (his : RowIs x.w x.okP rw' fun j => if i * rw.esz + fo ≤ j ∧ j < i * rw.esz + fo + u.cells.toList.length then u.cells.toList[j - (i * rw.esz + fo)]? else c0[j]?) :
    ∃ y, (Instr.storeAt t (.pointer (some ⟨x.g.rb rr, i * x.g.rs rr + fo, none⟩)) u).run P x.w = .ok () y.w ∧ Ext x y ∧ y.g = x.g ∧ Sto y objs ((rr, .live rw') :: rows) := by
  obtain ⟨hu, hvir | ⟨hnv, hS, c, e, fr, hh, hnf, hcs, hes, hrl, hle, hrow⟩⟩ := hs.liveC hlk
  · have := hvir.2.2.2.1; omega
  obtain ⟨rfl, rfl, rfl⟩ : c0 = c ∧ e0 = e ∧ fr0 = fr := by rw [hh] at hc0; cases hc0; exact ⟨rfl, rfl, rfl⟩
  have hbound : i * rw.esz + fo + u.cells.toList.length ≤ c0.size := by
    have : (i + 1) * rw.esz ≤ rw.len * rw.esz := Nat.mul_le_mul_right _ hi
    rw [Nat.add_mul] at this
    omega
  rw [← hes]
  have hx : Ext x (x.put (x.g.rb rr) (.cells (setL c0.toList (i * rw.esz + fo) u.cells.toList).toArray e0 fr0)) := Cx.ext_put hS
  refine ⟨x.put (x.g.rb rr) (.cells (setL c0.toList (i * rw.esz + fo) u.cells.toList).toArray e0 fr0), ?_, hx, rfl, ?_⟩
  · have hrun := run_storeCells (P := P) (off := i * rw.esz + fo) (vs := u.cells.toList) (i := 0) hh hnf (by omega) h1c
    simp only [Instr.storeAt, Instr.sureAddr, pure_bind, storeVar, Sem.run_bind, run_sizeOf' ht, Result.andThen_ok, hsz, ne_eq, not_true_eq_false, if_false, Sem.run_pure]
    simp only [Nat.add_zero] at hrun
    exact hrun
  · have hother : ∀ b, b ≠ x.g.rb rr → (x.put (x.g.rb rr) (.cells (setL c0.toList (i * rw.esz + fo) u.cells.toList).toArray e0 fr0)).w.heap[b]? = x.w.heap[b]? := fun b hb => setBlk_other hb
    refine ⟨?_, ?_, ?_, hs.injO, ?_, ?_, fun b hb => by simp only [Cx.put, setBlk_size]; exact hs.Slt b hb, fun b hb => by simp only [Cx.put, setBlk_size]; exact hs.Blt b hb, hs.SB⟩
    · intro o l hl
      obtain ⟨h1, h2, h3⟩ := hs.obj o l hl
      exact ⟨h1, h2, h3.mono hx (G.Le.refl _) (hother _ (fun he => hs.injX _ _ _ _ hl hlk hnv he))⟩
    · intro r' rw2 hl
      rw [lkup_cons] at hl
      split at hl
      · rename_i he
        cases hl
        rw [he]
        refine ⟨hu, .inl ⟨hS, _, e0, fr0, setBlk_same (hs.Slt _ hS), ?_, ?_, ?_, ?_, ?_, ?_⟩⟩
        · unfold NoFr at hnf ⊢; simpa only [List.size_toArray, length_setL, Array.length_toList] using hnf
        · simp only [List.size_toArray, length_setL, Array.length_toList]; exact hcs
        · rw [hesz]; exact hes
        · rw [hlen]; exact hrl
        · simp only [List.size_toArray, length_setL, Array.length_toList]; rw [hlen, hesz]; exact hle
        · have h4 := his
          have e1 : (fun j => if i * rw.esz + fo ≤ j ∧ j < i * rw.esz + fo + u.cells.toList.length then u.cells.toList[j - (i * rw.esz + fo)]? else c0[j]?) =
              fun j => (setL c0.toList (i * rw.esz + fo) u.cells.toList).toArray[j]? := by
            funext j
            have e2 : (setL c0.toList (i * rw.esz + fo) u.cells.toList).toArray[j]? = (setL c0.toList (i * rw.esz + fo) u.cells.toList)[j]? := by simp
            rw [e2, getElem?_setL]
            simp only [Array.length_toList, Array.getElem?_toList]
            simp only [Array.length_toList] at hbound
            by_cases hA : i * rw.esz + fo ≤ j ∧ j < i * rw.esz + fo + u.cells.size
            · rw [if_pos hA, if_pos (by omega)]
            · rw [if_neg hA, if_neg (by omega)]
          rw [e1] at h4
          exact RowIs.mono (fun _ hb => hx.okP hb) (fun b hb => hx.blk b hb.1 hb.2.1) h4
      · rename_i hne
        obtain ⟨h1, h2 | ⟨hnv2, h2, h3⟩⟩ := hs.liveC hl
        · exact ⟨h1, .inr h2⟩
        · exact ⟨h1, .inl ⟨h2, h3.mono hx (G.Le.refl _) h1 (hother _ (fun he => hne (hs.injR _ _ _ _ hl hlk hnv2 hnv he)))⟩⟩
    · intro r' rw2 hl
      rw [lkup_cons] at hl
      split at hl
      · cases hl
      · obtain ⟨h1, h2⟩ := hs.froz r' rw2 hl
        exact ⟨h1, h2.imp (fun ⟨h2, h3⟩ => ⟨hx.okP h2, h3.mono hx (G.Le.refl _) h1 (hother _ (fun he => h2.2.1 (he ▸ hS)))⟩) id⟩
    · intro o1 o2 l1 l2 h1 h2 hv1 hv2 he
      rw [lkup_cons] at h1 h2
      split at h1 <;> split at h2
      · omega
      · rename_i e1 e2; rw [e1] at he ⊢; exact (hs.injR _ _ _ _ hlk h2 hnv hv2 he)
      · rename_i e1 e2; rw [e2] at he ⊢; exact (hs.injR _ _ _ _ h1 hlk hv1 hnv he)
      · exact hs.injR _ _ _ _ h1 h2 hv1 hv2 he
    · intro o1 r l1 rw1 h1 h2 hv
      rw [lkup_cons] at h2
      split at h2
      · rename_i e1; rw [e1]; exact hs.injX _ _ _ _ h1 hlk hnv
      · exact hs.injX _ _ _ _ h1 h2 hv

theorem says_store {R : Type} {P : Program} {x : Cx} {t : TypeId} {av xv : SV} {s : St} {v u : Value} {k : St → Ans R} {r : R} (hs : Sto x s.objs s.rows) (hv : RepS x av v) (hu : RepS x xv u) (h : Says (evStore P t av xv s k) r) :
    TurnsU P x s (Instr.storeAt t v u) k r := by
  obtain ⟨ti, ht, h1⟩ := says_get h
  obtain ⟨c, hc, h2⟩ := says_wCv h1
  obtain ⟨a, ha, h3⟩ := says_wAv h2
  obtain ⟨hn, h4⟩ := says_chk h3
  clear h h1 h2 h3
  rw [hc] at hv; rw [ha] at hu
  have hlen := Nat.eq_of_beq_eq_true hn
  have hv2 : RepC x c v := hv.2
  have hu2 : RepA x a u := hu
  cases c with
  | ref o off =>
    obtain ⟨ob, hob, h5⟩ := says_get h4
    obtain ⟨hb, h6⟩ := says_chk h5
    obtain ⟨hU, hv3⟩ := hv2
    rw [hv3]
    obtain ⟨y, hrun, hx, hg, hs'⟩ := says_storeO ht hs hU hu2 hlen hob (Nat.le_of_ble_eq_true hb)
    exact ⟨{ s with objs := (o, setL ob off a.cells) :: s.objs }, y, hrun, hx, hg, hs', rfl, h6⟩
  | radr rr i fo =>
    obtain ⟨hU, hi, hv3⟩ := hv2
    rw [hv3]
    obtain ⟨ps, s1, y, hx, hg, hw, hs1, hsl, hso, hps, h5⟩ := says_lastL hs (repA_cells hu2) h4
    obtain ⟨rb, hrb, h6⟩ := says_get h5
    cases rb with
    | live rw =>
      have hi' : i < rw.len := by rw [(hs1.liveE hrb).2, hg]; exact hi
      obtain ⟨_, hvir | ⟨_, _, c0, e0, fr0, hh0, _, _, _, _, _, hrow0⟩⟩ := hs1.liveC hrb
      · have := hvir.2.2.2.1; omega
      obtain ⟨rw', h7, hl', he', hf', his⟩ := rowIs_put hrow0 hi' hps h6
      have hsz : u.cells.size = ti.size := by
        have := repL_length (repA_cells hu2)
        simp only [Array.length_toList] at this
        omega
      obtain ⟨z, hrun, hx2, hg2, hs'⟩ := says_storeR ht hs1 hrb hi' hsz (repL_one (repA_cells hu2)) hl' he' hf' hh0 his
      rw [hg] at hrun
      rw [hw] at hrun
      exact ⟨{ s1 with rows := (rr, .live rw') :: s1.rows }, z, hrun, hx.trans hx2, hg2.trans hg, hs', hsl, h7⟩
    | froz rw => exact (says_none h6).elim
    | gone => exact (says_none h6).elim
  | pv => exact (says_none h4).elim
  | bor => exact (says_none h4).elim
  | own => exact (says_none h4).elim
  | iadr => exact (says_none h4).elim
  | dead => exact (says_none h4).elim
end Go.Ev
