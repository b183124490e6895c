/- Contracts: what they may be turned to. No program in sight. -/
import Derived.Test.YtjjakdmcnkldoaaQEvY
set_option linter.unusedVariables false
set_option linter.unusedSimpArgs false
namespace Go.Ev

theorem Runs.args {P : Program} {f : FuncId} {as as' : List AV} {objs : List Obj} {rows : List Row} {res : Res} (h : Runs P f as objs rows res) (ha : ∀ x vals, RepAs x as' vals → RepAs x as vals) : Runs P f as' objs rows res :=
  ⟨h.1, h.2.1, h.2.2.1, fun x vals h1 h2 h3 => h.2.2.2 x vals h1 h2 (ha x vals h3)⟩
theorem Runs.split {P : Program} {f : FuncId} {as a1 a2 : List AV} {objs : List Obj} {rows : List Row} {res : Res} (h1 : Runs P f a1 objs rows res) (h2 : Runs P f a2 objs rows res)
    (ha : ∀ x vals, RepAs x as vals → RepAs x a1 vals ∨ RepAs x a2 vals) : Runs P f as objs rows res :=
  ⟨h1.1, h1.2.1, h1.2.2.1, fun x vals g1 g2 g3 => (ha x vals g3).elim (h1.2.2.2 x vals g1 g2) (h2.2.2.2 x vals g1 g2)⟩
theorem Runs.res {P : Program} {f : FuncId} {as : List AV} {objs : List Obj} {rows : List Row} {res res' : Res} (h : Runs P f as objs rows res) (hok : okOutRes res' = true) (hlen : objs.length ≤ res'.2.1.length)
    (hr : ∀ y v, Sto y (number 0 res.2.1) (number 0 (res.2.2.map .live)) → RepS y (tupOf res.1) v → ∃ z : Cx, z.w = y.w ∧ Ext y z ∧ z.g.ob = y.g.ob ∧ Sto z (number 0 res'.2.1) (number 0 (res'.2.2.map .live)) ∧ RepS z (tupOf res'.1) v) :
    Runs P f as objs rows res' :=
  ⟨h.1, hok, hlen, fun x vals h1 h2 h3 => Calls.mono (h.2.2.2 x vals h1 h2 h3) (by
    rintro e w' ⟨v, y, he, hw, hx, hpin, hs, hv⟩
    obtain ⟨z, hzw, hyz, hzo, hs2, hv2⟩ := hr y v hs hv
    exact ⟨v, z, he, hzw.trans hw, hx.trans hyz, fun o ho => by rw [hzo]; exact hpin o ho, hs2, hv2⟩)⟩

/-- A row that comes back is closed. -/
theorem Runs.close0 {P : Program} {f : FuncId} {as : List AV} {rows : List Row} {n : Nat} {t : Bool} {rw : Row} (h : Runs P f as [] rows ([.one (.own 0 0 n t)], [], [rw])) (hn : n = rw.len) :
    Runs P f as [] rows ([.one (.pv (rw.pv t))], [], []) := by
  refine h.res rfl (Nat.zero_le _) fun y v hs hv => ?_
  have hrb : lkup 0 (number 0 ([rw].map RowB.live)) = some (.live rw) := rfl
  obtain ⟨z, hzw, hzg, hx, hs', hrow⟩ := close_ok hs hrb
  refine ⟨z, hzw, hx, by rw [hzg], ?_, ⟨?_, ?_⟩⟩
  · exact ⟨fun o l hl => (by cases hl), fun r rw' hl => (by cases hl), fun r rw' hl => (by cases hl), fun o o' l l' hl => (by cases hl), fun r r' rw1 rw2 hl => (by cases hl), fun o r l rw' hl => (by cases hl), hs'.Slt, hs'.Blt, hs'.SB⟩
  · exact hv.1
  · have h1 := snap_any' (hv.2.mono hx (by rw [hzg]; exact G.Le.refl _)) hrow
    have : rw.cut 0 n = rw := by
      rw [hn]
      cases rw <;> simp [Row.cut, Row.len]
    rw [this] at h1
    exact h1

/-- Nothing of a kind: nil, or empty. -/
theorem rep_empty {x : Cx} {k : IntKind} {t : Bool} {v : Value} (h : RepA x (.one (.pv (.ints k [] t))) v) : RepA x (.one (.pv .nils)) v ∨ RepA x (.one (.pv .emp)) v := by
  obtain ⟨h1, h2⟩ := h
  simp only [RepC, RepP] at h2
  rcases h2 with ⟨h2, _⟩ | ⟨b, o, cap, sp, h2, _⟩
  · exact .inl ⟨h1, by simpa only [RepC, RepP] using h2⟩
  · exact .inr ⟨h1, by simp only [RepC, RepP]; exact ⟨b, o, cap, sp, h2⟩⟩
theorem nils_ints {x : Cx} {k : IntKind} {t : Bool} {v : Value} (h : RepA x (.one (.pv .nils)) v) : RepA x (.one (.pv (.ints k [] t))) v := by
  obtain ⟨h1, h2⟩ := h
  simp only [RepC, RepP] at h2
  exact ⟨h1, by simp only [RepC, RepP]; exact .inl ⟨h2, rfl⟩⟩
end Go.Ev
