/- Regions in the text's order. No program in sight. -/
import Derived.Test.YtjjakdmcnkldoaaQEvT
namespace Go.Ev
set_option linter.unusedVariables false
set_option linter.unusedSimpArgs false

/-- The state is told rightly. -/
structure Fits (V : Env) (x : Cx) (s : St) (a : Act) : Prop where
  sto : Sto x s.objs s.rows
  sl : Slots x s.slots a
  nt : V.nt ≤ a.tmps.size
  df : a.defers = []
  pin : ∀ o, o < V.m → x.g.U o
structure Tidied (V : Env) (x : Cx) (s : St) (a : Act) : Prop extends Fits V x s a where
  low : ∀ n, x.g.U n → n < s.objs.length + s.rows.length
structure Rel (m : Nat) (x y : Cx) : Prop where
  ext : Ext x y
  pin : ∀ o, o < m → y.g.ob o = x.g.ob o
theorem Rel.refl (m : Nat) (x : Cx) : Rel m x x := ⟨Ext.refl x, fun _ _ => rfl⟩
theorem Rel.trans {m : Nat} {x y z : Cx} (h : Rel m x y) (k : Rel m y z) : Rel m x z := ⟨h.ext.trans k.ext, fun o ho => (k.pin o ho).trans (h.pin o ho)⟩
theorem rel_of {V : Env} {x y : Cx} (hp : ∀ o, o < V.m → x.g.U o) (h : Ext x y) (hg : x.g.Le y.g) : Rel V.m x y := ⟨h, fun o ho => hg.ob o (hp o ho)⟩

theorem says_guard {R : Type} {x : Cx} {s : St} {a : Act} {ops : Array Oper} {o : Oper} {sc : List Ev} {k : List Ev → Bool → St → Ans R} {r : R} (hsl : Slots x s.slots a) (h : Says (evGuard ops o.guard s sc k) r) :
    ∃ b, Region.wanted o (yielded ops a.tmps) = b ∧ Says (k sc b s) r := by
  unfold evGuard at h
  unfold Region.wanted
  split at h
  · rename_i hg
    rw [hg]
    exact ⟨true, rfl, h⟩
  · rename_i j want hg
    rw [hg]
    simp only
    split at h
    · exact (says_none h).elim
    · rename_i d hd
      have hy : ∀ {v : SV}, lkup d s.slots = some v → ∃ u, a.tmps[d]? = some u ∧ RepS x v u := by
        intro v hv
        obtain ⟨hlt, hr⟩ := hsl d v hv
        refine ⟨a.tmps[d], Array.getElem?_eq_getElem hlt, ?_⟩
        have : a.tmps.getD d undef = a.tmps[d] := by simp [Array.getD, hlt]
        rw [this] at hr; exact hr
      split at h
      · rename_i l hl
        obtain ⟨u, hu, hr⟩ := hy hl
        obtain ⟨vs, hv, _⟩ := hr
        refine ⟨false, ?_, h⟩
        simp [yielded, hd, hu, hv]
      · rename_i hl
        obtain ⟨u, hu, hr⟩ := hy hl
        obtain rfl := rep_bool hr
        refine ⟨want == true, ?_, h⟩
        cases want <;> simp [yielded, hd, hu]
      · rename_i hl
        obtain ⟨u, hu, hr⟩ := hy hl
        obtain rfl := rep_bool hr
        refine ⟨want == false, ?_, h⟩
        cases want <;> simp [yielded, hd, hu]
      · exact (says_none h).elim

theorem put_size (a : Act) (d : Option Tmp) (v : Value) : (a.put d v).tmps.size = a.tmps.size := by
  cases d <;> simp [Act.put]
theorem put_defers' (a : Act) (d : Option Tmp) (v : Value) : (a.put d v).defers = a.defers := by
  cases d <;> simp [Act.put]
theorem slots_put {x : Cx} {slots : List (Nat × SV)} {a : Act} {t : Nat} {sv : SV} {v : Value} (h : Slots x slots a) (ht : t < a.tmps.size) (hr : RepS x sv v) : Slots x ((t, sv) :: slots) (a.put (some t) v) := by
  intro t' v' hl
  rw [lkup_cons] at hl
  rw [put_size]
  by_cases he : t' = t
  · rw [if_pos he] at hl
    cases hl
    subst he
    refine ⟨ht, ?_⟩
    have : (a.put (some t') v).tmps.getD t' undef = v := by simp [Act.put, Array.getD, ht]
    rw [this]; exact hr
  · rw [if_neg he] at hl
    obtain ⟨h1, h2⟩ := h t' v' hl
    refine ⟨h1, ?_⟩
    have : (a.put (some t) v).tmps.getD t' undef = a.tmps.getD t' undef := by
      simp only [Array.getD_eq_getD_getElem?]
      rw [show (a.put (some t) v).tmps = a.tmps.setIfInBounds t v from rfl, Array.getElem?_setIfInBounds_ne (fun h => he h.symm)]
    rw [this]; exact h2
theorem Slots.mono {x y : Cx} {slots : List (Nat × SV)} {a : Act} (h : Slots x slots a) (hx : Ext x y) (hg : x.g.Le y.g) : Slots y slots a :=
  fun t v hl => ⟨(h t v hl).1, (h t v hl).2.mono hx hg⟩

theorem says_set {R : Type} {V : Env} {x y : Cx} {s s' : St} {a : Act} {o : Oper} {u : Value} {sv : SV} {k : St → Ans R} {r : R} (hf : Fits V x s a) (hx : Ext x y) (hg : x.g.Le y.g) (hs : Sto y s'.objs s'.rows) (hsl : s'.slots = s.slots)
    (hr : RepS y sv u) (h : Says (evSet V.nt o.dst sv s' k) r) : ∃ s'', Fits V y s'' (a.put o.dst u) ∧ Says (k s'') r := by
  unfold evSet at h
  split at h
  · rename_i t ht
    obtain ⟨hb, h1⟩ := says_chk h
    have hlt : t < V.nt := Nat.le_of_ble_eq_true hb
    refine ⟨{ s' with slots := (t, sv) :: s'.slots }, ⟨hs, ?_, ?_, ?_, fun o ho => hg.U o (hf.pin o ho)⟩, h1⟩
    · rw [ht, hsl]
      exact slots_put (hf.sl.mono hx hg) (Nat.lt_of_lt_of_le hlt hf.nt) hr
    · rw [put_size]; exact hf.nt
    · rw [put_defers']; exact hf.df
  · rename_i ht
    refine ⟨s', ⟨hs, ?_, ?_, ?_, fun o ho => hg.U o (hf.pin o ho)⟩, h⟩
    · rw [ht, hsl]; exact hf.sl.mono hx hg
    · rw [put_size]; exact hf.nt
    · rw [put_defers']; exact hf.df

theorem says_decide {R : Type} {V : Env} {x : Cx} {s : St} {a : Act} {ops : Array Oper} {o : Oper} {sc : List Ev} {k : List Ev → St → Ans R} {r : R} (hf : Fits V x s a) (h : Says (evDecide ops o s sc k) r) :
    ∃ s' sc', Fits V x s' a ∧ Says (k sc' s') r := by
  unfold evDecide at h
  cases hg : isGuard ops o.dst with
  | false => rw [hg] at h; exact ⟨s, sc, hf, h⟩
  | true =>
    rw [hg] at h
    simp only [cond_true] at h
    split at h
    · rename_i d hd
      split at h
      · rename_i b y sc' hl
        obtain ⟨hb, h1⟩ := says_obl h
        refine ⟨{ s with slots := (d, pbool y) :: s.slots }, sc', ⟨hf.sto, ?_, hf.nt, hf.df, hf.pin⟩, h1⟩
        intro t v hv
        rw [lkup_cons] at hv
        by_cases he : t = d
        · rw [if_pos he] at hv
          cases hv
          subst he
          obtain ⟨h2, h3⟩ := hf.sl _ _ hl
          exact ⟨h2, by rw [hb] at h3; exact h3⟩
        · rw [if_neg he] at hv
          exact hf.sl t v hv
      · exact ⟨s, _, hf, h⟩
      · exact (says_none h).elim
    · exact (says_none h).elim

/-- One operation of a region, guarded or not, decided or not. -/
theorem says_oper {R : Type} {V : Env} {x : Cx} {s : St} {a : Act} {ops : Array Oper} {o : Oper} {nm : Nat → Nat} {sc : List Ev} {k : List Ev → St → Ans R} {r : R}
    (hV : ∀ f as objs rows res, V.call f as objs rows res → Runs V.P f as objs rows res) (hf : Fits V x s a) (hn : ∀ j, ¬ x.g.U (nm j)) (hinj : ∀ i j, nm i = nm j → i = j)
    (h : Says (evOper V ops o nm s sc fun sc s => evDecide ops o s sc k) r) {K : Act → World → Prop} {Q : Exit → Act → World → Prop}
    (hK : ∀ y s' a' sc', Rel V.m x y → Ext x y → (∀ n, y.g.U n → x.g.U n ∨ ∃ j, n = nm j) → Fits V y s' a' → Says (k sc' s') r → K a' y.w) :
    if Region.wanted o (yielded ops a.tmps) then o.wp V.P a x.w K Q else K (a.put o.dst undef) x.w := by
  unfold evOper at h
  obtain ⟨b, hb, h1⟩ := says_guard hf.sl h
  rw [hb]
  cases b with
  | true =>
    simp only [if_true] at h1 ⊢
    refine says_any hV hf.sto hf.sl hn hinj h1 K Q ?_
    rintro u sv s' y hx hg hU hs' hsl' hr ⟨sc', h2⟩
    obtain ⟨s2, hf2, h3⟩ := says_set hf hx hg hs' hsl' hr h2
    obtain ⟨s3, sc3, hf3, h4⟩ := says_decide hf2 h3
    exact hK y s3 _ sc3 (rel_of hf.pin hx hg) hx hU hf3 h4
  | false =>
    simp only at h1
    rw [if_neg (by simp)]
    obtain ⟨s2, hf2, h3⟩ := says_set hf (Ext.refl x) (G.Le.refl _) hf.sto rfl rep_undef h1
    obtain ⟨s3, sc3, hf3, h4⟩ := says_decide hf2 h3
    exact hK x s3 _ sc3 (Rel.refl _ _) (Ext.refl x) (fun n hu => .inl hu) hf3 h4

/-- The names that are taken: those of the operations that are done. -/
def Used (x : Cx) (base n : Nat) (D : Nat → Prop) : Prop := ∀ m, x.g.U m → m < base ∨ ∃ i j, D i ∧ i < n ∧ m = base + i + n * j
theorem nm_inj {base n i : Nat} (hn : 0 < n) : ∀ j j', base + i + n * j = base + i + n * j' → j = j' := by
  intro j j' h
  have : n * j = n * j' := by omega
  exact Nat.eq_of_mul_eq_mul_left hn this
theorem mod_of {n i j : Nat} (hi : i < n) : (i + n * j) % n = i := by
  rw [Nat.add_mul_mod_self_left, Nat.mod_eq_of_lt hi]
theorem nm_fresh {x : Cx} {base n i : Nat} {D : Nat → Prop} (h : Used x base n D) (hi : i < n) (hD : ¬ D i) : ∀ j, ¬ x.g.U (base + i + n * j) := by
  intro j hu
  rcases h _ hu with h1 | ⟨i', j', hd, hi', h1⟩
  · omega
  · have h2 : i + n * j = i' + n * j' := by omega
    have := congrArg (· % n) h2
    simp only [mod_of hi, mod_of hi'] at this
    subst this
    exact hD hd
theorem used_step {x y : Cx} {base n i : Nat} {D D' : Nat → Prop} (h : Used x base n D) (hi : i < n) (hU : ∀ m, y.g.U m → x.g.U m ∨ ∃ j, m = base + i + n * j) (hD : ∀ k, D k → D' k) (hDi : D' i) : Used y base n D' := by
  intro m hu
  rcases hU m hu with h1 | ⟨j, h1⟩
  · exact (h m h1).imp id fun ⟨i', j', hd, hi', h2⟩ => ⟨i', j', hD _ hd, hi', h2⟩
  · exact .inr ⟨i, j, hDi, hi, h1⟩

theorem says_ops {R : Type} {V : Env} (hV : ∀ f as objs rows res, V.call f as objs rows res → Runs V.P f as objs rows res) {ops : Array Oper} {base n : Nat} {Q : Exit → Act → World → Prop} :
    ∀ {l : List Oper} {i : Nat} {x : Cx} {s : St} {a : Act} {sc : List Ev} {k : List Ev → St → Ans R} {r : R}, Fits V x s a → Used x base n (· < i) → i + l.length ≤ n → Says (evOps V ops base n i l s sc k) r →
      (∀ y s' a' sc', Rel V.m x y → Fits V y s' a' → Says (k sc' s') r → Q .normal a' y.w) → wpList V.P ops Q l a x.w
  | [], i, x, s, a, sc, k, r, hf, hU, hl, h, hQ => hQ x s a sc (Rel.refl _ _) hf h
  | o :: l, i, x, s, a, sc, k, r, hf, hU, hl, h, hQ => by
    simp only [List.length_cons] at hl
    unfold evOps at h
    refine wpList_step fun K hK => ?_
    refine says_oper hV hf (nm_fresh hU (by omega) (by omega)) (nm_inj (by omega)) h fun y s' a' sc' hrel hx hUy hf' h' => ?_
    refine hK _ _ (says_ops hV hf' (used_step hU (by omega) hUy (fun k hk => by omega) (by omega)) (by omega) h' fun z s2 a2 sc2 hrel2 hf2 h2 => ?_)
    exact hQ z s2 a2 sc2 (hrel.trans hrel2) hf2 h2

theorem reachO_prefix {objs : List (Nat × Obj)} : ∀ {n : Nat} {cs : List CV} {v : List Nat}, ∃ l, reachO objs n cs v = v ++ l
  | 0, cs, v => ⟨[], by simp [reachO]⟩
  | n + 1, [], v => ⟨[], by simp [reachO]⟩
  | n + 1, c :: cs, v => by
    unfold reachO
    split
    · cases mem _ v with
      | true => exact reachO_prefix
      | false =>
        simp only [cond_false]
        split
        · rename_i o _ _ ob _
          obtain ⟨l, hl⟩ := reachO_prefix (objs := objs) (n := n) (cs := ob ++ cs) (v := v ++ [o])
          rw [hl]
          exact ⟨o :: l, by simp⟩
        · exact reachO_prefix
    · exact reachO_prefix
theorem upTo_get : ∀ {n i o : Nat}, o < n → (upTo i n)[o]? = some (i + o)
  | 0, i, o, h => by omega
  | n + 1, i, 0, h => by simp [upTo]
  | n + 1, i, o + 1, h => by
    simp only [upTo, List.getElem?_cons_succ]
    rw [upTo_get (by omega)]
    congr 1; omega
theorem part_pins {s : St} {m : Nat} {roots : List CV} {p : Part} (h : part (upTo 0 m) roots s = some p) {o : Nat} (ho : o < m) : p.os[o]? = some o := by
  unfold part at h
  dsimp only at h
  split at h
  · rename_i obs rws hobs hrws
    cases hc : (nodup (reachO s.objs 400 (pinned s.objs (upTo 0 m) ++ roots) (upTo 0 m)) && nodup (reachR s.rows (pinned s.objs (reachO s.objs 400 (pinned s.objs (upTo 0 m) ++ roots) (upTo 0 m)) ++ roots) [])) with
    | false => rw [hc] at h; cases h
    | true =>
      rw [hc] at h
      simp only [cond_true, Option.some.injEq] at h
      have hpos : p.os = reachO s.objs 400 (pinned s.objs (upTo 0 m) ++ roots) (upTo 0 m) := by rw [← h]
      obtain ⟨l, hl⟩ := reachO_prefix (objs := s.objs) (n := 400) (cs := pinned s.objs (upTo 0 m) ++ roots) (v := upTo 0 m)
      rw [hpos, hl, List.getElem?_append_left (by
        rcases Nat.lt_or_ge o (upTo 0 m).length with h' | h'
        · exact h'
        · have := upTo_get (i := 0) ho
          rw [List.getElem?_eq_none h'] at this
          cases this), upTo_get ho]
      simp
  · cases h
theorem number_length {α : Type} : ∀ {l : List α} {i : Nat}, (number i l).length = l.length
  | [], i => rfl
  | _ :: l, i => by simp [number, number_length (l := l)]
theorem lkup_keepS {slots : List (Nat × SV)} {f : SV → SV} : ∀ {l : List Nat} {t : Nat} {v : SV}, lkup t ((keepS slots l).map fun z => (z.1, f z.2)) = some v → ∃ u, lkup t slots = some u ∧ v = f u
  | [], t, v, h => by simp [keepS, lkup] at h
  | t' :: l, t, v, h => by
    unfold keepS at h
    split at h
    · rename_i u hu
      simp only [List.map_cons] at h
      rw [lkup_cons] at h
      by_cases he : t = t'
      · rw [if_pos he] at h
        cases h
        subst he
        exact ⟨u, hu, rfl⟩
      · rw [if_neg he] at h
        exact lkup_keepS h
    · exact lkup_keepS h

theorem says_tidy {R : Type} {V : Env} {x : Cx} {s : St} {a : Act} {keep : List Nat} {k : St → Ans R} {r : R} (hf : Fits V x s a) (h : Says (evTidy V keep s k) r) :
    ∃ y s', Rel V.m x y ∧ y.w = x.w ∧ Tidied V y s' a ∧ Says (k s') r := by
  unfold evTidy at h
  split at h
  · rename_i s' ht
    unfold tidy at ht
    dsimp only at ht
    split at ht
    · rename_i p hp
      have hok : PartOk x s p x.B := part_ok hf.sto hp (fun b hb => .inl hb)
      have hpin : ∀ o, o < V.m → p.os[o]? = some o := fun o ho => part_pins hp ho
      refine ⟨p.cx x x.B, s', ⟨⟨rfl, rfl, rfl, Nat.le_refl _, fun _ _ _ => rfl, fun b hb => .inl (hok.Sx b hb), rfl⟩, fun o ho => ?_⟩, rfl, ⟨⟨?_, ?_, hf.nt, hf.df, fun o ho => ?_⟩, ?_⟩, h⟩
      · show x.g.ob (p.os.getD o 0) = _
        rw [getD_of (hpin o ho)]
      · cases ht; exact hok.sto
      · cases ht
        intro t v hl
        obtain ⟨u, hu, rfl⟩ := lkup_keepS hl
        obtain ⟨h1, h2⟩ := hf.sl t u hu
        exact ⟨h1, repS_part hok h2⟩
      · show o < p.os.length + p.rs.length
        have : o < p.os.length := by
          rcases Nat.lt_or_ge o p.os.length with h' | h'
          · exact h'
          · have := hpin o ho; rw [List.getElem?_eq_none h'] at this; cases this
        omega
      · cases ht
        intro n hu
        simp only [number_length, List.length_map, hok.olen, hok.rlen]
        exact hu
    · cases ht
  · exact (says_none h).elim

theorem repL_nils {x : Cx} {nm : Nat} (hU : x.g.U nm) : ∀ {l : List CV} {vs : List Value} {j : Nat}, RepL x l vs → l[j]? = some (.pv .nils) → RepL x (l.set j (.own nm 0 0 false)) vs
  | [], vs, j, h, hj => by simp at hj
  | c :: l, [], j, h, hj => h.elim
  | c :: l, v :: vs, 0, h, hj => by
    simp only [List.getElem?_cons_zero, Option.some.injEq] at hj
    subst hj
    obtain ⟨⟨h1, h2⟩, h3⟩ := h
    simp only [RepC, RepP] at h2
    exact ⟨⟨h1, hU, Nat.zero_le _, .inl ⟨h2, rfl⟩⟩, h3⟩
  | c :: l, v :: vs, j + 1, h, hj => by
    obtain ⟨h1, h3⟩ := h
    exact ⟨h1, repL_nils hU h3 (by simpa using hj)⟩
theorem lift1_ok {V : Env} {x : Cx} {a : Act} {t nm : Nat} {r : Row} {s : St} (hf : Fits V x s a) (hU : ∀ n, x.g.U n → n < nm) : ∃ y, Rel V.m x y ∧ y.w = x.w ∧ Fits V y (lift1 t r nm s) a ∧ ∀ n, y.g.U n → n < nm + 1 := by
  have same : ∃ y, Rel V.m x y ∧ y.w = x.w ∧ Fits V y s a ∧ ∀ n, y.g.U n → n < nm + 1 := ⟨x, Rel.refl _ _, rfl, hf, fun n h => by have := hU n h; omega⟩
  unfold lift1
  cases hc : (Nat.beq r.len 0 && Nat.blt 0 r.esz) with
  | false => exact same
  | true =>
    simp only [Bool.and_eq_true] at hc
    have hz := Nat.eq_of_beq_eq_true hc.1
    have hp : 0 < r.esz := Nat.le_of_ble_eq_true hc.2
    simp only [cond_true]
    cases hbt : Nat.blt t 1000000 with
    | true =>
      simp only [cond_true]
      split
      · rename_i hl
        obtain ⟨y, hyw, hyg, hx, hg, _, hs2⟩ := sto_void (nm := nm) (b := 0) hf.sto (fun hu => Nat.lt_irrefl _ (hU nm hu)) hz hp
        refine ⟨y, rel_of hf.pin hx hg, hyw, ⟨hs2, ?_, hf.nt, hf.df, fun o ho => hg.U o (hf.pin o ho)⟩, fun n hn => ?_⟩
        · intro t' v hl'
          rw [lkup_cons] at hl'
          split at hl'
          · rename_i he
            cases hl'
            obtain ⟨h1, h2, h3⟩ := hf.sl t _ hl
            simp only [RepC, RepP] at h3
            rw [he]
            refine ⟨h1, h2, by rw [hyg]; exact .inr rfl, by rw [hyg]; simp [G.newR], .inl ⟨h3, rfl⟩⟩
          · obtain ⟨h1, h2⟩ := hf.sl t' v hl'
            exact ⟨h1, h2.mono hx hg⟩
        · rw [hyg] at hn
          rcases hn with hn | hn
          · have := hU n hn; omega
          · omega
      · exact same
    | false =>
      simp only [cond_false]
      split
      · rename_i l hlo
        split
        · rename_i hlj
          obtain ⟨y, hyw, hyg, hx, hg, _, hs2⟩ := sto_void (nm := nm) (b := 0) hf.sto (fun hu => Nat.lt_irrefl _ (hU nm hu)) hz hp
          refine ⟨y, rel_of hf.pin hx hg, hyw, ⟨?_, hf.sl.mono hx hg, hf.nt, hf.df, fun o ho => hg.U o (hf.pin o ho)⟩, fun n hn => ?_⟩
          · have hset : ∀ o l', lkup o (((t - 1000000) / 1000, l.set ((t - 1000000) % 1000) (.own nm 0 0 false)) :: s.objs) = some l' → ∃ l0, lkup o s.objs = some l0 ∧ (l' = l0 ∨ (o = (t - 1000000) / 1000 ∧ l0 = l ∧ l' = l.set ((t - 1000000) % 1000) (.own nm 0 0 false))) := by
              intro o l' h
              rw [lkup_cons] at h
              split at h
              · rename_i he
                cases h
                exact ⟨l, by rw [he]; exact hlo, .inr ⟨he, rfl, rfl⟩⟩
              · exact ⟨l', h, .inl rfl⟩
            refine ⟨?_, hs2.live, hs2.froz, ?_, hs2.injR, ?_, hs2.Slt, hs2.Blt, hs2.SB⟩
            · intro o l' h
              obtain ⟨l0, h0, h1⟩ := hset o l' h
              obtain ⟨q1, q2, q3⟩ := hs2.obj o l0 h0
              rcases h1 with rfl | ⟨rfl, rfl, rfl⟩
              · exact ⟨q1, q2, q3⟩
              · refine ⟨q1, q2, ?_⟩
                obtain ⟨c, e, fr, w1, w2, w3⟩ := q3
                refine ⟨c, e, fr, w1, w2, repL_nils (by rw [hyg]; exact .inr rfl) w3 hlj⟩
            · intro o o' l1 l2 h1 h2 hb
              obtain ⟨l3, h3, _⟩ := hset o l1 h1
              obtain ⟨l4, h4, _⟩ := hset o' l2 h2
              exact hs2.injO o o' l3 l4 h3 h4 hb
            · intro o r1 l1 rw1 h1 h2 hv
              obtain ⟨l3, h3, _⟩ := hset o l1 h1
              exact hs2.injX o r1 l3 rw1 h3 h2 hv
          · rw [hyg] at hn
            rcases hn with hn | hn
            · have := hU n hn; omega
            · omega
        · exact same
      · exact same
theorem liftS_ok {V : Env} {a : Act} : ∀ {l : List (Nat × Row)} {x : Cx} {nm : Nat} {s : St}, Fits V x s a → (∀ n, x.g.U n → n < nm) → ∃ y, Rel V.m x y ∧ y.w = x.w ∧ Fits V y (liftS l nm s) a
  | [], x, nm, s, hf, _ => ⟨x, Rel.refl _ _, rfl, hf⟩
  | (t, r) :: l, x, nm, s, hf, hU => by
    obtain ⟨y, h1, h2, h3, h4⟩ := lift1_ok (t := t) (r := r) hf hU
    obtain ⟨z, h5, h6, h7⟩ := liftS_ok (l := l) h3 h4
    exact ⟨z, h1.trans h5, h6.trans h2, h7⟩
theorem says_tidyL {R : Type} {V : Env} {x : Cx} {s : St} {a : Act} {h : List Nat × List (Nat × Row)} {k : St → Ans R} {r : R} (hf : Tidied V x s a) (hs : Says (evTidyL V h s k) r) :
    ∃ y s', Rel V.m x y ∧ y.w = x.w ∧ Tidied V y s' a ∧ Says (k s') r := by
  obtain ⟨y, h1, h2, h3⟩ := liftS_ok (l := h.2) hf.toFits hf.low
  obtain ⟨z, s', h4, h5, h6, h7⟩ := says_tidy h3 hs
  exact ⟨z, s', h1.trans h4, h5.trans h2, h6, h7⟩
theorem told_ok {V : Env} {x : Cx} {s : St} {a : Act} {o : Operand} {b : Bool} (hf : Tidied V x s a) (ho : opd s o = some (pbool b)) : Tidied V x (told o b s) a := by
  unfold told
  split
  · rename_i t
    refine ⟨⟨hf.sto, ?_, hf.nt, hf.df, hf.pin⟩, hf.low⟩
    intro t' v hl
    rw [lkup_cons] at hl
    split at hl
    · rename_i he
      cases hl
      rw [he]
      exact hf.sl t _ ho
    · exact hf.sl t' v hl
  · exact hf

theorem says_region {R : Type} {V : Env} (hV : ∀ f as objs rows res, V.call f as objs rows res → Runs V.P f as objs rows res) {ops : Array Oper} {id : Nat} {Q : Exit → Act → World → Prop} {x : Cx} {s : St} {a : Act} {sc : List Ev} {k : List Ev → St → Ans R} {r : R}
    (hf : Tidied V x s a) (h : Says (evRegion V id ops s sc k) r) (hQ : ∀ y s' a' sc', Rel V.m x y → Tidied V y s' a' → Says (k sc' s') r → Q .normal a' y.w) : (Code.region id ops false).wp V.P Q a x.w := by
  unfold evRegion at h
  refine wp_region_list (says_ops hV hf.toFits ?_ (by simp) h fun y s' a' sc' hrel hf' h' => ?_)
  · intro m hu
    exact .inl (hf.low m hu)
  · obtain ⟨z, s2, hrel2, hw, ht, h2⟩ := says_tidy hf' h'
    rw [← hw]
    exact hQ z s2 a' sc' (hrel.trans hrel2) ht h2
end Go.Ev
