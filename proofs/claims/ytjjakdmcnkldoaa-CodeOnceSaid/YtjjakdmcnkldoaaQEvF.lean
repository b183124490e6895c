/- Slicing, numbers, texts, tests. No program in sight. -/
import Derived.Test.YtjjakdmcnkldoaaQEvE
namespace Go.Ev
set_option linter.unusedVariables false
set_option linter.unusedSimpArgs false

def RepO (x : Cx) (o : Option SV) (v : Option Value) : Prop :=
  match o, v with
  | none, none => True
  | some s, some u => RepS x s u
  | _, _ => False
theorem rep_int {x : Cx} {k : IntKind} {n : Int} {v : Value} (h : RepS x (pint k n) v) : v = .int k n := by
  obtain ⟨_, h⟩ := h
  simpa only [RepC, RepP] using h
theorem rep_bool {x : Cx} {b : Bool} {v : Value} (h : RepS x (pbool b) v) : v = .bool b := by
  obtain ⟨_, h⟩ := h
  simpa only [RepC, RepP] using h
theorem rep_str {x : Cx} {b : ByteArray} {v : Value} (h : RepS x (pone (.str b)) v) : v = .string b := by
  obtain ⟨_, h⟩ := h
  simpa only [RepC, RepP] using h
theorem Gives.pv {R : Type} {P : Program} {x : Cx} {e : Sem Value} {k : SV → Ans R} {r : R} {p : PV} {u : Value} (h : Says (k (pone p)) r) (hr : ∀ w, e.run P w = .ok u w) (hp : RepP x.w x.okP x.okP p u) : Gives P x e k r :=
  .one (c := .pv p) h hr (oneCell_repP hp) hp
theorem Gives.int {R : Type} {P : Program} {x : Cx} {e : Sem Value} {k : SV → Ans R} {r : R} {kd : IntKind} {n : Int} (h : Says (k (pint kd n)) r) (hr : ∀ w, e.run P w = .ok (.int kd n) w) : Gives P x e k r :=
  .pv h hr (by simp [RepP])
theorem Gives.bool {R : Type} {P : Program} {x : Cx} {e : Sem Value} {k : SV → Ans R} {r : R} {b : Bool} (h : Says (k (pbool b)) r) (hr : ∀ w, e.run P w = .ok (.bool b) w) : Gives P x e k r :=
  .pv h hr (by simp [RepP])

theorem says_bnd {R : Type} {x : Cx} {o : Option SV} {v : Option Value} {d : Int} {k : Int → Ans R} {r : R} (hv : RepO x o v) (h : Says (bnd o d k) r) :
    ∃ n, Says (k n) r ∧ ((o = none ∧ v = none ∧ n = d) ∨ ∃ s kd, o = some s ∧ v = some (.int kd n)) := by
  unfold bnd at h
  split at h
  · rename_i s
    obtain ⟨kd, n, hs, h⟩ := says_wInt h
    cases v with
    | none => exact hv.elim
    | some u =>
      subst hs
      exact ⟨n, h, .inr ⟨_, kd, rfl, by rw [rep_int hv]⟩⟩
  · cases v with
    | none => exact ⟨d, h, .inl ⟨rfl, rfl, rfl⟩⟩
    | some u => exact hv.elim
theorem run_bound {P : Program} {w : World} {kd : IntKind} {n : Int} {y : Nat} {c : BoundsCode} (h0 : 0 ≤ n) (h1 : n ≤ y) : (Instr.sliceBound (.int kd n) y c).run P w = .ok n.toNat w := by
  simp [Instr.sliceBound, asIntOf, h0, h1]
theorem run_bounds {P : Program} {w : World} {isS : Bool} {len cap : Nat} {lo hi mx : Option Value} {l h m : Int}
    (hl : (lo = none ∧ l = 0) ∨ ∃ kd, lo = some (.int kd l)) (hh : (hi = none ∧ h = (len : Int)) ∨ ∃ kd, hi = some (.int kd h)) (hm : mx = none ∨ (∃ kd, mx = some (.int kd m)) ∧ hi ≠ none)
    (h0 : 0 ≤ l) (h1 : l ≤ h) (h2 : h ≤ (len : Int)) (h3 : len ≤ cap) (h4 : m = h) :
    (Instr.sliceBounds isS len cap lo hi mx).run P w = .ok (l.toNat, h.toNat, if mx = none then cap else h.toNat) w := by
  subst h4
  unfold Instr.sliceBounds
  rcases hm with rfl | ⟨⟨kd, rfl⟩, hne⟩
  · simp only [pure_bind]
    rcases hh with ⟨rfl, rfl⟩ | ⟨kh, rfl⟩
    · simp only [pure_bind]
      rcases hl with ⟨rfl, rfl⟩ | ⟨kl, rfl⟩
      · simp
      · simp only [Sem.run_bind, run_bound (P := P) (w := w) h0 h1, Result.andThen_ok]; simp
    · have e1 : (Instr.sliceBound (.int kh m) cap (if isS = true then .sliceAcap else .sliceAlen)).run P w = .ok m.toNat w := run_bound (by omega) (by omega)
      simp only [Sem.run_bind, e1, Result.andThen_ok]
      rcases hl with ⟨rfl, rfl⟩ | ⟨kl, rfl⟩
      · simp
      · have e2 := run_bound (P := P) (w := w) (kd := kl) (y := m.toNat) (c := .sliceB) h0 (by omega : l ≤ (m.toNat : Int))
        simp [e2]
  · rcases hh with ⟨rfl, rfl⟩ | ⟨kh, rfl⟩
    · exact (hne rfl).elim
    · have e0 : (Instr.sliceBound (.int kd m) cap (if isS = true then .slice3Acap else .slice3Alen)).run P w = .ok m.toNat w := run_bound (by omega) (by omega)
      have e1 : (Instr.sliceBound (.int kh m) m.toNat .slice3B).run P w = .ok m.toNat w := run_bound (by omega) (by omega)
      simp only [Sem.run_bind, e0, e1, Result.andThen_ok]
      rcases hl with ⟨rfl, rfl⟩ | ⟨kl, rfl⟩
      · simp
      · have e2 := run_bound (P := P) (w := w) (kd := kl) (y := m.toNat) (c := .slice3C) h0 (by omega : l ≤ (m.toNat : Int))
        simp [e2]

theorem len_cut {r : Row} {off n : Nat} (h : off + n ≤ r.len) : (r.cut off n).len = n := by
  cases r <;> simp only [Row.cut, Row.len] at h ⊢ <;> simp only [List.length_take, List.length_drop] <;> omega
theorem esz_cut {r : Row} {off n : Nat} : (r.cut off n).esz = r.esz := by cases r <;> rfl
theorem repPss_drop {w : World} {ok : Nat → Prop} {sz : Nat} : ∀ {l : List (List PV)} {f : Nat → Option Value} (off : Nat), RepPss w ok sz l f → RepPss w ok sz (l.drop off) fun i => f (off * sz + i)
  | l, f, 0, h => by simpa using h
  | [], f, off + 1, h => by simp [RepPss]
  | e :: l, f, off + 1, h => by
    simp only [RepPss] at h
    have := repPss_drop off h.2.2
    simp only [List.drop_succ_cons]
    have e1 : (fun i => f (off * sz + i + sz)) = fun i => f ((off + 1) * sz + i) := funext fun i => by congr 1; rw [Nat.add_mul]; omega
    rw [← e1]; exact this
theorem repPss_take {w : World} {ok : Nat → Prop} {sz : Nat} : ∀ {l : List (List PV)} {f : Nat → Option Value} (n : Nat), RepPss w ok sz l f → RepPss w ok sz (l.take n) f
  | l, f, 0, h => by simp [RepPss]
  | [], f, n + 1, h => by simp [RepPss]
  | e :: l, f, n + 1, h => by
    simp only [RepPss, List.take_succ_cons] at h ⊢
    exact ⟨h.1, h.2.1, repPss_take n h.2.2⟩
theorem rowIs_cut {w : World} {ok : Nat → Prop} {r : Row} {off n : Nat} {f : Nat → Option Value} (hf : off + n ≤ r.len) (h : RowIs w ok r f) : RowIs w ok (r.cut off n) fun i => f (off * r.esz + i) := by
  cases r with
  | ints k l =>
    intro i hi
    simp only [Row.len] at hf
    simp only [List.length_take, List.length_drop] at hi
    have := h (off + i) (by omega)
    simp only [Row.esz, Nat.mul_one]
    rw [this]
    simp [List.getD, List.getElem?_take, List.getElem?_drop, show i < n by omega]
  | bools l =>
    intro i hi
    simp only [Row.len] at hf
    simp only [List.length_take, List.length_drop] at hi
    have := h (off + i) (by omega)
    simp only [Row.esz, Nat.mul_one]
    rw [this]
    simp [List.getD, List.getElem?_take, List.getElem?_drop, show i < n by omega]
  | recs sz l => exact repPss_take n (repPss_drop off h)

theorem run_sliceAt {P : Program} {w : World} {t : TypeId} (hn : ∀ n e, P.underlying t ≠ some (.array n e)) (d : TypeDesc) (hu : P.underlying t = some d) (v : Value) (lo hi mx : Option Value) :
    (Instr.sliceAt t v lo hi mx).run P w = (Instr.slice t v lo hi mx).run P w := by
  unfold Instr.sliceAt
  rw [Sem.run_bind, run_underlying hu, Result.andThen_ok]
  cases d <;> first | rfl | exact (hn _ _ hu).elim

theorem says_slice {R : Type} {P : Program} {x : Cx} {t : TypeId} {xv : SV} {v : Value} {lo hi mx : Option SV} {vl vh vm : Option Value} {s : St} {k : SV → Ans R} {r : R} (hs : Sto x s.objs s.rows) (hv : RepS x xv v)
    (hlo : RepO x lo vl) (hhi : RepO x hi vh) (hmx : RepO x mx vm) (h : Says (evSlice P t xv lo hi mx s k) r) : Gives P x (Instr.sliceAt t v vl vh vm) k r := by
  unfold evSlice at h
  split at h
  · rename_i b
    obtain ⟨hb, h⟩ := says_chk h
    simp only [Bool.and_eq_true] at hb
    obtain ⟨l, h, hl⟩ := says_bnd hlo h
    obtain ⟨hh, h, hh'⟩ := says_bnd hhi h
    obtain ⟨hc, hK⟩ := says_need h
    clear h
    simp only [Bool.and_eq_true, decide_eq_true_eq] at hc
    obtain rfl : v = .string b := rep_str hv
    obtain rfl : mx = none := by simpa using hb.1
    obtain rfl : vm = none := by cases vm with | none => rfl | some _ => exact hmx.elim
    have hu : P.underlying t = some .string := by
      have := hb.2
      unfold isStr at this
      split at this
      · assumption
      · cases this
    refine .pv (u := .string (b.extract l.toNat hh.toNat)) hK (fun w => ?_) (by simp only [RepP])
    rw [run_sliceAt (by rw [hu]; intro n e h; cases h) _ hu]
    have e := run_bounds (P := P) (w := w) (isS := false) (len := b.size) (cap := b.size) (lo := vl) (hi := vh) (mx := none) (l := l) (h := hh) (m := hh)
      (hl.elim (fun ⟨_, a, b⟩ => .inl ⟨a, b⟩) (fun ⟨_, kd, _, a⟩ => .inr ⟨kd, a⟩)) (hh'.elim (fun ⟨_, a, b⟩ => .inl ⟨a, b⟩) (fun ⟨_, kd, _, a⟩ => .inr ⟨kd, a⟩)) (.inl rfl) hc.1.1 hc.1.2 hc.2 (Nat.le_refl _) rfl
    simp [Instr.slice, run_underlying hu, e]
  · rename_i c hnot
    obtain ⟨hmh, h⟩ := says_chk h
    obtain ⟨e, he, h⟩ := says_get h
    obtain ⟨r0, hr0, h⟩ := says_get h
    obtain ⟨hone, hv⟩ := hv
    obtain ⟨len, h, hlen⟩ := says_cvLen hv h
    obtain ⟨l, h, hl⟩ := says_bnd hlo h
    obtain ⟨hh, h, hh'⟩ := says_bnd hhi h
    obtain ⟨m, h, hm'⟩ := says_bnd hmx h
    obtain ⟨hc, hM⟩ := says_need h
    clear h
    simp only [Bool.and_eq_true, decide_eq_true_eq] at hc
    obtain ⟨⟨⟨h0l, hlh⟩, hhlen⟩, rfl⟩ := hc
    obtain ⟨hesz, hr0len, hr0is⟩ := row0_spec hr0
    have hu := run_elemT he
    -- the machine's part
    have mach : ∀ a cap, v = .slice a len cap → len ≤ cap → ∀ w, (Instr.sliceAt t v vl vh vm).run P w =
        .ok (.slice (if (if vm = none then cap else m.toNat) = l.toNat then a else a.map (·.add (l.toNat * r0.esz))) (m - l).toNat ((if vm = none then cap else m.toNat) - l.toNat)) w := by
      intro a cap hv hle w
      subst hv
      rw [run_sliceAt (by rw [hu]; intro n e h; cases h) _ hu]
      have e := run_bounds (P := P) (w := w) (isS := true) (len := len) (cap := cap) (lo := vl) (hi := vh) (mx := vm) (l := l) (h := m) (m := m)
        (hl.elim (fun ⟨_, a, b⟩ => .inl ⟨a, b⟩) (fun ⟨_, kd, _, a⟩ => .inr ⟨kd, a⟩)) (hh'.elim (fun ⟨_, a, b⟩ => .inl ⟨a, b⟩) (fun ⟨_, kd, _, a⟩ => .inr ⟨kd, a⟩))
        (hm'.elim (fun ⟨_, a, _⟩ => .inl a) (fun ⟨sm, kd, a1, a2⟩ => .inr ⟨⟨kd, a2⟩, by
          intro hn
          subst hn; subst a1
          cases hi with
          | none => simp at hmh
          | some _ => exact hhi.elim⟩)) h0l hlh hhlen hle rfl
      simp only [Instr.slice, Sem.run_bind, run_underlying hu, Result.andThen_ok, e, (eszOk_spec hesz).1, Sem.run_pure]
      congr 2
      omega
    have hvm : vm = none ↔ mx = none := by
      cases mx <;> cases vm <;> simp [RepO] at hmx ⊢
    have hvh : vh = none ↔ hi = none := by
      cases hi <;> cases vh <;> simp [RepO] at hhi ⊢
    have htight : ∀ {tt : Bool} {cap : Nat}, (tt = true → cap = len) → tightOf mx hi tt = true → ((if vm = none then cap else m.toNat) - l.toNat) = (m - l).toNat := by
      intro tt cap htt htg
      unfold tightOf at htg
      split at htg
      · rename_i s1 _
        rw [if_neg (by rw [hvm]; simp)]; omega
      · rw [if_pos (hvm.2 rfl)]
        rcases hh' with ⟨_, _, rfl⟩ | ⟨s1, kd, hx, _⟩
        · rw [htt htg]; omega
        · cases hx
      · cases htg
    have hcaple : ∀ {cap : Nat}, len ≤ cap → (m - l).toNat ≤ (if vm = none then cap else m.toNat) - l.toNat := by
      intro cap hle
      split <;> omega
    -- a lasting or lent slice
    have sl : ∀ {okr : Nat → Prop} {p : PV} {kk : Row → Bool → Ans R}, RepP x.w x.okP okr p v → Says (p.row r0 kk) r → (∀ {n' : Nat}, p.slen (R := Nat) (fun n => some (n, [])) = some (n', []) → n' = len) →
        ∃ rw tt, Says (kk rw tt) r ∧ (rw.esz = r0.esz → ∃ u, (∀ w, (Instr.sliceAt t v vl vh vm).run P w = .ok u w) ∧ RepP x.w x.okP okr ((rw.cut l.toNat (m - l).toNat).pv (tightOf mx hi tt)) u) := by
      intro okr p kk hp h hpl
      obtain ⟨rw, tt, h, hsl, hcase⟩ := says_row hr0len (fun f => hr0is _ _ _) hp h
      refine ⟨rw, tt, h, fun hes => ?_⟩
      have hrl : rw.len = len := by
        rcases hcase with rfl | ⟨rfl, rfl | rfl⟩
        · exact hpl (by cases rw <;> rfl)
        · rw [hr0len]; exact hpl rfl
        · rw [hr0len]; exact hpl rfl
      have hcut : l.toNat + (m - l).toNat ≤ rw.len := by omega
      rcases hsl with ⟨hx, hx0⟩ | ⟨b, o, cap, sp, hvv, hle, htt, hcell⟩
      · refine ⟨_, mach none 0 (by rw [hx]; congr 1; omega) (by omega), repP_row.2 (.inl ⟨?_, ?_⟩)⟩
        · have : (m - l).toNat = 0 := by omega
          rw [this]
          congr 1
          · simp
          · split <;> omega
        · rw [len_cut hcut]; omega
      · rw [hrl] at hvv hle
        refine ⟨_, mach _ cap hvv hle, repP_row.2 (.inr ?_)⟩
        rw [len_cut hcut]
        by_cases hz : (if vm = none then cap else m.toNat) = l.toNat
        · rw [if_pos hz]
          refine ⟨b, o, _, sp, rfl, hcaple hle, fun htg => htight (fun h => by rw [htt h, hrl]) htg, fun hpos => ?_⟩
          exfalso
          have := hcaple hle
          omega
        · rw [if_neg hz]
          refine ⟨b, o + l.toNat * r0.esz, _, if l.toNat * r0.esz = 0 then sp else none, by unfold Addr.add; split <;> simp_all, hcaple hle, fun htg => htight (fun h => by rw [htt h, hrl]) htg, fun hpos => ?_⟩
          obtain ⟨hspn, hok, hrow⟩ := hcell (by omega)
          refine ⟨by simp [hspn], hok, ?_⟩
          have := rowIs_cut hcut hrow
          rw [hes] at this
          simpa [Nat.add_assoc] using this
    have hcvlen : ∀ p : PV, (c = .pv p ∨ c = .bor p) → ∀ {n' : Nat}, p.slen (R := Nat) (fun n => some (n, [])) = some (n', []) → n' = len := by
      intro p hc n' hn'
      have : ∃ b o cap, ∃ sp, (v = .slice none 0 0 ∧ len = 0) ∨ v = .slice (some ⟨b, o, sp⟩) len cap := by
        rcases hlen with h | ⟨b, o, cap, sp, h, _⟩
        · exact ⟨0, 0, 0, none, .inl h⟩
        · exact ⟨b, o, cap, sp, .inr h⟩
      have hs2 : Says (p.slen (R := Nat) (fun n => some (n, []))) n' := ⟨[], hn', by simp⟩
      have hrp : ∃ okr, RepP x.w x.okP okr p v := by
        rcases hc with rfl | rfl
        · exact ⟨_, hv⟩
        · exact ⟨_, hv⟩
      obtain ⟨okr, hrp⟩ := hrp
      obtain ⟨n2, h2, h3⟩ := says_slen hrp hs2
      obtain ⟨rfl, _⟩ := says_some h2
      obtain ⟨b, o, cap, sp, h4⟩ := this
      rcases h3 with ⟨h3, rfl⟩ | ⟨b', o', cap', sp', h3, _⟩ <;> rcases h4 with ⟨h4, rfl⟩ | h4
      · rfl
      · rw [h3] at h4; cases h4
      · rw [h3] at h4; cases h4
      · rw [h3] at h4; cases h4; rfl
    cases c with
    | pv p =>
      obtain ⟨rw, tt, h, hf⟩ := sl hv hM (hcvlen p (.inl rfl))
      obtain ⟨hes, h⟩ := says_chk h
      obtain ⟨u, hrun, hp⟩ := hf (Nat.eq_of_beq_eq_true hes)
      exact .pv h hrun hp
    | bor p =>
      obtain ⟨rw, tt, h, hf⟩ := sl hv hM (hcvlen p (.inr rfl))
      obtain ⟨hes, h⟩ := says_chk h
      obtain ⟨u, hrun, hp⟩ := hf (Nat.eq_of_beq_eq_true hes)
      exact .one (c := .bor _) h hrun (oneCell_repP hp) hp
    | own rr off n tt =>
      obtain ⟨rb, hrb, hM2⟩ := says_get hM
      obtain ⟨hU, hrl, hown⟩ := hv
      have hn : n = len := by
        rcases hown with ⟨h1, h2⟩ | ⟨b, o, cap, h1, _⟩ <;> rcases hlen with ⟨h3, h4⟩ | ⟨b', o', cap', sp', h3, _⟩
        · omega
        · rw [h1] at h3; cases h3
        · rw [h1] at h3; cases h3
        · rw [h1] at h3; cases h3; rfl
      have go : ∀ z, x.g.rs rr = z → z = r0.esz → ∃ u, (∀ w, (Instr.sliceAt t v vl vh vm).run P w = .ok u w) ∧ u.oneCell' = true ∧ RepC x (.own rr (off + l.toNat) (m - l).toNat (tightOf mx hi tt)) u := by
        intro z hz1 hz
        subst hz1
        rcases hown with ⟨hx, hx0⟩ | ⟨b, o, cap, hvv, hle, htt, hpos⟩
        · refine ⟨_, mach none 0 (by rw [hx]; congr 1; omega) (by omega), rfl, hU, by omega, .inl ⟨?_, by omega⟩⟩
          have : (m - l).toNat = 0 := by omega
          rw [this]
          congr 1
          · simp
          · split <;> omega
        · rw [hn] at hvv hle
          refine ⟨_, mach _ cap hvv hle, rfl, hU, by omega, .inr ?_⟩
          by_cases hz : (if vm = none then cap else m.toNat) = l.toNat
          · rw [if_pos hz]
            refine ⟨b, o, _, rfl, hcaple hle, fun htg => htight (fun h => by rw [htt h, hn]) htg, fun hp => ?_⟩
            exfalso; omega
          · rw [if_neg hz]
            refine ⟨b, o + l.toNat * r0.esz, _, by simp [Addr.add_lit], hcaple hle, fun htg => htight (fun h => by rw [htt h, hn]) htg, fun hp => ?_⟩
            obtain ⟨hb, ho, hfit⟩ := hpos (by have := hcaple hle; split at hp <;> omega)
            refine ⟨hb, by rw [ho, ‹x.g.rs rr = r0.esz›, Nat.add_mul], Nat.le_trans (Nat.mul_le_mul_right _ ?_) hfit⟩
            split <;> omega
      cases rb with
      | live rw =>
        obtain ⟨hes, h⟩ := says_chk hM2
        obtain ⟨hes', _⟩ := hs.liveE hrb
        obtain ⟨u, hrun, h1, hp⟩ := go _ hes'.symm (Nat.eq_of_beq_eq_true hes)
        exact .one h hrun h1 hp
      | froz rw =>
        obtain ⟨hes, h⟩ := says_chk hM2
        obtain ⟨hes', _⟩ := hs.frozE hrb
        obtain ⟨u, hrun, h1, hp⟩ := go _ hes'.symm (Nat.eq_of_beq_eq_true hes)
        exact .one h hrun h1 hp
      | gone => exact (says_none hM2).elim
    | ref => exact (says_none hM).elim
    | iadr => exact (says_none hM).elim
    | radr => exact (says_none hM).elim
    | dead => exact (says_none hM).elim
  · exact (says_none h).elim

/-! ### Numbers, texts, tests -/
theorem says_index {R : Type} {P : Program} {x : Cx} {t : TypeId} {xv iv : SV} {v u : Value} {k : SV → Ans R} {r : R} (hv : RepS x xv v) (hu : RepS x iv u) (ht : isStr P t = true) (h : Says (evIndex xv iv k) r) :
    Gives P x (Instr.index t v u) k r := by
  have hty : P.underlying t = some .string := by
    unfold isStr at ht
    split at ht
    · assumption
    · cases ht
  unfold evIndex at h
  split at h
  · rename_i s
    obtain ⟨kd, n, hi, h1⟩ := says_wInt h
    clear h
    obtain ⟨hb, h2⟩ := says_need h1
    clear h1
    rw [hi] at hu
    obtain rfl := rep_int hu
    obtain rfl := rep_str hv
    simp only [Bool.and_eq_true, decide_eq_true_eq] at hb
    refine .int h2 (fun w => ?_)
    have hlt : n.toNat < s.size := by omega
    have hget : s[n.toNat]? = some (s.data.getD n.toNat 0) := by
      rw [getElem?_pos s n.toNat hlt]
      congr 1
      have h3 : n.toNat < s.data.size := hlt
      simp only [Array.getD, h3, dif_pos]
      rfl
    simp [Instr.index, asIntOf, run_underlying hty, hb.1, hget]
  · exact (says_none h).elim
theorem says_neg? {op : BinOp} {b : Bool} {p : PV} (h : neg? op b = some p) : (op = .eql ∧ p = .bool b) ∨ (op = .neq ∧ p = .bool (!b)) := by
  unfold neg? at h
  split at h <;> cases h <;> simp
end Go.Ev
