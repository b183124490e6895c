/- Numbers, texts, tests. No program in sight. -/
import Derived.Test.YtjjakdmcnkldoaaQEvF
import Derived.Laws.Strings
namespace Go.Ev
set_option linter.unusedVariables false
set_option linter.unusedSimpArgs false

theorem equal_one {P : Program} {w : World} {t : TypeId} (x y : Value) (b : Bool) (h : ∀ d, (Op.equalIn (d + 1) t x y).run P w = .ok b w) : (Op.equal t x y).run P w = .ok b w := h 9999
theorem run_equal_bool {P : Program} {w : World} {t : TypeId} (ht : P.underlying t = some .bool) (a b : Bool) : (Op.equal t (.bool a) (.bool b)).run P w = .ok (a == b) w :=
  equal_one _ _ _ fun d => by simp [Op.equalIn, run_underlying ht]
theorem run_equal_ptr {P : Program} {w : World} {t e : TypeId} (ht : P.underlying t = some (.pointer e)) (a : Option Addr) : (Op.equal t (.pointer a) (.pointer none)).run P w = .ok a.isNone w := by
  cases a with
  | none => exact equal_one _ _ _ fun d => by simp [Op.equalIn, run_underlying ht]
  | some a => exact equal_one _ _ _ fun d => by simp [Op.equalIn, run_underlying ht]
theorem run_equal_sl {P : Program} {w : World} {t e : TypeId} (ht : P.underlying t = some (.slice e)) (a : Option Addr) (n c : Nat) : (Op.equal t (.slice a n c) (.slice none 0 0)).run P w = .ok a.isNone w := by
  cases a with
  | none => exact equal_one _ _ _ fun d => by simp [Op.equalIn, run_underlying ht]
  | some a => exact equal_one _ _ _ fun d => by simp [Op.equalIn, run_underlying ht]

theorem says_neg {R : Type} {op : BinOp} {b : Bool} {k : SV → Ans R} {r : R} (h : Says (getD' (neg? op b) fun p => k (pone p)) r) : (op = .eql ∧ Says (k (pbool b)) r) ∨ (op = .neq ∧ Says (k (pbool (!b))) r) := by
  obtain ⟨p, hp, h⟩ := says_get h
  rcases says_neg? hp with ⟨rfl, rfl⟩ | ⟨rfl, rfl⟩
  · exact .inl ⟨rfl, h⟩
  · exact .inr ⟨rfl, h⟩

theorem beq_bytes (a b : ByteArray) : (a.toList == b.toList) = decide (a = b) := by
  by_cases e : a = b
  · subst e; simp
  · have : a.toList ≠ b.toList := fun h => e (by
      rw [ByteArray.toList_eq, ByteArray.toList_eq] at h
      cases a; cases b
      congr 1
      exact Array.ext' h)
    simp [e, this]

theorem says_bin_int {R : Type} {P : Program} {x : Cx} {t : TypeId} {op : BinOp} {kx ky : IntKind} {a b : Int} {k : SV → Ans R} {r : R} (h : Says (evInt op kx a ky b k) r) :
    Gives P x (binOp op t (.int kx a) (.int ky b)) k r := by
  unfold evInt at h
  cases op
  case shl =>
    obtain ⟨hb, h1⟩ := says_need h
    simp only [decide_eq_true_eq] at hb
    refine .int h1 (fun _ => ?_)
    simp [binOp, Op.shift, show ¬ b < 0 by omega]
  case shr =>
    obtain ⟨hb, h1⟩ := says_need h
    simp only [decide_eq_true_eq] at hb
    refine .int h1 (fun _ => ?_)
    simp [binOp, Op.shift, show ¬ b < 0 by omega]
  case quo =>
    obtain ⟨hk, h1⟩ := says_chk h
    obtain ⟨hb, h2⟩ := says_need h1
    simp only [decide_eq_true_eq] at hk
    simp at hb
    subst hk
    refine .int h2 (fun _ => ?_)
    simp [binOp, Op.intDiv, hb]
  case rem =>
    obtain ⟨hk, h1⟩ := says_chk h
    obtain ⟨hb, h2⟩ := says_need h1
    simp only [decide_eq_true_eq] at hk
    simp at hb
    subst hk
    refine .int h2 (fun _ => ?_)
    simp [binOp, Op.intDiv, hb]
  all_goals
    obtain ⟨hk, h1⟩ := says_chk h
    obtain ⟨p, hp, h2⟩ := says_get h1
    simp only [decide_eq_true_eq] at hk
    clear h h1
    subst hk
    simp only [ibin, Option.some.injEq] at hp
    subst hp
    first
    | (refine .int h2 (fun _ => ?_); simp [binOp, Op.intArith, Op.intBits]; done)
    | (refine .bool h2 (fun _ => ?_); simp [binOp, Op.intCmp]; done)
    | (refine .bool h2 (fun _ => ?_); simp [binOp, Op.intCmp]; rfl)
    | (refine .bool h2 (fun _ => ?_); simp only [binOp, Op.intCmp]; simp [bne, BEq.beq]; done)
    | (refine .bool h2 (fun _ => ?_); simp only [binOp, Op.intCmp]; by_cases e : a = b <;> simp [e]; done)
theorem says_bin_str {R : Type} {P : Program} {x : Cx} {t : TypeId} {op : BinOp} {a b : ByteArray} {k : SV → Ans R} {r : R} (h0 : Says (sbin op a b fun p => k (pone p)) r) :
    Gives P x (binOp op t (.string a) (.string b)) k r := by
  have hl := beq_bytes a b
  unfold sbin at h0
  cases op
  case add =>
    obtain ⟨hb, h1⟩ := says_need h0
    simp only [decide_eq_true_eq] at hb
    refine .pv (u := .string (a ++ b)) h1 (fun _ => ?_) (by simp [RepP])
    have : ¬ ((a.size + b.size : Nat) : Int) > IntKind.i64.max := by rw [IntKind.max_i64]; omega
    simp only [binOp, Op.stringOp, this, if_false, Sem.run_pure]
  case eql => exact .bool h0 (fun _ => by simp [binOp, Op.stringOp, hl])
  case neq => exact .bool h0 (fun _ => by simp [binOp, Op.stringOp, hl])
  case lss => exact .bool h0 (fun _ => by simp [binOp, Op.stringOp])
  case leq => exact .bool h0 (fun _ => by simp only [binOp, Op.stringOp, hl, Sem.run_pure])
  case gtr => exact .bool h0 (fun _ => by simp only [binOp, Op.stringOp, hl, Sem.run_pure])
  case geq => exact .bool h0 (fun _ => by simp [binOp, Op.stringOp])
  all_goals exact (says_none h0).elim

theorem says_bin {R : Type} {P : Program} {x : Cx} {t : TypeId} {op : BinOp} {a b : SV} {v u : Value} {k : SV → Ans R} {r : R} (ox oy : Operand) (hv : RepS x a v) (hu : RepS x b u) (h : Says (evBin P t op a b k) r) :
    Gives P x (do eqGuard op t ox oy v u; binOp op t v u) k r := by
  unfold evBin at h
  split at h
  · rename_i kx a ky b
    rw [rep_int hv, rep_int hu, eqGuard_at_int]
    exact says_bin_int h
  · rename_i a b
    rw [rep_str hv, rep_str hu, eqGuard_at_string]
    exact says_bin_str h
  · rename_i a b
    obtain ⟨ht, h1⟩ := says_chk h
    rw [rep_bool hv, rep_bool hu, eqGuard_at_bool]
    have hty : P.underlying t = some .bool := by
      unfold isBoolT at ht
      split at ht
      · assumption
      · cases ht
    rcases says_neg h1 with ⟨ho, h2⟩ | ⟨ho, h2⟩
    · rw [ho]; exact .bool h2 (fun _ => by simp [binOp, run_equal_bool hty])
    · rw [ho]; exact .bool h2 (fun _ => by simp [binOp, run_equal_bool hty])
  · rename_i c
    obtain ⟨ht, h1⟩ := says_chk h
    obtain ⟨e, hty⟩ : ∃ e, P.underlying t = some (.pointer e) := by
      unfold isPtrT at ht
      split at ht
      · exact ⟨_, by assumption⟩
      · cases ht
    have hu2 : u = .pointer none := by obtain ⟨_, hu⟩ := hu; simpa only [RepC, RepP] using hu
    have hv2 : RepC x c v := hv.2
    have : ∃ pa : Option Addr, v = .pointer pa ∧ Says (getD' (neg? op pa.isNone) fun p => k (pone p)) r := by
      unfold nilqP at h1
      split at h1
      · simp only [RepC, RepP] at hv2; exact ⟨none, hv2, h1⟩
      · simp only [RepC, RepP] at hv2; obtain ⟨b, o, hv2, _⟩ := hv2; exact ⟨_, hv2, h1⟩
      · exact ⟨_, hv2.2, h1⟩
      · exact (says_none h1).elim
    obtain ⟨pa, hpa, h2⟩ := this
    rw [hpa, hu2, eqGuard_at_pointer]
    rcases says_neg h2 with ⟨ho, h3⟩ | ⟨ho, h3⟩
    · rw [ho]; exact .bool h3 (fun _ => by simp [binOp, run_equal_ptr hty])
    · rw [ho]; exact .bool h3 (fun _ => by simp [binOp, run_equal_ptr hty])
  · rename_i c
    obtain ⟨ht, h1⟩ := says_chk h
    obtain ⟨e, hty⟩ : ∃ e, P.underlying t = some (.slice e) := by
      unfold isSlT at ht
      split at ht
      · exact ⟨_, by assumption⟩
      · cases ht
    have hu2 : u = .slice none 0 0 := by obtain ⟨_, hu⟩ := hu; simpa only [RepC, RepP] using hu
    have hv2 : RepC x c v := hv.2
    have : ∃ (pa : Option Addr) (n m : Nat), v = .slice pa n m ∧ Says (getD' (neg? op pa.isNone) fun p => k (pone p)) r := by
      unfold nilqS at h1
      split at h1
      · simp only [RepC, RepP] at hv2; exact ⟨none, 0, 0, hv2, h1⟩
      · simp only [RepC, RepP] at hv2; obtain ⟨b, o, cap, sp, hv2⟩ := hv2; exact ⟨_, _, _, hv2, h1⟩
      · simp only [RepC, RepP] at hv2; exact ⟨none, 0, 0, hv2, h1⟩
      · simp only [RepC, RepP] at hv2; obtain ⟨b, o, cap, sp, hv2⟩ := hv2; exact ⟨_, _, _, hv2, h1⟩
      · obtain ⟨n, h2, hn⟩ := says_cvLen hv2 h1
        obtain ⟨hb, h3⟩ := says_need h2
        rcases hn with ⟨_, hn0⟩ | ⟨b, o, cap, sp, hv3, _⟩
        · rw [hn0] at hb; simp at hb
        · exact ⟨_, _, _, hv3, h3⟩
    obtain ⟨pa, n, m, hpa, h2⟩ := this
    rw [hpa, hu2, eqGuard_at_slice]
    rcases says_neg h2 with ⟨ho, h3⟩ | ⟨ho, h3⟩
    · rw [ho]; exact .bool h3 (fun _ => by simp [binOp, run_equal_sl hty])
    · rw [ho]; exact .bool h3 (fun _ => by simp [binOp, run_equal_sl hty])
  · exact (says_none h).elim

theorem says_un {R : Type} {P : Program} {x : Cx} {op : UnOp} {a : SV} {v : Value} {k : SV → Ans R} {r : R} (hv : RepS x a v) (h : Says (evUn op a k) r) : Gives P x (Op.unary op v) k r := by
  cases op
  case not =>
    obtain ⟨b, hb, h1⟩ := says_wBool h
    rw [hb] at hv
    rw [rep_bool hv]
    exact .bool h1 (fun _ => by simp [Op.unary])
  case neg =>
    obtain ⟨kd, n, hn, h1⟩ := says_wInt h
    rw [hn] at hv
    rw [rep_int hv]
    exact .int h1 (fun _ => by simp [Op.unary, Op.intArith])
  case xor =>
    obtain ⟨kd, n, hn, h1⟩ := says_wInt h
    obtain ⟨p, hp, h2⟩ := says_get h1
    rw [hn] at hv
    rw [rep_int hv]
    simp only [ibin, Option.some.injEq] at hp
    rw [← hp] at h2
    exact .int h2 (fun _ => by simp [Op.unary, Op.intBits])
  case plus => exact (says_none h).elim

theorem says_len {R : Type} {P : Program} {x : Cx} {t ty : TypeId} {a : SV} {v : Value} {k : SV → Ans R} {r : R} (hv : RepS x a v) (h : Says (evLen P t a k) r) : Gives P x (Builtin.len_ #[t] ty #[v]) k r := by
  unfold evLen at h
  split at h
  · rename_i s hu
    rw [rep_str hv]
    exact .int h (fun _ => by simp [Builtin.len_, run_underlying hu, goInt])
  · rename_i e c hu
    obtain ⟨n, h1, hn⟩ := says_cvLen hv.2 h
    rcases hn with ⟨hv1, hn0⟩ | ⟨b, o, cap, sp, hv1, _⟩
    · rw [hv1]
      refine .int h1 (fun _ => ?_)
      simp [Builtin.len_, run_underlying hu, goInt, hn0]
    · rw [hv1]
      refine .int h1 (fun _ => ?_)
      simp [Builtin.len_, run_underlying hu, goInt]
  · exact (says_none h).elim

theorem says_fold {R : Type} {P : Program} {x : Cx} {f : SV → SV → (SV → Ans R) → Ans R} {g : Value → Value → Sem Value}
    (hf : ∀ {a b : SV} {v u : Value} {k : SV → Ans R} {r : R}, RepS x a v → RepS x b u → Says (f a b k) r → Gives P x (g v u) k r) :
    ∀ {l : List SV} {vs : List Value} {a : SV} {v : Value} {k : SV → Ans R} {r : R}, RepS x a v → RepSs x l vs → Says (foldS f a l k) r → Gives P x (vs.foldlM g v) k r
  | [], [], a, v, k, r, hv, _, h => ⟨v, a, fun _ => rfl, hv, h⟩
  | b :: l, u :: vs, a, v, k, r, hv, hl, h => by
    obtain ⟨hu, hl⟩ := hl
    obtain ⟨z, sv, hrun, hz, h1⟩ := hf hv hu h
    obtain ⟨z2, sv2, hrun2, hz2, h2⟩ := says_fold hf hz hl h1
    exact ⟨z2, sv2, fun w => by simp [hrun, hrun2], hz2, h2⟩
theorem says_min2 {R : Type} {P : Program} {x : Cx} {a b : SV} {v u : Value} {k : SV → Ans R} {r : R} (hv : RepS x a v) (hu : RepS x b u) (h : Says (evMin2 a b k) r) : Gives P x (Builtin.min2 v u) k r := by
  obtain ⟨kx, n, hn, h1⟩ := says_wInt h
  obtain ⟨ky, m, hm, h2⟩ := says_wInt h1
  rw [hn] at hv; rw [hm] at hu
  rw [rep_int hv, rep_int hu]
  exact .int h2 (fun _ => by simp [Builtin.min2])
theorem says_max2 {R : Type} {P : Program} {x : Cx} {a b : SV} {v u : Value} {k : SV → Ans R} {r : R} (hv : RepS x a v) (hu : RepS x b u) (h : Says (evMax2 a b k) r) : Gives P x (Builtin.max2 v u) k r := by
  obtain ⟨kx, n, hn, h1⟩ := says_wInt h
  obtain ⟨ky, m, hm, h2⟩ := says_wInt h1
  rw [hn] at hv; rw [hm] at hu
  rw [rep_int hv, rep_int hu]
  exact .int h2 (fun _ => by simp [Builtin.max2])
end Go.Ev
