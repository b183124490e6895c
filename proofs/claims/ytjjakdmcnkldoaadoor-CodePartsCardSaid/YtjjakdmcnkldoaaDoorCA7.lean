/- What functions compute, and that they do. -/
import Derived.Test.YtjjakdmcnkldoaaDoorCA6
set_option linter.unusedVariables false
set_option linter.unusedSimpArgs false
set_option maxRecDepth 100000
namespace Go.Proofs.YtjjakdmcnkldoaaDoor
open Go.Ev

/-! ### kinfolkref02_Dec -/
noncomputable def kinfolkref02_Dec_b (rec_kinfolkref02_Dec : Int → Option (ByteArray)) (n : Int) : Option (ByteArray) :=
  bif decide ((0 : Int) ≤ (irem .u64 n 10)) && decide (((irem .u64 n 10) : Int) ≤ (iadd .u64 (irem .u64 n 10) 1)) && decide (((iadd .u64 (irem .u64 n 10) 1) : Int) ≤ ((⟨#[48, 49, 50, 51, 52, 53, 54, 55, 56, 57]⟩ : ByteArray).size : Int)) then
  bif (decide ((n : Int) < 10)) then
    some ((⟨#[48, 49, 50, 51, 52, 53, 54, 55, 56, 57]⟩ : ByteArray).extract ((irem .u64 n 10)).toNat ((iadd .u64 (irem .u64 n 10) 1)).toNat)
  else
    (rec_kinfolkref02_Dec (iquo .u64 n 10)).bind fun s =>
    bif decide (s.size + ((⟨#[48, 49, 50, 51, 52, 53, 54, 55, 56, 57]⟩ : ByteArray).extract ((irem .u64 n 10)).toNat ((iadd .u64 (irem .u64 n 10) 1)).toNat).size ≤ 140737488355328) then
    some (s ++ ((⟨#[48, 49, 50, 51, 52, 53, 54, 55, 56, 57]⟩ : ByteArray).extract ((irem .u64 n 10)).toNat ((iadd .u64 (irem .u64 n 10) 1)).toNat))
    else none
  else none
theorem kinfolkref02_Dec_b_runs (rec_kinfolkref02_Dec : Int → Option (ByteArray)) (hrec_kinfolkref02_Dec : ∀ n r_, rec_kinfolkref02_Dec n = some r_ → Runs Tryd.prog 98 [(.one (.pv (.int .u64 n)))] [] [] (kinfolkref02_Dec_out n r_)) (n : Int) (r_ : ByteArray) (h : kinfolkref02_Dec_b rec_kinfolkref02_Dec n = some r_) : Runs Tryd.prog 98 [(.one (.pv (.int .u64 n)))] [] [] (kinfolkref02_Dec_out n r_) := by
  unfold kinfolkref02_Dec_b at h
  obtain ⟨h1, h⟩ := need_of h
  rcases cond_of h with ⟨h2, h⟩ | ⟨h2, h⟩
  · have h := some_of h
    subst h
    have t_ := tO (rfl : true = true) <| tO (rfl : true = true) <| tO h1 <| tT h2 <| tN
    exact runs_of (C := cfg) (objs := []) (sc := t_.ev) (.k0 t_.pf (by kernel_rfl))
  · obtain ⟨s, h3, h⟩ := bind_of h
    obtain ⟨h4, h⟩ := need_of h
    have h := some_of h
    subst h
    have t_ := tO (rfl : true = true) <| tO (rfl : true = true) <| tO h1 <| tF h2 <| tO (rfl : true = true) <| tR (hrec_kinfolkref02_Dec (iquo .u64 n 10) _ h3) <| tO h4 <| tN
    exact runs_of (C := cfg) (objs := []) (sc := t_.ev) (.k0 t_.pf (by kernel_rfl))
noncomputable def kinfolkref02_Dec : Nat → Int → Option (ByteArray)
  | 0, _ => none
  | N + 1, n => kinfolkref02_Dec_b (kinfolkref02_Dec N) n
theorem kinfolkref02_Dec_runs : ∀ (N : Nat) (n : Int) (r_ : ByteArray), kinfolkref02_Dec N n = some r_ → Runs Tryd.prog 98 [(.one (.pv (.int .u64 n)))] [] [] (kinfolkref02_Dec_out n r_)
  | 0, _, _, h => by cases h
  | N + 1, n, r_, h => kinfolkref02_Dec_b_runs (kinfolkref02_Dec N) (kinfolkref02_Dec_runs N) n r_ h
/-! ### kinfolkref02_Text -/
noncomputable def kinfolkref02_Text_b (N : Nat) (rec_kinfolkref02_Text : T_kinfolkref02_Event → Option (ByteArray)) (e : T_kinfolkref02_Event) : Option (ByteArray) :=
  match e with
  | .nil =>
    none
  | .mk n t t2 =>
    match t with
    | .nil =>
      (kinfolkref02_Dec N n).bind fun s =>
      some s
    | .mk n2 t3 t4 =>
      (kinfolkref02_Dec N n).bind fun s =>
      bif decide ((⟨#[40]⟩ : ByteArray).size + s.size ≤ 140737488355328) then
      bif decide (((⟨#[40]⟩ : ByteArray) ++ s).size + (⟨#[44]⟩ : ByteArray).size ≤ 140737488355328) then
      (rec_kinfolkref02_Text t).bind fun s2 =>
      bif decide ((((⟨#[40]⟩ : ByteArray) ++ s) ++ (⟨#[44]⟩ : ByteArray)).size + s2.size ≤ 140737488355328) then
      bif decide (((((⟨#[40]⟩ : ByteArray) ++ s) ++ (⟨#[44]⟩ : ByteArray)) ++ s2).size + (⟨#[44]⟩ : ByteArray).size ≤ 140737488355328) then
      (rec_kinfolkref02_Text t2).bind fun s3 =>
      bif decide ((((((⟨#[40]⟩ : ByteArray) ++ s) ++ (⟨#[44]⟩ : ByteArray)) ++ s2) ++ (⟨#[44]⟩ : ByteArray)).size + s3.size ≤ 140737488355328) then
      bif decide (((((((⟨#[40]⟩ : ByteArray) ++ s) ++ (⟨#[44]⟩ : ByteArray)) ++ s2) ++ (⟨#[44]⟩ : ByteArray)) ++ s3).size + (⟨#[41]⟩ : ByteArray).size ≤ 140737488355328) then
      some (((((((⟨#[40]⟩ : ByteArray) ++ s) ++ (⟨#[44]⟩ : ByteArray)) ++ s2) ++ (⟨#[44]⟩ : ByteArray)) ++ s3) ++ (⟨#[41]⟩ : ByteArray))
      else none
      else none
      else none
      else none
      else none
      else none
theorem kinfolkref02_Text_b_runs (N : Nat) (rec_kinfolkref02_Text : T_kinfolkref02_Event → Option (ByteArray)) (hrec_kinfolkref02_Text : ∀ e r_, rec_kinfolkref02_Text e = some r_ → Runs Tryd.prog 22 [(.one (.pv (T_kinfolkref02_Event.pv e)))] [] [] (kinfolkref02_Text_out e r_)) (e : T_kinfolkref02_Event) (r_ : ByteArray) (h : kinfolkref02_Text_b N rec_kinfolkref02_Text e = some r_) : Runs Tryd.prog 22 [(.one (.pv (T_kinfolkref02_Event.pv e)))] [] [] (kinfolkref02_Text_out e r_) := by
  unfold kinfolkref02_Text_b at h
  cases e with
  | nil =>
    cases h
  | mk n t t2 =>
    cases t with
    | nil =>
      obtain ⟨s, h1, h⟩ := bind_of h
      have h := some_of h
      subst h
      have t_ := tT (rfl : true = true) <| tR (kinfolkref02_Dec_runs N n _ h1) <| tN
      exact runs_of (C := cfg) (objs := []) (sc := t_.ev) (.k0 t_.pf (by kernel_rfl))
    | mk n2 t3 t4 =>
      obtain ⟨s, h1, h⟩ := bind_of h
      obtain ⟨h2, h⟩ := need_of h
      obtain ⟨h3, h⟩ := need_of h
      obtain ⟨s2, h4, h⟩ := bind_of h
      obtain ⟨h5, h⟩ := need_of h
      obtain ⟨h6, h⟩ := need_of h
      obtain ⟨s3, h7, h⟩ := bind_of h
      obtain ⟨h8, h⟩ := need_of h
      obtain ⟨h9, h⟩ := need_of h
      have h := some_of h
      subst h
      have t_ := tF (rfl : false = false) <| tR (kinfolkref02_Dec_runs N n _ h1) <| tO h2 <| tO h3 <| tR (hrec_kinfolkref02_Text (T_kinfolkref02_Event.mk n2 t3 t4) _ h4) <| tO h5 <| tO h6 <| tR (hrec_kinfolkref02_Text t2 _ h7) <| tO h8 <| tO h9 <| tN
      exact runs_of (C := cfg) (objs := []) (sc := t_.ev) (.k0 t_.pf (by kernel_rfl))
noncomputable def kinfolkref02_Text : Nat → T_kinfolkref02_Event → Option (ByteArray)
  | 0, _ => none
  | N + 1, e => kinfolkref02_Text_b N (kinfolkref02_Text N) e
theorem kinfolkref02_Text_runs : ∀ (N : Nat) (e : T_kinfolkref02_Event) (r_ : ByteArray), kinfolkref02_Text N e = some r_ → Runs Tryd.prog 22 [(.one (.pv (T_kinfolkref02_Event.pv e)))] [] [] (kinfolkref02_Text_out e r_)
  | 0, _, _, h => by cases h
  | N + 1, e, r_, h => kinfolkref02_Text_b_runs N (kinfolkref02_Text N) (kinfolkref02_Text_runs N) e r_ h
/-! ### kinfolklaw07_CodeParts -/
noncomputable def kinfolklaw07_CodeParts (N : Nat) (p : List Int) : Option (Bool) :=
  (kinfolklaw07_awake N).bind fun b =>
  bif b then
    (kinfolklaw07_cut p 60).bind fun l_ =>
    (bits_NewReader l_).bind fun _ =>
    (code_GetID N l_ 0 0).bind fun (b2, t, n, n2, n3) =>
    (kinfolkref05_Bits l_).bind fun l_2 =>
    (kinfolkref07_GetID_3 N 0 0 l_2).bind fun (t2, n4, l_3, n5) =>
    (code_GetEvent N l_ 0 0).bind fun (n6, t3, n7, n8, n9) =>
    (kinfolkref07_GetEvent_3 N 0 0 l_2).bind fun (t4, n10, l_4, n11) =>
    (bits_NewReader []).bind fun _ =>
    (bits_Reader_Get 1 [] 0 0).bind fun (n12, n13, n14) =>
    (code_GetID N [] n13 n14).bind fun (b3, t5, n15, n16, n17) =>
    (code_GetEvent N [] n16 n17).bind fun (n18, t6, n19, n20, n21) =>
    bif (decide ((n : Int) = n4)) then
      (id_ID_Text N b2 t).bind fun s =>
      (kinfolkref01_Text N t2).bind fun s2 =>
      bif (decide (s = s2)) then
        bif (decide ((n7 : Int) = n10)) then
          (event_Event_Text N n6 t3).bind fun s3 =>
          (kinfolkref02_Text N t4).bind fun s4 =>
          bif (decide (s3 = s4)) then
            bif (decide ((n15 : Int) = 6)) then
              some (decide ((n19 : Int) = 6))
            else
              some false
          else
            some false
        else
          some false
      else
        some false
    else
      some false
  else
    some false
theorem kinfolklaw07_CodeParts_runs (N : Nat) (p : List Int) (r_ : Bool) (h : kinfolklaw07_CodeParts N p = some r_) : Runs Tryd.prog 16 [(.one (.pv (.ints .u8 p false)))] [] [] (kinfolklaw07_CodeParts_out p r_) := by
  unfold kinfolklaw07_CodeParts at h
  obtain ⟨b, h1, h⟩ := bind_of h
  rcases cond_of h with ⟨h2, h⟩ | ⟨h2, h⟩
  · obtain ⟨l_, h3, h⟩ := bind_of h
    obtain ⟨_, h4, h⟩ := bind_of h
    obtain ⟨⟨b2, t, n, n2, n3⟩, h5, h⟩ := bind_of h
    obtain ⟨l_2, h6, h⟩ := bind_of h
    obtain ⟨⟨t2, n4, l_3, n5⟩, h7, h⟩ := bind_of h
    obtain ⟨⟨n6, t3, n7, n8, n9⟩, h8, h⟩ := bind_of h
    obtain ⟨⟨t4, n10, l_4, n11⟩, h9, h⟩ := bind_of h
    obtain ⟨_, h10, h⟩ := bind_of h
    have q_10 := (Runs.coe (as' := [(.one (.pv .nils))]) (objs' := []) (rows' := []) (bits_NewReader_runs [] _ h10) ⟨.pv (.nilsI), trivial⟩ trivial trivial)
    obtain ⟨⟨n12, n13, n14⟩, h11, h⟩ := bind_of h
    obtain ⟨⟨b3, t5, n15, n16, n17⟩, h12, h⟩ := bind_of h
    obtain ⟨⟨n18, t6, n19, n20, n21⟩, h13, h⟩ := bind_of h
    rcases cond_of h with ⟨h14, h⟩ | ⟨h14, h⟩
    · obtain ⟨s, h15, h⟩ := bind_of h
      obtain ⟨s2, h16, h⟩ := bind_of h
      rcases cond_of h with ⟨h17, h⟩ | ⟨h17, h⟩
      · rcases cond_of h with ⟨h18, h⟩ | ⟨h18, h⟩
        · obtain ⟨s3, h19, h⟩ := bind_of h
          obtain ⟨s4, h20, h⟩ := bind_of h
          rcases cond_of h with ⟨h21, h⟩ | ⟨h21, h⟩
          · rcases cond_of h with ⟨h22, h⟩ | ⟨h22, h⟩
            · have h := some_of h
              subst h
              have t_ := tR (kinfolklaw07_awake_runs N _ h1) <| tF (not_of2 h2) <| tR (kinfolklaw07_cut_runs p 60 _ h3) <| tR (bits_NewReader_runs l_ _ h4) <| tR (code_GetID_runs N l_ 0 0 _ h5) <| tR (kinfolkref05_Bits_runs l_ _ h6) <| tR (kinfolkref07_GetID_3_runs N 0 0 l_2 _ h7) <| tR (bits_NewReader_runs l_ _ h4) <| tR (code_GetEvent_runs N l_ 0 0 _ h8) <| tR (kinfolkref05_Bits_runs l_ _ h6) <| tR (kinfolkref07_GetEvent_3_runs N 0 0 l_2 _ h9) <| tR q_10 <| tR (bits_Reader_Get_runs 1 [] 0 0 _ h11) <| tR (code_GetID_runs N [] n13 n14 _ h12) <| tR (code_GetEvent_runs N [] n16 n17 _ h13) <| tT h14 <| tR (id_ID_Text_runs N b2 t _ h15) <| tR (kinfolkref01_Text_runs N t2 _ h16) <| tT h17 <| tT h18 <| tR (event_Event_Text_runs N n6 t3 _ h19) <| tR (kinfolkref02_Text_runs N t4 _ h20) <| tT h21 <| tT h22 <| tN
              exact runs_of (C := cfg) (objs := []) (sc := t_.ev) (.k0 t_.pf (by kernel_rfl))
            · have h := some_of h
              subst h
              have t_ := tR (kinfolklaw07_awake_runs N _ h1) <| tF (not_of2 h2) <| tR (kinfolklaw07_cut_runs p 60 _ h3) <| tR (bits_NewReader_runs l_ _ h4) <| tR (code_GetID_runs N l_ 0 0 _ h5) <| tR (kinfolkref05_Bits_runs l_ _ h6) <| tR (kinfolkref07_GetID_3_runs N 0 0 l_2 _ h7) <| tR (bits_NewReader_runs l_ _ h4) <| tR (code_GetEvent_runs N l_ 0 0 _ h8) <| tR (kinfolkref05_Bits_runs l_ _ h6) <| tR (kinfolkref07_GetEvent_3_runs N 0 0 l_2 _ h9) <| tR q_10 <| tR (bits_Reader_Get_runs 1 [] 0 0 _ h11) <| tR (code_GetID_runs N [] n13 n14 _ h12) <| tR (code_GetEvent_runs N [] n16 n17 _ h13) <| tT h14 <| tR (id_ID_Text_runs N b2 t _ h15) <| tR (kinfolkref01_Text_runs N t2 _ h16) <| tT h17 <| tT h18 <| tR (event_Event_Text_runs N n6 t3 _ h19) <| tR (kinfolkref02_Text_runs N t4 _ h20) <| tT h21 <| tF h22 <| tN
              exact runs_of (C := cfg) (objs := []) (sc := t_.ev) (.k0 t_.pf (by kernel_rfl))
          · have h := some_of h
            subst h
            have t_ := tR (kinfolklaw07_awake_runs N _ h1) <| tF (not_of2 h2) <| tR (kinfolklaw07_cut_runs p 60 _ h3) <| tR (bits_NewReader_runs l_ _ h4) <| tR (code_GetID_runs N l_ 0 0 _ h5) <| tR (kinfolkref05_Bits_runs l_ _ h6) <| tR (kinfolkref07_GetID_3_runs N 0 0 l_2 _ h7) <| tR (bits_NewReader_runs l_ _ h4) <| tR (code_GetEvent_runs N l_ 0 0 _ h8) <| tR (kinfolkref05_Bits_runs l_ _ h6) <| tR (kinfolkref07_GetEvent_3_runs N 0 0 l_2 _ h9) <| tR q_10 <| tR (bits_Reader_Get_runs 1 [] 0 0 _ h11) <| tR (code_GetID_runs N [] n13 n14 _ h12) <| tR (code_GetEvent_runs N [] n16 n17 _ h13) <| tT h14 <| tR (id_ID_Text_runs N b2 t _ h15) <| tR (kinfolkref01_Text_runs N t2 _ h16) <| tT h17 <| tT h18 <| tR (event_Event_Text_runs N n6 t3 _ h19) <| tR (kinfolkref02_Text_runs N t4 _ h20) <| tF h21 <| tF (rfl : false = false) <| tN
            exact runs_of (C := cfg) (objs := []) (sc := t_.ev) (.k0 t_.pf (by kernel_rfl))
        · have h := some_of h
          subst h
          have t_ := tR (kinfolklaw07_awake_runs N _ h1) <| tF (not_of2 h2) <| tR (kinfolklaw07_cut_runs p 60 _ h3) <| tR (bits_NewReader_runs l_ _ h4) <| tR (code_GetID_runs N l_ 0 0 _ h5) <| tR (kinfolkref05_Bits_runs l_ _ h6) <| tR (kinfolkref07_GetID_3_runs N 0 0 l_2 _ h7) <| tR (bits_NewReader_runs l_ _ h4) <| tR (code_GetEvent_runs N l_ 0 0 _ h8) <| tR (kinfolkref05_Bits_runs l_ _ h6) <| tR (kinfolkref07_GetEvent_3_runs N 0 0 l_2 _ h9) <| tR q_10 <| tR (bits_Reader_Get_runs 1 [] 0 0 _ h11) <| tR (code_GetID_runs N [] n13 n14 _ h12) <| tR (code_GetEvent_runs N [] n16 n17 _ h13) <| tT h14 <| tR (id_ID_Text_runs N b2 t _ h15) <| tR (kinfolkref01_Text_runs N t2 _ h16) <| tT h17 <| tF h18 <| tF (rfl : false = false) <| tF (rfl : false = false) <| tN
          exact runs_of (C := cfg) (objs := []) (sc := t_.ev) (.k0 t_.pf (by kernel_rfl))
      · have h := some_of h
        subst h
        have t_ := tR (kinfolklaw07_awake_runs N _ h1) <| tF (not_of2 h2) <| tR (kinfolklaw07_cut_runs p 60 _ h3) <| tR (bits_NewReader_runs l_ _ h4) <| tR (code_GetID_runs N l_ 0 0 _ h5) <| tR (kinfolkref05_Bits_runs l_ _ h6) <| tR (kinfolkref07_GetID_3_runs N 0 0 l_2 _ h7) <| tR (bits_NewReader_runs l_ _ h4) <| tR (code_GetEvent_runs N l_ 0 0 _ h8) <| tR (kinfolkref05_Bits_runs l_ _ h6) <| tR (kinfolkref07_GetEvent_3_runs N 0 0 l_2 _ h9) <| tR q_10 <| tR (bits_Reader_Get_runs 1 [] 0 0 _ h11) <| tR (code_GetID_runs N [] n13 n14 _ h12) <| tR (code_GetEvent_runs N [] n16 n17 _ h13) <| tT h14 <| tR (id_ID_Text_runs N b2 t _ h15) <| tR (kinfolkref01_Text_runs N t2 _ h16) <| tF h17 <| tF (rfl : false = false) <| tF (rfl : false = false) <| tF (rfl : false = false) <| tN
        exact runs_of (C := cfg) (objs := []) (sc := t_.ev) (.k0 t_.pf (by kernel_rfl))
    · have h := some_of h
      subst h
      have t_ := tR (kinfolklaw07_awake_runs N _ h1) <| tF (not_of2 h2) <| tR (kinfolklaw07_cut_runs p 60 _ h3) <| tR (bits_NewReader_runs l_ _ h4) <| tR (code_GetID_runs N l_ 0 0 _ h5) <| tR (kinfolkref05_Bits_runs l_ _ h6) <| tR (kinfolkref07_GetID_3_runs N 0 0 l_2 _ h7) <| tR (bits_NewReader_runs l_ _ h4) <| tR (code_GetEvent_runs N l_ 0 0 _ h8) <| tR (kinfolkref05_Bits_runs l_ _ h6) <| tR (kinfolkref07_GetEvent_3_runs N 0 0 l_2 _ h9) <| tR q_10 <| tR (bits_Reader_Get_runs 1 [] 0 0 _ h11) <| tR (code_GetID_runs N [] n13 n14 _ h12) <| tR (code_GetEvent_runs N [] n16 n17 _ h13) <| tF h14 <| tF (rfl : false = false) <| tF (rfl : false = false) <| tF (rfl : false = false) <| tF (rfl : false = false) <| tN
      exact runs_of (C := cfg) (objs := []) (sc := t_.ev) (.k0 t_.pf (by kernel_rfl))
  · have h := some_of h
    subst h
    have t_ := tR (kinfolklaw07_awake_runs N _ h1) <| tT (not_of h2) <| tN
    exact runs_of (C := cfg) (objs := []) (sc := t_.ev) (.k0 t_.pf (by kernel_rfl))

end Go.Proofs.YtjjakdmcnkldoaaDoor
