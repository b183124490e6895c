/- What functions compute, and that they do. -/
import Derived.Test.YteiikkpajcggfaaGreatDoorA5
set_option linter.unusedVariables false
set_option linter.unusedSimpArgs false
set_option maxRecDepth 100000
set_option maxHeartbeats 4000000
namespace Go.Proofs.YteiikkpajcggfaaGreatDoor
open Go.Ev
noncomputable def kinfolklaw10_PaperCards_2 (N : Nat) (l : List E_card_Field) (m : List E_card_Field) (front : List Int) : Option (Bool) :=
 (kinfolklaw10_awake).bind fun b =>
 bif b then
  (kinfolklaw10_made N l).bind fun (r, r2) =>
  (kinfolklaw10_made N m).bind fun (r3, r4) =>
  bif decide ((0 : Int) ≤ 0) && decide ((0 : Int) ≤ (if (20 : Int) < ((front).length : Int) then 20 else ((front).length : Int))) && decide (((if (20 : Int) < ((front).length : Int) then 20 else ((front).length : Int)) : Int) ≤ ((front).length : Int)) && decide (((if (20 : Int) < ((front).length : Int) then 20 else ((front).length : Int)) : Int) = (if (20 : Int) < ((front).length : Int) then 20 else ((front).length : Int))) then
  bif Nat.beq ((List.take ((if (20 : Int) < ((front).length : Int) then 20 else ((front).length : Int)) - 0).toNat front)).length 0 then
   (paper_Card r).bind fun l_ =>
   (paper_Card r3).bind fun l_2 =>
   (paper_ReadCard l_).bind fun (r5, n) =>
   bif Nat.beq ((List.take (l_).length l_)).length 0 then
    bif fits (([] ++ (List.take (l_2).length l_2))).length then
    (wire_Of ([] ++ l_2)).bind fun _ =>
    (paper_GetCard ([] ++ l_2) 0).bind fun (r6, l_3, n2) =>
    (paper_GetCard l_3 n2).bind fun (r7, l_4, n3) =>
    (kinfolkref10_Card N r2).bind fun l_5 =>
    (kinfolkref06_Same l_ l_5).bind fun b2 =>
    bif b2 then
     (paper_PutCard [] r).bind fun l_6 =>
     (kinfolkref06_Join [(E_L_uint8.mk []), (E_L_uint8.mk l_)]).bind fun l_7 =>
     (kinfolkref06_Same l_6 l_7).bind fun b3 =>
     bif b3 then
      bif (decide ((n : Int) = 0)) then
       (card_Same r r5).bind fun b4 =>
       bif b4 then
        (kinfolkref06_Same l_ l_2).bind fun b5 =>
        (card_Same r r3).bind fun b6 =>
        bif (b5 == b6) then
         (paper_Less r r3).bind fun b7 =>
         (kinfolkref10_Card N r4).bind fun l_8 =>
         (kinfolkref10_Less l_5 l_8).bind fun b8 =>
         bif (b7 == b8) then
          (card_Same r6 r).bind fun b9 =>
          bif b9 then
           (card_Same r7 r3).bind fun b10 =>
           bif b10 then
            (wire_In_End l_4 n3).bind fun (n4, n5) =>
            some (decide ((n4 : Int) = 0))
           else
            none
          else
           none
         else
          none
        else
         none
       else
        none
      else
       none
     else
      none
    else
     none
    else none
   else
    bif fits (([] ++ (List.take (l_).length l_))).length then
    bif fits ((([] ++ (List.take (l_).length l_)) ++ (List.take (l_2).length l_2))).length then
    (wire_Of (([] ++ l_) ++ l_2)).bind fun _ =>
    (paper_GetCard (([] ++ l_) ++ l_2) 0).bind fun (r6, l_3, n2) =>
    (paper_GetCard l_3 n2).bind fun (r7, l_4, n3) =>
    (kinfolkref10_Card N r2).bind fun l_5 =>
    (kinfolkref06_Same l_ l_5).bind fun b2 =>
    bif b2 then
     (paper_PutCard [] r).bind fun l_6 =>
     (kinfolkref06_Join [(E_L_uint8.mk []), (E_L_uint8.mk l_)]).bind fun l_7 =>
     (kinfolkref06_Same l_6 l_7).bind fun b3 =>
     bif b3 then
      bif (decide ((n : Int) = 0)) then
       (card_Same r r5).bind fun b4 =>
       bif b4 then
        (kinfolkref06_Same l_ l_2).bind fun b5 =>
        (card_Same r r3).bind fun b6 =>
        bif (b5 == b6) then
         (paper_Less r r3).bind fun b7 =>
         (kinfolkref10_Card N r4).bind fun l_8 =>
         (kinfolkref10_Less l_5 l_8).bind fun b8 =>
         bif (b7 == b8) then
          (card_Same r6 r).bind fun b9 =>
          bif b9 then
           (card_Same r7 r3).bind fun b10 =>
           bif b10 then
            (wire_In_End l_4 n3).bind fun (n4, n5) =>
            some (decide ((n4 : Int) = 0))
           else
            none
          else
           none
         else
          none
        else
         none
       else
        none
      else
       none
     else
      none
    else
     none
    else none
    else none
  else
   bif fits (([] ++ (List.take ((if (20 : Int) < ((front).length : Int) then 20 else ((front).length : Int)) - 0).toNat front))).length then
   bif Nat.beq ((List.take (([] ++ (List.take ((if (20 : Int) < ((front).length : Int) then 20 else ((front).length : Int)) - 0).toNat front))).length ([] ++ (List.take ((if (20 : Int) < ((front).length : Int) then 20 else ((front).length : Int)) - 0).toNat front)))).length 0 then
    (paper_Card r).bind fun l_ =>
    (paper_Card r3).bind fun l_2 =>
    (paper_ReadCard l_).bind fun (r5, n) =>
    bif Nat.beq ((List.take (l_).length l_)).length 0 then
     bif fits (([] ++ (List.take (l_2).length l_2))).length then
     (wire_Of ([] ++ l_2)).bind fun _ =>
     (paper_GetCard ([] ++ l_2) 0).bind fun (r6, l_3, n2) =>
     (paper_GetCard l_3 n2).bind fun (r7, l_4, n3) =>
     (kinfolkref10_Card N r2).bind fun l_5 =>
     (kinfolkref06_Same l_ l_5).bind fun b2 =>
     bif b2 then
      bif decide ((0 : Int) ≤ 0) && decide ((0 : Int) ≤ ((([] ++ (List.take ((if (20 : Int) < ((front).length : Int) then 20 else ((front).length : Int)) - 0).toNat front))).length : Int)) && decide ((((([] ++ (List.take ((if (20 : Int) < ((front).length : Int) then 20 else ((front).length : Int)) - 0).toNat front))).length : Int) : Int) ≤ 1) && decide ((((([] ++ (List.take ((if (20 : Int) < ((front).length : Int) then 20 else ((front).length : Int)) - 0).toNat front))).length : Int) : Int) = ((([] ++ (List.take ((if (20 : Int) < ((front).length : Int) then 20 else ((front).length : Int)) - 0).toNat front))).length : Int)) then
      (paper_PutCard (List.take (((([] ++ (List.take ((if (20 : Int) < ((front).length : Int) then 20 else ((front).length : Int)) - 0).toNat front))).length : Int) - 0).toNat [90]) r).bind fun l_6 =>
      (kinfolkref06_Join [(E_L_uint8.mk ([] ++ (List.take ((if (20 : Int) < ((front).length : Int) then 20 else ((front).length : Int)) - 0).toNat front))), (E_L_uint8.mk l_)]).bind fun l_7 =>
      (kinfolkref06_Same l_6 l_7).bind fun b3 =>
      bif b3 then
       bif decide ((0 : Int) ≤ ((([] ++ (List.take ((if (20 : Int) < ((front).length : Int) then 20 else ((front).length : Int)) - 0).toNat front))).length : Int)) && decide ((((([] ++ (List.take ((if (20 : Int) < ((front).length : Int) then 20 else ((front).length : Int)) - 0).toNat front))).length : Int) : Int) < 1) then
       bif (decide ((([90].getD (0 + (((([] ++ (List.take ((if (20 : Int) < ((front).length : Int) then 20 else ((front).length : Int)) - 0).toNat front))).length : Int)).toNat) 0) : Int) = 90)) then
        bif (decide ((n : Int) = 0)) then
         (card_Same r r5).bind fun b4 =>
         bif b4 then
          (kinfolkref06_Same l_ l_2).bind fun b5 =>
          (card_Same r r3).bind fun b6 =>
          bif (b5 == b6) then
           (paper_Less r r3).bind fun b7 =>
           (kinfolkref10_Card N r4).bind fun l_8 =>
           (kinfolkref10_Less l_5 l_8).bind fun b8 =>
           bif (b7 == b8) then
            (card_Same r6 r).bind fun b9 =>
            bif b9 then
             (card_Same r7 r3).bind fun b10 =>
             bif b10 then
              (wire_In_End l_4 n3).bind fun (n4, n5) =>
              some (decide ((n4 : Int) = 0))
             else
              none
            else
             none
           else
            none
          else
           none
         else
          none
        else
         none
       else
        none
       else none
      else
       none
      else none
     else
      none
     else none
    else
     bif fits (([] ++ (List.take (l_).length l_))).length then
     bif fits ((([] ++ (List.take (l_).length l_)) ++ (List.take (l_2).length l_2))).length then
     (wire_Of (([] ++ l_) ++ l_2)).bind fun _ =>
     (paper_GetCard (([] ++ l_) ++ l_2) 0).bind fun (r6, l_3, n2) =>
     (paper_GetCard l_3 n2).bind fun (r7, l_4, n3) =>
     (kinfolkref10_Card N r2).bind fun l_5 =>
     (kinfolkref06_Same l_ l_5).bind fun b2 =>
     bif b2 then
      bif decide ((0 : Int) ≤ 0) && decide ((0 : Int) ≤ ((([] ++ (List.take ((if (20 : Int) < ((front).length : Int) then 20 else ((front).length : Int)) - 0).toNat front))).length : Int)) && decide ((((([] ++ (List.take ((if (20 : Int) < ((front).length : Int) then 20 else ((front).length : Int)) - 0).toNat front))).length : Int) : Int) ≤ 1) && decide ((((([] ++ (List.take ((if (20 : Int) < ((front).length : Int) then 20 else ((front).length : Int)) - 0).toNat front))).length : Int) : Int) = ((([] ++ (List.take ((if (20 : Int) < ((front).length : Int) then 20 else ((front).length : Int)) - 0).toNat front))).length : Int)) then
      (paper_PutCard (List.take (((([] ++ (List.take ((if (20 : Int) < ((front).length : Int) then 20 else ((front).length : Int)) - 0).toNat front))).length : Int) - 0).toNat [90]) r).bind fun l_6 =>
      (kinfolkref06_Join [(E_L_uint8.mk ([] ++ (List.take ((if (20 : Int) < ((front).length : Int) then 20 else ((front).length : Int)) - 0).toNat front))), (E_L_uint8.mk l_)]).bind fun l_7 =>
      (kinfolkref06_Same l_6 l_7).bind fun b3 =>
      bif b3 then
       bif decide ((0 : Int) ≤ ((([] ++ (List.take ((if (20 : Int) < ((front).length : Int) then 20 else ((front).length : Int)) - 0).toNat front))).length : Int)) && decide ((((([] ++ (List.take ((if (20 : Int) < ((front).length : Int) then 20 else ((front).length : Int)) - 0).toNat front))).length : Int) : Int) < 1) then
       bif (decide ((([90].getD (0 + (((([] ++ (List.take ((if (20 : Int) < ((front).length : Int) then 20 else ((front).length : Int)) - 0).toNat front))).length : Int)).toNat) 0) : Int) = 90)) then
        bif (decide ((n : Int) = 0)) then
         (card_Same r r5).bind fun b4 =>
         bif b4 then
          (kinfolkref06_Same l_ l_2).bind fun b5 =>
          (card_Same r r3).bind fun b6 =>
          bif (b5 == b6) then
           (paper_Less r r3).bind fun b7 =>
           (kinfolkref10_Card N r4).bind fun l_8 =>
           (kinfolkref10_Less l_5 l_8).bind fun b8 =>
           bif (b7 == b8) then
            (card_Same r6 r).bind fun b9 =>
            bif b9 then
             (card_Same r7 r3).bind fun b10 =>
             bif b10 then
              (wire_In_End l_4 n3).bind fun (n4, n5) =>
              some (decide ((n4 : Int) = 0))
             else
              none
            else
             none
           else
            none
          else
           none
         else
          none
        else
         none
       else
        none
       else none
      else
       none
      else none
     else
      none
     else none
     else none
   else
    bif fits (([] ++ (List.take (([] ++ (List.take ((if (20 : Int) < ((front).length : Int) then 20 else ((front).length : Int)) - 0).toNat front))).length ([] ++ (List.take ((if (20 : Int) < ((front).length : Int) then 20 else ((front).length : Int)) - 0).toNat front))))).length then
    bif fits ((([] ++ (List.take (([] ++ (List.take ((if (20 : Int) < ((front).length : Int) then 20 else ((front).length : Int)) - 0).toNat front))).length ([] ++ (List.take ((if (20 : Int) < ((front).length : Int) then 20 else ((front).length : Int)) - 0).toNat front)))) ++ [90])).length then
    (paper_Card r).bind fun l_ =>
    (paper_Card r3).bind fun l_2 =>
    (paper_ReadCard l_).bind fun (r5, n) =>
    bif Nat.beq ((List.take (l_).length l_)).length 0 then
     bif fits (([] ++ (List.take (l_2).length l_2))).length then
     (wire_Of ([] ++ l_2)).bind fun _ =>
     (paper_GetCard ([] ++ l_2) 0).bind fun (r6, l_3, n2) =>
     (paper_GetCard l_3 n2).bind fun (r7, l_4, n3) =>
     (kinfolkref10_Card N r2).bind fun l_5 =>
     (kinfolkref06_Same l_ l_5).bind fun b2 =>
     bif b2 then
      bif decide ((0 : Int) ≤ 0) && decide ((0 : Int) ≤ ((([] ++ (List.take ((if (20 : Int) < ((front).length : Int) then 20 else ((front).length : Int)) - 0).toNat front))).length : Int)) && decide ((((([] ++ (List.take ((if (20 : Int) < ((front).length : Int) then 20 else ((front).length : Int)) - 0).toNat front))).length : Int) : Int) ≤ (((([] ++ (List.take (([] ++ (List.take ((if (20 : Int) < ((front).length : Int) then 20 else ((front).length : Int)) - 0).toNat front))).length ([] ++ (List.take ((if (20 : Int) < ((front).length : Int) then 20 else ((front).length : Int)) - 0).toNat front)))) ++ [90])).length : Int)) && decide ((((([] ++ (List.take ((if (20 : Int) < ((front).length : Int) then 20 else ((front).length : Int)) - 0).toNat front))).length : Int) : Int) = ((([] ++ (List.take ((if (20 : Int) < ((front).length : Int) then 20 else ((front).length : Int)) - 0).toNat front))).length : Int)) then
      (paper_PutCard (List.take (((([] ++ (List.take ((if (20 : Int) < ((front).length : Int) then 20 else ((front).length : Int)) - 0).toNat front))).length : Int) - 0).toNat (([] ++ ([] ++ (List.take ((if (20 : Int) < ((front).length : Int) then 20 else ((front).length : Int)) - 0).toNat front))) ++ [90])) r).bind fun l_6 =>
      (kinfolkref06_Join [(E_L_uint8.mk ([] ++ (List.take ((if (20 : Int) < ((front).length : Int) then 20 else ((front).length : Int)) - 0).toNat front))), (E_L_uint8.mk l_)]).bind fun l_7 =>
      (kinfolkref06_Same l_6 l_7).bind fun b3 =>
      bif b3 then
       bif decide ((0 : Int) ≤ ((([] ++ (List.take ((if (20 : Int) < ((front).length : Int) then 20 else ((front).length : Int)) - 0).toNat front))).length : Int)) && decide ((((([] ++ (List.take ((if (20 : Int) < ((front).length : Int) then 20 else ((front).length : Int)) - 0).toNat front))).length : Int) : Int) < (((([] ++ (List.take (([] ++ (List.take ((if (20 : Int) < ((front).length : Int) then 20 else ((front).length : Int)) - 0).toNat front))).length ([] ++ (List.take ((if (20 : Int) < ((front).length : Int) then 20 else ((front).length : Int)) - 0).toNat front)))) ++ [90])).length : Int)) then
       bif (decide ((((([] ++ (List.take (([] ++ (List.take ((if (20 : Int) < ((front).length : Int) then 20 else ((front).length : Int)) - 0).toNat front))).length ([] ++ (List.take ((if (20 : Int) < ((front).length : Int) then 20 else ((front).length : Int)) - 0).toNat front)))) ++ [90]).getD (0 + (((([] ++ (List.take ((if (20 : Int) < ((front).length : Int) then 20 else ((front).length : Int)) - 0).toNat front))).length : Int)).toNat) 0) : Int) = 90)) then
        bif (decide ((n : Int) = 0)) then
         (card_Same r r5).bind fun b4 =>
         bif b4 then
          (kinfolkref06_Same l_ l_2).bind fun b5 =>
          (card_Same r r3).bind fun b6 =>
          bif (b5 == b6) then
           (paper_Less r r3).bind fun b7 =>
           (kinfolkref10_Card N r4).bind fun l_8 =>
           (kinfolkref10_Less l_5 l_8).bind fun b8 =>
           bif (b7 == b8) then
            (card_Same r6 r).bind fun b9 =>
            bif b9 then
             (card_Same r7 r3).bind fun b10 =>
             bif b10 then
              (wire_In_End l_4 n3).bind fun (n4, n5) =>
              some (decide ((n4 : Int) = 0))
             else
              none
            else
             none
           else
            none
          else
           none
         else
          none
        else
         none
       else
        none
       else none
      else
       none
      else none
     else
      none
     else none
    else
     bif fits (([] ++ (List.take (l_).length l_))).length then
     bif fits ((([] ++ (List.take (l_).length l_)) ++ (List.take (l_2).length l_2))).length then
     (wire_Of (([] ++ l_) ++ l_2)).bind fun _ =>
     (paper_GetCard (([] ++ l_) ++ l_2) 0).bind fun (r6, l_3, n2) =>
     (paper_GetCard l_3 n2).bind fun (r7, l_4, n3) =>
     (kinfolkref10_Card N r2).bind fun l_5 =>
     (kinfolkref06_Same l_ l_5).bind fun b2 =>
     bif b2 then
      bif decide ((0 : Int) ≤ 0) && decide ((0 : Int) ≤ ((([] ++ (List.take ((if (20 : Int) < ((front).length : Int) then 20 else ((front).length : Int)) - 0).toNat front))).length : Int)) && decide ((((([] ++ (List.take ((if (20 : Int) < ((front).length : Int) then 20 else ((front).length : Int)) - 0).toNat front))).length : Int) : Int) ≤ (((([] ++ (List.take (([] ++ (List.take ((if (20 : Int) < ((front).length : Int) then 20 else ((front).length : Int)) - 0).toNat front))).length ([] ++ (List.take ((if (20 : Int) < ((front).length : Int) then 20 else ((front).length : Int)) - 0).toNat front)))) ++ [90])).length : Int)) && decide ((((([] ++ (List.take ((if (20 : Int) < ((front).length : Int) then 20 else ((front).length : Int)) - 0).toNat front))).length : Int) : Int) = ((([] ++ (List.take ((if (20 : Int) < ((front).length : Int) then 20 else ((front).length : Int)) - 0).toNat front))).length : Int)) then
      (paper_PutCard (List.take (((([] ++ (List.take ((if (20 : Int) < ((front).length : Int) then 20 else ((front).length : Int)) - 0).toNat front))).length : Int) - 0).toNat (([] ++ ([] ++ (List.take ((if (20 : Int) < ((front).length : Int) then 20 else ((front).length : Int)) - 0).toNat front))) ++ [90])) r).bind fun l_6 =>
      (kinfolkref06_Join [(E_L_uint8.mk ([] ++ (List.take ((if (20 : Int) < ((front).length : Int) then 20 else ((front).length : Int)) - 0).toNat front))), (E_L_uint8.mk l_)]).bind fun l_7 =>
      (kinfolkref06_Same l_6 l_7).bind fun b3 =>
      bif b3 then
       bif decide ((0 : Int) ≤ ((([] ++ (List.take ((if (20 : Int) < ((front).length : Int) then 20 else ((front).length : Int)) - 0).toNat front))).length : Int)) && decide ((((([] ++ (List.take ((if (20 : Int) < ((front).length : Int) then 20 else ((front).length : Int)) - 0).toNat front))).length : Int) : Int) < (((([] ++ (List.take (([] ++ (List.take ((if (20 : Int) < ((front).length : Int) then 20 else ((front).length : Int)) - 0).toNat front))).length ([] ++ (List.take ((if (20 : Int) < ((front).length : Int) then 20 else ((front).length : Int)) - 0).toNat front)))) ++ [90])).length : Int)) then
       bif (decide ((((([] ++ (List.take (([] ++ (List.take ((if (20 : Int) < ((front).length : Int) then 20 else ((front).length : Int)) - 0).toNat front))).length ([] ++ (List.take ((if (20 : Int) < ((front).length : Int) then 20 else ((front).length : Int)) - 0).toNat front)))) ++ [90]).getD (0 + (((([] ++ (List.take ((if (20 : Int) < ((front).length : Int) then 20 else ((front).length : Int)) - 0).toNat front))).length : Int)).toNat) 0) : Int) = 90)) then
        bif (decide ((n : Int) = 0)) then
         (card_Same r r5).bind fun b4 =>
         bif b4 then
          (kinfolkref06_Same l_ l_2).bind fun b5 =>
          (card_Same r r3).bind fun b6 =>
          bif (b5 == b6) then
           (paper_Less r r3).bind fun b7 =>
           (kinfolkref10_Card N r4).bind fun l_8 =>
           (kinfolkref10_Less l_5 l_8).bind fun b8 =>
           bif (b7 == b8) then
            (card_Same r6 r).bind fun b9 =>
            bif b9 then
             (card_Same r7 r3).bind fun b10 =>
             bif b10 then
              (wire_In_End l_4 n3).bind fun (n4, n5) =>
              some (decide ((n4 : Int) = 0))
             else
              none
            else
             none
           else
            none
          else
           none
         else
          none
        else
         none
       else
        none
       else none
      else
       none
      else none
     else
      none
     else none
     else none
    else none
    else none
   else none
  else none
 else
  none
theorem kinfolklaw10_PaperCards_2_runs (N : Nat) (l : List E_card_Field) (m : List E_card_Field) (front : List Int) (r_ : Bool) (h : kinfolklaw10_PaperCards_2 N l m front = some r_) : Runs Tryz.prog 8 [(.one (.pv (.recs 3 (List.map E_card_Field.pv l) false))), (.one (.pv (.recs 3 (List.map E_card_Field.pv m) false))), (.one (.pv (.ints .u8 front false)))] [] [] (kinfolklaw10_PaperCards_2_out l m front r_) := by
 unfold kinfolklaw10_PaperCards_2 at h
 obtain ⟨b, h1, h⟩ := bind_of h
 rcases cond_of h with ⟨h2, h⟩ | ⟨h2, h⟩
 ·obtain ⟨⟨r, r2⟩, h3, h⟩ := bind_of h
  obtain ⟨⟨r3, r4⟩, h4, h⟩ := bind_of h
  obtain ⟨h5, h⟩ := need_of h
  rcases cond_of h with ⟨h6, h⟩ | ⟨h6, h⟩
  ·obtain ⟨l_, h7, h⟩ := bind_of h
   obtain ⟨l_2, h8, h⟩ := bind_of h
   obtain ⟨⟨r5, n⟩, h9, h⟩ := bind_of h
   have q_9 := (Runs.coe (as' := [(.one (.pv (.ints .u8 (List.take (l_).length l_) false)))]) (objs' := []) (rows' := []) (paper_ReadCard_runs l_ _ h9) ⟨.pv (.ints (by first | rfl | (simp only [List.take_length, List.drop_zero, List.map_take, List.nil_append]; done) | (simp; done) | (simp only [E_card_Field.upd, E_kinfolkref09_Field.upd, E_L_card_Field.upd, E_card_Card.upd, E_L_uint8.upd]; done) | (simp [E_card_Field.pv, E_kinfolkref09_Field.pv, E_L_card_Field.pv, E_card_Card.pv, E_L_uint8.pv]; done))), trivial⟩ trivial trivial)
   have p9_ := fun {sc_ : List Ev} {Q_ : Prop} (t_ : Tell sc_ Q_) => tR (kinfolklaw10_awake_runs _ h1) <| tF (not_of2 h2) <| tR (kinfolklaw10_made_runs N l _ h3) <| tR (kinfolklaw10_made_runs N m _ h4) <| tO h5 <| tT h6 <| tT (rfl : true = true) <| tO (rfl : true = true) <| tO (rfl : true = true) <| tR (paper_Card_runs r _ h7) <| tR (paper_Card_runs r _ h7) <| tR (paper_Card_runs r3 _ h8) <| tR q_9 <| t_
   rcases cond_of h with ⟨h10, h⟩ | ⟨h10, h⟩
   ·obtain ⟨h11, h⟩ := need_of h
    obtain ⟨_, h12, h⟩ := bind_of h
    have q_12 := (Runs.coe (as' := [(.one (.pv (.ints .u8 (List.take (([] ++ (List.take (l_2).length l_2))).length ([] ++ (List.take (l_2).length l_2))) false)))]) (objs' := []) (rows' := []) (wire_Of_runs ([] ++ l_2) _ h12) ⟨.pv (.ints (by first | rfl | (simp only [List.take_length, List.drop_zero, List.map_take, List.nil_append]; done) | (simp; done) | (simp only [E_card_Field.upd, E_kinfolkref09_Field.upd, E_L_card_Field.upd, E_card_Card.upd, E_L_uint8.upd]; done) | (simp [E_card_Field.pv, E_kinfolkref09_Field.pv, E_L_card_Field.pv, E_card_Card.pv, E_L_uint8.pv]; done))), trivial⟩ trivial trivial)
    obtain ⟨⟨r6, l_3, n2⟩, h13, h⟩ := bind_of h
    obtain ⟨⟨r7, l_4, n3⟩, h14, h⟩ := bind_of h
    obtain ⟨l_5, h15, h⟩ := bind_of h
    obtain ⟨b2, h16, h⟩ := bind_of h
    have q_16 := (Runs.coe (as' := [(.one (.pv (.ints .u8 (List.take (l_).length l_) false))), (.one (.pv (.ints .u8 (List.take (l_5).length l_5) false)))]) (objs' := []) (rows' := []) (kinfolkref06_Same_runs l_ l_5 _ h16) ⟨.pv (.ints (by first | rfl | (simp only [List.take_length, List.drop_zero, List.map_take, List.nil_append]; done) | (simp; done) | (simp only [E_card_Field.upd, E_kinfolkref09_Field.upd, E_L_card_Field.upd, E_card_Card.upd, E_L_uint8.upd]; done) | (simp [E_card_Field.pv, E_kinfolkref09_Field.pv, E_L_card_Field.pv, E_card_Card.pv, E_L_uint8.pv]; done))), .pv (.ints (by first | rfl | (simp only [List.take_length, List.drop_zero, List.map_take, List.nil_append]; done) | (simp; done) | (simp only [E_card_Field.upd, E_kinfolkref09_Field.upd, E_L_card_Field.upd, E_card_Card.upd, E_L_uint8.upd]; done) | (simp [E_card_Field.pv, E_kinfolkref09_Field.pv, E_L_card_Field.pv, E_card_Card.pv, E_L_uint8.pv]; done))), trivial⟩ trivial trivial)
    rcases cond_of h with ⟨h17, h⟩ | ⟨h17, h⟩
    ·obtain ⟨l_6, h18, h⟩ := bind_of h
     obtain ⟨l_7, h19, h⟩ := bind_of h
     have q_19 := (Runs.coe (as' := [(.one (.pv (.recs 1 [[(.ints .u8 [] false)], [(.ints .u8 (List.take (l_).length l_) false)]] true)))]) (objs' := []) (rows' := []) (kinfolkref06_Join_runs [(E_L_uint8.mk []), (E_L_uint8.mk l_)] _ h19) ⟨.pv (.recs (.cons (.cons (.eq rfl) (.nil)) (.cons (.cons (.ints (by first | rfl | (simp only [List.take_length, List.drop_zero, List.map_take, List.nil_append]; done) | (simp; done) | (simp only [E_card_Field.upd, E_kinfolkref09_Field.upd, E_L_card_Field.upd, E_card_Card.upd, E_L_uint8.upd]; done) | (simp [E_card_Field.pv, E_kinfolkref09_Field.pv, E_L_card_Field.pv, E_card_Card.pv, E_L_uint8.pv]; done))) (.nil)) (.nil)))), trivial⟩ trivial trivial)
     obtain ⟨b3, h20, h⟩ := bind_of h
     have q_20 := (Runs.coe (as' := [(.one (.pv (.ints .u8 (List.take (l_6).length l_6) false))), (.one (.pv (.ints .u8 (List.take (l_7).length l_7) false)))]) (objs' := []) (rows' := []) (kinfolkref06_Same_runs l_6 l_7 _ h20) ⟨.pv (.ints (by first | rfl | (simp only [List.take_length, List.drop_zero, List.map_take, List.nil_append]; done) | (simp; done) | (simp only [E_card_Field.upd, E_kinfolkref09_Field.upd, E_L_card_Field.upd, E_card_Card.upd, E_L_uint8.upd]; done) | (simp [E_card_Field.pv, E_kinfolkref09_Field.pv, E_L_card_Field.pv, E_card_Card.pv, E_L_uint8.pv]; done))), .pv (.ints (by first | rfl | (simp only [List.take_length, List.drop_zero, List.map_take, List.nil_append]; done) | (simp; done) | (simp only [E_card_Field.upd, E_kinfolkref09_Field.upd, E_L_card_Field.upd, E_card_Card.upd, E_L_uint8.upd]; done) | (simp [E_card_Field.pv, E_kinfolkref09_Field.pv, E_L_card_Field.pv, E_card_Card.pv, E_L_uint8.pv]; done))), trivial⟩ trivial trivial)
     rcases cond_of h with ⟨h21, h⟩ | ⟨h21, h⟩
     ·rcases cond_of h with ⟨h22, h⟩ | ⟨h22, h⟩
      ·obtain ⟨b4, h23, h⟩ := bind_of h
       rcases cond_of h with ⟨h24, h⟩ | ⟨h24, h⟩
       ·obtain ⟨b5, h25, h⟩ := bind_of h
        have q_25 := (Runs.coe (as' := [(.one (.pv (.ints .u8 (List.take (l_).length l_) false))), (.one (.pv (.ints .u8 (List.take (l_2).length l_2) false)))]) (objs' := []) (rows' := []) (kinfolkref06_Same_runs l_ l_2 _ h25) ⟨.pv (.ints (by first | rfl | (simp only [List.take_length, List.drop_zero, List.map_take, List.nil_append]; done) | (simp; done) | (simp only [E_card_Field.upd, E_kinfolkref09_Field.upd, E_L_card_Field.upd, E_card_Card.upd, E_L_uint8.upd]; done) | (simp [E_card_Field.pv, E_kinfolkref09_Field.pv, E_L_card_Field.pv, E_card_Card.pv, E_L_uint8.pv]; done))), .pv (.ints (by first | rfl | (simp only [List.take_length, List.drop_zero, List.map_take, List.nil_append]; done) | (simp; done) | (simp only [E_card_Field.upd, E_kinfolkref09_Field.upd, E_L_card_Field.upd, E_card_Card.upd, E_L_uint8.upd]; done) | (simp [E_card_Field.pv, E_kinfolkref09_Field.pv, E_L_card_Field.pv, E_card_Card.pv, E_L_uint8.pv]; done))), trivial⟩ trivial trivial)
        obtain ⟨b6, h26, h⟩ := bind_of h
        rcases cond_of h with ⟨h27, h⟩ | ⟨h27, h⟩
        ·obtain ⟨b7, h28, h⟩ := bind_of h
         obtain ⟨l_8, h29, h⟩ := bind_of h
         obtain ⟨b8, h30, h⟩ := bind_of h
         have q_30 := (Runs.coe (as' := [(.one (.pv (.ints .u8 (List.take (l_5).length l_5) false))), (.one (.pv (.ints .u8 (List.take (l_8).length l_8) false)))]) (objs' := []) (rows' := []) (kinfolkref10_Less_runs l_5 l_8 _ h30) ⟨.pv (.ints (by first | rfl | (simp only [List.take_length, List.drop_zero, List.map_take, List.nil_append]; done) | (simp; done) | (simp only [E_card_Field.upd, E_kinfolkref09_Field.upd, E_L_card_Field.upd, E_card_Card.upd, E_L_uint8.upd]; done) | (simp [E_card_Field.pv, E_kinfolkref09_Field.pv, E_L_card_Field.pv, E_card_Card.pv, E_L_uint8.pv]; done))), .pv (.ints (by first | rfl | (simp only [List.take_length, List.drop_zero, List.map_take, List.nil_append]; done) | (simp; done) | (simp only [E_card_Field.upd, E_kinfolkref09_Field.upd, E_L_card_Field.upd, E_card_Card.upd, E_L_uint8.upd]; done) | (simp [E_card_Field.pv, E_kinfolkref09_Field.pv, E_L_card_Field.pv, E_card_Card.pv, E_L_uint8.pv]; done))), trivial⟩ trivial trivial)
         rcases cond_of h with ⟨h31, h⟩ | ⟨h31, h⟩
         ·obtain ⟨b9, h32, h⟩ := bind_of h
          rcases cond_of h with ⟨h33, h⟩ | ⟨h33, h⟩
          ·obtain ⟨b10, h34, h⟩ := bind_of h
           rcases cond_of h with ⟨h35, h⟩ | ⟨h35, h⟩
           ·obtain ⟨⟨n4, n5⟩, h36, h⟩ := bind_of h
            have h := some_of h
            subst h
            have t_ := p9_ <| tT h10 <| tO (rfl : true = true) <| tO h11 <| tR q_12 <| tR (paper_GetCard_runs ([] ++ l_2) 0 _ h13) <| tR (paper_GetCard_runs l_3 n2 _ h14) <| tR (kinfolkref10_Card_runs N r2 _ h15) <| tR q_16 <| tT h17 <| tO (rfl : true = true) <| tR (paper_PutCard_runs _ _ _ h18) <| tR (paper_PutCard_runs _ _ _ h18) <| tR q_19 <| tR q_20 <| tT h21 <| tO (rfl : true = true) <| tT (rfl : true = true) <| tT h22 <| tR (card_Same_runs r r5 _ h23) <| tT h24 <| tR q_25 <| tR q_25 <| tR q_25 <| tR q_25 <| tR (card_Same_runs r r3 _ h26) <| tT h27 <| tR (paper_Less_runs r r3 _ h28) <| tR (kinfolkref10_Card_runs N r2 _ h15) <| tR (kinfolkref10_Card_runs N r4 _ h29) <| tR q_30 <| tT h31 <| tR (card_Same_runs r6 r _ h32) <| tT h33 <| tR (card_Same_runs r7 r3 _ h34) <| tT h35 <| tR (wire_In_End_runs l_4 n3 _ h36) <| tN
            exact runs_of (C := cfg) (objs := []) (sc := t_.ev) (.k1 t_.pf (by kernel_rfl) (by kernel_rfl))
           ·cases h
          ·cases h
         ·cases h
        ·cases h
       ·cases h
      ·cases h
     ·cases h
    ·cases h
   ·obtain ⟨h11, h⟩ := need_of h
    obtain ⟨h12, h⟩ := need_of h
    obtain ⟨_, h13, h⟩ := bind_of h
    have q_13 := (Runs.coe (as' := [(.one (.pv (.ints .u8 (List.take ((([] ++ (List.take (l_).length l_)) ++ (List.take (l_2).length l_2))).length (([] ++ (List.take (l_).length l_)) ++ (List.take (l_2).length l_2))) false)))]) (objs' := []) (rows' := []) (wire_Of_runs (([] ++ l_) ++ l_2) _ h13) ⟨.pv (.ints (by first | rfl | (simp only [List.take_length, List.drop_zero, List.map_take, List.nil_append]; done) | (simp; done) | (simp only [E_card_Field.upd, E_kinfolkref09_Field.upd, E_L_card_Field.upd, E_card_Card.upd, E_L_uint8.upd]; done) | (simp [E_card_Field.pv, E_kinfolkref09_Field.pv, E_L_card_Field.pv, E_card_Card.pv, E_L_uint8.pv]; done))), trivial⟩ trivial trivial)
    obtain ⟨⟨r6, l_3, n2⟩, h14, h⟩ := bind_of h
    have q_14 := (paper_GetCard_runs (([] ++ l_) ++ l_2) 0 _ h14)
    obtain ⟨⟨r7, l_4, n3⟩, h15, h⟩ := bind_of h
    obtain ⟨l_5, h16, h⟩ := bind_of h
    obtain ⟨b2, h17, h⟩ := bind_of h
    have q_17 := (Runs.coe (as' := [(.one (.pv (.ints .u8 (List.take (l_).length l_) false))), (.one (.pv (.ints .u8 (List.take (l_5).length l_5) false)))]) (objs' := []) (rows' := []) (kinfolkref06_Same_runs l_ l_5 _ h17) ⟨.pv (.ints (by first | rfl | (simp only [List.take_length, List.drop_zero, List.map_take, List.nil_append]; done) | (simp; done) | (simp only [E_card_Field.upd, E_kinfolkref09_Field.upd, E_L_card_Field.upd, E_card_Card.upd, E_L_uint8.upd]; done) | (simp [E_card_Field.pv, E_kinfolkref09_Field.pv, E_L_card_Field.pv, E_card_Card.pv, E_L_uint8.pv]; done))), .pv (.ints (by first | rfl | (simp only [List.take_length, List.drop_zero, List.map_take, List.nil_append]; done) | (simp; done) | (simp only [E_card_Field.upd, E_kinfolkref09_Field.upd, E_L_card_Field.upd, E_card_Card.upd, E_L_uint8.upd]; done) | (simp [E_card_Field.pv, E_kinfolkref09_Field.pv, E_L_card_Field.pv, E_card_Card.pv, E_L_uint8.pv]; done))), trivial⟩ trivial trivial)
    rcases cond_of h with ⟨h18, h⟩ | ⟨h18, h⟩
    ·obtain ⟨l_6, h19, h⟩ := bind_of h
     obtain ⟨l_7, h20, h⟩ := bind_of h
     have q_20 := (Runs.coe (as' := [(.one (.pv (.recs 1 [[(.ints .u8 [] false)], [(.ints .u8 (List.take (l_).length l_) false)]] true)))]) (objs' := []) (rows' := []) (kinfolkref06_Join_runs [(E_L_uint8.mk []), (E_L_uint8.mk l_)] _ h20) ⟨.pv (.recs (.cons (.cons (.eq rfl) (.nil)) (.cons (.cons (.ints (by first | rfl | (simp only [List.take_length, List.drop_zero, List.map_take, List.nil_append]; done) | (simp; done) | (simp only [E_card_Field.upd, E_kinfolkref09_Field.upd, E_L_card_Field.upd, E_card_Card.upd, E_L_uint8.upd]; done) | (simp [E_card_Field.pv, E_kinfolkref09_Field.pv, E_L_card_Field.pv, E_card_Card.pv, E_L_uint8.pv]; done))) (.nil)) (.nil)))), trivial⟩ trivial trivial)
     obtain ⟨b3, h21, h⟩ := bind_of h
     have q_21 := (Runs.coe (as' := [(.one (.pv (.ints .u8 (List.take (l_6).length l_6) false))), (.one (.pv (.ints .u8 (List.take (l_7).length l_7) false)))]) (objs' := []) (rows' := []) (kinfolkref06_Same_runs l_6 l_7 _ h21) ⟨.pv (.ints (by first | rfl | (simp only [List.take_length, List.drop_zero, List.map_take, List.nil_append]; done) | (simp; done) | (simp only [E_card_Field.upd, E_kinfolkref09_Field.upd, E_L_card_Field.upd, E_card_Card.upd, E_L_uint8.upd]; done) | (simp [E_card_Field.pv, E_kinfolkref09_Field.pv, E_L_card_Field.pv, E_card_Card.pv, E_L_uint8.pv]; done))), .pv (.ints (by first | rfl | (simp only [List.take_length, List.drop_zero, List.map_take, List.nil_append]; done) | (simp; done) | (simp only [E_card_Field.upd, E_kinfolkref09_Field.upd, E_L_card_Field.upd, E_card_Card.upd, E_L_uint8.upd]; done) | (simp [E_card_Field.pv, E_kinfolkref09_Field.pv, E_L_card_Field.pv, E_card_Card.pv, E_L_uint8.pv]; done))), trivial⟩ trivial trivial)
     rcases cond_of h with ⟨h22, h⟩ | ⟨h22, h⟩
     ·rcases cond_of h with ⟨h23, h⟩ | ⟨h23, h⟩
      ·obtain ⟨b4, h24, h⟩ := bind_of h
       rcases cond_of h with ⟨h25, h⟩ | ⟨h25, h⟩
       ·obtain ⟨b5, h26, h⟩ := bind_of h
        have q_26 := (Runs.coe (as' := [(.one (.pv (.ints .u8 (List.take (l_).length l_) false))), (.one (.pv (.ints .u8 (List.take (l_2).length l_2) false)))]) (objs' := []) (rows' := []) (kinfolkref06_Same_runs l_ l_2 _ h26) ⟨.pv (.ints (by first | rfl | (simp only [List.take_length, List.drop_zero, List.map_take, List.nil_append]; done) | (simp; done) | (simp only [E_card_Field.upd, E_kinfolkref09_Field.upd, E_L_card_Field.upd, E_card_Card.upd, E_L_uint8.upd]; done) | (simp [E_card_Field.pv, E_kinfolkref09_Field.pv, E_L_card_Field.pv, E_card_Card.pv, E_L_uint8.pv]; done))), .pv (.ints (by first | rfl | (simp only [List.take_length, List.drop_zero, List.map_take, List.nil_append]; done) | (simp; done) | (simp only [E_card_Field.upd, E_kinfolkref09_Field.upd, E_L_card_Field.upd, E_card_Card.upd, E_L_uint8.upd]; done) | (simp [E_card_Field.pv, E_kinfolkref09_Field.pv, E_L_card_Field.pv, E_card_Card.pv, E_L_uint8.pv]; done))), trivial⟩ trivial trivial)
        obtain ⟨b6, h27, h⟩ := bind_of h
        rcases cond_of h with ⟨h28, h⟩ | ⟨h28, h⟩
        ·obtain ⟨b7, h29, h⟩ := bind_of h
         obtain ⟨l_8, h30, h⟩ := bind_of h
         obtain ⟨b8, h31, h⟩ := bind_of h
         have q_31 := (Runs.coe (as' := [(.one (.pv (.ints .u8 (List.take (l_5).length l_5) false))), (.one (.pv (.ints .u8 (List.take (l_8).length l_8) false)))]) (objs' := []) (rows' := []) (kinfolkref10_Less_runs l_5 l_8 _ h31) ⟨.pv (.ints (by first | rfl | (simp only [List.take_length, List.drop_zero, List.map_take, List.nil_append]; done) | (simp; done) | (simp only [E_card_Field.upd, E_kinfolkref09_Field.upd, E_L_card_Field.upd, E_card_Card.upd, E_L_uint8.upd]; done) | (simp [E_card_Field.pv, E_kinfolkref09_Field.pv, E_L_card_Field.pv, E_card_Card.pv, E_L_uint8.pv]; done))), .pv (.ints (by first | rfl | (simp only [List.take_length, List.drop_zero, List.map_take, List.nil_append]; done) | (simp; done) | (simp only [E_card_Field.upd, E_kinfolkref09_Field.upd, E_L_card_Field.upd, E_card_Card.upd, E_L_uint8.upd]; done) | (simp [E_card_Field.pv, E_kinfolkref09_Field.pv, E_L_card_Field.pv, E_card_Card.pv, E_L_uint8.pv]; done))), trivial⟩ trivial trivial)
         rcases cond_of h with ⟨h32, h⟩ | ⟨h32, h⟩
         ·obtain ⟨b9, h33, h⟩ := bind_of h
          rcases cond_of h with ⟨h34, h⟩ | ⟨h34, h⟩
          ·obtain ⟨b10, h35, h⟩ := bind_of h
           rcases cond_of h with ⟨h36, h⟩ | ⟨h36, h⟩
           ·obtain ⟨⟨n4, n5⟩, h37, h⟩ := bind_of h
            have h := some_of h
            subst h
            have t_ := p9_ <| tF (not_of h10) <| tO h11 <| tO (show (Nat.beq (([] ++ (List.take (l_).length l_))).length (([] ++ (List.take (l_).length l_))).length) = true from Nat.beq_refl _) <| tO h12 <| tR q_13 <| tR q_14 <| tR (paper_GetCard_runs l_3 n2 _ h15) <| tR (kinfolkref10_Card_runs N r2 _ h16) <| tR q_17 <| tT h18 <| tO (rfl : true = true) <| tR (paper_PutCard_runs _ _ _ h19) <| tR (paper_PutCard_runs _ _ _ h19) <| tR q_20 <| tR q_21 <| tT h22 <| tO (rfl : true = true) <| tT (rfl : true = true) <| tT h23 <| tR (card_Same_runs r r5 _ h24) <| tT h25 <| tR q_26 <| tR q_26 <| tR q_26 <| tR q_26 <| tR (card_Same_runs r r3 _ h27) <| tT h28 <| tR (paper_Less_runs r r3 _ h29) <| tR (kinfolkref10_Card_runs N r2 _ h16) <| tR (kinfolkref10_Card_runs N r4 _ h30) <| tR q_31 <| tT h32 <| tR (card_Same_runs r6 r _ h33) <| tT h34 <| tR (card_Same_runs r7 r3 _ h35) <| tT h36 <| tR (wire_In_End_runs l_4 n3 _ h37) <| tN
            exact runs_of (C := cfg) (objs := []) (sc := t_.ev) (.k1 t_.pf (by kernel_rfl) (by kernel_rfl))
           ·cases h
          ·cases h
         ·cases h
        ·cases h
       ·cases h
      ·cases h
     ·cases h
    ·cases h
  ·obtain ⟨h7, h⟩ := need_of h
   rcases cond_of h with ⟨h8, h⟩ | ⟨h8, h⟩
   ·obtain ⟨l_, h9, h⟩ := bind_of h
    obtain ⟨l_2, h10, h⟩ := bind_of h
    obtain ⟨⟨r5, n⟩, h11, h⟩ := bind_of h
    have q_11 := (Runs.coe (as' := [(.one (.pv (.ints .u8 (List.take (l_).length l_) false)))]) (objs' := []) (rows' := []) (paper_ReadCard_runs l_ _ h11) ⟨.pv (.ints (by first | rfl | (simp only [List.take_length, List.drop_zero, List.map_take, List.nil_append]; done) | (simp; done) | (simp only [E_card_Field.upd, E_kinfolkref09_Field.upd, E_L_card_Field.upd, E_card_Card.upd, E_L_uint8.upd]; done) | (simp [E_card_Field.pv, E_kinfolkref09_Field.pv, E_L_card_Field.pv, E_card_Card.pv, E_L_uint8.pv]; done))), trivial⟩ trivial trivial)
    have p11_ := fun {sc_ : List Ev} {Q_ : Prop} (t_ : Tell sc_ Q_) => tR (kinfolklaw10_awake_runs _ h1) <| tF (not_of2 h2) <| tR (kinfolklaw10_made_runs N l _ h3) <| tR (kinfolklaw10_made_runs N m _ h4) <| tO h5 <| tF (not_of h6) <| tO h7 <| tT h8 <| tO (rfl : true = true) <| tO (rfl : true = true) <| tR (paper_Card_runs r _ h9) <| tR (paper_Card_runs r _ h9) <| tR (paper_Card_runs r3 _ h10) <| tR q_11 <| t_
    rcases cond_of h with ⟨h12, h⟩ | ⟨h12, h⟩
    ·obtain ⟨h13, h⟩ := need_of h
     obtain ⟨_, h14, h⟩ := bind_of h
     have q_14 := (Runs.coe (as' := [(.one (.pv (.ints .u8 (List.take (([] ++ (List.take (l_2).length l_2))).length ([] ++ (List.take (l_2).length l_2))) false)))]) (objs' := []) (rows' := []) (wire_Of_runs ([] ++ l_2) _ h14) ⟨.pv (.ints (by first | rfl | (simp only [List.take_length, List.drop_zero, List.map_take, List.nil_append]; done) | (simp; done) | (simp only [E_card_Field.upd, E_kinfolkref09_Field.upd, E_L_card_Field.upd, E_card_Card.upd, E_L_uint8.upd]; done) | (simp [E_card_Field.pv, E_kinfolkref09_Field.pv, E_L_card_Field.pv, E_card_Card.pv, E_L_uint8.pv]; done))), trivial⟩ trivial trivial)
     obtain ⟨⟨r6, l_3, n2⟩, h15, h⟩ := bind_of h
     obtain ⟨⟨r7, l_4, n3⟩, h16, h⟩ := bind_of h
     obtain ⟨l_5, h17, h⟩ := bind_of h
     obtain ⟨b2, h18, h⟩ := bind_of h
     have q_18 := (Runs.coe (as' := [(.one (.pv (.ints .u8 (List.take (l_).length l_) false))), (.one (.pv (.ints .u8 (List.take (l_5).length l_5) false)))]) (objs' := []) (rows' := []) (kinfolkref06_Same_runs l_ l_5 _ h18) ⟨.pv (.ints (by first | rfl | (simp only [List.take_length, List.drop_zero, List.map_take, List.nil_append]; done) | (simp; done) | (simp only [E_card_Field.upd, E_kinfolkref09_Field.upd, E_L_card_Field.upd, E_card_Card.upd, E_L_uint8.upd]; done) | (simp [E_card_Field.pv, E_kinfolkref09_Field.pv, E_L_card_Field.pv, E_card_Card.pv, E_L_uint8.pv]; done))), .pv (.ints (by first | rfl | (simp only [List.take_length, List.drop_zero, List.map_take, List.nil_append]; done) | (simp; done) | (simp only [E_card_Field.upd, E_kinfolkref09_Field.upd, E_L_card_Field.upd, E_card_Card.upd, E_L_uint8.upd]; done) | (simp [E_card_Field.pv, E_kinfolkref09_Field.pv, E_L_card_Field.pv, E_card_Card.pv, E_L_uint8.pv]; done))), trivial⟩ trivial trivial)
     rcases cond_of h with ⟨h19, h⟩ | ⟨h19, h⟩
     ·obtain ⟨h20, h⟩ := need_of h
      obtain ⟨l_6, h21, h⟩ := bind_of h
      have q_21 := (paper_PutCard_runs _ _ _ h21)
      obtain ⟨l_7, h22, h⟩ := bind_of h
      have q_22 := (Runs.coe (as' := [(.one (.pv (.recs 1 [[(.ints .u8 (List.take (([] ++ (List.take ((if (20 : Int) < ((front).length : Int) then 20 else ((front).length : Int)) - 0).toNat front))).length ([] ++ (List.take ((if (20 : Int) < ((front).length : Int) then 20 else ((front).length : Int)) - 0).toNat front))) false)], [(.ints .u8 (List.take (l_).length l_) false)]] true)))]) (objs' := []) (rows' := []) (kinfolkref06_Join_runs [(E_L_uint8.mk ([] ++ (List.take ((if (20 : Int) < ((front).length : Int) then 20 else ((front).length : Int)) - 0).toNat front))), (E_L_uint8.mk l_)] _ h22) ⟨.pv (.recs (.cons (.cons (.ints (by first | rfl | (simp only [List.take_length, List.drop_zero, List.map_take, List.nil_append]; done) | (simp; done) | (simp only [E_card_Field.upd, E_kinfolkref09_Field.upd, E_L_card_Field.upd, E_card_Card.upd, E_L_uint8.upd]; done) | (simp [E_card_Field.pv, E_kinfolkref09_Field.pv, E_L_card_Field.pv, E_card_Card.pv, E_L_uint8.pv]; done))) (.nil)) (.cons (.cons (.ints (by first | rfl | (simp only [List.take_length, List.drop_zero, List.map_take, List.nil_append]; done) | (simp; done) | (simp only [E_card_Field.upd, E_kinfolkref09_Field.upd, E_L_card_Field.upd, E_card_Card.upd, E_L_uint8.upd]; done) | (simp [E_card_Field.pv, E_kinfolkref09_Field.pv, E_L_card_Field.pv, E_card_Card.pv, E_L_uint8.pv]; done))) (.nil)) (.nil)))), trivial⟩ trivial trivial)
      obtain ⟨b3, h23, h⟩ := bind_of h
      have q_23 := (Runs.coe (as' := [(.one (.pv (.ints .u8 (List.take (l_6).length l_6) false))), (.one (.pv (.ints .u8 (List.take (l_7).length l_7) false)))]) (objs' := []) (rows' := []) (kinfolkref06_Same_runs l_6 l_7 _ h23) ⟨.pv (.ints (by first | rfl | (simp only [List.take_length, List.drop_zero, List.map_take, List.nil_append]; done) | (simp; done) | (simp only [E_card_Field.upd, E_kinfolkref09_Field.upd, E_L_card_Field.upd, E_card_Card.upd, E_L_uint8.upd]; done) | (simp [E_card_Field.pv, E_kinfolkref09_Field.pv, E_L_card_Field.pv, E_card_Card.pv, E_L_uint8.pv]; done))), .pv (.ints (by first | rfl | (simp only [List.take_length, List.drop_zero, List.map_take, List.nil_append]; done) | (simp; done) | (simp only [E_card_Field.upd, E_kinfolkref09_Field.upd, E_L_card_Field.upd, E_card_Card.upd, E_L_uint8.upd]; done) | (simp [E_card_Field.pv, E_kinfolkref09_Field.pv, E_L_card_Field.pv, E_card_Card.pv, E_L_uint8.pv]; done))), trivial⟩ trivial trivial)
      rcases cond_of h with ⟨h24, h⟩ | ⟨h24, h⟩
      ·obtain ⟨h25, h⟩ := need_of h
       rcases cond_of h with ⟨h26, h⟩ | ⟨h26, h⟩
       ·rcases cond_of h with ⟨h27, h⟩ | ⟨h27, h⟩
        ·obtain ⟨b4, h28, h⟩ := bind_of h
         rcases cond_of h with ⟨h29, h⟩ | ⟨h29, h⟩
         ·obtain ⟨b5, h30, h⟩ := bind_of h
          have q_30 := (Runs.coe (as' := [(.one (.pv (.ints .u8 (List.take (l_).length l_) false))), (.one (.pv (.ints .u8 (List.take (l_2).length l_2) false)))]) (objs' := []) (rows' := []) (kinfolkref06_Same_runs l_ l_2 _ h30) ⟨.pv (.ints (by first | rfl | (simp only [List.take_length, List.drop_zero, List.map_take, List.nil_append]; done) | (simp; done) | (simp only [E_card_Field.upd, E_kinfolkref09_Field.upd, E_L_card_Field.upd, E_card_Card.upd, E_L_uint8.upd]; done) | (simp [E_card_Field.pv, E_kinfolkref09_Field.pv, E_L_card_Field.pv, E_card_Card.pv, E_L_uint8.pv]; done))), .pv (.ints (by first | rfl | (simp only [List.take_length, List.drop_zero, List.map_take, List.nil_append]; done) | (simp; done) | (simp only [E_card_Field.upd, E_kinfolkref09_Field.upd, E_L_card_Field.upd, E_card_Card.upd, E_L_uint8.upd]; done) | (simp [E_card_Field.pv, E_kinfolkref09_Field.pv, E_L_card_Field.pv, E_card_Card.pv, E_L_uint8.pv]; done))), trivial⟩ trivial trivial)
          obtain ⟨b6, h31, h⟩ := bind_of h
          rcases cond_of h with ⟨h32, h⟩ | ⟨h32, h⟩
          ·obtain ⟨b7, h33, h⟩ := bind_of h
           obtain ⟨l_8, h34, h⟩ := bind_of h
           obtain ⟨b8, h35, h⟩ := bind_of h
           have q_35 := (Runs.coe (as' := [(.one (.pv (.ints .u8 (List.take (l_5).length l_5) false))), (.one (.pv (.ints .u8 (List.take (l_8).length l_8) false)))]) (objs' := []) (rows' := []) (kinfolkref10_Less_runs l_5 l_8 _ h35) ⟨.pv (.ints (by first | rfl | (simp only [List.take_length, List.drop_zero, List.map_take, List.nil_append]; done) | (simp; done) | (simp only [E_card_Field.upd, E_kinfolkref09_Field.upd, E_L_card_Field.upd, E_card_Card.upd, E_L_uint8.upd]; done) | (simp [E_card_Field.pv, E_kinfolkref09_Field.pv, E_L_card_Field.pv, E_card_Card.pv, E_L_uint8.pv]; done))), .pv (.ints (by first | rfl | (simp only [List.take_length, List.drop_zero, List.map_take, List.nil_append]; done) | (simp; done) | (simp only [E_card_Field.upd, E_kinfolkref09_Field.upd, E_L_card_Field.upd, E_card_Card.upd, E_L_uint8.upd]; done) | (simp [E_card_Field.pv, E_kinfolkref09_Field.pv, E_L_card_Field.pv, E_card_Card.pv, E_L_uint8.pv]; done))), trivial⟩ trivial trivial)
           rcases cond_of h with ⟨h36, h⟩ | ⟨h36, h⟩
           ·obtain ⟨b9, h37, h⟩ := bind_of h
            rcases cond_of h with ⟨h38, h⟩ | ⟨h38, h⟩
            ·obtain ⟨b10, h39, h⟩ := bind_of h
             rcases cond_of h with ⟨h40, h⟩ | ⟨h40, h⟩
             ·obtain ⟨⟨n4, n5⟩, h41, h⟩ := bind_of h
              have h := some_of h
              subst h
              have t_ := p11_ <| tT h12 <| tO (rfl : true = true) <| tO h13 <| tR q_14 <| tR (paper_GetCard_runs ([] ++ l_2) 0 _ h15) <| tR (paper_GetCard_runs l_3 n2 _ h16) <| tR (kinfolkref10_Card_runs N r2 _ h17) <| tR q_18 <| tT h19 <| tO h20 <| tR q_21 <| tR q_21 <| tR q_22 <| tR q_23 <| tT h24 <| tO h25 <| tT h26 <| tT h27 <| tR (card_Same_runs r r5 _ h28) <| tT h29 <| tR q_30 <| tR q_30 <| tR q_30 <| tR q_30 <| tR (card_Same_runs r r3 _ h31) <| tT h32 <| tR (paper_Less_runs r r3 _ h33) <| tR (kinfolkref10_Card_runs N r2 _ h17) <| tR (kinfolkref10_Card_runs N r4 _ h34) <| tR q_35 <| tT h36 <| tR (card_Same_runs r6 r _ h37) <| tT h38 <| tR (card_Same_runs r7 r3 _ h39) <| tT h40 <| tR (wire_In_End_runs l_4 n3 _ h41) <| tN
              exact runs_of (C := cfg) (objs := []) (sc := t_.ev) (.k1 t_.pf (by kernel_rfl) (by kernel_rfl))
             ·cases h
            ·cases h
           ·cases h
          ·cases h
         ·cases h
        ·cases h
       ·cases h
      ·cases h
     ·cases h
    ·obtain ⟨h13, h⟩ := need_of h
     obtain ⟨h14, h⟩ := need_of h
     obtain ⟨_, h15, h⟩ := bind_of h
     have q_15 := (Runs.coe (as' := [(.one (.pv (.ints .u8 (List.take ((([] ++ (List.take (l_).length l_)) ++ (List.take (l_2).length l_2))).length (([] ++ (List.take (l_).length l_)) ++ (List.take (l_2).length l_2))) false)))]) (objs' := []) (rows' := []) (wire_Of_runs (([] ++ l_) ++ l_2) _ h15) ⟨.pv (.ints (by first | rfl | (simp only [List.take_length, List.drop_zero, List.map_take, List.nil_append]; done) | (simp; done) | (simp only [E_card_Field.upd, E_kinfolkref09_Field.upd, E_L_card_Field.upd, E_card_Card.upd, E_L_uint8.upd]; done) | (simp [E_card_Field.pv, E_kinfolkref09_Field.pv, E_L_card_Field.pv, E_card_Card.pv, E_L_uint8.pv]; done))), trivial⟩ trivial trivial)
     obtain ⟨⟨r6, l_3, n2⟩, h16, h⟩ := bind_of h
     have q_16 := (paper_GetCard_runs (([] ++ l_) ++ l_2) 0 _ h16)
     obtain ⟨⟨r7, l_4, n3⟩, h17, h⟩ := bind_of h
     obtain ⟨l_5, h18, h⟩ := bind_of h
     obtain ⟨b2, h19, h⟩ := bind_of h
     have q_19 := (Runs.coe (as' := [(.one (.pv (.ints .u8 (List.take (l_).length l_) false))), (.one (.pv (.ints .u8 (List.take (l_5).length l_5) false)))]) (objs' := []) (rows' := []) (kinfolkref06_Same_runs l_ l_5 _ h19) ⟨.pv (.ints (by first | rfl | (simp only [List.take_length, List.drop_zero, List.map_take, List.nil_append]; done) | (simp; done) | (simp only [E_card_Field.upd, E_kinfolkref09_Field.upd, E_L_card_Field.upd, E_card_Card.upd, E_L_uint8.upd]; done) | (simp [E_card_Field.pv, E_kinfolkref09_Field.pv, E_L_card_Field.pv, E_card_Card.pv, E_L_uint8.pv]; done))), .pv (.ints (by first | rfl | (simp only [List.take_length, List.drop_zero, List.map_take, List.nil_append]; done) | (simp; done) | (simp only [E_card_Field.upd, E_kinfolkref09_Field.upd, E_L_card_Field.upd, E_card_Card.upd, E_L_uint8.upd]; done) | (simp [E_card_Field.pv, E_kinfolkref09_Field.pv, E_L_card_Field.pv, E_card_Card.pv, E_L_uint8.pv]; done))), trivial⟩ trivial trivial)
     rcases cond_of h with ⟨h20, h⟩ | ⟨h20, h⟩
     ·obtain ⟨h21, h⟩ := need_of h
      obtain ⟨l_6, h22, h⟩ := bind_of h
      have q_22 := (paper_PutCard_runs _ _ _ h22)
      obtain ⟨l_7, h23, h⟩ := bind_of h
      have q_23 := (Runs.coe (as' := [(.one (.pv (.recs 1 [[(.ints .u8 (List.take (([] ++ (List.take ((if (20 : Int) < ((front).length : Int) then 20 else ((front).length : Int)) - 0).toNat front))).length ([] ++ (List.take ((if (20 : Int) < ((front).length : Int) then 20 else ((front).length : Int)) - 0).toNat front))) false)], [(.ints .u8 (List.take (l_).length l_) false)]] true)))]) (objs' := []) (rows' := []) (kinfolkref06_Join_runs [(E_L_uint8.mk ([] ++ (List.take ((if (20 : Int) < ((front).length : Int) then 20 else ((front).length : Int)) - 0).toNat front))), (E_L_uint8.mk l_)] _ h23) ⟨.pv (.recs (.cons (.cons (.ints (by first | rfl | (simp only [List.take_length, List.drop_zero, List.map_take, List.nil_append]; done) | (simp; done) | (simp only [E_card_Field.upd, E_kinfolkref09_Field.upd, E_L_card_Field.upd, E_card_Card.upd, E_L_uint8.upd]; done) | (simp [E_card_Field.pv, E_kinfolkref09_Field.pv, E_L_card_Field.pv, E_card_Card.pv, E_L_uint8.pv]; done))) (.nil)) (.cons (.cons (.ints (by first | rfl | (simp only [List.take_length, List.drop_zero, List.map_take, List.nil_append]; done) | (simp; done) | (simp only [E_card_Field.upd, E_kinfolkref09_Field.upd, E_L_card_Field.upd, E_card_Card.upd, E_L_uint8.upd]; done) | (simp [E_card_Field.pv, E_kinfolkref09_Field.pv, E_L_card_Field.pv, E_card_Card.pv, E_L_uint8.pv]; done))) (.nil)) (.nil)))), trivial⟩ trivial trivial)
      obtain ⟨b3, h24, h⟩ := bind_of h
      have q_24 := (Runs.coe (as' := [(.one (.pv (.ints .u8 (List.take (l_6).length l_6) false))), (.one (.pv (.ints .u8 (List.take (l_7).length l_7) false)))]) (objs' := []) (rows' := []) (kinfolkref06_Same_runs l_6 l_7 _ h24) ⟨.pv (.ints (by first | rfl | (simp only [List.take_length, List.drop_zero, List.map_take, List.nil_append]; done) | (simp; done) | (simp only [E_card_Field.upd, E_kinfolkref09_Field.upd, E_L_card_Field.upd, E_card_Card.upd, E_L_uint8.upd]; done) | (simp [E_card_Field.pv, E_kinfolkref09_Field.pv, E_L_card_Field.pv, E_card_Card.pv, E_L_uint8.pv]; done))), .pv (.ints (by first | rfl | (simp only [List.take_length, List.drop_zero, List.map_take, List.nil_append]; done) | (simp; done) | (simp only [E_card_Field.upd, E_kinfolkref09_Field.upd, E_L_card_Field.upd, E_card_Card.upd, E_L_uint8.upd]; done) | (simp [E_card_Field.pv, E_kinfolkref09_Field.pv, E_L_card_Field.pv, E_card_Card.pv, E_L_uint8.pv]; done))), trivial⟩ trivial trivial)
      rcases cond_of h with ⟨h25, h⟩ | ⟨h25, h⟩
      ·obtain ⟨h26, h⟩ := need_of h
       rcases cond_of h with ⟨h27, h⟩ | ⟨h27, h⟩
       ·rcases cond_of h with ⟨h28, h⟩ | ⟨h28, h⟩
        ·obtain ⟨b4, h29, h⟩ := bind_of h
         rcases cond_of h with ⟨h30, h⟩ | ⟨h30, h⟩
         ·obtain ⟨b5, h31, h⟩ := bind_of h
          have q_31 := (Runs.coe (as' := [(.one (.pv (.ints .u8 (List.take (l_).length l_) false))), (.one (.pv (.ints .u8 (List.take (l_2).length l_2) false)))]) (objs' := []) (rows' := []) (kinfolkref06_Same_runs l_ l_2 _ h31) ⟨.pv (.ints (by first | rfl | (simp only [List.take_length, List.drop_zero, List.map_take, List.nil_append]; done) | (simp; done) | (simp only [E_card_Field.upd, E_kinfolkref09_Field.upd, E_L_card_Field.upd, E_card_Card.upd, E_L_uint8.upd]; done) | (simp [E_card_Field.pv, E_kinfolkref09_Field.pv, E_L_card_Field.pv, E_card_Card.pv, E_L_uint8.pv]; done))), .pv (.ints (by first | rfl | (simp only [List.take_length, List.drop_zero, List.map_take, List.nil_append]; done) | (simp; done) | (simp only [E_card_Field.upd, E_kinfolkref09_Field.upd, E_L_card_Field.upd, E_card_Card.upd, E_L_uint8.upd]; done) | (simp [E_card_Field.pv, E_kinfolkref09_Field.pv, E_L_card_Field.pv, E_card_Card.pv, E_L_uint8.pv]; done))), trivial⟩ trivial trivial)
          obtain ⟨b6, h32, h⟩ := bind_of h
          rcases cond_of h with ⟨h33, h⟩ | ⟨h33, h⟩
          ·obtain ⟨b7, h34, h⟩ := bind_of h
           obtain ⟨l_8, h35, h⟩ := bind_of h
           obtain ⟨b8, h36, h⟩ := bind_of h
           have q_36 := (Runs.coe (as' := [(.one (.pv (.ints .u8 (List.take (l_5).length l_5) false))), (.one (.pv (.ints .u8 (List.take (l_8).length l_8) false)))]) (objs' := []) (rows' := []) (kinfolkref10_Less_runs l_5 l_8 _ h36) ⟨.pv (.ints (by first | rfl | (simp only [List.take_length, List.drop_zero, List.map_take, List.nil_append]; done) | (simp; done) | (simp only [E_card_Field.upd, E_kinfolkref09_Field.upd, E_L_card_Field.upd, E_card_Card.upd, E_L_uint8.upd]; done) | (simp [E_card_Field.pv, E_kinfolkref09_Field.pv, E_L_card_Field.pv, E_card_Card.pv, E_L_uint8.pv]; done))), .pv (.ints (by first | rfl | (simp only [List.take_length, List.drop_zero, List.map_take, List.nil_append]; done) | (simp; done) | (simp only [E_card_Field.upd, E_kinfolkref09_Field.upd, E_L_card_Field.upd, E_card_Card.upd, E_L_uint8.upd]; done) | (simp [E_card_Field.pv, E_kinfolkref09_Field.pv, E_L_card_Field.pv, E_card_Card.pv, E_L_uint8.pv]; done))), trivial⟩ trivial trivial)
           rcases cond_of h with ⟨h37, h⟩ | ⟨h37, h⟩
           ·obtain ⟨b9, h38, h⟩ := bind_of h
            rcases cond_of h with ⟨h39, h⟩ | ⟨h39, h⟩
            ·obtain ⟨b10, h40, h⟩ := bind_of h
             rcases cond_of h with ⟨h41, h⟩ | ⟨h41, h⟩
             ·obtain ⟨⟨n4, n5⟩, h42, h⟩ := bind_of h
              have h := some_of h
              subst h
              have t_ := p11_ <| tF (not_of h12) <| tO h13 <| tO (show (Nat.beq (([] ++ (List.take (l_).length l_))).length (([] ++ (List.take (l_).length l_))).length) = true from Nat.beq_refl _) <| tO h14 <| tR q_15 <| tR q_16 <| tR (paper_GetCard_runs l_3 n2 _ h17) <| tR (kinfolkref10_Card_runs N r2 _ h18) <| tR q_19 <| tT h20 <| tO h21 <| tR q_22 <| tR q_22 <| tR q_23 <| tR q_24 <| tT h25 <| tO h26 <| tT h27 <| tT h28 <| tR (card_Same_runs r r5 _ h29) <| tT h30 <| tR q_31 <| tR q_31 <| tR q_31 <| tR q_31 <| tR (card_Same_runs r r3 _ h32) <| tT h33 <| tR (paper_Less_runs r r3 _ h34) <| tR (kinfolkref10_Card_runs N r2 _ h18) <| tR (kinfolkref10_Card_runs N r4 _ h35) <| tR q_36 <| tT h37 <| tR (card_Same_runs r6 r _ h38) <| tT h39 <| tR (card_Same_runs r7 r3 _ h40) <| tT h41 <| tR (wire_In_End_runs l_4 n3 _ h42) <| tN
              exact runs_of (C := cfg) (objs := []) (sc := t_.ev) (.k1 t_.pf (by kernel_rfl) (by kernel_rfl))
             ·cases h
            ·cases h
           ·cases h
          ·cases h
         ·cases h
        ·cases h
       ·cases h
      ·cases h
     ·cases h
   ·obtain ⟨h9, h⟩ := need_of h
    obtain ⟨h10, h⟩ := need_of h
    obtain ⟨l_, h11, h⟩ := bind_of h
    obtain ⟨l_2, h12, h⟩ := bind_of h
    obtain ⟨⟨r5, n⟩, h13, h⟩ := bind_of h
    have q_13 := (Runs.coe (as' := [(.one (.pv (.ints .u8 (List.take (l_).length l_) false)))]) (objs' := []) (rows' := []) (paper_ReadCard_runs l_ _ h13) ⟨.pv (.ints (by first | rfl | (simp only [List.take_length, List.drop_zero, List.map_take, List.nil_append]; done) | (simp; done) | (simp only [E_card_Field.upd, E_kinfolkref09_Field.upd, E_L_card_Field.upd, E_card_Card.upd, E_L_uint8.upd]; done) | (simp [E_card_Field.pv, E_kinfolkref09_Field.pv, E_L_card_Field.pv, E_card_Card.pv, E_L_uint8.pv]; done))), trivial⟩ trivial trivial)
    have p13_ := fun {sc_ : List Ev} {Q_ : Prop} (t_ : Tell sc_ Q_) => tR (kinfolklaw10_awake_runs _ h1) <| tF (not_of2 h2) <| tR (kinfolklaw10_made_runs N l _ h3) <| tR (kinfolklaw10_made_runs N m _ h4) <| tO h5 <| tF (not_of h6) <| tO h7 <| tF (not_of h8) <| tO h9 <| tO (show (Nat.beq (([] ++ (List.take (([] ++ (List.take ((if (20 : Int) < ((front).length : Int) then 20 else ((front).length : Int)) - 0).toNat front))).length ([] ++ (List.take ((if (20 : Int) < ((front).length : Int) then 20 else ((front).length : Int)) - 0).toNat front))))).length (([] ++ (List.take (([] ++ (List.take ((if (20 : Int) < ((front).length : Int) then 20 else ((front).length : Int)) - 0).toNat front))).length ([] ++ (List.take ((if (20 : Int) < ((front).length : Int) then 20 else ((front).length : Int)) - 0).toNat front))))).length) = true from Nat.beq_refl _) <| tO h10 <| tR (paper_Card_runs r _ h11) <| tR (paper_Card_runs r _ h11) <| tR (paper_Card_runs r3 _ h12) <| tR q_13 <| t_
    rcases cond_of h with ⟨h14, h⟩ | ⟨h14, h⟩
    ·obtain ⟨h15, h⟩ := need_of h
     obtain ⟨_, h16, h⟩ := bind_of h
     have q_16 := (Runs.coe (as' := [(.one (.pv (.ints .u8 (List.take (([] ++ (List.take (l_2).length l_2))).length ([] ++ (List.take (l_2).length l_2))) false)))]) (objs' := []) (rows' := []) (wire_Of_runs ([] ++ l_2) _ h16) ⟨.pv (.ints (by first | rfl | (simp only [List.take_length, List.drop_zero, List.map_take, List.nil_append]; done) | (simp; done) | (simp only [E_card_Field.upd, E_kinfolkref09_Field.upd, E_L_card_Field.upd, E_card_Card.upd, E_L_uint8.upd]; done) | (simp [E_card_Field.pv, E_kinfolkref09_Field.pv, E_L_card_Field.pv, E_card_Card.pv, E_L_uint8.pv]; done))), trivial⟩ trivial trivial)
     obtain ⟨⟨r6, l_3, n2⟩, h17, h⟩ := bind_of h
     obtain ⟨⟨r7, l_4, n3⟩, h18, h⟩ := bind_of h
     obtain ⟨l_5, h19, h⟩ := bind_of h
     obtain ⟨b2, h20, h⟩ := bind_of h
     have q_20 := (Runs.coe (as' := [(.one (.pv (.ints .u8 (List.take (l_).length l_) false))), (.one (.pv (.ints .u8 (List.take (l_5).length l_5) false)))]) (objs' := []) (rows' := []) (kinfolkref06_Same_runs l_ l_5 _ h20) ⟨.pv (.ints (by first | rfl | (simp only [List.take_length, List.drop_zero, List.map_take, List.nil_append]; done) | (simp; done) | (simp only [E_card_Field.upd, E_kinfolkref09_Field.upd, E_L_card_Field.upd, E_card_Card.upd, E_L_uint8.upd]; done) | (simp [E_card_Field.pv, E_kinfolkref09_Field.pv, E_L_card_Field.pv, E_card_Card.pv, E_L_uint8.pv]; done))), .pv (.ints (by first | rfl | (simp only [List.take_length, List.drop_zero, List.map_take, List.nil_append]; done) | (simp; done) | (simp only [E_card_Field.upd, E_kinfolkref09_Field.upd, E_L_card_Field.upd, E_card_Card.upd, E_L_uint8.upd]; done) | (simp [E_card_Field.pv, E_kinfolkref09_Field.pv, E_L_card_Field.pv, E_card_Card.pv, E_L_uint8.pv]; done))), trivial⟩ trivial trivial)
     rcases cond_of h with ⟨h21, h⟩ | ⟨h21, h⟩
     ·obtain ⟨h22, h⟩ := need_of h
      obtain ⟨l_6, h23, h⟩ := bind_of h
      have q_23 := (Runs.coe (as' := [(.one (.pv (.ints .u8 (List.take (((([] ++ (List.take ((if (20 : Int) < ((front).length : Int) then 20 else ((front).length : Int)) - 0).toNat front))).length : Int) - 0).toNat (([] ++ (List.take (([] ++ (List.take ((if (20 : Int) < ((front).length : Int) then 20 else ((front).length : Int)) - 0).toNat front))).length ([] ++ (List.take ((if (20 : Int) < ((front).length : Int) then 20 else ((front).length : Int)) - 0).toNat front)))) ++ [90])) false))), (.agg [(.pv (.recs 3 (List.map E_card_Field.pv r) false))])]) (objs' := []) (rows' := []) (paper_PutCard_runs _ _ _ h23) ⟨.pv (.ints (by first | rfl | (simp only [List.take_length, List.drop_zero, List.map_take, List.nil_append]; done) | (simp; done) | (simp only [E_card_Field.upd, E_kinfolkref09_Field.upd, E_L_card_Field.upd, E_card_Card.upd, E_L_uint8.upd]; done) | (simp [E_card_Field.pv, E_kinfolkref09_Field.pv, E_L_card_Field.pv, E_card_Card.pv, E_L_uint8.pv]; done))), ⟨.eq rfl, trivial⟩, trivial⟩ trivial trivial)
      obtain ⟨l_7, h24, h⟩ := bind_of h
      have q_24 := (Runs.coe (as' := [(.one (.pv (.recs 1 [[(.ints .u8 (List.take (([] ++ (List.take ((if (20 : Int) < ((front).length : Int) then 20 else ((front).length : Int)) - 0).toNat front))).length ([] ++ (List.take ((if (20 : Int) < ((front).length : Int) then 20 else ((front).length : Int)) - 0).toNat front))) false)], [(.ints .u8 (List.take (l_).length l_) false)]] true)))]) (objs' := []) (rows' := []) (kinfolkref06_Join_runs [(E_L_uint8.mk ([] ++ (List.take ((if (20 : Int) < ((front).length : Int) then 20 else ((front).length : Int)) - 0).toNat front))), (E_L_uint8.mk l_)] _ h24) ⟨.pv (.recs (.cons (.cons (.ints (by first | rfl | (simp only [List.take_length, List.drop_zero, List.map_take, List.nil_append]; done) | (simp; done) | (simp only [E_card_Field.upd, E_kinfolkref09_Field.upd, E_L_card_Field.upd, E_card_Card.upd, E_L_uint8.upd]; done) | (simp [E_card_Field.pv, E_kinfolkref09_Field.pv, E_L_card_Field.pv, E_card_Card.pv, E_L_uint8.pv]; done))) (.nil)) (.cons (.cons (.ints (by first | rfl | (simp only [List.take_length, List.drop_zero, List.map_take, List.nil_append]; done) | (simp; done) | (simp only [E_card_Field.upd, E_kinfolkref09_Field.upd, E_L_card_Field.upd, E_card_Card.upd, E_L_uint8.upd]; done) | (simp [E_card_Field.pv, E_kinfolkref09_Field.pv, E_L_card_Field.pv, E_card_Card.pv, E_L_uint8.pv]; done))) (.nil)) (.nil)))), trivial⟩ trivial trivial)
      obtain ⟨b3, h25, h⟩ := bind_of h
      have q_25 := (Runs.coe (as' := [(.one (.pv (.ints .u8 (List.take (l_6).length l_6) false))), (.one (.pv (.ints .u8 (List.take (l_7).length l_7) false)))]) (objs' := []) (rows' := []) (kinfolkref06_Same_runs l_6 l_7 _ h25) ⟨.pv (.ints (by first | rfl | (simp only [List.take_length, List.drop_zero, List.map_take, List.nil_append]; done) | (simp; done) | (simp only [E_card_Field.upd, E_kinfolkref09_Field.upd, E_L_card_Field.upd, E_card_Card.upd, E_L_uint8.upd]; done) | (simp [E_card_Field.pv, E_kinfolkref09_Field.pv, E_L_card_Field.pv, E_card_Card.pv, E_L_uint8.pv]; done))), .pv (.ints (by first | rfl | (simp only [List.take_length, List.drop_zero, List.map_take, List.nil_append]; done) | (simp; done) | (simp only [E_card_Field.upd, E_kinfolkref09_Field.upd, E_L_card_Field.upd, E_card_Card.upd, E_L_uint8.upd]; done) | (simp [E_card_Field.pv, E_kinfolkref09_Field.pv, E_L_card_Field.pv, E_card_Card.pv, E_L_uint8.pv]; done))), trivial⟩ trivial trivial)
      rcases cond_of h with ⟨h26, h⟩ | ⟨h26, h⟩
      ·obtain ⟨h27, h⟩ := need_of h
       rcases cond_of h with ⟨h28, h⟩ | ⟨h28, h⟩
       ·rcases cond_of h with ⟨h29, h⟩ | ⟨h29, h⟩
        ·obtain ⟨b4, h30, h⟩ := bind_of h
         rcases cond_of h with ⟨h31, h⟩ | ⟨h31, h⟩
         ·obtain ⟨b5, h32, h⟩ := bind_of h
          have q_32 := (Runs.coe (as' := [(.one (.pv (.ints .u8 (List.take (l_).length l_) false))), (.one (.pv (.ints .u8 (List.take (l_2).length l_2) false)))]) (objs' := []) (rows' := []) (kinfolkref06_Same_runs l_ l_2 _ h32) ⟨.pv (.ints (by first | rfl | (simp only [List.take_length, List.drop_zero, List.map_take, List.nil_append]; done) | (simp; done) | (simp only [E_card_Field.upd, E_kinfolkref09_Field.upd, E_L_card_Field.upd, E_card_Card.upd, E_L_uint8.upd]; done) | (simp [E_card_Field.pv, E_kinfolkref09_Field.pv, E_L_card_Field.pv, E_card_Card.pv, E_L_uint8.pv]; done))), .pv (.ints (by first | rfl | (simp only [List.take_length, List.drop_zero, List.map_take, List.nil_append]; done) | (simp; done) | (simp only [E_card_Field.upd, E_kinfolkref09_Field.upd, E_L_card_Field.upd, E_card_Card.upd, E_L_uint8.upd]; done) | (simp [E_card_Field.pv, E_kinfolkref09_Field.pv, E_L_card_Field.pv, E_card_Card.pv, E_L_uint8.pv]; done))), trivial⟩ trivial trivial)
          obtain ⟨b6, h33, h⟩ := bind_of h
          rcases cond_of h with ⟨h34, h⟩ | ⟨h34, h⟩
          ·obtain ⟨b7, h35, h⟩ := bind_of h
           obtain ⟨l_8, h36, h⟩ := bind_of h
           obtain ⟨b8, h37, h⟩ := bind_of h
           have q_37 := (Runs.coe (as' := [(.one (.pv (.ints .u8 (List.take (l_5).length l_5) false))), (.one (.pv (.ints .u8 (List.take (l_8).length l_8) false)))]) (objs' := []) (rows' := []) (kinfolkref10_Less_runs l_5 l_8 _ h37) ⟨.pv (.ints (by first | rfl | (simp only [List.take_length, List.drop_zero, List.map_take, List.nil_append]; done) | (simp; done) | (simp only [E_card_Field.upd, E_kinfolkref09_Field.upd, E_L_card_Field.upd, E_card_Card.upd, E_L_uint8.upd]; done) | (simp [E_card_Field.pv, E_kinfolkref09_Field.pv, E_L_card_Field.pv, E_card_Card.pv, E_L_uint8.pv]; done))), .pv (.ints (by first | rfl | (simp only [List.take_length, List.drop_zero, List.map_take, List.nil_append]; done) | (simp; done) | (simp only [E_card_Field.upd, E_kinfolkref09_Field.upd, E_L_card_Field.upd, E_card_Card.upd, E_L_uint8.upd]; done) | (simp [E_card_Field.pv, E_kinfolkref09_Field.pv, E_L_card_Field.pv, E_card_Card.pv, E_L_uint8.pv]; done))), trivial⟩ trivial trivial)
           rcases cond_of h with ⟨h38, h⟩ | ⟨h38, h⟩
           ·obtain ⟨b9, h39, h⟩ := bind_of h
            rcases cond_of h with ⟨h40, h⟩ | ⟨h40, h⟩
            ·obtain ⟨b10, h41, h⟩ := bind_of h
             rcases cond_of h with ⟨h42, h⟩ | ⟨h42, h⟩
             ·obtain ⟨⟨n4, n5⟩, h43, h⟩ := bind_of h
              have h := some_of h
              subst h
              have t_ := p13_ <| tT h14 <| tO (rfl : true = true) <| tO h15 <| tR q_16 <| tR (paper_GetCard_runs ([] ++ l_2) 0 _ h17) <| tR (paper_GetCard_runs l_3 n2 _ h18) <| tR (kinfolkref10_Card_runs N r2 _ h19) <| tR q_20 <| tT h21 <| tO h22 <| tR q_23 <| tR q_23 <| tR q_24 <| tR q_25 <| tT h26 <| tO h27 <| tT h28 <| tT h29 <| tR (card_Same_runs r r5 _ h30) <| tT h31 <| tR q_32 <| tR q_32 <| tR q_32 <| tR q_32 <| tR (card_Same_runs r r3 _ h33) <| tT h34 <| tR (paper_Less_runs r r3 _ h35) <| tR (kinfolkref10_Card_runs N r2 _ h19) <| tR (kinfolkref10_Card_runs N r4 _ h36) <| tR q_37 <| tT h38 <| tR (card_Same_runs r6 r _ h39) <| tT h40 <| tR (card_Same_runs r7 r3 _ h41) <| tT h42 <| tR (wire_In_End_runs l_4 n3 _ h43) <| tN
              exact runs_of (C := cfg) (objs := []) (sc := t_.ev) (.k1 t_.pf (by kernel_rfl) (by kernel_rfl))
             ·cases h
            ·cases h
           ·cases h
          ·cases h
         ·cases h
        ·cases h
       ·cases h
      ·cases h
     ·cases h
    ·obtain ⟨h15, h⟩ := need_of h
     obtain ⟨h16, h⟩ := need_of h
     obtain ⟨_, h17, h⟩ := bind_of h
     have q_17 := (Runs.coe (as' := [(.one (.pv (.ints .u8 (List.take ((([] ++ (List.take (l_).length l_)) ++ (List.take (l_2).length l_2))).length (([] ++ (List.take (l_).length l_)) ++ (List.take (l_2).length l_2))) false)))]) (objs' := []) (rows' := []) (wire_Of_runs (([] ++ l_) ++ l_2) _ h17) ⟨.pv (.ints (by first | rfl | (simp only [List.take_length, List.drop_zero, List.map_take, List.nil_append]; done) | (simp; done) | (simp only [E_card_Field.upd, E_kinfolkref09_Field.upd, E_L_card_Field.upd, E_card_Card.upd, E_L_uint8.upd]; done) | (simp [E_card_Field.pv, E_kinfolkref09_Field.pv, E_L_card_Field.pv, E_card_Card.pv, E_L_uint8.pv]; done))), trivial⟩ trivial trivial)
     obtain ⟨⟨r6, l_3, n2⟩, h18, h⟩ := bind_of h
     have q_18 := (paper_GetCard_runs (([] ++ l_) ++ l_2) 0 _ h18)
     obtain ⟨⟨r7, l_4, n3⟩, h19, h⟩ := bind_of h
     obtain ⟨l_5, h20, h⟩ := bind_of h
     obtain ⟨b2, h21, h⟩ := bind_of h
     have q_21 := (Runs.coe (as' := [(.one (.pv (.ints .u8 (List.take (l_).length l_) false))), (.one (.pv (.ints .u8 (List.take (l_5).length l_5) false)))]) (objs' := []) (rows' := []) (kinfolkref06_Same_runs l_ l_5 _ h21) ⟨.pv (.ints (by first | rfl | (simp only [List.take_length, List.drop_zero, List.map_take, List.nil_append]; done) | (simp; done) | (simp only [E_card_Field.upd, E_kinfolkref09_Field.upd, E_L_card_Field.upd, E_card_Card.upd, E_L_uint8.upd]; done) | (simp [E_card_Field.pv, E_kinfolkref09_Field.pv, E_L_card_Field.pv, E_card_Card.pv, E_L_uint8.pv]; done))), .pv (.ints (by first | rfl | (simp only [List.take_length, List.drop_zero, List.map_take, List.nil_append]; done) | (simp; done) | (simp only [E_card_Field.upd, E_kinfolkref09_Field.upd, E_L_card_Field.upd, E_card_Card.upd, E_L_uint8.upd]; done) | (simp [E_card_Field.pv, E_kinfolkref09_Field.pv, E_L_card_Field.pv, E_card_Card.pv, E_L_uint8.pv]; done))), trivial⟩ trivial trivial)
     rcases cond_of h with ⟨h22, h⟩ | ⟨h22, h⟩
     ·obtain ⟨h23, h⟩ := need_of h
      obtain ⟨l_6, h24, h⟩ := bind_of h
      have q_24 := (Runs.coe (as' := [(.one (.pv (.ints .u8 (List.take (((([] ++ (List.take ((if (20 : Int) < ((front).length : Int) then 20 else ((front).length : Int)) - 0).toNat front))).length : Int) - 0).toNat (([] ++ (List.take (([] ++ (List.take ((if (20 : Int) < ((front).length : Int) then 20 else ((front).length : Int)) - 0).toNat front))).length ([] ++ (List.take ((if (20 : Int) < ((front).length : Int) then 20 else ((front).length : Int)) - 0).toNat front)))) ++ [90])) false))), (.agg [(.pv (.recs 3 (List.map E_card_Field.pv r) false))])]) (objs' := []) (rows' := []) (paper_PutCard_runs _ _ _ h24) ⟨.pv (.ints (by first | rfl | (simp only [List.take_length, List.drop_zero, List.map_take, List.nil_append]; done) | (simp; done) | (simp only [E_card_Field.upd, E_kinfolkref09_Field.upd, E_L_card_Field.upd, E_card_Card.upd, E_L_uint8.upd]; done) | (simp [E_card_Field.pv, E_kinfolkref09_Field.pv, E_L_card_Field.pv, E_card_Card.pv, E_L_uint8.pv]; done))), ⟨.eq rfl, trivial⟩, trivial⟩ trivial trivial)
      obtain ⟨l_7, h25, h⟩ := bind_of h
      have q_25 := (Runs.coe (as' := [(.one (.pv (.recs 1 [[(.ints .u8 (List.take (([] ++ (List.take ((if (20 : Int) < ((front).length : Int) then 20 else ((front).length : Int)) - 0).toNat front))).length ([] ++ (List.take ((if (20 : Int) < ((front).length : Int) then 20 else ((front).length : Int)) - 0).toNat front))) false)], [(.ints .u8 (List.take (l_).length l_) false)]] true)))]) (objs' := []) (rows' := []) (kinfolkref06_Join_runs [(E_L_uint8.mk ([] ++ (List.take ((if (20 : Int) < ((front).length : Int) then 20 else ((front).length : Int)) - 0).toNat front))), (E_L_uint8.mk l_)] _ h25) ⟨.pv (.recs (.cons (.cons (.ints (by first | rfl | (simp only [List.take_length, List.drop_zero, List.map_take, List.nil_append]; done) | (simp; done) | (simp only [E_card_Field.upd, E_kinfolkref09_Field.upd, E_L_card_Field.upd, E_card_Card.upd, E_L_uint8.upd]; done) | (simp [E_card_Field.pv, E_kinfolkref09_Field.pv, E_L_card_Field.pv, E_card_Card.pv, E_L_uint8.pv]; done))) (.nil)) (.cons (.cons (.ints (by first | rfl | (simp only [List.take_length, List.drop_zero, List.map_take, List.nil_append]; done) | (simp; done) | (simp only [E_card_Field.upd, E_kinfolkref09_Field.upd, E_L_card_Field.upd, E_card_Card.upd, E_L_uint8.upd]; done) | (simp [E_card_Field.pv, E_kinfolkref09_Field.pv, E_L_card_Field.pv, E_card_Card.pv, E_L_uint8.pv]; done))) (.nil)) (.nil)))), trivial⟩ trivial trivial)
      obtain ⟨b3, h26, h⟩ := bind_of h
      have q_26 := (Runs.coe (as' := [(.one (.pv (.ints .u8 (List.take (l_6).length l_6) false))), (.one (.pv (.ints .u8 (List.take (l_7).length l_7) false)))]) (objs' := []) (rows' := []) (kinfolkref06_Same_runs l_6 l_7 _ h26) ⟨.pv (.ints (by first | rfl | (simp only [List.take_length, List.drop_zero, List.map_take, List.nil_append]; done) | (simp; done) | (simp only [E_card_Field.upd, E_kinfolkref09_Field.upd, E_L_card_Field.upd, E_card_Card.upd, E_L_uint8.upd]; done) | (simp [E_card_Field.pv, E_kinfolkref09_Field.pv, E_L_card_Field.pv, E_card_Card.pv, E_L_uint8.pv]; done))), .pv (.ints (by first | rfl | (simp only [List.take_length, List.drop_zero, List.map_take, List.nil_append]; done) | (simp; done) | (simp only [E_card_Field.upd, E_kinfolkref09_Field.upd, E_L_card_Field.upd, E_card_Card.upd, E_L_uint8.upd]; done) | (simp [E_card_Field.pv, E_kinfolkref09_Field.pv, E_L_card_Field.pv, E_card_Card.pv, E_L_uint8.pv]; done))), trivial⟩ trivial trivial)
      rcases cond_of h with ⟨h27, h⟩ | ⟨h27, h⟩
      ·obtain ⟨h28, h⟩ := need_of h
       rcases cond_of h with ⟨h29, h⟩ | ⟨h29, h⟩
       ·rcases cond_of h with ⟨h30, h⟩ | ⟨h30, h⟩
        ·obtain ⟨b4, h31, h⟩ := bind_of h
         rcases cond_of h with ⟨h32, h⟩ | ⟨h32, h⟩
         ·obtain ⟨b5, h33, h⟩ := bind_of h
          have q_33 := (Runs.coe (as' := [(.one (.pv (.ints .u8 (List.take (l_).length l_) false))), (.one (.pv (.ints .u8 (List.take (l_2).length l_2) false)))]) (objs' := []) (rows' := []) (kinfolkref06_Same_runs l_ l_2 _ h33) ⟨.pv (.ints (by first | rfl | (simp only [List.take_length, List.drop_zero, List.map_take, List.nil_append]; done) | (simp; done) | (simp only [E_card_Field.upd, E_kinfolkref09_Field.upd, E_L_card_Field.upd, E_card_Card.upd, E_L_uint8.upd]; done) | (simp [E_card_Field.pv, E_kinfolkref09_Field.pv, E_L_card_Field.pv, E_card_Card.pv, E_L_uint8.pv]; done))), .pv (.ints (by first | rfl | (simp only [List.take_length, List.drop_zero, List.map_take, List.nil_append]; done) | (simp; done) | (simp only [E_card_Field.upd, E_kinfolkref09_Field.upd, E_L_card_Field.upd, E_card_Card.upd, E_L_uint8.upd]; done) | (simp [E_card_Field.pv, E_kinfolkref09_Field.pv, E_L_card_Field.pv, E_card_Card.pv, E_L_uint8.pv]; done))), trivial⟩ trivial trivial)
          obtain ⟨b6, h34, h⟩ := bind_of h
          rcases cond_of h with ⟨h35, h⟩ | ⟨h35, h⟩
          ·obtain ⟨b7, h36, h⟩ := bind_of h
           obtain ⟨l_8, h37, h⟩ := bind_of h
           obtain ⟨b8, h38, h⟩ := bind_of h
           have q_38 := (Runs.coe (as' := [(.one (.pv (.ints .u8 (List.take (l_5).length l_5) false))), (.one (.pv (.ints .u8 (List.take (l_8).length l_8) false)))]) (objs' := []) (rows' := []) (kinfolkref10_Less_runs l_5 l_8 _ h38) ⟨.pv (.ints (by first | rfl | (simp only [List.take_length, List.drop_zero, List.map_take, List.nil_append]; done) | (simp; done) | (simp only [E_card_Field.upd, E_kinfolkref09_Field.upd, E_L_card_Field.upd, E_card_Card.upd, E_L_uint8.upd]; done) | (simp [E_card_Field.pv, E_kinfolkref09_Field.pv, E_L_card_Field.pv, E_card_Card.pv, E_L_uint8.pv]; done))), .pv (.ints (by first | rfl | (simp only [List.take_length, List.drop_zero, List.map_take, List.nil_append]; done) | (simp; done) | (simp only [E_card_Field.upd, E_kinfolkref09_Field.upd, E_L_card_Field.upd, E_card_Card.upd, E_L_uint8.upd]; done) | (simp [E_card_Field.pv, E_kinfolkref09_Field.pv, E_L_card_Field.pv, E_card_Card.pv, E_L_uint8.pv]; done))), trivial⟩ trivial trivial)
           rcases cond_of h with ⟨h39, h⟩ | ⟨h39, h⟩
           ·obtain ⟨b9, h40, h⟩ := bind_of h
            rcases cond_of h with ⟨h41, h⟩ | ⟨h41, h⟩
            ·obtain ⟨b10, h42, h⟩ := bind_of h
             rcases cond_of h with ⟨h43, h⟩ | ⟨h43, h⟩
             ·obtain ⟨⟨n4, n5⟩, h44, h⟩ := bind_of h
              have h := some_of h
              subst h
              have t_ := p13_ <| tF (not_of h14) <| tO h15 <| tO (show (Nat.beq (([] ++ (List.take (l_).length l_))).length (([] ++ (List.take (l_).length l_))).length) = true from Nat.beq_refl _) <| tO h16 <| tR q_17 <| tR q_18 <| tR (paper_GetCard_runs l_3 n2 _ h19) <| tR (kinfolkref10_Card_runs N r2 _ h20) <| tR q_21 <| tT h22 <| tO h23 <| tR q_24 <| tR q_24 <| tR q_25 <| tR q_26 <| tT h27 <| tO h28 <| tT h29 <| tT h30 <| tR (card_Same_runs r r5 _ h31) <| tT h32 <| tR q_33 <| tR q_33 <| tR q_33 <| tR q_33 <| tR (card_Same_runs r r3 _ h34) <| tT h35 <| tR (paper_Less_runs r r3 _ h36) <| tR (kinfolkref10_Card_runs N r2 _ h20) <| tR (kinfolkref10_Card_runs N r4 _ h37) <| tR q_38 <| tT h39 <| tR (card_Same_runs r6 r _ h40) <| tT h41 <| tR (card_Same_runs r7 r3 _ h42) <| tT h43 <| tR (wire_In_End_runs l_4 n3 _ h44) <| tN
              exact runs_of (C := cfg) (objs := []) (sc := t_.ev) (.k1 t_.pf (by kernel_rfl) (by kernel_rfl))
             ·cases h
            ·cases h
           ·cases h
          ·cases h
         ·cases h
        ·cases h
       ·cases h
      ·cases h
     ·cases h
 ·cases h
end Go.Proofs.YteiikkpajcggfaaGreatDoor
