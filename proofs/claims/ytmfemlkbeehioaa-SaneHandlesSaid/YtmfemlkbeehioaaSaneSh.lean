import Derived.Test.YtmfemlkbeehioaaLib5
import Derived.KernelRfl
open Go Go.Ab
set_option linter.unusedVariables false
set_option maxRecDepth 20000
namespace Sx
abbrev DA := List (Int × Int)
abbrev DB := List (Int × Int × Int)
abbrev DC := List Int
abbrev DD := List ByteArray
abbrev DE := List (Int)
abbrev DF := List (ByteArray)
abbrev DG := List DA
abbrev DH := List (DA × Int × Int × DA × DB)
abbrev DI := List (DA × Int × Int)
abbrev DJ := List DC
noncomputable def ref01Light_B0 (n : Nat) (t3 : Int) (t4 : Int) (m0 : DG) (m0_1 : DH) (m0_2 : DI) (m0_3 : DC) (m0_4 : DD) : Option (((Int × Int) × DG × DH × DI × DC × DD) ⊕ (Int × DG × DH × DI × DC × DD)) :=
  bif (decide (t4 < (lenI m0))) then
    (getI m0 t4).bind fun x0 =>
    some (Sum.inl (((addI .i64 t3 (lenI x0)), (addI .i64 t4 1)), (m0, (m0_1, (m0_2, (m0_3, m0_4))))))
  else
    some (Sum.inr (t3, (m0, (m0_1, (m0_2, (m0_3, m0_4))))))
noncomputable def ref01Light_W0 (n : Nat) (s : (Int × Int) × DG × DH × DI × DC × DD) : Option (Int × DG × DH × DI × DC × DD) := loopS (fun s => ref01Light_B0 n s.1.1 s.1.2 s.2.1 s.2.2.1 s.2.2.2.1 s.2.2.2.2.1 s.2.2.2.2.2) n s
noncomputable def ref01Light_B2 (n : Nat) (t3 : Int) (t5 : Int) (m0 : DG) (m0_1 : DH) (m0_2 : DI) (m0_3 : DC) (m0_4 : DD) : Option (((Int × Int) × DG × DH × DI × DC × DD) ⊕ (Int × DG × DH × DI × DC × DD)) :=
  bif (decide (t5 < (lenI m0_1))) then
    (getI m0_1 t5).bind fun x2 =>
    (getI m0_1 t5).bind fun x3 =>
    (getI m0_1 t5).bind fun x4 =>
    some (Sum.inl (((addI .i64 (addI .i64 (addI .i64 t3 (lenI x2.1)) (lenI x3.2.2.2.1)) (lenI x4.2.2.2.2)), (addI .i64 t5 1)), (m0, (m0_1, (m0_2, (m0_3, m0_4))))))
  else
    some (Sum.inr (t3, (m0, (m0_1, (m0_2, (m0_3, m0_4))))))
noncomputable def ref01Light_W2 (n : Nat) (s : (Int × Int) × DG × DH × DI × DC × DD) : Option (Int × DG × DH × DI × DC × DD) := loopS (fun s => ref01Light_B2 n s.1.1 s.1.2 s.2.1 s.2.2.1 s.2.2.2.1 s.2.2.2.2.1 s.2.2.2.2.2) n s
noncomputable def ref01Light_B4 (n : Nat) (t3 : Int) (t6 : Int) (m0 : DG) (m0_1 : DH) (m0_2 : DI) (m0_3 : DC) (m0_4 : DD) : Option (((Int × Int) × DG × DH × DI × DC × DD) ⊕ (Int × DG × DH × DI × DC × DD)) :=
  bif (decide (t6 < (lenI m0_2))) then
    (getI m0_2 t6).bind fun x7 =>
    some (Sum.inl (((addI .i64 t3 (lenI x7.1)), (addI .i64 t6 1)), (m0, (m0_1, (m0_2, (m0_3, m0_4))))))
  else
    some (Sum.inr (t3, (m0, (m0_1, (m0_2, (m0_3, m0_4))))))
noncomputable def ref01Light_W4 (n : Nat) (s : (Int × Int) × DG × DH × DI × DC × DD) : Option (Int × DG × DH × DI × DC × DD) := loopS (fun s => ref01Light_B4 n s.1.1 s.1.2 s.2.1 s.2.2.1 s.2.2.2.1 s.2.2.2.2.1 s.2.2.2.2.2) n s
noncomputable def ref01Light_B6 (n : Nat) (t3 : Int) (t7 : Int) (m0 : DG) (m0_1 : DH) (m0_2 : DI) (m0_3 : DC) (m0_4 : DD) : Option (((Int × Int) × DG × DH × DI × DC × DD) ⊕ (Int × DG × DH × DI × DC × DD)) :=
  bif (decide (t7 < (lenI m0_4))) then
    (getI m0_4 t7).bind fun x11 =>
    some (Sum.inl (((addI .i64 t3 (lenS x11)), (addI .i64 t7 1)), (m0, (m0_1, (m0_2, (m0_3, m0_4))))))
  else
    some (Sum.inr (t3, (m0, (m0_1, (m0_2, (m0_3, m0_4))))))
noncomputable def ref01Light_W6 (n : Nat) (s : (Int × Int) × DG × DH × DI × DC × DD) : Option (Int × DG × DH × DI × DC × DD) := loopS (fun s => ref01Light_B6 n s.1.1 s.1.2 s.2.1 s.2.2.1 s.2.2.2.1 s.2.2.2.2.1 s.2.2.2.2.2) n s
noncomputable def ref01Light (n : Nat) (t0 : DG) (t0_1 : DH) (t0_2 : DI) (t0_3 : DC) (t0_4 : DD) : Option (Bool) :=
  bif (decide ((addI .i64 (addI .i64 (addI .i64 (addI .i64 (lenI t0) (lenI t0_1)) (lenI t0_2)) (lenI t0_3)) (lenI t0_4)) > 200)) then
    some false
  else
    (ref01Light_W0 n (((addI .i64 (addI .i64 (addI .i64 (addI .i64 (lenI t0) (lenI t0_1)) (lenI t0_2)) (lenI t0_3)) (lenI t0_4)), 0), (t0, (t0_1, (t0_2, (t0_3, t0_4)))))).bind fun r12 =>
    (ref01Light_W2 n ((r12.1, 0), (r12.2.1, (r12.2.2.1, (r12.2.2.2.1, (r12.2.2.2.2.1, r12.2.2.2.2.2)))))).bind fun r13 =>
    (ref01Light_W4 n ((r13.1, 0), (r13.2.1, (r13.2.2.1, (r13.2.2.2.1, (r13.2.2.2.2.1, r13.2.2.2.2.2)))))).bind fun r14 =>
    (ref01Light_W6 n ((r14.1, 0), (r14.2.1, (r14.2.2.1, (r14.2.2.2.1, (r14.2.2.2.2.1, r14.2.2.2.2.2)))))).bind fun r15 =>
    some (decide (r15.1 < 3000))
noncomputable def kindGood (n : Nat) (t_0 : Int) (t_0_1 : Int) (recs_1 : Int) : Option (Bool) :=
  bif (t_0 == 1) then
    some (t_0_1 == 0)
  else
    bif (t_0 == 2) then
      some (t_0_1 == 0)
    else
      bif (t_0 == 3) then
        some (t_0_1 == 0)
      else
        bif (t_0 == 7) then
          some (t_0_1 == 0)
        else
          bif (t_0 == 4) then
            bif (decide (t_0_1 ≥ 0)) then
              some (decide (t_0_1 < recs_1))
            else
              some false
          else
            bif (t_0 == 5) then
              bif (decide (t_0_1 ≥ 0)) then
                some (decide (t_0_1 < 4))
              else
                some false
            else
              some false
noncomputable def moduleGood1 (n : Nat) (t_0 : Int) (t_0_1 : Int) (m0 : Int) : Option (Bool × Int) :=
  (kindGood n t_0 t_0_1 m0).bind fun r19 =>
  some ((!r19), m0)
noncomputable def IndexFuncType_B0 (n : Nat) (s_0 : DA) (t7 : Int) (t8 : Int) (m0 : Int) : Option (((DA × Int × Int) × Int) ⊕ ((Int × Int) ⊕ (Int))) :=
  bif (decide (t8 < t7)) then
    (getI s_0 t8).bind fun x20 =>
    (moduleGood1 n x20.1 x20.2 m0).bind fun r21 =>
    bif r21.1 then
      some (Sum.inr (Sum.inl (t8, r21.2)))
    else
      some (Sum.inl ((s_0, (t7, (addI .i64 t8 1))), r21.2))
  else
    some (Sum.inr (Sum.inr m0))
noncomputable def IndexFuncType_W0 (n : Nat) (s : (DA × Int × Int) × Int) : Option ((Int × Int) ⊕ (Int)) := loopS (fun s => IndexFuncType_B0 n s.1.1 s.1.2.1 s.1.2.2 s.2) n s
noncomputable def IndexFuncType (n : Nat) (s_0 : DA) (m0 : Int) : Option (Int × Int) :=
  (IndexFuncType_W0 n ((s_0, ((lenI s_0), 0)), m0)).bind fun r22 =>
  Sum.rec (fun u23 =>
    some (u23.1, u23.2)) (fun v24 =>
    some ((-1), v24)) r22
noncomputable def ContainsFuncType (n : Nat) (s_0 : DA) (m0 : Int) : Option (Bool × Int) :=
  (IndexFuncType n s_0 m0).bind fun r25 =>
  some ((decide (r25.1 ≥ 0)), r25.2)
noncomputable def moduleGood (n : Nat) (list_0 : DA) (recs_1 : Int) (most_2 : Int) : Option (Bool) :=
  bif (decide ((lenI list_0) ≤ most_2)) then
    (ContainsFuncType n list_0 recs_1).bind fun r26 =>
    some (!r26.1)
  else
    some false
noncomputable def moduleFits1 (n : Nat) (l_0 : DA) (m0 : Int) : Option (Bool × Int) :=
  (moduleGood n l_0 m0 6).bind fun r27 =>
  some ((!r27), m0)
noncomputable def IndexFuncTypeq1_B0 (n : Nat) (s_0 : DG) (t7 : Int) (t8 : Int) (m0 : Int) : Option (((DG × Int × Int) × Int) ⊕ ((Int × Int) ⊕ (Int))) :=
  bif (decide (t8 < t7)) then
    (getI s_0 t8).bind fun x28 =>
    (moduleFits1 n x28 m0).bind fun r29 =>
    bif r29.1 then
      some (Sum.inr (Sum.inl (t8, r29.2)))
    else
      some (Sum.inl ((s_0, (t7, (addI .i64 t8 1))), r29.2))
  else
    some (Sum.inr (Sum.inr m0))
noncomputable def IndexFuncTypeq1_W0 (n : Nat) (s : (DG × Int × Int) × Int) : Option ((Int × Int) ⊕ (Int)) := loopS (fun s => IndexFuncTypeq1_B0 n s.1.1 s.1.2.1 s.1.2.2 s.2) n s
noncomputable def IndexFuncTypeq1 (n : Nat) (s_0 : DG) (m0 : Int) : Option (Int × Int) :=
  (IndexFuncTypeq1_W0 n ((s_0, ((lenI s_0), 0)), m0)).bind fun r30 =>
  Sum.rec (fun u31 =>
    some (u31.1, u31.2)) (fun v32 =>
    some ((-1), v32)) r30
noncomputable def ContainsFuncTypeq1 (n : Nat) (s_0 : DG) (m0 : Int) : Option (Bool × Int) :=
  (IndexFuncTypeq1 n s_0 m0).bind fun r33 =>
  some ((decide (r33.1 ≥ 0)), r33.2)
noncomputable def instArgs (n : Nat) (op_0 : Int) : Option (Int) :=
  bif (op_0 == 29) then
    some 2
  else
    bif (op_0 == 30) then
      some 2
    else
      bif (op_0 == 0) then
        some 1
      else
        bif (op_0 == 1) then
          some 1
        else
          bif (op_0 == 3) then
            some 1
          else
            bif (op_0 == 4) then
              some 1
            else
              bif (op_0 == 23) then
                some 1
              else
                bif (op_0 == 24) then
                  some 1
                else
                  bif (op_0 == 25) then
                    some 1
                  else
                    bif (op_0 == 27) then
                      some 1
                    else
                      bif (op_0 == 28) then
                        some 1
                      else
                        bif (decide (op_0 < 0)) then
                          some (-1)
                        else
                          bif (decide (op_0 ≥ 42)) then
                            some (-1)
                          else
                            some 0
noncomputable def instMay (n : Nat) (n_0 : Int) (has_1 : Bool) : Option (Bool) :=
  bif (decide (n_0 ≥ 0)) then
    bif (decide (n_0 ≤ 255)) then
      bif has_1 then
        some true
      else
        some (n_0 == 0)
    else
      some false
  else
    some false
noncomputable def numVar_B0 (n : Nat) (v_0 : Int) (m0 : DC) : Option ((Int × DC) ⊕ (Int × DC)) :=
  bif (decide (v_0 ≥ 128)) then
    bif (Nat.ble (List.length (m0 ++ ((orI .u8 (cvtI .u8 v_0) 128) :: ([] : DE)))) 4294967296) then
      some (Sum.inl ((shrI .u64 v_0 7), (m0 ++ ((orI .u8 (cvtI .u8 v_0) 128) :: ([] : DE)))))
    else none
  else
    some (Sum.inr (v_0, m0))
noncomputable def numVar_W0 (n : Nat) (s : Int × DC) : Option (Int × DC) := loopS (fun s => numVar_B0 n s.1 s.2) n s
noncomputable def numVar (n : Nat) (v_0 : Int) : Option DC :=
  (numVar_W0 n (v_0, ([] : DE))).bind fun r45 =>
  bif (Nat.ble (List.length (r45.2 ++ ((cvtI .u8 r45.1) :: ([] : DE)))) 4294967296) then
    some (r45.2 ++ ((cvtI .u8 r45.1) :: ([] : DE)))
  else none
noncomputable def instPut_B0 (n : Nat) (t39 : Nat × Nat) (t40 : Int) (t41 : Int) (m0 : DC) (m1 : Int) (m1_1 : Int) : Option ((((Nat × Nat) × Int × Int) × DC × Int × Int) ⊕ (DC × Int × Int)) :=
  bif (decide (t41 < t40)) then
    bif ((decide (0 ≤ t41)) && (decide (t41 < ((t39.2 : Nat) : Int)))) then
      bif (Nat.beq (((t39.1 + (Int.toNat t41)) * 1) + 0) 0) then
        (numVar n (cvtI .u64 m1)).bind fun r46 =>
        bif (Nat.ble (List.length (m0 ++ r46)) 4294967296) then
          some (Sum.inl (((t39.1, t39.2), (t40, (addI .i64 t41 1))), ((m0 ++ r46), (m1, m1_1))))
        else none
      else
        bif (Nat.beq (((t39.1 + (Int.toNat t41)) * 1) + 0) 1) then
          (numVar n (cvtI .u64 m1_1)).bind fun r47 =>
          bif (Nat.ble (List.length (m0 ++ r47)) 4294967296) then
            some (Sum.inl (((t39.1, t39.2), (t40, (addI .i64 t41 1))), ((m0 ++ r47), (m1, m1_1))))
          else none
        else none
    else none
  else
    some (Sum.inr (m0, (m1, m1_1)))
noncomputable def instPut_W0 (n : Nat) (s : ((Nat × Nat) × Int × Int) × DC × Int × Int) : Option (DC × Int × Int) := loopS (fun s => instPut_B0 n s.1.1 s.1.2.1 s.1.2.2 s.2.1 s.2.2.1 s.2.2.2) n s
noncomputable def instPut (n : Nat) (i_0 : Int) (i_0_1 : Int) (i_0_2 : Int) : Option DC :=
  (instArgs n i_0).bind fun r48 =>
  bif (decide (r48 < 0)) then
    some ([] : DE)
  else
    (instMay n i_0_1 (decide (r48 > 0))).bind fun r49 =>
    bif (!r49) then
      some ([] : DE)
    else
      (instMay n i_0_2 (decide (r48 > 1))).bind fun r50 =>
      bif (!r50) then
        some ([] : DE)
      else
        bif ((decide (0 ≤ r48)) && (decide (r48 ≤ 2))) then
          (instPut_W0 n (((0, ((Int.toNat r48) - 0)), (((((Int.toNat r48) - 0) : Nat) : Int), 0)), (((cvtI .u8 i_0) :: ([] : DE)), (i_0_1, i_0_2)))).bind fun r51 =>
          some r51.1
        else none
noncomputable def moduleFitFunc1 (n : Nat) (i_0 : Int) (i_0_1 : Int) (i_0_2 : Int) : Option (Bool) :=
  (instPut n i_0 i_0_1 i_0_2).bind fun r52 =>
  some ((lenI r52) == 0)
noncomputable def IndexFuncInstr_B0 (n : Nat) (s_0 : DB) (t7 : Int) (t8 : Int) : Option ((DB × Int × Int) ⊕ ((Int) ⊕ (Unit))) :=
  bif (decide (t8 < t7)) then
    (getI s_0 t8).bind fun x53 =>
    (moduleFitFunc1 n x53.1 x53.2.1 x53.2.2).bind fun r54 =>
    bif r54 then
      some (Sum.inr (Sum.inl t8))
    else
      some (Sum.inl (s_0, (t7, (addI .i64 t8 1))))
  else
    some (Sum.inr (Sum.inr ()))
noncomputable def IndexFuncInstr_W0 (n : Nat) (s : DB × Int × Int) : Option ((Int) ⊕ (Unit)) := loopS (fun s => IndexFuncInstr_B0 n s.1 s.2.1 s.2.2) n s
noncomputable def IndexFuncInstr (n : Nat) (s_0 : DB) : Option (Int) :=
  (IndexFuncInstr_W0 n (s_0, ((lenI s_0), 0))).bind fun r55 =>
  Sum.rec (fun u56 =>
    some u56) (fun v57 =>
    some (-1)) r55
noncomputable def ContainsFuncInstr (n : Nat) (s_0 : DB) : Option (Bool) :=
  (IndexFuncInstr n s_0).bind fun r58 =>
  some (decide (r58 ≥ 0))
noncomputable def moduleFitFunc (n : Nat) (f_0 : DA) (f_0_1 : Int) (f_0_2 : Int) (f_0_3 : DA) (f_0_4 : DB) (recs_1 : Int) : Option (Bool) :=
  (moduleGood n f_0 recs_1 4).bind fun r59 =>
  bif r59 then
    (kindGood n f_0_1 f_0_2 recs_1).bind fun r60 =>
    bif r60 then
      (moduleGood n f_0_3 recs_1 (subI .i64 8 (lenI f_0))).bind fun r61 =>
      bif r61 then
        bif (decide ((lenI f_0_4) ≥ 1)) then
          bif (decide ((lenI f_0_4) ≤ 64)) then
            (ContainsFuncInstr n f_0_4).bind fun r62 =>
            some (!r62)
          else
            some false
        else
          some false
      else
        some false
    else
      some false
  else
    some false
noncomputable def moduleFits2 (n : Nat) (f_0 : DA) (f_0_1 : Int) (f_0_2 : Int) (f_0_3 : DA) (f_0_4 : DB) (m0 : Int) : Option (Bool × Int) :=
  (moduleFitFunc n f_0 f_0_1 f_0_2 f_0_3 f_0_4 m0).bind fun r63 =>
  some ((!r63), m0)
noncomputable def IndexFuncFunc_B0 (n : Nat) (s_0 : DH) (t7 : Int) (t8 : Int) (m0 : Int) : Option (((DH × Int × Int) × Int) ⊕ ((Int × Int) ⊕ (Int))) :=
  bif (decide (t8 < t7)) then
    (getI s_0 t8).bind fun x64 =>
    (moduleFits2 n x64.1 x64.2.1 x64.2.2.1 x64.2.2.2.1 x64.2.2.2.2 m0).bind fun r65 =>
    bif r65.1 then
      some (Sum.inr (Sum.inl (t8, r65.2)))
    else
      some (Sum.inl ((s_0, (t7, (addI .i64 t8 1))), r65.2))
  else
    some (Sum.inr (Sum.inr m0))
noncomputable def IndexFuncFunc_W0 (n : Nat) (s : (DH × Int × Int) × Int) : Option ((Int × Int) ⊕ (Int)) := loopS (fun s => IndexFuncFunc_B0 n s.1.1 s.1.2.1 s.1.2.2 s.2) n s
noncomputable def IndexFuncFunc (n : Nat) (s_0 : DH) (m0 : Int) : Option (Int × Int) :=
  (IndexFuncFunc_W0 n ((s_0, ((lenI s_0), 0)), m0)).bind fun r66 =>
  Sum.rec (fun u67 =>
    some (u67.1, u67.2)) (fun v68 =>
    some ((-1), v68)) r66
noncomputable def ContainsFuncFunc (n : Nat) (s_0 : DH) (m0 : Int) : Option (Bool × Int) :=
  (IndexFuncFunc n s_0 m0).bind fun r69 =>
  some ((decide (r69.1 ≥ 0)), r69.2)
noncomputable def moduleFits3 (n : Nat) (i_0 : DA) (i_0_1 : Int) (i_0_2 : Int) (m0 : Int) : Option (Bool × Int) :=
  (moduleGood n i_0 m0 4).bind fun r74 =>
  bif (!r74) then
    some (true, m0)
  else
    (kindGood n i_0_1 i_0_2 m0).bind fun r75 =>
    some ((!r75), m0)
noncomputable def IndexFuncImport_B0 (n : Nat) (s_0 : DI) (t7 : Int) (t8 : Int) (m0 : Int) : Option (((DI × Int × Int) × Int) ⊕ ((Int × Int) ⊕ (Int))) :=
  bif (decide (t8 < t7)) then
    (getI s_0 t8).bind fun x76 =>
    (moduleFits3 n x76.1 x76.2.1 x76.2.2 m0).bind fun r77 =>
    bif r77.1 then
      some (Sum.inr (Sum.inl (t8, r77.2)))
    else
      some (Sum.inl ((s_0, (t7, (addI .i64 t8 1))), r77.2))
  else
    some (Sum.inr (Sum.inr m0))
noncomputable def IndexFuncImport_W0 (n : Nat) (s : (DI × Int × Int) × Int) : Option ((Int × Int) ⊕ (Int)) := loopS (fun s => IndexFuncImport_B0 n s.1.1 s.1.2.1 s.1.2.2 s.2) n s
noncomputable def IndexFuncImport (n : Nat) (s_0 : DI) (m0 : Int) : Option (Int × Int) :=
  (IndexFuncImport_W0 n ((s_0, ((lenI s_0), 0)), m0)).bind fun r78 =>
  Sum.rec (fun u79 =>
    some (u79.1, u79.2)) (fun v80 =>
    some ((-1), v80)) r78
noncomputable def ContainsFuncImport (n : Nat) (s_0 : DI) (m0 : Int) : Option (Bool × Int) :=
  (IndexFuncImport n s_0 m0).bind fun r81 =>
  some ((decide (r81.1 ≥ 0)), r81.2)
noncomputable def moduleFits4 (n : Nat) (s_0 : ByteArray) : Option (Bool) :=
  some (decide ((lenS s_0) > 32))
noncomputable def IndexFuncString_B0 (n : Nat) (s_0 : DD) (t7 : Int) (t8 : Int) : Option ((DD × Int × Int) ⊕ ((Int) ⊕ (Unit))) :=
  bif (decide (t8 < t7)) then
    (getI s_0 t8).bind fun x86 =>
    (moduleFits4 n x86).bind fun r87 =>
    bif r87 then
      some (Sum.inr (Sum.inl t8))
    else
      some (Sum.inl (s_0, (t7, (addI .i64 t8 1))))
  else
    some (Sum.inr (Sum.inr ()))
noncomputable def IndexFuncString_W0 (n : Nat) (s : DD × Int × Int) : Option ((Int) ⊕ (Unit)) := loopS (fun s => IndexFuncString_B0 n s.1 s.2.1 s.2.2) n s
noncomputable def IndexFuncString (n : Nat) (s_0 : DD) : Option (Int) :=
  (IndexFuncString_W0 n (s_0, ((lenI s_0), 0))).bind fun r88 =>
  Sum.rec (fun u89 =>
    some u89) (fun v90 =>
    some (-1)) r88
noncomputable def ContainsFuncString (n : Nat) (s_0 : DD) : Option (Bool) :=
  (IndexFuncString n s_0).bind fun r91 =>
  some (decide (r91 ≥ 0))
noncomputable def moduleFits (n : Nat) (t0 : DG) (t0_1 : DH) (t0_2 : DI) (t0_3 : DC) (t0_4 : DD) : Option (Bool) :=
  bif (decide ((lenI t0) ≤ 8)) then
    (ContainsFuncTypeq1 n t0 (lenI t0)).bind fun r92 =>
    bif (!r92.1) then
      bif (decide ((lenI t0_1) ≥ 1)) then
        bif (decide ((lenI t0_1) ≤ 8)) then
          (ContainsFuncFunc n t0_1 r92.2).bind fun r93 =>
          bif (!r93.1) then
            bif (decide ((lenI t0_2) ≤ 8)) then
              (ContainsFuncImport n t0_2 r93.2).bind fun r94 =>
              bif (!r94.1) then
                bif (decide ((lenI t0_3) ≤ 16)) then
                  bif (decide ((lenI t0_4) ≤ 16)) then
                    (ContainsFuncString n t0_4).bind fun r95 =>
                    some (!r95)
                  else
                    some false
                else
                  some false
              else
                some false
            else
              some false
          else
            some false
        else
          some false
      else
        some false
    else
      some false
  else
    some false
noncomputable def moduleWriterCount (n : Nat) (n_1 : Int) : Option DC :=
  (numVar n (cvtI .u64 n_1)).bind fun r97 =>
  bif (Nat.ble (List.length r97) 4294967296) then
    some r97
  else none
noncomputable def moduleWriterCountv1 (n : Nat) (n_1 : Int) (m1 : DC) : Option DC :=
  (numVar n (cvtI .u64 n_1)).bind fun r100 =>
  bif (Nat.ble (List.length (m1 ++ r100)) 4294967296) then
    some (m1 ++ r100)
  else none
noncomputable def kindPut (n : Nat) (t_0 : Int) (t_0_1 : Int) : Option DC :=
  (numVar n (cvtI .u64 (maxI t_0 0))).bind fun r103 =>
  (numVar n (cvtI .u64 (maxI t_0_1 0))).bind fun r104 =>
  bif (Nat.ble (List.length (r103 ++ r104)) 4294967296) then
    some (r103 ++ r104)
  else none
noncomputable def moduleWriterTypes_B0 (n : Nat) (t10 : DA) (t11 : Int) (t12 : Int) (m1 : DC) : Option (((DA × Int × Int) × DC) ⊕ DC) :=
  bif (decide (t12 < t11)) then
    (getI t10 t12).bind fun x105 =>
    (kindPut n x105.1 x105.2).bind fun r106 =>
    bif (Nat.ble (List.length (m1 ++ r106)) 4294967296) then
      some (Sum.inl ((t10, (t11, (addI .i64 t12 1))), (m1 ++ r106)))
    else none
  else
    some (Sum.inr m1)
noncomputable def moduleWriterTypes_W0 (n : Nat) (s : (DA × Int × Int) × DC) : Option DC := loopS (fun s => moduleWriterTypes_B0 n s.1.1 s.1.2.1 s.1.2.2 s.2) n s
noncomputable def moduleWriterTypes (n : Nat) (list_1 : DA) (m1 : DC) : Option DC :=
  (moduleWriterCountv1 n (lenI list_1) m1).bind fun r107 =>
  (moduleWriterTypes_W0 n ((list_1, ((lenI list_1), 0)), r107)).bind fun r108 =>
  some r108
noncomputable def moduleRecords_B0 (n : Nat) (t14 : DG) (t15 : Int) (t16 : Int) (m1 : DC) : Option (((DG × Int × Int) × DC) ⊕ DC) :=
  bif (decide (t16 < t15)) then
    (getI t14 t16).bind fun x109 =>
    (moduleWriterTypes n x109 m1).bind fun r110 =>
    some (Sum.inl ((t14, (t15, (addI .i64 t16 1))), r110))
  else
    some (Sum.inr m1)
noncomputable def moduleRecords_W0 (n : Nat) (s : (DG × Int × Int) × DC) : Option DC := loopS (fun s => moduleRecords_B0 n s.1.1 s.1.2.1 s.1.2.2 s.2) n s
noncomputable def moduleRecords (n : Nat) (m_0 : DG) (m_0_1 : DH) (m_0_2 : DI) (m_0_3 : DC) (m_0_4 : DD) : Option DC :=
  (moduleWriterCount n (lenI m_0)).bind fun r111 =>
  (moduleRecords_W0 n ((m_0, ((lenI m_0), 0)), r111)).bind fun r112 =>
  some r112
noncomputable def moduleFunctions_B2 (n : Nat) (t16 : DH) (t17 : Int) (t18 : Int) (t47 : DB) (t48 : Int) (t49 : Int) (m1 : DC) : Option (((DH × Int × Int × DB × Int × Int) × DC) ⊕ ((DH × Int × Int) × DC)) :=
  bif (decide (t49 < t48)) then
    (getI t47 t49).bind fun x129 =>
    (instPut n x129.1 x129.2.1 x129.2.2).bind fun r130 =>
    bif (Nat.ble (List.length (m1 ++ r130)) 4294967296) then
      some (Sum.inl ((t16, (t17, (t18, (t47, (t48, (addI .i64 t49 1)))))), (m1 ++ r130)))
    else none
  else
    some (Sum.inr ((t16, (t17, t18)), m1))
noncomputable def moduleFunctions_W2 (n : Nat) (s : (DH × Int × Int × DB × Int × Int) × DC) : Option ((DH × Int × Int) × DC) := loopS (fun s => moduleFunctions_B2 n s.1.1 s.1.2.1 s.1.2.2.1 s.1.2.2.2.1 s.1.2.2.2.2.1 s.1.2.2.2.2.2 s.2) n s
noncomputable def moduleFunctions_B0 (n : Nat) (t16 : DH) (t17 : Int) (t18 : Int) (m1 : DC) : Option (((DH × Int × Int) × DC) ⊕ DC) :=
  bif (decide (t18 < t17)) then
    (getI t16 t18).bind fun x131 =>
    (moduleWriterTypes n x131.1 m1).bind fun r132 =>
    (kindPut n x131.2.1 x131.2.2.1).bind fun r133 =>
    bif (Nat.ble (List.length (r132 ++ r133)) 4294967296) then
      (moduleWriterTypes n x131.2.2.2.1 (r132 ++ r133)).bind fun r134 =>
      (moduleWriterCountv1 n (lenI x131.2.2.2.2) r134).bind fun r135 =>
      (moduleFunctions_W2 n ((t16, (t17, (t18, (x131.2.2.2.2, ((lenI x131.2.2.2.2), 0))))), r135)).bind fun r136 =>
      some (Sum.inl ((r136.1.1, (r136.1.2.1, (addI .i64 r136.1.2.2 1))), r136.2))
    else none
  else
    some (Sum.inr m1)
noncomputable def moduleFunctions_W0 (n : Nat) (s : (DH × Int × Int) × DC) : Option DC := loopS (fun s => moduleFunctions_B0 n s.1.1 s.1.2.1 s.1.2.2 s.2) n s
noncomputable def moduleFunctions (n : Nat) (t0 : DG) (t0_1 : DH) (t0_2 : DI) (t0_3 : DC) (t0_4 : DD) : Option DC :=
  (moduleWriterCount n (lenI t0_1)).bind fun r137 =>
  (moduleFunctions_W0 n ((t0_1, ((lenI t0_1), 0)), r137)).bind fun r138 =>
  some r138
noncomputable def moduleImports_B0 (n : Nat) (t14 : DI) (t15 : Int) (t16 : Int) (m1 : DC) : Option (((DI × Int × Int) × DC) ⊕ DC) :=
  bif (decide (t16 < t15)) then
    (getI t14 t16).bind fun x146 =>
    (moduleWriterTypes n x146.1 m1).bind fun r147 =>
    (kindPut n x146.2.1 x146.2.2).bind fun r148 =>
    bif (Nat.ble (List.length (r147 ++ r148)) 4294967296) then
      some (Sum.inl ((t14, (t15, (addI .i64 t16 1))), (r147 ++ r148)))
    else none
  else
    some (Sum.inr m1)
noncomputable def moduleImports_W0 (n : Nat) (s : (DI × Int × Int) × DC) : Option DC := loopS (fun s => moduleImports_B0 n s.1.1 s.1.2.1 s.1.2.2 s.2) n s
noncomputable def moduleImports (n : Nat) (m_0 : DG) (m_0_1 : DH) (m_0_2 : DI) (m_0_3 : DC) (m_0_4 : DD) : Option DC :=
  (moduleWriterCount n (lenI m_0_2)).bind fun r149 =>
  (moduleImports_W0 n ((m_0_2, ((lenI m_0_2), 0)), r149)).bind fun r150 =>
  some r150
noncomputable def numFixed_B0 (n : Nat) (v_0 : Int) (t9 : Int) (t10 : Int) (m0 : DC) : Option (((Int × Int × Int) × DC) ⊕ DC) :=
  bif (decide (t10 < t9)) then
    bif (decide (0 ≤ (mulI .i64 8 t10))) then
      bif (Nat.ble (List.length (m0 ++ ((cvtI .u8 (shrI .u64 v_0 (mulI .i64 8 t10))) :: ([] : DE)))) 4294967296) then
        some (Sum.inl ((v_0, (t9, (addI .i64 t10 1))), (m0 ++ ((cvtI .u8 (shrI .u64 v_0 (mulI .i64 8 t10))) :: ([] : DE)))))
      else none
    else none
  else
    some (Sum.inr m0)
noncomputable def numFixed_W0 (n : Nat) (s : (Int × Int × Int) × DC) : Option DC := loopS (fun s => numFixed_B0 n s.1.1 s.1.2.1 s.1.2.2 s.2) n s
noncomputable def numFixed (n : Nat) (v_0 : Int) (n_1 : Int) : Option DC :=
  (numFixed_W0 n ((v_0, ((minI (maxI n_1 0) 8), 0)), ([] : DE))).bind fun r157 =>
  some r157
noncomputable def moduleNumbers_B0 (n : Nat) (t14 : DC) (t15 : Int) (t16 : Int) (m1 : DC) : Option (((DC × Int × Int) × DC) ⊕ DC) :=
  bif (decide (t16 < t15)) then
    (getI t14 t16).bind fun x158 =>
    (numFixed n x158 8).bind fun r159 =>
    bif (Nat.ble (List.length (m1 ++ r159)) 4294967296) then
      some (Sum.inl ((t14, (t15, (addI .i64 t16 1))), (m1 ++ r159)))
    else none
  else
    some (Sum.inr m1)
noncomputable def moduleNumbers_W0 (n : Nat) (s : (DC × Int × Int) × DC) : Option DC := loopS (fun s => moduleNumbers_B0 n s.1.1 s.1.2.1 s.1.2.2 s.2) n s
noncomputable def moduleNumbers (n : Nat) (m_0 : DG) (m_0_1 : DH) (m_0_2 : DI) (m_0_3 : DC) (m_0_4 : DD) : Option DC :=
  (moduleWriterCount n (lenI m_0_3)).bind fun r160 =>
  (moduleNumbers_W0 n ((m_0_3, ((lenI m_0_3), 0)), r160)).bind fun r161 =>
  some r161
noncomputable def moduleTexts_B0 (n : Nat) (t14 : DD) (t15 : Int) (t16 : Int) (m1 : DC) : Option (((DD × Int × Int) × DC) ⊕ DC) :=
  bif (decide (t16 < t15)) then
    (getI t14 t16).bind fun x169 =>
    (moduleWriterCountv1 n (lenS x169) m1).bind fun r170 =>
    bif (Nat.ble (List.length (r170 ++ (bytesInts x169))) 4294967296) then
      some (Sum.inl ((t14, (t15, (addI .i64 t16 1))), (r170 ++ (bytesInts x169))))
    else none
  else
    some (Sum.inr m1)
noncomputable def moduleTexts_W0 (n : Nat) (s : (DD × Int × Int) × DC) : Option DC := loopS (fun s => moduleTexts_B0 n s.1.1 s.1.2.1 s.1.2.2 s.2) n s
noncomputable def moduleTexts (n : Nat) (m_0 : DG) (m_0_1 : DH) (m_0_2 : DI) (m_0_3 : DC) (m_0_4 : DD) : Option DC :=
  (moduleWriterCount n (lenI m_0_4)).bind fun r171 =>
  (moduleTexts_W0 n ((m_0_4, ((lenI m_0_4), 0)), r171)).bind fun r172 =>
  some r172
noncomputable def packJoin_B0 (n : Nat) (t10 : DJ) (t11 : Int) (t12 : Int) (m0 : DC) : Option (((DJ × Int × Int) × DC) ⊕ DC) :=
  bif (decide (t12 < t11)) then
    (getI t10 t12).bind fun x180 =>
    (numVar n (cvtI .u64 (lenI x180))).bind fun r181 =>
    bif (Nat.ble (List.length (m0 ++ r181)) 4294967296) then
      bif (Nat.ble (List.length ((m0 ++ r181) ++ x180)) 4294967296) then
        some (Sum.inl ((t10, (t11, (addI .i64 t12 1))), ((m0 ++ r181) ++ x180)))
      else none
    else none
  else
    some (Sum.inr m0)
noncomputable def packJoin_W0 (n : Nat) (s : (DJ × Int × Int) × DC) : Option DC := loopS (fun s => packJoin_B0 n s.1.1 s.1.2.1 s.1.2.2 s.2) n s
noncomputable def packJoin (n : Nat) (parts_0 : DJ) : Option DC :=
  (numVar n (cvtI .u64 (lenI parts_0))).bind fun r182 =>
  (packJoin_W0 n ((parts_0, ((lenI parts_0), 0)), r182)).bind fun r183 =>
  some r183
noncomputable def moduleEncode (n : Nat) (m_0 : DG) (m_0_1 : DH) (m_0_2 : DI) (m_0_3 : DC) (m_0_4 : DD) : Option (DC × Int) :=
  (moduleFits n m_0 m_0_1 m_0_2 m_0_3 m_0_4).bind fun r184 =>
  bif (!r184) then
    some (([] : DE), 2)
  else
    (moduleRecords n m_0 m_0_1 m_0_2 m_0_3 m_0_4).bind fun r185 =>
    (moduleFunctions n m_0 m_0_1 m_0_2 m_0_3 m_0_4).bind fun r186 =>
    (moduleImports n m_0 m_0_1 m_0_2 m_0_3 m_0_4).bind fun r187 =>
    (moduleNumbers n m_0 m_0_1 m_0_2 m_0_3 m_0_4).bind fun r188 =>
    (moduleTexts n m_0 m_0_1 m_0_2 m_0_3 m_0_4).bind fun r189 =>
    (packJoin n (r185 :: (r186 :: (r187 :: (r188 :: (r189 :: ([] : DJ))))))).bind fun r190 =>
    some (r190, 0)
noncomputable def saneBelow (n : Nat) (n_0 : Int) (most_1 : Int) : Option (Bool) :=
  some (decide (n_0 < most_1))
noncomputable def saneNames (n : Nat) (t0 : DG) (t0_1 : DH) (t0_2 : DI) (t0_3 : DC) (t0_4 : DD) (t1 : DA) (t1_1 : Int) (t1_2 : Int) (t1_3 : DA) (t1_4 : DB) (t2 : Int) (t2_1 : Int) (t2_2 : Int) : Option (Bool) :=
  bif (t2 == 0) then
    (saneBelow n t2_1 (lenI t0_3)).bind fun r194 =>
    some r194
  else
    bif (t2 == 1) then
      (saneBelow n t2_1 (lenI t0_4)).bind fun r195 =>
      some r195
    else
      bif (t2 == 3) then
        (saneBelow n t2_1 (addI .i64 (lenI t1) (lenI t1_3))).bind fun r196 =>
        some r196
      else
        bif (t2 == 4) then
          (saneBelow n t2_1 (addI .i64 (lenI t1) (lenI t1_3))).bind fun r197 =>
          some r197
        else
          bif (t2 == 23) then
            (saneBelow n t2_1 (lenI t1_4)).bind fun r198 =>
            some r198
          else
            bif (t2 == 24) then
              (saneBelow n t2_1 (lenI t1_4)).bind fun r199 =>
              some r199
            else
              bif (t2 == 25) then
                (saneBelow n t2_1 (lenI t0_1)).bind fun r200 =>
                some r200
              else
                bif (t2 == 27) then
                  (saneBelow n t2_1 (lenI t0_2)).bind fun r201 =>
                  some r201
                else
                  bif (t2 == 28) then
                    (saneBelow n t2_1 (lenI t0)).bind fun r202 =>
                    some r202
                  else
                    bif (t2 == 29) then
                      (saneBelow n t2_1 (lenI t0)).bind fun r203 =>
                      bif r203 then
                        (getI t0 t2_1).bind fun x204 =>
                        (saneBelow n t2_2 (lenI x204)).bind fun r205 =>
                        some r205
                      else
                        some false
                    else
                      bif (t2 == 30) then
                        (saneBelow n t2_1 (lenI t0)).bind fun r206 =>
                        bif r206 then
                          (getI t0 t2_1).bind fun x207 =>
                          (saneBelow n t2_2 (lenI x207)).bind fun r208 =>
                          some r208
                        else
                          some false
                      else
                        some true
noncomputable def saneCheck1 (n : Nat) (i_0 : Int) (i_0_1 : Int) (i_0_2 : Int) (m0 : DG) (m0_1 : DH) (m0_2 : DI) (m0_3 : DC) (m0_4 : DD) (m1 : DA) (m1_1 : Int) (m1_2 : Int) (m1_3 : DA) (m1_4 : DB) : Option (Bool × (DG × DH × DI × DC × DD) × DA × Int × Int × DA × DB) :=
  (saneNames n m0 m0_1 m0_2 m0_3 m0_4 m1 m1_1 m1_2 m1_3 m1_4 i_0 i_0_1 i_0_2).bind fun r209 =>
  some ((!r209), ((m0, (m0_1, (m0_2, (m0_3, m0_4)))), (m1, (m1_1, (m1_2, (m1_3, m1_4))))))
noncomputable def IndexFuncInstrv1_B0 (n : Nat) (s_0 : DB) (t7 : Int) (t8 : Int) (m0 : DG) (m0_1 : DH) (m0_2 : DI) (m0_3 : DC) (m0_4 : DD) (m1 : DA) (m1_1 : Int) (m1_2 : Int) (m1_3 : DA) (m1_4 : DB) : Option (((DB × Int × Int) × (DG × DH × DI × DC × DD) × DA × Int × Int × DA × DB) ⊕ ((Int × (DG × DH × DI × DC × DD) × DA × Int × Int × DA × DB) ⊕ ((DG × DH × DI × DC × DD) × DA × Int × Int × DA × DB))) :=
  bif (decide (t8 < t7)) then
    (getI s_0 t8).bind fun x210 =>
    (saneCheck1 n x210.1 x210.2.1 x210.2.2 m0 m0_1 m0_2 m0_3 m0_4 m1 m1_1 m1_2 m1_3 m1_4).bind fun r211 =>
    bif r211.1 then
      some (Sum.inr (Sum.inl (t8, ((r211.2.1.1, (r211.2.1.2.1, (r211.2.1.2.2.1, (r211.2.1.2.2.2.1, r211.2.1.2.2.2.2)))), (r211.2.2.1, (r211.2.2.2.1, (r211.2.2.2.2.1, (r211.2.2.2.2.2.1, r211.2.2.2.2.2.2))))))))
    else
      some (Sum.inl ((s_0, (t7, (addI .i64 t8 1))), ((r211.2.1.1, (r211.2.1.2.1, (r211.2.1.2.2.1, (r211.2.1.2.2.2.1, r211.2.1.2.2.2.2)))), (r211.2.2.1, (r211.2.2.2.1, (r211.2.2.2.2.1, (r211.2.2.2.2.2.1, r211.2.2.2.2.2.2)))))))
  else
    some (Sum.inr (Sum.inr ((m0, (m0_1, (m0_2, (m0_3, m0_4)))), (m1, (m1_1, (m1_2, (m1_3, m1_4)))))))
noncomputable def IndexFuncInstrv1_W0 (n : Nat) (s : (DB × Int × Int) × (DG × DH × DI × DC × DD) × DA × Int × Int × DA × DB) : Option ((Int × (DG × DH × DI × DC × DD) × DA × Int × Int × DA × DB) ⊕ ((DG × DH × DI × DC × DD) × DA × Int × Int × DA × DB)) := loopS (fun s => IndexFuncInstrv1_B0 n s.1.1 s.1.2.1 s.1.2.2 s.2.1.1 s.2.1.2.1 s.2.1.2.2.1 s.2.1.2.2.2.1 s.2.1.2.2.2.2 s.2.2.1 s.2.2.2.1 s.2.2.2.2.1 s.2.2.2.2.2.1 s.2.2.2.2.2.2) n s
noncomputable def IndexFuncInstrv1 (n : Nat) (s_0 : DB) (m0 : DG) (m0_1 : DH) (m0_2 : DI) (m0_3 : DC) (m0_4 : DD) (m1 : DA) (m1_1 : Int) (m1_2 : Int) (m1_3 : DA) (m1_4 : DB) : Option (Int × (DG × DH × DI × DC × DD) × DA × Int × Int × DA × DB) :=
  (IndexFuncInstrv1_W0 n ((s_0, ((lenI s_0), 0)), ((m0, (m0_1, (m0_2, (m0_3, m0_4)))), (m1, (m1_1, (m1_2, (m1_3, m1_4))))))).bind fun r212 =>
  Sum.rec (fun u213 =>
    some (u213.1, ((u213.2.1.1, (u213.2.1.2.1, (u213.2.1.2.2.1, (u213.2.1.2.2.2.1, u213.2.1.2.2.2.2)))), (u213.2.2.1, (u213.2.2.2.1, (u213.2.2.2.2.1, (u213.2.2.2.2.2.1, u213.2.2.2.2.2.2))))))) (fun v214 =>
    some ((-1), ((v214.1.1, (v214.1.2.1, (v214.1.2.2.1, (v214.1.2.2.2.1, v214.1.2.2.2.2)))), (v214.2.1, (v214.2.2.1, (v214.2.2.2.1, (v214.2.2.2.2.1, v214.2.2.2.2.2))))))) r212
noncomputable def ContainsFuncInstrv1 (n : Nat) (s_0 : DB) (m0 : DG) (m0_1 : DH) (m0_2 : DI) (m0_3 : DC) (m0_4 : DD) (m1 : DA) (m1_1 : Int) (m1_2 : Int) (m1_3 : DA) (m1_4 : DB) : Option (Bool × (DG × DH × DI × DC × DD) × DA × Int × Int × DA × DB) :=
  (IndexFuncInstrv1 n s_0 m0 m0_1 m0_2 m0_3 m0_4 m1 m1_1 m1_2 m1_3 m1_4).bind fun r215 =>
  some ((decide (r215.1 ≥ 0)), ((r215.2.1.1, (r215.2.1.2.1, (r215.2.1.2.2.1, (r215.2.1.2.2.2.1, r215.2.1.2.2.2.2)))), (r215.2.2.1, (r215.2.2.2.1, (r215.2.2.2.2.1, (r215.2.2.2.2.2.1, r215.2.2.2.2.2.2))))))
noncomputable def saneCheck2 (n : Nat) (t_0 : Int) (t_0_1 : Int) : Option (Bool) :=
  some (t_0 == 5)
noncomputable def IndexFuncTypev1_B0 (n : Nat) (s_0 : DA) (t7 : Int) (t8 : Int) : Option ((DA × Int × Int) ⊕ ((Int) ⊕ (Unit))) :=
  bif (decide (t8 < t7)) then
    (getI s_0 t8).bind fun x219 =>
    (saneCheck2 n x219.1 x219.2).bind fun r220 =>
    bif r220 then
      some (Sum.inr (Sum.inl t8))
    else
      some (Sum.inl (s_0, (t7, (addI .i64 t8 1))))
  else
    some (Sum.inr (Sum.inr ()))
noncomputable def IndexFuncTypev1_W0 (n : Nat) (s : DA × Int × Int) : Option ((Int) ⊕ (Unit)) := loopS (fun s => IndexFuncTypev1_B0 n s.1 s.2.1 s.2.2) n s
noncomputable def IndexFuncTypev1 (n : Nat) (s_0 : DA) : Option (Int) :=
  (IndexFuncTypev1_W0 n (s_0, ((lenI s_0), 0))).bind fun r221 =>
  Sum.rec (fun u222 =>
    some u222) (fun v223 =>
    some (-1)) r221
noncomputable def ContainsFuncTypev1 (n : Nat) (s_0 : DA) : Option (Bool) :=
  (IndexFuncTypev1 n s_0).bind fun r224 =>
  some (decide (r224 ≥ 0))
noncomputable def saneCheck_B0 (n : Nat) (t18 : DH) (t19 : Int) (t20 : Int) (m0 : DG) (m0_1 : DH) (m0_2 : DI) (m0_3 : DC) (m0_4 : DD) : Option (((DH × Int × Int) × DG × DH × DI × DC × DD) ⊕ ((Int × (DG × DH × DI × DC × DD) × DA × Int × Int × DA × DB) ⊕ (DG × DH × DI × DC × DD))) :=
  bif (decide (t20 < t19)) then
    (getI t18 t20).bind fun x225 =>
    (ContainsFuncInstrv1 n x225.2.2.2.2 m0 m0_1 m0_2 m0_3 m0_4 x225.1 x225.2.1 x225.2.2.1 x225.2.2.2.1 x225.2.2.2.2).bind fun r226 =>
    bif r226.1 then
      some (Sum.inr (Sum.inl (1, ((r226.2.1.1, (r226.2.1.2.1, (r226.2.1.2.2.1, (r226.2.1.2.2.2.1, r226.2.1.2.2.2.2)))), (r226.2.2.1, (r226.2.2.2.1, (r226.2.2.2.2.1, (r226.2.2.2.2.2.1, r226.2.2.2.2.2.2))))))))
    else
      (ContainsFuncTypev1 n r226.2.2.2.2.2.1).bind fun r227 =>
      bif r227 then
        some (Sum.inr (Sum.inl (1, ((r226.2.1.1, (r226.2.1.2.1, (r226.2.1.2.2.1, (r226.2.1.2.2.2.1, r226.2.1.2.2.2.2)))), (r226.2.2.1, (r226.2.2.2.1, (r226.2.2.2.2.1, (r226.2.2.2.2.2.1, r226.2.2.2.2.2.2))))))))
      else
        some (Sum.inl ((t18, (t19, (addI .i64 t20 1))), (r226.2.1.1, (r226.2.1.2.1, (r226.2.1.2.2.1, (r226.2.1.2.2.2.1, r226.2.1.2.2.2.2))))))
  else
    some (Sum.inr (Sum.inr (m0, (m0_1, (m0_2, (m0_3, m0_4))))))
noncomputable def saneCheck_W0 (n : Nat) (s : (DH × Int × Int) × DG × DH × DI × DC × DD) : Option ((Int × (DG × DH × DI × DC × DD) × DA × Int × Int × DA × DB) ⊕ (DG × DH × DI × DC × DD)) := loopS (fun s => saneCheck_B0 n s.1.1 s.1.2.1 s.1.2.2 s.2.1 s.2.2.1 s.2.2.2.1 s.2.2.2.2.1 s.2.2.2.2.2) n s
noncomputable def saneHost (n : Nat) (t_0 : Int) (t_0_1 : Int) : Option (Bool) :=
  bif (t_0 == 1) then
    some true
  else
    some (t_0 == 5)
noncomputable def saneCheck31 (n : Nat) (t_0 : Int) (t_0_1 : Int) : Option (Bool) :=
  (saneHost n t_0 t_0_1).bind fun r235 =>
  some (!r235)
noncomputable def IndexFuncTypev2_B0 (n : Nat) (s_0 : DA) (t7 : Int) (t8 : Int) : Option ((DA × Int × Int) ⊕ ((Int) ⊕ (Unit))) :=
  bif (decide (t8 < t7)) then
    (getI s_0 t8).bind fun x236 =>
    (saneCheck31 n x236.1 x236.2).bind fun r237 =>
    bif r237 then
      some (Sum.inr (Sum.inl t8))
    else
      some (Sum.inl (s_0, (t7, (addI .i64 t8 1))))
  else
    some (Sum.inr (Sum.inr ()))
noncomputable def IndexFuncTypev2_W0 (n : Nat) (s : DA × Int × Int) : Option ((Int) ⊕ (Unit)) := loopS (fun s => IndexFuncTypev2_B0 n s.1 s.2.1 s.2.2) n s
noncomputable def IndexFuncTypev2 (n : Nat) (s_0 : DA) : Option (Int) :=
  (IndexFuncTypev2_W0 n (s_0, ((lenI s_0), 0))).bind fun r238 =>
  Sum.rec (fun u239 =>
    some u239) (fun v240 =>
    some (-1)) r238
noncomputable def ContainsFuncTypev2 (n : Nat) (s_0 : DA) : Option (Bool) :=
  (IndexFuncTypev2 n s_0).bind fun r241 =>
  some (decide (r241 ≥ 0))
noncomputable def saneCheck3 (n : Nat) (i_0 : DA) (i_0_1 : Int) (i_0_2 : Int) : Option (Bool) :=
  (saneHost n i_0_1 i_0_2).bind fun r242 =>
  bif (!r242) then
    some true
  else
    (ContainsFuncTypev2 n i_0).bind fun r243 =>
    some r243
noncomputable def IndexFuncImportv1_B0 (n : Nat) (s_0 : DI) (t7 : Int) (t8 : Int) : Option ((DI × Int × Int) ⊕ ((Int) ⊕ (Unit))) :=
  bif (decide (t8 < t7)) then
    (getI s_0 t8).bind fun x244 =>
    (saneCheck3 n x244.1 x244.2.1 x244.2.2).bind fun r245 =>
    bif r245 then
      some (Sum.inr (Sum.inl t8))
    else
      some (Sum.inl (s_0, (t7, (addI .i64 t8 1))))
  else
    some (Sum.inr (Sum.inr ()))
noncomputable def IndexFuncImportv1_W0 (n : Nat) (s : DI × Int × Int) : Option ((Int) ⊕ (Unit)) := loopS (fun s => IndexFuncImportv1_B0 n s.1 s.2.1 s.2.2) n s
noncomputable def IndexFuncImportv1 (n : Nat) (s_0 : DI) : Option (Int) :=
  (IndexFuncImportv1_W0 n (s_0, ((lenI s_0), 0))).bind fun r246 =>
  Sum.rec (fun u247 =>
    some u247) (fun v248 =>
    some (-1)) r246
noncomputable def ContainsFuncImportv1 (n : Nat) (s_0 : DI) : Option (Bool) :=
  (IndexFuncImportv1 n s_0).bind fun r249 =>
  some (decide (r249 ≥ 0))
noncomputable def saneCheck (n : Nat) (m_0 : DG) (m_0_1 : DH) (m_0_2 : DI) (m_0_3 : DC) (m_0_4 : DD) : Option (Int) :=
  (moduleEncode n m_0 m_0_1 m_0_2 m_0_3 m_0_4).bind fun r250 =>
  bif (r250.2 != 0) then
    some r250.2
  else
    (saneCheck_W0 n ((m_0_1, ((lenI m_0_1), 0)), (m_0, (m_0_1, (m_0_2, (m_0_3, m_0_4)))))).bind fun r251 =>
    Sum.rec (fun u252 =>
      some u252.1) (fun v253 =>
      (ContainsFuncImportv1 n v253.2.2.1).bind fun r254 =>
      bif r254 then
        some 1
      else
        some 0) r251
noncomputable def law07Answers (n : Nat) : Option (Bool) :=
  (saneCheck n ([] : List (List ((Int) × Int))) ((([] : List ((Int) × Int)), (1, (0, (([] : List ((Int) × Int)), ((0, (0, 0)) :: ([] : List ((Int) × (Int) × Int))))))) :: ([] : List ((List ((Int) × Int)) × (Int) × (Int) × (List ((Int) × Int)) × List ((Int) × (Int) × Int)))) ([] : List ((List ((Int) × Int)) × (Int) × Int)) ([] : DE) ([] : DF)).bind fun r255 =>
  bif (r255 == 1) then
    (saneCheck n ([] : List (List ((Int) × Int))) ([] : List ((List ((Int) × Int)) × (Int) × (Int) × (List ((Int) × Int)) × List ((Int) × (Int) × Int))) ([] : List ((List ((Int) × Int)) × (Int) × Int)) ([] : DE) ([] : DF)).bind fun r256 =>
    some (r256 == 2)
  else
    some false
noncomputable def ref01Var_S (n : Nat) (self : Int → Option DC) (v_0 : Int) : Option DC :=
  bif (decide (v_0 < 128)) then
    some ((cvtI .u8 v_0) :: ([] : DE))
  else
    (self (quoI .u64 v_0 128)).bind fun r264 =>
    bif (Nat.ble (List.length (((cvtI .u8 (addI .u64 128 (remI v_0 128))) :: ([] : DE)) ++ r264)) 4294967296) then
      some (((cvtI .u8 (addI .u64 128 (remI v_0 128))) :: ([] : DE)) ++ r264)
    else none
noncomputable def ref01Var_D (n : Nat) (d : Nat) : Int → Option DC := Nat.rec (fun _ => none) (fun _ ih a => ref01Var_S n ih a) d
noncomputable def ref01Var (n : Nat) (v_0 : Int) : Option DC := ref01Var_D n n v_0
noncomputable def ref01Good (n : Nat) (t_0 : Int) (t_0_1 : Int) (recs_1 : Int) : Option (Bool) :=
  bif (t_0 == 1) then
    some (t_0_1 == 0)
  else
    bif (t_0 == 2) then
      some (t_0_1 == 0)
    else
      bif (t_0 == 3) then
        some (t_0_1 == 0)
      else
        bif (t_0 == 7) then
          some (t_0_1 == 0)
        else
          bif (t_0 == 4) then
            bif (decide (t_0_1 ≥ 0)) then
              some (decide (t_0_1 < recs_1))
            else
              some false
          else
            bif (t_0 == 5) then
              bif (decide (t_0_1 ≥ 0)) then
                some (decide (t_0_1 < 4))
              else
                some false
            else
              some false
noncomputable def ref01Type (n : Nat) (t_0 : Int) (t_0_1 : Int) : Option DC :=
  bif (decide (t_0 < 0)) then
    bif (decide (t_0_1 < 0)) then
      (ref01Var n (cvtI .u64 0)).bind fun r272 =>
      (ref01Var n (cvtI .u64 0)).bind fun r273 =>
      bif (Nat.ble (List.length (r272 ++ r273)) 4294967296) then
        some (r272 ++ r273)
      else none
    else
      (ref01Var n (cvtI .u64 0)).bind fun r274 =>
      (ref01Var n (cvtI .u64 t_0_1)).bind fun r275 =>
      bif (Nat.ble (List.length (r274 ++ r275)) 4294967296) then
        some (r274 ++ r275)
      else none
  else
    bif (decide (t_0_1 < 0)) then
      (ref01Var n (cvtI .u64 t_0)).bind fun r276 =>
      (ref01Var n (cvtI .u64 0)).bind fun r277 =>
      bif (Nat.ble (List.length (r276 ++ r277)) 4294967296) then
        some (r276 ++ r277)
      else none
    else
      (ref01Var n (cvtI .u64 t_0)).bind fun r278 =>
      (ref01Var n (cvtI .u64 t_0_1)).bind fun r279 =>
      bif (Nat.ble (List.length (r278 ++ r279)) 4294967296) then
        some (r278 ++ r279)
      else none
noncomputable def ref01Types_B0 (n : Nat) (l_0 : DA) (recs_1 : Int) (most_2 : Int) (i_9 : Int) (m0 : DC) : Option (((DA × Int × Int × Int) × DC) ⊕ (((DC × Bool) × DC) ⊕ ((DA × Int) × DC))) :=
  bif (decide (i_9 < (lenI l_0))) then
    (getI l_0 i_9).bind fun x280 =>
    (ref01Good n x280.1 x280.2 recs_1).bind fun r281 =>
    bif (!r281) then
      some (Sum.inr (Sum.inl ((([] : DE), false), m0)))
    else
      (getI l_0 i_9).bind fun x282 =>
      (ref01Type n x282.1 x282.2).bind fun r283 =>
      bif (Nat.ble (List.length (m0 ++ r283)) 4294967296) then
        some (Sum.inl ((l_0, (recs_1, (most_2, (addI .i64 i_9 1)))), (m0 ++ r283)))
      else none
  else
    some (Sum.inr (Sum.inr ((l_0, most_2), m0)))
noncomputable def ref01Types_W0 (n : Nat) (s : (DA × Int × Int × Int) × DC) : Option (((DC × Bool) × DC) ⊕ ((DA × Int) × DC)) := loopS (fun s => ref01Types_B0 n s.1.1 s.1.2.1 s.1.2.2.1 s.1.2.2.2 s.2) n s
noncomputable def ref01Types (n : Nat) (l_0 : DA) (recs_1 : Int) (most_2 : Int) : Option (DC × Bool) :=
  (ref01Var n (cvtI .u64 (lenI l_0))).bind fun r284 =>
  (ref01Types_W0 n ((l_0, (recs_1, (most_2, 0))), r284)).bind fun r285 =>
  Sum.rec (fun u286 =>
    some (u286.1.1, u286.1.2)) (fun v287 =>
    some (v287.2, (decide ((lenI v287.1.1) ≤ v287.1.2)))) r285
noncomputable def ref01Module_B0 (n : Nat) (t4 : Int) (t5 : Bool) (t7 : Int) (m0 : DG) (m0_1 : DH) (m0_2 : DI) (m0_3 : DC) (m0_4 : DD) (m1 : DC) : Option (((Int × Bool × Int) × (DG × DH × DI × DC × DD) × DC) ⊕ ((Int × Bool) × (DG × DH × DI × DC × DD) × DC)) :=
  bif (decide (t7 < t4)) then
    (getI m0 t7).bind fun x288 =>
    (ref01Types n x288 t4 6).bind fun r289 =>
    bif (Nat.ble (List.length (m1 ++ r289.1)) 4294967296) then
      bif t5 then
        some (Sum.inl ((t4, (r289.2, (addI .i64 t7 1))), ((m0, (m0_1, (m0_2, (m0_3, m0_4)))), (m1 ++ r289.1))))
      else
        some (Sum.inl ((t4, (false, (addI .i64 t7 1))), ((m0, (m0_1, (m0_2, (m0_3, m0_4)))), (m1 ++ r289.1))))
    else none
  else
    some (Sum.inr ((t4, t5), ((m0, (m0_1, (m0_2, (m0_3, m0_4)))), m1)))
noncomputable def ref01Module_W0 (n : Nat) (s : (Int × Bool × Int) × (DG × DH × DI × DC × DD) × DC) : Option ((Int × Bool) × (DG × DH × DI × DC × DD) × DC) := loopS (fun s => ref01Module_B0 n s.1.1 s.1.2.1 s.1.2.2 s.2.1.1 s.2.1.2.1 s.2.1.2.2.1 s.2.1.2.2.2.1 s.2.1.2.2.2.2 s.2.2) n s
noncomputable def ref01Args_B0 (n : Nat) (op_0 : Int) (l_3 : DC) (i_4 : Int) : Option ((Int × DC × Int) ⊕ ((Int) ⊕ (Unit))) :=
  bif (decide (i_4 < (lenI l_3))) then
    (getI l_3 i_4).bind fun x307 =>
    bif (x307 == op_0) then
      some (Sum.inr (Sum.inl 1))
    else
      some (Sum.inl (op_0, (l_3, (addI .i64 i_4 1))))
  else
    some (Sum.inr (Sum.inr ()))
noncomputable def ref01Args_W0 (n : Nat) (s : Int × DC × Int) : Option ((Int) ⊕ (Unit)) := loopS (fun s => ref01Args_B0 n s.1 s.2.1 s.2.2) n s
noncomputable def ref01Args (n : Nat) (op_0 : Int) : Option (Int) :=
  bif (decide (op_0 < 0)) then
    some (-1)
  else
    bif (decide (op_0 ≥ 42)) then
      some (-1)
    else
      bif (op_0 == 29) then
        some 2
      else
        bif (op_0 == 30) then
          some 2
        else
          (ref01Args_W0 n (op_0, ((0 :: (1 :: (3 :: (4 :: (23 :: (24 :: (25 :: (27 :: (28 :: ([] : DE)))))))))), 0))).bind fun r308 =>
          Sum.rec (fun u309 =>
            some u309) (fun v310 =>
            some 0) r308
noncomputable def ref01Instr (n : Nat) (t0 : Int) (t0_1 : Int) (t0_2 : Int) : Option DC :=
  (ref01Args n t0).bind fun r312 =>
  bif (decide (r312 < 0)) then
    some ([] : DE)
  else
    bif (decide (t0_1 < 0)) then
      some ([] : DE)
    else
      bif (decide (t0_1 > 255)) then
        some ([] : DE)
      else
        bif (decide (t0_2 < 0)) then
          some ([] : DE)
        else
          bif (decide (t0_2 > 255)) then
            some ([] : DE)
          else
            bif (decide (r312 < 1)) then
              bif (t0_1 != 0) then
                some ([] : DE)
              else
                bif (decide (r312 < 2)) then
                  bif (t0_2 != 0) then
                    some ([] : DE)
                  else
                    bif (decide (r312 > 0)) then
                      (ref01Var n (cvtI .u64 t0_1)).bind fun r313 =>
                      bif (Nat.ble (List.length (((cvtI .u8 t0) :: ([] : DE)) ++ r313)) 4294967296) then
                        bif (decide (r312 > 1)) then
                          (ref01Var n (cvtI .u64 t0_2)).bind fun r314 =>
                          bif (Nat.ble (List.length ((((cvtI .u8 t0) :: ([] : DE)) ++ r313) ++ r314)) 4294967296) then
                            some ((((cvtI .u8 t0) :: ([] : DE)) ++ r313) ++ r314)
                          else none
                        else
                          some (((cvtI .u8 t0) :: ([] : DE)) ++ r313)
                      else none
                    else
                      bif (decide (r312 > 1)) then
                        (ref01Var n (cvtI .u64 t0_2)).bind fun r315 =>
                        bif (Nat.ble (List.length (((cvtI .u8 t0) :: ([] : DE)) ++ r315)) 4294967296) then
                          some (((cvtI .u8 t0) :: ([] : DE)) ++ r315)
                        else none
                      else
                        some ((cvtI .u8 t0) :: ([] : DE))
                else
                  bif (decide (r312 > 0)) then
                    (ref01Var n (cvtI .u64 t0_1)).bind fun r316 =>
                    bif (Nat.ble (List.length (((cvtI .u8 t0) :: ([] : DE)) ++ r316)) 4294967296) then
                      bif (decide (r312 > 1)) then
                        (ref01Var n (cvtI .u64 t0_2)).bind fun r317 =>
                        bif (Nat.ble (List.length ((((cvtI .u8 t0) :: ([] : DE)) ++ r316) ++ r317)) 4294967296) then
                          some ((((cvtI .u8 t0) :: ([] : DE)) ++ r316) ++ r317)
                        else none
                      else
                        some (((cvtI .u8 t0) :: ([] : DE)) ++ r316)
                    else none
                  else
                    bif (decide (r312 > 1)) then
                      (ref01Var n (cvtI .u64 t0_2)).bind fun r318 =>
                      bif (Nat.ble (List.length (((cvtI .u8 t0) :: ([] : DE)) ++ r318)) 4294967296) then
                        some (((cvtI .u8 t0) :: ([] : DE)) ++ r318)
                      else none
                    else
                      some ((cvtI .u8 t0) :: ([] : DE))
            else
              bif (decide (r312 < 2)) then
                bif (t0_2 != 0) then
                  some ([] : DE)
                else
                  bif (decide (r312 > 0)) then
                    (ref01Var n (cvtI .u64 t0_1)).bind fun r319 =>
                    bif (Nat.ble (List.length (((cvtI .u8 t0) :: ([] : DE)) ++ r319)) 4294967296) then
                      bif (decide (r312 > 1)) then
                        (ref01Var n (cvtI .u64 t0_2)).bind fun r320 =>
                        bif (Nat.ble (List.length ((((cvtI .u8 t0) :: ([] : DE)) ++ r319) ++ r320)) 4294967296) then
                          some ((((cvtI .u8 t0) :: ([] : DE)) ++ r319) ++ r320)
                        else none
                      else
                        some (((cvtI .u8 t0) :: ([] : DE)) ++ r319)
                    else none
                  else
                    bif (decide (r312 > 1)) then
                      (ref01Var n (cvtI .u64 t0_2)).bind fun r321 =>
                      bif (Nat.ble (List.length (((cvtI .u8 t0) :: ([] : DE)) ++ r321)) 4294967296) then
                        some (((cvtI .u8 t0) :: ([] : DE)) ++ r321)
                      else none
                    else
                      some ((cvtI .u8 t0) :: ([] : DE))
              else
                bif (decide (r312 > 0)) then
                  (ref01Var n (cvtI .u64 t0_1)).bind fun r322 =>
                  bif (Nat.ble (List.length (((cvtI .u8 t0) :: ([] : DE)) ++ r322)) 4294967296) then
                    bif (decide (r312 > 1)) then
                      (ref01Var n (cvtI .u64 t0_2)).bind fun r323 =>
                      bif (Nat.ble (List.length ((((cvtI .u8 t0) :: ([] : DE)) ++ r322) ++ r323)) 4294967296) then
                        some ((((cvtI .u8 t0) :: ([] : DE)) ++ r322) ++ r323)
                      else none
                    else
                      some (((cvtI .u8 t0) :: ([] : DE)) ++ r322)
                  else none
                else
                  bif (decide (r312 > 1)) then
                    (ref01Var n (cvtI .u64 t0_2)).bind fun r324 =>
                    bif (Nat.ble (List.length (((cvtI .u8 t0) :: ([] : DE)) ++ r324)) 4294967296) then
                      some (((cvtI .u8 t0) :: ([] : DE)) ++ r324)
                    else none
                  else
                    some ((cvtI .u8 t0) :: ([] : DE))
noncomputable def ref01Module_B4 (n : Nat) (t4 : Int) (t5 : Bool) (t11 : Int) (t17 : Int) (m0 : DG) (m0_1 : DH) (m0_2 : DI) (m0_3 : DC) (m0_4 : DD) (m1 : DC) (m2 : DC) (m3 : DA) (m3_1 : Int) (m3_2 : Int) (m3_3 : DA) (m3_4 : DB) : Option (((Int × Bool × Int × Int) × (DG × DH × DI × DC × DD) × DC × DC × DA × Int × Int × DA × DB) ⊕ (((DC × Bool) × (DG × DH × DI × DC × DD) × DC × DC × DA × Int × Int × DA × DB) ⊕ ((Int × Bool × Int) × (DG × DH × DI × DC × DD) × DC × DC × DA × Int × Int × DA × DB))) :=
  bif (decide (t17 < (lenI m3_4))) then
    (getI m3_4 t17).bind fun x325 =>
    (ref01Instr n x325.1 x325.2.1 x325.2.2).bind fun r326 =>
    bif ((lenI r326) == 0) then
      some (Sum.inr (Sum.inl ((([] : DE), false), ((m0, (m0_1, (m0_2, (m0_3, m0_4)))), (m1, (m2, (m3, (m3_1, (m3_2, (m3_3, m3_4))))))))))
    else
      bif (Nat.ble (List.length (m2 ++ r326)) 4294967296) then
        some (Sum.inl ((t4, (t5, (t11, (addI .i64 t17 1)))), ((m0, (m0_1, (m0_2, (m0_3, m0_4)))), (m1, ((m2 ++ r326), (m3, (m3_1, (m3_2, (m3_3, m3_4)))))))))
      else none
  else
    some (Sum.inr (Sum.inr ((t4, (t5, t11)), ((m0, (m0_1, (m0_2, (m0_3, m0_4)))), (m1, (m2, (m3, (m3_1, (m3_2, (m3_3, m3_4))))))))))
noncomputable def ref01Module_W4 (n : Nat) (s : (Int × Bool × Int × Int) × (DG × DH × DI × DC × DD) × DC × DC × DA × Int × Int × DA × DB) : Option (((DC × Bool) × (DG × DH × DI × DC × DD) × DC × DC × DA × Int × Int × DA × DB) ⊕ ((Int × Bool × Int) × (DG × DH × DI × DC × DD) × DC × DC × DA × Int × Int × DA × DB)) := loopS (fun s => ref01Module_B4 n s.1.1 s.1.2.1 s.1.2.2.1 s.1.2.2.2 s.2.1.1 s.2.1.2.1 s.2.1.2.2.1 s.2.1.2.2.2.1 s.2.1.2.2.2.2 s.2.2.1 s.2.2.2.1 s.2.2.2.2.1 s.2.2.2.2.2.1 s.2.2.2.2.2.2.1 s.2.2.2.2.2.2.2.1 s.2.2.2.2.2.2.2.2) n s
noncomputable def ref01Module_B2 (n : Nat) (t4 : Int) (t5 : Bool) (t11 : Int) (m0 : DG) (m0_1 : DH) (m0_2 : DI) (m0_3 : DC) (m0_4 : DD) (m1 : DC) (m2 : DC) : Option (((Int × Bool × Int) × (DG × DH × DI × DC × DD) × DC × DC) ⊕ (((DC × Bool) × (DG × DH × DI × DC × DD) × DC × DC × DA × Int × Int × DA × DB) ⊕ ((Int × Bool) × (DG × DH × DI × DC × DD) × DC × DC))) :=
  bif (decide (t11 < (lenI m0_1))) then
    (getI m0_1 t11).bind fun x327 =>
    (ref01Types n x327.1 t4 4).bind fun r328 =>
    (ref01Types n x327.2.2.2.1 t4 (subI .i64 8 (lenI x327.1))).bind fun r329 =>
    bif t5 then
      bif r328.2 then
        bif r329.2 then
          (ref01Good n x327.2.1 x327.2.2.1 t4).bind fun r330 =>
          bif r330 then
            bif (decide ((lenI x327.2.2.2.2) ≥ 1)) then
              bif (!(decide ((lenI x327.2.2.2.2) ≤ 64))) then
                some (Sum.inr (Sum.inl ((([] : DE), false), ((m0, (m0_1, (m0_2, (m0_3, m0_4)))), (m1, (m2, (x327.1, (x327.2.1, (x327.2.2.1, (x327.2.2.2.1, x327.2.2.2.2))))))))))
              else
                bif (Nat.ble (List.length (m2 ++ r328.1)) 4294967296) then
                  (ref01Type n x327.2.1 x327.2.2.1).bind fun r331 =>
                  bif (Nat.ble (List.length ((m2 ++ r328.1) ++ r331)) 4294967296) then
                    bif (Nat.ble (List.length (((m2 ++ r328.1) ++ r331) ++ r329.1)) 4294967296) then
                      (ref01Var n (cvtI .u64 (lenI x327.2.2.2.2))).bind fun r332 =>
                      bif (Nat.ble (List.length ((((m2 ++ r328.1) ++ r331) ++ r329.1) ++ r332)) 4294967296) then
                        (ref01Module_W4 n ((t4, ((decide ((lenI x327.2.2.2.2) ≤ 64)), (t11, 0))), ((m0, (m0_1, (m0_2, (m0_3, m0_4)))), (m1, (((((m2 ++ r328.1) ++ r331) ++ r329.1) ++ r332), (x327.1, (x327.2.1, (x327.2.2.1, (x327.2.2.2.1, x327.2.2.2.2))))))))).bind fun r333 =>
                        Sum.rec (fun u334 =>
                          some (Sum.inr (Sum.inl ((u334.1.1, u334.1.2), ((u334.2.1.1, (u334.2.1.2.1, (u334.2.1.2.2.1, (u334.2.1.2.2.2.1, u334.2.1.2.2.2.2)))), (u334.2.2.1, (u334.2.2.2.1, (u334.2.2.2.2.1, (u334.2.2.2.2.2.1, (u334.2.2.2.2.2.2.1, (u334.2.2.2.2.2.2.2.1, u334.2.2.2.2.2.2.2.2))))))))))) (fun v335 =>
                          some (Sum.inl ((v335.1.1, (v335.1.2.1, (addI .i64 v335.1.2.2 1))), ((v335.2.1.1, (v335.2.1.2.1, (v335.2.1.2.2.1, (v335.2.1.2.2.2.1, v335.2.1.2.2.2.2)))), (v335.2.2.1, v335.2.2.2.1))))) r333
                      else none
                    else none
                  else none
                else none
            else
              some (Sum.inr (Sum.inl ((([] : DE), false), ((m0, (m0_1, (m0_2, (m0_3, m0_4)))), (m1, (m2, (x327.1, (x327.2.1, (x327.2.2.1, (x327.2.2.2.1, x327.2.2.2.2))))))))))
          else
            some (Sum.inr (Sum.inl ((([] : DE), false), ((m0, (m0_1, (m0_2, (m0_3, m0_4)))), (m1, (m2, (x327.1, (x327.2.1, (x327.2.2.1, (x327.2.2.2.1, x327.2.2.2.2))))))))))
        else
          some (Sum.inr (Sum.inl ((([] : DE), false), ((m0, (m0_1, (m0_2, (m0_3, m0_4)))), (m1, (m2, (x327.1, (x327.2.1, (x327.2.2.1, (x327.2.2.2.1, x327.2.2.2.2))))))))))
      else
        some (Sum.inr (Sum.inl ((([] : DE), false), ((m0, (m0_1, (m0_2, (m0_3, m0_4)))), (m1, (m2, (x327.1, (x327.2.1, (x327.2.2.1, (x327.2.2.2.1, x327.2.2.2.2))))))))))
    else
      some (Sum.inr (Sum.inl ((([] : DE), false), ((m0, (m0_1, (m0_2, (m0_3, m0_4)))), (m1, (m2, (x327.1, (x327.2.1, (x327.2.2.1, (x327.2.2.2.1, x327.2.2.2.2))))))))))
  else
    some (Sum.inr (Sum.inr ((t4, t5), ((m0, (m0_1, (m0_2, (m0_3, m0_4)))), (m1, m2)))))
noncomputable def ref01Module_W2 (n : Nat) (s : (Int × Bool × Int) × (DG × DH × DI × DC × DD) × DC × DC) : Option (((DC × Bool) × (DG × DH × DI × DC × DD) × DC × DC × DA × Int × Int × DA × DB) ⊕ ((Int × Bool) × (DG × DH × DI × DC × DD) × DC × DC)) := loopS (fun s => ref01Module_B2 n s.1.1 s.1.2.1 s.1.2.2 s.2.1.1 s.2.1.2.1 s.2.1.2.2.1 s.2.1.2.2.2.1 s.2.1.2.2.2.2 s.2.2.1 s.2.2.2) n s
noncomputable def ref01Module_B6 (n : Nat) (t4 : Int) (t5 : Bool) (t20 : Int) (m0 : DG) (m0_1 : DH) (m0_2 : DI) (m0_3 : DC) (m0_4 : DD) (m1 : DC) (m2 : DC) (m3 : DC) : Option (((Int × Bool × Int) × (DG × DH × DI × DC × DD) × DC × DC × DC) ⊕ (Bool × (DG × DH × DI × DC × DD) × DC × DC × DC)) :=
  bif (decide (t20 < (lenI m0_2))) then
    (getI m0_2 t20).bind fun x343 =>
    (ref01Types n x343.1 t4 4).bind fun r344 =>
    bif t5 then
      bif r344.2 then
        (getI m0_2 t20).bind fun x345 =>
        (ref01Good n x345.2.1 x345.2.2 t4).bind fun r346 =>
        bif (Nat.ble (List.length (m3 ++ r344.1)) 4294967296) then
          (getI m0_2 t20).bind fun x347 =>
          (ref01Type n x347.2.1 x347.2.2).bind fun r348 =>
          bif (Nat.ble (List.length ((m3 ++ r344.1) ++ r348)) 4294967296) then
            some (Sum.inl ((t4, (r346, (addI .i64 t20 1))), ((m0, (m0_1, (m0_2, (m0_3, m0_4)))), (m1, (m2, ((m3 ++ r344.1) ++ r348))))))
          else none
        else none
      else
        bif (Nat.ble (List.length (m3 ++ r344.1)) 4294967296) then
          (getI m0_2 t20).bind fun x349 =>
          (ref01Type n x349.2.1 x349.2.2).bind fun r350 =>
          bif (Nat.ble (List.length ((m3 ++ r344.1) ++ r350)) 4294967296) then
            some (Sum.inl ((t4, (false, (addI .i64 t20 1))), ((m0, (m0_1, (m0_2, (m0_3, m0_4)))), (m1, (m2, ((m3 ++ r344.1) ++ r350))))))
          else none
        else none
    else
      bif (Nat.ble (List.length (m3 ++ r344.1)) 4294967296) then
        (getI m0_2 t20).bind fun x351 =>
        (ref01Type n x351.2.1 x351.2.2).bind fun r352 =>
        bif (Nat.ble (List.length ((m3 ++ r344.1) ++ r352)) 4294967296) then
          some (Sum.inl ((t4, (false, (addI .i64 t20 1))), ((m0, (m0_1, (m0_2, (m0_3, m0_4)))), (m1, (m2, ((m3 ++ r344.1) ++ r352))))))
        else none
      else none
  else
    some (Sum.inr (t5, ((m0, (m0_1, (m0_2, (m0_3, m0_4)))), (m1, (m2, m3)))))
noncomputable def ref01Module_W6 (n : Nat) (s : (Int × Bool × Int) × (DG × DH × DI × DC × DD) × DC × DC × DC) : Option (Bool × (DG × DH × DI × DC × DD) × DC × DC × DC) := loopS (fun s => ref01Module_B6 n s.1.1 s.1.2.1 s.1.2.2 s.2.1.1 s.2.1.2.1 s.2.1.2.2.1 s.2.1.2.2.2.1 s.2.1.2.2.2.2 s.2.2.1 s.2.2.2.1 s.2.2.2.2) n s
noncomputable def ref01Fixed_B0 (n : Nat) (v_0 : Int) (n_1 : Int) (k_6 : Int) (m0 : DC) : Option (((Int × Int × Int) × DC) ⊕ DC) :=
  bif (decide (k_6 < n_1)) then
    bif (decide (k_6 < 8)) then
      bif (Nat.ble (List.length (m0 ++ ((cvtI .u8 (remI v_0 256)) :: ([] : DE)))) 4294967296) then
        some (Sum.inl (((quoI .u64 v_0 256), (n_1, (addI .i64 k_6 1))), (m0 ++ ((cvtI .u8 (remI v_0 256)) :: ([] : DE)))))
      else none
    else
      some (Sum.inr m0)
  else
    some (Sum.inr m0)
noncomputable def ref01Fixed_W0 (n : Nat) (s : (Int × Int × Int) × DC) : Option DC := loopS (fun s => ref01Fixed_B0 n s.1.1 s.1.2.1 s.1.2.2 s.2) n s
noncomputable def ref01Fixed (n : Nat) (v_0 : Int) (n_1 : Int) : Option DC :=
  (ref01Fixed_W0 n ((v_0, (n_1, 0)), ([] : DE))).bind fun r363 =>
  some r363
noncomputable def ref01Module_B8 (n : Nat) (t5 : Bool) (t24 : Int) (m0 : DG) (m0_1 : DH) (m0_2 : DI) (m0_3 : DC) (m0_4 : DD) (m1 : DC) (m2 : DC) (m3 : DC) (m4 : DC) : Option (((Bool × Int) × (DG × DH × DI × DC × DD) × DC × DC × DC × DC) ⊕ (Bool × (DG × DH × DI × DC × DD) × DC × DC × DC × DC)) :=
  bif (decide (t24 < (lenI m0_3))) then
    (getI m0_3 t24).bind fun x364 =>
    (ref01Fixed n x364 8).bind fun r365 =>
    bif (Nat.ble (List.length (m4 ++ r365)) 4294967296) then
      some (Sum.inl ((t5, (addI .i64 t24 1)), ((m0, (m0_1, (m0_2, (m0_3, m0_4)))), (m1, (m2, (m3, (m4 ++ r365)))))))
    else none
  else
    some (Sum.inr (t5, ((m0, (m0_1, (m0_2, (m0_3, m0_4)))), (m1, (m2, (m3, m4))))))
noncomputable def ref01Module_W8 (n : Nat) (s : (Bool × Int) × (DG × DH × DI × DC × DD) × DC × DC × DC × DC) : Option (Bool × (DG × DH × DI × DC × DD) × DC × DC × DC × DC) := loopS (fun s => ref01Module_B8 n s.1.1 s.1.2 s.2.1.1 s.2.1.2.1 s.2.1.2.2.1 s.2.1.2.2.2.1 s.2.1.2.2.2.2 s.2.2.1 s.2.2.2.1 s.2.2.2.2.1 s.2.2.2.2.2) n s
noncomputable def ref01Module_B10 (n : Nat) (t5 : Bool) (t26 : Int) (m0 : DG) (m0_1 : DH) (m0_2 : DI) (m0_3 : DC) (m0_4 : DD) (m1 : DC) (m2 : DC) (m3 : DC) (m4 : DC) (m5 : DC) : Option (((Bool × Int) × (DG × DH × DI × DC × DD) × DC × DC × DC × DC × DC) ⊕ (Bool × (DG × DH × DI × DC × DD) × DC × DC × DC × DC × DC)) :=
  bif (decide (t26 < (lenI m0_4))) then
    bif t5 then
      (getI m0_4 t26).bind fun x377 =>
      (getI m0_4 t26).bind fun x378 =>
      (ref01Var n (cvtI .u64 (lenS x378))).bind fun r379 =>
      bif (Nat.ble (List.length (m5 ++ r379)) 4294967296) then
        (getI m0_4 t26).bind fun x380 =>
        bif (Nat.ble (List.length ((m5 ++ r379) ++ (bytesInts x380))) 4294967296) then
          some (Sum.inl (((decide ((lenS x377) ≤ 32)), (addI .i64 t26 1)), ((m0, (m0_1, (m0_2, (m0_3, m0_4)))), (m1, (m2, (m3, (m4, ((m5 ++ r379) ++ (bytesInts x380)))))))))
        else none
      else none
    else
      (getI m0_4 t26).bind fun x381 =>
      (ref01Var n (cvtI .u64 (lenS x381))).bind fun r382 =>
      bif (Nat.ble (List.length (m5 ++ r382)) 4294967296) then
        (getI m0_4 t26).bind fun x383 =>
        bif (Nat.ble (List.length ((m5 ++ r382) ++ (bytesInts x383))) 4294967296) then
          some (Sum.inl ((false, (addI .i64 t26 1)), ((m0, (m0_1, (m0_2, (m0_3, m0_4)))), (m1, (m2, (m3, (m4, ((m5 ++ r382) ++ (bytesInts x383)))))))))
        else none
      else none
  else
    some (Sum.inr (t5, ((m0, (m0_1, (m0_2, (m0_3, m0_4)))), (m1, (m2, (m3, (m4, m5)))))))
noncomputable def ref01Module_W10 (n : Nat) (s : (Bool × Int) × (DG × DH × DI × DC × DD) × DC × DC × DC × DC × DC) : Option (Bool × (DG × DH × DI × DC × DD) × DC × DC × DC × DC × DC) := loopS (fun s => ref01Module_B10 n s.1.1 s.1.2 s.2.1.1 s.2.1.2.1 s.2.1.2.2.1 s.2.1.2.2.2.1 s.2.1.2.2.2.2 s.2.2.1 s.2.2.2.1 s.2.2.2.2.1 s.2.2.2.2.2.1 s.2.2.2.2.2.2) n s
noncomputable def ref01Join_B0 (n : Nat) (l_0 : DJ) (i_4 : Int) (m0 : DC) : Option (((DJ × Int) × DC) ⊕ DC) :=
  bif (decide (i_4 < (lenI l_0))) then
    (getI l_0 i_4).bind fun x397 =>
    (ref01Var n (cvtI .u64 (lenI x397))).bind fun r398 =>
    bif (Nat.ble (List.length (m0 ++ r398)) 4294967296) then
      (getI l_0 i_4).bind fun x399 =>
      bif (Nat.ble (List.length ((m0 ++ r398) ++ x399)) 4294967296) then
        some (Sum.inl ((l_0, (addI .i64 i_4 1)), ((m0 ++ r398) ++ x399)))
      else none
    else none
  else
    some (Sum.inr m0)
noncomputable def ref01Join_W0 (n : Nat) (s : (DJ × Int) × DC) : Option DC := loopS (fun s => ref01Join_B0 n s.1.1 s.1.2 s.2) n s
noncomputable def ref01Join (n : Nat) (l_0 : DJ) : Option DC :=
  (ref01Var n (cvtI .u64 (lenI l_0))).bind fun r400 =>
  (ref01Join_W0 n ((l_0, 0), r400)).bind fun r401 =>
  some r401
noncomputable def ref01Module (n : Nat) (t0 : DG) (t0_1 : DH) (t0_2 : DI) (t0_3 : DC) (t0_4 : DD) : Option (DC × Bool) :=
  bif (decide ((lenI t0) > 8)) then
    some (([] : DE), false)
  else
    bif (decide ((lenI t0_1) < 1)) then
      some (([] : DE), false)
    else
      bif (decide ((lenI t0_1) > 8)) then
        some (([] : DE), false)
      else
        bif (decide ((lenI t0_2) > 8)) then
          some (([] : DE), false)
        else
          bif (decide ((lenI t0_3) > 16)) then
            some (([] : DE), false)
          else
            bif (decide ((lenI t0_4) > 16)) then
              some (([] : DE), false)
            else
              (ref01Var n (cvtI .u64 (lenI t0))).bind fun r402 =>
              (ref01Module_W0 n (((lenI t0), (true, 0)), ((t0, (t0_1, (t0_2, (t0_3, t0_4)))), r402))).bind fun r403 =>
              (ref01Var n (cvtI .u64 (lenI r403.2.1.2.1))).bind fun r404 =>
              (ref01Module_W2 n ((r403.1.1, (r403.1.2, 0)), ((r403.2.1.1, (r403.2.1.2.1, (r403.2.1.2.2.1, (r403.2.1.2.2.2.1, r403.2.1.2.2.2.2)))), (r403.2.2, r404)))).bind fun r405 =>
              Sum.rec (fun u406 =>
                some (u406.1.1, u406.1.2)) (fun v407 =>
                (ref01Var n (cvtI .u64 (lenI v407.2.1.2.2.1))).bind fun r408 =>
                (ref01Module_W6 n ((v407.1.1, (v407.1.2, 0)), ((v407.2.1.1, (v407.2.1.2.1, (v407.2.1.2.2.1, (v407.2.1.2.2.2.1, v407.2.1.2.2.2.2)))), (v407.2.2.1, (v407.2.2.2, r408))))).bind fun r409 =>
                (ref01Var n (cvtI .u64 (lenI r409.2.1.2.2.2.1))).bind fun r410 =>
                (ref01Module_W8 n ((r409.1, 0), ((r409.2.1.1, (r409.2.1.2.1, (r409.2.1.2.2.1, (r409.2.1.2.2.2.1, r409.2.1.2.2.2.2)))), (r409.2.2.1, (r409.2.2.2.1, (r409.2.2.2.2, r410)))))).bind fun r411 =>
                (ref01Var n (cvtI .u64 (lenI r411.2.1.2.2.2.2))).bind fun r412 =>
                (ref01Module_W10 n ((r411.1, 0), ((r411.2.1.1, (r411.2.1.2.1, (r411.2.1.2.2.1, (r411.2.1.2.2.2.1, r411.2.1.2.2.2.2)))), (r411.2.2.1, (r411.2.2.2.1, (r411.2.2.2.2.1, (r411.2.2.2.2.2, r412))))))).bind fun r413 =>
                (ref01Join n (r413.2.2.1 :: (r413.2.2.2.1 :: (r413.2.2.2.2.1 :: (r413.2.2.2.2.2.1 :: (r413.2.2.2.2.2.2 :: ([] : DJ))))))).bind fun r414 =>
                some (r414, r413.1)) r405
noncomputable def ref01Named (n : Nat) (t0 : DG) (t0_1 : DH) (t0_2 : DI) (t0_3 : DC) (t0_4 : DD) (t1 : DA) (t1_1 : Int) (t1_2 : Int) (t1_3 : DA) (t1_4 : DB) (t2 : Int) (t2_1 : Int) (t2_2 : Int) : Option (Bool) :=
  bif (t2 == 0) then
    some (decide (t2_1 < (lenI t0_3)))
  else
    bif (t2 == 1) then
      some (decide (t2_1 < (lenI t0_4)))
    else
      bif (t2 == 3) then
        some (decide (t2_1 < (addI .i64 (lenI t1) (lenI t1_3))))
      else
        bif (t2 == 4) then
          some (decide (t2_1 < (addI .i64 (lenI t1) (lenI t1_3))))
        else
          bif (t2 == 23) then
            some (decide (t2_1 < (lenI t1_4)))
          else
            bif (t2 == 24) then
              some (decide (t2_1 < (lenI t1_4)))
            else
              bif (t2 == 25) then
                some (decide (t2_1 < (lenI t0_1)))
              else
                bif (t2 == 27) then
                  some (decide (t2_1 < (lenI t0_2)))
                else
                  bif (t2 == 28) then
                    some (decide (t2_1 < (lenI t0)))
                  else
                    bif (t2 == 29) then
                      bif (decide (t2_1 < (lenI t0))) then
                        (getI t0 t2_1).bind fun x418 =>
                        some (decide (t2_2 < (lenI x418)))
                      else
                        some false
                    else
                      bif (t2 == 30) then
                        bif (decide (t2_1 < (lenI t0))) then
                          (getI t0 t2_1).bind fun x419 =>
                          some (decide (t2_2 < (lenI x419)))
                        else
                          some false
                      else
                        some true
noncomputable def ref01Check_B2 (n : Nat) (t5 : Int) (t7 : Int) (m0 : DG) (m0_1 : DH) (m0_2 : DI) (m0_3 : DC) (m0_4 : DD) (m1 : DA) (m1_1 : Int) (m1_2 : Int) (m1_3 : DA) (m1_4 : DB) : Option (((Int × Int) × (DG × DH × DI × DC × DD) × DA × Int × Int × DA × DB) ⊕ ((Int × (DG × DH × DI × DC × DD) × DA × Int × Int × DA × DB) ⊕ (Int × (DG × DH × DI × DC × DD) × DA × Int × Int × DA × DB))) :=
  bif (decide (t7 < (lenI m1_4))) then
    (getI m1_4 t7).bind fun x420 =>
    (ref01Named n m0 m0_1 m0_2 m0_3 m0_4 m1 m1_1 m1_2 m1_3 m1_4 x420.1 x420.2.1 x420.2.2).bind fun r421 =>
    bif (!r421) then
      some (Sum.inr (Sum.inl (1, ((m0, (m0_1, (m0_2, (m0_3, m0_4)))), (m1, (m1_1, (m1_2, (m1_3, m1_4))))))))
    else
      some (Sum.inl ((t5, (addI .i64 t7 1)), ((m0, (m0_1, (m0_2, (m0_3, m0_4)))), (m1, (m1_1, (m1_2, (m1_3, m1_4)))))))
  else
    some (Sum.inr (Sum.inr (t5, ((m0, (m0_1, (m0_2, (m0_3, m0_4)))), (m1, (m1_1, (m1_2, (m1_3, m1_4))))))))
noncomputable def ref01Check_W2 (n : Nat) (s : (Int × Int) × (DG × DH × DI × DC × DD) × DA × Int × Int × DA × DB) : Option ((Int × (DG × DH × DI × DC × DD) × DA × Int × Int × DA × DB) ⊕ (Int × (DG × DH × DI × DC × DD) × DA × Int × Int × DA × DB)) := loopS (fun s => ref01Check_B2 n s.1.1 s.1.2 s.2.1.1 s.2.1.2.1 s.2.1.2.2.1 s.2.1.2.2.2.1 s.2.1.2.2.2.2 s.2.2.1 s.2.2.2.1 s.2.2.2.2.1 s.2.2.2.2.2.1 s.2.2.2.2.2.2) n s
noncomputable def ref01Check_B4 (n : Nat) (t5 : Int) (t8 : Int) (m0 : DG) (m0_1 : DH) (m0_2 : DI) (m0_3 : DC) (m0_4 : DD) (m1 : DA) (m1_1 : Int) (m1_2 : Int) (m1_3 : DA) (m1_4 : DB) : Option (((Int × Int) × (DG × DH × DI × DC × DD) × DA × Int × Int × DA × DB) ⊕ ((Int × (DG × DH × DI × DC × DD) × DA × Int × Int × DA × DB) ⊕ (Int × (DG × DH × DI × DC × DD) × DA × Int × Int × DA × DB))) :=
  bif (decide (t8 < (lenI m1_3))) then
    (getI m1_3 t8).bind fun x426 =>
    bif (x426.1 == 5) then
      some (Sum.inr (Sum.inl (1, ((m0, (m0_1, (m0_2, (m0_3, m0_4)))), (m1, (m1_1, (m1_2, (m1_3, m1_4))))))))
    else
      some (Sum.inl ((t5, (addI .i64 t8 1)), ((m0, (m0_1, (m0_2, (m0_3, m0_4)))), (m1, (m1_1, (m1_2, (m1_3, m1_4)))))))
  else
    some (Sum.inr (Sum.inr (t5, ((m0, (m0_1, (m0_2, (m0_3, m0_4)))), (m1, (m1_1, (m1_2, (m1_3, m1_4))))))))
noncomputable def ref01Check_W4 (n : Nat) (s : (Int × Int) × (DG × DH × DI × DC × DD) × DA × Int × Int × DA × DB) : Option ((Int × (DG × DH × DI × DC × DD) × DA × Int × Int × DA × DB) ⊕ (Int × (DG × DH × DI × DC × DD) × DA × Int × Int × DA × DB)) := loopS (fun s => ref01Check_B4 n s.1.1 s.1.2 s.2.1.1 s.2.1.2.1 s.2.1.2.2.1 s.2.1.2.2.2.1 s.2.1.2.2.2.2 s.2.2.1 s.2.2.2.1 s.2.2.2.2.1 s.2.2.2.2.2.1 s.2.2.2.2.2.2) n s
noncomputable def ref01Check_B0 (n : Nat) (t5 : Int) (m0 : DG) (m0_1 : DH) (m0_2 : DI) (m0_3 : DC) (m0_4 : DD) : Option ((Int × DG × DH × DI × DC × DD) ⊕ ((Int × (DG × DH × DI × DC × DD) × DA × Int × Int × DA × DB) ⊕ (DG × DH × DI × DC × DD))) :=
  bif (decide (t5 < (lenI m0_1))) then
    (getI m0_1 t5).bind fun x427 =>
    (ref01Check_W2 n ((t5, 0), ((m0, (m0_1, (m0_2, (m0_3, m0_4)))), (x427.1, (x427.2.1, (x427.2.2.1, (x427.2.2.2.1, x427.2.2.2.2))))))).bind fun r428 =>
    Sum.rec (fun u429 =>
      some (Sum.inr (Sum.inl (u429.1, ((u429.2.1.1, (u429.2.1.2.1, (u429.2.1.2.2.1, (u429.2.1.2.2.2.1, u429.2.1.2.2.2.2)))), (u429.2.2.1, (u429.2.2.2.1, (u429.2.2.2.2.1, (u429.2.2.2.2.2.1, u429.2.2.2.2.2.2))))))))) (fun v430 =>
      (ref01Check_W4 n ((v430.1, 0), ((v430.2.1.1, (v430.2.1.2.1, (v430.2.1.2.2.1, (v430.2.1.2.2.2.1, v430.2.1.2.2.2.2)))), (v430.2.2.1, (v430.2.2.2.1, (v430.2.2.2.2.1, (v430.2.2.2.2.2.1, v430.2.2.2.2.2.2))))))).bind fun r431 =>
      Sum.rec (fun u432 =>
        some (Sum.inr (Sum.inl (u432.1, ((u432.2.1.1, (u432.2.1.2.1, (u432.2.1.2.2.1, (u432.2.1.2.2.2.1, u432.2.1.2.2.2.2)))), (u432.2.2.1, (u432.2.2.2.1, (u432.2.2.2.2.1, (u432.2.2.2.2.2.1, u432.2.2.2.2.2.2))))))))) (fun v433 =>
        some (Sum.inl ((addI .i64 v433.1 1), (v433.2.1.1, (v433.2.1.2.1, (v433.2.1.2.2.1, (v433.2.1.2.2.2.1, v433.2.1.2.2.2.2))))))) r431) r428
  else
    some (Sum.inr (Sum.inr (m0, (m0_1, (m0_2, (m0_3, m0_4))))))
noncomputable def ref01Check_W0 (n : Nat) (s : Int × DG × DH × DI × DC × DD) : Option ((Int × (DG × DH × DI × DC × DD) × DA × Int × Int × DA × DB) ⊕ (DG × DH × DI × DC × DD)) := loopS (fun s => ref01Check_B0 n s.1 s.2.1 s.2.2.1 s.2.2.2.1 s.2.2.2.2.1 s.2.2.2.2.2) n s
noncomputable def ref01Host (n : Nat) (t_0 : Int) (t_0_1 : Int) : Option (Bool) :=
  bif (t_0 == 1) then
    some true
  else
    some (t_0 == 5)
noncomputable def ref01Check_B8 (n : Nat) (t9 : Int) (t10 : Bool) (t11 : Int) (m0 : DG) (m0_1 : DH) (m0_2 : DI) (m0_3 : DC) (m0_4 : DD) : Option (((Int × Bool × Int) × DG × DH × DI × DC × DD) ⊕ ((Int × Bool) × DG × DH × DI × DC × DD)) :=
  (getI m0_2 t9).bind fun x441 =>
  bif (decide (t11 < (lenI x441.1))) then
    bif t10 then
      (getI m0_2 t9).bind fun x442 =>
      (getI x442.1 t11).bind fun x443 =>
      (ref01Host n x443.1 x443.2).bind fun r444 =>
      some (Sum.inl ((t9, (r444, (addI .i64 t11 1))), (m0, (m0_1, (m0_2, (m0_3, m0_4))))))
    else
      some (Sum.inl ((t9, (false, (addI .i64 t11 1))), (m0, (m0_1, (m0_2, (m0_3, m0_4))))))
  else
    some (Sum.inr ((t9, t10), (m0, (m0_1, (m0_2, (m0_3, m0_4))))))
noncomputable def ref01Check_W8 (n : Nat) (s : (Int × Bool × Int) × DG × DH × DI × DC × DD) : Option ((Int × Bool) × DG × DH × DI × DC × DD) := loopS (fun s => ref01Check_B8 n s.1.1 s.1.2.1 s.1.2.2 s.2.1 s.2.2.1 s.2.2.2.1 s.2.2.2.2.1 s.2.2.2.2.2) n s
noncomputable def ref01Check_B6 (n : Nat) (t9 : Int) (m0 : DG) (m0_1 : DH) (m0_2 : DI) (m0_3 : DC) (m0_4 : DD) : Option ((Int × DG × DH × DI × DC × DD) ⊕ ((Int × DG × DH × DI × DC × DD) ⊕ (DG × DH × DI × DC × DD))) :=
  bif (decide (t9 < (lenI m0_2))) then
    (getI m0_2 t9).bind fun x445 =>
    (ref01Host n x445.2.1 x445.2.2).bind fun r446 =>
    (ref01Check_W8 n ((t9, (r446, 0)), (m0, (m0_1, (m0_2, (m0_3, m0_4)))))).bind fun r447 =>
    bif (!r447.1.2) then
      some (Sum.inr (Sum.inl (1, (r447.2.1, (r447.2.2.1, (r447.2.2.2.1, (r447.2.2.2.2.1, r447.2.2.2.2.2)))))))
    else
      some (Sum.inl ((addI .i64 r447.1.1 1), (r447.2.1, (r447.2.2.1, (r447.2.2.2.1, (r447.2.2.2.2.1, r447.2.2.2.2.2))))))
  else
    some (Sum.inr (Sum.inr (m0, (m0_1, (m0_2, (m0_3, m0_4))))))
noncomputable def ref01Check_W6 (n : Nat) (s : Int × DG × DH × DI × DC × DD) : Option ((Int × DG × DH × DI × DC × DD) ⊕ (DG × DH × DI × DC × DD)) := loopS (fun s => ref01Check_B6 n s.1 s.2.1 s.2.2.1 s.2.2.2.1 s.2.2.2.2.1 s.2.2.2.2.2) n s
noncomputable def ref01Check (n : Nat) (t0 : DG) (t0_1 : DH) (t0_2 : DI) (t0_3 : DC) (t0_4 : DD) : Option (Int) :=
  (ref01Module n t0 t0_1 t0_2 t0_3 t0_4).bind fun r448 =>
  bif (!r448.2) then
    some 2
  else
    (ref01Check_W0 n (0, (t0, (t0_1, (t0_2, (t0_3, t0_4)))))).bind fun r449 =>
    Sum.rec (fun u450 =>
      some u450.1) (fun v451 =>
      (ref01Check_W6 n (0, (v451.1, (v451.2.1, (v451.2.2.1, (v451.2.2.2.1, v451.2.2.2.2)))))).bind fun r452 =>
      Sum.rec (fun u453 =>
        some u453.1) (fun v454 =>
        some 0) r452) r449
noncomputable def saneMain (n : Nat) (m_0 : DG) (m_0_1 : DH) (m_0_2 : DI) (m_0_3 : DC) (m_0_4 : DD) : Option (Bool) :=
  (saneCheck n m_0 m_0_1 m_0_2 m_0_3 m_0_4).bind fun r460 =>
  bif (r460 == 0) then
    (getI m_0_1 0).bind fun x461 =>
    bif ((lenI x461.1) == 0) then
      (getI m_0_1 0).bind fun x462 =>
      some (x462.2.1 == 1)
    else
      some false
  else
    some false
noncomputable def ref01Main (n : Nat) (m_0 : DG) (m_0_1 : DH) (m_0_2 : DI) (m_0_3 : DC) (m_0_4 : DD) : Option (Bool) :=
  (ref01Check n m_0 m_0_1 m_0_2 m_0_3 m_0_4).bind fun r469 =>
  bif (r469 == 0) then
    (getI m_0_1 0).bind fun x470 =>
    bif ((lenI x470.1) == 0) then
      (getI m_0_1 0).bind fun x471 =>
      some (x471.2.1 == 1)
    else
      some false
  else
    some false
noncomputable def law07SaneChecks (n : Nat) (m_0 : DG) (m_0_1 : DH) (m_0_2 : DI) (m_0_3 : DC) (m_0_4 : DD) : Option (Bool) :=
  (ref01Light n m_0 m_0_1 m_0_2 m_0_3 m_0_4).bind fun r472 =>
  bif (!r472) then
    (law07Answers n).bind fun r473 =>
    some r473
  else
    (law07Answers n).bind fun r474 =>
    bif r474 then
      (saneCheck n m_0 m_0_1 m_0_2 m_0_3 m_0_4).bind fun r475 =>
      (ref01Check n m_0 m_0_1 m_0_2 m_0_3 m_0_4).bind fun r476 =>
      bif (r475 == r476) then
        (saneMain n m_0 m_0_1 m_0_2 m_0_3 m_0_4).bind fun r477 =>
        (ref01Main n m_0 m_0_1 m_0_2 m_0_3 m_0_4).bind fun r478 =>
        some (r477 == r478)
      else
        some false
    else
      some false
noncomputable def law07SaneMain (n : Nat) (ret_0 : Int) (ret_0_1 : Int) (args_1 : DA) : Option (Bool) :=
  bif (decide ((lenI args_1) > 10)) then
    (law07Answers n).bind fun r481 =>
    some r481
  else
    (law07Answers n).bind fun r482 =>
    bif r482 then
      (saneMain n (([] : List ((Int) × Int)) :: ([] : List (List ((Int) × Int)))) ((args_1, (ret_0, (ret_0_1, (([] : List ((Int) × Int)), ((26, (0, 0)) :: ([] : List ((Int) × (Int) × Int))))))) :: ([] : List ((List ((Int) × Int)) × (Int) × (Int) × (List ((Int) × Int)) × List ((Int) × (Int) × Int)))) ([] : List ((List ((Int) × Int)) × (Int) × Int)) ([] : DE) ([] : DF)).bind fun r483 =>
      bif ((lenI args_1) == 0) then
        some (r483 == ((ret_0 == 1) && (ret_0_1 == 0)))
      else
        some (r483 == false)
    else
      some false
noncomputable def law07SaneHandles (n : Nat) (t0 : Int) (t0_1 : Int) (t1 : Int) : Option (Bool) :=
  (ref01Good n t0 t0_1 1).bind fun r494 =>
  bif (!r494) then
    (law07Answers n).bind fun r495 =>
    some r495
  else
    bif (t0 == 1) then
      bif ((remI t1 4) == 0) then
        (((([] : List ((Int) × Int)), (1, (0, (([] : List ((Int) × Int)), ((26, (0, 0)) :: ([] : List ((Int) × (Int) × Int))))))) :: ((([] : List ((Int) × Int)), (1, (0, (([] : List ((Int) × Int)), ((26, (0, 0)) :: ([] : List ((Int) × (Int) × Int))))))) :: ([] : List ((List ((Int) × Int)) × (Int) × (Int) × (List ((Int) × Int)) × List ((Int) × (Int) × Int)))))[1]?).bind fun x496 =>
        (law07Answers n).bind fun r497 =>
        bif r497 then
          (saneCheck n (([] : List ((Int) × Int)) :: ([] : List (List ((Int) × Int)))) (List.set ((([] : List ((Int) × Int)), (1, (0, (([] : List ((Int) × Int)), ((26, (0, 0)) :: ([] : List ((Int) × (Int) × Int))))))) :: ((([] : List ((Int) × Int)), (1, (0, (([] : List ((Int) × Int)), ((26, (0, 0)) :: ([] : List ((Int) × (Int) × Int))))))) :: ([] : List ((List ((Int) × Int)) × (Int) × (Int) × (List ((Int) × Int)) × List ((Int) × (Int) × Int))))) 1 (((t0, t0_1) :: ([] : List ((Int) × Int))), (x496.2.1, (x496.2.2.1, (x496.2.2.2.1, x496.2.2.2.2))))) ([] : List ((List ((Int) × Int)) × (Int) × Int)) ([] : DE) ([] : DF)).bind fun r498 =>
          bif (r498 == 0) then
            (saneMain n (([] : List ((Int) × Int)) :: ([] : List (List ((Int) × Int)))) (List.set ((([] : List ((Int) × Int)), (1, (0, (([] : List ((Int) × Int)), ((26, (0, 0)) :: ([] : List ((Int) × (Int) × Int))))))) :: ((([] : List ((Int) × Int)), (1, (0, (([] : List ((Int) × Int)), ((26, (0, 0)) :: ([] : List ((Int) × (Int) × Int))))))) :: ([] : List ((List ((Int) × Int)) × (Int) × (Int) × (List ((Int) × Int)) × List ((Int) × (Int) × Int))))) 1 (((t0, t0_1) :: ([] : List ((Int) × Int))), (x496.2.1, (x496.2.2.1, (x496.2.2.2.1, x496.2.2.2.2))))) ([] : List ((List ((Int) × Int)) × (Int) × Int)) ([] : DE) ([] : DF)).bind fun r499 =>
            some (r499 == true)
          else
            some false
        else
          some false
      else
        bif ((remI t1 4) == 1) then
          (((([] : List ((Int) × Int)), (1, (0, (([] : List ((Int) × Int)), ((26, (0, 0)) :: ([] : List ((Int) × (Int) × Int))))))) :: ((([] : List ((Int) × Int)), (1, (0, (([] : List ((Int) × Int)), ((26, (0, 0)) :: ([] : List ((Int) × (Int) × Int))))))) :: ([] : List ((List ((Int) × Int)) × (Int) × (Int) × (List ((Int) × Int)) × List ((Int) × (Int) × Int)))))[1]?).bind fun x500 =>
          bif (t0 == 5) then
            (law07Answers n).bind fun r501 =>
            bif r501 then
              (saneCheck n (([] : List ((Int) × Int)) :: ([] : List (List ((Int) × Int)))) (List.set ((([] : List ((Int) × Int)), (1, (0, (([] : List ((Int) × Int)), ((26, (0, 0)) :: ([] : List ((Int) × (Int) × Int))))))) :: ((([] : List ((Int) × Int)), (1, (0, (([] : List ((Int) × Int)), ((26, (0, 0)) :: ([] : List ((Int) × (Int) × Int))))))) :: ([] : List ((List ((Int) × Int)) × (Int) × (Int) × (List ((Int) × Int)) × List ((Int) × (Int) × Int))))) 1 (x500.1, (x500.2.1, (x500.2.2.1, (((t0, t0_1) :: ([] : List ((Int) × Int))), x500.2.2.2.2))))) ([] : List ((List ((Int) × Int)) × (Int) × Int)) ([] : DE) ([] : DF)).bind fun r502 =>
              bif (r502 == 1) then
                (saneMain n (([] : List ((Int) × Int)) :: ([] : List (List ((Int) × Int)))) (List.set ((([] : List ((Int) × Int)), (1, (0, (([] : List ((Int) × Int)), ((26, (0, 0)) :: ([] : List ((Int) × (Int) × Int))))))) :: ((([] : List ((Int) × Int)), (1, (0, (([] : List ((Int) × Int)), ((26, (0, 0)) :: ([] : List ((Int) × (Int) × Int))))))) :: ([] : List ((List ((Int) × Int)) × (Int) × (Int) × (List ((Int) × Int)) × List ((Int) × (Int) × Int))))) 1 (x500.1, (x500.2.1, (x500.2.2.1, (((t0, t0_1) :: ([] : List ((Int) × Int))), x500.2.2.2.2))))) ([] : List ((List ((Int) × Int)) × (Int) × Int)) ([] : DE) ([] : DF)).bind fun r503 =>
                some (r503 == false)
              else
                some false
            else
              some false
          else
            (law07Answers n).bind fun r504 =>
            bif r504 then
              (saneCheck n (([] : List ((Int) × Int)) :: ([] : List (List ((Int) × Int)))) (List.set ((([] : List ((Int) × Int)), (1, (0, (([] : List ((Int) × Int)), ((26, (0, 0)) :: ([] : List ((Int) × (Int) × Int))))))) :: ((([] : List ((Int) × Int)), (1, (0, (([] : List ((Int) × Int)), ((26, (0, 0)) :: ([] : List ((Int) × (Int) × Int))))))) :: ([] : List ((List ((Int) × Int)) × (Int) × (Int) × (List ((Int) × Int)) × List ((Int) × (Int) × Int))))) 1 (x500.1, (x500.2.1, (x500.2.2.1, (((t0, t0_1) :: ([] : List ((Int) × Int))), x500.2.2.2.2))))) ([] : List ((List ((Int) × Int)) × (Int) × Int)) ([] : DE) ([] : DF)).bind fun r505 =>
              bif (r505 == 0) then
                (saneMain n (([] : List ((Int) × Int)) :: ([] : List (List ((Int) × Int)))) (List.set ((([] : List ((Int) × Int)), (1, (0, (([] : List ((Int) × Int)), ((26, (0, 0)) :: ([] : List ((Int) × (Int) × Int))))))) :: ((([] : List ((Int) × Int)), (1, (0, (([] : List ((Int) × Int)), ((26, (0, 0)) :: ([] : List ((Int) × (Int) × Int))))))) :: ([] : List ((List ((Int) × Int)) × (Int) × (Int) × (List ((Int) × Int)) × List ((Int) × (Int) × Int))))) 1 (x500.1, (x500.2.1, (x500.2.2.1, (((t0, t0_1) :: ([] : List ((Int) × Int))), x500.2.2.2.2))))) ([] : List ((List ((Int) × Int)) × (Int) × Int)) ([] : DE) ([] : DF)).bind fun r506 =>
                some (r506 == true)
              else
                some false
            else
              some false
        else
          bif ((remI t1 4) == 2) then
            (law07Answers n).bind fun r507 =>
            bif r507 then
              (saneCheck n (([] : List ((Int) × Int)) :: ([] : List (List ((Int) × Int)))) ((([] : List ((Int) × Int)), (1, (0, (([] : List ((Int) × Int)), ((26, (0, 0)) :: ([] : List ((Int) × (Int) × Int))))))) :: ((([] : List ((Int) × Int)), (1, (0, (([] : List ((Int) × Int)), ((26, (0, 0)) :: ([] : List ((Int) × (Int) × Int))))))) :: ([] : List ((List ((Int) × Int)) × (Int) × (Int) × (List ((Int) × Int)) × List ((Int) × (Int) × Int))))) ((((t0, t0_1) :: ([] : List ((Int) × Int))), (1, 0)) :: ([] : List ((List ((Int) × Int)) × (Int) × Int))) ([] : DE) ([] : DF)).bind fun r508 =>
              bif (r508 == 0) then
                (saneMain n (([] : List ((Int) × Int)) :: ([] : List (List ((Int) × Int)))) ((([] : List ((Int) × Int)), (1, (0, (([] : List ((Int) × Int)), ((26, (0, 0)) :: ([] : List ((Int) × (Int) × Int))))))) :: ((([] : List ((Int) × Int)), (1, (0, (([] : List ((Int) × Int)), ((26, (0, 0)) :: ([] : List ((Int) × (Int) × Int))))))) :: ([] : List ((List ((Int) × Int)) × (Int) × (Int) × (List ((Int) × Int)) × List ((Int) × (Int) × Int))))) ((((t0, t0_1) :: ([] : List ((Int) × Int))), (1, 0)) :: ([] : List ((List ((Int) × Int)) × (Int) × Int))) ([] : DE) ([] : DF)).bind fun r509 =>
                some (r509 == true)
              else
                some false
            else
              some false
          else
            bif ((remI t1 4) == 3) then
              (law07Answers n).bind fun r510 =>
              bif r510 then
                (saneCheck n (([] : List ((Int) × Int)) :: ([] : List (List ((Int) × Int)))) ((([] : List ((Int) × Int)), (1, (0, (([] : List ((Int) × Int)), ((26, (0, 0)) :: ([] : List ((Int) × (Int) × Int))))))) :: ((([] : List ((Int) × Int)), (1, (0, (([] : List ((Int) × Int)), ((26, (0, 0)) :: ([] : List ((Int) × (Int) × Int))))))) :: ([] : List ((List ((Int) × Int)) × (Int) × (Int) × (List ((Int) × Int)) × List ((Int) × (Int) × Int))))) ((([] : List ((Int) × Int)), (t0, t0_1)) :: ([] : List ((List ((Int) × Int)) × (Int) × Int))) ([] : DE) ([] : DF)).bind fun r511 =>
                bif (r511 == 0) then
                  (saneMain n (([] : List ((Int) × Int)) :: ([] : List (List ((Int) × Int)))) ((([] : List ((Int) × Int)), (1, (0, (([] : List ((Int) × Int)), ((26, (0, 0)) :: ([] : List ((Int) × (Int) × Int))))))) :: ((([] : List ((Int) × Int)), (1, (0, (([] : List ((Int) × Int)), ((26, (0, 0)) :: ([] : List ((Int) × (Int) × Int))))))) :: ([] : List ((List ((Int) × Int)) × (Int) × (Int) × (List ((Int) × Int)) × List ((Int) × (Int) × Int))))) ((([] : List ((Int) × Int)), (t0, t0_1)) :: ([] : List ((List ((Int) × Int)) × (Int) × Int))) ([] : DE) ([] : DF)).bind fun r512 =>
                  some (r512 == true)
                else
                  some false
              else
                some false
            else
              (law07Answers n).bind fun r513 =>
              bif r513 then
                (saneCheck n (([] : List ((Int) × Int)) :: ([] : List (List ((Int) × Int)))) ((([] : List ((Int) × Int)), (1, (0, (([] : List ((Int) × Int)), ((26, (0, 0)) :: ([] : List ((Int) × (Int) × Int))))))) :: ((([] : List ((Int) × Int)), (1, (0, (([] : List ((Int) × Int)), ((26, (0, 0)) :: ([] : List ((Int) × (Int) × Int))))))) :: ([] : List ((List ((Int) × Int)) × (Int) × (Int) × (List ((Int) × Int)) × List ((Int) × (Int) × Int))))) ([] : List ((List ((Int) × Int)) × (Int) × Int)) ([] : DE) ([] : DF)).bind fun r514 =>
                bif (r514 == 0) then
                  (saneMain n (([] : List ((Int) × Int)) :: ([] : List (List ((Int) × Int)))) ((([] : List ((Int) × Int)), (1, (0, (([] : List ((Int) × Int)), ((26, (0, 0)) :: ([] : List ((Int) × (Int) × Int))))))) :: ((([] : List ((Int) × Int)), (1, (0, (([] : List ((Int) × Int)), ((26, (0, 0)) :: ([] : List ((Int) × (Int) × Int))))))) :: ([] : List ((List ((Int) × Int)) × (Int) × (Int) × (List ((Int) × Int)) × List ((Int) × (Int) × Int))))) ([] : List ((List ((Int) × Int)) × (Int) × Int)) ([] : DE) ([] : DF)).bind fun r515 =>
                  some (r515 == true)
                else
                  some false
              else
                some false
    else
      bif ((remI t1 4) == 0) then
        (((([] : List ((Int) × Int)), (1, (0, (([] : List ((Int) × Int)), ((26, (0, 0)) :: ([] : List ((Int) × (Int) × Int))))))) :: ((([] : List ((Int) × Int)), (1, (0, (([] : List ((Int) × Int)), ((26, (0, 0)) :: ([] : List ((Int) × (Int) × Int))))))) :: ([] : List ((List ((Int) × Int)) × (Int) × (Int) × (List ((Int) × Int)) × List ((Int) × (Int) × Int)))))[1]?).bind fun x516 =>
        (law07Answers n).bind fun r517 =>
        bif r517 then
          (saneCheck n (([] : List ((Int) × Int)) :: ([] : List (List ((Int) × Int)))) (List.set ((([] : List ((Int) × Int)), (1, (0, (([] : List ((Int) × Int)), ((26, (0, 0)) :: ([] : List ((Int) × (Int) × Int))))))) :: ((([] : List ((Int) × Int)), (1, (0, (([] : List ((Int) × Int)), ((26, (0, 0)) :: ([] : List ((Int) × (Int) × Int))))))) :: ([] : List ((List ((Int) × Int)) × (Int) × (Int) × (List ((Int) × Int)) × List ((Int) × (Int) × Int))))) 1 (((t0, t0_1) :: ([] : List ((Int) × Int))), (x516.2.1, (x516.2.2.1, (x516.2.2.2.1, x516.2.2.2.2))))) ([] : List ((List ((Int) × Int)) × (Int) × Int)) ([] : DE) ([] : DF)).bind fun r518 =>
          bif (r518 == 0) then
            (saneMain n (([] : List ((Int) × Int)) :: ([] : List (List ((Int) × Int)))) (List.set ((([] : List ((Int) × Int)), (1, (0, (([] : List ((Int) × Int)), ((26, (0, 0)) :: ([] : List ((Int) × (Int) × Int))))))) :: ((([] : List ((Int) × Int)), (1, (0, (([] : List ((Int) × Int)), ((26, (0, 0)) :: ([] : List ((Int) × (Int) × Int))))))) :: ([] : List ((List ((Int) × Int)) × (Int) × (Int) × (List ((Int) × Int)) × List ((Int) × (Int) × Int))))) 1 (((t0, t0_1) :: ([] : List ((Int) × Int))), (x516.2.1, (x516.2.2.1, (x516.2.2.2.1, x516.2.2.2.2))))) ([] : List ((List ((Int) × Int)) × (Int) × Int)) ([] : DE) ([] : DF)).bind fun r519 =>
            some (r519 == true)
          else
            some false
        else
          some false
      else
        bif ((remI t1 4) == 1) then
          (((([] : List ((Int) × Int)), (1, (0, (([] : List ((Int) × Int)), ((26, (0, 0)) :: ([] : List ((Int) × (Int) × Int))))))) :: ((([] : List ((Int) × Int)), (1, (0, (([] : List ((Int) × Int)), ((26, (0, 0)) :: ([] : List ((Int) × (Int) × Int))))))) :: ([] : List ((List ((Int) × Int)) × (Int) × (Int) × (List ((Int) × Int)) × List ((Int) × (Int) × Int)))))[1]?).bind fun x520 =>
          bif (t0 == 5) then
            (law07Answers n).bind fun r521 =>
            bif r521 then
              (saneCheck n (([] : List ((Int) × Int)) :: ([] : List (List ((Int) × Int)))) (List.set ((([] : List ((Int) × Int)), (1, (0, (([] : List ((Int) × Int)), ((26, (0, 0)) :: ([] : List ((Int) × (Int) × Int))))))) :: ((([] : List ((Int) × Int)), (1, (0, (([] : List ((Int) × Int)), ((26, (0, 0)) :: ([] : List ((Int) × (Int) × Int))))))) :: ([] : List ((List ((Int) × Int)) × (Int) × (Int) × (List ((Int) × Int)) × List ((Int) × (Int) × Int))))) 1 (x520.1, (x520.2.1, (x520.2.2.1, (((t0, t0_1) :: ([] : List ((Int) × Int))), x520.2.2.2.2))))) ([] : List ((List ((Int) × Int)) × (Int) × Int)) ([] : DE) ([] : DF)).bind fun r522 =>
              bif (r522 == 1) then
                (saneMain n (([] : List ((Int) × Int)) :: ([] : List (List ((Int) × Int)))) (List.set ((([] : List ((Int) × Int)), (1, (0, (([] : List ((Int) × Int)), ((26, (0, 0)) :: ([] : List ((Int) × (Int) × Int))))))) :: ((([] : List ((Int) × Int)), (1, (0, (([] : List ((Int) × Int)), ((26, (0, 0)) :: ([] : List ((Int) × (Int) × Int))))))) :: ([] : List ((List ((Int) × Int)) × (Int) × (Int) × (List ((Int) × Int)) × List ((Int) × (Int) × Int))))) 1 (x520.1, (x520.2.1, (x520.2.2.1, (((t0, t0_1) :: ([] : List ((Int) × Int))), x520.2.2.2.2))))) ([] : List ((List ((Int) × Int)) × (Int) × Int)) ([] : DE) ([] : DF)).bind fun r523 =>
                some (r523 == false)
              else
                some false
            else
              some false
          else
            (law07Answers n).bind fun r524 =>
            bif r524 then
              (saneCheck n (([] : List ((Int) × Int)) :: ([] : List (List ((Int) × Int)))) (List.set ((([] : List ((Int) × Int)), (1, (0, (([] : List ((Int) × Int)), ((26, (0, 0)) :: ([] : List ((Int) × (Int) × Int))))))) :: ((([] : List ((Int) × Int)), (1, (0, (([] : List ((Int) × Int)), ((26, (0, 0)) :: ([] : List ((Int) × (Int) × Int))))))) :: ([] : List ((List ((Int) × Int)) × (Int) × (Int) × (List ((Int) × Int)) × List ((Int) × (Int) × Int))))) 1 (x520.1, (x520.2.1, (x520.2.2.1, (((t0, t0_1) :: ([] : List ((Int) × Int))), x520.2.2.2.2))))) ([] : List ((List ((Int) × Int)) × (Int) × Int)) ([] : DE) ([] : DF)).bind fun r525 =>
              bif (r525 == 0) then
                (saneMain n (([] : List ((Int) × Int)) :: ([] : List (List ((Int) × Int)))) (List.set ((([] : List ((Int) × Int)), (1, (0, (([] : List ((Int) × Int)), ((26, (0, 0)) :: ([] : List ((Int) × (Int) × Int))))))) :: ((([] : List ((Int) × Int)), (1, (0, (([] : List ((Int) × Int)), ((26, (0, 0)) :: ([] : List ((Int) × (Int) × Int))))))) :: ([] : List ((List ((Int) × Int)) × (Int) × (Int) × (List ((Int) × Int)) × List ((Int) × (Int) × Int))))) 1 (x520.1, (x520.2.1, (x520.2.2.1, (((t0, t0_1) :: ([] : List ((Int) × Int))), x520.2.2.2.2))))) ([] : List ((List ((Int) × Int)) × (Int) × Int)) ([] : DE) ([] : DF)).bind fun r526 =>
                some (r526 == true)
              else
                some false
            else
              some false
        else
          bif ((remI t1 4) == 2) then
            bif (!(t0 == 5)) then
              (law07Answers n).bind fun r527 =>
              bif r527 then
                (saneCheck n (([] : List ((Int) × Int)) :: ([] : List (List ((Int) × Int)))) ((([] : List ((Int) × Int)), (1, (0, (([] : List ((Int) × Int)), ((26, (0, 0)) :: ([] : List ((Int) × (Int) × Int))))))) :: ((([] : List ((Int) × Int)), (1, (0, (([] : List ((Int) × Int)), ((26, (0, 0)) :: ([] : List ((Int) × (Int) × Int))))))) :: ([] : List ((List ((Int) × Int)) × (Int) × (Int) × (List ((Int) × Int)) × List ((Int) × (Int) × Int))))) ((((t0, t0_1) :: ([] : List ((Int) × Int))), (1, 0)) :: ([] : List ((List ((Int) × Int)) × (Int) × Int))) ([] : DE) ([] : DF)).bind fun r528 =>
                bif (r528 == 1) then
                  (saneMain n (([] : List ((Int) × Int)) :: ([] : List (List ((Int) × Int)))) ((([] : List ((Int) × Int)), (1, (0, (([] : List ((Int) × Int)), ((26, (0, 0)) :: ([] : List ((Int) × (Int) × Int))))))) :: ((([] : List ((Int) × Int)), (1, (0, (([] : List ((Int) × Int)), ((26, (0, 0)) :: ([] : List ((Int) × (Int) × Int))))))) :: ([] : List ((List ((Int) × Int)) × (Int) × (Int) × (List ((Int) × Int)) × List ((Int) × (Int) × Int))))) ((((t0, t0_1) :: ([] : List ((Int) × Int))), (1, 0)) :: ([] : List ((List ((Int) × Int)) × (Int) × Int))) ([] : DE) ([] : DF)).bind fun r529 =>
                  some (r529 == false)
                else
                  some false
              else
                some false
            else
              (law07Answers n).bind fun r530 =>
              bif r530 then
                (saneCheck n (([] : List ((Int) × Int)) :: ([] : List (List ((Int) × Int)))) ((([] : List ((Int) × Int)), (1, (0, (([] : List ((Int) × Int)), ((26, (0, 0)) :: ([] : List ((Int) × (Int) × Int))))))) :: ((([] : List ((Int) × Int)), (1, (0, (([] : List ((Int) × Int)), ((26, (0, 0)) :: ([] : List ((Int) × (Int) × Int))))))) :: ([] : List ((List ((Int) × Int)) × (Int) × (Int) × (List ((Int) × Int)) × List ((Int) × (Int) × Int))))) ((((t0, t0_1) :: ([] : List ((Int) × Int))), (1, 0)) :: ([] : List ((List ((Int) × Int)) × (Int) × Int))) ([] : DE) ([] : DF)).bind fun r531 =>
                bif (r531 == 0) then
                  (saneMain n (([] : List ((Int) × Int)) :: ([] : List (List ((Int) × Int)))) ((([] : List ((Int) × Int)), (1, (0, (([] : List ((Int) × Int)), ((26, (0, 0)) :: ([] : List ((Int) × (Int) × Int))))))) :: ((([] : List ((Int) × Int)), (1, (0, (([] : List ((Int) × Int)), ((26, (0, 0)) :: ([] : List ((Int) × (Int) × Int))))))) :: ([] : List ((List ((Int) × Int)) × (Int) × (Int) × (List ((Int) × Int)) × List ((Int) × (Int) × Int))))) ((((t0, t0_1) :: ([] : List ((Int) × Int))), (1, 0)) :: ([] : List ((List ((Int) × Int)) × (Int) × Int))) ([] : DE) ([] : DF)).bind fun r532 =>
                  some (r532 == true)
                else
                  some false
              else
                some false
          else
            bif ((remI t1 4) == 3) then
              bif (!(t0 == 5)) then
                (law07Answers n).bind fun r533 =>
                bif r533 then
                  (saneCheck n (([] : List ((Int) × Int)) :: ([] : List (List ((Int) × Int)))) ((([] : List ((Int) × Int)), (1, (0, (([] : List ((Int) × Int)), ((26, (0, 0)) :: ([] : List ((Int) × (Int) × Int))))))) :: ((([] : List ((Int) × Int)), (1, (0, (([] : List ((Int) × Int)), ((26, (0, 0)) :: ([] : List ((Int) × (Int) × Int))))))) :: ([] : List ((List ((Int) × Int)) × (Int) × (Int) × (List ((Int) × Int)) × List ((Int) × (Int) × Int))))) ((([] : List ((Int) × Int)), (t0, t0_1)) :: ([] : List ((List ((Int) × Int)) × (Int) × Int))) ([] : DE) ([] : DF)).bind fun r534 =>
                  bif (r534 == 1) then
                    (saneMain n (([] : List ((Int) × Int)) :: ([] : List (List ((Int) × Int)))) ((([] : List ((Int) × Int)), (1, (0, (([] : List ((Int) × Int)), ((26, (0, 0)) :: ([] : List ((Int) × (Int) × Int))))))) :: ((([] : List ((Int) × Int)), (1, (0, (([] : List ((Int) × Int)), ((26, (0, 0)) :: ([] : List ((Int) × (Int) × Int))))))) :: ([] : List ((List ((Int) × Int)) × (Int) × (Int) × (List ((Int) × Int)) × List ((Int) × (Int) × Int))))) ((([] : List ((Int) × Int)), (t0, t0_1)) :: ([] : List ((List ((Int) × Int)) × (Int) × Int))) ([] : DE) ([] : DF)).bind fun r535 =>
                    some (r535 == false)
                  else
                    some false
                else
                  some false
              else
                (law07Answers n).bind fun r536 =>
                bif r536 then
                  (saneCheck n (([] : List ((Int) × Int)) :: ([] : List (List ((Int) × Int)))) ((([] : List ((Int) × Int)), (1, (0, (([] : List ((Int) × Int)), ((26, (0, 0)) :: ([] : List ((Int) × (Int) × Int))))))) :: ((([] : List ((Int) × Int)), (1, (0, (([] : List ((Int) × Int)), ((26, (0, 0)) :: ([] : List ((Int) × (Int) × Int))))))) :: ([] : List ((List ((Int) × Int)) × (Int) × (Int) × (List ((Int) × Int)) × List ((Int) × (Int) × Int))))) ((([] : List ((Int) × Int)), (t0, t0_1)) :: ([] : List ((List ((Int) × Int)) × (Int) × Int))) ([] : DE) ([] : DF)).bind fun r537 =>
                  bif (r537 == 0) then
                    (saneMain n (([] : List ((Int) × Int)) :: ([] : List (List ((Int) × Int)))) ((([] : List ((Int) × Int)), (1, (0, (([] : List ((Int) × Int)), ((26, (0, 0)) :: ([] : List ((Int) × (Int) × Int))))))) :: ((([] : List ((Int) × Int)), (1, (0, (([] : List ((Int) × Int)), ((26, (0, 0)) :: ([] : List ((Int) × (Int) × Int))))))) :: ([] : List ((List ((Int) × Int)) × (Int) × (Int) × (List ((Int) × Int)) × List ((Int) × (Int) × Int))))) ((([] : List ((Int) × Int)), (t0, t0_1)) :: ([] : List ((List ((Int) × Int)) × (Int) × Int))) ([] : DE) ([] : DF)).bind fun r538 =>
                    some (r538 == true)
                  else
                    some false
                else
                  some false
            else
              (law07Answers n).bind fun r539 =>
              bif r539 then
                (saneCheck n (([] : List ((Int) × Int)) :: ([] : List (List ((Int) × Int)))) ((([] : List ((Int) × Int)), (1, (0, (([] : List ((Int) × Int)), ((26, (0, 0)) :: ([] : List ((Int) × (Int) × Int))))))) :: ((([] : List ((Int) × Int)), (1, (0, (([] : List ((Int) × Int)), ((26, (0, 0)) :: ([] : List ((Int) × (Int) × Int))))))) :: ([] : List ((List ((Int) × Int)) × (Int) × (Int) × (List ((Int) × Int)) × List ((Int) × (Int) × Int))))) ([] : List ((List ((Int) × Int)) × (Int) × Int)) ([] : DE) ([] : DF)).bind fun r540 =>
                bif (r540 == 0) then
                  (saneMain n (([] : List ((Int) × Int)) :: ([] : List (List ((Int) × Int)))) ((([] : List ((Int) × Int)), (1, (0, (([] : List ((Int) × Int)), ((26, (0, 0)) :: ([] : List ((Int) × (Int) × Int))))))) :: ((([] : List ((Int) × Int)), (1, (0, (([] : List ((Int) × Int)), ((26, (0, 0)) :: ([] : List ((Int) × (Int) × Int))))))) :: ([] : List ((List ((Int) × Int)) × (Int) × (Int) × (List ((Int) × Int)) × List ((Int) × (Int) × Int))))) ([] : List ((List ((Int) × Int)) × (Int) × Int)) ([] : DE) ([] : DF)).bind fun r541 =>
                  some (r541 == true)
                else
                  some false
              else
                some false
end Sx
