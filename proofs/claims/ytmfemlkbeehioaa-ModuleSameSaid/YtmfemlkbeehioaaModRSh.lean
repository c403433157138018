import Derived.Test.YtmfemlkbeehioaaLib5
import Derived.KernelRfl
open Go Go.Ab
set_option linter.unusedVariables false
set_option maxRecDepth 20000
namespace Sx
abbrev DA := List (Int × Int)
abbrev DB := List (Int × Int × Int)
abbrev DC := List Int
abbrev DD := List ByteArray
abbrev DE := List (Int)
abbrev DF := List (ByteArray)
abbrev DG := List DA
abbrev DH := List (DA × Int × Int × DA × DB)
abbrev DI := List (DA × Int × Int)
abbrev DJ := List DC
noncomputable def ref01Light_B0 (n : Nat) (t3 : Int) (t4 : Int) (m0 : DG) (m0_1 : DH) (m0_2 : DI) (m0_3 : DC) (m0_4 : DD) : Option (((Int × Int) × DG × DH × DI × DC × DD) ⊕ (Int × DG × DH × DI × DC × DD)) :=
 bif (decide (t4 < (lenI m0))) then
 (getI m0 t4).bind fun x0 =>
 some (Sum.inl (((addI .i64 t3 (lenI x0)), (addI .i64 t4 1)), (m0, (m0_1, (m0_2, (m0_3, m0_4))))))
 else
 some (Sum.inr (t3, (m0, (m0_1, (m0_2, (m0_3, m0_4))))))
noncomputable def ref01Light_W0 (n : Nat) (s : (Int × Int) × DG × DH × DI × DC × DD) : Option (Int × DG × DH × DI × DC × DD) := loopS (fun s => ref01Light_B0 n s.1.1 s.1.2 s.2.1 s.2.2.1 s.2.2.2.1 s.2.2.2.2.1 s.2.2.2.2.2) n s
noncomputable def ref01Light_B2 (n : Nat) (t3 : Int) (t5 : Int) (m0 : DG) (m0_1 : DH) (m0_2 : DI) (m0_3 : DC) (m0_4 : DD) : Option (((Int × Int) × DG × DH × DI × DC × DD) ⊕ (Int × DG × DH × DI × DC × DD)) :=
 bif (decide (t5 < (lenI m0_1))) then
 (getI m0_1 t5).bind fun x2 =>
 (getI m0_1 t5).bind fun x3 =>
 (getI m0_1 t5).bind fun x4 =>
 some (Sum.inl (((addI .i64 (addI .i64 (addI .i64 t3 (lenI x2.1)) (lenI x3.2.2.2.1)) (lenI x4.2.2.2.2)), (addI .i64 t5 1)), (m0, (m0_1, (m0_2, (m0_3, m0_4))))))
 else
 some (Sum.inr (t3, (m0, (m0_1, (m0_2, (m0_3, m0_4))))))
noncomputable def ref01Light_W2 (n : Nat) (s : (Int × Int) × DG × DH × DI × DC × DD) : Option (Int × DG × DH × DI × DC × DD) := loopS (fun s => ref01Light_B2 n s.1.1 s.1.2 s.2.1 s.2.2.1 s.2.2.2.1 s.2.2.2.2.1 s.2.2.2.2.2) n s
noncomputable def ref01Light_B4 (n : Nat) (t3 : Int) (t6 : Int) (m0 : DG) (m0_1 : DH) (m0_2 : DI) (m0_3 : DC) (m0_4 : DD) : Option (((Int × Int) × DG × DH × DI × DC × DD) ⊕ (Int × DG × DH × DI × DC × DD)) :=
 bif (decide (t6 < (lenI m0_2))) then
 (getI m0_2 t6).bind fun x7 =>
 some (Sum.inl (((addI .i64 t3 (lenI x7.1)), (addI .i64 t6 1)), (m0, (m0_1, (m0_2, (m0_3, m0_4))))))
 else
 some (Sum.inr (t3, (m0, (m0_1, (m0_2, (m0_3, m0_4))))))
noncomputable def ref01Light_W4 (n : Nat) (s : (Int × Int) × DG × DH × DI × DC × DD) : Option (Int × DG × DH × DI × DC × DD) := loopS (fun s => ref01Light_B4 n s.1.1 s.1.2 s.2.1 s.2.2.1 s.2.2.2.1 s.2.2.2.2.1 s.2.2.2.2.2) n s
noncomputable def ref01Light_B6 (n : Nat) (t3 : Int) (t7 : Int) (m0 : DG) (m0_1 : DH) (m0_2 : DI) (m0_3 : DC) (m0_4 : DD) : Option (((Int × Int) × DG × DH × DI × DC × DD) ⊕ (Int × DG × DH × DI × DC × DD)) :=
 bif (decide (t7 < (lenI m0_4))) then
 (getI m0_4 t7).bind fun x11 =>
 some (Sum.inl (((addI .i64 t3 (lenS x11)), (addI .i64 t7 1)), (m0, (m0_1, (m0_2, (m0_3, m0_4))))))
 else
 some (Sum.inr (t3, (m0, (m0_1, (m0_2, (m0_3, m0_4))))))
noncomputable def ref01Light_W6 (n : Nat) (s : (Int × Int) × DG × DH × DI × DC × DD) : Option (Int × DG × DH × DI × DC × DD) := loopS (fun s => ref01Light_B6 n s.1.1 s.1.2 s.2.1 s.2.2.1 s.2.2.2.1 s.2.2.2.2.1 s.2.2.2.2.2) n s
noncomputable def ref01Light (n : Nat) (t0 : DG) (t0_1 : DH) (t0_2 : DI) (t0_3 : DC) (t0_4 : DD) : Option (Bool) :=
 bif (decide ((addI .i64 (addI .i64 (addI .i64 (addI .i64 (lenI t0) (lenI t0_1)) (lenI t0_2)) (lenI t0_3)) (lenI t0_4)) > 200)) then
 some false
 else
 (ref01Light_W0 n (((addI .i64 (addI .i64 (addI .i64 (addI .i64 (lenI t0) (lenI t0_1)) (lenI t0_2)) (lenI t0_3)) (lenI t0_4)), 0), (t0, (t0_1, (t0_2, (t0_3, t0_4)))))).bind fun r12 =>
 (ref01Light_W2 n ((r12.1, 0), (r12.2.1, (r12.2.2.1, (r12.2.2.2.1, (r12.2.2.2.2.1, r12.2.2.2.2.2)))))).bind fun r13 =>
 (ref01Light_W4 n ((r13.1, 0), (r13.2.1, (r13.2.2.1, (r13.2.2.2.1, (r13.2.2.2.2.1, r13.2.2.2.2.2)))))).bind fun r14 =>
 (ref01Light_W6 n ((r14.1, 0), (r14.2.1, (r14.2.2.1, (r14.2.2.2.1, (r14.2.2.2.2.1, r14.2.2.2.2.2)))))).bind fun r15 =>
 some (decide (r15.1 < 3000))
noncomputable def kindGood (n : Nat) (t_0 : Int) (t_0_1 : Int) (recs_1 : Int) : Option (Bool) :=
 bif (t_0 == 1) then
 some (t_0_1 == 0)
 else
 bif (t_0 == 2) then
 some (t_0_1 == 0)
 else
 bif (t_0 == 3) then
 some (t_0_1 == 0)
 else
 bif (t_0 == 7) then
 some (t_0_1 == 0)
 else
 bif (t_0 == 4) then
 bif (decide (t_0_1 ≥ 0)) then
 some (decide (t_0_1 < recs_1))
 else
 some false
 else
 bif (t_0 == 5) then
 bif (decide (t_0_1 ≥ 0)) then
 some (decide (t_0_1 < 4))
 else
 some false
 else
 some false
noncomputable def moduleGood1 (n : Nat) (t_0 : Int) (t_0_1 : Int) (m0 : Int) : Option (Bool × Int) :=
 (kindGood n t_0 t_0_1 m0).bind fun r19 =>
 some ((!r19), m0)
noncomputable def IndexFuncType_B0 (n : Nat) (s_0 : DA) (t7 : Int) (t8 : Int) (m0 : Int) : Option (((DA × Int × Int) × Int) ⊕ ((Int × Int) ⊕ (Int))) :=
 bif (decide (t8 < t7)) then
 (getI s_0 t8).bind fun x20 =>
 (moduleGood1 n x20.1 x20.2 m0).bind fun r21 =>
 bif r21.1 then
 some (Sum.inr (Sum.inl (t8, r21.2)))
 else
 some (Sum.inl ((s_0, (t7, (addI .i64 t8 1))), r21.2))
 else
 some (Sum.inr (Sum.inr m0))
noncomputable def IndexFuncType_W0 (n : Nat) (s : (DA × Int × Int) × Int) : Option ((Int × Int) ⊕ (Int)) := loopS (fun s => IndexFuncType_B0 n s.1.1 s.1.2.1 s.1.2.2 s.2) n s
noncomputable def IndexFuncType (n : Nat) (s_0 : DA) (m0 : Int) : Option (Int × Int) :=
 (IndexFuncType_W0 n ((s_0, ((lenI s_0), 0)), m0)).bind fun r22 =>
 Sum.rec (fun u23 =>
 some (u23.1, u23.2)) (fun v24 =>
 some ((-1), v24)) r22
noncomputable def ContainsFuncType (n : Nat) (s_0 : DA) (m0 : Int) : Option (Bool × Int) :=
 (IndexFuncType n s_0 m0).bind fun r25 =>
 some ((decide (r25.1 ≥ 0)), r25.2)
noncomputable def moduleGood (n : Nat) (list_0 : DA) (recs_1 : Int) (most_2 : Int) : Option (Bool) :=
 bif (decide ((lenI list_0) ≤ most_2)) then
 (ContainsFuncType n list_0 recs_1).bind fun r26 =>
 some (!r26.1)
 else
 some false
noncomputable def moduleFits1 (n : Nat) (l_0 : DA) (m0 : Int) : Option (Bool × Int) :=
 (moduleGood n l_0 m0 6).bind fun r27 =>
 some ((!r27), m0)
noncomputable def IndexFuncTypeq1_B0 (n : Nat) (s_0 : DG) (t7 : Int) (t8 : Int) (m0 : Int) : Option (((DG × Int × Int) × Int) ⊕ ((Int × Int) ⊕ (Int))) :=
 bif (decide (t8 < t7)) then
 (getI s_0 t8).bind fun x28 =>
 (moduleFits1 n x28 m0).bind fun r29 =>
 bif r29.1 then
 some (Sum.inr (Sum.inl (t8, r29.2)))
 else
 some (Sum.inl ((s_0, (t7, (addI .i64 t8 1))), r29.2))
 else
 some (Sum.inr (Sum.inr m0))
noncomputable def IndexFuncTypeq1_W0 (n : Nat) (s : (DG × Int × Int) × Int) : Option ((Int × Int) ⊕ (Int)) := loopS (fun s => IndexFuncTypeq1_B0 n s.1.1 s.1.2.1 s.1.2.2 s.2) n s
noncomputable def IndexFuncTypeq1 (n : Nat) (s_0 : DG) (m0 : Int) : Option (Int × Int) :=
 (IndexFuncTypeq1_W0 n ((s_0, ((lenI s_0), 0)), m0)).bind fun r30 =>
 Sum.rec (fun u31 =>
 some (u31.1, u31.2)) (fun v32 =>
 some ((-1), v32)) r30
noncomputable def ContainsFuncTypeq1 (n : Nat) (s_0 : DG) (m0 : Int) : Option (Bool × Int) :=
 (IndexFuncTypeq1 n s_0 m0).bind fun r33 =>
 some ((decide (r33.1 ≥ 0)), r33.2)
noncomputable def instArgs (n : Nat) (op_0 : Int) : Option (Int) :=
 bif (op_0 == 29) then
 some 2
 else
 bif (op_0 == 30) then
 some 2
 else
 bif (op_0 == 0) then
 some 1
 else
 bif (op_0 == 1) then
 some 1
 else
 bif (op_0 == 3) then
 some 1
 else
 bif (op_0 == 4) then
 some 1
 else
 bif (op_0 == 23) then
 some 1
 else
 bif (op_0 == 24) then
 some 1
 else
 bif (op_0 == 25) then
 some 1
 else
 bif (op_0 == 27) then
 some 1
 else
 bif (op_0 == 28) then
 some 1
 else
 bif (decide (op_0 < 0)) then
 some (-1)
 else
 bif (decide (op_0 ≥ 42)) then
 some (-1)
 else
 some 0
noncomputable def instMay (n : Nat) (n_0 : Int) (has_1 : Bool) : Option (Bool) :=
 bif (decide (n_0 ≥ 0)) then
 bif (decide (n_0 ≤ 255)) then
 bif has_1 then
 some true
 else
 some (n_0 == 0)
 else
 some false
 else
 some false
noncomputable def numVar_B0 (n : Nat) (v_0 : Int) (m0 : DC) : Option ((Int × DC) ⊕ (Int × DC)) :=
 bif (decide (v_0 ≥ 128)) then
 bif (Nat.ble (List.length (m0 ++ ((orI .u8 (cvtI .u8 v_0) 128) :: ([] : DE)))) 4294967296) then
 some (Sum.inl ((shrI .u64 v_0 7), (m0 ++ ((orI .u8 (cvtI .u8 v_0) 128) :: ([] : DE)))))
 else none
 else
 some (Sum.inr (v_0, m0))
noncomputable def numVar_W0 (n : Nat) (s : Int × DC) : Option (Int × DC) := loopS (fun s => numVar_B0 n s.1 s.2) n s
noncomputable def numVar (n : Nat) (v_0 : Int) : Option DC :=
 (numVar_W0 n (v_0, ([] : DE))).bind fun r45 =>
 bif (Nat.ble (List.length (r45.2 ++ ((cvtI .u8 r45.1) :: ([] : DE)))) 4294967296) then
 some (r45.2 ++ ((cvtI .u8 r45.1) :: ([] : DE)))
 else none
noncomputable def instPut_B0 (n : Nat) (t39 : Nat × Nat) (t40 : Int) (t41 : Int) (m0 : DC) (m1 : Int) (m1_1 : Int) : Option ((((Nat × Nat) × Int × Int) × DC × Int × Int) ⊕ (DC × Int × Int)) :=
 bif (decide (t41 < t40)) then
 bif ((decide (0 ≤ t41)) && (decide (t41 < ((t39.2 : Nat) : Int)))) then
 bif (Nat.beq (((t39.1 + (Int.toNat t41)) * 1) + 0) 0) then
 (numVar n (cvtI .u64 m1)).bind fun r46 =>
 bif (Nat.ble (List.length (m0 ++ r46)) 4294967296) then
 some (Sum.inl (((t39.1, t39.2), (t40, (addI .i64 t41 1))), ((m0 ++ r46), (m1, m1_1))))
 else none
 else
 bif (Nat.beq (((t39.1 + (Int.toNat t41)) * 1) + 0) 1) then
 (numVar n (cvtI .u64 m1_1)).bind fun r47 =>
 bif (Nat.ble (List.length (m0 ++ r47)) 4294967296) then
 some (Sum.inl (((t39.1, t39.2), (t40, (addI .i64 t41 1))), ((m0 ++ r47), (m1, m1_1))))
 else none
 else none
 else none
 else
 some (Sum.inr (m0, (m1, m1_1)))
noncomputable def instPut_W0 (n : Nat) (s : ((Nat × Nat) × Int × Int) × DC × Int × Int) : Option (DC × Int × Int) := loopS (fun s => instPut_B0 n s.1.1 s.1.2.1 s.1.2.2 s.2.1 s.2.2.1 s.2.2.2) n s
noncomputable def instPut (n : Nat) (i_0 : Int) (i_0_1 : Int) (i_0_2 : Int) : Option DC :=
 (instArgs n i_0).bind fun r48 =>
 bif (decide (r48 < 0)) then
 some ([] : DE)
 else
 (instMay n i_0_1 (decide (r48 > 0))).bind fun r49 =>
 bif (!r49) then
 some ([] : DE)
 else
 (instMay n i_0_2 (decide (r48 > 1))).bind fun r50 =>
 bif (!r50) then
 some ([] : DE)
 else
 bif ((decide (0 ≤ r48)) && (decide (r48 ≤ 2))) then
 (instPut_W0 n (((0, ((Int.toNat r48) - 0)), (((((Int.toNat r48) - 0) : Nat) : Int), 0)), (((cvtI .u8 i_0) :: ([] : DE)), (i_0_1, i_0_2)))).bind fun r51 =>
 some r51.1
 else none
noncomputable def moduleFitFunc1 (n : Nat) (i_0 : Int) (i_0_1 : Int) (i_0_2 : Int) : Option (Bool) :=
 (instPut n i_0 i_0_1 i_0_2).bind fun r52 =>
 some ((lenI r52) == 0)
noncomputable def IndexFuncInstr_B0 (n : Nat) (s_0 : DB) (t7 : Int) (t8 : Int) : Option ((DB × Int × Int) ⊕ ((Int) ⊕ (Unit))) :=
 bif (decide (t8 < t7)) then
 (getI s_0 t8).bind fun x53 =>
 (moduleFitFunc1 n x53.1 x53.2.1 x53.2.2).bind fun r54 =>
 bif r54 then
 some (Sum.inr (Sum.inl t8))
 else
 some (Sum.inl (s_0, (t7, (addI .i64 t8 1))))
 else
 some (Sum.inr (Sum.inr ()))
noncomputable def IndexFuncInstr_W0 (n : Nat) (s : DB × Int × Int) : Option ((Int) ⊕ (Unit)) := loopS (fun s => IndexFuncInstr_B0 n s.1 s.2.1 s.2.2) n s
noncomputable def IndexFuncInstr (n : Nat) (s_0 : DB) : Option (Int) :=
 (IndexFuncInstr_W0 n (s_0, ((lenI s_0), 0))).bind fun r55 =>
 Sum.rec (fun u56 =>
 some u56) (fun v57 =>
 some (-1)) r55
noncomputable def ContainsFuncInstr (n : Nat) (s_0 : DB) : Option (Bool) :=
 (IndexFuncInstr n s_0).bind fun r58 =>
 some (decide (r58 ≥ 0))
noncomputable def moduleFitFunc (n : Nat) (f_0 : DA) (f_0_1 : Int) (f_0_2 : Int) (f_0_3 : DA) (f_0_4 : DB) (recs_1 : Int) : Option (Bool) :=
 (moduleGood n f_0 recs_1 4).bind fun r59 =>
 bif r59 then
 (kindGood n f_0_1 f_0_2 recs_1).bind fun r60 =>
 bif r60 then
 (moduleGood n f_0_3 recs_1 (subI .i64 8 (lenI f_0))).bind fun r61 =>
 bif r61 then
 bif (decide ((lenI f_0_4) ≥ 1)) then
 bif (decide ((lenI f_0_4) ≤ 64)) then
 (ContainsFuncInstr n f_0_4).bind fun r62 =>
 some (!r62)
 else
 some false
 else
 some false
 else
 some false
 else
 some false
 else
 some false
noncomputable def moduleFits2 (n : Nat) (f_0 : DA) (f_0_1 : Int) (f_0_2 : Int) (f_0_3 : DA) (f_0_4 : DB) (m0 : Int) : Option (Bool × Int) :=
 (moduleFitFunc n f_0 f_0_1 f_0_2 f_0_3 f_0_4 m0).bind fun r63 =>
 some ((!r63), m0)
noncomputable def IndexFuncFunc_B0 (n : Nat) (s_0 : DH) (t7 : Int) (t8 : Int) (m0 : Int) : Option (((DH × Int × Int) × Int) ⊕ ((Int × Int) ⊕ (Int))) :=
 bif (decide (t8 < t7)) then
 (getI s_0 t8).bind fun x64 =>
 (moduleFits2 n x64.1 x64.2.1 x64.2.2.1 x64.2.2.2.1 x64.2.2.2.2 m0).bind fun r65 =>
 bif r65.1 then
 some (Sum.inr (Sum.inl (t8, r65.2)))
 else
 some (Sum.inl ((s_0, (t7, (addI .i64 t8 1))), r65.2))
 else
 some (Sum.inr (Sum.inr m0))
noncomputable def IndexFuncFunc_W0 (n : Nat) (s : (DH × Int × Int) × Int) : Option ((Int × Int) ⊕ (Int)) := loopS (fun s => IndexFuncFunc_B0 n s.1.1 s.1.2.1 s.1.2.2 s.2) n s
noncomputable def IndexFuncFunc (n : Nat) (s_0 : DH) (m0 : Int) : Option (Int × Int) :=
 (IndexFuncFunc_W0 n ((s_0, ((lenI s_0), 0)), m0)).bind fun r66 =>
 Sum.rec (fun u67 =>
 some (u67.1, u67.2)) (fun v68 =>
 some ((-1), v68)) r66
noncomputable def ContainsFuncFunc (n : Nat) (s_0 : DH) (m0 : Int) : Option (Bool × Int) :=
 (IndexFuncFunc n s_0 m0).bind fun r69 =>
 some ((decide (r69.1 ≥ 0)), r69.2)
noncomputable def moduleFits3 (n : Nat) (i_0 : DA) (i_0_1 : Int) (i_0_2 : Int) (m0 : Int) : Option (Bool × Int) :=
 (moduleGood n i_0 m0 4).bind fun r74 =>
 bif (!r74) then
 some (true, m0)
 else
 (kindGood n i_0_1 i_0_2 m0).bind fun r75 =>
 some ((!r75), m0)
noncomputable def IndexFuncImport_B0 (n : Nat) (s_0 : DI) (t7 : Int) (t8 : Int) (m0 : Int) : Option (((DI × Int × Int) × Int) ⊕ ((Int × Int) ⊕ (Int))) :=
 bif (decide (t8 < t7)) then
 (getI s_0 t8).bind fun x76 =>
 (moduleFits3 n x76.1 x76.2.1 x76.2.2 m0).bind fun r77 =>
 bif r77.1 then
 some (Sum.inr (Sum.inl (t8, r77.2)))
 else
 some (Sum.inl ((s_0, (t7, (addI .i64 t8 1))), r77.2))
 else
 some (Sum.inr (Sum.inr m0))
noncomputable def IndexFuncImport_W0 (n : Nat) (s : (DI × Int × Int) × Int) : Option ((Int × Int) ⊕ (Int)) := loopS (fun s => IndexFuncImport_B0 n s.1.1 s.1.2.1 s.1.2.2 s.2) n s
noncomputable def IndexFuncImport (n : Nat) (s_0 : DI) (m0 : Int) : Option (Int × Int) :=
 (IndexFuncImport_W0 n ((s_0, ((lenI s_0), 0)), m0)).bind fun r78 =>
 Sum.rec (fun u79 =>
 some (u79.1, u79.2)) (fun v80 =>
 some ((-1), v80)) r78
noncomputable def ContainsFuncImport (n : Nat) (s_0 : DI) (m0 : Int) : Option (Bool × Int) :=
 (IndexFuncImport n s_0 m0).bind fun r81 =>
 some ((decide (r81.1 ≥ 0)), r81.2)
noncomputable def moduleFits4 (n : Nat) (s_0 : ByteArray) : Option (Bool) :=
 some (decide ((lenS s_0) > 32))
noncomputable def IndexFuncString_B0 (n : Nat) (s_0 : DD) (t7 : Int) (t8 : Int) : Option ((DD × Int × Int) ⊕ ((Int) ⊕ (Unit))) :=
 bif (decide (t8 < t7)) then
 (getI s_0 t8).bind fun x86 =>
 (moduleFits4 n x86).bind fun r87 =>
 bif r87 then
 some (Sum.inr (Sum.inl t8))
 else
 some (Sum.inl (s_0, (t7, (addI .i64 t8 1))))
 else
 some (Sum.inr (Sum.inr ()))
noncomputable def IndexFuncString_W0 (n : Nat) (s : DD × Int × Int) : Option ((Int) ⊕ (Unit)) := loopS (fun s => IndexFuncString_B0 n s.1 s.2.1 s.2.2) n s
noncomputable def IndexFuncString (n : Nat) (s_0 : DD) : Option (Int) :=
 (IndexFuncString_W0 n (s_0, ((lenI s_0), 0))).bind fun r88 =>
 Sum.rec (fun u89 =>
 some u89) (fun v90 =>
 some (-1)) r88
noncomputable def ContainsFuncString (n : Nat) (s_0 : DD) : Option (Bool) :=
 (IndexFuncString n s_0).bind fun r91 =>
 some (decide (r91 ≥ 0))
noncomputable def moduleFits (n : Nat) (t0 : DG) (t0_1 : DH) (t0_2 : DI) (t0_3 : DC) (t0_4 : DD) : Option (Bool) :=
 bif (decide ((lenI t0) ≤ 8)) then
 (ContainsFuncTypeq1 n t0 (lenI t0)).bind fun r92 =>
 bif (!r92.1) then
 bif (decide ((lenI t0_1) ≥ 1)) then
 bif (decide ((lenI t0_1) ≤ 8)) then
 (ContainsFuncFunc n t0_1 r92.2).bind fun r93 =>
 bif (!r93.1) then
 bif (decide ((lenI t0_2) ≤ 8)) then
 (ContainsFuncImport n t0_2 r93.2).bind fun r94 =>
 bif (!r94.1) then
 bif (decide ((lenI t0_3) ≤ 16)) then
 bif (decide ((lenI t0_4) ≤ 16)) then
 (ContainsFuncString n t0_4).bind fun r95 =>
 some (!r95)
 else
 some false
 else
 some false
 else
 some false
 else
 some false
 else
 some false
 else
 some false
 else
 some false
 else
 some false
 else
 some false
noncomputable def moduleWriterCount (n : Nat) (n_1 : Int) : Option DC :=
 (numVar n (cvtI .u64 n_1)).bind fun r97 =>
 bif (Nat.ble (List.length r97) 4294967296) then
 some r97
 else none
noncomputable def moduleWriterCountv1 (n : Nat) (n_1 : Int) (m1 : DC) : Option DC :=
 (numVar n (cvtI .u64 n_1)).bind fun r100 =>
 bif (Nat.ble (List.length (m1 ++ r100)) 4294967296) then
 some (m1 ++ r100)
 else none
noncomputable def kindPut (n : Nat) (t_0 : Int) (t_0_1 : Int) : Option DC :=
 (numVar n (cvtI .u64 (maxI t_0 0))).bind fun r103 =>
 (numVar n (cvtI .u64 (maxI t_0_1 0))).bind fun r104 =>
 bif (Nat.ble (List.length (r103 ++ r104)) 4294967296) then
 some (r103 ++ r104)
 else none
noncomputable def moduleWriterTypes_B0 (n : Nat) (t10 : DA) (t11 : Int) (t12 : Int) (m1 : DC) : Option (((DA × Int × Int) × DC) ⊕ DC) :=
 bif (decide (t12 < t11)) then
 (getI t10 t12).bind fun x105 =>
 (kindPut n x105.1 x105.2).bind fun r106 =>
 bif (Nat.ble (List.length (m1 ++ r106)) 4294967296) then
 some (Sum.inl ((t10, (t11, (addI .i64 t12 1))), (m1 ++ r106)))
 else none
 else
 some (Sum.inr m1)
noncomputable def moduleWriterTypes_W0 (n : Nat) (s : (DA × Int × Int) × DC) : Option DC := loopS (fun s => moduleWriterTypes_B0 n s.1.1 s.1.2.1 s.1.2.2 s.2) n s
noncomputable def moduleWriterTypes (n : Nat) (list_1 : DA) (m1 : DC) : Option DC :=
 (moduleWriterCountv1 n (lenI list_1) m1).bind fun r107 =>
 (moduleWriterTypes_W0 n ((list_1, ((lenI list_1), 0)), r107)).bind fun r108 =>
 some r108
noncomputable def moduleRecords_B0 (n : Nat) (t14 : DG) (t15 : Int) (t16 : Int) (m1 : DC) : Option (((DG × Int × Int) × DC) ⊕ DC) :=
 bif (decide (t16 < t15)) then
 (getI t14 t16).bind fun x109 =>
 (moduleWriterTypes n x109 m1).bind fun r110 =>
 some (Sum.inl ((t14, (t15, (addI .i64 t16 1))), r110))
 else
 some (Sum.inr m1)
noncomputable def moduleRecords_W0 (n : Nat) (s : (DG × Int × Int) × DC) : Option DC := loopS (fun s => moduleRecords_B0 n s.1.1 s.1.2.1 s.1.2.2 s.2) n s
noncomputable def moduleRecords (n : Nat) (m_0 : DG) (m_0_1 : DH) (m_0_2 : DI) (m_0_3 : DC) (m_0_4 : DD) : Option DC :=
 (moduleWriterCount n (lenI m_0)).bind fun r111 =>
 (moduleRecords_W0 n ((m_0, ((lenI m_0), 0)), r111)).bind fun r112 =>
 some r112
noncomputable def moduleFunctions_B2 (n : Nat) (t16 : DH) (t17 : Int) (t18 : Int) (t47 : DB) (t48 : Int) (t49 : Int) (m1 : DC) : Option (((DH × Int × Int × DB × Int × Int) × DC) ⊕ ((DH × Int × Int) × DC)) :=
 bif (decide (t49 < t48)) then
 (getI t47 t49).bind fun x129 =>
 (instPut n x129.1 x129.2.1 x129.2.2).bind fun r130 =>
 bif (Nat.ble (List.length (m1 ++ r130)) 4294967296) then
 some (Sum.inl ((t16, (t17, (t18, (t47, (t48, (addI .i64 t49 1)))))), (m1 ++ r130)))
 else none
 else
 some (Sum.inr ((t16, (t17, t18)), m1))
noncomputable def moduleFunctions_W2 (n : Nat) (s : (DH × Int × Int × DB × Int × Int) × DC) : Option ((DH × Int × Int) × DC) := loopS (fun s => moduleFunctions_B2 n s.1.1 s.1.2.1 s.1.2.2.1 s.1.2.2.2.1 s.1.2.2.2.2.1 s.1.2.2.2.2.2 s.2) n s
noncomputable def moduleFunctions_B0 (n : Nat) (t16 : DH) (t17 : Int) (t18 : Int) (m1 : DC) : Option (((DH × Int × Int) × DC) ⊕ DC) :=
 bif (decide (t18 < t17)) then
 (getI t16 t18).bind fun x131 =>
 (moduleWriterTypes n x131.1 m1).bind fun r132 =>
 (kindPut n x131.2.1 x131.2.2.1).bind fun r133 =>
 bif (Nat.ble (List.length (r132 ++ r133)) 4294967296) then
 (moduleWriterTypes n x131.2.2.2.1 (r132 ++ r133)).bind fun r134 =>
 (moduleWriterCountv1 n (lenI x131.2.2.2.2) r134).bind fun r135 =>
 (moduleFunctions_W2 n ((t16, (t17, (t18, (x131.2.2.2.2, ((lenI x131.2.2.2.2), 0))))), r135)).bind fun r136 =>
 some (Sum.inl ((r136.1.1, (r136.1.2.1, (addI .i64 r136.1.2.2 1))), r136.2))
 else none
 else
 some (Sum.inr m1)
noncomputable def moduleFunctions_W0 (n : Nat) (s : (DH × Int × Int) × DC) : Option DC := loopS (fun s => moduleFunctions_B0 n s.1.1 s.1.2.1 s.1.2.2 s.2) n s
noncomputable def moduleFunctions (n : Nat) (t0 : DG) (t0_1 : DH) (t0_2 : DI) (t0_3 : DC) (t0_4 : DD) : Option DC :=
 (moduleWriterCount n (lenI t0_1)).bind fun r137 =>
 (moduleFunctions_W0 n ((t0_1, ((lenI t0_1), 0)), r137)).bind fun r138 =>
 some r138
noncomputable def moduleImports_B0 (n : Nat) (t14 : DI) (t15 : Int) (t16 : Int) (m1 : DC) : Option (((DI × Int × Int) × DC) ⊕ DC) :=
 bif (decide (t16 < t15)) then
 (getI t14 t16).bind fun x146 =>
 (moduleWriterTypes n x146.1 m1).bind fun r147 =>
 (kindPut n x146.2.1 x146.2.2).bind fun r148 =>
 bif (Nat.ble (List.length (r147 ++ r148)) 4294967296) then
 some (Sum.inl ((t14, (t15, (addI .i64 t16 1))), (r147 ++ r148)))
 else none
 else
 some (Sum.inr m1)
noncomputable def moduleImports_W0 (n : Nat) (s : (DI × Int × Int) × DC) : Option DC := loopS (fun s => moduleImports_B0 n s.1.1 s.1.2.1 s.1.2.2 s.2) n s
noncomputable def moduleImports (n : Nat) (m_0 : DG) (m_0_1 : DH) (m_0_2 : DI) (m_0_3 : DC) (m_0_4 : DD) : Option DC :=
 (moduleWriterCount n (lenI m_0_2)).bind fun r149 =>
 (moduleImports_W0 n ((m_0_2, ((lenI m_0_2), 0)), r149)).bind fun r150 =>
 some r150
noncomputable def numFixed_B0 (n : Nat) (v_0 : Int) (t9 : Int) (t10 : Int) (m0 : DC) : Option (((Int × Int × Int) × DC) ⊕ DC) :=
 bif (decide (t10 < t9)) then
 bif (decide (0 ≤ (mulI .i64 8 t10))) then
 bif (Nat.ble (List.length (m0 ++ ((cvtI .u8 (shrI .u64 v_0 (mulI .i64 8 t10))) :: ([] : DE)))) 4294967296) then
 some (Sum.inl ((v_0, (t9, (addI .i64 t10 1))), (m0 ++ ((cvtI .u8 (shrI .u64 v_0 (mulI .i64 8 t10))) :: ([] : DE)))))
 else none
 else none
 else
 some (Sum.inr m0)
noncomputable def numFixed_W0 (n : Nat) (s : (Int × Int × Int) × DC) : Option DC := loopS (fun s => numFixed_B0 n s.1.1 s.1.2.1 s.1.2.2 s.2) n s
noncomputable def numFixed (n : Nat) (v_0 : Int) (n_1 : Int) : Option DC :=
 (numFixed_W0 n ((v_0, ((minI (maxI n_1 0) 8), 0)), ([] : DE))).bind fun r157 =>
 some r157
noncomputable def moduleNumbers_B0 (n : Nat) (t14 : DC) (t15 : Int) (t16 : Int) (m1 : DC) : Option (((DC × Int × Int) × DC) ⊕ DC) :=
 bif (decide (t16 < t15)) then
 (getI t14 t16).bind fun x158 =>
 (numFixed n x158 8).bind fun r159 =>
 bif (Nat.ble (List.length (m1 ++ r159)) 4294967296) then
 some (Sum.inl ((t14, (t15, (addI .i64 t16 1))), (m1 ++ r159)))
 else none
 else
 some (Sum.inr m1)
noncomputable def moduleNumbers_W0 (n : Nat) (s : (DC × Int × Int) × DC) : Option DC := loopS (fun s => moduleNumbers_B0 n s.1.1 s.1.2.1 s.1.2.2 s.2) n s
noncomputable def moduleNumbers (n : Nat) (m_0 : DG) (m_0_1 : DH) (m_0_2 : DI) (m_0_3 : DC) (m_0_4 : DD) : Option DC :=
 (moduleWriterCount n (lenI m_0_3)).bind fun r160 =>
 (moduleNumbers_W0 n ((m_0_3, ((lenI m_0_3), 0)), r160)).bind fun r161 =>
 some r161
noncomputable def moduleTexts_B0 (n : Nat) (t14 : DD) (t15 : Int) (t16 : Int) (m1 : DC) : Option (((DD × Int × Int) × DC) ⊕ DC) :=
 bif (decide (t16 < t15)) then
 (getI t14 t16).bind fun x169 =>
 (moduleWriterCountv1 n (lenS x169) m1).bind fun r170 =>
 bif (Nat.ble (List.length (r170 ++ (bytesInts x169))) 4294967296) then
 some (Sum.inl ((t14, (t15, (addI .i64 t16 1))), (r170 ++ (bytesInts x169))))
 else none
 else
 some (Sum.inr m1)
noncomputable def moduleTexts_W0 (n : Nat) (s : (DD × Int × Int) × DC) : Option DC := loopS (fun s => moduleTexts_B0 n s.1.1 s.1.2.1 s.1.2.2 s.2) n s
noncomputable def moduleTexts (n : Nat) (m_0 : DG) (m_0_1 : DH) (m_0_2 : DI) (m_0_3 : DC) (m_0_4 : DD) : Option DC :=
 (moduleWriterCount n (lenI m_0_4)).bind fun r171 =>
 (moduleTexts_W0 n ((m_0_4, ((lenI m_0_4), 0)), r171)).bind fun r172 =>
 some r172
noncomputable def packJoin_B0 (n : Nat) (t10 : DJ) (t11 : Int) (t12 : Int) (m0 : DC) : Option (((DJ × Int × Int) × DC) ⊕ DC) :=
 bif (decide (t12 < t11)) then
 (getI t10 t12).bind fun x180 =>
 (numVar n (cvtI .u64 (lenI x180))).bind fun r181 =>
 bif (Nat.ble (List.length (m0 ++ r181)) 4294967296) then
 bif (Nat.ble (List.length ((m0 ++ r181) ++ x180)) 4294967296) then
 some (Sum.inl ((t10, (t11, (addI .i64 t12 1))), ((m0 ++ r181) ++ x180)))
 else none
 else none
 else
 some (Sum.inr m0)
noncomputable def packJoin_W0 (n : Nat) (s : (DJ × Int × Int) × DC) : Option DC := loopS (fun s => packJoin_B0 n s.1.1 s.1.2.1 s.1.2.2 s.2) n s
noncomputable def packJoin (n : Nat) (parts_0 : DJ) : Option DC :=
 (numVar n (cvtI .u64 (lenI parts_0))).bind fun r182 =>
 (packJoin_W0 n ((parts_0, ((lenI parts_0), 0)), r182)).bind fun r183 =>
 some r183
noncomputable def moduleEncode (n : Nat) (m_0 : DG) (m_0_1 : DH) (m_0_2 : DI) (m_0_3 : DC) (m_0_4 : DD) : Option (DC × Int) :=
 (moduleFits n m_0 m_0_1 m_0_2 m_0_3 m_0_4).bind fun r184 =>
 bif (!r184) then
 some (([] : DE), 2)
 else
 (moduleRecords n m_0 m_0_1 m_0_2 m_0_3 m_0_4).bind fun r185 =>
 (moduleFunctions n m_0 m_0_1 m_0_2 m_0_3 m_0_4).bind fun r186 =>
 (moduleImports n m_0 m_0_1 m_0_2 m_0_3 m_0_4).bind fun r187 =>
 (moduleNumbers n m_0 m_0_1 m_0_2 m_0_3 m_0_4).bind fun r188 =>
 (moduleTexts n m_0 m_0_1 m_0_2 m_0_3 m_0_4).bind fun r189 =>
 (packJoin n (r185 :: (r186 :: (r187 :: (r188 :: (r189 :: ([] : DJ))))))).bind fun r190 =>
 some (r190, 0)
noncomputable def numNewReader (n : Nat) (b_0 : DC) : Option (DC × Bool) :=
 bif (Nat.ble (List.length b_0) 4294967296) then
 some (b_0, false)
 else none
noncomputable def numReaderBad (n : Nat) (m0 : DC) (m0_1 : Bool) : Option (Bool × DC × Bool) :=
 some (m0_1, (m0, m0_1))
noncomputable def numReaderFail (n : Nat) (m0 : DC) (m0_1 : Bool) : Option (DC × Bool) :=
 some (m0, true)
noncomputable def numReaderTake (n : Nat) (n_1 : Int) (m0 : DC) (m0_1 : Bool) : Option (DC × DC × Bool) :=
 (numReaderBad n m0 m0_1).bind fun r194 =>
 bif r194.1 then
 (numReaderFail n r194.2.1 r194.2.2).bind fun r195 =>
 some (([] : DE), (r195.1, r195.2))
 else
 bif (decide (n_1 < 0)) then
 (numReaderFail n r194.2.1 r194.2.2).bind fun r196 =>
 some (([] : DE), (r196.1, r196.2))
 else
 bif (decide (n_1 > (lenI r194.2.1))) then
 (numReaderFail n r194.2.1 r194.2.2).bind fun r197 =>
 some (([] : DE), (r197.1, r197.2))
 else
 bif ((decide (0 ≤ n_1)) && (decide (n_1 ≤ (((List.length r194.2.1) : Nat) : Int)))) then
 bif (Nat.ble (List.length (List.take (Int.toNat n_1) r194.2.1)) 4294967296) then
 bif ((decide (0 ≤ n_1)) && (decide (n_1 ≤ (((List.length r194.2.1) : Nat) : Int)))) then
 some ((List.take (Int.toNat n_1) r194.2.1), ((List.drop (Int.toNat n_1) (List.take (List.length r194.2.1) r194.2.1)), r194.2.2))
 else none
 else none
 else none
noncomputable def numReaderVar_B0 (n : Nat) (v_3 : Int) (k_4 : Int) (m0 : DC) (m0_1 : Bool) : Option (((Int × Int) × DC × Bool) ⊕ (Int × DC × Bool)) :=
 (numReaderTake n 1 m0 m0_1).bind fun r200 =>
 bif ((lenI r200.1) == 0) then
 some (Sum.inr (0, (r200.2.1, r200.2.2)))
 else
 (getI r200.1 0).bind fun x201 =>
 bif (k_4 == 9) then
 bif (decide (x201 > 1)) then
 (numReaderFail n r200.2.1 r200.2.2).bind fun r202 =>
 some (Sum.inr (0, (r202.1, r202.2)))
 else
 bif (decide (k_4 > 0)) then
 bif (x201 == 0) then
 (numReaderFail n r200.2.1 r200.2.2).bind fun r203 =>
 some (Sum.inr (0, (r203.1, r203.2)))
 else
 bif (decide (0 ≤ (mulI .i64 7 k_4))) then
 bif (decide (x201 < 128)) then
 some (Sum.inr ((orI .u64 v_3 (shlI .u64 (cvtI .u64 (andNotI .u8 x201 128)) (mulI .i64 7 k_4))), (r200.2.1, r200.2.2)))
 else
 some (Sum.inl (((orI .u64 v_3 (shlI .u64 (cvtI .u64 (andNotI .u8 x201 128)) (mulI .i64 7 k_4))), (addI .i64 k_4 1)), (r200.2.1, r200.2.2)))
 else none
 else
 bif (decide (0 ≤ (mulI .i64 7 k_4))) then
 bif (decide (x201 < 128)) then
 some (Sum.inr ((orI .u64 v_3 (shlI .u64 (cvtI .u64 (andNotI .u8 x201 128)) (mulI .i64 7 k_4))), (r200.2.1, r200.2.2)))
 else
 some (Sum.inl (((orI .u64 v_3 (shlI .u64 (cvtI .u64 (andNotI .u8 x201 128)) (mulI .i64 7 k_4))), (addI .i64 k_4 1)), (r200.2.1, r200.2.2)))
 else none
 else
 bif (decide (k_4 > 0)) then
 bif (x201 == 0) then
 (numReaderFail n r200.2.1 r200.2.2).bind fun r204 =>
 some (Sum.inr (0, (r204.1, r204.2)))
 else
 bif (decide (0 ≤ (mulI .i64 7 k_4))) then
 bif (decide (x201 < 128)) then
 some (Sum.inr ((orI .u64 v_3 (shlI .u64 (cvtI .u64 (andNotI .u8 x201 128)) (mulI .i64 7 k_4))), (r200.2.1, r200.2.2)))
 else
 some (Sum.inl (((orI .u64 v_3 (shlI .u64 (cvtI .u64 (andNotI .u8 x201 128)) (mulI .i64 7 k_4))), (addI .i64 k_4 1)), (r200.2.1, r200.2.2)))
 else none
 else
 bif (decide (0 ≤ (mulI .i64 7 k_4))) then
 bif (decide (x201 < 128)) then
 some (Sum.inr ((orI .u64 v_3 (shlI .u64 (cvtI .u64 (andNotI .u8 x201 128)) (mulI .i64 7 k_4))), (r200.2.1, r200.2.2)))
 else
 some (Sum.inl (((orI .u64 v_3 (shlI .u64 (cvtI .u64 (andNotI .u8 x201 128)) (mulI .i64 7 k_4))), (addI .i64 k_4 1)), (r200.2.1, r200.2.2)))
 else none
noncomputable def numReaderVar_W0 (n : Nat) (s : (Int × Int) × DC × Bool) : Option (Int × DC × Bool) := loopS (fun s => numReaderVar_B0 n s.1.1 s.1.2 s.2.1 s.2.2) n s
noncomputable def numReaderVar (n : Nat) (m0 : DC) (m0_1 : Bool) : Option (Int × DC × Bool) :=
 (numReaderVar_W0 n ((0, 0), (m0, m0_1))).bind fun r205 =>
 some (r205.1, (r205.2.1, r205.2.2))
noncomputable def packCount (n : Nat) (most_1 : Int) (m0 : DC) (m0_1 : Bool) : Option ((Int × Bool) × DC × Bool) :=
 (numReaderVar n m0 m0_1).bind fun r207 =>
 (numReaderBad n r207.2.1 r207.2.2).bind fun r208 =>
 bif (!r208.1) then
 bif (decide (most_1 ≥ 0)) then
 some (((cvtI .i64 (minI r207.1 (cvtI .u64 (maxI most_1 0)))), (decide (r207.1 ≤ (cvtI .u64 most_1)))), (r208.2.1, r208.2.2))
 else
 some (((cvtI .i64 (minI r207.1 (cvtI .u64 (maxI most_1 0)))), false), (r208.2.1, r208.2.2))
 else
 some (((cvtI .i64 (minI r207.1 (cvtI .u64 (maxI most_1 0)))), false), (r208.2.1, r208.2.2))
noncomputable def numReaderLeft (n : Nat) (m0 : DC) (m0_1 : Bool) : Option (Int × DC × Bool) :=
 (numReaderBad n m0 m0_1).bind fun r211 =>
 bif r211.1 then
 some (0, (r211.2.1, r211.2.2))
 else
 some ((lenI r211.2.1), (r211.2.1, r211.2.2))
noncomputable def packSplit_B0 (n : Nat) (t22 : Int) (t23 : Int) (m0 : DC) (m0_1 : Bool) (m1 : DJ) : Option (((Int × Int) × (DC × Bool) × DJ) ⊕ (((DJ × Int) × (DC × Bool) × DJ) ⊕ (((DJ × Int) × (DC × Bool) × DJ) ⊕ ((DC × Bool) × DJ)))) :=
 bif (decide (t23 < t22)) then
 (numReaderLeft n m0 m0_1).bind fun r217 =>
 (packCount n r217.1 r217.2.1 r217.2.2).bind fun r218 =>
 bif (!r218.1.2) then
 some (Sum.inr (Sum.inl ((([] : DJ), 2), ((r218.2.1, r218.2.2), m1))))
 else
 (numReaderTake n r218.1.1 r218.2.1 r218.2.2).bind fun r219 =>
 bif (Nat.ble (List.length (m1 ++ (r219.1 :: ([] : DJ)))) 4294967296) then
 (numReaderBad n r219.2.1 r219.2.2).bind fun r220 =>
 bif r220.1 then
 some (Sum.inr (Sum.inr (Sum.inl ((([] : DJ), 2), ((r220.2.1, r220.2.2), (m1 ++ (r219.1 :: ([] : DJ))))))))
 else
 some (Sum.inl ((t22, (addI .i64 t23 1)), ((r220.2.1, r220.2.2), (m1 ++ (r219.1 :: ([] : DJ))))))
 else none
 else
 some (Sum.inr (Sum.inr (Sum.inr ((m0, m0_1), m1))))
noncomputable def packSplit_W0 (n : Nat) (s : (Int × Int) × (DC × Bool) × DJ) : Option (((DJ × Int) × (DC × Bool) × DJ) ⊕ (((DJ × Int) × (DC × Bool) × DJ) ⊕ ((DC × Bool) × DJ))) := loopS (fun s => packSplit_B0 n s.1.1 s.1.2 s.2.1.1 s.2.1.2 s.2.2) n s
noncomputable def packSplit (n : Nat) (b_0 : DC) (most_1 : Int) : Option (DJ × Int) :=
 (numNewReader n b_0).bind fun r221 =>
 (packCount n most_1 r221.1 r221.2).bind fun r222 =>
 bif (!r222.1.2) then
 some (([] : DJ), 2)
 else
 (packSplit_W0 n ((r222.1.1, 0), ((r222.2.1, r222.2.2), ([] : DJ)))).bind fun r223 =>
 Sum.rec (fun u224 =>
 some (u224.1.1, u224.1.2)) (fun v225 =>
 Sum.rec (fun u226 =>
 some (u226.1.1, u226.1.2)) (fun v227 =>
 (numReaderLeft n v227.1.1 v227.1.2).bind fun r228 =>
 bif (decide (r228.1 > 0)) then
 some (([] : DJ), 2)
 else
 some (v227.2, 0)) v225) r223
noncomputable def moduleDecode1 (n : Nat) (k_0 : Int) (m0 : DJ) : Option (DJ × (Int × Bool) × DC × Bool) :=
 (getI m0 k_0).bind fun x231 =>
 (numNewReader n x231).bind fun r232 =>
 some (m0, ((0, false), (r232.1, r232.2)))
noncomputable def moduleReaderCount (n : Nat) (most_1 : Int) (m0 : Int) (m0_1 : Bool) (m1 : DC) (m1_1 : Bool) : Option (Int × (Int × Bool) × DC × Bool) :=
 (numReaderVar n m1 m1_1).bind fun r246 =>
 (numReaderBad n r246.2.1 r246.2.2).bind fun r247 =>
 bif r247.1 then
 some (0, ((m0, true), (r247.2.1, r247.2.2)))
 else
 bif (decide (r246.1 > (cvtI .u64 most_1))) then
 some (0, ((m0, true), (r247.2.1, r247.2.2)))
 else
 some ((cvtI .i64 r246.1), ((m0, m0_1), (r247.2.1, r247.2.2)))
noncomputable def kindGet (n : Nat) (recs_1 : Int) (m0 : DC) (m0_1 : Bool) : Option (((Int × Int) × Bool) × DC × Bool) :=
 (numReaderVar n m0 m0_1).bind fun r255 =>
 (numReaderVar n r255.2.1 r255.2.2).bind fun r256 =>
 (numReaderBad n r256.2.1 r256.2.2).bind fun r257 =>
 bif r257.1 then
 some (((0, 0), false), (r257.2.1, r257.2.2))
 else
 bif (decide (r255.1 > 8)) then
 some (((0, 0), false), (r257.2.1, r257.2.2))
 else
 bif (decide (r256.1 > 255)) then
 some (((0, 0), false), (r257.2.1, r257.2.2))
 else
 (kindGood n (cvtI .i64 r255.1) (cvtI .i64 r256.1) recs_1).bind fun r258 =>
 bif (!r258) then
 some (((0, 0), false), (r257.2.1, r257.2.2))
 else
 some ((((cvtI .i64 r255.1), (cvtI .i64 r256.1)), true), (r257.2.1, r257.2.2))
noncomputable def moduleReaderOne (n : Nat) (m0 : Int) (m0_1 : Bool) (m1 : DC) (m1_1 : Bool) : Option ((Int × Int) × (Int × Bool) × DC × Bool) :=
 (kindGet n m0 m1 m1_1).bind fun r259 =>
 bif m0_1 then
 some ((r259.1.1.1, r259.1.1.2), ((m0, true), (r259.2.1, r259.2.2)))
 else
 some ((r259.1.1.1, r259.1.1.2), ((m0, (!r259.1.2)), (r259.2.1, r259.2.2)))
noncomputable def moduleListApiTypeq1_B0 (n : Nat) (t10 : Int) (t11 : Int) (m0 : Int) (m0_1 : Bool) (m1 : DC) (m1_1 : Bool) (m2 : DA) : Option (((Int × Int) × (Int × Bool) × (DC × Bool) × DA) ⊕ ((Int × Bool) × (DC × Bool) × DA)) :=
 bif (decide (t11 < t10)) then
 bif m0_1 then
 some (Sum.inr ((m0, m0_1), ((m1, m1_1), m2)))
 else
 (moduleReaderOne n m0 m0_1 m1 m1_1).bind fun r260 =>
 bif (Nat.ble (List.length (m2 ++ ((r260.1.1, r260.1.2) :: ([] : List ((Int) × Int))))) 4294967296) then
 some (Sum.inl ((t10, (addI .i64 t11 1)), ((r260.2.1.1, r260.2.1.2), ((r260.2.2.1, r260.2.2.2), (m2 ++ ((r260.1.1, r260.1.2) :: ([] : List ((Int) × Int))))))))
 else none
 else
 some (Sum.inr ((m0, m0_1), ((m1, m1_1), m2)))
noncomputable def moduleListApiTypeq1_W0 (n : Nat) (s : (Int × Int) × (Int × Bool) × (DC × Bool) × DA) : Option ((Int × Bool) × (DC × Bool) × DA) := loopS (fun s => moduleListApiTypeq1_B0 n s.1.1 s.1.2 s.2.1.1 s.2.1.2 s.2.2.1.1 s.2.2.1.2 s.2.2.2) n s
noncomputable def moduleListApiTypeq1 (n : Nat) (most_1 : Int) (m0 : Int) (m0_1 : Bool) (m1 : DC) (m1_1 : Bool) : Option (DA × (Int × Bool) × DC × Bool) :=
 (moduleReaderCount n most_1 m0 m0_1 m1 m1_1).bind fun r261 =>
 (moduleListApiTypeq1_W0 n ((r261.1, 0), ((r261.2.1.1, r261.2.1.2), ((r261.2.2.1, r261.2.2.2), ([] : List ((Int) × Int)))))).bind fun r262 =>
 some (r262.2.2, ((r262.1.1, r262.1.2), (r262.2.1.1, r262.2.1.2)))
noncomputable def moduleDecode2 (n : Nat) (m1 : Int) (m1_1 : Bool) (m2 : DC) (m2_1 : Bool) : Option (DA × (Int × Bool) × DC × Bool) :=
 (moduleListApiTypeq1 n 6 m1 m1_1 m2 m2_1).bind fun r263 =>
 some (r263.1, ((r263.2.1.1, r263.2.1.2), (r263.2.2.1, r263.2.2.2)))
noncomputable def moduleListApiType_B0 (n : Nat) (t10 : Int) (t11 : Int) (m0 : Int) (m0_1 : Bool) (m2 : DC) (m2_1 : Bool) (m3 : DG) : Option (((Int × Int) × (Int × Bool) × (DC × Bool) × DG) ⊕ ((Int × Bool) × (DC × Bool) × DG)) :=
 bif (decide (t11 < t10)) then
 bif m0_1 then
 some (Sum.inr ((m0, m0_1), ((m2, m2_1), m3)))
 else
 (moduleDecode2 n m0 m0_1 m2 m2_1).bind fun r264 =>
 bif (Nat.ble (List.length (m3 ++ (r264.1 :: ([] : List (List ((Int) × Int)))))) 4294967296) then
 some (Sum.inl ((t10, (addI .i64 t11 1)), ((r264.2.1.1, r264.2.1.2), ((r264.2.2.1, r264.2.2.2), (m3 ++ (r264.1 :: ([] : List (List ((Int) × Int)))))))))
 else none
 else
 some (Sum.inr ((m0, m0_1), ((m2, m2_1), m3)))
noncomputable def moduleListApiType_W0 (n : Nat) (s : (Int × Int) × (Int × Bool) × (DC × Bool) × DG) : Option ((Int × Bool) × (DC × Bool) × DG) := loopS (fun s => moduleListApiType_B0 n s.1.1 s.1.2 s.2.1.1 s.2.1.2 s.2.2.1.1 s.2.2.1.2 s.2.2.2) n s
noncomputable def moduleListApiType (n : Nat) (most_1 : Int) (m0 : Int) (m0_1 : Bool) (m2 : DC) (m2_1 : Bool) : Option (DG × (Int × Bool) × DC × Bool) :=
 (moduleReaderCount n most_1 m0 m0_1 m2 m2_1).bind fun r265 =>
 (moduleListApiType_W0 n ((r265.1, 0), ((r265.2.1.1, r265.2.1.2), ((r265.2.2.1, r265.2.2.2), ([] : List (List ((Int) × Int))))))).bind fun r266 =>
 some (r266.2.2, ((r266.1.1, r266.1.2), (r266.2.1.1, r266.2.1.2)))
noncomputable def moduleDecode1v1 (n : Nat) (k_0 : Int) (m0 : DJ) (m1 : DG) : Option (DJ × DG × (Int × Bool) × DC × Bool) :=
 (getI m0 k_0).bind fun x274 =>
 (numNewReader n x274).bind fun r275 =>
 some (m0, (m1, (((lenI m1), false), (r275.1, r275.2))))
noncomputable def BackwardByte (n : Nat) (s_0 : DC) : Option DC :=
 some s_0
noncomputable def fixV (xs : DC) : Int := xs.foldr (fun c v => orI .u64 (IntKind.u64.wrap (v * 256)) (IntKind.u64.wrap c)) 0
noncomputable def numReaderFixed (n : Nat) (n_1 : Int) (m0 : DC) (m0_1 : Bool) : Option (Int × DC × Bool) :=
 (numReaderTake n (minI (maxI n_1 0) 8) m0 m0_1).bind fun r => some (fixV r.1, r.2)
noncomputable def instGet_B0 (n : Nat) (op_4 : Int) (t20 : Int) (t21 : Int) (m0 : DC) (m0_1 : Bool) (m1 : Int) (m1_1 : Int) (m1_2 : Int) (m2 : Int) (m2_1 : Int) : Option (((Int × Int × Int) × (DC × Bool) × (Int × Int × Int) × Int × Int) ⊕ ((Bool × (DC × Bool) × (Int × Int × Int) × Int × Int) ⊕ (Int × (DC × Bool) × (Int × Int × Int) × Int × Int))) :=
 bif (decide (t21 < t20)) then
 (numReaderVar n m0 m0_1).bind fun r298 =>
 bif ((decide (0 ≤ t21)) && (decide (t21 < 2))) then
 bif (Nat.beq (0 + (0 + ((Int.toNat t21) * 1))) 0) then
 (numReaderBad n r298.2.1 r298.2.2).bind fun r299 =>
 bif r299.1 then
 some (Sum.inr (Sum.inl (false, ((r299.2.1, r299.2.2), ((0, (0, 0)), (r298.1, m2_1))))))
 else
 bif ((decide (0 ≤ t21)) && (decide (t21 < 2))) then
 bif (Nat.beq (0 + (0 + ((Int.toNat t21) * 1))) 0) then
 bif (decide (r298.1 > 255)) then
 some (Sum.inr (Sum.inl (false, ((r299.2.1, r299.2.2), ((0, (0, 0)), (r298.1, m2_1))))))
 else
 some (Sum.inl ((op_4, (t20, (addI .i64 t21 1))), ((r299.2.1, r299.2.2), ((m1, (m1_1, m1_2)), (r298.1, m2_1)))))
 else
 bif (Nat.beq (0 + (0 + ((Int.toNat t21) * 1))) 1) then
 bif (decide (m2_1 > 255)) then
 some (Sum.inr (Sum.inl (false, ((r299.2.1, r299.2.2), ((0, (0, 0)), (r298.1, m2_1))))))
 else
 some (Sum.inl ((op_4, (t20, (addI .i64 t21 1))), ((r299.2.1, r299.2.2), ((m1, (m1_1, m1_2)), (r298.1, m2_1)))))
 else none
 else none
 else
 bif (Nat.beq (0 + (0 + ((Int.toNat t21) * 1))) 1) then
 (numReaderBad n r298.2.1 r298.2.2).bind fun r300 =>
 bif r300.1 then
 some (Sum.inr (Sum.inl (false, ((r300.2.1, r300.2.2), ((0, (0, 0)), (m2, r298.1))))))
 else
 bif ((decide (0 ≤ t21)) && (decide (t21 < 2))) then
 bif (Nat.beq (0 + (0 + ((Int.toNat t21) * 1))) 0) then
 bif (decide (m2 > 255)) then
 some (Sum.inr (Sum.inl (false, ((r300.2.1, r300.2.2), ((0, (0, 0)), (m2, r298.1))))))
 else
 some (Sum.inl ((op_4, (t20, (addI .i64 t21 1))), ((r300.2.1, r300.2.2), ((m1, (m1_1, m1_2)), (m2, r298.1)))))
 else
 bif (Nat.beq (0 + (0 + ((Int.toNat t21) * 1))) 1) then
 bif (decide (r298.1 > 255)) then
 some (Sum.inr (Sum.inl (false, ((r300.2.1, r300.2.2), ((0, (0, 0)), (m2, r298.1))))))
 else
 some (Sum.inl ((op_4, (t20, (addI .i64 t21 1))), ((r300.2.1, r300.2.2), ((m1, (m1_1, m1_2)), (m2, r298.1)))))
 else none
 else none
 else none
 else none
 else
 some (Sum.inr (Sum.inr (op_4, ((m0, m0_1), ((m1, (m1_1, m1_2)), (m2, m2_1))))))
noncomputable def instGet_W0 (n : Nat) (s : (Int × Int × Int) × (DC × Bool) × (Int × Int × Int) × Int × Int) : Option ((Bool × (DC × Bool) × (Int × Int × Int) × Int × Int) ⊕ (Int × (DC × Bool) × (Int × Int × Int) × Int × Int)) := loopS (fun s => instGet_B0 n s.1.1 s.1.2.1 s.1.2.2 s.2.1.1 s.2.1.2 s.2.2.1.1 s.2.2.1.2.1 s.2.2.1.2.2 s.2.2.2.1 s.2.2.2.2) n s
noncomputable def instGet (n : Nat) (m0 : DC) (m0_1 : Bool) : Option (((Int × Int × Int) × Bool) × DC × Bool) :=
 (numReaderFixed n 1 m0 m0_1).bind fun r301 =>
 (instArgs n (cvtI .i64 r301.1)).bind fun r302 =>
 (numReaderBad n r301.2.1 r301.2.2).bind fun r303 =>
 bif r303.1 then
 some (((0, (0, 0)), false), (r303.2.1, r303.2.2))
 else
 bif (decide (r302 < 0)) then
 some (((0, (0, 0)), false), (r303.2.1, r303.2.2))
 else
 (instGet_W0 n (((cvtI .i64 r301.1), (r302, 0)), ((r303.2.1, r303.2.2), ((0, (0, 0)), (0, 0))))).bind fun r304 =>
 Sum.rec (fun u305 =>
 some (((u305.2.2.1.1, (u305.2.2.1.2.1, u305.2.2.1.2.2)), u305.1), (u305.2.1.1, u305.2.1.2))) (fun v306 =>
 some (((v306.1, ((cvtI .i64 v306.2.2.2.1), (cvtI .i64 v306.2.2.2.2))), true), (v306.2.1.1, v306.2.1.2))) r304
noncomputable def moduleReaderInstr (n : Nat) (m0 : Int) (m0_1 : Bool) (m1 : DC) (m1_1 : Bool) : Option ((Int × Int × Int) × (Int × Bool) × DC × Bool) :=
 (instGet n m1 m1_1).bind fun r307 =>
 bif m0_1 then
 some ((r307.1.1.1, (r307.1.1.2.1, r307.1.1.2.2)), ((m0, true), (r307.2.1, r307.2.2)))
 else
 some ((r307.1.1.1, (r307.1.1.2.1, r307.1.1.2.2)), ((m0, (!r307.1.2)), (r307.2.1, r307.2.2)))
noncomputable def moduleListApiInstr_B0 (n : Nat) (t10 : Int) (t11 : Int) (m0 : Int) (m0_1 : Bool) (m1 : DC) (m1_1 : Bool) (m2 : DB) : Option (((Int × Int) × (Int × Bool) × (DC × Bool) × DB) ⊕ ((Int × Bool) × (DC × Bool) × DB)) :=
 bif (decide (t11 < t10)) then
 bif m0_1 then
 some (Sum.inr ((m0, m0_1), ((m1, m1_1), m2)))
 else
 (moduleReaderInstr n m0 m0_1 m1 m1_1).bind fun r308 =>
 bif (Nat.ble (List.length (m2 ++ ((r308.1.1, (r308.1.2.1, r308.1.2.2)) :: ([] : List ((Int) × (Int) × Int))))) 4294967296) then
 some (Sum.inl ((t10, (addI .i64 t11 1)), ((r308.2.1.1, r308.2.1.2), ((r308.2.2.1, r308.2.2.2), (m2 ++ ((r308.1.1, (r308.1.2.1, r308.1.2.2)) :: ([] : List ((Int) × (Int) × Int))))))))
 else none
 else
 some (Sum.inr ((m0, m0_1), ((m1, m1_1), m2)))
noncomputable def moduleListApiInstr_W0 (n : Nat) (s : (Int × Int) × (Int × Bool) × (DC × Bool) × DB) : Option ((Int × Bool) × (DC × Bool) × DB) := loopS (fun s => moduleListApiInstr_B0 n s.1.1 s.1.2 s.2.1.1 s.2.1.2 s.2.2.1.1 s.2.2.1.2 s.2.2.2) n s
noncomputable def moduleListApiInstr (n : Nat) (most_1 : Int) (m0 : Int) (m0_1 : Bool) (m1 : DC) (m1_1 : Bool) : Option (DB × (Int × Bool) × DC × Bool) :=
 (moduleReaderCount n most_1 m0 m0_1 m1 m1_1).bind fun r309 =>
 (moduleListApiInstr_W0 n ((r309.1, 0), ((r309.2.1.1, r309.2.1.2), ((r309.2.2.1, r309.2.2.2), ([] : List ((Int) × (Int) × Int)))))).bind fun r310 =>
 some (r310.2.2, ((r310.1.1, r310.1.2), (r310.2.1.1, r310.2.1.2)))
noncomputable def moduleReaderFunction (n : Nat) (m0 : Int) (m0_1 : Bool) (m1 : DC) (m1_1 : Bool) : Option ((DA × Int × Int × DA × DB) × (Int × Bool) × DC × Bool) :=
 (moduleListApiTypeq1 n 4 m0 m0_1 m1 m1_1).bind fun r311 =>
 (moduleReaderOne n r311.2.1.1 r311.2.1.2 r311.2.2.1 r311.2.2.2).bind fun r312 =>
 (moduleListApiTypeq1 n 8 r312.2.1.1 r312.2.1.2 r312.2.2.1 r312.2.2.2).bind fun r313 =>
 (moduleListApiInstr n 64 r313.2.1.1 r313.2.1.2 r313.2.2.1 r313.2.2.2).bind fun r314 =>
 some ((r311.1, (r312.1.1, (r312.1.2, (r313.1, r314.1)))), ((r314.2.1.1, r314.2.1.2), (r314.2.2.1, r314.2.2.2)))
noncomputable def moduleListApiFunc_B0 (n : Nat) (t10 : Int) (t11 : Int) (m0 : Int) (m0_1 : Bool) (m1 : DC) (m1_1 : Bool) (m2 : DH) : Option (((Int × Int) × (Int × Bool) × (DC × Bool) × DH) ⊕ ((Int × Bool) × (DC × Bool) × DH)) :=
 bif (decide (t11 < t10)) then
 bif m0_1 then
 some (Sum.inr ((m0, m0_1), ((m1, m1_1), m2)))
 else
 (moduleReaderFunction n m0 m0_1 m1 m1_1).bind fun r315 =>
 bif (Nat.ble (List.length (m2 ++ ((r315.1.1, (r315.1.2.1, (r315.1.2.2.1, (r315.1.2.2.2.1, r315.1.2.2.2.2)))) :: ([] : List ((List ((Int) × Int)) × (Int) × (Int) × (List ((Int) × Int)) × List ((Int) × (Int) × Int)))))) 4294967296) then
 some (Sum.inl ((t10, (addI .i64 t11 1)), ((r315.2.1.1, r315.2.1.2), ((r315.2.2.1, r315.2.2.2), (m2 ++ ((r315.1.1, (r315.1.2.1, (r315.1.2.2.1, (r315.1.2.2.2.1, r315.1.2.2.2.2)))) :: ([] : List ((List ((Int) × Int)) × (Int) × (Int) × (List ((Int) × Int)) × List ((Int) × (Int) × Int)))))))))
 else none
 else
 some (Sum.inr ((m0, m0_1), ((m1, m1_1), m2)))
noncomputable def moduleListApiFunc_W0 (n : Nat) (s : (Int × Int) × (Int × Bool) × (DC × Bool) × DH) : Option ((Int × Bool) × (DC × Bool) × DH) := loopS (fun s => moduleListApiFunc_B0 n s.1.1 s.1.2 s.2.1.1 s.2.1.2 s.2.2.1.1 s.2.2.1.2 s.2.2.2) n s
noncomputable def moduleListApiFunc (n : Nat) (most_1 : Int) (m0 : Int) (m0_1 : Bool) (m1 : DC) (m1_1 : Bool) : Option (DH × (Int × Bool) × DC × Bool) :=
 (moduleReaderCount n most_1 m0 m0_1 m1 m1_1).bind fun r316 =>
 (moduleListApiFunc_W0 n ((r316.1, 0), ((r316.2.1.1, r316.2.1.2), ((r316.2.2.1, r316.2.2.2), ([] : List ((List ((Int) × Int)) × (Int) × (Int) × (List ((Int) × Int)) × List ((Int) × (Int) × Int))))))).bind fun r317 =>
 some (r317.2.2, ((r317.1.1, r317.1.2), (r317.2.1.1, r317.2.1.2)))
noncomputable def moduleDecode1v2 (n : Nat) (k_0 : Int) (m0 : DJ) (m1 : DG) (m1_1 : DH) : Option (DJ × (DG × DH) × (Int × Bool) × DC × Bool) :=
 (getI m0 k_0).bind fun x327 =>
 (numNewReader n x327).bind fun r328 =>
 some (m0, ((m1, m1_1), (((lenI m1), false), (r328.1, r328.2))))
noncomputable def moduleReaderHost (n : Nat) (m0 : Int) (m0_1 : Bool) (m1 : DC) (m1_1 : Bool) : Option ((DA × Int × Int) × (Int × Bool) × DC × Bool) :=
 (moduleListApiTypeq1 n 4 m0 m0_1 m1 m1_1).bind fun r340 =>
 (moduleReaderOne n r340.2.1.1 r340.2.1.2 r340.2.2.1 r340.2.2.2).bind fun r341 =>
 some ((r340.1, (r341.1.1, r341.1.2)), ((r341.2.1.1, r341.2.1.2), (r341.2.2.1, r341.2.2.2)))
noncomputable def moduleListApiImport_B0 (n : Nat) (t10 : Int) (t11 : Int) (m0 : Int) (m0_1 : Bool) (m1 : DC) (m1_1 : Bool) (m2 : DI) : Option (((Int × Int) × (Int × Bool) × (DC × Bool) × DI) ⊕ ((Int × Bool) × (DC × Bool) × DI)) :=
 bif (decide (t11 < t10)) then
 bif m0_1 then
 some (Sum.inr ((m0, m0_1), ((m1, m1_1), m2)))
 else
 (moduleReaderHost n m0 m0_1 m1 m1_1).bind fun r342 =>
 bif (Nat.ble (List.length (m2 ++ ((r342.1.1, (r342.1.2.1, r342.1.2.2)) :: ([] : List ((List ((Int) × Int)) × (Int) × Int))))) 4294967296) then
 some (Sum.inl ((t10, (addI .i64 t11 1)), ((r342.2.1.1, r342.2.1.2), ((r342.2.2.1, r342.2.2.2), (m2 ++ ((r342.1.1, (r342.1.2.1, r342.1.2.2)) :: ([] : List ((List ((Int) × Int)) × (Int) × Int))))))))
 else none
 else
 some (Sum.inr ((m0, m0_1), ((m1, m1_1), m2)))
noncomputable def moduleListApiImport_W0 (n : Nat) (s : (Int × Int) × (Int × Bool) × (DC × Bool) × DI) : Option ((Int × Bool) × (DC × Bool) × DI) := loopS (fun s => moduleListApiImport_B0 n s.1.1 s.1.2 s.2.1.1 s.2.1.2 s.2.2.1.1 s.2.2.1.2 s.2.2.2) n s
noncomputable def moduleListApiImport (n : Nat) (most_1 : Int) (m0 : Int) (m0_1 : Bool) (m1 : DC) (m1_1 : Bool) : Option (DI × (Int × Bool) × DC × Bool) :=
 (moduleReaderCount n most_1 m0 m0_1 m1 m1_1).bind fun r343 =>
 (moduleListApiImport_W0 n ((r343.1, 0), ((r343.2.1.1, r343.2.1.2), ((r343.2.2.1, r343.2.2.2), ([] : List ((List ((Int) × Int)) × (Int) × Int)))))).bind fun r344 =>
 some (r344.2.2, ((r344.1.1, r344.1.2), (r344.2.1.1, r344.2.1.2)))
noncomputable def moduleDecode1v3 (n : Nat) (k_0 : Int) (m0 : DJ) (m1 : DG) (m1_1 : DH) (m1_2 : DI) : Option (DJ × (DG × DH × DI) × (Int × Bool) × DC × Bool) :=
 (getI m0 k_0).bind fun x356 =>
 (numNewReader n x356).bind fun r357 =>
 some (m0, ((m1, (m1_1, m1_2)), (((lenI m1), false), (r357.1, r357.2))))
noncomputable def moduleDecode3 (n : Nat) (m1 : Int) (m1_1 : Bool) (m2 : DC) (m2_1 : Bool) : Option (Int × (Int × Bool) × DC × Bool) :=
 (numReaderFixed n 8 m2 m2_1).bind fun r370 =>
 some (r370.1, ((m1, m1_1), (r370.2.1, r370.2.2)))
noncomputable def moduleListUint64_B0 (n : Nat) (t10 : Int) (t11 : Int) (m0 : Int) (m0_1 : Bool) (m2 : DC) (m2_1 : Bool) (m3 : DC) : Option (((Int × Int) × (Int × Bool) × (DC × Bool) × DC) ⊕ ((Int × Bool) × (DC × Bool) × DC)) :=
 bif (decide (t11 < t10)) then
 bif m0_1 then
 some (Sum.inr ((m0, m0_1), ((m2, m2_1), m3)))
 else
 (moduleDecode3 n m0 m0_1 m2 m2_1).bind fun r371 =>
 bif (Nat.ble (List.length (m3 ++ (r371.1 :: ([] : DE)))) 4294967296) then
 some (Sum.inl ((t10, (addI .i64 t11 1)), ((r371.2.1.1, r371.2.1.2), ((r371.2.2.1, r371.2.2.2), (m3 ++ (r371.1 :: ([] : DE)))))))
 else none
 else
 some (Sum.inr ((m0, m0_1), ((m2, m2_1), m3)))
noncomputable def moduleListUint64_W0 (n : Nat) (s : (Int × Int) × (Int × Bool) × (DC × Bool) × DC) : Option ((Int × Bool) × (DC × Bool) × DC) := loopS (fun s => moduleListUint64_B0 n s.1.1 s.1.2 s.2.1.1 s.2.1.2 s.2.2.1.1 s.2.2.1.2 s.2.2.2) n s
noncomputable def moduleListUint64 (n : Nat) (most_1 : Int) (m0 : Int) (m0_1 : Bool) (m2 : DC) (m2_1 : Bool) : Option (DC × (Int × Bool) × DC × Bool) :=
 (moduleReaderCount n most_1 m0 m0_1 m2 m2_1).bind fun r372 =>
 (moduleListUint64_W0 n ((r372.1, 0), ((r372.2.1.1, r372.2.1.2), ((r372.2.2.1, r372.2.2.2), ([] : DE))))).bind fun r373 =>
 some (r373.2.2, ((r373.1.1, r373.1.2), (r373.2.1.1, r373.2.1.2)))
noncomputable def moduleDecode1v4 (n : Nat) (k_0 : Int) (m0 : DJ) (m1 : DG) (m1_1 : DH) (m1_2 : DI) (m1_3 : DC) : Option (DJ × (DG × DH × DI × DC) × (Int × Bool) × DC × Bool) :=
 (getI m0 k_0).bind fun x387 =>
 (numNewReader n x387).bind fun r388 =>
 some (m0, ((m1, (m1_1, (m1_2, m1_3))), (((lenI m1), false), (r388.1, r388.2))))
noncomputable def moduleDecode4 (n : Nat) (m1 : Int) (m1_1 : Bool) (m2 : DC) (m2_1 : Bool) : Option (Empty) :=
 (moduleReaderCount n 32 m1 m1_1 m2 m2_1).bind fun r404 =>
 (numReaderTake n r404.1 r404.2.2.1 r404.2.2.2).bind fun r405 =>
 none
noncomputable def moduleListString_B0 (n : Nat) (t10 : Int) (t11 : Int) (m0 : Int) (m0_1 : Bool) (m2 : DC) (m2_1 : Bool) (m3 : DD) : Option (((Int × Int) × (Int × Bool) × (DC × Bool) × DD) ⊕ ((Int × Bool) × (DC × Bool) × DD)) :=
 bif (decide (t11 < t10)) then
 bif m0_1 then
 some (Sum.inr ((m0, m0_1), ((m2, m2_1), m3)))
 else
 (moduleDecode4 n m0 m0_1 m2 m2_1).bind fun r406 =>
 none
 else
 some (Sum.inr ((m0, m0_1), ((m2, m2_1), m3)))
noncomputable def moduleListString_W0 (n : Nat) (s : (Int × Int) × (Int × Bool) × (DC × Bool) × DD) : Option ((Int × Bool) × (DC × Bool) × DD) := loopS (fun s => moduleListString_B0 n s.1.1 s.1.2 s.2.1.1 s.2.1.2 s.2.2.1.1 s.2.2.1.2 s.2.2.2) n s
noncomputable def moduleListString (n : Nat) (most_1 : Int) (m0 : Int) (m0_1 : Bool) (m2 : DC) (m2_1 : Bool) : Option (DD × (Int × Bool) × DC × Bool) :=
 (moduleReaderCount n most_1 m0 m0_1 m2 m2_1).bind fun r407 =>
 (moduleListString_W0 n ((r407.1, 0), ((r407.2.1.1, r407.2.1.2), ((r407.2.2.1, r407.2.2.2), ([] : DF))))).bind fun r408 =>
 some (r408.2.2, ((r408.1.1, r408.1.2), (r408.2.1.1, r408.2.1.2)))
noncomputable def moduleDecode (n : Nat) (t0 : DC) : Option ((DG × DH × DI × DC × DD) × Int) :=
 (packSplit n t0 5).bind fun r423 =>
 bif (r423.2 != 0) then
 some (([], ([], ([], ([], [])))), 2)
 else
 bif ((lenI r423.1) != 5) then
 some (([], ([], ([], ([], [])))), 2)
 else
 (moduleDecode1 n 0 r423.1).bind fun r424 =>
 (getI r424.1 0).bind fun x425 =>
 (numNewReader n x425).bind fun r426 =>
 (numReaderVar n r426.1 r426.2).bind fun r427 =>
 (moduleListApiType n 8 (cvtI .i64 (minI r427.1 8)) r424.2.1.2 r424.2.2.1 r424.2.2.2).bind fun r428 =>
 (moduleDecode1v1 n 1 r424.1 r428.1).bind fun r429 =>
 (moduleListApiFunc n 8 r429.2.2.1.1 r429.2.2.1.2 r429.2.2.2.1 r429.2.2.2.2).bind fun r430 =>
 (moduleDecode1v2 n 2 r429.1 r429.2.1 r430.1).bind fun r431 =>
 (moduleListApiImport n 8 r431.2.2.1.1 r431.2.2.1.2 r431.2.2.2.1 r431.2.2.2.2).bind fun r432 =>
 (moduleDecode1v3 n 3 r431.1 r431.2.1.1 r431.2.1.2 r432.1).bind fun r433 =>
 (moduleListUint64 n 16 r433.2.2.1.1 r433.2.2.1.2 r433.2.2.2.1 r433.2.2.2.2).bind fun r434 =>
 (moduleDecode1v4 n 4 r433.1 r433.2.1.1 r433.2.1.2.1 r433.2.1.2.2 r434.1).bind fun r435 =>
 (moduleListString n 16 r435.2.2.1.1 r435.2.2.1.2 r435.2.2.2.1 r435.2.2.2.2).bind fun r436 =>
 (moduleEncode n r435.2.1.1 r435.2.1.2.1 r435.2.1.2.2.1 r435.2.1.2.2.2 r436.1).bind fun r437 =>
 bif (r437.2 != 0) then
 some (([], ([], ([], ([], [])))), 2)
 else
 bif (!(eqS (intsBytes r437.1) (intsBytes t0))) then
 some (([], ([], ([], ([], [])))), 2)
 else
 some ((r435.2.1.1, (r435.2.1.2.1, (r435.2.1.2.2.1, (r435.2.1.2.2.2, r436.1)))), 0)
noncomputable def EqualType_B0 (n : Nat) (s1_0 : DA) (s2_1 : DA) (t12 : Int) (t13 : Int) : Option ((DA × DA × Int × Int) ⊕ ((Bool) ⊕ (Unit))) :=
 bif (decide (t13 < t12)) then
 (getI s1_0 t13).bind fun x442 =>
 (getI s2_1 t13).bind fun x443 =>
 bif (!((x442.1 == x443.1) && (x442.2 == x443.2))) then
 some (Sum.inr (Sum.inl false))
 else
 some (Sum.inl (s1_0, (s2_1, (t12, (addI .i64 t13 1)))))
 else
 some (Sum.inr (Sum.inr ()))
noncomputable def EqualType_W0 (n : Nat) (s : DA × DA × Int × Int) : Option ((Bool) ⊕ (Unit)) := loopS (fun s => EqualType_B0 n s.1 s.2.1 s.2.2.1 s.2.2.2) n s
noncomputable def EqualType (n : Nat) (s1_0 : DA) (s2_1 : DA) : Option (Bool) :=
 bif ((lenI s1_0) != (lenI s2_1)) then
 some false
 else
 (EqualType_W0 n (s1_0, (s2_1, ((lenI s1_0), 0)))).bind fun r444 =>
 Sum.rec (fun u445 =>
 some u445) (fun v446 =>
 some true) r444
noncomputable def EqualFuncType_B0 (n : Nat) (s2_1 : DG) (t15 : DG) (t16 : Int) (t17 : Int) : Option ((DG × DG × Int × Int) ⊕ ((Bool) ⊕ (Unit))) :=
 bif (decide (t17 < t16)) then
 (getI t15 t17).bind fun x447 =>
 (getI s2_1 t17).bind fun x448 =>
 (EqualType n x447 x448).bind fun r449 =>
 bif (!r449) then
 some (Sum.inr (Sum.inl false))
 else
 some (Sum.inl (s2_1, (t15, (t16, (addI .i64 t17 1)))))
 else
 some (Sum.inr (Sum.inr ()))
noncomputable def EqualFuncType_W0 (n : Nat) (s : DG × DG × Int × Int) : Option ((Bool) ⊕ (Unit)) := loopS (fun s => EqualFuncType_B0 n s.1 s.2.1 s.2.2.1 s.2.2.2) n s
noncomputable def EqualFuncType (n : Nat) (s1_0 : DG) (s2_1 : DG) : Option (Bool) :=
 bif ((lenI s1_0) != (lenI s2_1)) then
 some false
 else
 (EqualFuncType_W0 n (s2_1, (s1_0, ((lenI s1_0), 0)))).bind fun r450 =>
 Sum.rec (fun u451 =>
 some u451) (fun v452 =>
 some true) r450
noncomputable def EqualInstr_B0 (n : Nat) (s1_0 : DB) (s2_1 : DB) (t12 : Int) (t13 : Int) : Option ((DB × DB × Int × Int) ⊕ ((Bool) ⊕ (Unit))) :=
 bif (decide (t13 < t12)) then
 (getI s1_0 t13).bind fun x458 =>
 (getI s2_1 t13).bind fun x459 =>
 bif (!((x458.1 == x459.1) && ((x458.2.1 == x459.2.1) && (x458.2.2 == x459.2.2)))) then
 some (Sum.inr (Sum.inl false))
 else
 some (Sum.inl (s1_0, (s2_1, (t12, (addI .i64 t13 1)))))
 else
 some (Sum.inr (Sum.inr ()))
noncomputable def EqualInstr_W0 (n : Nat) (s : DB × DB × Int × Int) : Option ((Bool) ⊕ (Unit)) := loopS (fun s => EqualInstr_B0 n s.1 s.2.1 s.2.2.1 s.2.2.2) n s
noncomputable def EqualInstr (n : Nat) (s1_0 : DB) (s2_1 : DB) : Option (Bool) :=
 bif ((lenI s1_0) != (lenI s2_1)) then
 some false
 else
 (EqualInstr_W0 n (s1_0, (s2_1, ((lenI s1_0), 0)))).bind fun r460 =>
 Sum.rec (fun u461 =>
 some u461) (fun v462 =>
 some true) r460
noncomputable def moduleSameFuncs (n : Nat) (a_0 : DA) (a_0_1 : Int) (a_0_2 : Int) (a_0_3 : DA) (a_0_4 : DB) (b_1 : DA) (b_1_1 : Int) (b_1_2 : Int) (b_1_3 : DA) (b_1_4 : DB) : Option (Bool) :=
 bif ((a_0_1 == b_1_1) && (a_0_2 == b_1_2)) then
 (EqualType n a_0 b_1).bind fun r463 =>
 bif r463 then
 (EqualType n a_0_3 b_1_3).bind fun r464 =>
 bif r464 then
 (EqualInstr n a_0_4 b_1_4).bind fun r465 =>
 some r465
 else
 some false
 else
 some false
 else
 some false
noncomputable def EqualFuncFunc_B0 (n : Nat) (s2_1 : DH) (t15 : DH) (t16 : Int) (t17 : Int) : Option ((DH × DH × Int × Int) ⊕ ((Bool × (DA × Int × Int × DA × DB) × DA × Int × Int × DA × DB) ⊕ (Unit))) :=
 bif (decide (t17 < t16)) then
 (getI t15 t17).bind fun x466 =>
 (getI s2_1 t17).bind fun x467 =>
 (moduleSameFuncs n x466.1 x466.2.1 x466.2.2.1 x466.2.2.2.1 x466.2.2.2.2 x467.1 x467.2.1 x467.2.2.1 x467.2.2.2.1 x467.2.2.2.2).bind fun r468 =>
 bif (!r468) then
 some (Sum.inr (Sum.inl (false, ((x466.1, (x466.2.1, (x466.2.2.1, (x466.2.2.2.1, x466.2.2.2.2)))), (x467.1, (x467.2.1, (x467.2.2.1, (x467.2.2.2.1, x467.2.2.2.2))))))))
 else
 some (Sum.inl (s2_1, (t15, (t16, (addI .i64 t17 1)))))
 else
 some (Sum.inr (Sum.inr ()))
noncomputable def EqualFuncFunc_W0 (n : Nat) (s : DH × DH × Int × Int) : Option ((Bool × (DA × Int × Int × DA × DB) × DA × Int × Int × DA × DB) ⊕ (Unit)) := loopS (fun s => EqualFuncFunc_B0 n s.1 s.2.1 s.2.2.1 s.2.2.2) n s
noncomputable def EqualFuncFunc (n : Nat) (s1_0 : DH) (s2_1 : DH) : Option (Bool) :=
 bif ((lenI s1_0) != (lenI s2_1)) then
 some false
 else
 (EqualFuncFunc_W0 n (s2_1, (s1_0, ((lenI s1_0), 0)))).bind fun r469 =>
 Sum.rec (fun u470 =>
 some u470.1) (fun v471 =>
 some true) r469
noncomputable def moduleSameImports (n : Nat) (a_0 : DA) (a_0_1 : Int) (a_0_2 : Int) (b_1 : DA) (b_1_1 : Int) (b_1_2 : Int) : Option (Bool) :=
 bif ((a_0_1 == b_1_1) && (a_0_2 == b_1_2)) then
 (EqualType n a_0 b_1).bind fun r476 =>
 some r476
 else
 some false
noncomputable def EqualFuncImport_B0 (n : Nat) (s2_1 : DI) (t15 : DI) (t16 : Int) (t17 : Int) : Option ((DI × DI × Int × Int) ⊕ ((Bool × (DA × Int × Int) × DA × Int × Int) ⊕ (Unit))) :=
 bif (decide (t17 < t16)) then
 (getI t15 t17).bind fun x477 =>
 (getI s2_1 t17).bind fun x478 =>
 (moduleSameImports n x477.1 x477.2.1 x477.2.2 x478.1 x478.2.1 x478.2.2).bind fun r479 =>
 bif (!r479) then
 some (Sum.inr (Sum.inl (false, ((x477.1, (x477.2.1, x477.2.2)), (x478.1, (x478.2.1, x478.2.2))))))
 else
 some (Sum.inl (s2_1, (t15, (t16, (addI .i64 t17 1)))))
 else
 some (Sum.inr (Sum.inr ()))
noncomputable def EqualFuncImport_W0 (n : Nat) (s : DI × DI × Int × Int) : Option ((Bool × (DA × Int × Int) × DA × Int × Int) ⊕ (Unit)) := loopS (fun s => EqualFuncImport_B0 n s.1 s.2.1 s.2.2.1 s.2.2.2) n s
noncomputable def EqualFuncImport (n : Nat) (s1_0 : DI) (s2_1 : DI) : Option (Bool) :=
 bif ((lenI s1_0) != (lenI s2_1)) then
 some false
 else
 (EqualFuncImport_W0 n (s2_1, (s1_0, ((lenI s1_0), 0)))).bind fun r480 =>
 Sum.rec (fun u481 =>
 some u481.1) (fun v482 =>
 some true) r480
noncomputable def EqualUint64_B0 (n : Nat) (s1_0 : DC) (s2_1 : DC) (t12 : Int) (t13 : Int) : Option ((DC × DC × Int × Int) ⊕ ((Bool) ⊕ (Unit))) :=
 bif (decide (t13 < t12)) then
 (getI s1_0 t13).bind fun x486 =>
 (getI s2_1 t13).bind fun x487 =>
 bif (x486 != x487) then
 some (Sum.inr (Sum.inl false))
 else
 some (Sum.inl (s1_0, (s2_1, (t12, (addI .i64 t13 1)))))
 else
 some (Sum.inr (Sum.inr ()))
noncomputable def EqualUint64_W0 (n : Nat) (s : DC × DC × Int × Int) : Option ((Bool) ⊕ (Unit)) := loopS (fun s => EqualUint64_B0 n s.1 s.2.1 s.2.2.1 s.2.2.2) n s
noncomputable def EqualUint64 (n : Nat) (s1_0 : DC) (s2_1 : DC) : Option (Bool) :=
 bif ((lenI s1_0) != (lenI s2_1)) then
 some false
 else
 (EqualUint64_W0 n (s1_0, (s2_1, ((lenI s1_0), 0)))).bind fun r488 =>
 Sum.rec (fun u489 =>
 some u489) (fun v490 =>
 some true) r488
noncomputable def EqualString_B0 (n : Nat) (s1_0 : DD) (s2_1 : DD) (t12 : Int) (t13 : Int) : Option ((DD × DD × Int × Int) ⊕ ((Bool) ⊕ (Unit))) :=
 bif (decide (t13 < t12)) then
 (getI s1_0 t13).bind fun x495 =>
 (getI s2_1 t13).bind fun x496 =>
 bif (!(eqS x495 x496)) then
 some (Sum.inr (Sum.inl false))
 else
 some (Sum.inl (s1_0, (s2_1, (t12, (addI .i64 t13 1)))))
 else
 some (Sum.inr (Sum.inr ()))
noncomputable def EqualString_W0 (n : Nat) (s : DD × DD × Int × Int) : Option ((Bool) ⊕ (Unit)) := loopS (fun s => EqualString_B0 n s.1 s.2.1 s.2.2.1 s.2.2.2) n s
noncomputable def EqualString (n : Nat) (s1_0 : DD) (s2_1 : DD) : Option (Bool) :=
 bif ((lenI s1_0) != (lenI s2_1)) then
 some false
 else
 (EqualString_W0 n (s1_0, (s2_1, ((lenI s1_0), 0)))).bind fun r497 =>
 Sum.rec (fun u498 =>
 some u498) (fun v499 =>
 some true) r497
noncomputable def moduleSame (n : Nat) (a_0 : DG) (a_0_1 : DH) (a_0_2 : DI) (a_0_3 : DC) (a_0_4 : DD) (b_1 : DG) (b_1_1 : DH) (b_1_2 : DI) (b_1_3 : DC) (b_1_4 : DD) : Option (Bool) :=
 (EqualFuncType n a_0 b_1).bind fun r500 =>
 bif r500 then
 (EqualFuncFunc n a_0_1 b_1_1).bind fun r501 =>
 bif r501 then
 (EqualFuncImport n a_0_2 b_1_2).bind fun r502 =>
 bif r502 then
 (EqualUint64 n a_0_3 b_1_3).bind fun r503 =>
 bif r503 then
 (EqualString n a_0_4 b_1_4).bind fun r504 =>
 some r504
 else
 some false
 else
 some false
 else
 some false
 else
 some false
noncomputable def sumOf_B2 (n : Nat) (n_3 : Int) (t7 : DC) (t8 : Int) (t9 : Int) (t17 : Int) : Option ((Int × DC × Int × Int × Int) ⊕ (Int × DC × Int × Int)) :=
 bif (decide (t17 < 8)) then
 some (Sum.inl ((xorI .u32 (shrI .u32 n_3 1) (mulI .u32 3988292384 (andI .u32 n_3 1))), (t7, (t8, (t9, (addI .i64 t17 1))))))
 else
 some (Sum.inr (n_3, (t7, (t8, t9))))
noncomputable def sumOf_W2 (n : Nat) (s : Int × DC × Int × Int × Int) : Option (Int × DC × Int × Int) := loopS (fun s => sumOf_B2 n s.1 s.2.1 s.2.2.1 s.2.2.2.1 s.2.2.2.2) n s
noncomputable def sumOf_B0 (n : Nat) (n_3 : Int) (t7 : DC) (t8 : Int) (t9 : Int) : Option ((Int × DC × Int × Int) ⊕ (Int)) :=
 bif (decide (t9 < t8)) then
 (getI t7 t9).bind fun x510 =>
 (sumOf_W2 n ((xorI .u32 n_3 (cvtI .u32 x510)), (t7, (t8, (t9, 0))))).bind fun r511 =>
 some (Sum.inl (r511.1, (r511.2.1, (r511.2.2.1, (addI .i64 r511.2.2.2 1)))))
 else
 some (Sum.inr n_3)
noncomputable def sumOf_W0 (n : Nat) (s : Int × DC × Int × Int) : Option (Int) := loopS (fun s => sumOf_B0 n s.1 s.2.1 s.2.2.1 s.2.2.2) n s
noncomputable def sumOf (n : Nat) (b_0 : DC) : Option (Int) :=
 (sumOf_W0 n (4294967295, (b_0, ((lenI b_0), 0)))).bind fun r512 =>
 some (notI .u32 r512)
noncomputable def modulePrint (n : Nat) (m_0 : DG) (m_0_1 : DH) (m_0_2 : DI) (m_0_3 : DC) (m_0_4 : DD) : Option (Int) :=
 (moduleEncode n m_0 m_0_1 m_0_2 m_0_3 m_0_4).bind fun r513 =>
 bif (r513.2 != 0) then
 some 0
 else
 (sumOf n r513.1).bind fun r514 =>
 some r514
noncomputable def law06Answers (n : Nat) : Option (Bool) :=
 (moduleEncode n ([] : List (List ((Int) × Int))) ((([] : List ((Int) × Int)), (1, (0, (([] : List ((Int) × Int)), ((26, (0, 0)) :: ([] : List ((Int) × (Int) × Int))))))) :: ([] : List ((List ((Int) × Int)) × (Int) × (Int) × (List ((Int) × Int)) × List ((Int) × (Int) × Int)))) ([] : List ((List ((Int) × Int)) × (Int) × Int)) ([] : DE) ([] : DF)).bind fun r515 =>
 (moduleDecode n r515.1).bind fun r516 =>
 bif (r515.2 == 0) then
 bif (r516.2 == 0) then
 bif ((lenI r516.1.2.1) == 1) then
 (moduleSame n r516.1.1 r516.1.2.1 r516.1.2.2.1 r516.1.2.2.2.1 r516.1.2.2.2.2 ([] : List (List ((Int) × Int))) ((([] : List ((Int) × Int)), (1, (0, (([] : List ((Int) × Int)), ((26, (0, 0)) :: ([] : List ((Int) × (Int) × Int))))))) :: ([] : List ((List ((Int) × Int)) × (Int) × (Int) × (List ((Int) × Int)) × List ((Int) × (Int) × Int)))) ([] : List ((List ((Int) × Int)) × (Int) × Int)) ([] : DE) ([] : DF)).bind fun r517 =>
 bif r517 then
 (modulePrint n ([] : List (List ((Int) × Int))) ((([] : List ((Int) × Int)), (1, (0, (([] : List ((Int) × Int)), ((26, (0, 0)) :: ([] : List ((Int) × (Int) × Int))))))) :: ([] : List ((List ((Int) × Int)) × (Int) × (Int) × (List ((Int) × Int)) × List ((Int) × (Int) × Int)))) ([] : List ((List ((Int) × Int)) × (Int) × Int)) ([] : DE) ([] : DF)).bind fun r518 =>
 some (r518 != 0)
 else
 some false
 else
 some false
 else
 some false
 else
 some false
noncomputable def ref01Typesq1_B0 (n : Nat) (a_0 : DA) (b_1 : DA) (i_5 : Int) : Option ((DA × DA × Int) ⊕ ((Bool) ⊕ (Unit))) :=
 bif (decide (i_5 < (lenI a_0))) then
 (getI a_0 i_5).bind fun x710 =>
 (getI b_1 i_5).bind fun x711 =>
 bif (!((x710.1 == x711.1) && (x710.2 == x711.2))) then
 some (Sum.inr (Sum.inl false))
 else
 some (Sum.inl (a_0, (b_1, (addI .i64 i_5 1))))
 else
 some (Sum.inr (Sum.inr ()))
noncomputable def ref01Typesq1_W0 (n : Nat) (s : DA × DA × Int) : Option ((Bool) ⊕ (Unit)) := loopS (fun s => ref01Typesq1_B0 n s.1 s.2.1 s.2.2) n s
noncomputable def ref01Typesq1 (n : Nat) (a_0 : DA) (b_1 : DA) : Option (Bool) :=
 bif ((lenI a_0) != (lenI b_1)) then
 some false
 else
 (ref01Typesq1_W0 n (a_0, (b_1, 0))).bind fun r712 =>
 Sum.rec (fun u713 =>
 some u713) (fun v714 =>
 some true) r712
noncomputable def ref01SameModules_B0 (n : Nat) (t5 : Int) (m0 : DG) (m0_1 : DH) (m0_2 : DI) (m0_3 : DC) (m0_4 : DD) (m1 : DG) (m1_1 : DH) (m1_2 : DI) (m1_3 : DC) (m1_4 : DD) : Option ((Int × (DG × DH × DI × DC × DD) × DG × DH × DI × DC × DD) ⊕ ((Bool × (DG × DH × DI × DC × DD) × DG × DH × DI × DC × DD) ⊕ ((DG × DH × DI × DC × DD) × DG × DH × DI × DC × DD))) :=
 bif (decide (t5 < (lenI m0))) then
 (getI m0 t5).bind fun x715 =>
 (getI m1 t5).bind fun x716 =>
 (ref01Typesq1 n x715 x716).bind fun r717 =>
 bif (!r717) then
 some (Sum.inr (Sum.inl (false, ((m0, (m0_1, (m0_2, (m0_3, m0_4)))), (m1, (m1_1, (m1_2, (m1_3, m1_4))))))))
 else
 some (Sum.inl ((addI .i64 t5 1), ((m0, (m0_1, (m0_2, (m0_3, m0_4)))), (m1, (m1_1, (m1_2, (m1_3, m1_4)))))))
 else
 some (Sum.inr (Sum.inr ((m0, (m0_1, (m0_2, (m0_3, m0_4)))), (m1, (m1_1, (m1_2, (m1_3, m1_4)))))))
noncomputable def ref01SameModules_W0 (n : Nat) (s : Int × (DG × DH × DI × DC × DD) × DG × DH × DI × DC × DD) : Option ((Bool × (DG × DH × DI × DC × DD) × DG × DH × DI × DC × DD) ⊕ ((DG × DH × DI × DC × DD) × DG × DH × DI × DC × DD)) := loopS (fun s => ref01SameModules_B0 n s.1 s.2.1.1 s.2.1.2.1 s.2.1.2.2.1 s.2.1.2.2.2.1 s.2.1.2.2.2.2 s.2.2.1 s.2.2.2.1 s.2.2.2.2.1 s.2.2.2.2.2.1 s.2.2.2.2.2.2) n s
noncomputable def ref01SameModules_B4 (n : Nat) (t6 : Int) (t9 : Int) (m0 : DG) (m0_1 : DH) (m0_2 : DI) (m0_3 : DC) (m0_4 : DD) (m1 : DG) (m1_1 : DH) (m1_2 : DI) (m1_3 : DC) (m1_4 : DD) (m2 : DA) (m2_1 : Int) (m2_2 : Int) (m2_3 : DA) (m2_4 : DB) (m3 : DA) (m3_1 : Int) (m3_2 : Int) (m3_3 : DA) (m3_4 : DB) : Option (((Int × Int) × (DG × DH × DI × DC × DD) × (DG × DH × DI × DC × DD) × (DA × Int × Int × DA × DB) × DA × Int × Int × DA × DB) ⊕ ((Bool × (DG × DH × DI × DC × DD) × (DG × DH × DI × DC × DD) × (DA × Int × Int × DA × DB) × DA × Int × Int × DA × DB) ⊕ (Int × (DG × DH × DI × DC × DD) × (DG × DH × DI × DC × DD) × (DA × Int × Int × DA × DB) × DA × Int × Int × DA × DB))) :=
 bif (decide (t9 < (lenI m2_4))) then
 (getI m2_4 t9).bind fun x725 =>
 (getI m3_4 t9).bind fun x726 =>
 bif (!((x725.1 == x726.1) && ((x725.2.1 == x726.2.1) && (x725.2.2 == x726.2.2)))) then
 some (Sum.inr (Sum.inl (false, ((m0, (m0_1, (m0_2, (m0_3, m0_4)))), ((m1, (m1_1, (m1_2, (m1_3, m1_4)))), ((m2, (m2_1, (m2_2, (m2_3, m2_4)))), (m3, (m3_1, (m3_2, (m3_3, m3_4))))))))))
 else
 some (Sum.inl ((t6, (addI .i64 t9 1)), ((m0, (m0_1, (m0_2, (m0_3, m0_4)))), ((m1, (m1_1, (m1_2, (m1_3, m1_4)))), ((m2, (m2_1, (m2_2, (m2_3, m2_4)))), (m3, (m3_1, (m3_2, (m3_3, m3_4)))))))))
 else
 some (Sum.inr (Sum.inr (t6, ((m0, (m0_1, (m0_2, (m0_3, m0_4)))), ((m1, (m1_1, (m1_2, (m1_3, m1_4)))), ((m2, (m2_1, (m2_2, (m2_3, m2_4)))), (m3, (m3_1, (m3_2, (m3_3, m3_4))))))))))
noncomputable def ref01SameModules_W4 (n : Nat) (s : (Int × Int) × (DG × DH × DI × DC × DD) × (DG × DH × DI × DC × DD) × (DA × Int × Int × DA × DB) × DA × Int × Int × DA × DB) : Option ((Bool × (DG × DH × DI × DC × DD) × (DG × DH × DI × DC × DD) × (DA × Int × Int × DA × DB) × DA × Int × Int × DA × DB) ⊕ (Int × (DG × DH × DI × DC × DD) × (DG × DH × DI × DC × DD) × (DA × Int × Int × DA × DB) × DA × Int × Int × DA × DB)) := loopS (fun s => ref01SameModules_B4 n s.1.1 s.1.2 s.2.1.1 s.2.1.2.1 s.2.1.2.2.1 s.2.1.2.2.2.1 s.2.1.2.2.2.2 s.2.2.1.1 s.2.2.1.2.1 s.2.2.1.2.2.1 s.2.2.1.2.2.2.1 s.2.2.1.2.2.2.2 s.2.2.2.1.1 s.2.2.2.1.2.1 s.2.2.2.1.2.2.1 s.2.2.2.1.2.2.2.1 s.2.2.2.1.2.2.2.2 s.2.2.2.2.1 s.2.2.2.2.2.1 s.2.2.2.2.2.2.1 s.2.2.2.2.2.2.2.1 s.2.2.2.2.2.2.2.2) n s
noncomputable def ref01SameModules_B2 (n : Nat) (t6 : Int) (m0 : DG) (m0_1 : DH) (m0_2 : DI) (m0_3 : DC) (m0_4 : DD) (m1 : DG) (m1_1 : DH) (m1_2 : DI) (m1_3 : DC) (m1_4 : DD) : Option ((Int × (DG × DH × DI × DC × DD) × DG × DH × DI × DC × DD) ⊕ ((Bool × (DG × DH × DI × DC × DD) × (DG × DH × DI × DC × DD) × (DA × Int × Int × DA × DB) × DA × Int × Int × DA × DB) ⊕ ((DG × DH × DI × DC × DD) × DG × DH × DI × DC × DD))) :=
 bif (decide (t6 < (lenI m0_1))) then
 (getI m0_1 t6).bind fun x727 =>
 (getI m1_1 t6).bind fun x728 =>
 (ref01Typesq1 n x727.1 x728.1).bind fun r729 =>
 bif (!r729) then
 some (Sum.inr (Sum.inl (false, ((m0, (m0_1, (m0_2, (m0_3, m0_4)))), ((m1, (m1_1, (m1_2, (m1_3, m1_4)))), ((x727.1, (x727.2.1, (x727.2.2.1, (x727.2.2.2.1, x727.2.2.2.2)))), (x728.1, (x728.2.1, (x728.2.2.1, (x728.2.2.2.1, x728.2.2.2.2))))))))))
 else
 bif (!((x727.2.1 == x728.2.1) && (x727.2.2.1 == x728.2.2.1))) then
 some (Sum.inr (Sum.inl (false, ((m0, (m0_1, (m0_2, (m0_3, m0_4)))), ((m1, (m1_1, (m1_2, (m1_3, m1_4)))), ((x727.1, (x727.2.1, (x727.2.2.1, (x727.2.2.2.1, x727.2.2.2.2)))), (x728.1, (x728.2.1, (x728.2.2.1, (x728.2.2.2.1, x728.2.2.2.2))))))))))
 else
 (ref01Typesq1 n x727.2.2.2.1 x728.2.2.2.1).bind fun r730 =>
 bif (!r730) then
 some (Sum.inr (Sum.inl (false, ((m0, (m0_1, (m0_2, (m0_3, m0_4)))), ((m1, (m1_1, (m1_2, (m1_3, m1_4)))), ((x727.1, (x727.2.1, (x727.2.2.1, (x727.2.2.2.1, x727.2.2.2.2)))), (x728.1, (x728.2.1, (x728.2.2.1, (x728.2.2.2.1, x728.2.2.2.2))))))))))
 else
 bif ((lenI x727.2.2.2.2) != (lenI x728.2.2.2.2)) then
 some (Sum.inr (Sum.inl (false, ((m0, (m0_1, (m0_2, (m0_3, m0_4)))), ((m1, (m1_1, (m1_2, (m1_3, m1_4)))), ((x727.1, (x727.2.1, (x727.2.2.1, (x727.2.2.2.1, x727.2.2.2.2)))), (x728.1, (x728.2.1, (x728.2.2.1, (x728.2.2.2.1, x728.2.2.2.2))))))))))
 else
 (ref01SameModules_W4 n ((t6, 0), ((m0, (m0_1, (m0_2, (m0_3, m0_4)))), ((m1, (m1_1, (m1_2, (m1_3, m1_4)))), ((x727.1, (x727.2.1, (x727.2.2.1, (x727.2.2.2.1, x727.2.2.2.2)))), (x728.1, (x728.2.1, (x728.2.2.1, (x728.2.2.2.1, x728.2.2.2.2))))))))).bind fun r731 =>
 Sum.rec (fun u732 =>
 some (Sum.inr (Sum.inl (u732.1, ((u732.2.1.1, (u732.2.1.2.1, (u732.2.1.2.2.1, (u732.2.1.2.2.2.1, u732.2.1.2.2.2.2)))), ((u732.2.2.1.1, (u732.2.2.1.2.1, (u732.2.2.1.2.2.1, (u732.2.2.1.2.2.2.1, u732.2.2.1.2.2.2.2)))), ((u732.2.2.2.1.1, (u732.2.2.2.1.2.1, (u732.2.2.2.1.2.2.1, (u732.2.2.2.1.2.2.2.1, u732.2.2.2.1.2.2.2.2)))), (u732.2.2.2.2.1, (u732.2.2.2.2.2.1, (u732.2.2.2.2.2.2.1, (u732.2.2.2.2.2.2.2.1, u732.2.2.2.2.2.2.2.2))))))))))) (fun v733 =>
 some (Sum.inl ((addI .i64 v733.1 1), ((v733.2.1.1, (v733.2.1.2.1, (v733.2.1.2.2.1, (v733.2.1.2.2.2.1, v733.2.1.2.2.2.2)))), (v733.2.2.1.1, (v733.2.2.1.2.1, (v733.2.2.1.2.2.1, (v733.2.2.1.2.2.2.1, v733.2.2.1.2.2.2.2)))))))) r731
 else
 some (Sum.inr (Sum.inr ((m0, (m0_1, (m0_2, (m0_3, m0_4)))), (m1, (m1_1, (m1_2, (m1_3, m1_4)))))))
noncomputable def ref01SameModules_W2 (n : Nat) (s : Int × (DG × DH × DI × DC × DD) × DG × DH × DI × DC × DD) : Option ((Bool × (DG × DH × DI × DC × DD) × (DG × DH × DI × DC × DD) × (DA × Int × Int × DA × DB) × DA × Int × Int × DA × DB) ⊕ ((DG × DH × DI × DC × DD) × DG × DH × DI × DC × DD)) := loopS (fun s => ref01SameModules_B2 n s.1 s.2.1.1 s.2.1.2.1 s.2.1.2.2.1 s.2.1.2.2.2.1 s.2.1.2.2.2.2 s.2.2.1 s.2.2.2.1 s.2.2.2.2.1 s.2.2.2.2.2.1 s.2.2.2.2.2.2) n s
noncomputable def ref01SameModules_B6 (n : Nat) (t10 : Int) (m0 : DG) (m0_1 : DH) (m0_2 : DI) (m0_3 : DC) (m0_4 : DD) (m1 : DG) (m1_1 : DH) (m1_2 : DI) (m1_3 : DC) (m1_4 : DD) : Option ((Int × (DG × DH × DI × DC × DD) × DG × DH × DI × DC × DD) ⊕ ((Bool × (DG × DH × DI × DC × DD) × DG × DH × DI × DC × DD) ⊕ ((DG × DH × DI × DC × DD) × DG × DH × DI × DC × DD))) :=
 bif (decide (t10 < (lenI m0_2))) then
 (getI m0_2 t10).bind fun x740 =>
 (getI m1_2 t10).bind fun x741 =>
 (ref01Typesq1 n x740.1 x741.1).bind fun r742 =>
 bif (!r742) then
 some (Sum.inr (Sum.inl (false, ((m0, (m0_1, (m0_2, (m0_3, m0_4)))), (m1, (m1_1, (m1_2, (m1_3, m1_4))))))))
 else
 (getI m0_2 t10).bind fun x743 =>
 (getI m1_2 t10).bind fun x744 =>
 bif (!((x743.2.1 == x744.2.1) && (x743.2.2 == x744.2.2))) then
 some (Sum.inr (Sum.inl (false, ((m0, (m0_1, (m0_2, (m0_3, m0_4)))), (m1, (m1_1, (m1_2, (m1_3, m1_4))))))))
 else
 some (Sum.inl ((addI .i64 t10 1), ((m0, (m0_1, (m0_2, (m0_3, m0_4)))), (m1, (m1_1, (m1_2, (m1_3, m1_4)))))))
 else
 some (Sum.inr (Sum.inr ((m0, (m0_1, (m0_2, (m0_3, m0_4)))), (m1, (m1_1, (m1_2, (m1_3, m1_4)))))))
noncomputable def ref01SameModules_W6 (n : Nat) (s : Int × (DG × DH × DI × DC × DD) × DG × DH × DI × DC × DD) : Option ((Bool × (DG × DH × DI × DC × DD) × DG × DH × DI × DC × DD) ⊕ ((DG × DH × DI × DC × DD) × DG × DH × DI × DC × DD)) := loopS (fun s => ref01SameModules_B6 n s.1 s.2.1.1 s.2.1.2.1 s.2.1.2.2.1 s.2.1.2.2.2.1 s.2.1.2.2.2.2 s.2.2.1 s.2.2.2.1 s.2.2.2.2.1 s.2.2.2.2.2.1 s.2.2.2.2.2.2) n s
noncomputable def ref01SameModules_B8 (n : Nat) (t11 : Int) (m0 : DG) (m0_1 : DH) (m0_2 : DI) (m0_3 : DC) (m0_4 : DD) (m1 : DG) (m1_1 : DH) (m1_2 : DI) (m1_3 : DC) (m1_4 : DD) : Option ((Int × (DG × DH × DI × DC × DD) × DG × DH × DI × DC × DD) ⊕ ((Bool × (DG × DH × DI × DC × DD) × DG × DH × DI × DC × DD) ⊕ ((DG × DH × DI × DC × DD) × DG × DH × DI × DC × DD))) :=
 bif (decide (t11 < (lenI m0_3))) then
 (getI m0_3 t11).bind fun x754 =>
 (getI m1_3 t11).bind fun x755 =>
 bif (x754 != x755) then
 some (Sum.inr (Sum.inl (false, ((m0, (m0_1, (m0_2, (m0_3, m0_4)))), (m1, (m1_1, (m1_2, (m1_3, m1_4))))))))
 else
 some (Sum.inl ((addI .i64 t11 1), ((m0, (m0_1, (m0_2, (m0_3, m0_4)))), (m1, (m1_1, (m1_2, (m1_3, m1_4)))))))
 else
 some (Sum.inr (Sum.inr ((m0, (m0_1, (m0_2, (m0_3, m0_4)))), (m1, (m1_1, (m1_2, (m1_3, m1_4)))))))
noncomputable def ref01SameModules_W8 (n : Nat) (s : Int × (DG × DH × DI × DC × DD) × DG × DH × DI × DC × DD) : Option ((Bool × (DG × DH × DI × DC × DD) × DG × DH × DI × DC × DD) ⊕ ((DG × DH × DI × DC × DD) × DG × DH × DI × DC × DD)) := loopS (fun s => ref01SameModules_B8 n s.1 s.2.1.1 s.2.1.2.1 s.2.1.2.2.1 s.2.1.2.2.2.1 s.2.1.2.2.2.2 s.2.2.1 s.2.2.2.1 s.2.2.2.2.1 s.2.2.2.2.2.1 s.2.2.2.2.2.2) n s
noncomputable def ref01SameModules_B10 (n : Nat) (t12 : Int) (m0 : DG) (m0_1 : DH) (m0_2 : DI) (m0_3 : DC) (m0_4 : DD) (m1 : DG) (m1_1 : DH) (m1_2 : DI) (m1_3 : DC) (m1_4 : DD) : Option ((Int × (DG × DH × DI × DC × DD) × DG × DH × DI × DC × DD) ⊕ ((Bool × (DG × DH × DI × DC × DD) × DG × DH × DI × DC × DD) ⊕ ((DG × DH × DI × DC × DD) × DG × DH × DI × DC × DD))) :=
 bif (decide (t12 < (lenI m0_4))) then
 (getI m0_4 t12).bind fun x768 =>
 (getI m1_4 t12).bind fun x769 =>
 bif (!(eqS x768 x769)) then
 some (Sum.inr (Sum.inl (false, ((m0, (m0_1, (m0_2, (m0_3, m0_4)))), (m1, (m1_1, (m1_2, (m1_3, m1_4))))))))
 else
 some (Sum.inl ((addI .i64 t12 1), ((m0, (m0_1, (m0_2, (m0_3, m0_4)))), (m1, (m1_1, (m1_2, (m1_3, m1_4)))))))
 else
 some (Sum.inr (Sum.inr ((m0, (m0_1, (m0_2, (m0_3, m0_4)))), (m1, (m1_1, (m1_2, (m1_3, m1_4)))))))
noncomputable def ref01SameModules_W10 (n : Nat) (s : Int × (DG × DH × DI × DC × DD) × DG × DH × DI × DC × DD) : Option ((Bool × (DG × DH × DI × DC × DD) × DG × DH × DI × DC × DD) ⊕ ((DG × DH × DI × DC × DD) × DG × DH × DI × DC × DD)) := loopS (fun s => ref01SameModules_B10 n s.1 s.2.1.1 s.2.1.2.1 s.2.1.2.2.1 s.2.1.2.2.2.1 s.2.1.2.2.2.2 s.2.2.1 s.2.2.2.1 s.2.2.2.2.1 s.2.2.2.2.2.1 s.2.2.2.2.2.2) n s
noncomputable def ref01SameModules (n : Nat) (t0 : DG) (t0_1 : DH) (t0_2 : DI) (t0_3 : DC) (t0_4 : DD) (t1 : DG) (t1_1 : DH) (t1_2 : DI) (t1_3 : DC) (t1_4 : DD) : Option (Bool) :=
 bif ((lenI t0) != (lenI t1)) then
 some false
 else
 bif ((lenI t0_1) != (lenI t1_1)) then
 some false
 else
 bif ((lenI t0_2) != (lenI t1_2)) then
 some false
 else
 bif ((lenI t0_3) != (lenI t1_3)) then
 some false
 else
 bif ((lenI t0_4) != (lenI t1_4)) then
 some false
 else
 (ref01SameModules_W0 n (0, ((t0, (t0_1, (t0_2, (t0_3, t0_4)))), (t1, (t1_1, (t1_2, (t1_3, t1_4))))))).bind fun r770 =>
 Sum.rec (fun u771 =>
 some u771.1) (fun v772 =>
 (ref01SameModules_W2 n (0, ((v772.1.1, (v772.1.2.1, (v772.1.2.2.1, (v772.1.2.2.2.1, v772.1.2.2.2.2)))), (v772.2.1, (v772.2.2.1, (v772.2.2.2.1, (v772.2.2.2.2.1, v772.2.2.2.2.2))))))).bind fun r773 =>
 Sum.rec (fun u774 =>
 some u774.1) (fun v775 =>
 (ref01SameModules_W6 n (0, ((v775.1.1, (v775.1.2.1, (v775.1.2.2.1, (v775.1.2.2.2.1, v775.1.2.2.2.2)))), (v775.2.1, (v775.2.2.1, (v775.2.2.2.1, (v775.2.2.2.2.1, v775.2.2.2.2.2))))))).bind fun r776 =>
 Sum.rec (fun u777 =>
 some u777.1) (fun v778 =>
 (ref01SameModules_W8 n (0, ((v778.1.1, (v778.1.2.1, (v778.1.2.2.1, (v778.1.2.2.2.1, v778.1.2.2.2.2)))), (v778.2.1, (v778.2.2.1, (v778.2.2.2.1, (v778.2.2.2.2.1, v778.2.2.2.2.2))))))).bind fun r779 =>
 Sum.rec (fun u780 =>
 some u780.1) (fun v781 =>
 (ref01SameModules_W10 n (0, ((v781.1.1, (v781.1.2.1, (v781.1.2.2.1, (v781.1.2.2.2.1, v781.1.2.2.2.2)))), (v781.2.1, (v781.2.2.1, (v781.2.2.2.1, (v781.2.2.2.2.1, v781.2.2.2.2.2))))))).bind fun r782 =>
 Sum.rec (fun u783 =>
 some u783.1) (fun v784 =>
 some true) r782) r779) r776) r773) r770
noncomputable def law06ModuleSame (n : Nat) (a_0 : DG) (a_0_1 : DH) (a_0_2 : DI) (a_0_3 : DC) (a_0_4 : DD) (b_1 : DG) (b_1_1 : DH) (b_1_2 : DI) (b_1_3 : DC) (b_1_4 : DD) : Option (Bool) :=
 (ref01Light n a_0 a_0_1 a_0_2 a_0_3 a_0_4).bind fun r845 =>
 bif (!r845) then
 (law06Answers n).bind fun r846 =>
 some r846
 else
 (ref01Light n b_1 b_1_1 b_1_2 b_1_3 b_1_4).bind fun r847 =>
 bif (!r847) then
 (law06Answers n).bind fun r848 =>
 some r848
 else
 (law06Answers n).bind fun r849 =>
 bif r849 then
 (moduleSame n a_0 a_0_1 a_0_2 a_0_3 a_0_4 b_1 b_1_1 b_1_2 b_1_3 b_1_4).bind fun r850 =>
 (ref01SameModules n a_0 a_0_1 a_0_2 a_0_3 a_0_4 b_1 b_1_1 b_1_2 b_1_3 b_1_4).bind fun r851 =>
 bif (r850 == r851) then
 (moduleSame n a_0 a_0_1 a_0_2 a_0_3 a_0_4 a_0 a_0_1 a_0_2 a_0_3 a_0_4).bind fun r852 =>
 some r852
 else
 some false
 else
 some false
end Sx
