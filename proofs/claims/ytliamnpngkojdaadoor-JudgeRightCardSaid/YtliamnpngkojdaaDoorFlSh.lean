import Derived.Test.YtliamnpngkojdaaDoorLib5
import Derived.KernelRfl
open Go Go.Ab
set_option linter.unusedVariables false
set_option maxRecDepth 20000
namespace Sx
noncomputable section
abbrev DA := List (Int × Int)
abbrev DB := List (Int × Int × Int)
abbrev DC := List Int
abbrev DD := List ByteArray
abbrev DE := List (Int)
abbrev DF := List (ByteArray)
abbrev DG := List (Nat × Int × Int)
abbrev DH := List DA
abbrev DI := List (DA × Int × Int × DA × DB)
abbrev DJ := List (DA × Int × Int)
abbrev DK := List DC
abbrev DL := List (Bool × DA)
abbrev DM := List DL
def qaz_B0 (n : Nat) (t3 : Int) (t4 : Int) (m0 : DH) (m0_1 : DI) (m0_2 : DJ) (m0_3 : DC) (m0_4 : DD) : Option (((Int × Int) × DH × DI × DJ × DC × DD) ⊕ (Int × DH × DI × DJ × DC × DD)) :=
 bif (decide (t4 < (lenI m0))) then
 (getI m0 t4).bind fun x0 =>
 some (Sum.inl (((addI .i64 t3 (lenI x0)), (addI .i64 t4 1)), (m0, (m0_1, (m0_2, (m0_3, m0_4))))))
 else
 some (Sum.inr (t3, (m0, (m0_1, (m0_2, (m0_3, m0_4))))))
def qaz_W0 (n : Nat) (s : (Int × Int) × DH × DI × DJ × DC × DD) : Option (Int × DH × DI × DJ × DC × DD) := loopS (fun s => qaz_B0 n s.1.1 s.1.2 s.2.1 s.2.2.1 s.2.2.2.1 s.2.2.2.2.1 s.2.2.2.2.2) n s
def qaz_B2 (n : Nat) (t3 : Int) (t5 : Int) (m0 : DH) (m0_1 : DI) (m0_2 : DJ) (m0_3 : DC) (m0_4 : DD) : Option (((Int × Int) × DH × DI × DJ × DC × DD) ⊕ (Int × DH × DI × DJ × DC × DD)) :=
 bif (decide (t5 < (lenI m0_1))) then
 (getI m0_1 t5).bind fun x2 =>
 (getI m0_1 t5).bind fun x3 =>
 (getI m0_1 t5).bind fun x4 =>
 some (Sum.inl (((addI .i64 (addI .i64 (addI .i64 t3 (lenI x2.1)) (lenI x3.2.2.2.1)) (lenI x4.2.2.2.2)), (addI .i64 t5 1)), (m0, (m0_1, (m0_2, (m0_3, m0_4))))))
 else
 some (Sum.inr (t3, (m0, (m0_1, (m0_2, (m0_3, m0_4))))))
def qaz_W2 (n : Nat) (s : (Int × Int) × DH × DI × DJ × DC × DD) : Option (Int × DH × DI × DJ × DC × DD) := loopS (fun s => qaz_B2 n s.1.1 s.1.2 s.2.1 s.2.2.1 s.2.2.2.1 s.2.2.2.2.1 s.2.2.2.2.2) n s
def qaz_B4 (n : Nat) (t3 : Int) (t6 : Int) (m0 : DH) (m0_1 : DI) (m0_2 : DJ) (m0_3 : DC) (m0_4 : DD) : Option (((Int × Int) × DH × DI × DJ × DC × DD) ⊕ (Int × DH × DI × DJ × DC × DD)) :=
 bif (decide (t6 < (lenI m0_2))) then
 (getI m0_2 t6).bind fun x7 =>
 some (Sum.inl (((addI .i64 t3 (lenI x7.1)), (addI .i64 t6 1)), (m0, (m0_1, (m0_2, (m0_3, m0_4))))))
 else
 some (Sum.inr (t3, (m0, (m0_1, (m0_2, (m0_3, m0_4))))))
def qaz_W4 (n : Nat) (s : (Int × Int) × DH × DI × DJ × DC × DD) : Option (Int × DH × DI × DJ × DC × DD) := loopS (fun s => qaz_B4 n s.1.1 s.1.2 s.2.1 s.2.2.1 s.2.2.2.1 s.2.2.2.2.1 s.2.2.2.2.2) n s
def qaz_B6 (n : Nat) (t3 : Int) (t7 : Int) (m0 : DH) (m0_1 : DI) (m0_2 : DJ) (m0_3 : DC) (m0_4 : DD) : Option (((Int × Int) × DH × DI × DJ × DC × DD) ⊕ (Int × DH × DI × DJ × DC × DD)) :=
 bif (decide (t7 < (lenI m0_4))) then
 (getI m0_4 t7).bind fun x11 =>
 some (Sum.inl (((addI .i64 t3 (lenS x11)), (addI .i64 t7 1)), (m0, (m0_1, (m0_2, (m0_3, m0_4))))))
 else
 some (Sum.inr (t3, (m0, (m0_1, (m0_2, (m0_3, m0_4))))))
def qaz_W6 (n : Nat) (s : (Int × Int) × DH × DI × DJ × DC × DD) : Option (Int × DH × DI × DJ × DC × DD) := loopS (fun s => qaz_B6 n s.1.1 s.1.2 s.2.1 s.2.2.1 s.2.2.2.1 s.2.2.2.2.1 s.2.2.2.2.2) n s
def qaz (n : Nat) (t0 : DH) (t0_1 : DI) (t0_2 : DJ) (t0_3 : DC) (t0_4 : DD) : Option (Bool) :=
 bif (decide ((addI .i64 (addI .i64 (addI .i64 (addI .i64 (lenI t0) (lenI t0_1)) (lenI t0_2)) (lenI t0_3)) (lenI t0_4)) > 200)) then
 some false
 else
 (qaz_W0 n (((addI .i64 (addI .i64 (addI .i64 (addI .i64 (lenI t0) (lenI t0_1)) (lenI t0_2)) (lenI t0_3)) (lenI t0_4)), 0), (t0, (t0_1, (t0_2, (t0_3, t0_4)))))).bind fun r12 =>
 (qaz_W2 n ((r12.1, 0), (r12.2.1, (r12.2.2.1, (r12.2.2.2.1, (r12.2.2.2.2.1, r12.2.2.2.2.2)))))).bind fun r13 =>
 (qaz_W4 n ((r13.1, 0), (r13.2.1, (r13.2.2.1, (r13.2.2.2.1, (r13.2.2.2.2.1, r13.2.2.2.2.2)))))).bind fun r14 =>
 (qaz_W6 n ((r14.1, 0), (r14.2.1, (r14.2.2.1, (r14.2.2.2.1, (r14.2.2.2.2.1, r14.2.2.2.2.2)))))).bind fun r15 =>
 some (decide (r15.1 < 3000))
def qcc (n : Nat) (t_0 : Int) (t_0_1 : Int) (recs_1 : Int) : Option (Bool) :=
 bif (t_0 == 1) then
 some (t_0_1 == 0)
 else
 bif (t_0 == 2) then
 some (t_0_1 == 0)
 else
 bif (t_0 == 3) then
 some (t_0_1 == 0)
 else
 bif (t_0 == 7) then
 some (t_0_1 == 0)
 else
 bif (t_0 == 4) then
 bif (decide (t_0_1 ≥ 0)) then
 some (decide (t_0_1 < recs_1))
 else
 some false
 else
 bif (t_0 == 5) then
 bif (decide (t_0_1 ≥ 0)) then
 some (decide (t_0_1 < 4))
 else
 some false
 else
 some false
def qan (n : Nat) (t_0 : Int) (t_0_1 : Int) (m0 : Int) : Option (Bool × Int) :=
 (qcc n t_0 t_0_1 m0).bind fun r19 =>
 some ((!r19), m0)
def qae_B0 (n : Nat) (s_0 : DA) (t7 : Int) (t8 : Int) (m0 : Int) : Option (((DA × Int × Int) × Int) ⊕ ((Int × Int) ⊕ (Int))) :=
 bif (decide (t8 < t7)) then
 (getI s_0 t8).bind fun x20 =>
 (qan n x20.1 x20.2 m0).bind fun r21 =>
 bif r21.1 then
 some (Sum.inr (Sum.inl (t8, r21.2)))
 else
 some (Sum.inl ((s_0, (t7, (addI .i64 t8 1))), r21.2))
 else
 some (Sum.inr (Sum.inr m0))
def qae_W0 (n : Nat) (s : (DA × Int × Int) × Int) : Option ((Int × Int) ⊕ (Int)) := loopS (fun s => qae_B0 n s.1.1 s.1.2.1 s.1.2.2 s.2) n s
def qae (n : Nat) (s_0 : DA) (m0 : Int) : Option (Int × Int) :=
 (qae_W0 n ((s_0, ((lenI s_0), 0)), m0)).bind fun r22 =>
 Sum.rec (fun u23 =>
 some (u23.1, u23.2)) (fun v24 =>
 some ((-1), v24)) r22
def qo (n : Nat) (s_0 : DA) (m0 : Int) : Option (Bool × Int) :=
 (qae n s_0 m0).bind fun r25 =>
 some ((decide (r25.1 ≥ 0)), r25.2)
def qau (n : Nat) (list_0 : DA) (recs_1 : Int) (most_2 : Int) : Option (Bool) :=
 bif (decide ((lenI list_0) ≤ most_2)) then
 (qo n list_0 recs_1).bind fun r26 =>
 some (!r26.1)
 else
 some false
def qar (n : Nat) (l_0 : DA) (m0 : Int) : Option (Bool × Int) :=
 (qau n l_0 m0 6).bind fun r27 =>
 some ((!r27), m0)
def qt_B0 (n : Nat) (s_0 : DH) (t7 : Int) (t8 : Int) (m0 : Int) : Option (((DH × Int × Int) × Int) ⊕ ((Int × Int) ⊕ (Int))) :=
 bif (decide (t8 < t7)) then
 (getI s_0 t8).bind fun x28 =>
 (qar n x28 m0).bind fun r29 =>
 bif r29.1 then
 some (Sum.inr (Sum.inl (t8, r29.2)))
 else
 some (Sum.inl ((s_0, (t7, (addI .i64 t8 1))), r29.2))
 else
 some (Sum.inr (Sum.inr m0))
def qt_W0 (n : Nat) (s : (DH × Int × Int) × Int) : Option ((Int × Int) ⊕ (Int)) := loopS (fun s => qt_B0 n s.1.1 s.1.2.1 s.1.2.2 s.2) n s
def qt (n : Nat) (s_0 : DH) (m0 : Int) : Option (Int × Int) :=
 (qt_W0 n ((s_0, ((lenI s_0), 0)), m0)).bind fun r30 =>
 Sum.rec (fun u31 =>
 some (u31.1, u31.2)) (fun v32 =>
 some ((-1), v32)) r30
def qg (n : Nat) (s_0 : DH) (m0 : Int) : Option (Bool × Int) :=
 (qt n s_0 m0).bind fun r33 =>
 some ((decide (r33.1 ≥ 0)), r33.2)
def qce (n : Nat) (op_0 : Int) : Option (Int) :=
 bif (op_0 == 29) then
 some 2
 else
 bif (op_0 == 30) then
 some 2
 else
 bif (op_0 == 0) then
 some 1
 else
 bif (op_0 == 1) then
 some 1
 else
 bif (op_0 == 3) then
 some 1
 else
 bif (op_0 == 4) then
 some 1
 else
 bif (op_0 == 23) then
 some 1
 else
 bif (op_0 == 24) then
 some 1
 else
 bif (op_0 == 25) then
 some 1
 else
 bif (op_0 == 27) then
 some 1
 else
 bif (op_0 == 28) then
 some 1
 else
 bif (decide (op_0 < 0)) then
 some (-1)
 else
 bif (decide (op_0 ≥ 42)) then
 some (-1)
 else
 some 0
def qco (n : Nat) (n_0 : Int) (has_1 : Bool) : Option (Bool) :=
 bif (decide (n_0 ≥ 0)) then
 bif (decide (n_0 ≤ 255)) then
 bif has_1 then
 some true
 else
 some (n_0 == 0)
 else
 some false
 else
 some false
def qcs_B0 (n : Nat) (v_0 : Int) (m0 : DC) : Option ((Int × DC) ⊕ (Int × DC)) :=
 bif (decide (v_0 ≥ 128)) then
 bif (Nat.ble (List.length (m0 ++ ((orI .u8 (cvtI .u8 v_0) 128) :: ([] : DE)))) 4294967296) then
 some (Sum.inl ((shrI .u64 v_0 7), (m0 ++ ((orI .u8 (cvtI .u8 v_0) 128) :: ([] : DE)))))
 else none
 else
 some (Sum.inr (v_0, m0))
def qcs_W0 (n : Nat) (s : Int × DC) : Option (Int × DC) := loopS (fun s => qcs_B0 n s.1 s.2) n s
def qcs (n : Nat) (v_0 : Int) : Option DC :=
 (qcs_W0 n (v_0, ([] : DE))).bind fun r45 =>
 bif (Nat.ble (List.length (r45.2 ++ ((cvtI .u8 r45.1) :: ([] : DE)))) 4294967296) then
 some (r45.2 ++ ((cvtI .u8 r45.1) :: ([] : DE)))
 else none
def qcn_B0 (n : Nat) (t39 : Nat × Nat) (t40 : Int) (t41 : Int) (m0 : DC) (m1 : Int) (m1_1 : Int) : Option ((((Nat × Nat) × Int × Int) × DC × Int × Int) ⊕ (DC × Int × Int)) :=
 bif (decide (t41 < t40)) then
 bif ((decide (0 ≤ t41)) && (decide (t41 < ((t39.2 : Nat) : Int)))) then
 bif (Nat.beq (((t39.1 + (Int.toNat t41)) * 1) + 0) 0) then
 (qcs n (cvtI .u64 m1)).bind fun r46 =>
 bif (Nat.ble (List.length (m0 ++ r46)) 4294967296) then
 some (Sum.inl (((t39.1, t39.2), (t40, (addI .i64 t41 1))), ((m0 ++ r46), (m1, m1_1))))
 else none
 else
 bif (Nat.beq (((t39.1 + (Int.toNat t41)) * 1) + 0) 1) then
 (qcs n (cvtI .u64 m1_1)).bind fun r47 =>
 bif (Nat.ble (List.length (m0 ++ r47)) 4294967296) then
 some (Sum.inl (((t39.1, t39.2), (t40, (addI .i64 t41 1))), ((m0 ++ r47), (m1, m1_1))))
 else none
 else none
 else none
 else
 some (Sum.inr (m0, (m1, m1_1)))
def qcn_W0 (n : Nat) (s : ((Nat × Nat) × Int × Int) × DC × Int × Int) : Option (DC × Int × Int) := loopS (fun s => qcn_B0 n s.1.1 s.1.2.1 s.1.2.2 s.2.1 s.2.2.1 s.2.2.2) n s
def qcn (n : Nat) (i_0 : Int) (i_0_1 : Int) (i_0_2 : Int) : Option DC :=
 (qce n i_0).bind fun r48 =>
 bif (decide (r48 < 0)) then
 some ([] : DE)
 else
 (qco n i_0_1 (decide (r48 > 0))).bind fun r49 =>
 bif (!r49) then
 some ([] : DE)
 else
 (qco n i_0_2 (decide (r48 > 1))).bind fun r50 =>
 bif (!r50) then
 some ([] : DE)
 else
 bif ((decide (0 ≤ r48)) && (decide (r48 ≤ 2))) then
 (qcn_W0 n (((0, ((Int.toNat r48) - 0)), (((((Int.toNat r48) - 0) : Nat) : Int), 0)), (((cvtI .u8 i_0) :: ([] : DE)), (i_0_1, i_0_2)))).bind fun r51 =>
 some r51.1
 else none
def qx (n : Nat) (i_0 : Int) (i_0_1 : Int) (i_0_2 : Int) : Option (Bool) :=
 (qcn n i_0 i_0_1 i_0_2).bind fun r52 =>
 some ((lenI r52) == 0)
def qw_B0 (n : Nat) (s_0 : DB) (t7 : Int) (t8 : Int) : Option ((DB × Int × Int) ⊕ ((Int) ⊕ (Unit))) :=
 bif (decide (t8 < t7)) then
 (getI s_0 t8).bind fun x53 =>
 (qx n x53.1 x53.2.1 x53.2.2).bind fun r54 =>
 bif r54 then
 some (Sum.inr (Sum.inl t8))
 else
 some (Sum.inl (s_0, (t7, (addI .i64 t8 1))))
 else
 some (Sum.inr (Sum.inr ()))
def qw_W0 (n : Nat) (s : DB × Int × Int) : Option ((Int) ⊕ (Unit)) := loopS (fun s => qw_B0 n s.1 s.2.1 s.2.2) n s
def qw (n : Nat) (s_0 : DB) : Option (Int) :=
 (qw_W0 n (s_0, ((lenI s_0), 0))).bind fun r55 =>
 Sum.rec (fun u56 =>
 some u56) (fun v57 =>
 some (-1)) r55
def qi (n : Nat) (s_0 : DB) : Option (Bool) :=
 (qw n s_0).bind fun r58 =>
 some (decide (r58 ≥ 0))
def qac (n : Nat) (f_0 : DA) (f_0_1 : Int) (f_0_2 : Int) (f_0_3 : DA) (f_0_4 : DB) (recs_1 : Int) : Option (Bool) :=
 (qau n f_0 recs_1 4).bind fun r59 =>
 bif r59 then
 (qcc n f_0_1 f_0_2 recs_1).bind fun r60 =>
 bif r60 then
 (qau n f_0_3 recs_1 (subI .i64 8 (lenI f_0))).bind fun r61 =>
 bif r61 then
 bif (decide ((lenI f_0_4) ≥ 1)) then
 bif (decide ((lenI f_0_4) ≤ 64)) then
 (qi n f_0_4).bind fun r62 =>
 some (!r62)
 else
 some false
 else
 some false
 else
 some false
 else
 some false
 else
 some false
def qal (n : Nat) (f_0 : DA) (f_0_1 : Int) (f_0_2 : Int) (f_0_3 : DA) (f_0_4 : DB) (m0 : Int) : Option (Bool × Int) :=
 (qac n f_0 f_0_1 f_0_2 f_0_3 f_0_4 m0).bind fun r63 =>
 some ((!r63), m0)
def qad_B0 (n : Nat) (s_0 : DI) (t7 : Int) (t8 : Int) (m0 : Int) : Option (((DI × Int × Int) × Int) ⊕ ((Int × Int) ⊕ (Int))) :=
 bif (decide (t8 < t7)) then
 (getI s_0 t8).bind fun x64 =>
 (qal n x64.1 x64.2.1 x64.2.2.1 x64.2.2.2.1 x64.2.2.2.2 m0).bind fun r65 =>
 bif r65.1 then
 some (Sum.inr (Sum.inl (t8, r65.2)))
 else
 some (Sum.inl ((s_0, (t7, (addI .i64 t8 1))), r65.2))
 else
 some (Sum.inr (Sum.inr m0))
def qad_W0 (n : Nat) (s : (DI × Int × Int) × Int) : Option ((Int × Int) ⊕ (Int)) := loopS (fun s => qad_B0 n s.1.1 s.1.2.1 s.1.2.2 s.2) n s
def qad (n : Nat) (s_0 : DI) (m0 : Int) : Option (Int × Int) :=
 (qad_W0 n ((s_0, ((lenI s_0), 0)), m0)).bind fun r66 =>
 Sum.rec (fun u67 =>
 some (u67.1, u67.2)) (fun v68 =>
 some ((-1), v68)) r66
def qm (n : Nat) (s_0 : DI) (m0 : Int) : Option (Bool × Int) :=
 (qad n s_0 m0).bind fun r69 =>
 some ((decide (r69.1 ≥ 0)), r69.2)
def qam (n : Nat) (i_0 : DA) (i_0_1 : Int) (i_0_2 : Int) (m0 : Int) : Option (Bool × Int) :=
 (qau n i_0 m0 4).bind fun r74 =>
 bif (!r74) then
 some (true, m0)
 else
 (qcc n i_0_1 i_0_2 m0).bind fun r75 =>
 some ((!r75), m0)
def qq_B0 (n : Nat) (s_0 : DJ) (t7 : Int) (t8 : Int) (m0 : Int) : Option (((DJ × Int × Int) × Int) ⊕ ((Int × Int) ⊕ (Int))) :=
 bif (decide (t8 < t7)) then
 (getI s_0 t8).bind fun x76 =>
 (qam n x76.1 x76.2.1 x76.2.2 m0).bind fun r77 =>
 bif r77.1 then
 some (Sum.inr (Sum.inl (t8, r77.2)))
 else
 some (Sum.inl ((s_0, (t7, (addI .i64 t8 1))), r77.2))
 else
 some (Sum.inr (Sum.inr m0))
def qq_W0 (n : Nat) (s : (DJ × Int × Int) × Int) : Option ((Int × Int) ⊕ (Int)) := loopS (fun s => qq_B0 n s.1.1 s.1.2.1 s.1.2.2 s.2) n s
def qq (n : Nat) (s_0 : DJ) (m0 : Int) : Option (Int × Int) :=
 (qq_W0 n ((s_0, ((lenI s_0), 0)), m0)).bind fun r78 =>
 Sum.rec (fun u79 =>
 some (u79.1, u79.2)) (fun v80 =>
 some ((-1), v80)) r78
def qh (n : Nat) (s_0 : DJ) (m0 : Int) : Option (Bool × Int) :=
 (qq n s_0 m0).bind fun r81 =>
 some ((decide (r81.1 ≥ 0)), r81.2)
def qak (n : Nat) (s_0 : ByteArray) : Option (Bool) :=
 some (decide ((lenS s_0) > 32))
def qu_B0 (n : Nat) (s_0 : DD) (t7 : Int) (t8 : Int) : Option ((DD × Int × Int) ⊕ ((Int) ⊕ (Unit))) :=
 bif (decide (t8 < t7)) then
 (getI s_0 t8).bind fun x86 =>
 (qak n x86).bind fun r87 =>
 bif r87 then
 some (Sum.inr (Sum.inl t8))
 else
 some (Sum.inl (s_0, (t7, (addI .i64 t8 1))))
 else
 some (Sum.inr (Sum.inr ()))
def qu_W0 (n : Nat) (s : DD × Int × Int) : Option ((Int) ⊕ (Unit)) := loopS (fun s => qu_B0 n s.1 s.2.1 s.2.2) n s
def qu (n : Nat) (s_0 : DD) : Option (Int) :=
 (qu_W0 n (s_0, ((lenI s_0), 0))).bind fun r88 =>
 Sum.rec (fun u89 =>
 some u89) (fun v90 =>
 some (-1)) r88
def qe (n : Nat) (s_0 : DD) : Option (Bool) :=
 (qu n s_0).bind fun r91 =>
 some (decide (r91 ≥ 0))
def qav (n : Nat) (t0 : DH) (t0_1 : DI) (t0_2 : DJ) (t0_3 : DC) (t0_4 : DD) : Option (Bool) :=
 bif (decide ((lenI t0) ≤ 8)) then
 (qg n t0 (lenI t0)).bind fun r92 =>
 bif (!r92.1) then
 bif (decide ((lenI t0_1) ≥ 1)) then
 bif (decide ((lenI t0_1) ≤ 8)) then
 (qm n t0_1 r92.2).bind fun r93 =>
 bif (!r93.1) then
 bif (decide ((lenI t0_2) ≤ 8)) then
 (qh n t0_2 r93.2).bind fun r94 =>
 bif (!r94.1) then
 bif (decide ((lenI t0_3) ≤ 16)) then
 bif (decide ((lenI t0_4) ≤ 16)) then
 (qe n t0_4).bind fun r95 =>
 some (!r95)
 else
 some false
 else
 some false
 else
 some false
 else
 some false
 else
 some false
 else
 some false
 else
 some false
 else
 some false
 else
 some false
def ql (n : Nat) (n_1 : Int) : Option DC :=
 (qcs n (cvtI .u64 n_1)).bind fun r97 =>
 bif (Nat.ble (List.length r97) 4294967296) then
 some r97
 else none
def qc (n : Nat) (n_1 : Int) (m1 : DC) : Option DC :=
 (qcs n (cvtI .u64 n_1)).bind fun r100 =>
 bif (Nat.ble (List.length (m1 ++ r100)) 4294967296) then
 some (m1 ++ r100)
 else none
def qcr (n : Nat) (t_0 : Int) (t_0_1 : Int) : Option DC :=
 (qcs n (cvtI .u64 (maxI t_0 0))).bind fun r103 =>
 (qcs n (cvtI .u64 (maxI t_0_1 0))).bind fun r104 =>
 bif (Nat.ble (List.length (r103 ++ r104)) 4294967296) then
 some (r103 ++ r104)
 else none
def qk_B0 (n : Nat) (t10 : DA) (t11 : Int) (t12 : Int) (m1 : DC) : Option (((DA × Int × Int) × DC) ⊕ DC) :=
 bif (decide (t12 < t11)) then
 (getI t10 t12).bind fun x105 =>
 (qcr n x105.1 x105.2).bind fun r106 =>
 bif (Nat.ble (List.length (m1 ++ r106)) 4294967296) then
 some (Sum.inl ((t10, (t11, (addI .i64 t12 1))), (m1 ++ r106)))
 else none
 else
 some (Sum.inr m1)
def qk_W0 (n : Nat) (s : (DA × Int × Int) × DC) : Option DC := loopS (fun s => qk_B0 n s.1.1 s.1.2.1 s.1.2.2 s.2) n s
def qk (n : Nat) (list_1 : DA) (m1 : DC) : Option DC :=
 (qc n (lenI list_1) m1).bind fun r107 =>
 (qk_W0 n ((list_1, ((lenI list_1), 0)), r107)).bind fun r108 =>
 some r108
def qy_B0 (n : Nat) (t14 : DH) (t15 : Int) (t16 : Int) (m1 : DC) : Option (((DH × Int × Int) × DC) ⊕ DC) :=
 bif (decide (t16 < t15)) then
 (getI t14 t16).bind fun x109 =>
 (qk n x109 m1).bind fun r110 =>
 some (Sum.inl ((t14, (t15, (addI .i64 t16 1))), r110))
 else
 some (Sum.inr m1)
def qy_W0 (n : Nat) (s : (DH × Int × Int) × DC) : Option DC := loopS (fun s => qy_B0 n s.1.1 s.1.2.1 s.1.2.2 s.2) n s
def qy (n : Nat) (m_0 : DH) (m_0_1 : DI) (m_0_2 : DJ) (m_0_3 : DC) (m_0_4 : DD) : Option DC :=
 (ql n (lenI m_0)).bind fun r111 =>
 (qy_W0 n ((m_0, ((lenI m_0), 0)), r111)).bind fun r112 =>
 some r112
def qr_B2 (n : Nat) (t16 : DI) (t17 : Int) (t18 : Int) (t47 : DB) (t48 : Int) (t49 : Int) (m1 : DC) : Option (((DI × Int × Int × DB × Int × Int) × DC) ⊕ ((DI × Int × Int) × DC)) :=
 bif (decide (t49 < t48)) then
 (getI t47 t49).bind fun x129 =>
 (qcn n x129.1 x129.2.1 x129.2.2).bind fun r130 =>
 bif (Nat.ble (List.length (m1 ++ r130)) 4294967296) then
 some (Sum.inl ((t16, (t17, (t18, (t47, (t48, (addI .i64 t49 1)))))), (m1 ++ r130)))
 else none
 else
 some (Sum.inr ((t16, (t17, t18)), m1))
def qr_W2 (n : Nat) (s : (DI × Int × Int × DB × Int × Int) × DC) : Option ((DI × Int × Int) × DC) := loopS (fun s => qr_B2 n s.1.1 s.1.2.1 s.1.2.2.1 s.1.2.2.2.1 s.1.2.2.2.2.1 s.1.2.2.2.2.2 s.2) n s
def qr_B0 (n : Nat) (t16 : DI) (t17 : Int) (t18 : Int) (m1 : DC) : Option (((DI × Int × Int) × DC) ⊕ DC) :=
 bif (decide (t18 < t17)) then
 (getI t16 t18).bind fun x131 =>
 (qk n x131.1 m1).bind fun r132 =>
 (qcr n x131.2.1 x131.2.2.1).bind fun r133 =>
 bif (Nat.ble (List.length (r132 ++ r133)) 4294967296) then
 (qk n x131.2.2.2.1 (r132 ++ r133)).bind fun r134 =>
 (qc n (lenI x131.2.2.2.2) r134).bind fun r135 =>
 (qr_W2 n ((t16, (t17, (t18, (x131.2.2.2.2, ((lenI x131.2.2.2.2), 0))))), r135)).bind fun r136 =>
 some (Sum.inl ((r136.1.1, (r136.1.2.1, (addI .i64 r136.1.2.2 1))), r136.2))
 else none
 else
 some (Sum.inr m1)
def qr_W0 (n : Nat) (s : (DI × Int × Int) × DC) : Option DC := loopS (fun s => qr_B0 n s.1.1 s.1.2.1 s.1.2.2 s.2) n s
def qr (n : Nat) (t0 : DH) (t0_1 : DI) (t0_2 : DJ) (t0_3 : DC) (t0_4 : DD) : Option DC :=
 (ql n (lenI t0_1)).bind fun r137 =>
 (qr_W0 n ((t0_1, ((lenI t0_1), 0)), r137)).bind fun r138 =>
 some r138
def qz_B0 (n : Nat) (t14 : DJ) (t15 : Int) (t16 : Int) (m1 : DC) : Option (((DJ × Int × Int) × DC) ⊕ DC) :=
 bif (decide (t16 < t15)) then
 (getI t14 t16).bind fun x146 =>
 (qk n x146.1 m1).bind fun r147 =>
 (qcr n x146.2.1 x146.2.2).bind fun r148 =>
 bif (Nat.ble (List.length (r147 ++ r148)) 4294967296) then
 some (Sum.inl ((t14, (t15, (addI .i64 t16 1))), (r147 ++ r148)))
 else none
 else
 some (Sum.inr m1)
def qz_W0 (n : Nat) (s : (DJ × Int × Int) × DC) : Option DC := loopS (fun s => qz_B0 n s.1.1 s.1.2.1 s.1.2.2 s.2) n s
def qz (n : Nat) (m_0 : DH) (m_0_1 : DI) (m_0_2 : DJ) (m_0_3 : DC) (m_0_4 : DD) : Option DC :=
 (ql n (lenI m_0_2)).bind fun r149 =>
 (qz_W0 n ((m_0_2, ((lenI m_0_2), 0)), r149)).bind fun r150 =>
 some r150
def qck_B0 (n : Nat) (v_0 : Int) (t9 : Int) (t10 : Int) (m0 : DC) : Option (((Int × Int × Int) × DC) ⊕ DC) :=
 bif (decide (t10 < t9)) then
 bif (decide (0 ≤ (mulI .i64 8 t10))) then
 bif (Nat.ble (List.length (m0 ++ ((cvtI .u8 (shrI .u64 v_0 (mulI .i64 8 t10))) :: ([] : DE)))) 4294967296) then
 some (Sum.inl ((v_0, (t9, (addI .i64 t10 1))), (m0 ++ ((cvtI .u8 (shrI .u64 v_0 (mulI .i64 8 t10))) :: ([] : DE)))))
 else none
 else none
 else
 some (Sum.inr m0)
def qck_W0 (n : Nat) (s : (Int × Int × Int) × DC) : Option DC := loopS (fun s => qck_B0 n s.1.1 s.1.2.1 s.1.2.2 s.2) n s
def qck (n : Nat) (v_0 : Int) (n_1 : Int) : Option DC :=
 (qck_W0 n ((v_0, ((minI (maxI n_1 0) 8), 0)), ([] : DE))).bind fun r157 =>
 some r157
def qab_B0 (n : Nat) (t14 : DC) (t15 : Int) (t16 : Int) (m1 : DC) : Option (((DC × Int × Int) × DC) ⊕ DC) :=
 bif (decide (t16 < t15)) then
 (getI t14 t16).bind fun x158 =>
 (qck n x158 8).bind fun r159 =>
 bif (Nat.ble (List.length (m1 ++ r159)) 4294967296) then
 some (Sum.inl ((t14, (t15, (addI .i64 t16 1))), (m1 ++ r159)))
 else none
 else
 some (Sum.inr m1)
def qab_W0 (n : Nat) (s : (DC × Int × Int) × DC) : Option DC := loopS (fun s => qab_B0 n s.1.1 s.1.2.1 s.1.2.2 s.2) n s
def qab (n : Nat) (m_0 : DH) (m_0_1 : DI) (m_0_2 : DJ) (m_0_3 : DC) (m_0_4 : DD) : Option DC :=
 (ql n (lenI m_0_3)).bind fun r160 =>
 (qab_W0 n ((m_0_3, ((lenI m_0_3), 0)), r160)).bind fun r161 =>
 some r161
def qaq_B0 (n : Nat) (t14 : DD) (t15 : Int) (t16 : Int) (m1 : DC) : Option (((DD × Int × Int) × DC) ⊕ DC) :=
 bif (decide (t16 < t15)) then
 (getI t14 t16).bind fun x169 =>
 (qc n (lenS x169) m1).bind fun r170 =>
 bif (Nat.ble (List.length (r170 ++ (bytesInts x169))) 4294967296) then
 some (Sum.inl ((t14, (t15, (addI .i64 t16 1))), (r170 ++ (bytesInts x169))))
 else none
 else
 some (Sum.inr m1)
def qaq_W0 (n : Nat) (s : (DD × Int × Int) × DC) : Option DC := loopS (fun s => qaq_B0 n s.1.1 s.1.2.1 s.1.2.2 s.2) n s
def qaq (n : Nat) (m_0 : DH) (m_0_1 : DI) (m_0_2 : DJ) (m_0_3 : DC) (m_0_4 : DD) : Option DC :=
 (ql n (lenI m_0_4)).bind fun r171 =>
 (qaq_W0 n ((m_0_4, ((lenI m_0_4), 0)), r171)).bind fun r172 =>
 some r172
def qbx_B0 (n : Nat) (t10 : DK) (t11 : Int) (t12 : Int) (m0 : DC) : Option (((DK × Int × Int) × DC) ⊕ DC) :=
 bif (decide (t12 < t11)) then
 (getI t10 t12).bind fun x180 =>
 (qcs n (cvtI .u64 (lenI x180))).bind fun r181 =>
 bif (Nat.ble (List.length (m0 ++ r181)) 4294967296) then
 bif (Nat.ble (List.length ((m0 ++ r181) ++ x180)) 4294967296) then
 some (Sum.inl ((t10, (t11, (addI .i64 t12 1))), ((m0 ++ r181) ++ x180)))
 else none
 else none
 else
 some (Sum.inr m0)
def qbx_W0 (n : Nat) (s : (DK × Int × Int) × DC) : Option DC := loopS (fun s => qbx_B0 n s.1.1 s.1.2.1 s.1.2.2 s.2) n s
def qbx (n : Nat) (parts_0 : DK) : Option DC :=
 (qcs n (cvtI .u64 (lenI parts_0))).bind fun r182 =>
 (qbx_W0 n ((parts_0, ((lenI parts_0), 0)), r182)).bind fun r183 =>
 some r183
def qaj (n : Nat) (m_0 : DH) (m_0_1 : DI) (m_0_2 : DJ) (m_0_3 : DC) (m_0_4 : DD) : Option (DC × Int) :=
 (qav n m_0 m_0_1 m_0_2 m_0_3 m_0_4).bind fun r184 =>
 bif (!r184) then
 some (([] : DE), 2)
 else
 (qy n m_0 m_0_1 m_0_2 m_0_3 m_0_4).bind fun r185 =>
 (qr n m_0 m_0_1 m_0_2 m_0_3 m_0_4).bind fun r186 =>
 (qz n m_0 m_0_1 m_0_2 m_0_3 m_0_4).bind fun r187 =>
 (qab n m_0 m_0_1 m_0_2 m_0_3 m_0_4).bind fun r188 =>
 (qaq n m_0 m_0_1 m_0_2 m_0_3 m_0_4).bind fun r189 =>
 (qbx n (r185 :: (r186 :: (r187 :: (r188 :: (r189 :: ([] : DK))))))).bind fun r190 =>
 some (r190, 0)
def qbs (n : Nat) (n_0 : Int) (most_1 : Int) : Option (Bool) :=
 some (decide (n_0 < most_1))
def qbu (n : Nat) (t0 : DH) (t0_1 : DI) (t0_2 : DJ) (t0_3 : DC) (t0_4 : DD) (t1 : DA) (t1_1 : Int) (t1_2 : Int) (t1_3 : DA) (t1_4 : DB) (t2 : Int) (t2_1 : Int) (t2_2 : Int) : Option (Bool) :=
 bif (t2 == 0) then
 (qbs n t2_1 (lenI t0_3)).bind fun r194 =>
 some r194
 else
 bif (t2 == 1) then
 (qbs n t2_1 (lenI t0_4)).bind fun r195 =>
 some r195
 else
 bif (t2 == 3) then
 (qbs n t2_1 (addI .i64 (lenI t1) (lenI t1_3))).bind fun r196 =>
 some r196
 else
 bif (t2 == 4) then
 (qbs n t2_1 (addI .i64 (lenI t1) (lenI t1_3))).bind fun r197 =>
 some r197
 else
 bif (t2 == 23) then
 (qbs n t2_1 (lenI t1_4)).bind fun r198 =>
 some r198
 else
 bif (t2 == 24) then
 (qbs n t2_1 (lenI t1_4)).bind fun r199 =>
 some r199
 else
 bif (t2 == 25) then
 (qbs n t2_1 (lenI t0_1)).bind fun r200 =>
 some r200
 else
 bif (t2 == 27) then
 (qbs n t2_1 (lenI t0_2)).bind fun r201 =>
 some r201
 else
 bif (t2 == 28) then
 (qbs n t2_1 (lenI t0)).bind fun r202 =>
 some r202
 else
 bif (t2 == 29) then
 (qbs n t2_1 (lenI t0)).bind fun r203 =>
 bif r203 then
 (getI t0 t2_1).bind fun x204 =>
 (qbs n t2_2 (lenI x204)).bind fun r205 =>
 some r205
 else
 some false
 else
 bif (t2 == 30) then
 (qbs n t2_1 (lenI t0)).bind fun r206 =>
 bif r206 then
 (getI t0 t2_1).bind fun x207 =>
 (qbs n t2_2 (lenI x207)).bind fun r208 =>
 some r208
 else
 some false
 else
 some true
def qax (n : Nat) (i_0 : Int) (i_0_1 : Int) (i_0_2 : Int) (m0 : DH) (m0_1 : DI) (m0_2 : DJ) (m0_3 : DC) (m0_4 : DD) (m1 : DA) (m1_1 : Int) (m1_2 : Int) (m1_3 : DA) (m1_4 : DB) : Option (Bool × (DH × DI × DJ × DC × DD) × DA × Int × Int × DA × DB) :=
 (qbu n m0 m0_1 m0_2 m0_3 m0_4 m1 m1_1 m1_2 m1_3 m1_4 i_0 i_0_1 i_0_2).bind fun r209 =>
 some ((!r209), ((m0, (m0_1, (m0_2, (m0_3, m0_4)))), (m1, (m1_1, (m1_2, (m1_3, m1_4))))))
def qn_B0 (n : Nat) (s_0 : DB) (t7 : Int) (t8 : Int) (m0 : DH) (m0_1 : DI) (m0_2 : DJ) (m0_3 : DC) (m0_4 : DD) (m1 : DA) (m1_1 : Int) (m1_2 : Int) (m1_3 : DA) (m1_4 : DB) : Option (((DB × Int × Int) × (DH × DI × DJ × DC × DD) × DA × Int × Int × DA × DB) ⊕ ((Int × (DH × DI × DJ × DC × DD) × DA × Int × Int × DA × DB) ⊕ ((DH × DI × DJ × DC × DD) × DA × Int × Int × DA × DB))) :=
 bif (decide (t8 < t7)) then
 (getI s_0 t8).bind fun x210 =>
 (qax n x210.1 x210.2.1 x210.2.2 m0 m0_1 m0_2 m0_3 m0_4 m1 m1_1 m1_2 m1_3 m1_4).bind fun r211 =>
 bif r211.1 then
 some (Sum.inr (Sum.inl (t8, ((r211.2.1.1, (r211.2.1.2.1, (r211.2.1.2.2.1, (r211.2.1.2.2.2.1, r211.2.1.2.2.2.2)))), (r211.2.2.1, (r211.2.2.2.1, (r211.2.2.2.2.1, (r211.2.2.2.2.2.1, r211.2.2.2.2.2.2))))))))
 else
 some (Sum.inl ((s_0, (t7, (addI .i64 t8 1))), ((r211.2.1.1, (r211.2.1.2.1, (r211.2.1.2.2.1, (r211.2.1.2.2.2.1, r211.2.1.2.2.2.2)))), (r211.2.2.1, (r211.2.2.2.1, (r211.2.2.2.2.1, (r211.2.2.2.2.2.1, r211.2.2.2.2.2.2)))))))
 else
 some (Sum.inr (Sum.inr ((m0, (m0_1, (m0_2, (m0_3, m0_4)))), (m1, (m1_1, (m1_2, (m1_3, m1_4)))))))
def qn_W0 (n : Nat) (s : (DB × Int × Int) × (DH × DI × DJ × DC × DD) × DA × Int × Int × DA × DB) : Option ((Int × (DH × DI × DJ × DC × DD) × DA × Int × Int × DA × DB) ⊕ ((DH × DI × DJ × DC × DD) × DA × Int × Int × DA × DB)) := loopS (fun s => qn_B0 n s.1.1 s.1.2.1 s.1.2.2 s.2.1.1 s.2.1.2.1 s.2.1.2.2.1 s.2.1.2.2.2.1 s.2.1.2.2.2.2 s.2.2.1 s.2.2.2.1 s.2.2.2.2.1 s.2.2.2.2.2.1 s.2.2.2.2.2.2) n s
def qn (n : Nat) (s_0 : DB) (m0 : DH) (m0_1 : DI) (m0_2 : DJ) (m0_3 : DC) (m0_4 : DD) (m1 : DA) (m1_1 : Int) (m1_2 : Int) (m1_3 : DA) (m1_4 : DB) : Option (Int × (DH × DI × DJ × DC × DD) × DA × Int × Int × DA × DB) :=
 (qn_W0 n ((s_0, ((lenI s_0), 0)), ((m0, (m0_1, (m0_2, (m0_3, m0_4)))), (m1, (m1_1, (m1_2, (m1_3, m1_4))))))).bind fun r212 =>
 Sum.rec (fun u213 =>
 some (u213.1, ((u213.2.1.1, (u213.2.1.2.1, (u213.2.1.2.2.1, (u213.2.1.2.2.2.1, u213.2.1.2.2.2.2)))), (u213.2.2.1, (u213.2.2.2.1, (u213.2.2.2.2.1, (u213.2.2.2.2.2.1, u213.2.2.2.2.2.2))))))) (fun v214 =>
 some ((-1), ((v214.1.1, (v214.1.2.1, (v214.1.2.2.1, (v214.1.2.2.2.1, v214.1.2.2.2.2)))), (v214.2.1, (v214.2.2.1, (v214.2.2.2.1, (v214.2.2.2.2.1, v214.2.2.2.2.2))))))) r212
def qb (n : Nat) (s_0 : DB) (m0 : DH) (m0_1 : DI) (m0_2 : DJ) (m0_3 : DC) (m0_4 : DD) (m1 : DA) (m1_1 : Int) (m1_2 : Int) (m1_3 : DA) (m1_4 : DB) : Option (Bool × (DH × DI × DJ × DC × DD) × DA × Int × Int × DA × DB) :=
 (qn n s_0 m0 m0_1 m0_2 m0_3 m0_4 m1 m1_1 m1_2 m1_3 m1_4).bind fun r215 =>
 some ((decide (r215.1 ≥ 0)), ((r215.2.1.1, (r215.2.1.2.1, (r215.2.1.2.2.1, (r215.2.1.2.2.2.1, r215.2.1.2.2.2.2)))), (r215.2.2.1, (r215.2.2.2.1, (r215.2.2.2.2.1, (r215.2.2.2.2.2.1, r215.2.2.2.2.2.2))))))
def qaw (n : Nat) (t_0 : Int) (t_0_1 : Int) : Option (Bool) :=
 some (t_0 == 5)
def qv_B0 (n : Nat) (s_0 : DA) (t7 : Int) (t8 : Int) : Option ((DA × Int × Int) ⊕ ((Int) ⊕ (Unit))) :=
 bif (decide (t8 < t7)) then
 (getI s_0 t8).bind fun x219 =>
 (qaw n x219.1 x219.2).bind fun r220 =>
 bif r220 then
 some (Sum.inr (Sum.inl t8))
 else
 some (Sum.inl (s_0, (t7, (addI .i64 t8 1))))
 else
 some (Sum.inr (Sum.inr ()))
def qv_W0 (n : Nat) (s : DA × Int × Int) : Option ((Int) ⊕ (Unit)) := loopS (fun s => qv_B0 n s.1 s.2.1 s.2.2) n s
def qv (n : Nat) (s_0 : DA) : Option (Int) :=
 (qv_W0 n (s_0, ((lenI s_0), 0))).bind fun r221 =>
 Sum.rec (fun u222 =>
 some u222) (fun v223 =>
 some (-1)) r221
def qd (n : Nat) (s_0 : DA) : Option (Bool) :=
 (qv n s_0).bind fun r224 =>
 some (decide (r224 ≥ 0))
def qbv_B0 (n : Nat) (t18 : DI) (t19 : Int) (t20 : Int) (m0 : DH) (m0_1 : DI) (m0_2 : DJ) (m0_3 : DC) (m0_4 : DD) : Option (((DI × Int × Int) × DH × DI × DJ × DC × DD) ⊕ ((Int × (DH × DI × DJ × DC × DD) × DA × Int × Int × DA × DB) ⊕ (DH × DI × DJ × DC × DD))) :=
 bif (decide (t20 < t19)) then
 (getI t18 t20).bind fun x225 =>
 (qb n x225.2.2.2.2 m0 m0_1 m0_2 m0_3 m0_4 x225.1 x225.2.1 x225.2.2.1 x225.2.2.2.1 x225.2.2.2.2).bind fun r226 =>
 bif r226.1 then
 some (Sum.inr (Sum.inl (1, ((r226.2.1.1, (r226.2.1.2.1, (r226.2.1.2.2.1, (r226.2.1.2.2.2.1, r226.2.1.2.2.2.2)))), (r226.2.2.1, (r226.2.2.2.1, (r226.2.2.2.2.1, (r226.2.2.2.2.2.1, r226.2.2.2.2.2.2))))))))
 else
 (qd n r226.2.2.2.2.2.1).bind fun r227 =>
 bif r227 then
 some (Sum.inr (Sum.inl (1, ((r226.2.1.1, (r226.2.1.2.1, (r226.2.1.2.2.1, (r226.2.1.2.2.2.1, r226.2.1.2.2.2.2)))), (r226.2.2.1, (r226.2.2.2.1, (r226.2.2.2.2.1, (r226.2.2.2.2.2.1, r226.2.2.2.2.2.2))))))))
 else
 some (Sum.inl ((t18, (t19, (addI .i64 t20 1))), (r226.2.1.1, (r226.2.1.2.1, (r226.2.1.2.2.1, (r226.2.1.2.2.2.1, r226.2.1.2.2.2.2))))))
 else
 some (Sum.inr (Sum.inr (m0, (m0_1, (m0_2, (m0_3, m0_4))))))
def qbv_W0 (n : Nat) (s : (DI × Int × Int) × DH × DI × DJ × DC × DD) : Option ((Int × (DH × DI × DJ × DC × DD) × DA × Int × Int × DA × DB) ⊕ (DH × DI × DJ × DC × DD)) := loopS (fun s => qbv_B0 n s.1.1 s.1.2.1 s.1.2.2 s.2.1 s.2.2.1 s.2.2.2.1 s.2.2.2.2.1 s.2.2.2.2.2) n s
def qcm (n : Nat) (t_0 : Int) (t_0_1 : Int) : Option (Bool) :=
 bif (t_0 == 1) then
 some true
 else
 some (t_0 == 5)
def qap (n : Nat) (t_0 : Int) (t_0_1 : Int) : Option (Bool) :=
 (qcm n t_0 t_0_1).bind fun r235 =>
 some (!r235)
def qs_B0 (n : Nat) (s_0 : DA) (t7 : Int) (t8 : Int) : Option ((DA × Int × Int) ⊕ ((Int) ⊕ (Unit))) :=
 bif (decide (t8 < t7)) then
 (getI s_0 t8).bind fun x236 =>
 (qap n x236.1 x236.2).bind fun r237 =>
 bif r237 then
 some (Sum.inr (Sum.inl t8))
 else
 some (Sum.inl (s_0, (t7, (addI .i64 t8 1))))
 else
 some (Sum.inr (Sum.inr ()))
def qs_W0 (n : Nat) (s : DA × Int × Int) : Option ((Int) ⊕ (Unit)) := loopS (fun s => qs_B0 n s.1 s.2.1 s.2.2) n s
def qs (n : Nat) (s_0 : DA) : Option (Int) :=
 (qs_W0 n (s_0, ((lenI s_0), 0))).bind fun r238 =>
 Sum.rec (fun u239 =>
 some u239) (fun v240 =>
 some (-1)) r238
def qf (n : Nat) (s_0 : DA) : Option (Bool) :=
 (qs n s_0).bind fun r241 =>
 some (decide (r241 ≥ 0))
def qbd (n : Nat) (i_0 : DA) (i_0_1 : Int) (i_0_2 : Int) : Option (Bool) :=
 (qcm n i_0_1 i_0_2).bind fun r242 =>
 bif (!r242) then
 some true
 else
 (qf n i_0).bind fun r243 =>
 some r243
def qj_B0 (n : Nat) (s_0 : DJ) (t7 : Int) (t8 : Int) : Option ((DJ × Int × Int) ⊕ ((Int) ⊕ (Unit))) :=
 bif (decide (t8 < t7)) then
 (getI s_0 t8).bind fun x244 =>
 (qbd n x244.1 x244.2.1 x244.2.2).bind fun r245 =>
 bif r245 then
 some (Sum.inr (Sum.inl t8))
 else
 some (Sum.inl (s_0, (t7, (addI .i64 t8 1))))
 else
 some (Sum.inr (Sum.inr ()))
def qj_W0 (n : Nat) (s : DJ × Int × Int) : Option ((Int) ⊕ (Unit)) := loopS (fun s => qj_B0 n s.1 s.2.1 s.2.2) n s
def qj (n : Nat) (s_0 : DJ) : Option (Int) :=
 (qj_W0 n (s_0, ((lenI s_0), 0))).bind fun r246 =>
 Sum.rec (fun u247 =>
 some u247) (fun v248 =>
 some (-1)) r246
def qa (n : Nat) (s_0 : DJ) : Option (Bool) :=
 (qj n s_0).bind fun r249 =>
 some (decide (r249 ≥ 0))
def qbv (n : Nat) (m_0 : DH) (m_0_1 : DI) (m_0_2 : DJ) (m_0_3 : DC) (m_0_4 : DD) : Option (Int) :=
 (qaj n m_0 m_0_1 m_0_2 m_0_3 m_0_4).bind fun r250 =>
 bif (r250.2 != 0) then
 some r250.2
 else
 (qbv_W0 n ((m_0_1, ((lenI m_0_1), 0)), (m_0, (m_0_1, (m_0_2, (m_0_3, m_0_4)))))).bind fun r251 =>
 Sum.rec (fun u252 =>
 some u252.1) (fun v253 =>
 (qa n v253.2.2.1).bind fun r254 =>
 bif r254 then
 some 1
 else
 some 0) r251
def qbt (n : Nat) (list_0 : DA) : Option DA :=
 some list_0
def qci (n : Nat) (t0 : Int) (t1 : DA) : Option ((DA × DA) × Bool) :=
 bif (t0 == 6) then
 bif (decide ((lenI t1) ≥ 1)) then
 (getI t1 (subI .i64 (lenI t1) 1)).bind fun x260 =>
 (qbt n ((x260.1, x260.2) :: ([] : List ((Int) × Int)))).bind fun r261 =>
 (qbt n ((x260.1, x260.2) :: ((x260.1, x260.2) :: ([] : List ((Int) × Int))))).bind fun r262 =>
 some ((r261, r262), true)
 else
 bif (t0 == 7) then
 bif (decide ((lenI t1) ≥ 2)) then
 (getI t1 (subI .i64 (lenI t1) 2)).bind fun x263 =>
 (getI t1 (subI .i64 (lenI t1) 1)).bind fun x264 =>
 (qbt n ((x263.1, x263.2) :: ((x264.1, x264.2) :: ([] : List ((Int) × Int))))).bind fun r265 =>
 (getI t1 (subI .i64 (lenI t1) 1)).bind fun x266 =>
 (getI t1 (subI .i64 (lenI t1) 2)).bind fun x267 =>
 (qbt n ((x266.1, x266.2) :: ((x267.1, x267.2) :: ([] : List ((Int) × Int))))).bind fun r268 =>
 some ((r265, r268), true)
 else
 bif (t0 == 41) then
 bif (decide ((lenI t1) ≥ 1)) then
 (getI t1 (subI .i64 (lenI t1) 1)).bind fun x269 =>
 bif (x269.1 == 5) then
 (getI t1 (subI .i64 (lenI t1) 1)).bind fun x270 =>
 (qbt n ((x270.1, x270.2) :: ([] : List ((Int) × Int)))).bind fun r271 =>
 some ((r271, []), true)
 else
 some (([], []), false)
 else
 some (([], []), false)
 else
 some (([], []), false)
 else
 bif (t0 == 41) then
 bif (decide ((lenI t1) ≥ 1)) then
 (getI t1 (subI .i64 (lenI t1) 1)).bind fun x272 =>
 bif (x272.1 == 5) then
 (getI t1 (subI .i64 (lenI t1) 1)).bind fun x273 =>
 (qbt n ((x273.1, x273.2) :: ([] : List ((Int) × Int)))).bind fun r274 =>
 some ((r274, []), true)
 else
 some (([], []), false)
 else
 some (([], []), false)
 else
 some (([], []), false)
 else
 bif (t0 == 7) then
 bif (decide ((lenI t1) ≥ 2)) then
 (getI t1 (subI .i64 (lenI t1) 2)).bind fun x275 =>
 (getI t1 (subI .i64 (lenI t1) 1)).bind fun x276 =>
 (qbt n ((x275.1, x275.2) :: ((x276.1, x276.2) :: ([] : List ((Int) × Int))))).bind fun r277 =>
 (getI t1 (subI .i64 (lenI t1) 1)).bind fun x278 =>
 (getI t1 (subI .i64 (lenI t1) 2)).bind fun x279 =>
 (qbt n ((x278.1, x278.2) :: ((x279.1, x279.2) :: ([] : List ((Int) × Int))))).bind fun r280 =>
 some ((r277, r280), true)
 else
 bif (t0 == 41) then
 bif (decide ((lenI t1) ≥ 1)) then
 (getI t1 (subI .i64 (lenI t1) 1)).bind fun x281 =>
 bif (x281.1 == 5) then
 (getI t1 (subI .i64 (lenI t1) 1)).bind fun x282 =>
 (qbt n ((x282.1, x282.2) :: ([] : List ((Int) × Int)))).bind fun r283 =>
 some ((r283, []), true)
 else
 some (([], []), false)
 else
 some (([], []), false)
 else
 some (([], []), false)
 else
 bif (t0 == 41) then
 bif (decide ((lenI t1) ≥ 1)) then
 (getI t1 (subI .i64 (lenI t1) 1)).bind fun x284 =>
 bif (x284.1 == 5) then
 (getI t1 (subI .i64 (lenI t1) 1)).bind fun x285 =>
 (qbt n ((x285.1, x285.2) :: ([] : List ((Int) × Int)))).bind fun r286 =>
 some ((r286, []), true)
 else
 some (([], []), false)
 else
 some (([], []), false)
 else
 some (([], []), false)
def qbw (n : Nat) (t0 : Int) : Option ((DA × DA) × Bool) :=
 bif (t0 == 2) then
 (qbt n ((6, 0) :: ([] : List ((Int) × Int)))).bind fun r290 =>
 some (([], r290), true)
 else
 bif (t0 == 5) then
 (qbt n ((8, 0) :: ([] : List ((Int) × Int)))).bind fun r291 =>
 some ((r291, []), true)
 else
 bif (t0 == 22) then
 (qbt n ((1, 0) :: ((1, 0) :: ([] : List ((Int) × Int))))).bind fun r292 =>
 (qbt n ((1, 0) :: ((1, 0) :: ([] : List ((Int) × Int))))).bind fun r293 =>
 some ((r292, r293), true)
 else
 bif (t0 == 23) then
 some (([], []), true)
 else
 bif (t0 == 24) then
 (qbt n ((1, 0) :: ([] : List ((Int) × Int)))).bind fun r294 =>
 some ((r294, []), true)
 else
 bif (t0 == 31) then
 (qbt n ((1, 0) :: ([] : List ((Int) × Int)))).bind fun r295 =>
 (qbt n ((3, 0) :: ([] : List ((Int) × Int)))).bind fun r296 =>
 some ((r295, r296), true)
 else
 bif (t0 == 32) then
 (qbt n ((3, 0) :: ((1, 0) :: ([] : List ((Int) × Int))))).bind fun r297 =>
 (qbt n ((1, 0) :: ([] : List ((Int) × Int)))).bind fun r298 =>
 some ((r297, r298), true)
 else
 bif (t0 == 33) then
 (qbt n ((3, 0) :: ((1, 0) :: ((1, 0) :: ([] : List ((Int) × Int)))))).bind fun r299 =>
 some ((r299, []), true)
 else
 bif (t0 == 34) then
 (qbt n ((3, 0) :: ([] : List ((Int) × Int)))).bind fun r300 =>
 (qbt n ((1, 0) :: ([] : List ((Int) × Int)))).bind fun r301 =>
 some ((r300, r301), true)
 else
 bif (t0 == 35) then
 (qbt n ((1, 0) :: ([] : List ((Int) × Int)))).bind fun r302 =>
 (qbt n ((2, 0) :: ([] : List ((Int) × Int)))).bind fun r303 =>
 some ((r302, r303), true)
 else
 bif (t0 == 36) then
 (qbt n ((2, 0) :: ((1, 0) :: ([] : List ((Int) × Int))))).bind fun r304 =>
 (qbt n ((1, 0) :: ([] : List ((Int) × Int)))).bind fun r305 =>
 some ((r304, r305), true)
 else
 bif (t0 == 37) then
 (qbt n ((2, 0) :: ((1, 0) :: ((1, 0) :: ([] : List ((Int) × Int)))))).bind fun r306 =>
 some ((r306, []), true)
 else
 bif (t0 == 38) then
 (qbt n ((2, 0) :: ([] : List ((Int) × Int)))).bind fun r307 =>
 (qbt n ((1, 0) :: ([] : List ((Int) × Int)))).bind fun r308 =>
 some ((r307, r308), true)
 else
 bif (t0 == 39) then
 (qbt n ((7, 0) :: ([] : List ((Int) × Int)))).bind fun r309 =>
 (qbt n ((1, 0) :: ([] : List ((Int) × Int)))).bind fun r310 =>
 some ((r309, r310), true)
 else
 bif (t0 == 40) then
 (qbt n ((7, 0) :: ((7, 0) :: ([] : List ((Int) × Int))))).bind fun r311 =>
 (qbt n ((1, 0) :: ([] : List ((Int) × Int)))).bind fun r312 =>
 some ((r311, r312), true)
 else
 (qbt n ((1, 0) :: ((1, 0) :: ([] : List ((Int) × Int))))).bind fun r313 =>
 (qbt n ((1, 0) :: ([] : List ((Int) × Int)))).bind fun r314 =>
 bif (decide (t0 ≥ 8)) then
 some ((r313, r314), (decide (t0 ≤ 21)))
 else
 some ((r313, r314), false)
def qbj (n : Nat) (f_0 : DA) (f_0_1 : Int) (f_0_2 : Int) (f_0_3 : DA) (f_0_4 : DB) (n_1 : Int) : Option (Int × Int) :=
 bif (decide (n_1 ≥ 0)) then
 bif (decide (n_1 < (lenI f_0))) then
 (getI f_0 n_1).bind fun x321 =>
 some (x321.1, x321.2)
 else
 bif (decide (n_1 ≥ 0)) then
 bif (decide (n_1 < (addI .i64 (lenI f_0) (lenI f_0_3)))) then
 (getI f_0_3 (subI .i64 n_1 (lenI f_0))).bind fun x322 =>
 some (x322.1, x322.2)
 else
 some (8, 0)
 else
 some (8, 0)
 else
 bif (decide (n_1 ≥ 0)) then
 bif (decide (n_1 < (addI .i64 (lenI f_0) (lenI f_0_3)))) then
 (getI f_0_3 (subI .i64 n_1 (lenI f_0))).bind fun x323 =>
 some (x323.1, x323.2)
 else
 some (8, 0)
 else
 some (8, 0)
def qbm (n : Nat) (t0 : DH) (t0_1 : DI) (t0_2 : DJ) (t0_3 : DC) (t0_4 : DD) (t1 : DA) (t1_1 : Int) (t1_2 : Int) (t1_3 : DA) (t1_4 : DB) (t2 : Int) (t2_1 : Int) (t2_2 : Int) : Option (DA × DA) :=
 bif (t2 == 0) then
 (qbt n ((1, 0) :: ([] : List ((Int) × Int)))).bind fun r324 =>
 some ([], r324)
 else
 bif (t2 == 1) then
 (qbt n ((2, 0) :: ([] : List ((Int) × Int)))).bind fun r325 =>
 some ([], r325)
 else
 bif (t2 == 3) then
 (qbj n t1 t1_1 t1_2 t1_3 t1_4 t2_1).bind fun r326 =>
 (qbt n ((r326.1, r326.2) :: ([] : List ((Int) × Int)))).bind fun r327 =>
 some ([], r327)
 else
 bif (t2 == 4) then
 (qbj n t1 t1_1 t1_2 t1_3 t1_4 t2_1).bind fun r328 =>
 (qbt n ((r328.1, r328.2) :: ([] : List ((Int) × Int)))).bind fun r329 =>
 some (r329, [])
 else
 bif (t2 == 25) then
 (getI t0_1 t2_1).bind fun x330 =>
 (getI t0_1 t2_1).bind fun x331 =>
 (qbt n ((x331.2.1, x331.2.2.1) :: ([] : List ((Int) × Int)))).bind fun r332 =>
 some (x330.1, r332)
 else
 bif (t2 == 26) then
 (qbt n ((t1_1, t1_2) :: ([] : List ((Int) × Int)))).bind fun r333 =>
 some (r333, [])
 else
 bif (t2 == 27) then
 (getI t0_2 t2_1).bind fun x334 =>
 (getI t0_2 t2_1).bind fun x335 =>
 (qbt n ((x335.2.1, x335.2.2) :: ([] : List ((Int) × Int)))).bind fun r336 =>
 some (x334.1, r336)
 else
 bif (t2 == 28) then
 (getI t0 t2_1).bind fun x337 =>
 (qbt n ((4, t2_1) :: ([] : List ((Int) × Int)))).bind fun r338 =>
 some (x337, r338)
 else
 bif (t2 == 29) then
 (qbt n ((4, t2_1) :: ([] : List ((Int) × Int)))).bind fun r339 =>
 (getI t0 t2_1).bind fun x340 =>
 (getI x340 t2_2).bind fun x341 =>
 (qbt n ((x341.1, x341.2) :: ([] : List ((Int) × Int)))).bind fun r342 =>
 some (r339, r342)
 else
 (getI t0 t2_1).bind fun x343 =>
 (getI x343 t2_2).bind fun x344 =>
 (qbt n ((4, t2_1) :: ((x344.1, x344.2) :: ([] : List ((Int) × Int))))).bind fun r345 =>
 some (r345, [])
def qct (n : Nat) (m_0 : DH) (m_0_1 : DI) (m_0_2 : DJ) (m_0_3 : DC) (m_0_4 : DD) (f_1 : DA) (f_1_1 : Int) (f_1_2 : Int) (f_1_3 : DA) (f_1_4 : DB) (i_2 : Int) (i_2_1 : Int) (i_2_2 : Int) (stack_3 : DA) : Option ((DA × DA) × Bool) :=
 bif (i_2 == 6) then
 (qci n i_2 stack_3).bind fun r346 =>
 some ((r346.1.1, r346.1.2), r346.2)
 else
 bif (i_2 == 7) then
 (qci n i_2 stack_3).bind fun r347 =>
 some ((r347.1.1, r347.1.2), r347.2)
 else
 bif (i_2 == 41) then
 (qci n i_2 stack_3).bind fun r348 =>
 some ((r348.1.1, r348.1.2), r348.2)
 else
 (qbw n i_2).bind fun r349 =>
 bif r349.2 then
 some ((r349.1.1, r349.1.2), true)
 else
 (qbm n m_0 m_0_1 m_0_2 m_0_3 m_0_4 f_1 f_1_1 f_1_2 f_1_3 f_1_4 i_2 i_2_1 i_2_2).bind fun r350 =>
 some ((r350.1, r350.2), true)
def qcq (n : Nat) (t_0 : Int) (t_0_1 : Int) : Option (Bool) :=
 bif (t_0 == 2) then
 some true
 else
 bif (t_0 == 3) then
 some true
 else
 bif (t_0 == 4) then
 some true
 else
 bif (t_0 == 6) then
 some true
 else
 bif (t_0 == 7) then
 some true
 else
 some false
def qcp (n : Nat) (a_0 : Int) (a_0_1 : Int) (b_1 : Int) (b_1_1 : Int) : Option (Bool) :=
 bif ((a_0 == b_1) && (a_0_1 == b_1_1)) then
 some true
 else
 bif (b_1 == 8) then
 some true
 else
 (qcq n a_0 a_0_1).bind fun r356 =>
 bif r356 then
 (qcq n b_1 b_1_1).bind fun r357 =>
 bif r357 then
 bif (a_0 == 6) then
 some true
 else
 some (b_1 == 7)
 else
 some false
 else
 some false
def qcl_B0 (n : Nat) (t2 : Int) (t3 : DA) (t14 : Int) (t55 : DA) (t56 : Int) (t57 : Int) (m0 : DA) (m0_1 : Int) (m0_2 : Int) (m0_3 : DA) (m0_4 : DB) (m1 : DA) (m1_1 : DA) : Option (((Int × DA × Int × DA × Int × Int) × (DA × Int × Int × DA × DB) × DA × DA) ⊕ (((DA × DC × Int) × (DA × Int × Int × DA × DB) × (DA × DA) × Int × Int) ⊕ ((Int × DA × Int) × (DA × Int × Int × DA × DB) × DA × DA))) :=
 bif (decide (t57 < t56)) then
 (getI t55 t57).bind fun x358 =>
 (getI t3 (addI .i64 t14 t57)).bind fun x359 =>
 (qcp n x359.1 x359.2 x358.1 x358.2).bind fun r360 =>
 bif (!r360) then
 some (Sum.inr (Sum.inl ((([] : List ((Int) × Int)), (([] : DE), 4)), ((m0, (m0_1, (m0_2, (m0_3, m0_4)))), ((m1, m1_1), (x358.1, x358.2))))))
 else
 some (Sum.inl ((t2, (t3, (t14, (t55, (t56, (addI .i64 t57 1)))))), ((m0, (m0_1, (m0_2, (m0_3, m0_4)))), (m1, m1_1))))
 else
 some (Sum.inr (Sum.inr ((t2, (t3, t14)), ((m0, (m0_1, (m0_2, (m0_3, m0_4)))), (m1, m1_1)))))
def qcl_W0 (n : Nat) (s : (Int × DA × Int × DA × Int × Int) × (DA × Int × Int × DA × DB) × DA × DA) : Option (((DA × DC × Int) × (DA × Int × Int × DA × DB) × (DA × DA) × Int × Int) ⊕ ((Int × DA × Int) × (DA × Int × Int × DA × DB) × DA × DA)) := loopS (fun s => qcl_B0 n s.1.1 s.1.2.1 s.1.2.2.1 s.1.2.2.2.1 s.1.2.2.2.2.1 s.1.2.2.2.2.2 s.2.1.1 s.2.1.2.1 s.2.1.2.2.1 s.2.1.2.2.2.1 s.2.1.2.2.2.2 s.2.2.1 s.2.2.2) n s
def qcf (n : Nat) (i_0 : Int) (i_0_1 : Int) (i_0_2 : Int) (pc_1 : Int) : Option DC :=
 bif (i_0 == 26) then
 some ([] : DE)
 else
 bif (i_0 == 23) then
 some (i_0_1 :: ([] : DE))
 else
 bif (i_0 == 24) then
 some ((addI .i64 pc_1 1) :: (i_0_1 :: ([] : DE)))
 else
 some ((addI .i64 pc_1 1) :: ([] : DE))
def qbf_B0 (n : Nat) (slices_0 : DH) (size_3 : Int) (t9 : DH) (t10 : Int) (t11 : Int) : Option ((DH × Int × DH × Int × Int) ⊕ (DH × Int)) :=
 bif (decide (t11 < t10)) then
 (getI t9 t11).bind fun x377 =>
 bif (decide ((addI .i64 size_3 (lenI x377)) < 0)) then
 none
 else
 some (Sum.inl (slices_0, ((addI .i64 size_3 (lenI x377)), (t9, (t10, (addI .i64 t11 1))))))
 else
 some (Sum.inr (slices_0, size_3))
def qbf_W0 (n : Nat) (s : DH × Int × DH × Int × Int) : Option (DH × Int) := loopS (fun s => qbf_B0 n s.1 s.2.1 s.2.2.1 s.2.2.2.1 s.2.2.2.2) n s
def qcg (n : Nat) (n_1 : Int) : Option (((Nat × Nat) × DA) ⊕ (Unit)) :=
 bif (decide (n_1 < 0)) then
 none
 else
 bif (decide ((subI .i64 n_1 0) > 0)) then
 bif ((decide (1 ≤ (subI .i64 n_1 0))) && (Nat.ble (Int.toNat (subI .i64 n_1 0)) 4294967296)) then
 bif (decide (0 ≤ (((List.length (List.replicate (Int.toNat (subI .i64 n_1 0)) (0, 0))) : Nat) : Int))) then
 some (Sum.inl ((0, 0), (List.replicate (Int.toNat (subI .i64 n_1 0)) (0, 0))))
 else none
 else none
 else
 some (Sum.inr ())
def qbf_B2x1q0 (n : Nat) (newslice_6 : Nat × Nat) (t25 : DH) (t26 : Int) (t27 : Int) (m0 : DA) : Option (((((Nat × Nat) × DH × Int × Int) × DA) ⊕ (((DH × Int × Int) × DA) ⊕ (DH × Int × Int))) ⊕ (((Nat × Nat) × DA) ⊕ (DA ⊕ (Unit)))) :=
 bif (decide (t27 < t26)) then
 (getI t25 t27).bind fun x392 =>
 bif (Nat.beq newslice_6.1 0) then
 bif (Nat.ble (0 + newslice_6.2) (List.length m0)) then
 bif (Nat.ble (List.length ((List.take newslice_6.2 m0) ++ x392)) 4294967296) then
 some (Sum.inl (Sum.inr (Sum.inl ((t25, (t26, (addI .i64 t27 1))), ((List.take newslice_6.2 m0) ++ x392)))))
 else none
 else none
 else none
 else
 some (Sum.inr (Sum.inl ((newslice_6.1, newslice_6.2), m0)))
def qbf_B2x1q1 (n : Nat) (t25 : DH) (t26 : Int) (t27 : Int) (m0 : DA) : Option (((((Nat × Nat) × DH × Int × Int) × DA) ⊕ (((DH × Int × Int) × DA) ⊕ (DH × Int × Int))) ⊕ (((Nat × Nat) × DA) ⊕ (DA ⊕ (Unit)))) :=
 bif (decide (t27 < t26)) then
 (getI t25 t27).bind fun x393 =>
 bif (Nat.ble (List.length (m0 ++ x393)) 4294967296) then
 some (Sum.inl (Sum.inr (Sum.inl ((t25, (t26, (addI .i64 t27 1))), (m0 ++ x393)))))
 else none
 else
 some (Sum.inr (Sum.inr (Sum.inl m0)))
def qbf_B2x1q2 (n : Nat) (t25 : DH) (t26 : Int) (t27 : Int) : Option (((((Nat × Nat) × DH × Int × Int) × DA) ⊕ (((DH × Int × Int) × DA) ⊕ (DH × Int × Int))) ⊕ (((Nat × Nat) × DA) ⊕ (DA ⊕ (Unit)))) :=
 bif (decide (t27 < t26)) then
 (getI t25 t27).bind fun x394 =>
 bif (Nat.ble (List.length x394) 4294967296) then
 some (Sum.inl (Sum.inr (Sum.inl ((t25, (t26, (addI .i64 t27 1))), x394))))
 else none
 else
 some (Sum.inr (Sum.inr (Sum.inr ())))
def qbf_M2x1 (n : Nat) (s : (((Nat × Nat) × DH × Int × Int) × DA) ⊕ (((DH × Int × Int) × DA) ⊕ (DH × Int × Int))) : Option (((((Nat × Nat) × DH × Int × Int) × DA) ⊕ (((DH × Int × Int) × DA) ⊕ (DH × Int × Int))) ⊕ (((Nat × Nat) × DA) ⊕ (DA ⊕ (Unit)))) := Sum.rec (fun a0 => qbf_B2x1q0 n a0.1.1 a0.1.2.1 a0.1.2.2.1 a0.1.2.2.2 a0.2) (fun b0 => Sum.rec (fun a1 => qbf_B2x1q1 n a1.1.1 a1.1.2.1 a1.1.2.2 a1.2) (fun b1 => qbf_B2x1q2 n b1.1 b1.2.1 b1.2.2) b0) s
def qbf_W2x1 (n : Nat) (s : (((Nat × Nat) × DH × Int × Int) × DA) ⊕ (((DH × Int × Int) × DA) ⊕ (DH × Int × Int))) : Option (((Nat × Nat) × DA) ⊕ (DA ⊕ (Unit))) := loopS (qbf_M2x1 n) n s
def qbf (n : Nat) (slices_0 : DH) : Option (((Nat × Nat) × DA) ⊕ DA) :=
 (qbf_W0 n (slices_0, (0, (slices_0, ((lenI slices_0), 0))))).bind fun r395 =>
 (qcg n r395.2).bind fun r396 =>
 Sum.rec (fun u397 =>
 (qbf_W2x1 n (Sum.inl (((u397.1.1, u397.1.2), (r395.1, ((lenI r395.1), 0))), u397.2))).bind fun r399 =>
 Sum.rec (fun u400 =>
 some (Sum.inl ((u400.1.1, u400.1.2), u400.2))) (fun v401 =>
 Sum.rec (fun u402 =>
 some (Sum.inr u402)) (fun v403 =>
 some (Sum.inr [])) v401) r399) (fun v398 =>
 (qbf_W2x1 n (Sum.inr (Sum.inr (r395.1, ((lenI r395.1), 0))))).bind fun r404 =>
 Sum.rec (fun u405 =>
 some (Sum.inl ((u405.1.1, u405.1.2), u405.2))) (fun v406 =>
 Sum.rec (fun u407 =>
 some (Sum.inr u407)) (fun v408 =>
 some (Sum.inr [])) v406) r404) r396
def qcj (n : Nat) (s_0 : DA) : Option DA :=
 bif ((decide (0 ≤ (lenI s_0))) && (decide ((lenI s_0) ≤ (((List.length s_0) : Nat) : Int)))) then
 bif ((decide (0 ≤ (lenI s_0))) && (decide ((lenI s_0) ≤ (((Int.toNat (lenI s_0)) : Nat) : Int)))) then
 some (List.take (Int.toNat (lenI s_0)) s_0)
 else none
 else none
def qcl (n : Nat) (t0 : DH) (t0_1 : DI) (t0_2 : DJ) (t0_3 : DC) (t0_4 : DD) (t1 : Int) (t2 : Int) (t3 : DA) : Option (DA × DC × Int) :=
 (getI t0_1 t1).bind fun x421 =>
 (getI x421.2.2.2.2 t2).bind fun x422 =>
 (qct n t0 t0_1 t0_2 t0_3 t0_4 x421.1 x421.2.1 x421.2.2.1 x421.2.2.2.1 x421.2.2.2.2 x422.1 x422.2.1 x422.2.2 t3).bind fun r423 =>
 bif (!r423.2) then
 some (([] : List ((Int) × Int)), (([] : DE), 4))
 else
 bif (decide ((subI .i64 (lenI t3) (lenI r423.1.1)) < 0)) then
 some (([] : List ((Int) × Int)), (([] : DE), 4))
 else
 bif (decide ((addI .i64 (subI .i64 (lenI t3) (lenI r423.1.1)) (lenI r423.1.2)) > 8)) then
 some (([] : List ((Int) × Int)), (([] : DE), 4))
 else
 (qcl_W0 n ((t2, (t3, ((subI .i64 (lenI t3) (lenI r423.1.1)), (r423.1.1, ((lenI r423.1.1), 0))))), ((x421.1, (x421.2.1, (x421.2.2.1, (x421.2.2.2.1, x421.2.2.2.2)))), (r423.1.1, r423.1.2)))).bind fun r424 =>
 Sum.rec (fun u425 =>
 some (u425.1.1, (u425.1.2.1, u425.1.2.2))) (fun v426 =>
 (getI v426.2.1.2.2.2.2 v426.1.1).bind fun x427 =>
 (qcf n x427.1 x427.2.1 x427.2.2 v426.1.1).bind fun r428 =>
 bif (decide ((lenI r428) > 0)) then
 (getI r428 0).bind fun x429 =>
 bif (decide (x429 ≥ (lenI v426.2.1.2.2.2.2))) then
 some (([] : List ((Int) × Int)), (([] : DE), 1))
 else
 bif ((decide (0 ≤ v426.1.2.2)) && (decide (v426.1.2.2 ≤ (((List.length v426.1.2.1) : Nat) : Int)))) then
 (qbf n ((List.take (Int.toNat v426.1.2.2) v426.1.2.1) :: (v426.2.2.2 :: ([] : List (List ((Int) × Int)))))).bind fun r430 =>
 Sum.rec (fun u431 =>
 bif (Nat.ble (u431.1.1 + u431.1.2) (List.length u431.2)) then
 (qcj n (List.take u431.1.2 (List.drop u431.1.1 u431.2))).bind fun r433 =>
 none
 else none) (fun v432 =>
 (qcj n v432).bind fun r434 =>
 some (r434, (r428, 0))) r430
 else none
 else
 bif ((decide (0 ≤ v426.1.2.2)) && (decide (v426.1.2.2 ≤ (((List.length v426.1.2.1) : Nat) : Int)))) then
 (qbf n ((List.take (Int.toNat v426.1.2.2) v426.1.2.1) :: (v426.2.2.2 :: ([] : List (List ((Int) × Int)))))).bind fun r435 =>
 Sum.rec (fun u436 =>
 bif (Nat.ble (u436.1.1 + u436.1.2) (List.length u436.2)) then
 (qcj n (List.take u436.1.2 (List.drop u436.1.1 u436.2))).bind fun r438 =>
 none
 else none) (fun v437 =>
 (qcj n v437).bind fun r439 =>
 some (r439, (r428, 0))) r435
 else none) r424
def qcd (n : Nat) (m_0 : DH) (m_0_1 : DI) (m_0_2 : DJ) (m_0_3 : DC) (m_0_4 : DD) (f_1 : Int) (pc_2 : Int) (stack_3 : DA) : Option (DA × DC × Int) :=
 (qbv n m_0 m_0_1 m_0_2 m_0_3 m_0_4).bind fun r440 =>
 bif (r440 != 0) then
 some (([] : List ((Int) × Int)), (([] : DE), 1))
 else
 bif (decide (f_1 < 0)) then
 some (([] : List ((Int) × Int)), (([] : DE), 1))
 else
 bif (decide (f_1 ≥ (lenI m_0_1))) then
 some (([] : List ((Int) × Int)), (([] : DE), 1))
 else
 bif (decide (pc_2 < 0)) then
 some (([] : List ((Int) × Int)), (([] : DE), 1))
 else
 (getI m_0_1 f_1).bind fun x441 =>
 bif (decide (pc_2 ≥ (lenI x441.2.2.2.2))) then
 some (([] : List ((Int) × Int)), (([] : DE), 1))
 else
 (qcl n m_0 m_0_1 m_0_2 m_0_3 m_0_4 f_1 pc_2 stack_3).bind fun r442 =>
 some (r442.1, (r442.2.1, r442.2.2))
def qaf (n : Nat) : Option (Bool) :=
 (qcd n ([] : List (List ((Int) × Int))) ((([] : List ((Int) × Int)), (1, (0, (([] : List ((Int) × Int)), ((8, (0, 0)) :: ((26, (0, 0)) :: ([] : List ((Int) × (Int) × Int)))))))) :: ([] : List ((List ((Int) × Int)) × (Int) × (Int) × (List ((Int) × Int)) × List ((Int) × (Int) × Int)))) ([] : List ((List ((Int) × Int)) × (Int) × Int)) ([] : DE) ([] : DF) 0 0 ((1, 0) :: ((1, 0) :: ([] : List ((Int) × Int))))).bind fun r443 =>
 bif (r443.2.2 == 0) then
 bif ((lenI r443.1) == 1) then
 bif ((lenI r443.2.1) == 1) then
 (getI r443.2.1 0).bind fun x444 =>
 some (x444 == 1)
 else
 some false
 else
 some false
 else
 some false
def qat_B0 (n : Nat) (a_0 : DA) (b_1 : DA) (i_5 : Int) : Option ((DA × DA × Int) ⊕ ((Bool) ⊕ (Unit))) :=
 bif (decide (i_5 < (lenI a_0))) then
 (getI a_0 i_5).bind fun x452 =>
 (getI b_1 i_5).bind fun x453 =>
 bif (!((x452.1 == x453.1) && (x452.2 == x453.2))) then
 some (Sum.inr (Sum.inl false))
 else
 some (Sum.inl (a_0, (b_1, (addI .i64 i_5 1))))
 else
 some (Sum.inr (Sum.inr ()))
def qat_W0 (n : Nat) (s : DA × DA × Int) : Option ((Bool) ⊕ (Unit)) := loopS (fun s => qat_B0 n s.1 s.2.1 s.2.2) n s
def qat (n : Nat) (a_0 : DA) (b_1 : DA) : Option (Bool) :=
 bif ((lenI a_0) != (lenI b_1)) then
 some false
 else
 (qat_W0 n (a_0, (b_1, 0))).bind fun r454 =>
 Sum.rec (fun u455 =>
 some u455) (fun v456 =>
 some true) r454
def qcb_S (n : Nat) (self : Int → Option DC) (v_0 : Int) : Option DC :=
 bif (decide (v_0 < 128)) then
 some ((cvtI .u8 v_0) :: ([] : DE))
 else
 (self (quoI .u64 v_0 128)).bind fun r462 =>
 bif (Nat.ble (List.length (((cvtI .u8 (addI .u64 128 (remI v_0 128))) :: ([] : DE)) ++ r462)) 4294967296) then
 some (((cvtI .u8 (addI .u64 128 (remI v_0 128))) :: ([] : DE)) ++ r462)
 else none
def qcb_D (n : Nat) (d : Nat) : Int → Option DC := Nat.rec (fun _ => none) (fun _ ih a => qcb_S n ih a) d
def qcb (n : Nat) (v_0 : Int) : Option DC := qcb_D n n v_0
def qbl (n : Nat) (t_0 : Int) (t_0_1 : Int) (recs_1 : Int) : Option (Bool) :=
 bif (t_0 == 1) then
 some (t_0_1 == 0)
 else
 bif (t_0 == 2) then
 some (t_0_1 == 0)
 else
 bif (t_0 == 3) then
 some (t_0_1 == 0)
 else
 bif (t_0 == 7) then
 some (t_0_1 == 0)
 else
 bif (t_0 == 4) then
 bif (decide (t_0_1 ≥ 0)) then
 some (decide (t_0_1 < recs_1))
 else
 some false
 else
 bif (t_0 == 5) then
 bif (decide (t_0_1 ≥ 0)) then
 some (decide (t_0_1 < 4))
 else
 some false
 else
 some false
def qbk (n : Nat) (t_0 : Int) (t_0_1 : Int) : Option DC :=
 bif (decide (t_0 < 0)) then
 bif (decide (t_0_1 < 0)) then
 (qcb n (cvtI .u64 0)).bind fun r470 =>
 (qcb n (cvtI .u64 0)).bind fun r471 =>
 bif (Nat.ble (List.length (r470 ++ r471)) 4294967296) then
 some (r470 ++ r471)
 else none
 else
 (qcb n (cvtI .u64 0)).bind fun r472 =>
 (qcb n (cvtI .u64 t_0_1)).bind fun r473 =>
 bif (Nat.ble (List.length (r472 ++ r473)) 4294967296) then
 some (r472 ++ r473)
 else none
 else
 bif (decide (t_0_1 < 0)) then
 (qcb n (cvtI .u64 t_0)).bind fun r474 =>
 (qcb n (cvtI .u64 0)).bind fun r475 =>
 bif (Nat.ble (List.length (r474 ++ r475)) 4294967296) then
 some (r474 ++ r475)
 else none
 else
 (qcb n (cvtI .u64 t_0)).bind fun r476 =>
 (qcb n (cvtI .u64 t_0_1)).bind fun r477 =>
 bif (Nat.ble (List.length (r476 ++ r477)) 4294967296) then
 some (r476 ++ r477)
 else none
def qai_B0 (n : Nat) (l_0 : DA) (recs_1 : Int) (most_2 : Int) (i_9 : Int) (m0 : DC) : Option (((DA × Int × Int × Int) × DC) ⊕ (((DC × Bool) × DC) ⊕ ((DA × Int) × DC))) :=
 bif (decide (i_9 < (lenI l_0))) then
 (getI l_0 i_9).bind fun x478 =>
 (qbl n x478.1 x478.2 recs_1).bind fun r479 =>
 bif (!r479) then
 some (Sum.inr (Sum.inl ((([] : DE), false), m0)))
 else
 (getI l_0 i_9).bind fun x480 =>
 (qbk n x480.1 x480.2).bind fun r481 =>
 bif (Nat.ble (List.length (m0 ++ r481)) 4294967296) then
 some (Sum.inl ((l_0, (recs_1, (most_2, (addI .i64 i_9 1)))), (m0 ++ r481)))
 else none
 else
 some (Sum.inr (Sum.inr ((l_0, most_2), m0)))
def qai_W0 (n : Nat) (s : (DA × Int × Int × Int) × DC) : Option (((DC × Bool) × DC) ⊕ ((DA × Int) × DC)) := loopS (fun s => qai_B0 n s.1.1 s.1.2.1 s.1.2.2.1 s.1.2.2.2 s.2) n s
def qai (n : Nat) (l_0 : DA) (recs_1 : Int) (most_2 : Int) : Option (DC × Bool) :=
 (qcb n (cvtI .u64 (lenI l_0))).bind fun r482 =>
 (qai_W0 n ((l_0, (recs_1, (most_2, 0))), r482)).bind fun r483 =>
 Sum.rec (fun u484 =>
 some (u484.1.1, u484.1.2)) (fun v485 =>
 some (v485.2, (decide ((lenI v485.1.1) ≤ v485.1.2)))) r483
def qao_B0 (n : Nat) (t4 : Int) (t5 : Bool) (t7 : Int) (m0 : DH) (m0_1 : DI) (m0_2 : DJ) (m0_3 : DC) (m0_4 : DD) (m1 : DC) : Option (((Int × Bool × Int) × (DH × DI × DJ × DC × DD) × DC) ⊕ ((Int × Bool) × (DH × DI × DJ × DC × DD) × DC)) :=
 bif (decide (t7 < t4)) then
 (getI m0 t7).bind fun x486 =>
 (qai n x486 t4 6).bind fun r487 =>
 bif (Nat.ble (List.length (m1 ++ r487.1)) 4294967296) then
 bif t5 then
 some (Sum.inl ((t4, (r487.2, (addI .i64 t7 1))), ((m0, (m0_1, (m0_2, (m0_3, m0_4)))), (m1 ++ r487.1))))
 else
 some (Sum.inl ((t4, (false, (addI .i64 t7 1))), ((m0, (m0_1, (m0_2, (m0_3, m0_4)))), (m1 ++ r487.1))))
 else none
 else
 some (Sum.inr ((t4, t5), ((m0, (m0_1, (m0_2, (m0_3, m0_4)))), m1)))
def qao_W0 (n : Nat) (s : (Int × Bool × Int) × (DH × DI × DJ × DC × DD) × DC) : Option ((Int × Bool) × (DH × DI × DJ × DC × DD) × DC) := loopS (fun s => qao_B0 n s.1.1 s.1.2.1 s.1.2.2 s.2.1.1 s.2.1.2.1 s.2.1.2.2.1 s.2.1.2.2.2.1 s.2.1.2.2.2.2 s.2.2) n s
def qbn_B0 (n : Nat) (op_0 : Int) (l_3 : DC) (i_4 : Int) : Option ((Int × DC × Int) ⊕ ((Int) ⊕ (Unit))) :=
 bif (decide (i_4 < (lenI l_3))) then
 (getI l_3 i_4).bind fun x505 =>
 bif (x505 == op_0) then
 some (Sum.inr (Sum.inl 1))
 else
 some (Sum.inl (op_0, (l_3, (addI .i64 i_4 1))))
 else
 some (Sum.inr (Sum.inr ()))
def qbn_W0 (n : Nat) (s : Int × DC × Int) : Option ((Int) ⊕ (Unit)) := loopS (fun s => qbn_B0 n s.1 s.2.1 s.2.2) n s
def qbn (n : Nat) (op_0 : Int) : Option (Int) :=
 bif (decide (op_0 < 0)) then
 some (-1)
 else
 bif (decide (op_0 ≥ 42)) then
 some (-1)
 else
 bif (op_0 == 29) then
 some 2
 else
 bif (op_0 == 30) then
 some 2
 else
 (qbn_W0 n (op_0, ((0 :: (1 :: (3 :: (4 :: (23 :: (24 :: (25 :: (27 :: (28 :: ([] : DE)))))))))), 0))).bind fun r506 =>
 Sum.rec (fun u507 =>
 some u507) (fun v508 =>
 some 0) r506
def qas (n : Nat) (t0 : Int) (t0_1 : Int) (t0_2 : Int) : Option DC :=
 (qbn n t0).bind fun r510 =>
 bif (decide (r510 < 0)) then
 some ([] : DE)
 else
 bif (decide (t0_1 < 0)) then
 some ([] : DE)
 else
 bif (decide (t0_1 > 255)) then
 some ([] : DE)
 else
 bif (decide (t0_2 < 0)) then
 some ([] : DE)
 else
 bif (decide (t0_2 > 255)) then
 some ([] : DE)
 else
 bif (decide (r510 < 1)) then
 bif (t0_1 != 0) then
 some ([] : DE)
 else
 bif (decide (r510 < 2)) then
 bif (t0_2 != 0) then
 some ([] : DE)
 else
 bif (decide (r510 > 0)) then
 (qcb n (cvtI .u64 t0_1)).bind fun r511 =>
 bif (Nat.ble (List.length (((cvtI .u8 t0) :: ([] : DE)) ++ r511)) 4294967296) then
 bif (decide (r510 > 1)) then
 (qcb n (cvtI .u64 t0_2)).bind fun r512 =>
 bif (Nat.ble (List.length ((((cvtI .u8 t0) :: ([] : DE)) ++ r511) ++ r512)) 4294967296) then
 some ((((cvtI .u8 t0) :: ([] : DE)) ++ r511) ++ r512)
 else none
 else
 some (((cvtI .u8 t0) :: ([] : DE)) ++ r511)
 else none
 else
 bif (decide (r510 > 1)) then
 (qcb n (cvtI .u64 t0_2)).bind fun r513 =>
 bif (Nat.ble (List.length (((cvtI .u8 t0) :: ([] : DE)) ++ r513)) 4294967296) then
 some (((cvtI .u8 t0) :: ([] : DE)) ++ r513)
 else none
 else
 some ((cvtI .u8 t0) :: ([] : DE))
 else
 bif (decide (r510 > 0)) then
 (qcb n (cvtI .u64 t0_1)).bind fun r514 =>
 bif (Nat.ble (List.length (((cvtI .u8 t0) :: ([] : DE)) ++ r514)) 4294967296) then
 bif (decide (r510 > 1)) then
 (qcb n (cvtI .u64 t0_2)).bind fun r515 =>
 bif (Nat.ble (List.length ((((cvtI .u8 t0) :: ([] : DE)) ++ r514) ++ r515)) 4294967296) then
 some ((((cvtI .u8 t0) :: ([] : DE)) ++ r514) ++ r515)
 else none
 else
 some (((cvtI .u8 t0) :: ([] : DE)) ++ r514)
 else none
 else
 bif (decide (r510 > 1)) then
 (qcb n (cvtI .u64 t0_2)).bind fun r516 =>
 bif (Nat.ble (List.length (((cvtI .u8 t0) :: ([] : DE)) ++ r516)) 4294967296) then
 some (((cvtI .u8 t0) :: ([] : DE)) ++ r516)
 else none
 else
 some ((cvtI .u8 t0) :: ([] : DE))
 else
 bif (decide (r510 < 2)) then
 bif (t0_2 != 0) then
 some ([] : DE)
 else
 bif (decide (r510 > 0)) then
 (qcb n (cvtI .u64 t0_1)).bind fun r517 =>
 bif (Nat.ble (List.length (((cvtI .u8 t0) :: ([] : DE)) ++ r517)) 4294967296) then
 bif (decide (r510 > 1)) then
 (qcb n (cvtI .u64 t0_2)).bind fun r518 =>
 bif (Nat.ble (List.length ((((cvtI .u8 t0) :: ([] : DE)) ++ r517) ++ r518)) 4294967296) then
 some ((((cvtI .u8 t0) :: ([] : DE)) ++ r517) ++ r518)
 else none
 else
 some (((cvtI .u8 t0) :: ([] : DE)) ++ r517)
 else none
 else
 bif (decide (r510 > 1)) then
 (qcb n (cvtI .u64 t0_2)).bind fun r519 =>
 bif (Nat.ble (List.length (((cvtI .u8 t0) :: ([] : DE)) ++ r519)) 4294967296) then
 some (((cvtI .u8 t0) :: ([] : DE)) ++ r519)
 else none
 else
 some ((cvtI .u8 t0) :: ([] : DE))
 else
 bif (decide (r510 > 0)) then
 (qcb n (cvtI .u64 t0_1)).bind fun r520 =>
 bif (Nat.ble (List.length (((cvtI .u8 t0) :: ([] : DE)) ++ r520)) 4294967296) then
 bif (decide (r510 > 1)) then
 (qcb n (cvtI .u64 t0_2)).bind fun r521 =>
 bif (Nat.ble (List.length ((((cvtI .u8 t0) :: ([] : DE)) ++ r520) ++ r521)) 4294967296) then
 some ((((cvtI .u8 t0) :: ([] : DE)) ++ r520) ++ r521)
 else none
 else
 some (((cvtI .u8 t0) :: ([] : DE)) ++ r520)
 else none
 else
 bif (decide (r510 > 1)) then
 (qcb n (cvtI .u64 t0_2)).bind fun r522 =>
 bif (Nat.ble (List.length (((cvtI .u8 t0) :: ([] : DE)) ++ r522)) 4294967296) then
 some (((cvtI .u8 t0) :: ([] : DE)) ++ r522)
 else none
 else
 some ((cvtI .u8 t0) :: ([] : DE))
def qao_B4 (n : Nat) (t4 : Int) (t5 : Bool) (t11 : Int) (t17 : Int) (m0 : DH) (m0_1 : DI) (m0_2 : DJ) (m0_3 : DC) (m0_4 : DD) (m1 : DC) (m2 : DC) (m3 : DA) (m3_1 : Int) (m3_2 : Int) (m3_3 : DA) (m3_4 : DB) : Option (((Int × Bool × Int × Int) × (DH × DI × DJ × DC × DD) × DC × DC × DA × Int × Int × DA × DB) ⊕ (((DC × Bool) × (DH × DI × DJ × DC × DD) × DC × DC × DA × Int × Int × DA × DB) ⊕ ((Int × Bool × Int) × (DH × DI × DJ × DC × DD) × DC × DC × DA × Int × Int × DA × DB))) :=
 bif (decide (t17 < (lenI m3_4))) then
 (getI m3_4 t17).bind fun x523 =>
 (qas n x523.1 x523.2.1 x523.2.2).bind fun r524 =>
 bif ((lenI r524) == 0) then
 some (Sum.inr (Sum.inl ((([] : DE), false), ((m0, (m0_1, (m0_2, (m0_3, m0_4)))), (m1, (m2, (m3, (m3_1, (m3_2, (m3_3, m3_4))))))))))
 else
 bif (Nat.ble (List.length (m2 ++ r524)) 4294967296) then
 some (Sum.inl ((t4, (t5, (t11, (addI .i64 t17 1)))), ((m0, (m0_1, (m0_2, (m0_3, m0_4)))), (m1, ((m2 ++ r524), (m3, (m3_1, (m3_2, (m3_3, m3_4)))))))))
 else none
 else
 some (Sum.inr (Sum.inr ((t4, (t5, t11)), ((m0, (m0_1, (m0_2, (m0_3, m0_4)))), (m1, (m2, (m3, (m3_1, (m3_2, (m3_3, m3_4))))))))))
def qao_W4 (n : Nat) (s : (Int × Bool × Int × Int) × (DH × DI × DJ × DC × DD) × DC × DC × DA × Int × Int × DA × DB) : Option (((DC × Bool) × (DH × DI × DJ × DC × DD) × DC × DC × DA × Int × Int × DA × DB) ⊕ ((Int × Bool × Int) × (DH × DI × DJ × DC × DD) × DC × DC × DA × Int × Int × DA × DB)) := loopS (fun s => qao_B4 n s.1.1 s.1.2.1 s.1.2.2.1 s.1.2.2.2 s.2.1.1 s.2.1.2.1 s.2.1.2.2.1 s.2.1.2.2.2.1 s.2.1.2.2.2.2 s.2.2.1 s.2.2.2.1 s.2.2.2.2.1 s.2.2.2.2.2.1 s.2.2.2.2.2.2.1 s.2.2.2.2.2.2.2.1 s.2.2.2.2.2.2.2.2) n s
def qao_B2 (n : Nat) (t4 : Int) (t5 : Bool) (t11 : Int) (m0 : DH) (m0_1 : DI) (m0_2 : DJ) (m0_3 : DC) (m0_4 : DD) (m1 : DC) (m2 : DC) : Option (((Int × Bool × Int) × (DH × DI × DJ × DC × DD) × DC × DC) ⊕ (((DC × Bool) × (DH × DI × DJ × DC × DD) × DC × DC × DA × Int × Int × DA × DB) ⊕ ((Int × Bool) × (DH × DI × DJ × DC × DD) × DC × DC))) :=
 bif (decide (t11 < (lenI m0_1))) then
 (getI m0_1 t11).bind fun x525 =>
 (qai n x525.1 t4 4).bind fun r526 =>
 (qai n x525.2.2.2.1 t4 (subI .i64 8 (lenI x525.1))).bind fun r527 =>
 bif t5 then
 bif r526.2 then
 bif r527.2 then
 (qbl n x525.2.1 x525.2.2.1 t4).bind fun r528 =>
 bif r528 then
 bif (decide ((lenI x525.2.2.2.2) ≥ 1)) then
 bif (!(decide ((lenI x525.2.2.2.2) ≤ 64))) then
 some (Sum.inr (Sum.inl ((([] : DE), false), ((m0, (m0_1, (m0_2, (m0_3, m0_4)))), (m1, (m2, (x525.1, (x525.2.1, (x525.2.2.1, (x525.2.2.2.1, x525.2.2.2.2))))))))))
 else
 bif (Nat.ble (List.length (m2 ++ r526.1)) 4294967296) then
 (qbk n x525.2.1 x525.2.2.1).bind fun r529 =>
 bif (Nat.ble (List.length ((m2 ++ r526.1) ++ r529)) 4294967296) then
 bif (Nat.ble (List.length (((m2 ++ r526.1) ++ r529) ++ r527.1)) 4294967296) then
 (qcb n (cvtI .u64 (lenI x525.2.2.2.2))).bind fun r530 =>
 bif (Nat.ble (List.length ((((m2 ++ r526.1) ++ r529) ++ r527.1) ++ r530)) 4294967296) then
 (qao_W4 n ((t4, ((decide ((lenI x525.2.2.2.2) ≤ 64)), (t11, 0))), ((m0, (m0_1, (m0_2, (m0_3, m0_4)))), (m1, (((((m2 ++ r526.1) ++ r529) ++ r527.1) ++ r530), (x525.1, (x525.2.1, (x525.2.2.1, (x525.2.2.2.1, x525.2.2.2.2))))))))).bind fun r531 =>
 Sum.rec (fun u532 =>
 some (Sum.inr (Sum.inl ((u532.1.1, u532.1.2), ((u532.2.1.1, (u532.2.1.2.1, (u532.2.1.2.2.1, (u532.2.1.2.2.2.1, u532.2.1.2.2.2.2)))), (u532.2.2.1, (u532.2.2.2.1, (u532.2.2.2.2.1, (u532.2.2.2.2.2.1, (u532.2.2.2.2.2.2.1, (u532.2.2.2.2.2.2.2.1, u532.2.2.2.2.2.2.2.2))))))))))) (fun v533 =>
 some (Sum.inl ((v533.1.1, (v533.1.2.1, (addI .i64 v533.1.2.2 1))), ((v533.2.1.1, (v533.2.1.2.1, (v533.2.1.2.2.1, (v533.2.1.2.2.2.1, v533.2.1.2.2.2.2)))), (v533.2.2.1, v533.2.2.2.1))))) r531
 else none
 else none
 else none
 else none
 else
 some (Sum.inr (Sum.inl ((([] : DE), false), ((m0, (m0_1, (m0_2, (m0_3, m0_4)))), (m1, (m2, (x525.1, (x525.2.1, (x525.2.2.1, (x525.2.2.2.1, x525.2.2.2.2))))))))))
 else
 some (Sum.inr (Sum.inl ((([] : DE), false), ((m0, (m0_1, (m0_2, (m0_3, m0_4)))), (m1, (m2, (x525.1, (x525.2.1, (x525.2.2.1, (x525.2.2.2.1, x525.2.2.2.2))))))))))
 else
 some (Sum.inr (Sum.inl ((([] : DE), false), ((m0, (m0_1, (m0_2, (m0_3, m0_4)))), (m1, (m2, (x525.1, (x525.2.1, (x525.2.2.1, (x525.2.2.2.1, x525.2.2.2.2))))))))))
 else
 some (Sum.inr (Sum.inl ((([] : DE), false), ((m0, (m0_1, (m0_2, (m0_3, m0_4)))), (m1, (m2, (x525.1, (x525.2.1, (x525.2.2.1, (x525.2.2.2.1, x525.2.2.2.2))))))))))
 else
 some (Sum.inr (Sum.inl ((([] : DE), false), ((m0, (m0_1, (m0_2, (m0_3, m0_4)))), (m1, (m2, (x525.1, (x525.2.1, (x525.2.2.1, (x525.2.2.2.1, x525.2.2.2.2))))))))))
 else
 some (Sum.inr (Sum.inr ((t4, t5), ((m0, (m0_1, (m0_2, (m0_3, m0_4)))), (m1, m2)))))
def qao_W2 (n : Nat) (s : (Int × Bool × Int) × (DH × DI × DJ × DC × DD) × DC × DC) : Option (((DC × Bool) × (DH × DI × DJ × DC × DD) × DC × DC × DA × Int × Int × DA × DB) ⊕ ((Int × Bool) × (DH × DI × DJ × DC × DD) × DC × DC)) := loopS (fun s => qao_B2 n s.1.1 s.1.2.1 s.1.2.2 s.2.1.1 s.2.1.2.1 s.2.1.2.2.1 s.2.1.2.2.2.1 s.2.1.2.2.2.2 s.2.2.1 s.2.2.2) n s
def qao_B6 (n : Nat) (t4 : Int) (t5 : Bool) (t20 : Int) (m0 : DH) (m0_1 : DI) (m0_2 : DJ) (m0_3 : DC) (m0_4 : DD) (m1 : DC) (m2 : DC) (m3 : DC) : Option (((Int × Bool × Int) × (DH × DI × DJ × DC × DD) × DC × DC × DC) ⊕ (Bool × (DH × DI × DJ × DC × DD) × DC × DC × DC)) :=
 bif (decide (t20 < (lenI m0_2))) then
 (getI m0_2 t20).bind fun x541 =>
 (qai n x541.1 t4 4).bind fun r542 =>
 bif t5 then
 bif r542.2 then
 (getI m0_2 t20).bind fun x543 =>
 (qbl n x543.2.1 x543.2.2 t4).bind fun r544 =>
 bif (Nat.ble (List.length (m3 ++ r542.1)) 4294967296) then
 (getI m0_2 t20).bind fun x545 =>
 (qbk n x545.2.1 x545.2.2).bind fun r546 =>
 bif (Nat.ble (List.length ((m3 ++ r542.1) ++ r546)) 4294967296) then
 some (Sum.inl ((t4, (r544, (addI .i64 t20 1))), ((m0, (m0_1, (m0_2, (m0_3, m0_4)))), (m1, (m2, ((m3 ++ r542.1) ++ r546))))))
 else none
 else none
 else
 bif (Nat.ble (List.length (m3 ++ r542.1)) 4294967296) then
 (getI m0_2 t20).bind fun x547 =>
 (qbk n x547.2.1 x547.2.2).bind fun r548 =>
 bif (Nat.ble (List.length ((m3 ++ r542.1) ++ r548)) 4294967296) then
 some (Sum.inl ((t4, (false, (addI .i64 t20 1))), ((m0, (m0_1, (m0_2, (m0_3, m0_4)))), (m1, (m2, ((m3 ++ r542.1) ++ r548))))))
 else none
 else none
 else
 bif (Nat.ble (List.length (m3 ++ r542.1)) 4294967296) then
 (getI m0_2 t20).bind fun x549 =>
 (qbk n x549.2.1 x549.2.2).bind fun r550 =>
 bif (Nat.ble (List.length ((m3 ++ r542.1) ++ r550)) 4294967296) then
 some (Sum.inl ((t4, (false, (addI .i64 t20 1))), ((m0, (m0_1, (m0_2, (m0_3, m0_4)))), (m1, (m2, ((m3 ++ r542.1) ++ r550))))))
 else none
 else none
 else
 some (Sum.inr (t5, ((m0, (m0_1, (m0_2, (m0_3, m0_4)))), (m1, (m2, m3)))))
def qao_W6 (n : Nat) (s : (Int × Bool × Int) × (DH × DI × DJ × DC × DD) × DC × DC × DC) : Option (Bool × (DH × DI × DJ × DC × DD) × DC × DC × DC) := loopS (fun s => qao_B6 n s.1.1 s.1.2.1 s.1.2.2 s.2.1.1 s.2.1.2.1 s.2.1.2.2.1 s.2.1.2.2.2.1 s.2.1.2.2.2.2 s.2.2.1 s.2.2.2.1 s.2.2.2.2) n s
def qbb_B0 (n : Nat) (v_0 : Int) (n_1 : Int) (k_6 : Int) (m0 : DC) : Option (((Int × Int × Int) × DC) ⊕ DC) :=
 bif (decide (k_6 < n_1)) then
 bif (decide (k_6 < 8)) then
 bif (Nat.ble (List.length (m0 ++ ((cvtI .u8 (remI v_0 256)) :: ([] : DE)))) 4294967296) then
 some (Sum.inl (((quoI .u64 v_0 256), (n_1, (addI .i64 k_6 1))), (m0 ++ ((cvtI .u8 (remI v_0 256)) :: ([] : DE)))))
 else none
 else
 some (Sum.inr m0)
 else
 some (Sum.inr m0)
def qbb_W0 (n : Nat) (s : (Int × Int × Int) × DC) : Option DC := loopS (fun s => qbb_B0 n s.1.1 s.1.2.1 s.1.2.2 s.2) n s
def qbb (n : Nat) (v_0 : Int) (n_1 : Int) : Option DC :=
 (qbb_W0 n ((v_0, (n_1, 0)), ([] : DE))).bind fun r561 =>
 some r561
def qao_B8 (n : Nat) (t5 : Bool) (t24 : Int) (m0 : DH) (m0_1 : DI) (m0_2 : DJ) (m0_3 : DC) (m0_4 : DD) (m1 : DC) (m2 : DC) (m3 : DC) (m4 : DC) : Option (((Bool × Int) × (DH × DI × DJ × DC × DD) × DC × DC × DC × DC) ⊕ (Bool × (DH × DI × DJ × DC × DD) × DC × DC × DC × DC)) :=
 bif (decide (t24 < (lenI m0_3))) then
 (getI m0_3 t24).bind fun x562 =>
 (qbb n x562 8).bind fun r563 =>
 bif (Nat.ble (List.length (m4 ++ r563)) 4294967296) then
 some (Sum.inl ((t5, (addI .i64 t24 1)), ((m0, (m0_1, (m0_2, (m0_3, m0_4)))), (m1, (m2, (m3, (m4 ++ r563)))))))
 else none
 else
 some (Sum.inr (t5, ((m0, (m0_1, (m0_2, (m0_3, m0_4)))), (m1, (m2, (m3, m4))))))
def qao_W8 (n : Nat) (s : (Bool × Int) × (DH × DI × DJ × DC × DD) × DC × DC × DC × DC) : Option (Bool × (DH × DI × DJ × DC × DD) × DC × DC × DC × DC) := loopS (fun s => qao_B8 n s.1.1 s.1.2 s.2.1.1 s.2.1.2.1 s.2.1.2.2.1 s.2.1.2.2.2.1 s.2.1.2.2.2.2 s.2.2.1 s.2.2.2.1 s.2.2.2.2.1 s.2.2.2.2.2) n s
def qao_B10 (n : Nat) (t5 : Bool) (t26 : Int) (m0 : DH) (m0_1 : DI) (m0_2 : DJ) (m0_3 : DC) (m0_4 : DD) (m1 : DC) (m2 : DC) (m3 : DC) (m4 : DC) (m5 : DC) : Option (((Bool × Int) × (DH × DI × DJ × DC × DD) × DC × DC × DC × DC × DC) ⊕ (Bool × (DH × DI × DJ × DC × DD) × DC × DC × DC × DC × DC)) :=
 bif (decide (t26 < (lenI m0_4))) then
 bif t5 then
 (getI m0_4 t26).bind fun x575 =>
 (getI m0_4 t26).bind fun x576 =>
 (qcb n (cvtI .u64 (lenS x576))).bind fun r577 =>
 bif (Nat.ble (List.length (m5 ++ r577)) 4294967296) then
 (getI m0_4 t26).bind fun x578 =>
 bif (Nat.ble (List.length ((m5 ++ r577) ++ (bytesInts x578))) 4294967296) then
 some (Sum.inl (((decide ((lenS x575) ≤ 32)), (addI .i64 t26 1)), ((m0, (m0_1, (m0_2, (m0_3, m0_4)))), (m1, (m2, (m3, (m4, ((m5 ++ r577) ++ (bytesInts x578)))))))))
 else none
 else none
 else
 (getI m0_4 t26).bind fun x579 =>
 (qcb n (cvtI .u64 (lenS x579))).bind fun r580 =>
 bif (Nat.ble (List.length (m5 ++ r580)) 4294967296) then
 (getI m0_4 t26).bind fun x581 =>
 bif (Nat.ble (List.length ((m5 ++ r580) ++ (bytesInts x581))) 4294967296) then
 some (Sum.inl ((false, (addI .i64 t26 1)), ((m0, (m0_1, (m0_2, (m0_3, m0_4)))), (m1, (m2, (m3, (m4, ((m5 ++ r580) ++ (bytesInts x581)))))))))
 else none
 else none
 else
 some (Sum.inr (t5, ((m0, (m0_1, (m0_2, (m0_3, m0_4)))), (m1, (m2, (m3, (m4, m5)))))))
def qao_W10 (n : Nat) (s : (Bool × Int) × (DH × DI × DJ × DC × DD) × DC × DC × DC × DC × DC) : Option (Bool × (DH × DI × DJ × DC × DD) × DC × DC × DC × DC × DC) := loopS (fun s => qao_B10 n s.1.1 s.1.2 s.2.1.1 s.2.1.2.1 s.2.1.2.2.1 s.2.1.2.2.2.1 s.2.1.2.2.2.2 s.2.2.1 s.2.2.2.1 s.2.2.2.2.1 s.2.2.2.2.2.1 s.2.2.2.2.2.2) n s
def qbh_B0 (n : Nat) (l_0 : DK) (i_4 : Int) (m0 : DC) : Option (((DK × Int) × DC) ⊕ DC) :=
 bif (decide (i_4 < (lenI l_0))) then
 (getI l_0 i_4).bind fun x595 =>
 (qcb n (cvtI .u64 (lenI x595))).bind fun r596 =>
 bif (Nat.ble (List.length (m0 ++ r596)) 4294967296) then
 (getI l_0 i_4).bind fun x597 =>
 bif (Nat.ble (List.length ((m0 ++ r596) ++ x597)) 4294967296) then
 some (Sum.inl ((l_0, (addI .i64 i_4 1)), ((m0 ++ r596) ++ x597)))
 else none
 else none
 else
 some (Sum.inr m0)
def qbh_W0 (n : Nat) (s : (DK × Int) × DC) : Option DC := loopS (fun s => qbh_B0 n s.1.1 s.1.2 s.2) n s
def qbh (n : Nat) (l_0 : DK) : Option DC :=
 (qcb n (cvtI .u64 (lenI l_0))).bind fun r598 =>
 (qbh_W0 n ((l_0, 0), r598)).bind fun r599 =>
 some r599
def qao (n : Nat) (t0 : DH) (t0_1 : DI) (t0_2 : DJ) (t0_3 : DC) (t0_4 : DD) : Option (DC × Bool) :=
 bif (decide ((lenI t0) > 8)) then
 some (([] : DE), false)
 else
 bif (decide ((lenI t0_1) < 1)) then
 some (([] : DE), false)
 else
 bif (decide ((lenI t0_1) > 8)) then
 some (([] : DE), false)
 else
 bif (decide ((lenI t0_2) > 8)) then
 some (([] : DE), false)
 else
 bif (decide ((lenI t0_3) > 16)) then
 some (([] : DE), false)
 else
 bif (decide ((lenI t0_4) > 16)) then
 some (([] : DE), false)
 else
 (qcb n (cvtI .u64 (lenI t0))).bind fun r600 =>
 (qao_W0 n (((lenI t0), (true, 0)), ((t0, (t0_1, (t0_2, (t0_3, t0_4)))), r600))).bind fun r601 =>
 (qcb n (cvtI .u64 (lenI r601.2.1.2.1))).bind fun r602 =>
 (qao_W2 n ((r601.1.1, (r601.1.2, 0)), ((r601.2.1.1, (r601.2.1.2.1, (r601.2.1.2.2.1, (r601.2.1.2.2.2.1, r601.2.1.2.2.2.2)))), (r601.2.2, r602)))).bind fun r603 =>
 Sum.rec (fun u604 =>
 some (u604.1.1, u604.1.2)) (fun v605 =>
 (qcb n (cvtI .u64 (lenI v605.2.1.2.2.1))).bind fun r606 =>
 (qao_W6 n ((v605.1.1, (v605.1.2, 0)), ((v605.2.1.1, (v605.2.1.2.1, (v605.2.1.2.2.1, (v605.2.1.2.2.2.1, v605.2.1.2.2.2.2)))), (v605.2.2.1, (v605.2.2.2, r606))))).bind fun r607 =>
 (qcb n (cvtI .u64 (lenI r607.2.1.2.2.2.1))).bind fun r608 =>
 (qao_W8 n ((r607.1, 0), ((r607.2.1.1, (r607.2.1.2.1, (r607.2.1.2.2.1, (r607.2.1.2.2.2.1, r607.2.1.2.2.2.2)))), (r607.2.2.1, (r607.2.2.2.1, (r607.2.2.2.2, r608)))))).bind fun r609 =>
 (qcb n (cvtI .u64 (lenI r609.2.1.2.2.2.2))).bind fun r610 =>
 (qao_W10 n ((r609.1, 0), ((r609.2.1.1, (r609.2.1.2.1, (r609.2.1.2.2.1, (r609.2.1.2.2.2.1, r609.2.1.2.2.2.2)))), (r609.2.2.1, (r609.2.2.2.1, (r609.2.2.2.2.1, (r609.2.2.2.2.2, r610))))))).bind fun r611 =>
 (qbh n (r611.2.2.1 :: (r611.2.2.2.1 :: (r611.2.2.2.2.1 :: (r611.2.2.2.2.2.1 :: (r611.2.2.2.2.2.2 :: ([] : DK))))))).bind fun r612 =>
 some (r612, r611.1)) r603
def qbg (n : Nat) (t0 : DH) (t0_1 : DI) (t0_2 : DJ) (t0_3 : DC) (t0_4 : DD) (t1 : DA) (t1_1 : Int) (t1_2 : Int) (t1_3 : DA) (t1_4 : DB) (t2 : Int) (t2_1 : Int) (t2_2 : Int) : Option (Bool) :=
 bif (t2 == 0) then
 some (decide (t2_1 < (lenI t0_3)))
 else
 bif (t2 == 1) then
 some (decide (t2_1 < (lenI t0_4)))
 else
 bif (t2 == 3) then
 some (decide (t2_1 < (addI .i64 (lenI t1) (lenI t1_3))))
 else
 bif (t2 == 4) then
 some (decide (t2_1 < (addI .i64 (lenI t1) (lenI t1_3))))
 else
 bif (t2 == 23) then
 some (decide (t2_1 < (lenI t1_4)))
 else
 bif (t2 == 24) then
 some (decide (t2_1 < (lenI t1_4)))
 else
 bif (t2 == 25) then
 some (decide (t2_1 < (lenI t0_1)))
 else
 bif (t2 == 27) then
 some (decide (t2_1 < (lenI t0_2)))
 else
 bif (t2 == 28) then
 some (decide (t2_1 < (lenI t0)))
 else
 bif (t2 == 29) then
 bif (decide (t2_1 < (lenI t0))) then
 (getI t0 t2_1).bind fun x616 =>
 some (decide (t2_2 < (lenI x616)))
 else
 some false
 else
 bif (t2 == 30) then
 bif (decide (t2_1 < (lenI t0))) then
 (getI t0 t2_1).bind fun x617 =>
 some (decide (t2_2 < (lenI x617)))
 else
 some false
 else
 some true
def qba_B2 (n : Nat) (t5 : Int) (t7 : Int) (m0 : DH) (m0_1 : DI) (m0_2 : DJ) (m0_3 : DC) (m0_4 : DD) (m1 : DA) (m1_1 : Int) (m1_2 : Int) (m1_3 : DA) (m1_4 : DB) : Option (((Int × Int) × (DH × DI × DJ × DC × DD) × DA × Int × Int × DA × DB) ⊕ ((Int × (DH × DI × DJ × DC × DD) × DA × Int × Int × DA × DB) ⊕ (Int × (DH × DI × DJ × DC × DD) × DA × Int × Int × DA × DB))) :=
 bif (decide (t7 < (lenI m1_4))) then
 (getI m1_4 t7).bind fun x618 =>
 (qbg n m0 m0_1 m0_2 m0_3 m0_4 m1 m1_1 m1_2 m1_3 m1_4 x618.1 x618.2.1 x618.2.2).bind fun r619 =>
 bif (!r619) then
 some (Sum.inr (Sum.inl (1, ((m0, (m0_1, (m0_2, (m0_3, m0_4)))), (m1, (m1_1, (m1_2, (m1_3, m1_4))))))))
 else
 some (Sum.inl ((t5, (addI .i64 t7 1)), ((m0, (m0_1, (m0_2, (m0_3, m0_4)))), (m1, (m1_1, (m1_2, (m1_3, m1_4)))))))
 else
 some (Sum.inr (Sum.inr (t5, ((m0, (m0_1, (m0_2, (m0_3, m0_4)))), (m1, (m1_1, (m1_2, (m1_3, m1_4))))))))
def qba_W2 (n : Nat) (s : (Int × Int) × (DH × DI × DJ × DC × DD) × DA × Int × Int × DA × DB) : Option ((Int × (DH × DI × DJ × DC × DD) × DA × Int × Int × DA × DB) ⊕ (Int × (DH × DI × DJ × DC × DD) × DA × Int × Int × DA × DB)) := loopS (fun s => qba_B2 n s.1.1 s.1.2 s.2.1.1 s.2.1.2.1 s.2.1.2.2.1 s.2.1.2.2.2.1 s.2.1.2.2.2.2 s.2.2.1 s.2.2.2.1 s.2.2.2.2.1 s.2.2.2.2.2.1 s.2.2.2.2.2.2) n s
def qba_B4 (n : Nat) (t5 : Int) (t8 : Int) (m0 : DH) (m0_1 : DI) (m0_2 : DJ) (m0_3 : DC) (m0_4 : DD) (m1 : DA) (m1_1 : Int) (m1_2 : Int) (m1_3 : DA) (m1_4 : DB) : Option (((Int × Int) × (DH × DI × DJ × DC × DD) × DA × Int × Int × DA × DB) ⊕ ((Int × (DH × DI × DJ × DC × DD) × DA × Int × Int × DA × DB) ⊕ (Int × (DH × DI × DJ × DC × DD) × DA × Int × Int × DA × DB))) :=
 bif (decide (t8 < (lenI m1_3))) then
 (getI m1_3 t8).bind fun x624 =>
 bif (x624.1 == 5) then
 some (Sum.inr (Sum.inl (1, ((m0, (m0_1, (m0_2, (m0_3, m0_4)))), (m1, (m1_1, (m1_2, (m1_3, m1_4))))))))
 else
 some (Sum.inl ((t5, (addI .i64 t8 1)), ((m0, (m0_1, (m0_2, (m0_3, m0_4)))), (m1, (m1_1, (m1_2, (m1_3, m1_4)))))))
 else
 some (Sum.inr (Sum.inr (t5, ((m0, (m0_1, (m0_2, (m0_3, m0_4)))), (m1, (m1_1, (m1_2, (m1_3, m1_4))))))))
def qba_W4 (n : Nat) (s : (Int × Int) × (DH × DI × DJ × DC × DD) × DA × Int × Int × DA × DB) : Option ((Int × (DH × DI × DJ × DC × DD) × DA × Int × Int × DA × DB) ⊕ (Int × (DH × DI × DJ × DC × DD) × DA × Int × Int × DA × DB)) := loopS (fun s => qba_B4 n s.1.1 s.1.2 s.2.1.1 s.2.1.2.1 s.2.1.2.2.1 s.2.1.2.2.2.1 s.2.1.2.2.2.2 s.2.2.1 s.2.2.2.1 s.2.2.2.2.1 s.2.2.2.2.2.1 s.2.2.2.2.2.2) n s
def qba_B0 (n : Nat) (t5 : Int) (m0 : DH) (m0_1 : DI) (m0_2 : DJ) (m0_3 : DC) (m0_4 : DD) : Option ((Int × DH × DI × DJ × DC × DD) ⊕ ((Int × (DH × DI × DJ × DC × DD) × DA × Int × Int × DA × DB) ⊕ (DH × DI × DJ × DC × DD))) :=
 bif (decide (t5 < (lenI m0_1))) then
 (getI m0_1 t5).bind fun x625 =>
 (qba_W2 n ((t5, 0), ((m0, (m0_1, (m0_2, (m0_3, m0_4)))), (x625.1, (x625.2.1, (x625.2.2.1, (x625.2.2.2.1, x625.2.2.2.2))))))).bind fun r626 =>
 Sum.rec (fun u627 =>
 some (Sum.inr (Sum.inl (u627.1, ((u627.2.1.1, (u627.2.1.2.1, (u627.2.1.2.2.1, (u627.2.1.2.2.2.1, u627.2.1.2.2.2.2)))), (u627.2.2.1, (u627.2.2.2.1, (u627.2.2.2.2.1, (u627.2.2.2.2.2.1, u627.2.2.2.2.2.2))))))))) (fun v628 =>
 (qba_W4 n ((v628.1, 0), ((v628.2.1.1, (v628.2.1.2.1, (v628.2.1.2.2.1, (v628.2.1.2.2.2.1, v628.2.1.2.2.2.2)))), (v628.2.2.1, (v628.2.2.2.1, (v628.2.2.2.2.1, (v628.2.2.2.2.2.1, v628.2.2.2.2.2.2))))))).bind fun r629 =>
 Sum.rec (fun u630 =>
 some (Sum.inr (Sum.inl (u630.1, ((u630.2.1.1, (u630.2.1.2.1, (u630.2.1.2.2.1, (u630.2.1.2.2.2.1, u630.2.1.2.2.2.2)))), (u630.2.2.1, (u630.2.2.2.1, (u630.2.2.2.2.1, (u630.2.2.2.2.2.1, u630.2.2.2.2.2.2))))))))) (fun v631 =>
 some (Sum.inl ((addI .i64 v631.1 1), (v631.2.1.1, (v631.2.1.2.1, (v631.2.1.2.2.1, (v631.2.1.2.2.2.1, v631.2.1.2.2.2.2))))))) r629) r626
 else
 some (Sum.inr (Sum.inr (m0, (m0_1, (m0_2, (m0_3, m0_4))))))
def qba_W0 (n : Nat) (s : Int × DH × DI × DJ × DC × DD) : Option ((Int × (DH × DI × DJ × DC × DD) × DA × Int × Int × DA × DB) ⊕ (DH × DI × DJ × DC × DD)) := loopS (fun s => qba_B0 n s.1 s.2.1 s.2.2.1 s.2.2.2.1 s.2.2.2.2.1 s.2.2.2.2.2) n s
def qbi (n : Nat) (t_0 : Int) (t_0_1 : Int) : Option (Bool) :=
 bif (t_0 == 1) then
 some true
 else
 some (t_0 == 5)
def qba_B8 (n : Nat) (t9 : Int) (t10 : Bool) (t11 : Int) (m0 : DH) (m0_1 : DI) (m0_2 : DJ) (m0_3 : DC) (m0_4 : DD) : Option (((Int × Bool × Int) × DH × DI × DJ × DC × DD) ⊕ ((Int × Bool) × DH × DI × DJ × DC × DD)) :=
 (getI m0_2 t9).bind fun x639 =>
 bif (decide (t11 < (lenI x639.1))) then
 bif t10 then
 (getI m0_2 t9).bind fun x640 =>
 (getI x640.1 t11).bind fun x641 =>
 (qbi n x641.1 x641.2).bind fun r642 =>
 some (Sum.inl ((t9, (r642, (addI .i64 t11 1))), (m0, (m0_1, (m0_2, (m0_3, m0_4))))))
 else
 some (Sum.inl ((t9, (false, (addI .i64 t11 1))), (m0, (m0_1, (m0_2, (m0_3, m0_4))))))
 else
 some (Sum.inr ((t9, t10), (m0, (m0_1, (m0_2, (m0_3, m0_4))))))
def qba_W8 (n : Nat) (s : (Int × Bool × Int) × DH × DI × DJ × DC × DD) : Option ((Int × Bool) × DH × DI × DJ × DC × DD) := loopS (fun s => qba_B8 n s.1.1 s.1.2.1 s.1.2.2 s.2.1 s.2.2.1 s.2.2.2.1 s.2.2.2.2.1 s.2.2.2.2.2) n s
def qba_B6 (n : Nat) (t9 : Int) (m0 : DH) (m0_1 : DI) (m0_2 : DJ) (m0_3 : DC) (m0_4 : DD) : Option ((Int × DH × DI × DJ × DC × DD) ⊕ ((Int × DH × DI × DJ × DC × DD) ⊕ (DH × DI × DJ × DC × DD))) :=
 bif (decide (t9 < (lenI m0_2))) then
 (getI m0_2 t9).bind fun x643 =>
 (qbi n x643.2.1 x643.2.2).bind fun r644 =>
 (qba_W8 n ((t9, (r644, 0)), (m0, (m0_1, (m0_2, (m0_3, m0_4)))))).bind fun r645 =>
 bif (!r645.1.2) then
 some (Sum.inr (Sum.inl (1, (r645.2.1, (r645.2.2.1, (r645.2.2.2.1, (r645.2.2.2.2.1, r645.2.2.2.2.2)))))))
 else
 some (Sum.inl ((addI .i64 r645.1.1 1), (r645.2.1, (r645.2.2.1, (r645.2.2.2.1, (r645.2.2.2.2.1, r645.2.2.2.2.2))))))
 else
 some (Sum.inr (Sum.inr (m0, (m0_1, (m0_2, (m0_3, m0_4))))))
def qba_W6 (n : Nat) (s : Int × DH × DI × DJ × DC × DD) : Option ((Int × DH × DI × DJ × DC × DD) ⊕ (DH × DI × DJ × DC × DD)) := loopS (fun s => qba_B6 n s.1 s.2.1 s.2.2.1 s.2.2.2.1 s.2.2.2.2.1 s.2.2.2.2.2) n s
def qba (n : Nat) (t0 : DH) (t0_1 : DI) (t0_2 : DJ) (t0_3 : DC) (t0_4 : DD) : Option (Int) :=
 (qao n t0 t0_1 t0_2 t0_3 t0_4).bind fun r646 =>
 bif (!r646.2) then
 some 2
 else
 (qba_W0 n (0, (t0, (t0_1, (t0_2, (t0_3, t0_4)))))).bind fun r647 =>
 Sum.rec (fun u648 =>
 some u648.1) (fun v649 =>
 (qba_W6 n (0, (v649.1, (v649.2.1, (v649.2.2.1, (v649.2.2.2.1, v649.2.2.2.2)))))).bind fun r650 =>
 Sum.rec (fun u651 =>
 some u651.1) (fun v652 =>
 some 0) r650) r647
def qbc (n : Nat) (f_0 : DA) (f_0_1 : Int) (f_0_2 : Int) (f_0_3 : DA) (f_0_4 : DB) (n_1 : Int) : Option (Int × Int) :=
 bif (Nat.ble (List.length f_0) 4294967296) then
 bif (Nat.ble (List.length (f_0 ++ f_0_3)) 4294967296) then
 bif (decide (n_1 < 0)) then
 some (8, 0)
 else
 bif (decide (n_1 ≥ (lenI (f_0 ++ f_0_3)))) then
 some (8, 0)
 else
 bif ((decide (0 ≤ n_1)) && (decide (n_1 < (((List.length (f_0 ++ f_0_3)) : Nat) : Int)))) then
 ((f_0 ++ f_0_3)[(Int.toNat n_1)]?).bind fun x667 =>
 some (x667.1, x667.2)
 else none
 else none
 else none
def qbo (n : Nat) (t0 : DH) (t0_1 : DI) (t0_2 : DJ) (t0_3 : DC) (t0_4 : DD) (t1 : DA) (t1_1 : Int) (t1_2 : Int) (t1_3 : DA) (t1_4 : DB) (t2 : Int) (t2_1 : Int) (t2_2 : Int) (t3 : DA) : Option (DA × DA × Bool) :=
 bif (t2 == 0) then
 some (([] : List ((Int) × Int)), (((1, 0) :: ([] : List ((Int) × Int))), true))
 else
 bif (t2 == 1) then
 some (([] : List ((Int) × Int)), (((2, 0) :: ([] : List ((Int) × Int))), true))
 else
 bif (t2 == 2) then
 some (([] : List ((Int) × Int)), (((6, 0) :: ([] : List ((Int) × Int))), true))
 else
 bif (t2 == 3) then
 (qbc n t1 t1_1 t1_2 t1_3 t1_4 t2_1).bind fun r668 =>
 some (([] : List ((Int) × Int)), (((r668.1, r668.2) :: ([] : List ((Int) × Int))), true))
 else
 bif (t2 == 4) then
 (qbc n t1 t1_1 t1_2 t1_3 t1_4 t2_1).bind fun r669 =>
 some (((r669.1, r669.2) :: ([] : List ((Int) × Int))), (([] : List ((Int) × Int)), true))
 else
 bif (t2 == 5) then
 some (((8, 0) :: ([] : List ((Int) × Int))), (([] : List ((Int) × Int)), true))
 else
 bif (t2 == 6) then
 bif (decide ((lenI t3) < 1)) then
 some (([] : List ((Int) × Int)), (([] : List ((Int) × Int)), false))
 else
 bif ((decide (0 ≤ (subI .i64 (lenI t3) 1))) && (decide ((subI .i64 (lenI t3) 1) ≤ (((List.length t3) : Nat) : Int)))) then
 (getI t3 (subI .i64 (lenI t3) 1)).bind fun x670 =>
 (getI t3 (subI .i64 (lenI t3) 1)).bind fun x671 =>
 some ((List.drop (Int.toNat (subI .i64 (lenI t3) 1)) (List.take (List.length t3) t3)), (((x670.1, x670.2) :: ((x671.1, x671.2) :: ([] : List ((Int) × Int)))), true))
 else none
 else
 bif (t2 == 7) then
 bif (decide ((lenI t3) < 2)) then
 some (([] : List ((Int) × Int)), (([] : List ((Int) × Int)), false))
 else
 bif ((decide (0 ≤ (subI .i64 (lenI t3) 2))) && (decide ((subI .i64 (lenI t3) 2) ≤ (((List.length t3) : Nat) : Int)))) then
 (getI t3 (subI .i64 (lenI t3) 1)).bind fun x672 =>
 (getI t3 (subI .i64 (lenI t3) 2)).bind fun x673 =>
 some ((List.drop (Int.toNat (subI .i64 (lenI t3) 2)) (List.take (List.length t3) t3)), (((x672.1, x672.2) :: ((x673.1, x673.2) :: ([] : List ((Int) × Int)))), true))
 else none
 else
 bif (t2 == 22) then
 some (((1, 0) :: ((1, 0) :: ([] : List ((Int) × Int)))), (((1, 0) :: ((1, 0) :: ([] : List ((Int) × Int)))), true))
 else
 bif (t2 == 23) then
 some (([] : List ((Int) × Int)), (([] : List ((Int) × Int)), true))
 else
 bif (t2 == 24) then
 some (((1, 0) :: ([] : List ((Int) × Int))), (([] : List ((Int) × Int)), true))
 else
 bif (t2 == 25) then
 (getI t0_1 t2_1).bind fun x674 =>
 (getI t0_1 t2_1).bind fun x675 =>
 some (x674.1, (((x675.2.1, x675.2.2.1) :: ([] : List ((Int) × Int))), true))
 else
 bif (t2 == 26) then
 some (((t1_1, t1_2) :: ([] : List ((Int) × Int))), (([] : List ((Int) × Int)), true))
 else
 bif (t2 == 27) then
 (getI t0_2 t2_1).bind fun x676 =>
 (getI t0_2 t2_1).bind fun x677 =>
 some (x676.1, (((x677.2.1, x677.2.2) :: ([] : List ((Int) × Int))), true))
 else
 bif (t2 == 28) then
 (getI t0 t2_1).bind fun x678 =>
 some (x678, (((4, t2_1) :: ([] : List ((Int) × Int))), true))
 else
 bif (t2 == 29) then
 (getI t0 t2_1).bind fun x679 =>
 (getI x679 t2_2).bind fun x680 =>
 some (((4, t2_1) :: ([] : List ((Int) × Int))), (((x680.1, x680.2) :: ([] : List ((Int) × Int))), true))
 else
 bif (t2 == 30) then
 (getI t0 t2_1).bind fun x681 =>
 (getI x681 t2_2).bind fun x682 =>
 some (((4, t2_1) :: ((x682.1, x682.2) :: ([] : List ((Int) × Int)))), (([] : List ((Int) × Int)), true))
 else
 bif (t2 == 31) then
 some (((1, 0) :: ([] : List ((Int) × Int))), (((3, 0) :: ([] : List ((Int) × Int))), true))
 else
 bif (t2 == 32) then
 some (((3, 0) :: ((1, 0) :: ([] : List ((Int) × Int)))), (((1, 0) :: ([] : List ((Int) × Int))), true))
 else
 bif (t2 == 33) then
 some (((3, 0) :: ((1, 0) :: ((1, 0) :: ([] : List ((Int) × Int))))), (([] : List ((Int) × Int)), true))
 else
 bif (t2 == 34) then
 some (((3, 0) :: ([] : List ((Int) × Int))), (((1, 0) :: ([] : List ((Int) × Int))), true))
 else
 bif (t2 == 35) then
 some (((1, 0) :: ([] : List ((Int) × Int))), (((2, 0) :: ([] : List ((Int) × Int))), true))
 else
 bif (t2 == 36) then
 some (((2, 0) :: ((1, 0) :: ([] : List ((Int) × Int)))), (((1, 0) :: ([] : List ((Int) × Int))), true))
 else
 bif (t2 == 37) then
 some (((2, 0) :: ((1, 0) :: ((1, 0) :: ([] : List ((Int) × Int))))), (([] : List ((Int) × Int)), true))
 else
 bif (t2 == 38) then
 some (((2, 0) :: ([] : List ((Int) × Int))), (((1, 0) :: ([] : List ((Int) × Int))), true))
 else
 bif (t2 == 39) then
 some (((7, 0) :: ([] : List ((Int) × Int))), (((1, 0) :: ([] : List ((Int) × Int))), true))
 else
 bif (t2 == 40) then
 some (((7, 0) :: ((7, 0) :: ([] : List ((Int) × Int)))), (((1, 0) :: ([] : List ((Int) × Int))), true))
 else
 bif (t2 == 41) then
 bif (decide ((lenI t3) < 1)) then
 some (([] : List ((Int) × Int)), (([] : List ((Int) × Int)), false))
 else
 (getI t3 (subI .i64 (lenI t3) 1)).bind fun x683 =>
 bif (x683.1 != 5) then
 some (([] : List ((Int) × Int)), (([] : List ((Int) × Int)), false))
 else
 bif ((decide (0 ≤ (subI .i64 (lenI t3) 1))) && (decide ((subI .i64 (lenI t3) 1) ≤ (((List.length t3) : Nat) : Int)))) then
 some ((List.drop (Int.toNat (subI .i64 (lenI t3) 1)) (List.take (List.length t3) t3)), (([] : List ((Int) × Int)), true))
 else none
 else
 some (((1, 0) :: ((1, 0) :: ([] : List ((Int) × Int)))), (((1, 0) :: ([] : List ((Int) × Int))), true))
def qca (n : Nat) (t_0 : Int) (t_0_1 : Int) : Option (Bool) :=
 bif (t_0 == 2) then
 some true
 else
 bif (t_0 == 3) then
 some true
 else
 bif (t_0 == 4) then
 some true
 else
 bif (t_0 == 6) then
 some true
 else
 some (t_0 == 7)
def qch (n : Nat) (a_0 : Int) (a_0_1 : Int) (b_1 : Int) (b_1_1 : Int) : Option (Bool) :=
 bif ((a_0 == b_1) && (a_0_1 == b_1_1)) then
 some true
 else
 bif (b_1 == 8) then
 some true
 else
 (qca n a_0 a_0_1).bind fun r689 =>
 bif r689 then
 (qca n b_1 b_1_1).bind fun r690 =>
 bif r690 then
 bif (a_0 == 6) then
 some true
 else
 some (b_1 == 7)
 else
 some false
 else
 some false
def qbp_B0 (n : Nat) (t2 : Int) (t3 : DA) (t13 : DA) (t14 : DA) (t16 : Int) (t17 : Int) (m0 : DA) (m0_1 : Int) (m0_2 : Int) (m0_3 : DA) (m0_4 : DB) (m1 : Int) (m1_1 : Int) (m1_2 : Int) : Option (((Int × DA × DA × DA × Int × Int) × (DA × Int × Int × DA × DB) × Int × Int × Int) ⊕ (((DA × DC × Int) × (DA × Int × Int × DA × DB) × Int × Int × Int) ⊕ ((Int × DA × DA × Int) × (DA × Int × Int × DA × DB) × Int × Int × Int))) :=
 bif (decide (t17 < (lenI t13))) then
 (getI t3 (addI .i64 t16 t17)).bind fun x691 =>
 (getI t13 t17).bind fun x692 =>
 (qch n x691.1 x691.2 x692.1 x692.2).bind fun r693 =>
 bif (!r693) then
 some (Sum.inr (Sum.inl ((([] : List ((Int) × Int)), (([] : DE), 4)), ((m0, (m0_1, (m0_2, (m0_3, m0_4)))), (m1, (m1_1, m1_2))))))
 else
 some (Sum.inl ((t2, (t3, (t13, (t14, (t16, (addI .i64 t17 1)))))), ((m0, (m0_1, (m0_2, (m0_3, m0_4)))), (m1, (m1_1, m1_2)))))
 else
 some (Sum.inr (Sum.inr ((t2, (t3, (t14, t16))), ((m0, (m0_1, (m0_2, (m0_3, m0_4)))), (m1, (m1_1, m1_2))))))
def qbp_W0 (n : Nat) (s : (Int × DA × DA × DA × Int × Int) × (DA × Int × Int × DA × DB) × Int × Int × Int) : Option (((DA × DC × Int) × (DA × Int × Int × DA × DB) × Int × Int × Int) ⊕ ((Int × DA × DA × Int) × (DA × Int × Int × DA × DB) × Int × Int × Int)) := loopS (fun s => qbp_B0 n s.1.1 s.1.2.1 s.1.2.2.1 s.1.2.2.2.1 s.1.2.2.2.2.1 s.1.2.2.2.2.2 s.2.1.1 s.2.1.2.1 s.2.1.2.2.1 s.2.1.2.2.2.1 s.2.1.2.2.2.2 s.2.2.1 s.2.2.2.1 s.2.2.2.2) n s
def qbp (n : Nat) (t0 : DH) (t0_1 : DI) (t0_2 : DJ) (t0_3 : DC) (t0_4 : DD) (t1 : Int) (t2 : Int) (t3 : DA) : Option (DA × DC × Int) :=
 (getI t0_1 t1).bind fun x694 =>
 (getI x694.2.2.2.2 t2).bind fun x695 =>
 (qbo n t0 t0_1 t0_2 t0_3 t0_4 x694.1 x694.2.1 x694.2.2.1 x694.2.2.2.1 x694.2.2.2.2 x695.1 x695.2.1 x695.2.2 t3).bind fun r696 =>
 bif (!r696.2.2) then
 some (([] : List ((Int) × Int)), (([] : DE), 4))
 else
 bif (decide ((subI .i64 (lenI t3) (lenI r696.1)) < 0)) then
 some (([] : List ((Int) × Int)), (([] : DE), 4))
 else
 bif (decide ((addI .i64 (subI .i64 (lenI t3) (lenI r696.1)) (lenI r696.2.1)) > 8)) then
 some (([] : List ((Int) × Int)), (([] : DE), 4))
 else
 (qbp_W0 n ((t2, (t3, (r696.1, (r696.2.1, ((subI .i64 (lenI t3) (lenI r696.1)), 0))))), ((x694.1, (x694.2.1, (x694.2.2.1, (x694.2.2.2.1, x694.2.2.2.2)))), (x695.1, (x695.2.1, x695.2.2))))).bind fun r697 =>
 Sum.rec (fun u698 =>
 some (u698.1.1, (u698.1.2.1, u698.1.2.2))) (fun v699 =>
 bif ((decide (0 ≤ v699.1.2.2.2)) && (decide (v699.1.2.2.2 ≤ (((List.length v699.1.2.1) : Nat) : Int)))) then
 bif (Nat.ble (List.length (List.take (Int.toNat v699.1.2.2.2) v699.1.2.1)) 4294967296) then
 bif (Nat.ble (List.length ((List.take (Int.toNat v699.1.2.2.2) v699.1.2.1) ++ v699.1.2.2.1)) 4294967296) then
 bif (v699.2.2.1 == 26) then
 some (((List.take (Int.toNat v699.1.2.2.2) v699.1.2.1) ++ v699.1.2.2.1), (([] : DE), 0))
 else
 bif (v699.2.2.1 == 23) then
 some (((List.take (Int.toNat v699.1.2.2.2) v699.1.2.1) ++ v699.1.2.2.1), ((v699.2.2.2.1 :: ([] : DE)), 0))
 else
 bif (decide ((addI .i64 v699.1.1 1) ≥ (lenI v699.2.1.2.2.2.2))) then
 some (([] : List ((Int) × Int)), (([] : DE), 1))
 else
 bif (v699.2.2.1 == 24) then
 some (((List.take (Int.toNat v699.1.2.2.2) v699.1.2.1) ++ v699.1.2.2.1), (((addI .i64 v699.1.1 1) :: (v699.2.2.2.1 :: ([] : DE))), 0))
 else
 some (((List.take (Int.toNat v699.1.2.2.2) v699.1.2.1) ++ v699.1.2.2.1), (((addI .i64 v699.1.1 1) :: ([] : DE)), 0))
 else none
 else none
 else none) r697
def law08FlowSteps_B0 (n : Nat) (t11 : DC) (t14 : DC) (t16 : Int) : Option ((DC × DC × Int) ⊕ ((Bool) ⊕ (Unit))) :=
 bif (decide (t16 < (lenI t14))) then
 (getI t11 t16).bind fun x714 =>
 (getI t14 t16).bind fun x715 =>
 bif (x714 != x715) then
 some (Sum.inr (Sum.inl false))
 else
 some (Sum.inl (t11, (t14, (addI .i64 t16 1))))
 else
 some (Sum.inr (Sum.inr ()))
def law08FlowSteps_W0 (n : Nat) (s : DC × DC × Int) : Option ((Bool) ⊕ (Unit)) := loopS (fun s => law08FlowSteps_B0 n s.1 s.2.1 s.2.2) n s
def law08FlowSteps (n : Nat) (t0 : DH) (t0_1 : DI) (t0_2 : DJ) (t0_3 : DC) (t0_4 : DD) (t1 : Int) (t2 : Int) (t3 : DA) : Option (Bool) :=
 (qaz n t0 t0_1 t0_2 t0_3 t0_4).bind fun r716 =>
 bif (!r716) then
 (qaf n).bind fun r717 =>
 some r717
 else
 bif (decide ((lenI t3) > 20)) then
 (qaf n).bind fun r718 =>
 some r718
 else
 bif (Nat.ble (List.length t3) 4294967296) then
 (qcd n t0 t0_1 t0_2 t0_3 t0_4 t1 t2 t3).bind fun r719 =>
 (qat n t3 t3).bind fun r720 =>
 bif (!r720) then
 some false
 else
 (qba n t0 t0_1 t0_2 t0_3 t0_4).bind fun r721 =>
 bif (r721 != 0) then
 (qaf n).bind fun r722 =>
 bif r722 then
 bif (r719.2.2 == 1) then
 some ((addI .i64 (lenI r719.1) (lenI r719.2.1)) == 0)
 else
 some false
 else
 some false
 else
 bif (decide (t1 < 0)) then
 (qaf n).bind fun r723 =>
 bif r723 then
 bif (r719.2.2 == 1) then
 some ((addI .i64 (lenI r719.1) (lenI r719.2.1)) == 0)
 else
 some false
 else
 some false
 else
 bif (decide (t1 ≥ (lenI t0_1))) then
 (qaf n).bind fun r724 =>
 bif r724 then
 bif (r719.2.2 == 1) then
 some ((addI .i64 (lenI r719.1) (lenI r719.2.1)) == 0)
 else
 some false
 else
 some false
 else
 bif (decide (t2 < 0)) then
 (qaf n).bind fun r725 =>
 bif r725 then
 bif (r719.2.2 == 1) then
 some ((addI .i64 (lenI r719.1) (lenI r719.2.1)) == 0)
 else
 some false
 else
 some false
 else
 (getI t0_1 t1).bind fun x726 =>
 bif (decide (t2 ≥ (lenI x726.2.2.2.2))) then
 (qaf n).bind fun r727 =>
 bif r727 then
 bif (r719.2.2 == 1) then
 some ((addI .i64 (lenI r719.1) (lenI r719.2.1)) == 0)
 else
 some false
 else
 some false
 else
 (qbp n t0 t0_1 t0_2 t0_3 t0_4 t1 t2 t3).bind fun r728 =>
 bif (r719.2.2 != r728.2.2) then
 some false
 else
 (qat n r719.1 r728.1).bind fun r729 =>
 bif (!r729) then
 some false
 else
 bif ((lenI r719.2.1) != (lenI r728.2.1)) then
 some false
 else
 (law08FlowSteps_W0 n (r719.2.1, (r728.2.1, 0))).bind fun r730 =>
 Sum.rec (fun u731 =>
 some u731) (fun v732 =>
 (qaf n).bind fun r733 =>
 some r733) r730
 else none
def qbe_B0 (n : Nat) (a_0 : DA) (b_1 : DA) (i_5 : Int) : Option ((DA × DA × Int) ⊕ ((Bool) ⊕ (Unit))) :=
 bif (decide (i_5 < (lenI a_0))) then
 (getI a_0 i_5).bind fun x749 =>
 (getI b_1 i_5).bind fun x750 =>
 (qch n x749.1 x749.2 x750.1 x750.2).bind fun r751 =>
 bif (!r751) then
 some (Sum.inr (Sum.inl false))
 else
 some (Sum.inl (a_0, (b_1, (addI .i64 i_5 1))))
 else
 some (Sum.inr (Sum.inr ()))
def qbe_W0 (n : Nat) (s : DA × DA × Int) : Option ((Bool) ⊕ (Unit)) := loopS (fun s => qbe_B0 n s.1 s.2.1 s.2.2) n s
def qbe (n : Nat) (a_0 : DA) (b_1 : DA) : Option (Bool) :=
 bif ((lenI a_0) != (lenI b_1)) then
 some false
 else
 (qbe_W0 n (a_0, (b_1, 0))).bind fun r752 =>
 Sum.rec (fun u753 =>
 some u753) (fun v754 =>
 some true) r752
def law08FlowBelow_B0 (n : Nat) (t1 : Int) (t2 : Int) (t3 : DA) (t4 : DA) (t11 : Int) (m0 : DH) (m0_1 : DI) (m0_2 : DJ) (m0_3 : DC) (m0_4 : DD) : Option (((Int × Int × DA × DA × Int) × DH × DI × DJ × DC × DD) ⊕ ((Bool × DH × DI × DJ × DC × DD) ⊕ ((Int × Int × DA × DA) × DH × DI × DJ × DC × DD))) :=
 bif (decide (t11 < (lenI t3))) then
 (getI t3 t11).bind fun x760 =>
 bif (x760.1 == 8) then
 (qaf n).bind fun r761 =>
 some (Sum.inr (Sum.inl (r761, (m0, (m0_1, (m0_2, (m0_3, m0_4)))))))
 else
 (getI t3 t11).bind fun x762 =>
 bif (decide (x762.1 < 1)) then
 (qaf n).bind fun r763 =>
 some (Sum.inr (Sum.inl (r763, (m0, (m0_1, (m0_2, (m0_3, m0_4)))))))
 else
 (getI t3 t11).bind fun x764 =>
 bif (decide (x764.1 > 8)) then
 (qaf n).bind fun r765 =>
 some (Sum.inr (Sum.inl (r765, (m0, (m0_1, (m0_2, (m0_3, m0_4)))))))
 else
 (getI t4 t11).bind fun x766 =>
 bif (decide (x766.1 < 1)) then
 (qaf n).bind fun r767 =>
 some (Sum.inr (Sum.inl (r767, (m0, (m0_1, (m0_2, (m0_3, m0_4)))))))
 else
 (getI t4 t11).bind fun x768 =>
 bif (decide (x768.1 > 8)) then
 (qaf n).bind fun r769 =>
 some (Sum.inr (Sum.inl (r769, (m0, (m0_1, (m0_2, (m0_3, m0_4)))))))
 else
 some (Sum.inl ((t1, (t2, (t3, (t4, (addI .i64 t11 1))))), (m0, (m0_1, (m0_2, (m0_3, m0_4))))))
 else
 some (Sum.inr (Sum.inr ((t1, (t2, (t3, t4))), (m0, (m0_1, (m0_2, (m0_3, m0_4)))))))
def law08FlowBelow_W0 (n : Nat) (s : (Int × Int × DA × DA × Int) × DH × DI × DJ × DC × DD) : Option ((Bool × DH × DI × DJ × DC × DD) ⊕ ((Int × Int × DA × DA) × DH × DI × DJ × DC × DD)) := loopS (fun s => law08FlowBelow_B0 n s.1.1 s.1.2.1 s.1.2.2.1 s.1.2.2.2.1 s.1.2.2.2.2 s.2.1 s.2.2.1 s.2.2.2.1 s.2.2.2.2.1 s.2.2.2.2.2) n s
def law08FlowBelow (n : Nat) (t0 : DH) (t0_1 : DI) (t0_2 : DJ) (t0_3 : DC) (t0_4 : DD) (t1 : Int) (t2 : Int) (t3 : DA) (t4 : DA) : Option (Bool) :=
 (qaz n t0 t0_1 t0_2 t0_3 t0_4).bind fun r778 =>
 bif (!r778) then
 (qaf n).bind fun r779 =>
 some r779
 else
 bif (decide ((lenI t3) > 8)) then
 (qaf n).bind fun r780 =>
 some r780
 else
 (qbe n t3 t4).bind fun r781 =>
 bif (!r781) then
 (qaf n).bind fun r782 =>
 some r782
 else
 (law08FlowBelow_W0 n ((t1, (t2, (t3, (t4, 0)))), (t0, (t0_1, (t0_2, (t0_3, t0_4)))))).bind fun r783 =>
 Sum.rec (fun u784 =>
 some u784.1) (fun v785 =>
 (qcd n v785.2.1 v785.2.2.1 v785.2.2.2.1 v785.2.2.2.2.1 v785.2.2.2.2.2 v785.1.1 v785.1.2.1 v785.1.2.2.2).bind fun r786 =>
 (qcd n v785.2.1 v785.2.2.1 v785.2.2.2.1 v785.2.2.2.2.1 v785.2.2.2.2.2 v785.1.1 v785.1.2.1 v785.1.2.2.1).bind fun r787 =>
 bif (r786.2.2 != 0) then
 (qaf n).bind fun r788 =>
 some r788
 else
 (qaf n).bind fun r789 =>
 bif r789 then
 bif (r787.2.2 == 0) then
 (qbe n r787.1 r786.1).bind fun r790 =>
 bif r790 then
 some ((lenI r786.2.1) == (lenI r787.2.1))
 else
 some false
 else
 some false
 else
 some false) r783
def law08FlowHeights (n : Nat) (t0 : DH) (t0_1 : DI) (t0_2 : DJ) (t0_3 : DC) (t0_4 : DD) (t1 : Int) (t2 : Int) (t3 : DA) : Option (Bool) :=
 (qaz n t0 t0_1 t0_2 t0_3 t0_4).bind fun r813 =>
 bif (!r813) then
 (qaf n).bind fun r814 =>
 some r814
 else
 bif (decide ((lenI t3) > 20)) then
 (qaf n).bind fun r815 =>
 some r815
 else
 (qcd n t0 t0_1 t0_2 t0_3 t0_4 t1 t2 t3).bind fun r816 =>
 bif (r816.2.2 != 0) then
 (qaf n).bind fun r817 =>
 some r817
 else
 (getI t0_1 t1).bind fun x818 =>
 (getI t0_1 t1).bind fun x819 =>
 (getI x819.2.2.2.2 t2).bind fun x820 =>
 (qbo n t0 t0_1 t0_2 t0_3 t0_4 x818.1 x818.2.1 x818.2.2.1 x818.2.2.2.1 x818.2.2.2.2 x820.1 x820.2.1 x820.2.2 t3).bind fun r821 =>
 (qaf n).bind fun r822 =>
 bif r822 then
 bif (decide ((subI .i64 (lenI t3) (lenI r821.1)) ≥ 0)) then
 bif ((lenI r816.1) == (addI .i64 (subI .i64 (lenI t3) (lenI r821.1)) (lenI r821.2.1))) then
 bif ((decide (0 ≤ (subI .i64 (lenI t3) (lenI r821.1)))) && (decide ((subI .i64 (lenI t3) (lenI r821.1)) ≤ (((List.length r816.1) : Nat) : Int)))) then
 bif ((decide (0 ≤ (subI .i64 (lenI t3) (lenI r821.1)))) && (decide ((subI .i64 (lenI t3) (lenI r821.1)) ≤ (((List.length t3) : Nat) : Int)))) then
 (qat n (List.take (Int.toNat (subI .i64 (lenI t3) (lenI r821.1))) r816.1) (List.take (Int.toNat (subI .i64 (lenI t3) (lenI r821.1))) t3)).bind fun r823 =>
 bif r823 then
 some (decide ((lenI r816.1) ≤ 8))
 else
 some false
 else none
 else none
 else
 some false
 else
 some false
 else
 some false
def qby (n : Nat) (m_0 : DH) (m_0_1 : DI) (m_0_2 : DJ) (m_0_3 : DC) (m_0_4 : DD) : Option (Bool) :=
 (qbv n m_0 m_0_1 m_0_2 m_0_3 m_0_4).bind fun r825 =>
 bif (r825 == 0) then
 (getI m_0_1 0).bind fun x826 =>
 bif ((lenI x826.1) == 0) then
 (getI m_0_1 0).bind fun x827 =>
 some (x827.2.1 == 1)
 else
 some false
 else
 some false
def qaa_B0 (n : Nat) (s2_1 : DA) (t15 : DA) (t16 : Int) (t17 : Int) : Option ((DA × DA × Int × Int) ⊕ ((Bool × (Int × Int) × Int × Int) ⊕ (Unit))) :=
 bif (decide (t17 < t16)) then
 (getI t15 t17).bind fun x841 =>
 (getI s2_1 t17).bind fun x842 =>
 (qcp n x841.1 x841.2 x842.1 x842.2).bind fun r843 =>
 bif (!r843) then
 some (Sum.inr (Sum.inl (false, ((x841.1, x841.2), (x842.1, x842.2)))))
 else
 some (Sum.inl (s2_1, (t15, (t16, (addI .i64 t17 1)))))
 else
 some (Sum.inr (Sum.inr ()))
def qaa_W0 (n : Nat) (s : DA × DA × Int × Int) : Option ((Bool × (Int × Int) × Int × Int) ⊕ (Unit)) := loopS (fun s => qaa_B0 n s.1 s.2.1 s.2.2.1 s.2.2.2) n s
def qaa (n : Nat) (s1_0 : DA) (s2_1 : DA) : Option (Bool) :=
 bif ((lenI s1_0) != (lenI s2_1)) then
 some false
 else
 (qaa_W0 n (s2_1, (s1_0, ((lenI s1_0), 0)))).bind fun r844 =>
 Sum.rec (fun u845 =>
 some u845.1) (fun v846 =>
 some true) r844
def judgeBelow (n : Nat) (a_0 : DA) (b_1 : DA) : Option (Bool) :=
 (qaa n a_0 b_1).bind fun r847 =>
 some r847
def qbr (n : Nat) (n_0 : Int) (m0 : DL) (m1 : DA) : Option (Bool × DL × DA) :=
 (getI m0 n_0).bind fun x848 =>
 bif (!x848.1) then
 some (true, (m0, m1))
 else
 (getI m0 n_0).bind fun x849 =>
 (judgeBelow n m1 x849.2).bind fun r850 =>
 some ((!r850), (m0, m1))
def qag_B0 (n : Nat) (s_0 : DC) (t7 : Int) (t8 : Int) (m0 : DL) (m1 : DA) : Option (((DC × Int × Int) × DL × DA) ⊕ ((Int × DL × DA) ⊕ (DL × DA))) :=
 bif (decide (t8 < t7)) then
 (getI s_0 t8).bind fun x851 =>
 (qbr n x851 m0 m1).bind fun r852 =>
 bif r852.1 then
 some (Sum.inr (Sum.inl (t8, (r852.2.1, r852.2.2))))
 else
 some (Sum.inl ((s_0, (t7, (addI .i64 t8 1))), (r852.2.1, r852.2.2)))
 else
 some (Sum.inr (Sum.inr (m0, m1)))
def qag_W0 (n : Nat) (s : (DC × Int × Int) × DL × DA) : Option ((Int × DL × DA) ⊕ (DL × DA)) := loopS (fun s => qag_B0 n s.1.1 s.1.2.1 s.1.2.2 s.2.1 s.2.2) n s
def qag (n : Nat) (s_0 : DC) (m0 : DL) (m1 : DA) : Option (Int × DL × DA) :=
 (qag_W0 n ((s_0, ((lenI s_0), 0)), (m0, m1))).bind fun r853 =>
 Sum.rec (fun u854 =>
 some (u854.1, (u854.2.1, u854.2.2))) (fun v855 =>
 some ((-1), (v855.1, v855.2))) r853
def qp (n : Nat) (s_0 : DC) (m0 : DL) (m1 : DA) : Option (Bool × DL × DA) :=
 (qag n s_0 m0 m1).bind fun r856 =>
 some ((decide (r856.1 ≥ 0)), (r856.2.1, r856.2.2))
def qbz (n : Nat) (m_0 : DH) (m_0_1 : DI) (m_0_2 : DJ) (m_0_3 : DC) (m_0_4 : DD) (f_1 : Int) (pc_2 : Int) (shape_3 : DL) : Option (Bool) :=
 (getI shape_3 pc_2).bind fun x857 =>
 bif (decide ((lenI x857.2) > 8)) then
 some false
 else
 bif (!x857.1) then
 some true
 else
 (qcl n m_0 m_0_1 m_0_2 m_0_3 m_0_4 f_1 pc_2 x857.2).bind fun r858 =>
 bif (r858.2.2 == 0) then
 (qp n r858.2.1 shape_3 r858.1).bind fun r859 =>
 some (!r859.1)
 else
 some false
def judgeRight_B2 (n : Nat) (f_5 : Int) (shape_6 : DL) (t19 : DM) (t20 : Int) (t21 : Int) (t52 : Int) (t53 : Int) (m0 : DH) (m0_1 : DI) (m0_2 : DJ) (m0_3 : DC) (m0_4 : DD) : Option (((Int × DL × DM × Int × Int × Int × Int) × DH × DI × DJ × DC × DD) ⊕ ((Bool × DH × DI × DJ × DC × DD) ⊕ ((DM × Int × Int) × DH × DI × DJ × DC × DD))) :=
 bif (decide (t53 < t52)) then
 (qbz n m0 m0_1 m0_2 m0_3 m0_4 f_5 t53 shape_6).bind fun r860 =>
 bif (!r860) then
 some (Sum.inr (Sum.inl (false, (m0, (m0_1, (m0_2, (m0_3, m0_4)))))))
 else
 some (Sum.inl ((f_5, (shape_6, (t19, (t20, (t21, (t52, (addI .i64 t53 1))))))), (m0, (m0_1, (m0_2, (m0_3, m0_4))))))
 else
 some (Sum.inr (Sum.inr ((t19, (t20, t21)), (m0, (m0_1, (m0_2, (m0_3, m0_4)))))))
def judgeRight_W2 (n : Nat) (s : (Int × DL × DM × Int × Int × Int × Int) × DH × DI × DJ × DC × DD) : Option ((Bool × DH × DI × DJ × DC × DD) ⊕ ((DM × Int × Int) × DH × DI × DJ × DC × DD)) := loopS (fun s => judgeRight_B2 n s.1.1 s.1.2.1 s.1.2.2.1 s.1.2.2.2.1 s.1.2.2.2.2.1 s.1.2.2.2.2.2.1 s.1.2.2.2.2.2.2 s.2.1 s.2.2.1 s.2.2.2.1 s.2.2.2.2.1 s.2.2.2.2.2) n s
def judgeRight_B0 (n : Nat) (t19 : DM) (t20 : Int) (t21 : Int) (m0 : DH) (m0_1 : DI) (m0_2 : DJ) (m0_3 : DC) (m0_4 : DD) : Option (((DM × Int × Int) × DH × DI × DJ × DC × DD) ⊕ ((Bool × DH × DI × DJ × DC × DD) ⊕ (DH × DI × DJ × DC × DD))) :=
 bif (decide (t21 < t20)) then
 (getI t19 t21).bind fun x861 =>
 (getI m0_1 t21).bind fun x862 =>
 bif ((lenI x861) != (lenI x862.2.2.2.2)) then
 some (Sum.inr (Sum.inl (false, (m0, (m0_1, (m0_2, (m0_3, m0_4)))))))
 else
 (getI x861 0).bind fun x863 =>
 bif (!x863.1) then
 some (Sum.inr (Sum.inl (false, (m0, (m0_1, (m0_2, (m0_3, m0_4)))))))
 else
 (getI x861 0).bind fun x864 =>
 bif (decide ((lenI x864.2) > 0)) then
 some (Sum.inr (Sum.inl (false, (m0, (m0_1, (m0_2, (m0_3, m0_4)))))))
 else
 (judgeRight_W2 n ((t21, (x861, (t19, (t20, (t21, ((lenI x861), 0)))))), (m0, (m0_1, (m0_2, (m0_3, m0_4)))))).bind fun r865 =>
 Sum.rec (fun u866 =>
 some (Sum.inr (Sum.inl (u866.1, (u866.2.1, (u866.2.2.1, (u866.2.2.2.1, (u866.2.2.2.2.1, u866.2.2.2.2.2)))))))) (fun v867 =>
 some (Sum.inl ((v867.1.1, (v867.1.2.1, (addI .i64 v867.1.2.2 1))), (v867.2.1, (v867.2.2.1, (v867.2.2.2.1, (v867.2.2.2.2.1, v867.2.2.2.2.2))))))) r865
 else
 some (Sum.inr (Sum.inr (m0, (m0_1, (m0_2, (m0_3, m0_4))))))
def judgeRight_W0 (n : Nat) (s : (DM × Int × Int) × DH × DI × DJ × DC × DD) : Option ((Bool × DH × DI × DJ × DC × DD) ⊕ (DH × DI × DJ × DC × DD)) := loopS (fun s => judgeRight_B0 n s.1.1 s.1.2.1 s.1.2.2 s.2.1 s.2.2.1 s.2.2.2.1 s.2.2.2.2.1 s.2.2.2.2.2) n s
def judgeRight (n : Nat) (m_0 : DH) (m_0_1 : DI) (m_0_2 : DJ) (m_0_3 : DC) (m_0_4 : DD) (maps_1 : DM) : Option (Bool) :=
 (qby n m_0 m_0_1 m_0_2 m_0_3 m_0_4).bind fun r868 =>
 bif (!r868) then
 some false
 else
 bif ((lenI maps_1) != (lenI m_0_1)) then
 some false
 else
 (judgeRight_W0 n ((maps_1, ((lenI maps_1), 0)), (m_0, (m_0_1, (m_0_2, (m_0_3, m_0_4)))))).bind fun r869 =>
 Sum.rec (fun u870 =>
 some u870.1) (fun v871 =>
 some true) r869
def qah (n : Nat) : Option (Bool) :=
 (judgeRight n ([] : List (List ((Int) × Int))) ((([] : List ((Int) × Int)), (1, (0, (([] : List ((Int) × Int)), ((0, (0, 0)) :: ((26, (0, 0)) :: ([] : List ((Int) × (Int) × Int)))))))) :: ([] : List ((List ((Int) × Int)) × (Int) × (Int) × (List ((Int) × Int)) × List ((Int) × (Int) × Int)))) ([] : List ((List ((Int) × Int)) × (Int) × Int)) (7 :: ([] : DE)) ([] : DF) (((true, ([] : List ((Int) × Int))) :: ((true, ((1, 0) :: ([] : List ((Int) × Int)))) :: ([] : List ((Bool) × List ((Int) × Int))))) :: ([] : List (List ((Bool) × List ((Int) × Int)))))).bind fun r872 =>
 bif r872 then
 (judgeRight n ([] : List (List ((Int) × Int))) ((([] : List ((Int) × Int)), (1, (0, (([] : List ((Int) × Int)), ((0, (0, 0)) :: ((26, (0, 0)) :: ([] : List ((Int) × (Int) × Int)))))))) :: ([] : List ((List ((Int) × Int)) × (Int) × (Int) × (List ((Int) × Int)) × List ((Int) × (Int) × Int)))) ([] : List ((List ((Int) × Int)) × (Int) × Int)) (7 :: ([] : DE)) ([] : DF) ([] : List (List ((Bool) × List ((Int) × Int))))).bind fun r873 =>
 some (!r873)
 else
 some false
def law10JudgeRight_B0 (n : Nat) (maps_1 : DM) (f_5 : Int) (m0 : DH) (m0_1 : DI) (m0_2 : DJ) (m0_3 : DC) (m0_4 : DD) : Option (((DM × Int) × DH × DI × DJ × DC × DD) ⊕ ((Bool × DH × DI × DJ × DC × DD) ⊕ (DM × DH × DI × DJ × DC × DD))) :=
 bif (decide (f_5 < (lenI maps_1))) then
 (getI maps_1 f_5).bind fun x877 =>
 bif (decide ((lenI x877) > 200)) then
 (qah n).bind fun r878 =>
 some (Sum.inr (Sum.inl (r878, (m0, (m0_1, (m0_2, (m0_3, m0_4)))))))
 else
 some (Sum.inl ((maps_1, (addI .i64 f_5 1)), (m0, (m0_1, (m0_2, (m0_3, m0_4))))))
 else
 some (Sum.inr (Sum.inr (maps_1, (m0, (m0_1, (m0_2, (m0_3, m0_4)))))))
def law10JudgeRight_W0 (n : Nat) (s : (DM × Int) × DH × DI × DJ × DC × DD) : Option ((Bool × DH × DI × DJ × DC × DD) ⊕ (DM × DH × DI × DJ × DC × DD)) := loopS (fun s => law10JudgeRight_B0 n s.1.1 s.1.2 s.2.1 s.2.2.1 s.2.2.2.1 s.2.2.2.2.1 s.2.2.2.2.2) n s
def qbq (n : Nat) (m_0 : DH) (m_0_1 : DI) (m_0_2 : DJ) (m_0_3 : DC) (m_0_4 : DD) : Option (Bool) :=
 (qba n m_0 m_0_1 m_0_2 m_0_3 m_0_4).bind fun r894 =>
 bif (r894 == 0) then
 (getI m_0_1 0).bind fun x895 =>
 bif ((lenI x895.1) == 0) then
 (getI m_0_1 0).bind fun x896 =>
 some (x896.2.1 == 1)
 else
 some false
 else
 some false
def qay_B4 (n : Nat) (t1 : DM) (t5 : Int) (t6 : DL) (t7 : Int) (t8 : DA) (t9 : DC) (t11 : Int) (m0 : DH) (m0_1 : DI) (m0_2 : DJ) (m0_3 : DC) (m0_4 : DD) : Option (((DM × Int × DL × Int × DA × DC × Int) × DH × DI × DJ × DC × DD) ⊕ ((Bool × DH × DI × DJ × DC × DD) ⊕ ((DM × Int × DL × Int) × DH × DI × DJ × DC × DD))) :=
 bif (decide (t11 < (lenI t9))) then
 (getI t9 t11).bind fun x913 =>
 (getI t6 x913).bind fun x914 =>
 bif (!x914.1) then
 some (Sum.inr (Sum.inl (false, (m0, (m0_1, (m0_2, (m0_3, m0_4)))))))
 else
 (getI t9 t11).bind fun x915 =>
 (getI t6 x915).bind fun x916 =>
 (qbe n t8 x916.2).bind fun r917 =>
 bif (!r917) then
 some (Sum.inr (Sum.inl (false, (m0, (m0_1, (m0_2, (m0_3, m0_4)))))))
 else
 some (Sum.inl ((t1, (t5, (t6, (t7, (t8, (t9, (addI .i64 t11 1))))))), (m0, (m0_1, (m0_2, (m0_3, m0_4))))))
 else
 some (Sum.inr (Sum.inr ((t1, (t5, (t6, t7))), (m0, (m0_1, (m0_2, (m0_3, m0_4)))))))
def qay_W4 (n : Nat) (s : (DM × Int × DL × Int × DA × DC × Int) × DH × DI × DJ × DC × DD) : Option ((Bool × DH × DI × DJ × DC × DD) ⊕ ((DM × Int × DL × Int) × DH × DI × DJ × DC × DD)) := loopS (fun s => qay_B4 n s.1.1 s.1.2.1 s.1.2.2.1 s.1.2.2.2.1 s.1.2.2.2.2.1 s.1.2.2.2.2.2.1 s.1.2.2.2.2.2.2 s.2.1 s.2.2.1 s.2.2.2.1 s.2.2.2.2.1 s.2.2.2.2.2) n s
def qay_B2 (n : Nat) (t1 : DM) (t5 : Int) (t6 : DL) (t7 : Int) (m0 : DH) (m0_1 : DI) (m0_2 : DJ) (m0_3 : DC) (m0_4 : DD) : Option (((DM × Int × DL × Int) × DH × DI × DJ × DC × DD) ⊕ ((Bool × DH × DI × DJ × DC × DD) ⊕ ((DM × Int) × DH × DI × DJ × DC × DD))) :=
 bif (decide (t7 < (lenI t6))) then
 (getI t6 t7).bind fun x918 =>
 bif (decide ((lenI x918.2) > 8)) then
 some (Sum.inr (Sum.inl (false, (m0, (m0_1, (m0_2, (m0_3, m0_4)))))))
 else
 (getI t6 t7).bind fun x919 =>
 bif (!x919.1) then
 some (Sum.inl ((t1, (t5, (t6, (addI .i64 t7 1)))), (m0, (m0_1, (m0_2, (m0_3, m0_4))))))
 else
 (getI t6 t7).bind fun x920 =>
 (qbp n m0 m0_1 m0_2 m0_3 m0_4 t5 t7 x920.2).bind fun r921 =>
 bif (r921.2.2 != 0) then
 some (Sum.inr (Sum.inl (false, (m0, (m0_1, (m0_2, (m0_3, m0_4)))))))
 else
 (qay_W4 n ((t1, (t5, (t6, (t7, (r921.1, (r921.2.1, 0)))))), (m0, (m0_1, (m0_2, (m0_3, m0_4)))))).bind fun r922 =>
 Sum.rec (fun u923 =>
 some (Sum.inr (Sum.inl (u923.1, (u923.2.1, (u923.2.2.1, (u923.2.2.2.1, (u923.2.2.2.2.1, u923.2.2.2.2.2)))))))) (fun v924 =>
 some (Sum.inl ((v924.1.1, (v924.1.2.1, (v924.1.2.2.1, (addI .i64 v924.1.2.2.2 1)))), (v924.2.1, (v924.2.2.1, (v924.2.2.2.1, (v924.2.2.2.2.1, v924.2.2.2.2.2))))))) r922
 else
 some (Sum.inr (Sum.inr ((t1, t5), (m0, (m0_1, (m0_2, (m0_3, m0_4)))))))
def qay_W2 (n : Nat) (s : (DM × Int × DL × Int) × DH × DI × DJ × DC × DD) : Option ((Bool × DH × DI × DJ × DC × DD) ⊕ ((DM × Int) × DH × DI × DJ × DC × DD)) := loopS (fun s => qay_B2 n s.1.1 s.1.2.1 s.1.2.2.1 s.1.2.2.2 s.2.1 s.2.2.1 s.2.2.2.1 s.2.2.2.2.1 s.2.2.2.2.2) n s
def qay_B0 (n : Nat) (t1 : DM) (t5 : Int) (m0 : DH) (m0_1 : DI) (m0_2 : DJ) (m0_3 : DC) (m0_4 : DD) : Option (((DM × Int) × DH × DI × DJ × DC × DD) ⊕ ((Bool × DH × DI × DJ × DC × DD) ⊕ (DH × DI × DJ × DC × DD))) :=
 bif (decide (t5 < (lenI t1))) then
 (getI t1 t5).bind fun x925 =>
 (getI m0_1 t5).bind fun x926 =>
 bif ((lenI x925) != (lenI x926.2.2.2.2)) then
 some (Sum.inr (Sum.inl (false, (m0, (m0_1, (m0_2, (m0_3, m0_4)))))))
 else
 (getI x925 0).bind fun x927 =>
 bif (!x927.1) then
 some (Sum.inr (Sum.inl (false, (m0, (m0_1, (m0_2, (m0_3, m0_4)))))))
 else
 (getI x925 0).bind fun x928 =>
 bif (decide ((lenI x928.2) > 0)) then
 some (Sum.inr (Sum.inl (false, (m0, (m0_1, (m0_2, (m0_3, m0_4)))))))
 else
 (qay_W2 n ((t1, (t5, (x925, 0))), (m0, (m0_1, (m0_2, (m0_3, m0_4)))))).bind fun r929 =>
 Sum.rec (fun u930 =>
 some (Sum.inr (Sum.inl (u930.1, (u930.2.1, (u930.2.2.1, (u930.2.2.2.1, (u930.2.2.2.2.1, u930.2.2.2.2.2)))))))) (fun v931 =>
 some (Sum.inl ((v931.1.1, (addI .i64 v931.1.2 1)), (v931.2.1, (v931.2.2.1, (v931.2.2.2.1, (v931.2.2.2.2.1, v931.2.2.2.2.2))))))) r929
 else
 some (Sum.inr (Sum.inr (m0, (m0_1, (m0_2, (m0_3, m0_4))))))
def qay_W0 (n : Nat) (s : (DM × Int) × DH × DI × DJ × DC × DD) : Option ((Bool × DH × DI × DJ × DC × DD) ⊕ (DH × DI × DJ × DC × DD)) := loopS (fun s => qay_B0 n s.1.1 s.1.2 s.2.1 s.2.2.1 s.2.2.2.1 s.2.2.2.2.1 s.2.2.2.2.2) n s
def qay (n : Nat) (t0 : DH) (t0_1 : DI) (t0_2 : DJ) (t0_3 : DC) (t0_4 : DD) (t1 : DM) : Option (Bool) :=
 (qbq n t0 t0_1 t0_2 t0_3 t0_4).bind fun r932 =>
 bif (!r932) then
 some false
 else
 bif ((lenI t1) != (lenI t0_1)) then
 some false
 else
 (qay_W0 n ((t1, 0), (t0, (t0_1, (t0_2, (t0_3, t0_4)))))).bind fun r933 =>
 Sum.rec (fun u934 =>
 some u934.1) (fun v935 =>
 some true) r933
def law10JudgeRight (n : Nat) (m_0 : DH) (m_0_1 : DI) (m_0_2 : DJ) (m_0_3 : DC) (m_0_4 : DD) (maps_1 : DM) : Option (Bool) :=
 (qaz n m_0 m_0_1 m_0_2 m_0_3 m_0_4).bind fun r936 =>
 bif (!r936) then
 (qah n).bind fun r937 =>
 some r937
 else
 bif (decide ((lenI maps_1) > 10)) then
 (qah n).bind fun r938 =>
 some r938
 else
 (law10JudgeRight_W0 n ((maps_1, 0), (m_0, (m_0_1, (m_0_2, (m_0_3, m_0_4)))))).bind fun r939 =>
 Sum.rec (fun u940 =>
 some u940.1) (fun v941 =>
 (qah n).bind fun r942 =>
 bif r942 then
 (judgeRight n v941.2.1 v941.2.2.1 v941.2.2.2.1 v941.2.2.2.2.1 v941.2.2.2.2.2 v941.1).bind fun r943 =>
 (qay n v941.2.1 v941.2.2.1 v941.2.2.2.1 v941.2.2.2.2.1 v941.2.2.2.2.2 v941.1).bind fun r944 =>
 some (r943 == r944)
 else
 some false) r939
def law10JudgeBelow (n : Nat) (a_0 : DA) (b_1 : DA) (c_2 : DA) : Option (Bool) :=
 bif (decide ((lenI a_0) > 50)) then
 (qah n).bind fun r952 =>
 some r952
 else
 bif (decide ((lenI b_1) > 50)) then
 (qah n).bind fun r953 =>
 some r953
 else
 bif (decide ((lenI c_2) > 50)) then
 (qah n).bind fun r954 =>
 some r954
 else
 (judgeBelow n a_0 b_1).bind fun r955 =>
 (qbe n a_0 b_1).bind fun r956 =>
 bif (!(r955 == r956)) then
 some false
 else
 (judgeBelow n a_0 a_0).bind fun r957 =>
 bif (!r957) then
 some false
 else
 (qah n).bind fun r958 =>
 bif r958 then
 (judgeBelow n a_0 b_1).bind fun r959 =>
 bif (!r959) then
 some true
 else
 (judgeBelow n b_1 c_2).bind fun r960 =>
 bif (!r960) then
 some true
 else
 (judgeBelow n a_0 c_2).bind fun r961 =>
 some r961
 else
 some false
def law10JudgeWider_B0 (n : Nat) (t5 : Int) (t9 : Int) (m0 : Int) (m0_1 : Int) (m1 : Int) (m1_1 : Int) (m2 : DB) (m3 : DL) (m4 : DL) : Option (((Int × Int) × (Int × Int) × (Int × Int) × DB × DL × DL) ⊕ ((Int × Int) × (Int × Int) × DB × DL × DL)) :=
 bif (decide (t9 < t5)) then
 bif (Nat.ble (List.length (m2 ++ ((5, (0, 0)) :: ((0, (0, 0)) :: ([] : List ((Int) × (Int) × Int)))))) 4294967296) then
 bif (Nat.ble (List.length (m3 ++ ((true, ((m0, m0_1) :: ((m0, m0_1) :: ([] : List ((Int) × Int))))) :: ((true, ((m0, m0_1) :: ([] : List ((Int) × Int)))) :: ([] : List ((Bool) × List ((Int) × Int))))))) 4294967296) then
 bif (Nat.ble (List.length (m4 ++ ((true, ((m0, m0_1) :: ((m1, m1_1) :: ([] : List ((Int) × Int))))) :: ((true, ((m0, m0_1) :: ([] : List ((Int) × Int)))) :: ([] : List ((Bool) × List ((Int) × Int))))))) 4294967296) then
 some (Sum.inl ((t5, (addI .i64 t9 1)), ((m0, m0_1), ((m1, m1_1), ((m2 ++ ((5, (0, 0)) :: ((0, (0, 0)) :: ([] : List ((Int) × (Int) × Int))))), ((m3 ++ ((true, ((m0, m0_1) :: ((m0, m0_1) :: ([] : List ((Int) × Int))))) :: ((true, ((m0, m0_1) :: ([] : List ((Int) × Int)))) :: ([] : List ((Bool) × List ((Int) × Int)))))), (m4 ++ ((true, ((m0, m0_1) :: ((m1, m1_1) :: ([] : List ((Int) × Int))))) :: ((true, ((m0, m0_1) :: ([] : List ((Int) × Int)))) :: ([] : List ((Bool) × List ((Int) × Int))))))))))))
 else none
 else none
 else none
 else
 some (Sum.inr ((m0, m0_1), ((m1, m1_1), (m2, (m3, m4)))))
def law10JudgeWider_W0 (n : Nat) (s : (Int × Int) × (Int × Int) × (Int × Int) × DB × DL × DL) : Option ((Int × Int) × (Int × Int) × DB × DL × DL) := loopS (fun s => law10JudgeWider_B0 n s.1.1 s.1.2 s.2.1.1 s.2.1.2 s.2.2.1.1 s.2.2.1.2 s.2.2.2.1 s.2.2.2.2.1 s.2.2.2.2.2) n s
def law10JudgeWider (n : Nat) (t0 : Int) : Option (Bool) :=
 (law10JudgeWider_W0 n (((cvtI .i64 (remI t0 6)), 0), ((1, 0), ((8, 0), (((0, (0, 0)) :: ((0, (0, 0)) :: ([] : List ((Int) × (Int) × Int)))), (((true, ([] : List ((Int) × Int))) :: ((true, ((1, 0) :: ([] : List ((Int) × Int)))) :: ([] : List ((Bool) × List ((Int) × Int))))), ((true, ([] : List ((Int) × Int))) :: ((true, ((1, 0) :: ([] : List ((Int) × Int)))) :: ([] : List ((Bool) × List ((Int) × Int))))))))))).bind fun r1040 =>
 bif (Nat.ble (List.length (r1040.2.2.1 ++ ((5, (0, 0)) :: ((26, (0, 0)) :: ([] : List ((Int) × (Int) × Int)))))) 4294967296) then
 bif (Nat.ble (List.length (r1040.2.2.2.1 ++ ((true, ((r1040.1.1, r1040.1.2) :: ((r1040.1.1, r1040.1.2) :: ([] : List ((Int) × Int))))) :: ((true, ((r1040.1.1, r1040.1.2) :: ([] : List ((Int) × Int)))) :: ([] : List ((Bool) × List ((Int) × Int))))))) 4294967296) then
 bif (Nat.ble (List.length (r1040.2.2.2.2 ++ ((true, ((r1040.1.1, r1040.1.2) :: ((r1040.2.1.1, r1040.2.1.2) :: ([] : List ((Int) × Int))))) :: ((true, ((r1040.1.1, r1040.1.2) :: ([] : List ((Int) × Int)))) :: ([] : List ((Bool) × List ((Int) × Int))))))) 4294967296) then
 bif (Nat.ble (List.length (r1040.2.2.2.2 ++ ((true, ((r1040.1.1, r1040.1.2) :: ((r1040.2.1.1, r1040.2.1.2) :: ([] : List ((Int) × Int))))) :: ((true, ((r1040.1.1, r1040.1.2) :: ([] : List ((Int) × Int)))) :: ([] : List ((Bool) × List ((Int) × Int))))))) 4294967296) then
 bif ((decide (0 ≤ (subI .i64 (lenI (r1040.2.2.2.2 ++ ((true, ((r1040.1.1, r1040.1.2) :: ((r1040.2.1.1, r1040.2.1.2) :: ([] : List ((Int) × Int))))) :: ((true, ((r1040.1.1, r1040.1.2) :: ([] : List ((Int) × Int)))) :: ([] : List ((Bool) × List ((Int) × Int))))))) 1))) && (decide ((subI .i64 (lenI (r1040.2.2.2.2 ++ ((true, ((r1040.1.1, r1040.1.2) :: ((r1040.2.1.1, r1040.2.1.2) :: ([] : List ((Int) × Int))))) :: ((true, ((r1040.1.1, r1040.1.2) :: ([] : List ((Int) × Int)))) :: ([] : List ((Bool) × List ((Int) × Int))))))) 1) < (((List.length (r1040.2.2.2.2 ++ ((true, ((r1040.1.1, r1040.1.2) :: ((r1040.2.1.1, r1040.2.1.2) :: ([] : List ((Int) × Int))))) :: ((true, ((r1040.1.1, r1040.1.2) :: ([] : List ((Int) × Int)))) :: ([] : List ((Bool) × List ((Int) × Int))))))) : Nat) : Int)))) then
 bif (Nat.ble ((Int.toNat (subI .i64 (lenI (r1040.2.2.2.2 ++ ((true, ((r1040.1.1, r1040.1.2) :: ((r1040.2.1.1, r1040.2.1.2) :: ([] : List ((Int) × Int))))) :: ((true, ((r1040.1.1, r1040.1.2) :: ([] : List ((Int) × Int)))) :: ([] : List ((Bool) × List ((Int) × Int))))))) 1)) + 1) (List.length (r1040.2.2.2.2 ++ ((true, ((r1040.1.1, r1040.1.2) :: ((r1040.2.1.1, r1040.2.1.2) :: ([] : List ((Int) × Int))))) :: ((true, ((r1040.1.1, r1040.1.2) :: ([] : List ((Int) × Int)))) :: ([] : List ((Bool) × List ((Int) × Int)))))))) then
 (qah n).bind fun r1041 =>
 bif r1041 then
 (judgeRight n ([] : List (List ((Int) × Int))) ((([] : List ((Int) × Int)), (r1040.1.1, (r1040.1.2, (([] : List ((Int) × Int)), (r1040.2.2.1 ++ ((5, (0, 0)) :: ((26, (0, 0)) :: ([] : List ((Int) × (Int) × Int))))))))) :: ([] : List ((List ((Int) × Int)) × (Int) × (Int) × (List ((Int) × Int)) × List ((Int) × (Int) × Int)))) ([] : List ((List ((Int) × Int)) × (Int) × Int)) (1 :: ([] : DE)) ([] : DF) ((r1040.2.2.2.1 ++ ((true, ((r1040.1.1, r1040.1.2) :: ((r1040.1.1, r1040.1.2) :: ([] : List ((Int) × Int))))) :: ((true, ((r1040.1.1, r1040.1.2) :: ([] : List ((Int) × Int)))) :: ([] : List ((Bool) × List ((Int) × Int)))))) :: ([] : List (List ((Bool) × List ((Int) × Int)))))).bind fun r1042 =>
 bif r1042 then
 (judgeRight n ([] : List (List ((Int) × Int))) ((([] : List ((Int) × Int)), (r1040.1.1, (r1040.1.2, (([] : List ((Int) × Int)), (r1040.2.2.1 ++ ((5, (0, 0)) :: ((26, (0, 0)) :: ([] : List ((Int) × (Int) × Int))))))))) :: ([] : List ((List ((Int) × Int)) × (Int) × (Int) × (List ((Int) × Int)) × List ((Int) × (Int) × Int)))) ([] : List ((List ((Int) × Int)) × (Int) × Int)) (1 :: ([] : DE)) ([] : DF) ((r1040.2.2.2.2 ++ ((true, ((r1040.1.1, r1040.1.2) :: ((r1040.2.1.1, r1040.2.1.2) :: ([] : List ((Int) × Int))))) :: ((true, ((r1040.1.1, r1040.1.2) :: ([] : List ((Int) × Int)))) :: ([] : List ((Bool) × List ((Int) × Int)))))) :: ([] : List (List ((Bool) × List ((Int) × Int)))))).bind fun r1043 =>
 bif r1043 then
 (judgeRight n ([] : List (List ((Int) × Int))) ((([] : List ((Int) × Int)), (r1040.1.1, (r1040.1.2, (([] : List ((Int) × Int)), (r1040.2.2.1 ++ ((5, (0, 0)) :: ((26, (0, 0)) :: ([] : List ((Int) × (Int) × Int))))))))) :: ([] : List ((List ((Int) × Int)) × (Int) × (Int) × (List ((Int) × Int)) × List ((Int) × (Int) × Int)))) ([] : List ((List ((Int) × Int)) × (Int) × Int)) (1 :: ([] : DE)) ([] : DF) ((List.set (r1040.2.2.2.2 ++ ((true, ((r1040.1.1, r1040.1.2) :: ((r1040.2.1.1, r1040.2.1.2) :: ([] : List ((Int) × Int))))) :: ((true, ((r1040.1.1, r1040.1.2) :: ([] : List ((Int) × Int)))) :: ([] : List ((Bool) × List ((Int) × Int)))))) (Int.toNat (subI .i64 (lenI (r1040.2.2.2.2 ++ ((true, ((r1040.1.1, r1040.1.2) :: ((r1040.2.1.1, r1040.2.1.2) :: ([] : List ((Int) × Int))))) :: ((true, ((r1040.1.1, r1040.1.2) :: ([] : List ((Int) × Int)))) :: ([] : List ((Bool) × List ((Int) × Int))))))) 1)) (true, ((r1040.2.1.1, r1040.2.1.2) :: ([] : List ((Int) × Int))))) :: ([] : List (List ((Bool) × List ((Int) × Int)))))).bind fun r1044 =>
 some (!r1044)
 else
 some false
 else
 some false
 else
 some false
 else none
 else none
 else none
 else none
 else none
 else none
end
end Sx
