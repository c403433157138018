import Derived.Test.YtliamnpngkojdaaDoorLib5
import Derived.KernelRfl
open Go Go.Ab
set_option linter.unusedVariables false
set_option maxRecDepth 20000
namespace Sx
noncomputable section
abbrev DA := List (Int × Int)
abbrev DB := List (Int × Int × Int)
abbrev DC := List Int
abbrev DD := List ByteArray
abbrev DE := List (Int)
abbrev DF := List (ByteArray)
abbrev DG := List (Nat × Int × Int)
abbrev DH := List DA
abbrev DI := List (DA × Int × Int × DA × DB)
abbrev DJ := List (DA × Int × Int)
abbrev DK := List DC
def qbb (n : Nat) (t_0 : Int) (t_0_1 : Int) (recs_1 : Int) : Option (Bool) :=
 bif (t_0 == 1) then
 some (t_0_1 == 0)
 else
 bif (t_0 == 2) then
 some (t_0_1 == 0)
 else
 bif (t_0 == 3) then
 some (t_0_1 == 0)
 else
 bif (t_0 == 7) then
 some (t_0_1 == 0)
 else
 bif (t_0 == 4) then
 bif (decide (t_0_1 ≥ 0)) then
 some (decide (t_0_1 < recs_1))
 else
 some false
 else
 bif (t_0 == 5) then
 bif (decide (t_0_1 ≥ 0)) then
 some (decide (t_0_1 < 4))
 else
 some false
 else
 some false
def qal (n : Nat) (t_0 : Int) (t_0_1 : Int) (m0 : Int) : Option (Bool × Int) :=
 (qbb n t_0 t_0_1 m0).bind fun r19 =>
 some ((!r19), m0)
def qaa_B0 (n : Nat) (s_0 : DA) (t7 : Int) (t8 : Int) (m0 : Int) : Option (((DA × Int × Int) × Int) ⊕ ((Int × Int) ⊕ (Int))) :=
 bif (decide (t8 < t7)) then
 (getI s_0 t8).bind fun x20 =>
 (qal n x20.1 x20.2 m0).bind fun r21 =>
 bif r21.1 then
 some (Sum.inr (Sum.inl (t8, r21.2)))
 else
 some (Sum.inl ((s_0, (t7, (addI .i64 t8 1))), r21.2))
 else
 some (Sum.inr (Sum.inr m0))
def qaa_W0 (n : Nat) (s : (DA × Int × Int) × Int) : Option ((Int × Int) ⊕ (Int)) := loopS (fun s => qaa_B0 n s.1.1 s.1.2.1 s.1.2.2 s.2) n s
def qaa (n : Nat) (s_0 : DA) (m0 : Int) : Option (Int × Int) :=
 (qaa_W0 n ((s_0, ((lenI s_0), 0)), m0)).bind fun r22 =>
 Sum.rec (fun u23 =>
 some (u23.1, u23.2)) (fun v24 =>
 some ((-1), v24)) r22
def qo (n : Nat) (s_0 : DA) (m0 : Int) : Option (Bool × Int) :=
 (qaa n s_0 m0).bind fun r25 =>
 some ((decide (r25.1 ≥ 0)), r25.2)
def qar (n : Nat) (list_0 : DA) (recs_1 : Int) (most_2 : Int) : Option (Bool) :=
 bif (decide ((lenI list_0) ≤ most_2)) then
 (qo n list_0 recs_1).bind fun r26 =>
 some (!r26.1)
 else
 some false
def qah (n : Nat) (l_0 : DA) (m0 : Int) : Option (Bool × Int) :=
 (qar n l_0 m0 6).bind fun r27 =>
 some ((!r27), m0)
def qs_B0 (n : Nat) (s_0 : DH) (t7 : Int) (t8 : Int) (m0 : Int) : Option (((DH × Int × Int) × Int) ⊕ ((Int × Int) ⊕ (Int))) :=
 bif (decide (t8 < t7)) then
 (getI s_0 t8).bind fun x28 =>
 (qah n x28 m0).bind fun r29 =>
 bif r29.1 then
 some (Sum.inr (Sum.inl (t8, r29.2)))
 else
 some (Sum.inl ((s_0, (t7, (addI .i64 t8 1))), r29.2))
 else
 some (Sum.inr (Sum.inr m0))
def qs_W0 (n : Nat) (s : (DH × Int × Int) × Int) : Option ((Int × Int) ⊕ (Int)) := loopS (fun s => qs_B0 n s.1.1 s.1.2.1 s.1.2.2 s.2) n s
def qs (n : Nat) (s_0 : DH) (m0 : Int) : Option (Int × Int) :=
 (qs_W0 n ((s_0, ((lenI s_0), 0)), m0)).bind fun r30 =>
 Sum.rec (fun u31 =>
 some (u31.1, u31.2)) (fun v32 =>
 some ((-1), v32)) r30
def qg (n : Nat) (s_0 : DH) (m0 : Int) : Option (Bool × Int) :=
 (qs n s_0 m0).bind fun r33 =>
 some ((decide (r33.1 ≥ 0)), r33.2)
def qbk (n : Nat) (op_0 : Int) : Option (Int) :=
 bif (op_0 == 29) then
 some 2
 else
 bif (op_0 == 30) then
 some 2
 else
 bif (op_0 == 0) then
 some 1
 else
 bif (op_0 == 1) then
 some 1
 else
 bif (op_0 == 3) then
 some 1
 else
 bif (op_0 == 4) then
 some 1
 else
 bif (op_0 == 23) then
 some 1
 else
 bif (op_0 == 24) then
 some 1
 else
 bif (op_0 == 25) then
 some 1
 else
 bif (op_0 == 27) then
 some 1
 else
 bif (op_0 == 28) then
 some 1
 else
 bif (decide (op_0 < 0)) then
 some (-1)
 else
 bif (decide (op_0 ≥ 42)) then
 some (-1)
 else
 some 0
def qbl (n : Nat) (n_0 : Int) (has_1 : Bool) : Option (Bool) :=
 bif (decide (n_0 ≥ 0)) then
 bif (decide (n_0 ≤ 255)) then
 bif has_1 then
 some true
 else
 some (n_0 == 0)
 else
 some false
 else
 some false
def qbq_B0 (n : Nat) (v_0 : Int) (m0 : DC) : Option ((Int × DC) ⊕ (Int × DC)) :=
 bif (decide (v_0 ≥ 128)) then
 bif (Nat.ble (List.length (m0 ++ ((orI .u8 (cvtI .u8 v_0) 128) :: ([] : DE)))) 4294967296) then
 some (Sum.inl ((shrI .u64 v_0 7), (m0 ++ ((orI .u8 (cvtI .u8 v_0) 128) :: ([] : DE)))))
 else none
 else
 some (Sum.inr (v_0, m0))
def qbq_W0 (n : Nat) (s : Int × DC) : Option (Int × DC) := loopS (fun s => qbq_B0 n s.1 s.2) n s
def qbq (n : Nat) (v_0 : Int) : Option DC :=
 (qbq_W0 n (v_0, ([] : DE))).bind fun r45 =>
 bif (Nat.ble (List.length (r45.2 ++ ((cvtI .u8 r45.1) :: ([] : DE)))) 4294967296) then
 some (r45.2 ++ ((cvtI .u8 r45.1) :: ([] : DE)))
 else none
def qbp_B0 (n : Nat) (t39 : Nat × Nat) (t40 : Int) (t41 : Int) (m0 : DC) (m1 : Int) (m1_1 : Int) : Option ((((Nat × Nat) × Int × Int) × DC × Int × Int) ⊕ (DC × Int × Int)) :=
 bif (decide (t41 < t40)) then
 bif ((decide (0 ≤ t41)) && (decide (t41 < ((t39.2 : Nat) : Int)))) then
 bif (Nat.beq (((t39.1 + (Int.toNat t41)) * 1) + 0) 0) then
 (qbq n (cvtI .u64 m1)).bind fun r46 =>
 bif (Nat.ble (List.length (m0 ++ r46)) 4294967296) then
 some (Sum.inl (((t39.1, t39.2), (t40, (addI .i64 t41 1))), ((m0 ++ r46), (m1, m1_1))))
 else none
 else
 bif (Nat.beq (((t39.1 + (Int.toNat t41)) * 1) + 0) 1) then
 (qbq n (cvtI .u64 m1_1)).bind fun r47 =>
 bif (Nat.ble (List.length (m0 ++ r47)) 4294967296) then
 some (Sum.inl (((t39.1, t39.2), (t40, (addI .i64 t41 1))), ((m0 ++ r47), (m1, m1_1))))
 else none
 else none
 else none
 else
 some (Sum.inr (m0, (m1, m1_1)))
def qbp_W0 (n : Nat) (s : ((Nat × Nat) × Int × Int) × DC × Int × Int) : Option (DC × Int × Int) := loopS (fun s => qbp_B0 n s.1.1 s.1.2.1 s.1.2.2 s.2.1 s.2.2.1 s.2.2.2) n s
def qbp (n : Nat) (i_0 : Int) (i_0_1 : Int) (i_0_2 : Int) : Option DC :=
 (qbk n i_0).bind fun r48 =>
 bif (decide (r48 < 0)) then
 some ([] : DE)
 else
 (qbl n i_0_1 (decide (r48 > 0))).bind fun r49 =>
 bif (!r49) then
 some ([] : DE)
 else
 (qbl n i_0_2 (decide (r48 > 1))).bind fun r50 =>
 bif (!r50) then
 some ([] : DE)
 else
 bif ((decide (0 ≤ r48)) && (decide (r48 ≤ 2))) then
 (qbp_W0 n (((0, ((Int.toNat r48) - 0)), (((((Int.toNat r48) - 0) : Nat) : Int), 0)), (((cvtI .u8 i_0) :: ([] : DE)), (i_0_1, i_0_2)))).bind fun r51 =>
 some r51.1
 else none
def qv (n : Nat) (i_0 : Int) (i_0_1 : Int) (i_0_2 : Int) : Option (Bool) :=
 (qbp n i_0 i_0_1 i_0_2).bind fun r52 =>
 some ((lenI r52) == 0)
def qw_B0 (n : Nat) (s_0 : DB) (t7 : Int) (t8 : Int) : Option ((DB × Int × Int) ⊕ ((Int) ⊕ (Unit))) :=
 bif (decide (t8 < t7)) then
 (getI s_0 t8).bind fun x53 =>
 (qv n x53.1 x53.2.1 x53.2.2).bind fun r54 =>
 bif r54 then
 some (Sum.inr (Sum.inl t8))
 else
 some (Sum.inl (s_0, (t7, (addI .i64 t8 1))))
 else
 some (Sum.inr (Sum.inr ()))
def qw_W0 (n : Nat) (s : DB × Int × Int) : Option ((Int) ⊕ (Unit)) := loopS (fun s => qw_B0 n s.1 s.2.1 s.2.2) n s
def qw (n : Nat) (s_0 : DB) : Option (Int) :=
 (qw_W0 n (s_0, ((lenI s_0), 0))).bind fun r55 =>
 Sum.rec (fun u56 =>
 some u56) (fun v57 =>
 some (-1)) r55
def qk (n : Nat) (s_0 : DB) : Option (Bool) :=
 (qw n s_0).bind fun r58 =>
 some (decide (r58 ≥ 0))
def qac (n : Nat) (f_0 : DA) (f_0_1 : Int) (f_0_2 : Int) (f_0_3 : DA) (f_0_4 : DB) (recs_1 : Int) : Option (Bool) :=
 (qar n f_0 recs_1 4).bind fun r59 =>
 bif r59 then
 (qbb n f_0_1 f_0_2 recs_1).bind fun r60 =>
 bif r60 then
 (qar n f_0_3 recs_1 (subI .i64 8 (lenI f_0))).bind fun r61 =>
 bif r61 then
 bif (decide ((lenI f_0_4) ≥ 1)) then
 bif (decide ((lenI f_0_4) ≤ 64)) then
 (qk n f_0_4).bind fun r62 =>
 some (!r62)
 else
 some false
 else
 some false
 else
 some false
 else
 some false
 else
 some false
def qag (n : Nat) (f_0 : DA) (f_0_1 : Int) (f_0_2 : Int) (f_0_3 : DA) (f_0_4 : DB) (m0 : Int) : Option (Bool × Int) :=
 (qac n f_0 f_0_1 f_0_2 f_0_3 f_0_4 m0).bind fun r63 =>
 some ((!r63), m0)
def qy_B0 (n : Nat) (s_0 : DI) (t7 : Int) (t8 : Int) (m0 : Int) : Option (((DI × Int × Int) × Int) ⊕ ((Int × Int) ⊕ (Int))) :=
 bif (decide (t8 < t7)) then
 (getI s_0 t8).bind fun x64 =>
 (qag n x64.1 x64.2.1 x64.2.2.1 x64.2.2.2.1 x64.2.2.2.2 m0).bind fun r65 =>
 bif r65.1 then
 some (Sum.inr (Sum.inl (t8, r65.2)))
 else
 some (Sum.inl ((s_0, (t7, (addI .i64 t8 1))), r65.2))
 else
 some (Sum.inr (Sum.inr m0))
def qy_W0 (n : Nat) (s : (DI × Int × Int) × Int) : Option ((Int × Int) ⊕ (Int)) := loopS (fun s => qy_B0 n s.1.1 s.1.2.1 s.1.2.2 s.2) n s
def qy (n : Nat) (s_0 : DI) (m0 : Int) : Option (Int × Int) :=
 (qy_W0 n ((s_0, ((lenI s_0), 0)), m0)).bind fun r66 =>
 Sum.rec (fun u67 =>
 some (u67.1, u67.2)) (fun v68 =>
 some ((-1), v68)) r66
def qm (n : Nat) (s_0 : DI) (m0 : Int) : Option (Bool × Int) :=
 (qy n s_0 m0).bind fun r69 =>
 some ((decide (r69.1 ≥ 0)), r69.2)
def qaf (n : Nat) (i_0 : DA) (i_0_1 : Int) (i_0_2 : Int) (m0 : Int) : Option (Bool × Int) :=
 (qar n i_0 m0 4).bind fun r74 =>
 bif (!r74) then
 some (true, m0)
 else
 (qbb n i_0_1 i_0_2 m0).bind fun r75 =>
 some ((!r75), m0)
def qq_B0 (n : Nat) (s_0 : DJ) (t7 : Int) (t8 : Int) (m0 : Int) : Option (((DJ × Int × Int) × Int) ⊕ ((Int × Int) ⊕ (Int))) :=
 bif (decide (t8 < t7)) then
 (getI s_0 t8).bind fun x76 =>
 (qaf n x76.1 x76.2.1 x76.2.2 m0).bind fun r77 =>
 bif r77.1 then
 some (Sum.inr (Sum.inl (t8, r77.2)))
 else
 some (Sum.inl ((s_0, (t7, (addI .i64 t8 1))), r77.2))
 else
 some (Sum.inr (Sum.inr m0))
def qq_W0 (n : Nat) (s : (DJ × Int × Int) × Int) : Option ((Int × Int) ⊕ (Int)) := loopS (fun s => qq_B0 n s.1.1 s.1.2.1 s.1.2.2 s.2) n s
def qq (n : Nat) (s_0 : DJ) (m0 : Int) : Option (Int × Int) :=
 (qq_W0 n ((s_0, ((lenI s_0), 0)), m0)).bind fun r78 =>
 Sum.rec (fun u79 =>
 some (u79.1, u79.2)) (fun v80 =>
 some ((-1), v80)) r78
def qe (n : Nat) (s_0 : DJ) (m0 : Int) : Option (Bool × Int) :=
 (qq n s_0 m0).bind fun r81 =>
 some ((decide (r81.1 ≥ 0)), r81.2)
def qai (n : Nat) (s_0 : ByteArray) : Option (Bool) :=
 some (decide ((lenS s_0) > 32))
def qu_B0 (n : Nat) (s_0 : DD) (t7 : Int) (t8 : Int) : Option ((DD × Int × Int) ⊕ ((Int) ⊕ (Unit))) :=
 bif (decide (t8 < t7)) then
 (getI s_0 t8).bind fun x86 =>
 (qai n x86).bind fun r87 =>
 bif r87 then
 some (Sum.inr (Sum.inl t8))
 else
 some (Sum.inl (s_0, (t7, (addI .i64 t8 1))))
 else
 some (Sum.inr (Sum.inr ()))
def qu_W0 (n : Nat) (s : DD × Int × Int) : Option ((Int) ⊕ (Unit)) := loopS (fun s => qu_B0 n s.1 s.2.1 s.2.2) n s
def qu (n : Nat) (s_0 : DD) : Option (Int) :=
 (qu_W0 n (s_0, ((lenI s_0), 0))).bind fun r88 =>
 Sum.rec (fun u89 =>
 some u89) (fun v90 =>
 some (-1)) r88
def qf (n : Nat) (s_0 : DD) : Option (Bool) :=
 (qu n s_0).bind fun r91 =>
 some (decide (r91 ≥ 0))
def qan (n : Nat) (t0 : DH) (t0_1 : DI) (t0_2 : DJ) (t0_3 : DC) (t0_4 : DD) : Option (Bool) :=
 bif (decide ((lenI t0) ≤ 8)) then
 (qg n t0 (lenI t0)).bind fun r92 =>
 bif (!r92.1) then
 bif (decide ((lenI t0_1) ≥ 1)) then
 bif (decide ((lenI t0_1) ≤ 8)) then
 (qm n t0_1 r92.2).bind fun r93 =>
 bif (!r93.1) then
 bif (decide ((lenI t0_2) ≤ 8)) then
 (qe n t0_2 r93.2).bind fun r94 =>
 bif (!r94.1) then
 bif (decide ((lenI t0_3) ≤ 16)) then
 bif (decide ((lenI t0_4) ≤ 16)) then
 (qf n t0_4).bind fun r95 =>
 some (!r95)
 else
 some false
 else
 some false
 else
 some false
 else
 some false
 else
 some false
 else
 some false
 else
 some false
 else
 some false
 else
 some false
def qj (n : Nat) (n_1 : Int) : Option DC :=
 (qbq n (cvtI .u64 n_1)).bind fun r97 =>
 bif (Nat.ble (List.length r97) 4294967296) then
 some r97
 else none
def qc (n : Nat) (n_1 : Int) (m1 : DC) : Option DC :=
 (qbq n (cvtI .u64 n_1)).bind fun r100 =>
 bif (Nat.ble (List.length (m1 ++ r100)) 4294967296) then
 some (m1 ++ r100)
 else none
def qbn (n : Nat) (t_0 : Int) (t_0_1 : Int) : Option DC :=
 (qbq n (cvtI .u64 (maxI t_0 0))).bind fun r103 =>
 (qbq n (cvtI .u64 (maxI t_0_1 0))).bind fun r104 =>
 bif (Nat.ble (List.length (r103 ++ r104)) 4294967296) then
 some (r103 ++ r104)
 else none
def qi_B0 (n : Nat) (t10 : DA) (t11 : Int) (t12 : Int) (m1 : DC) : Option (((DA × Int × Int) × DC) ⊕ DC) :=
 bif (decide (t12 < t11)) then
 (getI t10 t12).bind fun x105 =>
 (qbn n x105.1 x105.2).bind fun r106 =>
 bif (Nat.ble (List.length (m1 ++ r106)) 4294967296) then
 some (Sum.inl ((t10, (t11, (addI .i64 t12 1))), (m1 ++ r106)))
 else none
 else
 some (Sum.inr m1)
def qi_W0 (n : Nat) (s : (DA × Int × Int) × DC) : Option DC := loopS (fun s => qi_B0 n s.1.1 s.1.2.1 s.1.2.2 s.2) n s
def qi (n : Nat) (list_1 : DA) (m1 : DC) : Option DC :=
 (qc n (lenI list_1) m1).bind fun r107 =>
 (qi_W0 n ((list_1, ((lenI list_1), 0)), r107)).bind fun r108 =>
 some r108
def qx_B0 (n : Nat) (t14 : DH) (t15 : Int) (t16 : Int) (m1 : DC) : Option (((DH × Int × Int) × DC) ⊕ DC) :=
 bif (decide (t16 < t15)) then
 (getI t14 t16).bind fun x109 =>
 (qi n x109 m1).bind fun r110 =>
 some (Sum.inl ((t14, (t15, (addI .i64 t16 1))), r110))
 else
 some (Sum.inr m1)
def qx_W0 (n : Nat) (s : (DH × Int × Int) × DC) : Option DC := loopS (fun s => qx_B0 n s.1.1 s.1.2.1 s.1.2.2 s.2) n s
def qx (n : Nat) (m_0 : DH) (m_0_1 : DI) (m_0_2 : DJ) (m_0_3 : DC) (m_0_4 : DD) : Option DC :=
 (qj n (lenI m_0)).bind fun r111 =>
 (qx_W0 n ((m_0, ((lenI m_0), 0)), r111)).bind fun r112 =>
 some r112
def qr_B2 (n : Nat) (t16 : DI) (t17 : Int) (t18 : Int) (t47 : DB) (t48 : Int) (t49 : Int) (m1 : DC) : Option (((DI × Int × Int × DB × Int × Int) × DC) ⊕ ((DI × Int × Int) × DC)) :=
 bif (decide (t49 < t48)) then
 (getI t47 t49).bind fun x129 =>
 (qbp n x129.1 x129.2.1 x129.2.2).bind fun r130 =>
 bif (Nat.ble (List.length (m1 ++ r130)) 4294967296) then
 some (Sum.inl ((t16, (t17, (t18, (t47, (t48, (addI .i64 t49 1)))))), (m1 ++ r130)))
 else none
 else
 some (Sum.inr ((t16, (t17, t18)), m1))
def qr_W2 (n : Nat) (s : (DI × Int × Int × DB × Int × Int) × DC) : Option ((DI × Int × Int) × DC) := loopS (fun s => qr_B2 n s.1.1 s.1.2.1 s.1.2.2.1 s.1.2.2.2.1 s.1.2.2.2.2.1 s.1.2.2.2.2.2 s.2) n s
def qr_B0 (n : Nat) (t16 : DI) (t17 : Int) (t18 : Int) (m1 : DC) : Option (((DI × Int × Int) × DC) ⊕ DC) :=
 bif (decide (t18 < t17)) then
 (getI t16 t18).bind fun x131 =>
 (qi n x131.1 m1).bind fun r132 =>
 (qbn n x131.2.1 x131.2.2.1).bind fun r133 =>
 bif (Nat.ble (List.length (r132 ++ r133)) 4294967296) then
 (qi n x131.2.2.2.1 (r132 ++ r133)).bind fun r134 =>
 (qc n (lenI x131.2.2.2.2) r134).bind fun r135 =>
 (qr_W2 n ((t16, (t17, (t18, (x131.2.2.2.2, ((lenI x131.2.2.2.2), 0))))), r135)).bind fun r136 =>
 some (Sum.inl ((r136.1.1, (r136.1.2.1, (addI .i64 r136.1.2.2 1))), r136.2))
 else none
 else
 some (Sum.inr m1)
def qr_W0 (n : Nat) (s : (DI × Int × Int) × DC) : Option DC := loopS (fun s => qr_B0 n s.1.1 s.1.2.1 s.1.2.2 s.2) n s
def qr (n : Nat) (t0 : DH) (t0_1 : DI) (t0_2 : DJ) (t0_3 : DC) (t0_4 : DD) : Option DC :=
 (qj n (lenI t0_1)).bind fun r137 =>
 (qr_W0 n ((t0_1, ((lenI t0_1), 0)), r137)).bind fun r138 =>
 some r138
def qab_B0 (n : Nat) (t14 : DJ) (t15 : Int) (t16 : Int) (m1 : DC) : Option (((DJ × Int × Int) × DC) ⊕ DC) :=
 bif (decide (t16 < t15)) then
 (getI t14 t16).bind fun x146 =>
 (qi n x146.1 m1).bind fun r147 =>
 (qbn n x146.2.1 x146.2.2).bind fun r148 =>
 bif (Nat.ble (List.length (r147 ++ r148)) 4294967296) then
 some (Sum.inl ((t14, (t15, (addI .i64 t16 1))), (r147 ++ r148)))
 else none
 else
 some (Sum.inr m1)
def qab_W0 (n : Nat) (s : (DJ × Int × Int) × DC) : Option DC := loopS (fun s => qab_B0 n s.1.1 s.1.2.1 s.1.2.2 s.2) n s
def qab (n : Nat) (m_0 : DH) (m_0_1 : DI) (m_0_2 : DJ) (m_0_3 : DC) (m_0_4 : DD) : Option DC :=
 (qj n (lenI m_0_2)).bind fun r149 =>
 (qab_W0 n ((m_0_2, ((lenI m_0_2), 0)), r149)).bind fun r150 =>
 some r150
def qbe_B0 (n : Nat) (v_0 : Int) (t9 : Int) (t10 : Int) (m0 : DC) : Option (((Int × Int × Int) × DC) ⊕ DC) :=
 bif (decide (t10 < t9)) then
 bif (decide (0 ≤ (mulI .i64 8 t10))) then
 bif (Nat.ble (List.length (m0 ++ ((cvtI .u8 (shrI .u64 v_0 (mulI .i64 8 t10))) :: ([] : DE)))) 4294967296) then
 some (Sum.inl ((v_0, (t9, (addI .i64 t10 1))), (m0 ++ ((cvtI .u8 (shrI .u64 v_0 (mulI .i64 8 t10))) :: ([] : DE)))))
 else none
 else none
 else
 some (Sum.inr m0)
def qbe_W0 (n : Nat) (s : (Int × Int × Int) × DC) : Option DC := loopS (fun s => qbe_B0 n s.1.1 s.1.2.1 s.1.2.2 s.2) n s
def qbe (n : Nat) (v_0 : Int) (n_1 : Int) : Option DC :=
 (qbe_W0 n ((v_0, ((minI (maxI n_1 0) 8), 0)), ([] : DE))).bind fun r157 =>
 some r157
def qz_B0 (n : Nat) (t14 : DC) (t15 : Int) (t16 : Int) (m1 : DC) : Option (((DC × Int × Int) × DC) ⊕ DC) :=
 bif (decide (t16 < t15)) then
 (getI t14 t16).bind fun x158 =>
 (qbe n x158 8).bind fun r159 =>
 bif (Nat.ble (List.length (m1 ++ r159)) 4294967296) then
 some (Sum.inl ((t14, (t15, (addI .i64 t16 1))), (m1 ++ r159)))
 else none
 else
 some (Sum.inr m1)
def qz_W0 (n : Nat) (s : (DC × Int × Int) × DC) : Option DC := loopS (fun s => qz_B0 n s.1.1 s.1.2.1 s.1.2.2 s.2) n s
def qz (n : Nat) (m_0 : DH) (m_0_1 : DI) (m_0_2 : DJ) (m_0_3 : DC) (m_0_4 : DD) : Option DC :=
 (qj n (lenI m_0_3)).bind fun r160 =>
 (qz_W0 n ((m_0_3, ((lenI m_0_3), 0)), r160)).bind fun r161 =>
 some r161
def qaj_B0 (n : Nat) (t14 : DD) (t15 : Int) (t16 : Int) (m1 : DC) : Option (((DD × Int × Int) × DC) ⊕ DC) :=
 bif (decide (t16 < t15)) then
 (getI t14 t16).bind fun x169 =>
 (qc n (lenS x169) m1).bind fun r170 =>
 bif (Nat.ble (List.length (r170 ++ (bytesInts x169))) 4294967296) then
 some (Sum.inl ((t14, (t15, (addI .i64 t16 1))), (r170 ++ (bytesInts x169))))
 else none
 else
 some (Sum.inr m1)
def qaj_W0 (n : Nat) (s : (DD × Int × Int) × DC) : Option DC := loopS (fun s => qaj_B0 n s.1.1 s.1.2.1 s.1.2.2 s.2) n s
def qaj (n : Nat) (m_0 : DH) (m_0_1 : DI) (m_0_2 : DJ) (m_0_3 : DC) (m_0_4 : DD) : Option DC :=
 (qj n (lenI m_0_4)).bind fun r171 =>
 (qaj_W0 n ((m_0_4, ((lenI m_0_4), 0)), r171)).bind fun r172 =>
 some r172
def qbc_B0 (n : Nat) (t10 : DK) (t11 : Int) (t12 : Int) (m0 : DC) : Option (((DK × Int × Int) × DC) ⊕ DC) :=
 bif (decide (t12 < t11)) then
 (getI t10 t12).bind fun x180 =>
 (qbq n (cvtI .u64 (lenI x180))).bind fun r181 =>
 bif (Nat.ble (List.length (m0 ++ r181)) 4294967296) then
 bif (Nat.ble (List.length ((m0 ++ r181) ++ x180)) 4294967296) then
 some (Sum.inl ((t10, (t11, (addI .i64 t12 1))), ((m0 ++ r181) ++ x180)))
 else none
 else none
 else
 some (Sum.inr m0)
def qbc_W0 (n : Nat) (s : (DK × Int × Int) × DC) : Option DC := loopS (fun s => qbc_B0 n s.1.1 s.1.2.1 s.1.2.2 s.2) n s
def qbc (n : Nat) (parts_0 : DK) : Option DC :=
 (qbq n (cvtI .u64 (lenI parts_0))).bind fun r182 =>
 (qbc_W0 n ((parts_0, ((lenI parts_0), 0)), r182)).bind fun r183 =>
 some r183
def qae (n : Nat) (m_0 : DH) (m_0_1 : DI) (m_0_2 : DJ) (m_0_3 : DC) (m_0_4 : DD) : Option (DC × Int) :=
 (qan n m_0 m_0_1 m_0_2 m_0_3 m_0_4).bind fun r184 =>
 bif (!r184) then
 some (([] : DE), 2)
 else
 (qx n m_0 m_0_1 m_0_2 m_0_3 m_0_4).bind fun r185 =>
 (qr n m_0 m_0_1 m_0_2 m_0_3 m_0_4).bind fun r186 =>
 (qab n m_0 m_0_1 m_0_2 m_0_3 m_0_4).bind fun r187 =>
 (qz n m_0 m_0_1 m_0_2 m_0_3 m_0_4).bind fun r188 =>
 (qaj n m_0 m_0_1 m_0_2 m_0_3 m_0_4).bind fun r189 =>
 (qbc n (r185 :: (r186 :: (r187 :: (r188 :: (r189 :: ([] : DK))))))).bind fun r190 =>
 some (r190, 0)
def qax (n : Nat) (n_0 : Int) (most_1 : Int) : Option (Bool) :=
 some (decide (n_0 < most_1))
def qaz (n : Nat) (t0 : DH) (t0_1 : DI) (t0_2 : DJ) (t0_3 : DC) (t0_4 : DD) (t1 : DA) (t1_1 : Int) (t1_2 : Int) (t1_3 : DA) (t1_4 : DB) (t2 : Int) (t2_1 : Int) (t2_2 : Int) : Option (Bool) :=
 bif (t2 == 0) then
 (qax n t2_1 (lenI t0_3)).bind fun r194 =>
 some r194
 else
 bif (t2 == 1) then
 (qax n t2_1 (lenI t0_4)).bind fun r195 =>
 some r195
 else
 bif (t2 == 3) then
 (qax n t2_1 (addI .i64 (lenI t1) (lenI t1_3))).bind fun r196 =>
 some r196
 else
 bif (t2 == 4) then
 (qax n t2_1 (addI .i64 (lenI t1) (lenI t1_3))).bind fun r197 =>
 some r197
 else
 bif (t2 == 23) then
 (qax n t2_1 (lenI t1_4)).bind fun r198 =>
 some r198
 else
 bif (t2 == 24) then
 (qax n t2_1 (lenI t1_4)).bind fun r199 =>
 some r199
 else
 bif (t2 == 25) then
 (qax n t2_1 (lenI t0_1)).bind fun r200 =>
 some r200
 else
 bif (t2 == 27) then
 (qax n t2_1 (lenI t0_2)).bind fun r201 =>
 some r201
 else
 bif (t2 == 28) then
 (qax n t2_1 (lenI t0)).bind fun r202 =>
 some r202
 else
 bif (t2 == 29) then
 (qax n t2_1 (lenI t0)).bind fun r203 =>
 bif r203 then
 (getI t0 t2_1).bind fun x204 =>
 (qax n t2_2 (lenI x204)).bind fun r205 =>
 some r205
 else
 some false
 else
 bif (t2 == 30) then
 (qax n t2_1 (lenI t0)).bind fun r206 =>
 bif r206 then
 (getI t0 t2_1).bind fun x207 =>
 (qax n t2_2 (lenI x207)).bind fun r208 =>
 some r208
 else
 some false
 else
 some true
def qaq (n : Nat) (i_0 : Int) (i_0_1 : Int) (i_0_2 : Int) (m0 : DH) (m0_1 : DI) (m0_2 : DJ) (m0_3 : DC) (m0_4 : DD) (m1 : DA) (m1_1 : Int) (m1_2 : Int) (m1_3 : DA) (m1_4 : DB) : Option (Bool × (DH × DI × DJ × DC × DD) × DA × Int × Int × DA × DB) :=
 (qaz n m0 m0_1 m0_2 m0_3 m0_4 m1 m1_1 m1_2 m1_3 m1_4 i_0 i_0_1 i_0_2).bind fun r209 =>
 some ((!r209), ((m0, (m0_1, (m0_2, (m0_3, m0_4)))), (m1, (m1_1, (m1_2, (m1_3, m1_4))))))
def qn_B0 (n : Nat) (s_0 : DB) (t7 : Int) (t8 : Int) (m0 : DH) (m0_1 : DI) (m0_2 : DJ) (m0_3 : DC) (m0_4 : DD) (m1 : DA) (m1_1 : Int) (m1_2 : Int) (m1_3 : DA) (m1_4 : DB) : Option (((DB × Int × Int) × (DH × DI × DJ × DC × DD) × DA × Int × Int × DA × DB) ⊕ ((Int × (DH × DI × DJ × DC × DD) × DA × Int × Int × DA × DB) ⊕ ((DH × DI × DJ × DC × DD) × DA × Int × Int × DA × DB))) :=
 bif (decide (t8 < t7)) then
 (getI s_0 t8).bind fun x210 =>
 (qaq n x210.1 x210.2.1 x210.2.2 m0 m0_1 m0_2 m0_3 m0_4 m1 m1_1 m1_2 m1_3 m1_4).bind fun r211 =>
 bif r211.1 then
 some (Sum.inr (Sum.inl (t8, ((r211.2.1.1, (r211.2.1.2.1, (r211.2.1.2.2.1, (r211.2.1.2.2.2.1, r211.2.1.2.2.2.2)))), (r211.2.2.1, (r211.2.2.2.1, (r211.2.2.2.2.1, (r211.2.2.2.2.2.1, r211.2.2.2.2.2.2))))))))
 else
 some (Sum.inl ((s_0, (t7, (addI .i64 t8 1))), ((r211.2.1.1, (r211.2.1.2.1, (r211.2.1.2.2.1, (r211.2.1.2.2.2.1, r211.2.1.2.2.2.2)))), (r211.2.2.1, (r211.2.2.2.1, (r211.2.2.2.2.1, (r211.2.2.2.2.2.1, r211.2.2.2.2.2.2)))))))
 else
 some (Sum.inr (Sum.inr ((m0, (m0_1, (m0_2, (m0_3, m0_4)))), (m1, (m1_1, (m1_2, (m1_3, m1_4)))))))
def qn_W0 (n : Nat) (s : (DB × Int × Int) × (DH × DI × DJ × DC × DD) × DA × Int × Int × DA × DB) : Option ((Int × (DH × DI × DJ × DC × DD) × DA × Int × Int × DA × DB) ⊕ ((DH × DI × DJ × DC × DD) × DA × Int × Int × DA × DB)) := loopS (fun s => qn_B0 n s.1.1 s.1.2.1 s.1.2.2 s.2.1.1 s.2.1.2.1 s.2.1.2.2.1 s.2.1.2.2.2.1 s.2.1.2.2.2.2 s.2.2.1 s.2.2.2.1 s.2.2.2.2.1 s.2.2.2.2.2.1 s.2.2.2.2.2.2) n s
def qn (n : Nat) (s_0 : DB) (m0 : DH) (m0_1 : DI) (m0_2 : DJ) (m0_3 : DC) (m0_4 : DD) (m1 : DA) (m1_1 : Int) (m1_2 : Int) (m1_3 : DA) (m1_4 : DB) : Option (Int × (DH × DI × DJ × DC × DD) × DA × Int × Int × DA × DB) :=
 (qn_W0 n ((s_0, ((lenI s_0), 0)), ((m0, (m0_1, (m0_2, (m0_3, m0_4)))), (m1, (m1_1, (m1_2, (m1_3, m1_4))))))).bind fun r212 =>
 Sum.rec (fun u213 =>
 some (u213.1, ((u213.2.1.1, (u213.2.1.2.1, (u213.2.1.2.2.1, (u213.2.1.2.2.2.1, u213.2.1.2.2.2.2)))), (u213.2.2.1, (u213.2.2.2.1, (u213.2.2.2.2.1, (u213.2.2.2.2.2.1, u213.2.2.2.2.2.2))))))) (fun v214 =>
 some ((-1), ((v214.1.1, (v214.1.2.1, (v214.1.2.2.1, (v214.1.2.2.2.1, v214.1.2.2.2.2)))), (v214.2.1, (v214.2.2.1, (v214.2.2.2.1, (v214.2.2.2.2.1, v214.2.2.2.2.2))))))) r212
def qb (n : Nat) (s_0 : DB) (m0 : DH) (m0_1 : DI) (m0_2 : DJ) (m0_3 : DC) (m0_4 : DD) (m1 : DA) (m1_1 : Int) (m1_2 : Int) (m1_3 : DA) (m1_4 : DB) : Option (Bool × (DH × DI × DJ × DC × DD) × DA × Int × Int × DA × DB) :=
 (qn n s_0 m0 m0_1 m0_2 m0_3 m0_4 m1 m1_1 m1_2 m1_3 m1_4).bind fun r215 =>
 some ((decide (r215.1 ≥ 0)), ((r215.2.1.1, (r215.2.1.2.1, (r215.2.1.2.2.1, (r215.2.1.2.2.2.1, r215.2.1.2.2.2.2)))), (r215.2.2.1, (r215.2.2.2.1, (r215.2.2.2.2.1, (r215.2.2.2.2.2.1, r215.2.2.2.2.2.2))))))
def qas (n : Nat) (t_0 : Int) (t_0_1 : Int) : Option (Bool) :=
 some (t_0 == 5)
def qt_B0 (n : Nat) (s_0 : DA) (t7 : Int) (t8 : Int) : Option ((DA × Int × Int) ⊕ ((Int) ⊕ (Unit))) :=
 bif (decide (t8 < t7)) then
 (getI s_0 t8).bind fun x219 =>
 (qas n x219.1 x219.2).bind fun r220 =>
 bif r220 then
 some (Sum.inr (Sum.inl t8))
 else
 some (Sum.inl (s_0, (t7, (addI .i64 t8 1))))
 else
 some (Sum.inr (Sum.inr ()))
def qt_W0 (n : Nat) (s : DA × Int × Int) : Option ((Int) ⊕ (Unit)) := loopS (fun s => qt_B0 n s.1 s.2.1 s.2.2) n s
def qt (n : Nat) (s_0 : DA) : Option (Int) :=
 (qt_W0 n (s_0, ((lenI s_0), 0))).bind fun r221 =>
 Sum.rec (fun u222 =>
 some u222) (fun v223 =>
 some (-1)) r221
def qh (n : Nat) (s_0 : DA) : Option (Bool) :=
 (qt n s_0).bind fun r224 =>
 some (decide (r224 ≥ 0))
def qau_B0 (n : Nat) (t18 : DI) (t19 : Int) (t20 : Int) (m0 : DH) (m0_1 : DI) (m0_2 : DJ) (m0_3 : DC) (m0_4 : DD) : Option (((DI × Int × Int) × DH × DI × DJ × DC × DD) ⊕ ((Int × (DH × DI × DJ × DC × DD) × DA × Int × Int × DA × DB) ⊕ (DH × DI × DJ × DC × DD))) :=
 bif (decide (t20 < t19)) then
 (getI t18 t20).bind fun x225 =>
 (qb n x225.2.2.2.2 m0 m0_1 m0_2 m0_3 m0_4 x225.1 x225.2.1 x225.2.2.1 x225.2.2.2.1 x225.2.2.2.2).bind fun r226 =>
 bif r226.1 then
 some (Sum.inr (Sum.inl (1, ((r226.2.1.1, (r226.2.1.2.1, (r226.2.1.2.2.1, (r226.2.1.2.2.2.1, r226.2.1.2.2.2.2)))), (r226.2.2.1, (r226.2.2.2.1, (r226.2.2.2.2.1, (r226.2.2.2.2.2.1, r226.2.2.2.2.2.2))))))))
 else
 (qh n r226.2.2.2.2.2.1).bind fun r227 =>
 bif r227 then
 some (Sum.inr (Sum.inl (1, ((r226.2.1.1, (r226.2.1.2.1, (r226.2.1.2.2.1, (r226.2.1.2.2.2.1, r226.2.1.2.2.2.2)))), (r226.2.2.1, (r226.2.2.2.1, (r226.2.2.2.2.1, (r226.2.2.2.2.2.1, r226.2.2.2.2.2.2))))))))
 else
 some (Sum.inl ((t18, (t19, (addI .i64 t20 1))), (r226.2.1.1, (r226.2.1.2.1, (r226.2.1.2.2.1, (r226.2.1.2.2.2.1, r226.2.1.2.2.2.2))))))
 else
 some (Sum.inr (Sum.inr (m0, (m0_1, (m0_2, (m0_3, m0_4))))))
def qau_W0 (n : Nat) (s : (DI × Int × Int) × DH × DI × DJ × DC × DD) : Option ((Int × (DH × DI × DJ × DC × DD) × DA × Int × Int × DA × DB) ⊕ (DH × DI × DJ × DC × DD)) := loopS (fun s => qau_B0 n s.1.1 s.1.2.1 s.1.2.2 s.2.1 s.2.2.1 s.2.2.2.1 s.2.2.2.2.1 s.2.2.2.2.2) n s
def qba (n : Nat) (t_0 : Int) (t_0_1 : Int) : Option (Bool) :=
 bif (t_0 == 1) then
 some true
 else
 some (t_0 == 5)
def qak (n : Nat) (t_0 : Int) (t_0_1 : Int) : Option (Bool) :=
 (qba n t_0 t_0_1).bind fun r235 =>
 some (!r235)
def qp_B0 (n : Nat) (s_0 : DA) (t7 : Int) (t8 : Int) : Option ((DA × Int × Int) ⊕ ((Int) ⊕ (Unit))) :=
 bif (decide (t8 < t7)) then
 (getI s_0 t8).bind fun x236 =>
 (qak n x236.1 x236.2).bind fun r237 =>
 bif r237 then
 some (Sum.inr (Sum.inl t8))
 else
 some (Sum.inl (s_0, (t7, (addI .i64 t8 1))))
 else
 some (Sum.inr (Sum.inr ()))
def qp_W0 (n : Nat) (s : DA × Int × Int) : Option ((Int) ⊕ (Unit)) := loopS (fun s => qp_B0 n s.1 s.2.1 s.2.2) n s
def qp (n : Nat) (s_0 : DA) : Option (Int) :=
 (qp_W0 n (s_0, ((lenI s_0), 0))).bind fun r238 =>
 Sum.rec (fun u239 =>
 some u239) (fun v240 =>
 some (-1)) r238
def qd (n : Nat) (s_0 : DA) : Option (Bool) :=
 (qp n s_0).bind fun r241 =>
 some (decide (r241 ≥ 0))
def qao (n : Nat) (i_0 : DA) (i_0_1 : Int) (i_0_2 : Int) : Option (Bool) :=
 (qba n i_0_1 i_0_2).bind fun r242 =>
 bif (!r242) then
 some true
 else
 (qd n i_0).bind fun r243 =>
 some r243
def ql_B0 (n : Nat) (s_0 : DJ) (t7 : Int) (t8 : Int) : Option ((DJ × Int × Int) ⊕ ((Int) ⊕ (Unit))) :=
 bif (decide (t8 < t7)) then
 (getI s_0 t8).bind fun x244 =>
 (qao n x244.1 x244.2.1 x244.2.2).bind fun r245 =>
 bif r245 then
 some (Sum.inr (Sum.inl t8))
 else
 some (Sum.inl (s_0, (t7, (addI .i64 t8 1))))
 else
 some (Sum.inr (Sum.inr ()))
def ql_W0 (n : Nat) (s : DJ × Int × Int) : Option ((Int) ⊕ (Unit)) := loopS (fun s => ql_B0 n s.1 s.2.1 s.2.2) n s
def ql (n : Nat) (s_0 : DJ) : Option (Int) :=
 (ql_W0 n (s_0, ((lenI s_0), 0))).bind fun r246 =>
 Sum.rec (fun u247 =>
 some u247) (fun v248 =>
 some (-1)) r246
def qa (n : Nat) (s_0 : DJ) : Option (Bool) :=
 (ql n s_0).bind fun r249 =>
 some (decide (r249 ≥ 0))
def qau (n : Nat) (m_0 : DH) (m_0_1 : DI) (m_0_2 : DJ) (m_0_3 : DC) (m_0_4 : DD) : Option (Int) :=
 (qae n m_0 m_0_1 m_0_2 m_0_3 m_0_4).bind fun r250 =>
 bif (r250.2 != 0) then
 some r250.2
 else
 (qau_W0 n ((m_0_1, ((lenI m_0_1), 0)), (m_0, (m_0_1, (m_0_2, (m_0_3, m_0_4)))))).bind fun r251 =>
 Sum.rec (fun u252 =>
 some u252.1) (fun v253 =>
 (qa n v253.2.2.1).bind fun r254 =>
 bif r254 then
 some 1
 else
 some 0) r251
def qav (n : Nat) (list_0 : DA) : Option DA :=
 some list_0
def qbd (n : Nat) (t0 : Int) (t1 : DA) : Option ((DA × DA) × Bool) :=
 bif (t0 == 6) then
 bif (decide ((lenI t1) ≥ 1)) then
 (getI t1 (subI .i64 (lenI t1) 1)).bind fun x260 =>
 (qav n ((x260.1, x260.2) :: ([] : List ((Int) × Int)))).bind fun r261 =>
 (qav n ((x260.1, x260.2) :: ((x260.1, x260.2) :: ([] : List ((Int) × Int))))).bind fun r262 =>
 some ((r261, r262), true)
 else
 bif (t0 == 7) then
 bif (decide ((lenI t1) ≥ 2)) then
 (getI t1 (subI .i64 (lenI t1) 2)).bind fun x263 =>
 (getI t1 (subI .i64 (lenI t1) 1)).bind fun x264 =>
 (qav n ((x263.1, x263.2) :: ((x264.1, x264.2) :: ([] : List ((Int) × Int))))).bind fun r265 =>
 (getI t1 (subI .i64 (lenI t1) 1)).bind fun x266 =>
 (getI t1 (subI .i64 (lenI t1) 2)).bind fun x267 =>
 (qav n ((x266.1, x266.2) :: ((x267.1, x267.2) :: ([] : List ((Int) × Int))))).bind fun r268 =>
 some ((r265, r268), true)
 else
 bif (t0 == 41) then
 bif (decide ((lenI t1) ≥ 1)) then
 (getI t1 (subI .i64 (lenI t1) 1)).bind fun x269 =>
 bif (x269.1 == 5) then
 (getI t1 (subI .i64 (lenI t1) 1)).bind fun x270 =>
 (qav n ((x270.1, x270.2) :: ([] : List ((Int) × Int)))).bind fun r271 =>
 some ((r271, []), true)
 else
 some (([], []), false)
 else
 some (([], []), false)
 else
 some (([], []), false)
 else
 bif (t0 == 41) then
 bif (decide ((lenI t1) ≥ 1)) then
 (getI t1 (subI .i64 (lenI t1) 1)).bind fun x272 =>
 bif (x272.1 == 5) then
 (getI t1 (subI .i64 (lenI t1) 1)).bind fun x273 =>
 (qav n ((x273.1, x273.2) :: ([] : List ((Int) × Int)))).bind fun r274 =>
 some ((r274, []), true)
 else
 some (([], []), false)
 else
 some (([], []), false)
 else
 some (([], []), false)
 else
 bif (t0 == 7) then
 bif (decide ((lenI t1) ≥ 2)) then
 (getI t1 (subI .i64 (lenI t1) 2)).bind fun x275 =>
 (getI t1 (subI .i64 (lenI t1) 1)).bind fun x276 =>
 (qav n ((x275.1, x275.2) :: ((x276.1, x276.2) :: ([] : List ((Int) × Int))))).bind fun r277 =>
 (getI t1 (subI .i64 (lenI t1) 1)).bind fun x278 =>
 (getI t1 (subI .i64 (lenI t1) 2)).bind fun x279 =>
 (qav n ((x278.1, x278.2) :: ((x279.1, x279.2) :: ([] : List ((Int) × Int))))).bind fun r280 =>
 some ((r277, r280), true)
 else
 bif (t0 == 41) then
 bif (decide ((lenI t1) ≥ 1)) then
 (getI t1 (subI .i64 (lenI t1) 1)).bind fun x281 =>
 bif (x281.1 == 5) then
 (getI t1 (subI .i64 (lenI t1) 1)).bind fun x282 =>
 (qav n ((x282.1, x282.2) :: ([] : List ((Int) × Int)))).bind fun r283 =>
 some ((r283, []), true)
 else
 some (([], []), false)
 else
 some (([], []), false)
 else
 some (([], []), false)
 else
 bif (t0 == 41) then
 bif (decide ((lenI t1) ≥ 1)) then
 (getI t1 (subI .i64 (lenI t1) 1)).bind fun x284 =>
 bif (x284.1 == 5) then
 (getI t1 (subI .i64 (lenI t1) 1)).bind fun x285 =>
 (qav n ((x285.1, x285.2) :: ([] : List ((Int) × Int)))).bind fun r286 =>
 some ((r286, []), true)
 else
 some (([], []), false)
 else
 some (([], []), false)
 else
 some (([], []), false)
def qaw (n : Nat) (t0 : Int) : Option ((DA × DA) × Bool) :=
 bif (t0 == 2) then
 (qav n ((6, 0) :: ([] : List ((Int) × Int)))).bind fun r290 =>
 some (([], r290), true)
 else
 bif (t0 == 5) then
 (qav n ((8, 0) :: ([] : List ((Int) × Int)))).bind fun r291 =>
 some ((r291, []), true)
 else
 bif (t0 == 22) then
 (qav n ((1, 0) :: ((1, 0) :: ([] : List ((Int) × Int))))).bind fun r292 =>
 (qav n ((1, 0) :: ((1, 0) :: ([] : List ((Int) × Int))))).bind fun r293 =>
 some ((r292, r293), true)
 else
 bif (t0 == 23) then
 some (([], []), true)
 else
 bif (t0 == 24) then
 (qav n ((1, 0) :: ([] : List ((Int) × Int)))).bind fun r294 =>
 some ((r294, []), true)
 else
 bif (t0 == 31) then
 (qav n ((1, 0) :: ([] : List ((Int) × Int)))).bind fun r295 =>
 (qav n ((3, 0) :: ([] : List ((Int) × Int)))).bind fun r296 =>
 some ((r295, r296), true)
 else
 bif (t0 == 32) then
 (qav n ((3, 0) :: ((1, 0) :: ([] : List ((Int) × Int))))).bind fun r297 =>
 (qav n ((1, 0) :: ([] : List ((Int) × Int)))).bind fun r298 =>
 some ((r297, r298), true)
 else
 bif (t0 == 33) then
 (qav n ((3, 0) :: ((1, 0) :: ((1, 0) :: ([] : List ((Int) × Int)))))).bind fun r299 =>
 some ((r299, []), true)
 else
 bif (t0 == 34) then
 (qav n ((3, 0) :: ([] : List ((Int) × Int)))).bind fun r300 =>
 (qav n ((1, 0) :: ([] : List ((Int) × Int)))).bind fun r301 =>
 some ((r300, r301), true)
 else
 bif (t0 == 35) then
 (qav n ((1, 0) :: ([] : List ((Int) × Int)))).bind fun r302 =>
 (qav n ((2, 0) :: ([] : List ((Int) × Int)))).bind fun r303 =>
 some ((r302, r303), true)
 else
 bif (t0 == 36) then
 (qav n ((2, 0) :: ((1, 0) :: ([] : List ((Int) × Int))))).bind fun r304 =>
 (qav n ((1, 0) :: ([] : List ((Int) × Int)))).bind fun r305 =>
 some ((r304, r305), true)
 else
 bif (t0 == 37) then
 (qav n ((2, 0) :: ((1, 0) :: ((1, 0) :: ([] : List ((Int) × Int)))))).bind fun r306 =>
 some ((r306, []), true)
 else
 bif (t0 == 38) then
 (qav n ((2, 0) :: ([] : List ((Int) × Int)))).bind fun r307 =>
 (qav n ((1, 0) :: ([] : List ((Int) × Int)))).bind fun r308 =>
 some ((r307, r308), true)
 else
 bif (t0 == 39) then
 (qav n ((7, 0) :: ([] : List ((Int) × Int)))).bind fun r309 =>
 (qav n ((1, 0) :: ([] : List ((Int) × Int)))).bind fun r310 =>
 some ((r309, r310), true)
 else
 bif (t0 == 40) then
 (qav n ((7, 0) :: ((7, 0) :: ([] : List ((Int) × Int))))).bind fun r311 =>
 (qav n ((1, 0) :: ([] : List ((Int) × Int)))).bind fun r312 =>
 some ((r311, r312), true)
 else
 (qav n ((1, 0) :: ((1, 0) :: ([] : List ((Int) × Int))))).bind fun r313 =>
 (qav n ((1, 0) :: ([] : List ((Int) × Int)))).bind fun r314 =>
 bif (decide (t0 ≥ 8)) then
 some ((r313, r314), (decide (t0 ≤ 21)))
 else
 some ((r313, r314), false)
def qay (n : Nat) (f_0 : DA) (f_0_1 : Int) (f_0_2 : Int) (f_0_3 : DA) (f_0_4 : DB) (n_1 : Int) : Option (Int × Int) :=
 bif (decide (n_1 ≥ 0)) then
 bif (decide (n_1 < (lenI f_0))) then
 (getI f_0 n_1).bind fun x321 =>
 some (x321.1, x321.2)
 else
 bif (decide (n_1 ≥ 0)) then
 bif (decide (n_1 < (addI .i64 (lenI f_0) (lenI f_0_3)))) then
 (getI f_0_3 (subI .i64 n_1 (lenI f_0))).bind fun x322 =>
 some (x322.1, x322.2)
 else
 some (8, 0)
 else
 some (8, 0)
 else
 bif (decide (n_1 ≥ 0)) then
 bif (decide (n_1 < (addI .i64 (lenI f_0) (lenI f_0_3)))) then
 (getI f_0_3 (subI .i64 n_1 (lenI f_0))).bind fun x323 =>
 some (x323.1, x323.2)
 else
 some (8, 0)
 else
 some (8, 0)
def qat (n : Nat) (t0 : DH) (t0_1 : DI) (t0_2 : DJ) (t0_3 : DC) (t0_4 : DD) (t1 : DA) (t1_1 : Int) (t1_2 : Int) (t1_3 : DA) (t1_4 : DB) (t2 : Int) (t2_1 : Int) (t2_2 : Int) : Option (DA × DA) :=
 bif (t2 == 0) then
 (qav n ((1, 0) :: ([] : List ((Int) × Int)))).bind fun r324 =>
 some ([], r324)
 else
 bif (t2 == 1) then
 (qav n ((2, 0) :: ([] : List ((Int) × Int)))).bind fun r325 =>
 some ([], r325)
 else
 bif (t2 == 3) then
 (qay n t1 t1_1 t1_2 t1_3 t1_4 t2_1).bind fun r326 =>
 (qav n ((r326.1, r326.2) :: ([] : List ((Int) × Int)))).bind fun r327 =>
 some ([], r327)
 else
 bif (t2 == 4) then
 (qay n t1 t1_1 t1_2 t1_3 t1_4 t2_1).bind fun r328 =>
 (qav n ((r328.1, r328.2) :: ([] : List ((Int) × Int)))).bind fun r329 =>
 some (r329, [])
 else
 bif (t2 == 25) then
 (getI t0_1 t2_1).bind fun x330 =>
 (getI t0_1 t2_1).bind fun x331 =>
 (qav n ((x331.2.1, x331.2.2.1) :: ([] : List ((Int) × Int)))).bind fun r332 =>
 some (x330.1, r332)
 else
 bif (t2 == 26) then
 (qav n ((t1_1, t1_2) :: ([] : List ((Int) × Int)))).bind fun r333 =>
 some (r333, [])
 else
 bif (t2 == 27) then
 (getI t0_2 t2_1).bind fun x334 =>
 (getI t0_2 t2_1).bind fun x335 =>
 (qav n ((x335.2.1, x335.2.2) :: ([] : List ((Int) × Int)))).bind fun r336 =>
 some (x334.1, r336)
 else
 bif (t2 == 28) then
 (getI t0 t2_1).bind fun x337 =>
 (qav n ((4, t2_1) :: ([] : List ((Int) × Int)))).bind fun r338 =>
 some (x337, r338)
 else
 bif (t2 == 29) then
 (qav n ((4, t2_1) :: ([] : List ((Int) × Int)))).bind fun r339 =>
 (getI t0 t2_1).bind fun x340 =>
 (getI x340 t2_2).bind fun x341 =>
 (qav n ((x341.1, x341.2) :: ([] : List ((Int) × Int)))).bind fun r342 =>
 some (r339, r342)
 else
 (getI t0 t2_1).bind fun x343 =>
 (getI x343 t2_2).bind fun x344 =>
 (qav n ((4, t2_1) :: ((x344.1, x344.2) :: ([] : List ((Int) × Int))))).bind fun r345 =>
 some (r345, [])
def qbr (n : Nat) (m_0 : DH) (m_0_1 : DI) (m_0_2 : DJ) (m_0_3 : DC) (m_0_4 : DD) (f_1 : DA) (f_1_1 : Int) (f_1_2 : Int) (f_1_3 : DA) (f_1_4 : DB) (i_2 : Int) (i_2_1 : Int) (i_2_2 : Int) (stack_3 : DA) : Option ((DA × DA) × Bool) :=
 bif (i_2 == 6) then
 (qbd n i_2 stack_3).bind fun r346 =>
 some ((r346.1.1, r346.1.2), r346.2)
 else
 bif (i_2 == 7) then
 (qbd n i_2 stack_3).bind fun r347 =>
 some ((r347.1.1, r347.1.2), r347.2)
 else
 bif (i_2 == 41) then
 (qbd n i_2 stack_3).bind fun r348 =>
 some ((r348.1.1, r348.1.2), r348.2)
 else
 (qaw n i_2).bind fun r349 =>
 bif r349.2 then
 some ((r349.1.1, r349.1.2), true)
 else
 (qat n m_0 m_0_1 m_0_2 m_0_3 m_0_4 f_1 f_1_1 f_1_2 f_1_3 f_1_4 i_2 i_2_1 i_2_2).bind fun r350 =>
 some ((r350.1, r350.2), true)
def qbm (n : Nat) (t_0 : Int) (t_0_1 : Int) : Option (Bool) :=
 bif (t_0 == 2) then
 some true
 else
 bif (t_0 == 3) then
 some true
 else
 bif (t_0 == 4) then
 some true
 else
 bif (t_0 == 6) then
 some true
 else
 bif (t_0 == 7) then
 some true
 else
 some false
def qbo (n : Nat) (a_0 : Int) (a_0_1 : Int) (b_1 : Int) (b_1_1 : Int) : Option (Bool) :=
 bif ((a_0 == b_1) && (a_0_1 == b_1_1)) then
 some true
 else
 bif (b_1 == 8) then
 some true
 else
 (qbm n a_0 a_0_1).bind fun r356 =>
 bif r356 then
 (qbm n b_1 b_1_1).bind fun r357 =>
 bif r357 then
 bif (a_0 == 6) then
 some true
 else
 some (b_1 == 7)
 else
 some false
 else
 some false
def qbf_B0 (n : Nat) (t2 : Int) (t3 : DA) (t14 : Int) (t55 : DA) (t56 : Int) (t57 : Int) (m0 : DA) (m0_1 : Int) (m0_2 : Int) (m0_3 : DA) (m0_4 : DB) (m1 : DA) (m1_1 : DA) : Option (((Int × DA × Int × DA × Int × Int) × (DA × Int × Int × DA × DB) × DA × DA) ⊕ (((DA × DC × Int) × (DA × Int × Int × DA × DB) × (DA × DA) × Int × Int) ⊕ ((Int × DA × Int) × (DA × Int × Int × DA × DB) × DA × DA))) :=
 bif (decide (t57 < t56)) then
 (getI t55 t57).bind fun x358 =>
 (getI t3 (addI .i64 t14 t57)).bind fun x359 =>
 (qbo n x359.1 x359.2 x358.1 x358.2).bind fun r360 =>
 bif (!r360) then
 some (Sum.inr (Sum.inl ((([] : List ((Int) × Int)), (([] : DE), 4)), ((m0, (m0_1, (m0_2, (m0_3, m0_4)))), ((m1, m1_1), (x358.1, x358.2))))))
 else
 some (Sum.inl ((t2, (t3, (t14, (t55, (t56, (addI .i64 t57 1)))))), ((m0, (m0_1, (m0_2, (m0_3, m0_4)))), (m1, m1_1))))
 else
 some (Sum.inr (Sum.inr ((t2, (t3, t14)), ((m0, (m0_1, (m0_2, (m0_3, m0_4)))), (m1, m1_1)))))
def qbf_W0 (n : Nat) (s : (Int × DA × Int × DA × Int × Int) × (DA × Int × Int × DA × DB) × DA × DA) : Option (((DA × DC × Int) × (DA × Int × Int × DA × DB) × (DA × DA) × Int × Int) ⊕ ((Int × DA × Int) × (DA × Int × Int × DA × DB) × DA × DA)) := loopS (fun s => qbf_B0 n s.1.1 s.1.2.1 s.1.2.2.1 s.1.2.2.2.1 s.1.2.2.2.2.1 s.1.2.2.2.2.2 s.2.1.1 s.2.1.2.1 s.2.1.2.2.1 s.2.1.2.2.2.1 s.2.1.2.2.2.2 s.2.2.1 s.2.2.2) n s
def qbg (n : Nat) (i_0 : Int) (i_0_1 : Int) (i_0_2 : Int) (pc_1 : Int) : Option DC :=
 bif (i_0 == 26) then
 some ([] : DE)
 else
 bif (i_0 == 23) then
 some (i_0_1 :: ([] : DE))
 else
 bif (i_0 == 24) then
 some ((addI .i64 pc_1 1) :: (i_0_1 :: ([] : DE)))
 else
 some ((addI .i64 pc_1 1) :: ([] : DE))
def qap_B0 (n : Nat) (slices_0 : DH) (size_3 : Int) (t9 : DH) (t10 : Int) (t11 : Int) : Option ((DH × Int × DH × Int × Int) ⊕ (DH × Int)) :=
 bif (decide (t11 < t10)) then
 (getI t9 t11).bind fun x377 =>
 bif (decide ((addI .i64 size_3 (lenI x377)) < 0)) then
 none
 else
 some (Sum.inl (slices_0, ((addI .i64 size_3 (lenI x377)), (t9, (t10, (addI .i64 t11 1))))))
 else
 some (Sum.inr (slices_0, size_3))
def qap_W0 (n : Nat) (s : DH × Int × DH × Int × Int) : Option (DH × Int) := loopS (fun s => qap_B0 n s.1 s.2.1 s.2.2.1 s.2.2.2.1 s.2.2.2.2) n s
def qbh (n : Nat) (n_1 : Int) : Option (((Nat × Nat) × DA) ⊕ (Unit)) :=
 bif (decide (n_1 < 0)) then
 none
 else
 bif (decide ((subI .i64 n_1 0) > 0)) then
 bif ((decide (1 ≤ (subI .i64 n_1 0))) && (Nat.ble (Int.toNat (subI .i64 n_1 0)) 4294967296)) then
 bif (decide (0 ≤ (((List.length (List.replicate (Int.toNat (subI .i64 n_1 0)) (0, 0))) : Nat) : Int))) then
 some (Sum.inl ((0, 0), (List.replicate (Int.toNat (subI .i64 n_1 0)) (0, 0))))
 else none
 else none
 else
 some (Sum.inr ())
def qap_B2x1q0 (n : Nat) (newslice_6 : Nat × Nat) (t25 : DH) (t26 : Int) (t27 : Int) (m0 : DA) : Option (((((Nat × Nat) × DH × Int × Int) × DA) ⊕ (((DH × Int × Int) × DA) ⊕ (DH × Int × Int))) ⊕ (((Nat × Nat) × DA) ⊕ (DA ⊕ (Unit)))) :=
 bif (decide (t27 < t26)) then
 (getI t25 t27).bind fun x392 =>
 bif (Nat.beq newslice_6.1 0) then
 bif (Nat.ble (0 + newslice_6.2) (List.length m0)) then
 bif (Nat.ble (List.length ((List.take newslice_6.2 m0) ++ x392)) 4294967296) then
 some (Sum.inl (Sum.inr (Sum.inl ((t25, (t26, (addI .i64 t27 1))), ((List.take newslice_6.2 m0) ++ x392)))))
 else none
 else none
 else none
 else
 some (Sum.inr (Sum.inl ((newslice_6.1, newslice_6.2), m0)))
def qap_B2x1q1 (n : Nat) (t25 : DH) (t26 : Int) (t27 : Int) (m0 : DA) : Option (((((Nat × Nat) × DH × Int × Int) × DA) ⊕ (((DH × Int × Int) × DA) ⊕ (DH × Int × Int))) ⊕ (((Nat × Nat) × DA) ⊕ (DA ⊕ (Unit)))) :=
 bif (decide (t27 < t26)) then
 (getI t25 t27).bind fun x393 =>
 bif (Nat.ble (List.length (m0 ++ x393)) 4294967296) then
 some (Sum.inl (Sum.inr (Sum.inl ((t25, (t26, (addI .i64 t27 1))), (m0 ++ x393)))))
 else none
 else
 some (Sum.inr (Sum.inr (Sum.inl m0)))
def qap_B2x1q2 (n : Nat) (t25 : DH) (t26 : Int) (t27 : Int) : Option (((((Nat × Nat) × DH × Int × Int) × DA) ⊕ (((DH × Int × Int) × DA) ⊕ (DH × Int × Int))) ⊕ (((Nat × Nat) × DA) ⊕ (DA ⊕ (Unit)))) :=
 bif (decide (t27 < t26)) then
 (getI t25 t27).bind fun x394 =>
 bif (Nat.ble (List.length x394) 4294967296) then
 some (Sum.inl (Sum.inr (Sum.inl ((t25, (t26, (addI .i64 t27 1))), x394))))
 else none
 else
 some (Sum.inr (Sum.inr (Sum.inr ())))
def qap_M2x1 (n : Nat) (s : (((Nat × Nat) × DH × Int × Int) × DA) ⊕ (((DH × Int × Int) × DA) ⊕ (DH × Int × Int))) : Option (((((Nat × Nat) × DH × Int × Int) × DA) ⊕ (((DH × Int × Int) × DA) ⊕ (DH × Int × Int))) ⊕ (((Nat × Nat) × DA) ⊕ (DA ⊕ (Unit)))) := Sum.rec (fun a0 => qap_B2x1q0 n a0.1.1 a0.1.2.1 a0.1.2.2.1 a0.1.2.2.2 a0.2) (fun b0 => Sum.rec (fun a1 => qap_B2x1q1 n a1.1.1 a1.1.2.1 a1.1.2.2 a1.2) (fun b1 => qap_B2x1q2 n b1.1 b1.2.1 b1.2.2) b0) s
def qap_W2x1 (n : Nat) (s : (((Nat × Nat) × DH × Int × Int) × DA) ⊕ (((DH × Int × Int) × DA) ⊕ (DH × Int × Int))) : Option (((Nat × Nat) × DA) ⊕ (DA ⊕ (Unit))) := loopS (qap_M2x1 n) n s
def qap (n : Nat) (slices_0 : DH) : Option (((Nat × Nat) × DA) ⊕ DA) :=
 (qap_W0 n (slices_0, (0, (slices_0, ((lenI slices_0), 0))))).bind fun r395 =>
 (qbh n r395.2).bind fun r396 =>
 Sum.rec (fun u397 =>
 (qap_W2x1 n (Sum.inl (((u397.1.1, u397.1.2), (r395.1, ((lenI r395.1), 0))), u397.2))).bind fun r399 =>
 Sum.rec (fun u400 =>
 some (Sum.inl ((u400.1.1, u400.1.2), u400.2))) (fun v401 =>
 Sum.rec (fun u402 =>
 some (Sum.inr u402)) (fun v403 =>
 some (Sum.inr [])) v401) r399) (fun v398 =>
 (qap_W2x1 n (Sum.inr (Sum.inr (r395.1, ((lenI r395.1), 0))))).bind fun r404 =>
 Sum.rec (fun u405 =>
 some (Sum.inl ((u405.1.1, u405.1.2), u405.2))) (fun v406 =>
 Sum.rec (fun u407 =>
 some (Sum.inr u407)) (fun v408 =>
 some (Sum.inr [])) v406) r404) r396
def qbi (n : Nat) (s_0 : DA) : Option DA :=
 bif ((decide (0 ≤ (lenI s_0))) && (decide ((lenI s_0) ≤ (((List.length s_0) : Nat) : Int)))) then
 bif ((decide (0 ≤ (lenI s_0))) && (decide ((lenI s_0) ≤ (((Int.toNat (lenI s_0)) : Nat) : Int)))) then
 some (List.take (Int.toNat (lenI s_0)) s_0)
 else none
 else none
def qbf (n : Nat) (t0 : DH) (t0_1 : DI) (t0_2 : DJ) (t0_3 : DC) (t0_4 : DD) (t1 : Int) (t2 : Int) (t3 : DA) : Option (DA × DC × Int) :=
 (getI t0_1 t1).bind fun x421 =>
 (getI x421.2.2.2.2 t2).bind fun x422 =>
 (qbr n t0 t0_1 t0_2 t0_3 t0_4 x421.1 x421.2.1 x421.2.2.1 x421.2.2.2.1 x421.2.2.2.2 x422.1 x422.2.1 x422.2.2 t3).bind fun r423 =>
 bif (!r423.2) then
 some (([] : List ((Int) × Int)), (([] : DE), 4))
 else
 bif (decide ((subI .i64 (lenI t3) (lenI r423.1.1)) < 0)) then
 some (([] : List ((Int) × Int)), (([] : DE), 4))
 else
 bif (decide ((addI .i64 (subI .i64 (lenI t3) (lenI r423.1.1)) (lenI r423.1.2)) > 8)) then
 some (([] : List ((Int) × Int)), (([] : DE), 4))
 else
 (qbf_W0 n ((t2, (t3, ((subI .i64 (lenI t3) (lenI r423.1.1)), (r423.1.1, ((lenI r423.1.1), 0))))), ((x421.1, (x421.2.1, (x421.2.2.1, (x421.2.2.2.1, x421.2.2.2.2)))), (r423.1.1, r423.1.2)))).bind fun r424 =>
 Sum.rec (fun u425 =>
 some (u425.1.1, (u425.1.2.1, u425.1.2.2))) (fun v426 =>
 (getI v426.2.1.2.2.2.2 v426.1.1).bind fun x427 =>
 (qbg n x427.1 x427.2.1 x427.2.2 v426.1.1).bind fun r428 =>
 bif (decide ((lenI r428) > 0)) then
 (getI r428 0).bind fun x429 =>
 bif (decide (x429 ≥ (lenI v426.2.1.2.2.2.2))) then
 some (([] : List ((Int) × Int)), (([] : DE), 1))
 else
 bif ((decide (0 ≤ v426.1.2.2)) && (decide (v426.1.2.2 ≤ (((List.length v426.1.2.1) : Nat) : Int)))) then
 (qap n ((List.take (Int.toNat v426.1.2.2) v426.1.2.1) :: (v426.2.2.2 :: ([] : List (List ((Int) × Int)))))).bind fun r430 =>
 Sum.rec (fun u431 =>
 bif (Nat.ble (u431.1.1 + u431.1.2) (List.length u431.2)) then
 (qbi n (List.take u431.1.2 (List.drop u431.1.1 u431.2))).bind fun r433 =>
 none
 else none) (fun v432 =>
 (qbi n v432).bind fun r434 =>
 some (r434, (r428, 0))) r430
 else none
 else
 bif ((decide (0 ≤ v426.1.2.2)) && (decide (v426.1.2.2 ≤ (((List.length v426.1.2.1) : Nat) : Int)))) then
 (qap n ((List.take (Int.toNat v426.1.2.2) v426.1.2.1) :: (v426.2.2.2 :: ([] : List (List ((Int) × Int)))))).bind fun r435 =>
 Sum.rec (fun u436 =>
 bif (Nat.ble (u436.1.1 + u436.1.2) (List.length u436.2)) then
 (qbi n (List.take u436.1.2 (List.drop u436.1.1 u436.2))).bind fun r438 =>
 none
 else none) (fun v437 =>
 (qbi n v437).bind fun r439 =>
 some (r439, (r428, 0))) r435
 else none) r424
def qbj (n : Nat) (m_0 : DH) (m_0_1 : DI) (m_0_2 : DJ) (m_0_3 : DC) (m_0_4 : DD) (f_1 : Int) (pc_2 : Int) (stack_3 : DA) : Option (DA × DC × Int) :=
 (qau n m_0 m_0_1 m_0_2 m_0_3 m_0_4).bind fun r440 =>
 bif (r440 != 0) then
 some (([] : List ((Int) × Int)), (([] : DE), 1))
 else
 bif (decide (f_1 < 0)) then
 some (([] : List ((Int) × Int)), (([] : DE), 1))
 else
 bif (decide (f_1 ≥ (lenI m_0_1))) then
 some (([] : List ((Int) × Int)), (([] : DE), 1))
 else
 bif (decide (pc_2 < 0)) then
 some (([] : List ((Int) × Int)), (([] : DE), 1))
 else
 (getI m_0_1 f_1).bind fun x441 =>
 bif (decide (pc_2 ≥ (lenI x441.2.2.2.2))) then
 some (([] : List ((Int) × Int)), (([] : DE), 1))
 else
 (qbf n m_0 m_0_1 m_0_2 m_0_3 m_0_4 f_1 pc_2 stack_3).bind fun r442 =>
 some (r442.1, (r442.2.1, r442.2.2))
def qad (n : Nat) : Option (Bool) :=
 (qbj n ([] : List (List ((Int) × Int))) ((([] : List ((Int) × Int)), (1, (0, (([] : List ((Int) × Int)), ((8, (0, 0)) :: ((26, (0, 0)) :: ([] : List ((Int) × (Int) × Int)))))))) :: ([] : List ((List ((Int) × Int)) × (Int) × (Int) × (List ((Int) × Int)) × List ((Int) × (Int) × Int)))) ([] : List ((List ((Int) × Int)) × (Int) × Int)) ([] : DE) ([] : DF) 0 0 ((1, 0) :: ((1, 0) :: ([] : List ((Int) × Int))))).bind fun r443 =>
 bif (r443.2.2 == 0) then
 bif ((lenI r443.1) == 1) then
 bif ((lenI r443.2.1) == 1) then
 (getI r443.2.1 0).bind fun x444 =>
 some (x444 == 1)
 else
 some false
 else
 some false
 else
 some false
def qam (n : Nat) (f_0 : DA) (f_0_1 : Int) (f_0_2 : Int) (f_0_3 : DA) (f_0_4 : DB) (n_1 : Int) : Option (Int × Int) :=
 bif (Nat.ble (List.length f_0) 4294967296) then
 bif (Nat.ble (List.length (f_0 ++ f_0_3)) 4294967296) then
 bif (decide (n_1 < 0)) then
 some (8, 0)
 else
 bif (decide (n_1 ≥ (lenI (f_0 ++ f_0_3)))) then
 some (8, 0)
 else
 bif ((decide (0 ≤ n_1)) && (decide (n_1 < (((List.length (f_0 ++ f_0_3)) : Nat) : Int)))) then
 ((f_0 ++ f_0_3)[(Int.toNat n_1)]?).bind fun x667 =>
 some (x667.1, x667.2)
 else none
 else none
 else none
def law08FlowLocals (n : Nat) (f_0 : DA) (f_0_1 : Int) (f_0_2 : Int) (f_0_3 : DA) (f_0_4 : DB) (n_1 : Int) : Option (Bool) :=
 bif (decide ((addI .i64 (lenI f_0) (lenI f_0_3)) > 100)) then
 (qad n).bind fun r739 =>
 some r739
 else
 (qad n).bind fun r740 =>
 bif r740 then
 (qay n f_0 f_0_1 f_0_2 f_0_3 f_0_4 n_1).bind fun r741 =>
 (qam n f_0 f_0_1 f_0_2 f_0_3 f_0_4 n_1).bind fun r742 =>
 some ((r741.1 == r742.1) && (r741.2 == r742.2))
 else
 some false
end
end Sx
