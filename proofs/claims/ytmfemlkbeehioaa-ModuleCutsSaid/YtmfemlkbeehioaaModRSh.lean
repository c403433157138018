import Derived.Test.YtmfemlkbeehioaaLib5
import Derived.KernelRfl
open Go Go.Ab
set_option linter.unusedVariables false
set_option maxRecDepth 20000
namespace Sx
noncomputable section
abbrev DA := List (Int × Int)
abbrev DB := List (Int × Int × Int)
abbrev DC := List Int
abbrev DD := List ByteArray
abbrev DE := List (Int)
abbrev DF := List (ByteArray)
abbrev DG := List (Nat × Int × Int)
abbrev DH := List DA
abbrev DI := List (DA × Int × Int × DA × DB)
abbrev DJ := List (DA × Int × Int)
abbrev DK := List DC
def qbr_B0 (n : Nat) (t3 : Int) (t4 : Int) (m0 : DH) (m0_1 : DI) (m0_2 : DJ) (m0_3 : DC) (m0_4 : DD) : Option (((Int × Int) × DH × DI × DJ × DC × DD) ⊕ (Int × DH × DI × DJ × DC × DD)) :=
 bif (decide (t4 < (lenI m0))) then
 (getI m0 t4).bind fun x0 =>
 some (Sum.inl (((addI .i64 t3 (lenI x0)), (addI .i64 t4 1)), (m0, (m0_1, (m0_2, (m0_3, m0_4))))))
 else
 some (Sum.inr (t3, (m0, (m0_1, (m0_2, (m0_3, m0_4))))))
def qbr_W0 (n : Nat) (s : (Int × Int) × DH × DI × DJ × DC × DD) : Option (Int × DH × DI × DJ × DC × DD) := loopS (fun s => qbr_B0 n s.1.1 s.1.2 s.2.1 s.2.2.1 s.2.2.2.1 s.2.2.2.2.1 s.2.2.2.2.2) n s
def qbr_B2 (n : Nat) (t3 : Int) (t5 : Int) (m0 : DH) (m0_1 : DI) (m0_2 : DJ) (m0_3 : DC) (m0_4 : DD) : Option (((Int × Int) × DH × DI × DJ × DC × DD) ⊕ (Int × DH × DI × DJ × DC × DD)) :=
 bif (decide (t5 < (lenI m0_1))) then
 (getI m0_1 t5).bind fun x2 =>
 (getI m0_1 t5).bind fun x3 =>
 (getI m0_1 t5).bind fun x4 =>
 some (Sum.inl (((addI .i64 (addI .i64 (addI .i64 t3 (lenI x2.1)) (lenI x3.2.2.2.1)) (lenI x4.2.2.2.2)), (addI .i64 t5 1)), (m0, (m0_1, (m0_2, (m0_3, m0_4))))))
 else
 some (Sum.inr (t3, (m0, (m0_1, (m0_2, (m0_3, m0_4))))))
def qbr_W2 (n : Nat) (s : (Int × Int) × DH × DI × DJ × DC × DD) : Option (Int × DH × DI × DJ × DC × DD) := loopS (fun s => qbr_B2 n s.1.1 s.1.2 s.2.1 s.2.2.1 s.2.2.2.1 s.2.2.2.2.1 s.2.2.2.2.2) n s
def qbr_B4 (n : Nat) (t3 : Int) (t6 : Int) (m0 : DH) (m0_1 : DI) (m0_2 : DJ) (m0_3 : DC) (m0_4 : DD) : Option (((Int × Int) × DH × DI × DJ × DC × DD) ⊕ (Int × DH × DI × DJ × DC × DD)) :=
 bif (decide (t6 < (lenI m0_2))) then
 (getI m0_2 t6).bind fun x7 =>
 some (Sum.inl (((addI .i64 t3 (lenI x7.1)), (addI .i64 t6 1)), (m0, (m0_1, (m0_2, (m0_3, m0_4))))))
 else
 some (Sum.inr (t3, (m0, (m0_1, (m0_2, (m0_3, m0_4))))))
def qbr_W4 (n : Nat) (s : (Int × Int) × DH × DI × DJ × DC × DD) : Option (Int × DH × DI × DJ × DC × DD) := loopS (fun s => qbr_B4 n s.1.1 s.1.2 s.2.1 s.2.2.1 s.2.2.2.1 s.2.2.2.2.1 s.2.2.2.2.2) n s
def qbr_B6 (n : Nat) (t3 : Int) (t7 : Int) (m0 : DH) (m0_1 : DI) (m0_2 : DJ) (m0_3 : DC) (m0_4 : DD) : Option (((Int × Int) × DH × DI × DJ × DC × DD) ⊕ (Int × DH × DI × DJ × DC × DD)) :=
 bif (decide (t7 < (lenI m0_4))) then
 (getI m0_4 t7).bind fun x11 =>
 some (Sum.inl (((addI .i64 t3 (lenS x11)), (addI .i64 t7 1)), (m0, (m0_1, (m0_2, (m0_3, m0_4))))))
 else
 some (Sum.inr (t3, (m0, (m0_1, (m0_2, (m0_3, m0_4))))))
def qbr_W6 (n : Nat) (s : (Int × Int) × DH × DI × DJ × DC × DD) : Option (Int × DH × DI × DJ × DC × DD) := loopS (fun s => qbr_B6 n s.1.1 s.1.2 s.2.1 s.2.2.1 s.2.2.2.1 s.2.2.2.2.1 s.2.2.2.2.2) n s
def qbr (n : Nat) (t0 : DH) (t0_1 : DI) (t0_2 : DJ) (t0_3 : DC) (t0_4 : DD) : Option (Bool) :=
 bif (decide ((addI .i64 (addI .i64 (addI .i64 (addI .i64 (lenI t0) (lenI t0_1)) (lenI t0_2)) (lenI t0_3)) (lenI t0_4)) > 200)) then
 some false
 else
 (qbr_W0 n (((addI .i64 (addI .i64 (addI .i64 (addI .i64 (lenI t0) (lenI t0_1)) (lenI t0_2)) (lenI t0_3)) (lenI t0_4)), 0), (t0, (t0_1, (t0_2, (t0_3, t0_4)))))).bind fun r12 =>
 (qbr_W2 n ((r12.1, 0), (r12.2.1, (r12.2.2.1, (r12.2.2.2.1, (r12.2.2.2.2.1, r12.2.2.2.2.2)))))).bind fun r13 =>
 (qbr_W4 n ((r13.1, 0), (r13.2.1, (r13.2.2.1, (r13.2.2.2.1, (r13.2.2.2.2.1, r13.2.2.2.2.2)))))).bind fun r14 =>
 (qbr_W6 n ((r14.1, 0), (r14.2.1, (r14.2.2.1, (r14.2.2.2.1, (r14.2.2.2.2.1, r14.2.2.2.2.2)))))).bind fun r15 =>
 some (decide (r15.1 < 3000))
def qch (n : Nat) (t_0 : Int) (t_0_1 : Int) (recs_1 : Int) : Option (Bool) :=
 bif (t_0 == 1) then
 some (t_0_1 == 0)
 else
 bif (t_0 == 2) then
 some (t_0_1 == 0)
 else
 bif (t_0 == 3) then
 some (t_0_1 == 0)
 else
 bif (t_0 == 7) then
 some (t_0_1 == 0)
 else
 bif (t_0 == 4) then
 bif (decide (t_0_1 ≥ 0)) then
 some (decide (t_0_1 < recs_1))
 else
 some false
 else
 bif (t_0 == 5) then
 bif (decide (t_0_1 ≥ 0)) then
 some (decide (t_0_1 < 4))
 else
 some false
 else
 some false
def qbq (n : Nat) (t_0 : Int) (t_0_1 : Int) (m0 : Int) : Option (Bool × Int) :=
 (qch n t_0 t_0_1 m0).bind fun r19 =>
 some ((!r19), m0)
def qav_B0 (n : Nat) (s_0 : DA) (t7 : Int) (t8 : Int) (m0 : Int) : Option (((DA × Int × Int) × Int) ⊕ ((Int × Int) ⊕ (Int))) :=
 bif (decide (t8 < t7)) then
 (getI s_0 t8).bind fun x20 =>
 (qbq n x20.1 x20.2 m0).bind fun r21 =>
 bif r21.1 then
 some (Sum.inr (Sum.inl (t8, r21.2)))
 else
 some (Sum.inl ((s_0, (t7, (addI .i64 t8 1))), r21.2))
 else
 some (Sum.inr (Sum.inr m0))
def qav_W0 (n : Nat) (s : (DA × Int × Int) × Int) : Option ((Int × Int) ⊕ (Int)) := loopS (fun s => qav_B0 n s.1.1 s.1.2.1 s.1.2.2 s.2) n s
def qav (n : Nat) (s_0 : DA) (m0 : Int) : Option (Int × Int) :=
 (qav_W0 n ((s_0, ((lenI s_0), 0)), m0)).bind fun r22 =>
 Sum.rec (fun u23 =>
 some (u23.1, u23.2)) (fun v24 =>
 some ((-1), v24)) r22
def qq (n : Nat) (s_0 : DA) (m0 : Int) : Option (Bool × Int) :=
 (qav n s_0 m0).bind fun r25 =>
 some ((decide (r25.1 ≥ 0)), r25.2)
def qby (n : Nat) (list_0 : DA) (recs_1 : Int) (most_2 : Int) : Option (Bool) :=
 bif (decide ((lenI list_0) ≤ most_2)) then
 (qq n list_0 recs_1).bind fun r26 =>
 some (!r26.1)
 else
 some false
def qbh (n : Nat) (l_0 : DA) (m0 : Int) : Option (Bool × Int) :=
 (qby n l_0 m0 6).bind fun r27 =>
 some ((!r27), m0)
def qab_B0 (n : Nat) (s_0 : DH) (t7 : Int) (t8 : Int) (m0 : Int) : Option (((DH × Int × Int) × Int) ⊕ ((Int × Int) ⊕ (Int))) :=
 bif (decide (t8 < t7)) then
 (getI s_0 t8).bind fun x28 =>
 (qbh n x28 m0).bind fun r29 =>
 bif r29.1 then
 some (Sum.inr (Sum.inl (t8, r29.2)))
 else
 some (Sum.inl ((s_0, (t7, (addI .i64 t8 1))), r29.2))
 else
 some (Sum.inr (Sum.inr m0))
def qab_W0 (n : Nat) (s : (DH × Int × Int) × Int) : Option ((Int × Int) ⊕ (Int)) := loopS (fun s => qab_B0 n s.1.1 s.1.2.1 s.1.2.2 s.2) n s
def qab (n : Nat) (s_0 : DH) (m0 : Int) : Option (Int × Int) :=
 (qab_W0 n ((s_0, ((lenI s_0), 0)), m0)).bind fun r30 =>
 Sum.rec (fun u31 =>
 some (u31.1, u31.2)) (fun v32 =>
 some ((-1), v32)) r30
def qf (n : Nat) (s_0 : DH) (m0 : Int) : Option (Bool × Int) :=
 (qab n s_0 m0).bind fun r33 =>
 some ((decide (r33.1 ≥ 0)), r33.2)
def qci (n : Nat) (op_0 : Int) : Option (Int) :=
 bif (op_0 == 29) then
 some 2
 else
 bif (op_0 == 30) then
 some 2
 else
 bif (op_0 == 0) then
 some 1
 else
 bif (op_0 == 1) then
 some 1
 else
 bif (op_0 == 3) then
 some 1
 else
 bif (op_0 == 4) then
 some 1
 else
 bif (op_0 == 23) then
 some 1
 else
 bif (op_0 == 24) then
 some 1
 else
 bif (op_0 == 25) then
 some 1
 else
 bif (op_0 == 27) then
 some 1
 else
 bif (op_0 == 28) then
 some 1
 else
 bif (decide (op_0 < 0)) then
 some (-1)
 else
 bif (decide (op_0 ≥ 42)) then
 some (-1)
 else
 some 0
def qcl (n : Nat) (n_0 : Int) (has_1 : Bool) : Option (Bool) :=
 bif (decide (n_0 ≥ 0)) then
 bif (decide (n_0 ≤ 255)) then
 bif has_1 then
 some true
 else
 some (n_0 == 0)
 else
 some false
 else
 some false
def qcq_B0 (n : Nat) (v_0 : Int) (m0 : DC) : Option ((Int × DC) ⊕ (Int × DC)) :=
 bif (decide (v_0 ≥ 128)) then
 bif (Nat.ble (List.length (m0 ++ ((orI .u8 (cvtI .u8 v_0) 128) :: ([] : DE)))) 4294967296) then
 some (Sum.inl ((shrI .u64 v_0 7), (m0 ++ ((orI .u8 (cvtI .u8 v_0) 128) :: ([] : DE)))))
 else none
 else
 some (Sum.inr (v_0, m0))
def qcq_W0 (n : Nat) (s : Int × DC) : Option (Int × DC) := loopS (fun s => qcq_B0 n s.1 s.2) n s
def qcq (n : Nat) (v_0 : Int) : Option DC :=
 (qcq_W0 n (v_0, ([] : DE))).bind fun r45 =>
 bif (Nat.ble (List.length (r45.2 ++ ((cvtI .u8 r45.1) :: ([] : DE)))) 4294967296) then
 some (r45.2 ++ ((cvtI .u8 r45.1) :: ([] : DE)))
 else none
def qco_B0 (n : Nat) (t39 : Nat × Nat) (t40 : Int) (t41 : Int) (m0 : DC) (m1 : Int) (m1_1 : Int) : Option ((((Nat × Nat) × Int × Int) × DC × Int × Int) ⊕ (DC × Int × Int)) :=
 bif (decide (t41 < t40)) then
 bif ((decide (0 ≤ t41)) && (decide (t41 < ((t39.2 : Nat) : Int)))) then
 bif (Nat.beq (((t39.1 + (Int.toNat t41)) * 1) + 0) 0) then
 (qcq n (cvtI .u64 m1)).bind fun r46 =>
 bif (Nat.ble (List.length (m0 ++ r46)) 4294967296) then
 some (Sum.inl (((t39.1, t39.2), (t40, (addI .i64 t41 1))), ((m0 ++ r46), (m1, m1_1))))
 else none
 else
 bif (Nat.beq (((t39.1 + (Int.toNat t41)) * 1) + 0) 1) then
 (qcq n (cvtI .u64 m1_1)).bind fun r47 =>
 bif (Nat.ble (List.length (m0 ++ r47)) 4294967296) then
 some (Sum.inl (((t39.1, t39.2), (t40, (addI .i64 t41 1))), ((m0 ++ r47), (m1, m1_1))))
 else none
 else none
 else none
 else
 some (Sum.inr (m0, (m1, m1_1)))
def qco_W0 (n : Nat) (s : ((Nat × Nat) × Int × Int) × DC × Int × Int) : Option (DC × Int × Int) := loopS (fun s => qco_B0 n s.1.1 s.1.2.1 s.1.2.2 s.2.1 s.2.2.1 s.2.2.2) n s
def qco (n : Nat) (i_0 : Int) (i_0_1 : Int) (i_0_2 : Int) : Option DC :=
 (qci n i_0).bind fun r48 =>
 bif (decide (r48 < 0)) then
 some ([] : DE)
 else
 (qcl n i_0_1 (decide (r48 > 0))).bind fun r49 =>
 bif (!r49) then
 some ([] : DE)
 else
 (qcl n i_0_2 (decide (r48 > 1))).bind fun r50 =>
 bif (!r50) then
 some ([] : DE)
 else
 bif ((decide (0 ≤ r48)) && (decide (r48 ≤ 2))) then
 (qco_W0 n (((0, ((Int.toNat r48) - 0)), (((((Int.toNat r48) - 0) : Nat) : Int), 0)), (((cvtI .u8 i_0) :: ([] : DE)), (i_0_1, i_0_2)))).bind fun r51 =>
 some r51.1
 else none
def qah (n : Nat) (i_0 : Int) (i_0_1 : Int) (i_0_2 : Int) : Option (Bool) :=
 (qco n i_0 i_0_1 i_0_2).bind fun r52 =>
 some ((lenI r52) == 0)
def qaj_B0 (n : Nat) (s_0 : DB) (t7 : Int) (t8 : Int) : Option ((DB × Int × Int) ⊕ ((Int) ⊕ (Unit))) :=
 bif (decide (t8 < t7)) then
 (getI s_0 t8).bind fun x53 =>
 (qah n x53.1 x53.2.1 x53.2.2).bind fun r54 =>
 bif r54 then
 some (Sum.inr (Sum.inl t8))
 else
 some (Sum.inl (s_0, (t7, (addI .i64 t8 1))))
 else
 some (Sum.inr (Sum.inr ()))
def qaj_W0 (n : Nat) (s : DB × Int × Int) : Option ((Int) ⊕ (Unit)) := loopS (fun s => qaj_B0 n s.1 s.2.1 s.2.2) n s
def qaj (n : Nat) (s_0 : DB) : Option (Int) :=
 (qaj_W0 n (s_0, ((lenI s_0), 0))).bind fun r55 =>
 Sum.rec (fun u56 =>
 some u56) (fun v57 =>
 some (-1)) r55
def qi (n : Nat) (s_0 : DB) : Option (Bool) :=
 (qaj n s_0).bind fun r58 =>
 some (decide (r58 ≥ 0))
def qak (n : Nat) (f_0 : DA) (f_0_1 : Int) (f_0_2 : Int) (f_0_3 : DA) (f_0_4 : DB) (recs_1 : Int) : Option (Bool) :=
 (qby n f_0 recs_1 4).bind fun r59 =>
 bif r59 then
 (qch n f_0_1 f_0_2 recs_1).bind fun r60 =>
 bif r60 then
 (qby n f_0_3 recs_1 (subI .i64 8 (lenI f_0))).bind fun r61 =>
 bif r61 then
 bif (decide ((lenI f_0_4) ≥ 1)) then
 bif (decide ((lenI f_0_4) ≤ 64)) then
 (qi n f_0_4).bind fun r62 =>
 some (!r62)
 else
 some false
 else
 some false
 else
 some false
 else
 some false
 else
 some false
def qbi (n : Nat) (f_0 : DA) (f_0_1 : Int) (f_0_2 : Int) (f_0_3 : DA) (f_0_4 : DB) (m0 : Int) : Option (Bool × Int) :=
 (qak n f_0 f_0_1 f_0_2 f_0_3 f_0_4 m0).bind fun r63 =>
 some ((!r63), m0)
def qax_B0 (n : Nat) (s_0 : DI) (t7 : Int) (t8 : Int) (m0 : Int) : Option (((DI × Int × Int) × Int) ⊕ ((Int × Int) ⊕ (Int))) :=
 bif (decide (t8 < t7)) then
 (getI s_0 t8).bind fun x64 =>
 (qbi n x64.1 x64.2.1 x64.2.2.1 x64.2.2.2.1 x64.2.2.2.2 m0).bind fun r65 =>
 bif r65.1 then
 some (Sum.inr (Sum.inl (t8, r65.2)))
 else
 some (Sum.inl ((s_0, (t7, (addI .i64 t8 1))), r65.2))
 else
 some (Sum.inr (Sum.inr m0))
def qax_W0 (n : Nat) (s : (DI × Int × Int) × Int) : Option ((Int × Int) ⊕ (Int)) := loopS (fun s => qax_B0 n s.1.1 s.1.2.1 s.1.2.2 s.2) n s
def qax (n : Nat) (s_0 : DI) (m0 : Int) : Option (Int × Int) :=
 (qax_W0 n ((s_0, ((lenI s_0), 0)), m0)).bind fun r66 =>
 Sum.rec (fun u67 =>
 some (u67.1, u67.2)) (fun v68 =>
 some ((-1), v68)) r66
def qv (n : Nat) (s_0 : DI) (m0 : Int) : Option (Bool × Int) :=
 (qax n s_0 m0).bind fun r69 =>
 some ((decide (r69.1 ≥ 0)), r69.2)
def qbp (n : Nat) (i_0 : DA) (i_0_1 : Int) (i_0_2 : Int) (m0 : Int) : Option (Bool × Int) :=
 (qby n i_0 m0 4).bind fun r74 =>
 bif (!r74) then
 some (true, m0)
 else
 (qch n i_0_1 i_0_2 m0).bind fun r75 =>
 some ((!r75), m0)
def qaa_B0 (n : Nat) (s_0 : DJ) (t7 : Int) (t8 : Int) (m0 : Int) : Option (((DJ × Int × Int) × Int) ⊕ ((Int × Int) ⊕ (Int))) :=
 bif (decide (t8 < t7)) then
 (getI s_0 t8).bind fun x76 =>
 (qbp n x76.1 x76.2.1 x76.2.2 m0).bind fun r77 =>
 bif r77.1 then
 some (Sum.inr (Sum.inl (t8, r77.2)))
 else
 some (Sum.inl ((s_0, (t7, (addI .i64 t8 1))), r77.2))
 else
 some (Sum.inr (Sum.inr m0))
def qaa_W0 (n : Nat) (s : (DJ × Int × Int) × Int) : Option ((Int × Int) ⊕ (Int)) := loopS (fun s => qaa_B0 n s.1.1 s.1.2.1 s.1.2.2 s.2) n s
def qaa (n : Nat) (s_0 : DJ) (m0 : Int) : Option (Int × Int) :=
 (qaa_W0 n ((s_0, ((lenI s_0), 0)), m0)).bind fun r78 =>
 Sum.rec (fun u79 =>
 some (u79.1, u79.2)) (fun v80 =>
 some ((-1), v80)) r78
def qg (n : Nat) (s_0 : DJ) (m0 : Int) : Option (Bool × Int) :=
 (qaa n s_0 m0).bind fun r81 =>
 some ((decide (r81.1 ≥ 0)), r81.2)
def qbk (n : Nat) (s_0 : ByteArray) : Option (Bool) :=
 some (decide ((lenS s_0) > 32))
def qad_B0 (n : Nat) (s_0 : DD) (t7 : Int) (t8 : Int) : Option ((DD × Int × Int) ⊕ ((Int) ⊕ (Unit))) :=
 bif (decide (t8 < t7)) then
 (getI s_0 t8).bind fun x86 =>
 (qbk n x86).bind fun r87 =>
 bif r87 then
 some (Sum.inr (Sum.inl t8))
 else
 some (Sum.inl (s_0, (t7, (addI .i64 t8 1))))
 else
 some (Sum.inr (Sum.inr ()))
def qad_W0 (n : Nat) (s : DD × Int × Int) : Option ((Int) ⊕ (Unit)) := loopS (fun s => qad_B0 n s.1 s.2.1 s.2.2) n s
def qad (n : Nat) (s_0 : DD) : Option (Int) :=
 (qad_W0 n (s_0, ((lenI s_0), 0))).bind fun r88 =>
 Sum.rec (fun u89 =>
 some u89) (fun v90 =>
 some (-1)) r88
def qe (n : Nat) (s_0 : DD) : Option (Bool) :=
 (qad n s_0).bind fun r91 =>
 some (decide (r91 ≥ 0))
def qbt (n : Nat) (t0 : DH) (t0_1 : DI) (t0_2 : DJ) (t0_3 : DC) (t0_4 : DD) : Option (Bool) :=
 bif (decide ((lenI t0) ≤ 8)) then
 (qf n t0 (lenI t0)).bind fun r92 =>
 bif (!r92.1) then
 bif (decide ((lenI t0_1) ≥ 1)) then
 bif (decide ((lenI t0_1) ≤ 8)) then
 (qv n t0_1 r92.2).bind fun r93 =>
 bif (!r93.1) then
 bif (decide ((lenI t0_2) ≤ 8)) then
 (qg n t0_2 r93.2).bind fun r94 =>
 bif (!r94.1) then
 bif (decide ((lenI t0_3) ≤ 16)) then
 bif (decide ((lenI t0_4) ≤ 16)) then
 (qe n t0_4).bind fun r95 =>
 some (!r95)
 else
 some false
 else
 some false
 else
 some false
 else
 some false
 else
 some false
 else
 some false
 else
 some false
 else
 some false
 else
 some false
def qo (n : Nat) (n_1 : Int) : Option DC :=
 (qcq n (cvtI .u64 n_1)).bind fun r97 =>
 bif (Nat.ble (List.length r97) 4294967296) then
 some r97
 else none
def qc (n : Nat) (n_1 : Int) (m1 : DC) : Option DC :=
 (qcq n (cvtI .u64 n_1)).bind fun r100 =>
 bif (Nat.ble (List.length (m1 ++ r100)) 4294967296) then
 some (m1 ++ r100)
 else none
def qcm (n : Nat) (t_0 : Int) (t_0_1 : Int) : Option DC :=
 (qcq n (cvtI .u64 (maxI t_0 0))).bind fun r103 =>
 (qcq n (cvtI .u64 (maxI t_0_1 0))).bind fun r104 =>
 bif (Nat.ble (List.length (r103 ++ r104)) 4294967296) then
 some (r103 ++ r104)
 else none
def qm_B0 (n : Nat) (t10 : DA) (t11 : Int) (t12 : Int) (m1 : DC) : Option (((DA × Int × Int) × DC) ⊕ DC) :=
 bif (decide (t12 < t11)) then
 (getI t10 t12).bind fun x105 =>
 (qcm n x105.1 x105.2).bind fun r106 =>
 bif (Nat.ble (List.length (m1 ++ r106)) 4294967296) then
 some (Sum.inl ((t10, (t11, (addI .i64 t12 1))), (m1 ++ r106)))
 else none
 else
 some (Sum.inr m1)
def qm_W0 (n : Nat) (s : (DA × Int × Int) × DC) : Option DC := loopS (fun s => qm_B0 n s.1.1 s.1.2.1 s.1.2.2 s.2) n s
def qm (n : Nat) (list_1 : DA) (m1 : DC) : Option DC :=
 (qc n (lenI list_1) m1).bind fun r107 =>
 (qm_W0 n ((list_1, ((lenI list_1), 0)), r107)).bind fun r108 =>
 some r108
def qaq_B0 (n : Nat) (t14 : DH) (t15 : Int) (t16 : Int) (m1 : DC) : Option (((DH × Int × Int) × DC) ⊕ DC) :=
 bif (decide (t16 < t15)) then
 (getI t14 t16).bind fun x109 =>
 (qm n x109 m1).bind fun r110 =>
 some (Sum.inl ((t14, (t15, (addI .i64 t16 1))), r110))
 else
 some (Sum.inr m1)
def qaq_W0 (n : Nat) (s : (DH × Int × Int) × DC) : Option DC := loopS (fun s => qaq_B0 n s.1.1 s.1.2.1 s.1.2.2 s.2) n s
def qaq (n : Nat) (m_0 : DH) (m_0_1 : DI) (m_0_2 : DJ) (m_0_3 : DC) (m_0_4 : DD) : Option DC :=
 (qo n (lenI m_0)).bind fun r111 =>
 (qaq_W0 n ((m_0, ((lenI m_0), 0)), r111)).bind fun r112 =>
 some r112
def qz_B2 (n : Nat) (t16 : DI) (t17 : Int) (t18 : Int) (t47 : DB) (t48 : Int) (t49 : Int) (m1 : DC) : Option (((DI × Int × Int × DB × Int × Int) × DC) ⊕ ((DI × Int × Int) × DC)) :=
 bif (decide (t49 < t48)) then
 (getI t47 t49).bind fun x129 =>
 (qco n x129.1 x129.2.1 x129.2.2).bind fun r130 =>
 bif (Nat.ble (List.length (m1 ++ r130)) 4294967296) then
 some (Sum.inl ((t16, (t17, (t18, (t47, (t48, (addI .i64 t49 1)))))), (m1 ++ r130)))
 else none
 else
 some (Sum.inr ((t16, (t17, t18)), m1))
def qz_W2 (n : Nat) (s : (DI × Int × Int × DB × Int × Int) × DC) : Option ((DI × Int × Int) × DC) := loopS (fun s => qz_B2 n s.1.1 s.1.2.1 s.1.2.2.1 s.1.2.2.2.1 s.1.2.2.2.2.1 s.1.2.2.2.2.2 s.2) n s
def qz_B0 (n : Nat) (t16 : DI) (t17 : Int) (t18 : Int) (m1 : DC) : Option (((DI × Int × Int) × DC) ⊕ DC) :=
 bif (decide (t18 < t17)) then
 (getI t16 t18).bind fun x131 =>
 (qm n x131.1 m1).bind fun r132 =>
 (qcm n x131.2.1 x131.2.2.1).bind fun r133 =>
 bif (Nat.ble (List.length (r132 ++ r133)) 4294967296) then
 (qm n x131.2.2.2.1 (r132 ++ r133)).bind fun r134 =>
 (qc n (lenI x131.2.2.2.2) r134).bind fun r135 =>
 (qz_W2 n ((t16, (t17, (t18, (x131.2.2.2.2, ((lenI x131.2.2.2.2), 0))))), r135)).bind fun r136 =>
 some (Sum.inl ((r136.1.1, (r136.1.2.1, (addI .i64 r136.1.2.2 1))), r136.2))
 else none
 else
 some (Sum.inr m1)
def qz_W0 (n : Nat) (s : (DI × Int × Int) × DC) : Option DC := loopS (fun s => qz_B0 n s.1.1 s.1.2.1 s.1.2.2 s.2) n s
def qz (n : Nat) (t0 : DH) (t0_1 : DI) (t0_2 : DJ) (t0_3 : DC) (t0_4 : DD) : Option DC :=
 (qo n (lenI t0_1)).bind fun r137 =>
 (qz_W0 n ((t0_1, ((lenI t0_1), 0)), r137)).bind fun r138 =>
 some r138
def qao_B0 (n : Nat) (t14 : DJ) (t15 : Int) (t16 : Int) (m1 : DC) : Option (((DJ × Int × Int) × DC) ⊕ DC) :=
 bif (decide (t16 < t15)) then
 (getI t14 t16).bind fun x146 =>
 (qm n x146.1 m1).bind fun r147 =>
 (qcm n x146.2.1 x146.2.2).bind fun r148 =>
 bif (Nat.ble (List.length (r147 ++ r148)) 4294967296) then
 some (Sum.inl ((t14, (t15, (addI .i64 t16 1))), (r147 ++ r148)))
 else none
 else
 some (Sum.inr m1)
def qao_W0 (n : Nat) (s : (DJ × Int × Int) × DC) : Option DC := loopS (fun s => qao_B0 n s.1.1 s.1.2.1 s.1.2.2 s.2) n s
def qao (n : Nat) (m_0 : DH) (m_0_1 : DI) (m_0_2 : DJ) (m_0_3 : DC) (m_0_4 : DD) : Option DC :=
 (qo n (lenI m_0_2)).bind fun r149 =>
 (qao_W0 n ((m_0_2, ((lenI m_0_2), 0)), r149)).bind fun r150 =>
 some r150
def qck_B0 (n : Nat) (v_0 : Int) (t9 : Int) (t10 : Int) (m0 : DC) : Option (((Int × Int × Int) × DC) ⊕ DC) :=
 bif (decide (t10 < t9)) then
 bif (decide (0 ≤ (mulI .i64 8 t10))) then
 bif (Nat.ble (List.length (m0 ++ ((cvtI .u8 (shrI .u64 v_0 (mulI .i64 8 t10))) :: ([] : DE)))) 4294967296) then
 some (Sum.inl ((v_0, (t9, (addI .i64 t10 1))), (m0 ++ ((cvtI .u8 (shrI .u64 v_0 (mulI .i64 8 t10))) :: ([] : DE)))))
 else none
 else none
 else
 some (Sum.inr m0)
def qck_W0 (n : Nat) (s : (Int × Int × Int) × DC) : Option DC := loopS (fun s => qck_B0 n s.1.1 s.1.2.1 s.1.2.2 s.2) n s
def qck (n : Nat) (v_0 : Int) (n_1 : Int) : Option DC :=
 (qck_W0 n ((v_0, ((minI (maxI n_1 0) 8), 0)), ([] : DE))).bind fun r157 =>
 some r157
def qas_B0 (n : Nat) (t14 : DC) (t15 : Int) (t16 : Int) (m1 : DC) : Option (((DC × Int × Int) × DC) ⊕ DC) :=
 bif (decide (t16 < t15)) then
 (getI t14 t16).bind fun x158 =>
 (qck n x158 8).bind fun r159 =>
 bif (Nat.ble (List.length (m1 ++ r159)) 4294967296) then
 some (Sum.inl ((t14, (t15, (addI .i64 t16 1))), (m1 ++ r159)))
 else none
 else
 some (Sum.inr m1)
def qas_W0 (n : Nat) (s : (DC × Int × Int) × DC) : Option DC := loopS (fun s => qas_B0 n s.1.1 s.1.2.1 s.1.2.2 s.2) n s
def qas (n : Nat) (m_0 : DH) (m_0_1 : DI) (m_0_2 : DJ) (m_0_3 : DC) (m_0_4 : DD) : Option DC :=
 (qo n (lenI m_0_3)).bind fun r160 =>
 (qas_W0 n ((m_0_3, ((lenI m_0_3), 0)), r160)).bind fun r161 =>
 some r161
def qbm_B0 (n : Nat) (t14 : DD) (t15 : Int) (t16 : Int) (m1 : DC) : Option (((DD × Int × Int) × DC) ⊕ DC) :=
 bif (decide (t16 < t15)) then
 (getI t14 t16).bind fun x169 =>
 (qc n (lenS x169) m1).bind fun r170 =>
 bif (Nat.ble (List.length (r170 ++ (bytesInts x169))) 4294967296) then
 some (Sum.inl ((t14, (t15, (addI .i64 t16 1))), (r170 ++ (bytesInts x169))))
 else none
 else
 some (Sum.inr m1)
def qbm_W0 (n : Nat) (s : (DD × Int × Int) × DC) : Option DC := loopS (fun s => qbm_B0 n s.1.1 s.1.2.1 s.1.2.2 s.2) n s
def qbm (n : Nat) (m_0 : DH) (m_0_1 : DI) (m_0_2 : DJ) (m_0_3 : DC) (m_0_4 : DD) : Option DC :=
 (qo n (lenI m_0_4)).bind fun r171 =>
 (qbm_W0 n ((m_0_4, ((lenI m_0_4), 0)), r171)).bind fun r172 =>
 some r172
def qcj_B0 (n : Nat) (t10 : DK) (t11 : Int) (t12 : Int) (m0 : DC) : Option (((DK × Int × Int) × DC) ⊕ DC) :=
 bif (decide (t12 < t11)) then
 (getI t10 t12).bind fun x180 =>
 (qcq n (cvtI .u64 (lenI x180))).bind fun r181 =>
 bif (Nat.ble (List.length (m0 ++ r181)) 4294967296) then
 bif (Nat.ble (List.length ((m0 ++ r181) ++ x180)) 4294967296) then
 some (Sum.inl ((t10, (t11, (addI .i64 t12 1))), ((m0 ++ r181) ++ x180)))
 else none
 else none
 else
 some (Sum.inr m0)
def qcj_W0 (n : Nat) (s : (DK × Int × Int) × DC) : Option DC := loopS (fun s => qcj_B0 n s.1.1 s.1.2.1 s.1.2.2 s.2) n s
def qcj (n : Nat) (parts_0 : DK) : Option DC :=
 (qcq n (cvtI .u64 (lenI parts_0))).bind fun r182 =>
 (qcj_W0 n ((parts_0, ((lenI parts_0), 0)), r182)).bind fun r183 =>
 some r183
def qbe (n : Nat) (m_0 : DH) (m_0_1 : DI) (m_0_2 : DJ) (m_0_3 : DC) (m_0_4 : DD) : Option (DC × Int) :=
 (qbt n m_0 m_0_1 m_0_2 m_0_3 m_0_4).bind fun r184 =>
 bif (!r184) then
 some (([] : DE), 2)
 else
 (qaq n m_0 m_0_1 m_0_2 m_0_3 m_0_4).bind fun r185 =>
 (qz n m_0 m_0_1 m_0_2 m_0_3 m_0_4).bind fun r186 =>
 (qao n m_0 m_0_1 m_0_2 m_0_3 m_0_4).bind fun r187 =>
 (qas n m_0 m_0_1 m_0_2 m_0_3 m_0_4).bind fun r188 =>
 (qbm n m_0 m_0_1 m_0_2 m_0_3 m_0_4).bind fun r189 =>
 (qcj n (r185 :: (r186 :: (r187 :: (r188 :: (r189 :: ([] : DK))))))).bind fun r190 =>
 some (r190, 0)
def qbg (n : Nat) (b_0 : DC) : Option (DC × Bool) :=
 bif (Nat.ble (List.length b_0) 4294967296) then
 some (b_0, false)
 else none
def qbf (n : Nat) (m0 : DC) (m0_1 : Bool) : Option (Bool × DC × Bool) :=
 some (m0_1, (m0, m0_1))
def qau (n : Nat) (m0 : DC) (m0_1 : Bool) : Option (DC × Bool) :=
 some (m0, true)
def qaw (n : Nat) (n_1 : Int) (m0 : DC) (m0_1 : Bool) : Option (DC × DC × Bool) :=
 (qbf n m0 m0_1).bind fun r194 =>
 bif r194.1 then
 (qau n r194.2.1 r194.2.2).bind fun r195 =>
 some (([] : DE), (r195.1, r195.2))
 else
 bif (decide (n_1 < 0)) then
 (qau n r194.2.1 r194.2.2).bind fun r196 =>
 some (([] : DE), (r196.1, r196.2))
 else
 bif (decide (n_1 > (lenI r194.2.1))) then
 (qau n r194.2.1 r194.2.2).bind fun r197 =>
 some (([] : DE), (r197.1, r197.2))
 else
 bif ((decide (0 ≤ n_1)) && (decide (n_1 ≤ (((List.length r194.2.1) : Nat) : Int)))) then
 bif (Nat.ble (List.length (List.take (Int.toNat n_1) r194.2.1)) 4294967296) then
 bif ((decide (0 ≤ n_1)) && (decide (n_1 ≤ (((List.length r194.2.1) : Nat) : Int)))) then
 some ((List.take (Int.toNat n_1) r194.2.1), ((List.drop (Int.toNat n_1) (List.take (List.length r194.2.1) r194.2.1)), r194.2.2))
 else none
 else none
 else none
def qbb_B0 (n : Nat) (v_3 : Int) (k_4 : Int) (m0 : DC) (m0_1 : Bool) : Option (((Int × Int) × DC × Bool) ⊕ (Int × DC × Bool)) :=
 (qaw n 1 m0 m0_1).bind fun r200 =>
 bif ((lenI r200.1) == 0) then
 some (Sum.inr (0, (r200.2.1, r200.2.2)))
 else
 (getI r200.1 0).bind fun x201 =>
 bif (k_4 == 9) then
 bif (decide (x201 > 1)) then
 (qau n r200.2.1 r200.2.2).bind fun r202 =>
 some (Sum.inr (0, (r202.1, r202.2)))
 else
 bif (decide (k_4 > 0)) then
 bif (x201 == 0) then
 (qau n r200.2.1 r200.2.2).bind fun r203 =>
 some (Sum.inr (0, (r203.1, r203.2)))
 else
 bif (decide (0 ≤ (mulI .i64 7 k_4))) then
 bif (decide (x201 < 128)) then
 some (Sum.inr ((orI .u64 v_3 (shlI .u64 (cvtI .u64 (andNotI .u8 x201 128)) (mulI .i64 7 k_4))), (r200.2.1, r200.2.2)))
 else
 some (Sum.inl (((orI .u64 v_3 (shlI .u64 (cvtI .u64 (andNotI .u8 x201 128)) (mulI .i64 7 k_4))), (addI .i64 k_4 1)), (r200.2.1, r200.2.2)))
 else none
 else
 bif (decide (0 ≤ (mulI .i64 7 k_4))) then
 bif (decide (x201 < 128)) then
 some (Sum.inr ((orI .u64 v_3 (shlI .u64 (cvtI .u64 (andNotI .u8 x201 128)) (mulI .i64 7 k_4))), (r200.2.1, r200.2.2)))
 else
 some (Sum.inl (((orI .u64 v_3 (shlI .u64 (cvtI .u64 (andNotI .u8 x201 128)) (mulI .i64 7 k_4))), (addI .i64 k_4 1)), (r200.2.1, r200.2.2)))
 else none
 else
 bif (decide (k_4 > 0)) then
 bif (x201 == 0) then
 (qau n r200.2.1 r200.2.2).bind fun r204 =>
 some (Sum.inr (0, (r204.1, r204.2)))
 else
 bif (decide (0 ≤ (mulI .i64 7 k_4))) then
 bif (decide (x201 < 128)) then
 some (Sum.inr ((orI .u64 v_3 (shlI .u64 (cvtI .u64 (andNotI .u8 x201 128)) (mulI .i64 7 k_4))), (r200.2.1, r200.2.2)))
 else
 some (Sum.inl (((orI .u64 v_3 (shlI .u64 (cvtI .u64 (andNotI .u8 x201 128)) (mulI .i64 7 k_4))), (addI .i64 k_4 1)), (r200.2.1, r200.2.2)))
 else none
 else
 bif (decide (0 ≤ (mulI .i64 7 k_4))) then
 bif (decide (x201 < 128)) then
 some (Sum.inr ((orI .u64 v_3 (shlI .u64 (cvtI .u64 (andNotI .u8 x201 128)) (mulI .i64 7 k_4))), (r200.2.1, r200.2.2)))
 else
 some (Sum.inl (((orI .u64 v_3 (shlI .u64 (cvtI .u64 (andNotI .u8 x201 128)) (mulI .i64 7 k_4))), (addI .i64 k_4 1)), (r200.2.1, r200.2.2)))
 else none
def qbb_W0 (n : Nat) (s : (Int × Int) × DC × Bool) : Option (Int × DC × Bool) := loopS (fun s => qbb_B0 n s.1.1 s.1.2 s.2.1 s.2.2) n s
def qbb (n : Nat) (m0 : DC) (m0_1 : Bool) : Option (Int × DC × Bool) :=
 (qbb_W0 n ((0, 0), (m0, m0_1))).bind fun r205 =>
 some (r205.1, (r205.2.1, r205.2.2))
def qcd (n : Nat) (most_1 : Int) (m0 : DC) (m0_1 : Bool) : Option ((Int × Bool) × DC × Bool) :=
 (qbb n m0 m0_1).bind fun r207 =>
 (qbf n r207.2.1 r207.2.2).bind fun r208 =>
 bif (!r208.1) then
 bif (decide (most_1 ≥ 0)) then
 some (((cvtI .i64 (minI r207.1 (cvtI .u64 (maxI most_1 0)))), (decide (r207.1 ≤ (cvtI .u64 most_1)))), (r208.2.1, r208.2.2))
 else
 some (((cvtI .i64 (minI r207.1 (cvtI .u64 (maxI most_1 0)))), false), (r208.2.1, r208.2.2))
 else
 some (((cvtI .i64 (minI r207.1 (cvtI .u64 (maxI most_1 0)))), false), (r208.2.1, r208.2.2))
def qat (n : Nat) (m0 : DC) (m0_1 : Bool) : Option (Int × DC × Bool) :=
 (qbf n m0 m0_1).bind fun r211 =>
 bif r211.1 then
 some (0, (r211.2.1, r211.2.2))
 else
 some ((lenI r211.2.1), (r211.2.1, r211.2.2))
def qcf_B0 (n : Nat) (t22 : Int) (t23 : Int) (m0 : DC) (m0_1 : Bool) (m1 : DK) : Option (((Int × Int) × (DC × Bool) × DK) ⊕ (((DK × Int) × (DC × Bool) × DK) ⊕ (((DK × Int) × (DC × Bool) × DK) ⊕ ((DC × Bool) × DK)))) :=
 bif (decide (t23 < t22)) then
 (qat n m0 m0_1).bind fun r217 =>
 (qcd n r217.1 r217.2.1 r217.2.2).bind fun r218 =>
 bif (!r218.1.2) then
 some (Sum.inr (Sum.inl ((([] : DK), 2), ((r218.2.1, r218.2.2), m1))))
 else
 (qaw n r218.1.1 r218.2.1 r218.2.2).bind fun r219 =>
 bif (Nat.ble (List.length (m1 ++ (r219.1 :: ([] : DK)))) 4294967296) then
 (qbf n r219.2.1 r219.2.2).bind fun r220 =>
 bif r220.1 then
 some (Sum.inr (Sum.inr (Sum.inl ((([] : DK), 2), ((r220.2.1, r220.2.2), (m1 ++ (r219.1 :: ([] : DK))))))))
 else
 some (Sum.inl ((t22, (addI .i64 t23 1)), ((r220.2.1, r220.2.2), (m1 ++ (r219.1 :: ([] : DK))))))
 else none
 else
 some (Sum.inr (Sum.inr (Sum.inr ((m0, m0_1), m1))))
def qcf_W0 (n : Nat) (s : (Int × Int) × (DC × Bool) × DK) : Option (((DK × Int) × (DC × Bool) × DK) ⊕ (((DK × Int) × (DC × Bool) × DK) ⊕ ((DC × Bool) × DK))) := loopS (fun s => qcf_B0 n s.1.1 s.1.2 s.2.1.1 s.2.1.2 s.2.2) n s
def qcf (n : Nat) (b_0 : DC) (most_1 : Int) : Option (DK × Int) :=
 (qbg n b_0).bind fun r221 =>
 (qcd n most_1 r221.1 r221.2).bind fun r222 =>
 bif (!r222.1.2) then
 some (([] : DK), 2)
 else
 (qcf_W0 n ((r222.1.1, 0), ((r222.2.1, r222.2.2), ([] : DK)))).bind fun r223 =>
 Sum.rec (fun u224 =>
 some (u224.1.1, u224.1.2)) (fun v225 =>
 Sum.rec (fun u226 =>
 some (u226.1.1, u226.1.2)) (fun v227 =>
 (qat n v227.1.1 v227.1.2).bind fun r228 =>
 bif (decide (r228.1 > 0)) then
 some (([] : DK), 2)
 else
 some (v227.2, 0)) v225) r223
def qan (n : Nat) (k_0 : Int) (m0 : DK) : Option (DK × (Int × Bool) × DC × Bool) :=
 (getI m0 k_0).bind fun x231 =>
 (qbg n x231).bind fun r232 =>
 some (m0, ((0, false), (r232.1, r232.2)))
def qk (n : Nat) (most_1 : Int) (m0 : Int) (m0_1 : Bool) (m1 : DC) (m1_1 : Bool) : Option (Int × (Int × Bool) × DC × Bool) :=
 (qbb n m1 m1_1).bind fun r246 =>
 (qbf n r246.2.1 r246.2.2).bind fun r247 =>
 bif r247.1 then
 some (0, ((m0, true), (r247.2.1, r247.2.2)))
 else
 bif (decide (r246.1 > (cvtI .u64 most_1))) then
 some (0, ((m0, true), (r247.2.1, r247.2.2)))
 else
 some ((cvtI .i64 r246.1), ((m0, m0_1), (r247.2.1, r247.2.2)))
def qcn (n : Nat) (recs_1 : Int) (m0 : DC) (m0_1 : Bool) : Option (((Int × Int) × Bool) × DC × Bool) :=
 (qbb n m0 m0_1).bind fun r255 =>
 (qbb n r255.2.1 r255.2.2).bind fun r256 =>
 (qbf n r256.2.1 r256.2.2).bind fun r257 =>
 bif r257.1 then
 some (((0, 0), false), (r257.2.1, r257.2.2))
 else
 bif (decide (r255.1 > 8)) then
 some (((0, 0), false), (r257.2.1, r257.2.2))
 else
 bif (decide (r256.1 > 255)) then
 some (((0, 0), false), (r257.2.1, r257.2.2))
 else
 (qch n (cvtI .i64 r255.1) (cvtI .i64 r256.1) recs_1).bind fun r258 =>
 bif (!r258) then
 some (((0, 0), false), (r257.2.1, r257.2.2))
 else
 some ((((cvtI .i64 r255.1), (cvtI .i64 r256.1)), true), (r257.2.1, r257.2.2))
def qx (n : Nat) (m0 : Int) (m0_1 : Bool) (m1 : DC) (m1_1 : Bool) : Option ((Int × Int) × (Int × Bool) × DC × Bool) :=
 (qcn n m0 m1 m1_1).bind fun r259 =>
 bif m0_1 then
 some ((r259.1.1.1, r259.1.1.2), ((m0, true), (r259.2.1, r259.2.2)))
 else
 some ((r259.1.1.1, r259.1.1.2), ((m0, (!r259.1.2)), (r259.2.1, r259.2.2)))
def qb_B0 (n : Nat) (t10 : Int) (t11 : Int) (m0 : Int) (m0_1 : Bool) (m1 : DC) (m1_1 : Bool) (m2 : DA) : Option (((Int × Int) × (Int × Bool) × (DC × Bool) × DA) ⊕ ((Int × Bool) × (DC × Bool) × DA)) :=
 bif (decide (t11 < t10)) then
 bif m0_1 then
 some (Sum.inr ((m0, m0_1), ((m1, m1_1), m2)))
 else
 (qx n m0 m0_1 m1 m1_1).bind fun r260 =>
 bif (Nat.ble (List.length (m2 ++ ((r260.1.1, r260.1.2) :: ([] : List ((Int) × Int))))) 4294967296) then
 some (Sum.inl ((t10, (addI .i64 t11 1)), ((r260.2.1.1, r260.2.1.2), ((r260.2.2.1, r260.2.2.2), (m2 ++ ((r260.1.1, r260.1.2) :: ([] : List ((Int) × Int))))))))
 else none
 else
 some (Sum.inr ((m0, m0_1), ((m1, m1_1), m2)))
def qb_W0 (n : Nat) (s : (Int × Int) × (Int × Bool) × (DC × Bool) × DA) : Option ((Int × Bool) × (DC × Bool) × DA) := loopS (fun s => qb_B0 n s.1.1 s.1.2 s.2.1.1 s.2.1.2 s.2.2.1.1 s.2.2.1.2 s.2.2.2) n s
def qb (n : Nat) (most_1 : Int) (m0 : Int) (m0_1 : Bool) (m1 : DC) (m1_1 : Bool) : Option (DA × (Int × Bool) × DC × Bool) :=
 (qk n most_1 m0 m0_1 m1 m1_1).bind fun r261 =>
 (qb_W0 n ((r261.1, 0), ((r261.2.1.1, r261.2.1.2), ((r261.2.2.1, r261.2.2.2), ([] : List ((Int) × Int)))))).bind fun r262 =>
 some (r262.2.2, ((r262.1.1, r262.1.2), (r262.2.1.1, r262.2.1.2)))
def qap (n : Nat) (m1 : Int) (m1_1 : Bool) (m2 : DC) (m2_1 : Bool) : Option (DA × (Int × Bool) × DC × Bool) :=
 (qb n 6 m1 m1_1 m2 m2_1).bind fun r263 =>
 some (r263.1, ((r263.2.1.1, r263.2.1.2), (r263.2.2.1, r263.2.2.2)))
def qj_B0 (n : Nat) (t10 : Int) (t11 : Int) (m0 : Int) (m0_1 : Bool) (m2 : DC) (m2_1 : Bool) (m3 : DH) : Option (((Int × Int) × (Int × Bool) × (DC × Bool) × DH) ⊕ ((Int × Bool) × (DC × Bool) × DH)) :=
 bif (decide (t11 < t10)) then
 bif m0_1 then
 some (Sum.inr ((m0, m0_1), ((m2, m2_1), m3)))
 else
 (qap n m0 m0_1 m2 m2_1).bind fun r264 =>
 bif (Nat.ble (List.length (m3 ++ (r264.1 :: ([] : List (List ((Int) × Int)))))) 4294967296) then
 some (Sum.inl ((t10, (addI .i64 t11 1)), ((r264.2.1.1, r264.2.1.2), ((r264.2.2.1, r264.2.2.2), (m3 ++ (r264.1 :: ([] : List (List ((Int) × Int)))))))))
 else none
 else
 some (Sum.inr ((m0, m0_1), ((m2, m2_1), m3)))
def qj_W0 (n : Nat) (s : (Int × Int) × (Int × Bool) × (DC × Bool) × DH) : Option ((Int × Bool) × (DC × Bool) × DH) := loopS (fun s => qj_B0 n s.1.1 s.1.2 s.2.1.1 s.2.1.2 s.2.2.1.1 s.2.2.1.2 s.2.2.2) n s
def qj (n : Nat) (most_1 : Int) (m0 : Int) (m0_1 : Bool) (m2 : DC) (m2_1 : Bool) : Option (DH × (Int × Bool) × DC × Bool) :=
 (qk n most_1 m0 m0_1 m2 m2_1).bind fun r265 =>
 (qj_W0 n ((r265.1, 0), ((r265.2.1.1, r265.2.1.2), ((r265.2.2.1, r265.2.2.2), ([] : List (List ((Int) × Int))))))).bind fun r266 =>
 some (r266.2.2, ((r266.1.1, r266.1.2), (r266.2.1.1, r266.2.1.2)))
def qac (n : Nat) (k_0 : Int) (m0 : DK) (m1 : DH) : Option (DK × DH × (Int × Bool) × DC × Bool) :=
 (getI m0 k_0).bind fun x274 =>
 (qbg n x274).bind fun r275 =>
 some (m0, (m1, (((lenI m1), false), (r275.1, r275.2))))
def qaz (n : Nat) (s_0 : DC) : Option DC :=
 some s_0
def fixV (xs : DC) : Int := xs.foldr (fun c v => orI .u64 (IntKind.u64.wrap (v * 256)) (IntKind.u64.wrap c)) 0
def qai (n : Nat) (n_1 : Int) (m0 : DC) (m0_1 : Bool) : Option (Int × DC × Bool) :=
 (qaw n (minI (maxI n_1 0) 8) m0 m0_1).bind fun r => some (fixV r.1, r.2)
def qcp_B0 (n : Nat) (op_4 : Int) (t20 : Int) (t21 : Int) (m0 : DC) (m0_1 : Bool) (m1 : Int) (m1_1 : Int) (m1_2 : Int) (m2 : Int) (m2_1 : Int) : Option (((Int × Int × Int) × (DC × Bool) × (Int × Int × Int) × Int × Int) ⊕ ((Bool × (DC × Bool) × (Int × Int × Int) × Int × Int) ⊕ (Int × (DC × Bool) × (Int × Int × Int) × Int × Int))) :=
 bif (decide (t21 < t20)) then
 (qbb n m0 m0_1).bind fun r298 =>
 bif ((decide (0 ≤ t21)) && (decide (t21 < 2))) then
 bif (Nat.beq (0 + (0 + ((Int.toNat t21) * 1))) 0) then
 (qbf n r298.2.1 r298.2.2).bind fun r299 =>
 bif r299.1 then
 some (Sum.inr (Sum.inl (false, ((r299.2.1, r299.2.2), ((0, (0, 0)), (r298.1, m2_1))))))
 else
 bif ((decide (0 ≤ t21)) && (decide (t21 < 2))) then
 bif (Nat.beq (0 + (0 + ((Int.toNat t21) * 1))) 0) then
 bif (decide (r298.1 > 255)) then
 some (Sum.inr (Sum.inl (false, ((r299.2.1, r299.2.2), ((0, (0, 0)), (r298.1, m2_1))))))
 else
 some (Sum.inl ((op_4, (t20, (addI .i64 t21 1))), ((r299.2.1, r299.2.2), ((m1, (m1_1, m1_2)), (r298.1, m2_1)))))
 else
 bif (Nat.beq (0 + (0 + ((Int.toNat t21) * 1))) 1) then
 bif (decide (m2_1 > 255)) then
 some (Sum.inr (Sum.inl (false, ((r299.2.1, r299.2.2), ((0, (0, 0)), (r298.1, m2_1))))))
 else
 some (Sum.inl ((op_4, (t20, (addI .i64 t21 1))), ((r299.2.1, r299.2.2), ((m1, (m1_1, m1_2)), (r298.1, m2_1)))))
 else none
 else none
 else
 bif (Nat.beq (0 + (0 + ((Int.toNat t21) * 1))) 1) then
 (qbf n r298.2.1 r298.2.2).bind fun r300 =>
 bif r300.1 then
 some (Sum.inr (Sum.inl (false, ((r300.2.1, r300.2.2), ((0, (0, 0)), (m2, r298.1))))))
 else
 bif ((decide (0 ≤ t21)) && (decide (t21 < 2))) then
 bif (Nat.beq (0 + (0 + ((Int.toNat t21) * 1))) 0) then
 bif (decide (m2 > 255)) then
 some (Sum.inr (Sum.inl (false, ((r300.2.1, r300.2.2), ((0, (0, 0)), (m2, r298.1))))))
 else
 some (Sum.inl ((op_4, (t20, (addI .i64 t21 1))), ((r300.2.1, r300.2.2), ((m1, (m1_1, m1_2)), (m2, r298.1)))))
 else
 bif (Nat.beq (0 + (0 + ((Int.toNat t21) * 1))) 1) then
 bif (decide (r298.1 > 255)) then
 some (Sum.inr (Sum.inl (false, ((r300.2.1, r300.2.2), ((0, (0, 0)), (m2, r298.1))))))
 else
 some (Sum.inl ((op_4, (t20, (addI .i64 t21 1))), ((r300.2.1, r300.2.2), ((m1, (m1_1, m1_2)), (m2, r298.1)))))
 else none
 else none
 else none
 else none
 else
 some (Sum.inr (Sum.inr (op_4, ((m0, m0_1), ((m1, (m1_1, m1_2)), (m2, m2_1))))))
def qcp_W0 (n : Nat) (s : (Int × Int × Int) × (DC × Bool) × (Int × Int × Int) × Int × Int) : Option ((Bool × (DC × Bool) × (Int × Int × Int) × Int × Int) ⊕ (Int × (DC × Bool) × (Int × Int × Int) × Int × Int)) := loopS (fun s => qcp_B0 n s.1.1 s.1.2.1 s.1.2.2 s.2.1.1 s.2.1.2 s.2.2.1.1 s.2.2.1.2.1 s.2.2.1.2.2 s.2.2.2.1 s.2.2.2.2) n s
def qcp (n : Nat) (m0 : DC) (m0_1 : Bool) : Option (((Int × Int × Int) × Bool) × DC × Bool) :=
 (qai n 1 m0 m0_1).bind fun r301 =>
 (qci n (cvtI .i64 r301.1)).bind fun r302 =>
 (qbf n r301.2.1 r301.2.2).bind fun r303 =>
 bif r303.1 then
 some (((0, (0, 0)), false), (r303.2.1, r303.2.2))
 else
 bif (decide (r302 < 0)) then
 some (((0, (0, 0)), false), (r303.2.1, r303.2.2))
 else
 (qcp_W0 n (((cvtI .i64 r301.1), (r302, 0)), ((r303.2.1, r303.2.2), ((0, (0, 0)), (0, 0))))).bind fun r304 =>
 Sum.rec (fun u305 =>
 some (((u305.2.2.1.1, (u305.2.2.1.2.1, u305.2.2.1.2.2)), u305.1), (u305.2.1.1, u305.2.1.2))) (fun v306 =>
 some (((v306.1, ((cvtI .i64 v306.2.2.2.1), (cvtI .i64 v306.2.2.2.2))), true), (v306.2.1.1, v306.2.1.2))) r304
def qn (n : Nat) (m0 : Int) (m0_1 : Bool) (m1 : DC) (m1_1 : Bool) : Option ((Int × Int × Int) × (Int × Bool) × DC × Bool) :=
 (qcp n m1 m1_1).bind fun r307 =>
 bif m0_1 then
 some ((r307.1.1.1, (r307.1.1.2.1, r307.1.1.2.2)), ((m0, true), (r307.2.1, r307.2.2)))
 else
 some ((r307.1.1.1, (r307.1.1.2.1, r307.1.1.2.2)), ((m0, (!r307.1.2)), (r307.2.1, r307.2.2)))
def qh_B0 (n : Nat) (t10 : Int) (t11 : Int) (m0 : Int) (m0_1 : Bool) (m1 : DC) (m1_1 : Bool) (m2 : DB) : Option (((Int × Int) × (Int × Bool) × (DC × Bool) × DB) ⊕ ((Int × Bool) × (DC × Bool) × DB)) :=
 bif (decide (t11 < t10)) then
 bif m0_1 then
 some (Sum.inr ((m0, m0_1), ((m1, m1_1), m2)))
 else
 (qn n m0 m0_1 m1 m1_1).bind fun r308 =>
 bif (Nat.ble (List.length (m2 ++ ((r308.1.1, (r308.1.2.1, r308.1.2.2)) :: ([] : List ((Int) × (Int) × Int))))) 4294967296) then
 some (Sum.inl ((t10, (addI .i64 t11 1)), ((r308.2.1.1, r308.2.1.2), ((r308.2.2.1, r308.2.2.2), (m2 ++ ((r308.1.1, (r308.1.2.1, r308.1.2.2)) :: ([] : List ((Int) × (Int) × Int))))))))
 else none
 else
 some (Sum.inr ((m0, m0_1), ((m1, m1_1), m2)))
def qh_W0 (n : Nat) (s : (Int × Int) × (Int × Bool) × (DC × Bool) × DB) : Option ((Int × Bool) × (DC × Bool) × DB) := loopS (fun s => qh_B0 n s.1.1 s.1.2 s.2.1.1 s.2.1.2 s.2.2.1.1 s.2.2.1.2 s.2.2.2) n s
def qh (n : Nat) (most_1 : Int) (m0 : Int) (m0_1 : Bool) (m1 : DC) (m1_1 : Bool) : Option (DB × (Int × Bool) × DC × Bool) :=
 (qk n most_1 m0 m0_1 m1 m1_1).bind fun r309 =>
 (qh_W0 n ((r309.1, 0), ((r309.2.1.1, r309.2.1.2), ((r309.2.2.1, r309.2.2.2), ([] : List ((Int) × (Int) × Int)))))).bind fun r310 =>
 some (r310.2.2, ((r310.1.1, r310.1.2), (r310.2.1.1, r310.2.1.2)))
def qa (n : Nat) (m0 : Int) (m0_1 : Bool) (m1 : DC) (m1_1 : Bool) : Option ((DA × Int × Int × DA × DB) × (Int × Bool) × DC × Bool) :=
 (qb n 4 m0 m0_1 m1 m1_1).bind fun r311 =>
 (qx n r311.2.1.1 r311.2.1.2 r311.2.2.1 r311.2.2.2).bind fun r312 =>
 (qb n 8 r312.2.1.1 r312.2.1.2 r312.2.2.1 r312.2.2.2).bind fun r313 =>
 (qh n 64 r313.2.1.1 r313.2.1.2 r313.2.2.1 r313.2.2.2).bind fun r314 =>
 some ((r311.1, (r312.1.1, (r312.1.2, (r313.1, r314.1)))), ((r314.2.1.1, r314.2.1.2), (r314.2.2.1, r314.2.2.2)))
def qp_B0 (n : Nat) (t10 : Int) (t11 : Int) (m0 : Int) (m0_1 : Bool) (m1 : DC) (m1_1 : Bool) (m2 : DI) : Option (((Int × Int) × (Int × Bool) × (DC × Bool) × DI) ⊕ ((Int × Bool) × (DC × Bool) × DI)) :=
 bif (decide (t11 < t10)) then
 bif m0_1 then
 some (Sum.inr ((m0, m0_1), ((m1, m1_1), m2)))
 else
 (qa n m0 m0_1 m1 m1_1).bind fun r315 =>
 bif (Nat.ble (List.length (m2 ++ ((r315.1.1, (r315.1.2.1, (r315.1.2.2.1, (r315.1.2.2.2.1, r315.1.2.2.2.2)))) :: ([] : List ((List ((Int) × Int)) × (Int) × (Int) × (List ((Int) × Int)) × List ((Int) × (Int) × Int)))))) 4294967296) then
 some (Sum.inl ((t10, (addI .i64 t11 1)), ((r315.2.1.1, r315.2.1.2), ((r315.2.2.1, r315.2.2.2), (m2 ++ ((r315.1.1, (r315.1.2.1, (r315.1.2.2.1, (r315.1.2.2.2.1, r315.1.2.2.2.2)))) :: ([] : List ((List ((Int) × Int)) × (Int) × (Int) × (List ((Int) × Int)) × List ((Int) × (Int) × Int)))))))))
 else none
 else
 some (Sum.inr ((m0, m0_1), ((m1, m1_1), m2)))
def qp_W0 (n : Nat) (s : (Int × Int) × (Int × Bool) × (DC × Bool) × DI) : Option ((Int × Bool) × (DC × Bool) × DI) := loopS (fun s => qp_B0 n s.1.1 s.1.2 s.2.1.1 s.2.1.2 s.2.2.1.1 s.2.2.1.2 s.2.2.2) n s
def qp (n : Nat) (most_1 : Int) (m0 : Int) (m0_1 : Bool) (m1 : DC) (m1_1 : Bool) : Option (DI × (Int × Bool) × DC × Bool) :=
 (qk n most_1 m0 m0_1 m1 m1_1).bind fun r316 =>
 (qp_W0 n ((r316.1, 0), ((r316.2.1.1, r316.2.1.2), ((r316.2.2.1, r316.2.2.2), ([] : List ((List ((Int) × Int)) × (Int) × (Int) × (List ((Int) × Int)) × List ((Int) × (Int) × Int))))))).bind fun r317 =>
 some (r317.2.2, ((r317.1.1, r317.1.2), (r317.2.1.1, r317.2.1.2)))
def qag (n : Nat) (k_0 : Int) (m0 : DK) (m1 : DH) (m1_1 : DI) : Option (DK × (DH × DI) × (Int × Bool) × DC × Bool) :=
 (getI m0 k_0).bind fun x327 =>
 (qbg n x327).bind fun r328 =>
 some (m0, ((m1, m1_1), (((lenI m1), false), (r328.1, r328.2))))
def qs (n : Nat) (m0 : Int) (m0_1 : Bool) (m1 : DC) (m1_1 : Bool) : Option ((DA × Int × Int) × (Int × Bool) × DC × Bool) :=
 (qb n 4 m0 m0_1 m1 m1_1).bind fun r340 =>
 (qx n r340.2.1.1 r340.2.1.2 r340.2.2.1 r340.2.2.2).bind fun r341 =>
 some ((r340.1, (r341.1.1, r341.1.2)), ((r341.2.1.1, r341.2.1.2), (r341.2.2.1, r341.2.2.2)))
def qd_B0 (n : Nat) (t10 : Int) (t11 : Int) (m0 : Int) (m0_1 : Bool) (m1 : DC) (m1_1 : Bool) (m2 : DJ) : Option (((Int × Int) × (Int × Bool) × (DC × Bool) × DJ) ⊕ ((Int × Bool) × (DC × Bool) × DJ)) :=
 bif (decide (t11 < t10)) then
 bif m0_1 then
 some (Sum.inr ((m0, m0_1), ((m1, m1_1), m2)))
 else
 (qs n m0 m0_1 m1 m1_1).bind fun r342 =>
 bif (Nat.ble (List.length (m2 ++ ((r342.1.1, (r342.1.2.1, r342.1.2.2)) :: ([] : List ((List ((Int) × Int)) × (Int) × Int))))) 4294967296) then
 some (Sum.inl ((t10, (addI .i64 t11 1)), ((r342.2.1.1, r342.2.1.2), ((r342.2.2.1, r342.2.2.2), (m2 ++ ((r342.1.1, (r342.1.2.1, r342.1.2.2)) :: ([] : List ((List ((Int) × Int)) × (Int) × Int))))))))
 else none
 else
 some (Sum.inr ((m0, m0_1), ((m1, m1_1), m2)))
def qd_W0 (n : Nat) (s : (Int × Int) × (Int × Bool) × (DC × Bool) × DJ) : Option ((Int × Bool) × (DC × Bool) × DJ) := loopS (fun s => qd_B0 n s.1.1 s.1.2 s.2.1.1 s.2.1.2 s.2.2.1.1 s.2.2.1.2 s.2.2.2) n s
def qd (n : Nat) (most_1 : Int) (m0 : Int) (m0_1 : Bool) (m1 : DC) (m1_1 : Bool) : Option (DJ × (Int × Bool) × DC × Bool) :=
 (qk n most_1 m0 m0_1 m1 m1_1).bind fun r343 =>
 (qd_W0 n ((r343.1, 0), ((r343.2.1.1, r343.2.1.2), ((r343.2.2.1, r343.2.2.2), ([] : List ((List ((Int) × Int)) × (Int) × Int)))))).bind fun r344 =>
 some (r344.2.2, ((r344.1.1, r344.1.2), (r344.2.1.1, r344.2.1.2)))
def qy (n : Nat) (k_0 : Int) (m0 : DK) (m1 : DH) (m1_1 : DI) (m1_2 : DJ) : Option (DK × (DH × DI × DJ) × (Int × Bool) × DC × Bool) :=
 (getI m0 k_0).bind fun x356 =>
 (qbg n x356).bind fun r357 =>
 some (m0, ((m1, (m1_1, m1_2)), (((lenI m1), false), (r357.1, r357.2))))
def qal (n : Nat) (m1 : Int) (m1_1 : Bool) (m2 : DC) (m2_1 : Bool) : Option (Int × (Int × Bool) × DC × Bool) :=
 (qai n 8 m2 m2_1).bind fun r370 =>
 some (r370.1, ((m1, m1_1), (r370.2.1, r370.2.2)))
def qr_B0 (n : Nat) (t10 : Int) (t11 : Int) (m0 : Int) (m0_1 : Bool) (m2 : DC) (m2_1 : Bool) (m3 : DC) : Option (((Int × Int) × (Int × Bool) × (DC × Bool) × DC) ⊕ ((Int × Bool) × (DC × Bool) × DC)) :=
 bif (decide (t11 < t10)) then
 bif m0_1 then
 some (Sum.inr ((m0, m0_1), ((m2, m2_1), m3)))
 else
 (qal n m0 m0_1 m2 m2_1).bind fun r371 =>
 bif (Nat.ble (List.length (m3 ++ (r371.1 :: ([] : DE)))) 4294967296) then
 some (Sum.inl ((t10, (addI .i64 t11 1)), ((r371.2.1.1, r371.2.1.2), ((r371.2.2.1, r371.2.2.2), (m3 ++ (r371.1 :: ([] : DE)))))))
 else none
 else
 some (Sum.inr ((m0, m0_1), ((m2, m2_1), m3)))
def qr_W0 (n : Nat) (s : (Int × Int) × (Int × Bool) × (DC × Bool) × DC) : Option ((Int × Bool) × (DC × Bool) × DC) := loopS (fun s => qr_B0 n s.1.1 s.1.2 s.2.1.1 s.2.1.2 s.2.2.1.1 s.2.2.1.2 s.2.2.2) n s
def qr (n : Nat) (most_1 : Int) (m0 : Int) (m0_1 : Bool) (m2 : DC) (m2_1 : Bool) : Option (DC × (Int × Bool) × DC × Bool) :=
 (qk n most_1 m0 m0_1 m2 m2_1).bind fun r372 =>
 (qr_W0 n ((r372.1, 0), ((r372.2.1.1, r372.2.1.2), ((r372.2.2.1, r372.2.2.2), ([] : DE))))).bind fun r373 =>
 some (r373.2.2, ((r373.1.1, r373.1.2), (r373.2.1.1, r373.2.1.2)))
def qaf (n : Nat) (k_0 : Int) (m0 : DK) (m1 : DH) (m1_1 : DI) (m1_2 : DJ) (m1_3 : DC) : Option (DK × (DH × DI × DJ × DC) × (Int × Bool) × DC × Bool) :=
 (getI m0 k_0).bind fun x387 =>
 (qbg n x387).bind fun r388 =>
 some (m0, ((m1, (m1_1, (m1_2, m1_3))), (((lenI m1), false), (r388.1, r388.2))))
def qar (n : Nat) (m1 : Int) (m1_1 : Bool) (m2 : DC) (m2_1 : Bool) : Option (ByteArray × (Int × Bool) × DC × Bool) :=
 (qk n 32 m1 m1_1 m2 m2_1).bind fun r404 =>
 (qaw n r404.1 r404.2.2.1 r404.2.2.2).bind fun r405 =>
 some ((intsBytes r405.1), ((r404.2.1.1, r404.2.1.2), (r405.2.1, r405.2.2)))
def qt_B0 (n : Nat) (t10 : Int) (t11 : Int) (m0 : Int) (m0_1 : Bool) (m2 : DC) (m2_1 : Bool) (m3 : DD) : Option (((Int × Int) × (Int × Bool) × (DC × Bool) × DD) ⊕ ((Int × Bool) × (DC × Bool) × DD)) :=
 bif (decide (t11 < t10)) then
 bif m0_1 then
 some (Sum.inr ((m0, m0_1), ((m2, m2_1), m3)))
 else
 (qar n m0 m0_1 m2 m2_1).bind fun r406 =>
 bif (Nat.ble (List.length (m3 ++ (r406.1 :: ([] : DF)))) 4294967296) then
 some (Sum.inl ((t10, (addI .i64 t11 1)), ((r406.2.1.1, r406.2.1.2), ((r406.2.2.1, r406.2.2.2), (m3 ++ (r406.1 :: ([] : DF)))))))
 else none
 else
 some (Sum.inr ((m0, m0_1), ((m2, m2_1), m3)))
def qt_W0 (n : Nat) (s : (Int × Int) × (Int × Bool) × (DC × Bool) × DD) : Option ((Int × Bool) × (DC × Bool) × DD) := loopS (fun s => qt_B0 n s.1.1 s.1.2 s.2.1.1 s.2.1.2 s.2.2.1.1 s.2.2.1.2 s.2.2.2) n s
def qt (n : Nat) (most_1 : Int) (m0 : Int) (m0_1 : Bool) (m2 : DC) (m2_1 : Bool) : Option (DD × (Int × Bool) × DC × Bool) :=
 (qk n most_1 m0 m0_1 m2 m2_1).bind fun r407 =>
 (qt_W0 n ((r407.1, 0), ((r407.2.1.1, r407.2.1.2), ((r407.2.2.1, r407.2.2.2), ([] : DF))))).bind fun r408 =>
 some (r408.2.2, ((r408.1.1, r408.1.2), (r408.2.1.1, r408.2.1.2)))
def qba (n : Nat) (t0 : DC) : Option ((DH × DI × DJ × DC × DD) × Int) :=
 (qcf n t0 5).bind fun r423 =>
 bif (r423.2 != 0) then
 some (([], ([], ([], ([], [])))), 2)
 else
 bif ((lenI r423.1) != 5) then
 some (([], ([], ([], ([], [])))), 2)
 else
 (qan n 0 r423.1).bind fun r424 =>
 (getI r424.1 0).bind fun x425 =>
 (qbg n x425).bind fun r426 =>
 (qbb n r426.1 r426.2).bind fun r427 =>
 (qj n 8 (cvtI .i64 (minI r427.1 8)) r424.2.1.2 r424.2.2.1 r424.2.2.2).bind fun r428 =>
 (qac n 1 r424.1 r428.1).bind fun r429 =>
 (qp n 8 r429.2.2.1.1 r429.2.2.1.2 r429.2.2.2.1 r429.2.2.2.2).bind fun r430 =>
 (qag n 2 r429.1 r429.2.1 r430.1).bind fun r431 =>
 (qd n 8 r431.2.2.1.1 r431.2.2.1.2 r431.2.2.2.1 r431.2.2.2.2).bind fun r432 =>
 (qy n 3 r431.1 r431.2.1.1 r431.2.1.2 r432.1).bind fun r433 =>
 (qr n 16 r433.2.2.1.1 r433.2.2.1.2 r433.2.2.2.1 r433.2.2.2.2).bind fun r434 =>
 (qaf n 4 r433.1 r433.2.1.1 r433.2.1.2.1 r433.2.1.2.2 r434.1).bind fun r435 =>
 (qt n 16 r435.2.2.1.1 r435.2.2.1.2 r435.2.2.2.1 r435.2.2.2.2).bind fun r436 =>
 (qbe n r435.2.1.1 r435.2.1.2.1 r435.2.1.2.2.1 r435.2.1.2.2.2 r436.1).bind fun r437 =>
 bif (r437.2 != 0) then
 some (([], ([], ([], ([], [])))), 2)
 else
 bif (!(eqS (intsBytes r437.1) (intsBytes t0))) then
 some (([], ([], ([], ([], [])))), 2)
 else
 some ((r435.2.1.1, (r435.2.1.2.1, (r435.2.1.2.2.1, (r435.2.1.2.2.2, r436.1)))), 0)
def qca_B0 (n : Nat) (s1_0 : DA) (s2_1 : DA) (t12 : Int) (t13 : Int) : Option ((DA × DA × Int × Int) ⊕ ((Bool) ⊕ (Unit))) :=
 bif (decide (t13 < t12)) then
 (getI s1_0 t13).bind fun x442 =>
 (getI s2_1 t13).bind fun x443 =>
 bif (!((x442.1 == x443.1) && (x442.2 == x443.2))) then
 some (Sum.inr (Sum.inl false))
 else
 some (Sum.inl (s1_0, (s2_1, (t12, (addI .i64 t13 1)))))
 else
 some (Sum.inr (Sum.inr ()))
def qca_W0 (n : Nat) (s : DA × DA × Int × Int) : Option ((Bool) ⊕ (Unit)) := loopS (fun s => qca_B0 n s.1 s.2.1 s.2.2.1 s.2.2.2) n s
def qca (n : Nat) (s1_0 : DA) (s2_1 : DA) : Option (Bool) :=
 bif ((lenI s1_0) != (lenI s2_1)) then
 some false
 else
 (qca_W0 n (s1_0, (s2_1, ((lenI s1_0), 0)))).bind fun r444 =>
 Sum.rec (fun u445 =>
 some u445) (fun v446 =>
 some true) r444
def qay_B0 (n : Nat) (s2_1 : DH) (t15 : DH) (t16 : Int) (t17 : Int) : Option ((DH × DH × Int × Int) ⊕ ((Bool) ⊕ (Unit))) :=
 bif (decide (t17 < t16)) then
 (getI t15 t17).bind fun x447 =>
 (getI s2_1 t17).bind fun x448 =>
 (qca n x447 x448).bind fun r449 =>
 bif (!r449) then
 some (Sum.inr (Sum.inl false))
 else
 some (Sum.inl (s2_1, (t15, (t16, (addI .i64 t17 1)))))
 else
 some (Sum.inr (Sum.inr ()))
def qay_W0 (n : Nat) (s : DH × DH × Int × Int) : Option ((Bool) ⊕ (Unit)) := loopS (fun s => qay_B0 n s.1 s.2.1 s.2.2.1 s.2.2.2) n s
def qay (n : Nat) (s1_0 : DH) (s2_1 : DH) : Option (Bool) :=
 bif ((lenI s1_0) != (lenI s2_1)) then
 some false
 else
 (qay_W0 n (s2_1, (s1_0, ((lenI s1_0), 0)))).bind fun r450 =>
 Sum.rec (fun u451 =>
 some u451) (fun v452 =>
 some true) r450
def qbw_B0 (n : Nat) (s1_0 : DB) (s2_1 : DB) (t12 : Int) (t13 : Int) : Option ((DB × DB × Int × Int) ⊕ ((Bool) ⊕ (Unit))) :=
 bif (decide (t13 < t12)) then
 (getI s1_0 t13).bind fun x458 =>
 (getI s2_1 t13).bind fun x459 =>
 bif (!((x458.1 == x459.1) && ((x458.2.1 == x459.2.1) && (x458.2.2 == x459.2.2)))) then
 some (Sum.inr (Sum.inl false))
 else
 some (Sum.inl (s1_0, (s2_1, (t12, (addI .i64 t13 1)))))
 else
 some (Sum.inr (Sum.inr ()))
def qbw_W0 (n : Nat) (s : DB × DB × Int × Int) : Option ((Bool) ⊕ (Unit)) := loopS (fun s => qbw_B0 n s.1 s.2.1 s.2.2.1 s.2.2.2) n s
def qbw (n : Nat) (s1_0 : DB) (s2_1 : DB) : Option (Bool) :=
 bif ((lenI s1_0) != (lenI s2_1)) then
 some false
 else
 (qbw_W0 n (s1_0, (s2_1, ((lenI s1_0), 0)))).bind fun r460 =>
 Sum.rec (fun u461 =>
 some u461) (fun v462 =>
 some true) r460
def qw (n : Nat) (a_0 : DA) (a_0_1 : Int) (a_0_2 : Int) (a_0_3 : DA) (a_0_4 : DB) (b_1 : DA) (b_1_1 : Int) (b_1_2 : Int) (b_1_3 : DA) (b_1_4 : DB) : Option (Bool) :=
 bif ((a_0_1 == b_1_1) && (a_0_2 == b_1_2)) then
 (qca n a_0 b_1).bind fun r463 =>
 bif r463 then
 (qca n a_0_3 b_1_3).bind fun r464 =>
 bif r464 then
 (qbw n a_0_4 b_1_4).bind fun r465 =>
 some r465
 else
 some false
 else
 some false
 else
 some false
def qam_B0 (n : Nat) (s2_1 : DI) (t15 : DI) (t16 : Int) (t17 : Int) : Option ((DI × DI × Int × Int) ⊕ ((Bool × (DA × Int × Int × DA × DB) × DA × Int × Int × DA × DB) ⊕ (Unit))) :=
 bif (decide (t17 < t16)) then
 (getI t15 t17).bind fun x466 =>
 (getI s2_1 t17).bind fun x467 =>
 (qw n x466.1 x466.2.1 x466.2.2.1 x466.2.2.2.1 x466.2.2.2.2 x467.1 x467.2.1 x467.2.2.1 x467.2.2.2.1 x467.2.2.2.2).bind fun r468 =>
 bif (!r468) then
 some (Sum.inr (Sum.inl (false, ((x466.1, (x466.2.1, (x466.2.2.1, (x466.2.2.2.1, x466.2.2.2.2)))), (x467.1, (x467.2.1, (x467.2.2.1, (x467.2.2.2.1, x467.2.2.2.2))))))))
 else
 some (Sum.inl (s2_1, (t15, (t16, (addI .i64 t17 1)))))
 else
 some (Sum.inr (Sum.inr ()))
def qam_W0 (n : Nat) (s : DI × DI × Int × Int) : Option ((Bool × (DA × Int × Int × DA × DB) × DA × Int × Int × DA × DB) ⊕ (Unit)) := loopS (fun s => qam_B0 n s.1 s.2.1 s.2.2.1 s.2.2.2) n s
def qam (n : Nat) (s1_0 : DI) (s2_1 : DI) : Option (Bool) :=
 bif ((lenI s1_0) != (lenI s2_1)) then
 some false
 else
 (qam_W0 n (s2_1, (s1_0, ((lenI s1_0), 0)))).bind fun r469 =>
 Sum.rec (fun u470 =>
 some u470.1) (fun v471 =>
 some true) r469
def ql (n : Nat) (a_0 : DA) (a_0_1 : Int) (a_0_2 : Int) (b_1 : DA) (b_1_1 : Int) (b_1_2 : Int) : Option (Bool) :=
 bif ((a_0_1 == b_1_1) && (a_0_2 == b_1_2)) then
 (qca n a_0 b_1).bind fun r476 =>
 some r476
 else
 some false
def qae_B0 (n : Nat) (s2_1 : DJ) (t15 : DJ) (t16 : Int) (t17 : Int) : Option ((DJ × DJ × Int × Int) ⊕ ((Bool × (DA × Int × Int) × DA × Int × Int) ⊕ (Unit))) :=
 bif (decide (t17 < t16)) then
 (getI t15 t17).bind fun x477 =>
 (getI s2_1 t17).bind fun x478 =>
 (ql n x477.1 x477.2.1 x477.2.2 x478.1 x478.2.1 x478.2.2).bind fun r479 =>
 bif (!r479) then
 some (Sum.inr (Sum.inl (false, ((x477.1, (x477.2.1, x477.2.2)), (x478.1, (x478.2.1, x478.2.2))))))
 else
 some (Sum.inl (s2_1, (t15, (t16, (addI .i64 t17 1)))))
 else
 some (Sum.inr (Sum.inr ()))
def qae_W0 (n : Nat) (s : DJ × DJ × Int × Int) : Option ((Bool × (DA × Int × Int) × DA × Int × Int) ⊕ (Unit)) := loopS (fun s => qae_B0 n s.1 s.2.1 s.2.2.1 s.2.2.2) n s
def qae (n : Nat) (s1_0 : DJ) (s2_1 : DJ) : Option (Bool) :=
 bif ((lenI s1_0) != (lenI s2_1)) then
 some false
 else
 (qae_W0 n (s2_1, (s1_0, ((lenI s1_0), 0)))).bind fun r480 =>
 Sum.rec (fun u481 =>
 some u481.1) (fun v482 =>
 some true) r480
def qbn_B0 (n : Nat) (s1_0 : DC) (s2_1 : DC) (t12 : Int) (t13 : Int) : Option ((DC × DC × Int × Int) ⊕ ((Bool) ⊕ (Unit))) :=
 bif (decide (t13 < t12)) then
 (getI s1_0 t13).bind fun x486 =>
 (getI s2_1 t13).bind fun x487 =>
 bif (x486 != x487) then
 some (Sum.inr (Sum.inl false))
 else
 some (Sum.inl (s1_0, (s2_1, (t12, (addI .i64 t13 1)))))
 else
 some (Sum.inr (Sum.inr ()))
def qbn_W0 (n : Nat) (s : DC × DC × Int × Int) : Option ((Bool) ⊕ (Unit)) := loopS (fun s => qbn_B0 n s.1 s.2.1 s.2.2.1 s.2.2.2) n s
def qbn (n : Nat) (s1_0 : DC) (s2_1 : DC) : Option (Bool) :=
 bif ((lenI s1_0) != (lenI s2_1)) then
 some false
 else
 (qbn_W0 n (s1_0, (s2_1, ((lenI s1_0), 0)))).bind fun r488 =>
 Sum.rec (fun u489 =>
 some u489) (fun v490 =>
 some true) r488
def qbj_B0 (n : Nat) (s1_0 : DD) (s2_1 : DD) (t12 : Int) (t13 : Int) : Option ((DD × DD × Int × Int) ⊕ ((Bool) ⊕ (Unit))) :=
 bif (decide (t13 < t12)) then
 (getI s1_0 t13).bind fun x495 =>
 (getI s2_1 t13).bind fun x496 =>
 bif (!(eqS x495 x496)) then
 some (Sum.inr (Sum.inl false))
 else
 some (Sum.inl (s1_0, (s2_1, (t12, (addI .i64 t13 1)))))
 else
 some (Sum.inr (Sum.inr ()))
def qbj_W0 (n : Nat) (s : DD × DD × Int × Int) : Option ((Bool) ⊕ (Unit)) := loopS (fun s => qbj_B0 n s.1 s.2.1 s.2.2.1 s.2.2.2) n s
def qbj (n : Nat) (s1_0 : DD) (s2_1 : DD) : Option (Bool) :=
 bif ((lenI s1_0) != (lenI s2_1)) then
 some false
 else
 (qbj_W0 n (s1_0, (s2_1, ((lenI s1_0), 0)))).bind fun r497 =>
 Sum.rec (fun u498 =>
 some u498) (fun v499 =>
 some true) r497
def qbx (n : Nat) (a_0 : DH) (a_0_1 : DI) (a_0_2 : DJ) (a_0_3 : DC) (a_0_4 : DD) (b_1 : DH) (b_1_1 : DI) (b_1_2 : DJ) (b_1_3 : DC) (b_1_4 : DD) : Option (Bool) :=
 (qay n a_0 b_1).bind fun r500 =>
 bif r500 then
 (qam n a_0_1 b_1_1).bind fun r501 =>
 bif r501 then
 (qae n a_0_2 b_1_2).bind fun r502 =>
 bif r502 then
 (qbn n a_0_3 b_1_3).bind fun r503 =>
 bif r503 then
 (qbj n a_0_4 b_1_4).bind fun r504 =>
 some r504
 else
 some false
 else
 some false
 else
 some false
 else
 some false
def qcr_B2 (n : Nat) (n_3 : Int) (t7 : DC) (t8 : Int) (t9 : Int) (t17 : Int) : Option ((Int × DC × Int × Int × Int) ⊕ (Int × DC × Int × Int)) :=
 bif (decide (t17 < 8)) then
 some (Sum.inl ((xorI .u32 (shrI .u32 n_3 1) (mulI .u32 3988292384 (andI .u32 n_3 1))), (t7, (t8, (t9, (addI .i64 t17 1))))))
 else
 some (Sum.inr (n_3, (t7, (t8, t9))))
def qcr_W2 (n : Nat) (s : Int × DC × Int × Int × Int) : Option (Int × DC × Int × Int) := loopS (fun s => qcr_B2 n s.1 s.2.1 s.2.2.1 s.2.2.2.1 s.2.2.2.2) n s
def qcr_B0 (n : Nat) (n_3 : Int) (t7 : DC) (t8 : Int) (t9 : Int) : Option ((Int × DC × Int × Int) ⊕ (Int)) :=
 bif (decide (t9 < t8)) then
 (getI t7 t9).bind fun x510 =>
 (qcr_W2 n ((xorI .u32 n_3 (cvtI .u32 x510)), (t7, (t8, (t9, 0))))).bind fun r511 =>
 some (Sum.inl (r511.1, (r511.2.1, (r511.2.2.1, (addI .i64 r511.2.2.2 1)))))
 else
 some (Sum.inr n_3)
def qcr_W0 (n : Nat) (s : Int × DC × Int × Int) : Option (Int) := loopS (fun s => qcr_B0 n s.1 s.2.1 s.2.2.1 s.2.2.2) n s
def qcr (n : Nat) (b_0 : DC) : Option (Int) :=
 (qcr_W0 n (4294967295, (b_0, ((lenI b_0), 0)))).bind fun r512 =>
 some (notI .u32 r512)
def qbl (n : Nat) (m_0 : DH) (m_0_1 : DI) (m_0_2 : DJ) (m_0_3 : DC) (m_0_4 : DD) : Option (Int) :=
 (qbe n m_0 m_0_1 m_0_2 m_0_3 m_0_4).bind fun r513 =>
 bif (r513.2 != 0) then
 some 0
 else
 (qcr n r513.1).bind fun r514 =>
 some r514
def qbc (n : Nat) : Option (Bool) :=
 (qbe n ([] : List (List ((Int) × Int))) ((([] : List ((Int) × Int)), (1, (0, (([] : List ((Int) × Int)), ((26, (0, 0)) :: ([] : List ((Int) × (Int) × Int))))))) :: ([] : List ((List ((Int) × Int)) × (Int) × (Int) × (List ((Int) × Int)) × List ((Int) × (Int) × Int)))) ([] : List ((List ((Int) × Int)) × (Int) × Int)) ([] : DE) ([] : DF)).bind fun r515 =>
 (qba n r515.1).bind fun r516 =>
 bif (r515.2 == 0) then
 bif (r516.2 == 0) then
 bif ((lenI r516.1.2.1) == 1) then
 (qbx n r516.1.1 r516.1.2.1 r516.1.2.2.1 r516.1.2.2.2.1 r516.1.2.2.2.2 ([] : List (List ((Int) × Int))) ((([] : List ((Int) × Int)), (1, (0, (([] : List ((Int) × Int)), ((26, (0, 0)) :: ([] : List ((Int) × (Int) × Int))))))) :: ([] : List ((List ((Int) × Int)) × (Int) × (Int) × (List ((Int) × Int)) × List ((Int) × (Int) × Int)))) ([] : List ((List ((Int) × Int)) × (Int) × Int)) ([] : DE) ([] : DF)).bind fun r517 =>
 bif r517 then
 (qbl n ([] : List (List ((Int) × Int))) ((([] : List ((Int) × Int)), (1, (0, (([] : List ((Int) × Int)), ((26, (0, 0)) :: ([] : List ((Int) × (Int) × Int))))))) :: ([] : List ((List ((Int) × Int)) × (Int) × (Int) × (List ((Int) × Int)) × List ((Int) × (Int) × Int)))) ([] : List ((List ((Int) × Int)) × (Int) × Int)) ([] : DE) ([] : DF)).bind fun r518 =>
 some (r518 != 0)
 else
 some false
 else
 some false
 else
 some false
 else
 some false
def qcg_S (n : Nat) (self : Int → Option DC) (v_0 : Int) : Option DC :=
 bif (decide (v_0 < 128)) then
 some ((cvtI .u8 v_0) :: ([] : DE))
 else
 (self (quoI .u64 v_0 128)).bind fun r524 =>
 bif (Nat.ble (List.length (((cvtI .u8 (addI .u64 128 (remI v_0 128))) :: ([] : DE)) ++ r524)) 4294967296) then
 some (((cvtI .u8 (addI .u64 128 (remI v_0 128))) :: ([] : DE)) ++ r524)
 else none
def qcg_D (n : Nat) (d : Nat) : Int → Option DC := Nat.rec (fun _ => none) (fun _ ih a => qcg_S n ih a) d
def qcg (n : Nat) (v_0 : Int) : Option DC := qcg_D n n v_0
def qbz (n : Nat) (t_0 : Int) (t_0_1 : Int) (recs_1 : Int) : Option (Bool) :=
 bif (t_0 == 1) then
 some (t_0_1 == 0)
 else
 bif (t_0 == 2) then
 some (t_0_1 == 0)
 else
 bif (t_0 == 3) then
 some (t_0_1 == 0)
 else
 bif (t_0 == 7) then
 some (t_0_1 == 0)
 else
 bif (t_0 == 4) then
 bif (decide (t_0_1 ≥ 0)) then
 some (decide (t_0_1 < recs_1))
 else
 some false
 else
 bif (t_0 == 5) then
 bif (decide (t_0_1 ≥ 0)) then
 some (decide (t_0_1 < 4))
 else
 some false
 else
 some false
def qcc (n : Nat) (t_0 : Int) (t_0_1 : Int) : Option DC :=
 bif (decide (t_0 < 0)) then
 bif (decide (t_0_1 < 0)) then
 (qcg n (cvtI .u64 0)).bind fun r532 =>
 (qcg n (cvtI .u64 0)).bind fun r533 =>
 bif (Nat.ble (List.length (r532 ++ r533)) 4294967296) then
 some (r532 ++ r533)
 else none
 else
 (qcg n (cvtI .u64 0)).bind fun r534 =>
 (qcg n (cvtI .u64 t_0_1)).bind fun r535 =>
 bif (Nat.ble (List.length (r534 ++ r535)) 4294967296) then
 some (r534 ++ r535)
 else none
 else
 bif (decide (t_0_1 < 0)) then
 (qcg n (cvtI .u64 t_0)).bind fun r536 =>
 (qcg n (cvtI .u64 0)).bind fun r537 =>
 bif (Nat.ble (List.length (r536 ++ r537)) 4294967296) then
 some (r536 ++ r537)
 else none
 else
 (qcg n (cvtI .u64 t_0)).bind fun r538 =>
 (qcg n (cvtI .u64 t_0_1)).bind fun r539 =>
 bif (Nat.ble (List.length (r538 ++ r539)) 4294967296) then
 some (r538 ++ r539)
 else none
def qbu_B0 (n : Nat) (l_0 : DA) (recs_1 : Int) (most_2 : Int) (i_9 : Int) (m0 : DC) : Option (((DA × Int × Int × Int) × DC) ⊕ (((DC × Bool) × DC) ⊕ ((DA × Int) × DC))) :=
 bif (decide (i_9 < (lenI l_0))) then
 (getI l_0 i_9).bind fun x540 =>
 (qbz n x540.1 x540.2 recs_1).bind fun r541 =>
 bif (!r541) then
 some (Sum.inr (Sum.inl ((([] : DE), false), m0)))
 else
 (getI l_0 i_9).bind fun x542 =>
 (qcc n x542.1 x542.2).bind fun r543 =>
 bif (Nat.ble (List.length (m0 ++ r543)) 4294967296) then
 some (Sum.inl ((l_0, (recs_1, (most_2, (addI .i64 i_9 1)))), (m0 ++ r543)))
 else none
 else
 some (Sum.inr (Sum.inr ((l_0, most_2), m0)))
def qbu_W0 (n : Nat) (s : (DA × Int × Int × Int) × DC) : Option (((DC × Bool) × DC) ⊕ ((DA × Int) × DC)) := loopS (fun s => qbu_B0 n s.1.1 s.1.2.1 s.1.2.2.1 s.1.2.2.2 s.2) n s
def qbu (n : Nat) (l_0 : DA) (recs_1 : Int) (most_2 : Int) : Option (DC × Bool) :=
 (qcg n (cvtI .u64 (lenI l_0))).bind fun r544 =>
 (qbu_W0 n ((l_0, (recs_1, (most_2, 0))), r544)).bind fun r545 =>
 Sum.rec (fun u546 =>
 some (u546.1.1, u546.1.2)) (fun v547 =>
 some (v547.2, (decide ((lenI v547.1.1) ≤ v547.1.2)))) r545
def qbo_B0 (n : Nat) (t4 : Int) (t5 : Bool) (t7 : Int) (m0 : DH) (m0_1 : DI) (m0_2 : DJ) (m0_3 : DC) (m0_4 : DD) (m1 : DC) : Option (((Int × Bool × Int) × (DH × DI × DJ × DC × DD) × DC) ⊕ ((Int × Bool) × (DH × DI × DJ × DC × DD) × DC)) :=
 bif (decide (t7 < t4)) then
 (getI m0 t7).bind fun x548 =>
 (qbu n x548 t4 6).bind fun r549 =>
 bif (Nat.ble (List.length (m1 ++ r549.1)) 4294967296) then
 bif t5 then
 some (Sum.inl ((t4, (r549.2, (addI .i64 t7 1))), ((m0, (m0_1, (m0_2, (m0_3, m0_4)))), (m1 ++ r549.1))))
 else
 some (Sum.inl ((t4, (false, (addI .i64 t7 1))), ((m0, (m0_1, (m0_2, (m0_3, m0_4)))), (m1 ++ r549.1))))
 else none
 else
 some (Sum.inr ((t4, t5), ((m0, (m0_1, (m0_2, (m0_3, m0_4)))), m1)))
def qbo_W0 (n : Nat) (s : (Int × Bool × Int) × (DH × DI × DJ × DC × DD) × DC) : Option ((Int × Bool) × (DH × DI × DJ × DC × DD) × DC) := loopS (fun s => qbo_B0 n s.1.1 s.1.2.1 s.1.2.2 s.2.1.1 s.2.1.2.1 s.2.1.2.2.1 s.2.1.2.2.2.1 s.2.1.2.2.2.2 s.2.2) n s
def qce_B0 (n : Nat) (op_0 : Int) (l_3 : DC) (i_4 : Int) : Option ((Int × DC × Int) ⊕ ((Int) ⊕ (Unit))) :=
 bif (decide (i_4 < (lenI l_3))) then
 (getI l_3 i_4).bind fun x567 =>
 bif (x567 == op_0) then
 some (Sum.inr (Sum.inl 1))
 else
 some (Sum.inl (op_0, (l_3, (addI .i64 i_4 1))))
 else
 some (Sum.inr (Sum.inr ()))
def qce_W0 (n : Nat) (s : Int × DC × Int) : Option ((Int) ⊕ (Unit)) := loopS (fun s => qce_B0 n s.1 s.2.1 s.2.2) n s
def qce (n : Nat) (op_0 : Int) : Option (Int) :=
 bif (decide (op_0 < 0)) then
 some (-1)
 else
 bif (decide (op_0 ≥ 42)) then
 some (-1)
 else
 bif (op_0 == 29) then
 some 2
 else
 bif (op_0 == 30) then
 some 2
 else
 (qce_W0 n (op_0, ((0 :: (1 :: (3 :: (4 :: (23 :: (24 :: (25 :: (27 :: (28 :: ([] : DE)))))))))), 0))).bind fun r568 =>
 Sum.rec (fun u569 =>
 some u569) (fun v570 =>
 some 0) r568
def qbs (n : Nat) (t0 : Int) (t0_1 : Int) (t0_2 : Int) : Option DC :=
 (qce n t0).bind fun r572 =>
 bif (decide (r572 < 0)) then
 some ([] : DE)
 else
 bif (decide (t0_1 < 0)) then
 some ([] : DE)
 else
 bif (decide (t0_1 > 255)) then
 some ([] : DE)
 else
 bif (decide (t0_2 < 0)) then
 some ([] : DE)
 else
 bif (decide (t0_2 > 255)) then
 some ([] : DE)
 else
 bif (decide (r572 < 1)) then
 bif (t0_1 != 0) then
 some ([] : DE)
 else
 bif (decide (r572 < 2)) then
 bif (t0_2 != 0) then
 some ([] : DE)
 else
 bif (decide (r572 > 0)) then
 (qcg n (cvtI .u64 t0_1)).bind fun r573 =>
 bif (Nat.ble (List.length (((cvtI .u8 t0) :: ([] : DE)) ++ r573)) 4294967296) then
 bif (decide (r572 > 1)) then
 (qcg n (cvtI .u64 t0_2)).bind fun r574 =>
 bif (Nat.ble (List.length ((((cvtI .u8 t0) :: ([] : DE)) ++ r573) ++ r574)) 4294967296) then
 some ((((cvtI .u8 t0) :: ([] : DE)) ++ r573) ++ r574)
 else none
 else
 some (((cvtI .u8 t0) :: ([] : DE)) ++ r573)
 else none
 else
 bif (decide (r572 > 1)) then
 (qcg n (cvtI .u64 t0_2)).bind fun r575 =>
 bif (Nat.ble (List.length (((cvtI .u8 t0) :: ([] : DE)) ++ r575)) 4294967296) then
 some (((cvtI .u8 t0) :: ([] : DE)) ++ r575)
 else none
 else
 some ((cvtI .u8 t0) :: ([] : DE))
 else
 bif (decide (r572 > 0)) then
 (qcg n (cvtI .u64 t0_1)).bind fun r576 =>
 bif (Nat.ble (List.length (((cvtI .u8 t0) :: ([] : DE)) ++ r576)) 4294967296) then
 bif (decide (r572 > 1)) then
 (qcg n (cvtI .u64 t0_2)).bind fun r577 =>
 bif (Nat.ble (List.length ((((cvtI .u8 t0) :: ([] : DE)) ++ r576) ++ r577)) 4294967296) then
 some ((((cvtI .u8 t0) :: ([] : DE)) ++ r576) ++ r577)
 else none
 else
 some (((cvtI .u8 t0) :: ([] : DE)) ++ r576)
 else none
 else
 bif (decide (r572 > 1)) then
 (qcg n (cvtI .u64 t0_2)).bind fun r578 =>
 bif (Nat.ble (List.length (((cvtI .u8 t0) :: ([] : DE)) ++ r578)) 4294967296) then
 some (((cvtI .u8 t0) :: ([] : DE)) ++ r578)
 else none
 else
 some ((cvtI .u8 t0) :: ([] : DE))
 else
 bif (decide (r572 < 2)) then
 bif (t0_2 != 0) then
 some ([] : DE)
 else
 bif (decide (r572 > 0)) then
 (qcg n (cvtI .u64 t0_1)).bind fun r579 =>
 bif (Nat.ble (List.length (((cvtI .u8 t0) :: ([] : DE)) ++ r579)) 4294967296) then
 bif (decide (r572 > 1)) then
 (qcg n (cvtI .u64 t0_2)).bind fun r580 =>
 bif (Nat.ble (List.length ((((cvtI .u8 t0) :: ([] : DE)) ++ r579) ++ r580)) 4294967296) then
 some ((((cvtI .u8 t0) :: ([] : DE)) ++ r579) ++ r580)
 else none
 else
 some (((cvtI .u8 t0) :: ([] : DE)) ++ r579)
 else none
 else
 bif (decide (r572 > 1)) then
 (qcg n (cvtI .u64 t0_2)).bind fun r581 =>
 bif (Nat.ble (List.length (((cvtI .u8 t0) :: ([] : DE)) ++ r581)) 4294967296) then
 some (((cvtI .u8 t0) :: ([] : DE)) ++ r581)
 else none
 else
 some ((cvtI .u8 t0) :: ([] : DE))
 else
 bif (decide (r572 > 0)) then
 (qcg n (cvtI .u64 t0_1)).bind fun r582 =>
 bif (Nat.ble (List.length (((cvtI .u8 t0) :: ([] : DE)) ++ r582)) 4294967296) then
 bif (decide (r572 > 1)) then
 (qcg n (cvtI .u64 t0_2)).bind fun r583 =>
 bif (Nat.ble (List.length ((((cvtI .u8 t0) :: ([] : DE)) ++ r582) ++ r583)) 4294967296) then
 some ((((cvtI .u8 t0) :: ([] : DE)) ++ r582) ++ r583)
 else none
 else
 some (((cvtI .u8 t0) :: ([] : DE)) ++ r582)
 else none
 else
 bif (decide (r572 > 1)) then
 (qcg n (cvtI .u64 t0_2)).bind fun r584 =>
 bif (Nat.ble (List.length (((cvtI .u8 t0) :: ([] : DE)) ++ r584)) 4294967296) then
 some (((cvtI .u8 t0) :: ([] : DE)) ++ r584)
 else none
 else
 some ((cvtI .u8 t0) :: ([] : DE))
def qbo_B4 (n : Nat) (t4 : Int) (t5 : Bool) (t11 : Int) (t17 : Int) (m0 : DH) (m0_1 : DI) (m0_2 : DJ) (m0_3 : DC) (m0_4 : DD) (m1 : DC) (m2 : DC) (m3 : DA) (m3_1 : Int) (m3_2 : Int) (m3_3 : DA) (m3_4 : DB) : Option (((Int × Bool × Int × Int) × (DH × DI × DJ × DC × DD) × DC × DC × DA × Int × Int × DA × DB) ⊕ (((DC × Bool) × (DH × DI × DJ × DC × DD) × DC × DC × DA × Int × Int × DA × DB) ⊕ ((Int × Bool × Int) × (DH × DI × DJ × DC × DD) × DC × DC × DA × Int × Int × DA × DB))) :=
 bif (decide (t17 < (lenI m3_4))) then
 (getI m3_4 t17).bind fun x585 =>
 (qbs n x585.1 x585.2.1 x585.2.2).bind fun r586 =>
 bif ((lenI r586) == 0) then
 some (Sum.inr (Sum.inl ((([] : DE), false), ((m0, (m0_1, (m0_2, (m0_3, m0_4)))), (m1, (m2, (m3, (m3_1, (m3_2, (m3_3, m3_4))))))))))
 else
 bif (Nat.ble (List.length (m2 ++ r586)) 4294967296) then
 some (Sum.inl ((t4, (t5, (t11, (addI .i64 t17 1)))), ((m0, (m0_1, (m0_2, (m0_3, m0_4)))), (m1, ((m2 ++ r586), (m3, (m3_1, (m3_2, (m3_3, m3_4)))))))))
 else none
 else
 some (Sum.inr (Sum.inr ((t4, (t5, t11)), ((m0, (m0_1, (m0_2, (m0_3, m0_4)))), (m1, (m2, (m3, (m3_1, (m3_2, (m3_3, m3_4))))))))))
def qbo_W4 (n : Nat) (s : (Int × Bool × Int × Int) × (DH × DI × DJ × DC × DD) × DC × DC × DA × Int × Int × DA × DB) : Option (((DC × Bool) × (DH × DI × DJ × DC × DD) × DC × DC × DA × Int × Int × DA × DB) ⊕ ((Int × Bool × Int) × (DH × DI × DJ × DC × DD) × DC × DC × DA × Int × Int × DA × DB)) := loopS (fun s => qbo_B4 n s.1.1 s.1.2.1 s.1.2.2.1 s.1.2.2.2 s.2.1.1 s.2.1.2.1 s.2.1.2.2.1 s.2.1.2.2.2.1 s.2.1.2.2.2.2 s.2.2.1 s.2.2.2.1 s.2.2.2.2.1 s.2.2.2.2.2.1 s.2.2.2.2.2.2.1 s.2.2.2.2.2.2.2.1 s.2.2.2.2.2.2.2.2) n s
def qbo_B2 (n : Nat) (t4 : Int) (t5 : Bool) (t11 : Int) (m0 : DH) (m0_1 : DI) (m0_2 : DJ) (m0_3 : DC) (m0_4 : DD) (m1 : DC) (m2 : DC) : Option (((Int × Bool × Int) × (DH × DI × DJ × DC × DD) × DC × DC) ⊕ (((DC × Bool) × (DH × DI × DJ × DC × DD) × DC × DC × DA × Int × Int × DA × DB) ⊕ ((Int × Bool) × (DH × DI × DJ × DC × DD) × DC × DC))) :=
 bif (decide (t11 < (lenI m0_1))) then
 (getI m0_1 t11).bind fun x587 =>
 (qbu n x587.1 t4 4).bind fun r588 =>
 (qbu n x587.2.2.2.1 t4 (subI .i64 8 (lenI x587.1))).bind fun r589 =>
 bif t5 then
 bif r588.2 then
 bif r589.2 then
 (qbz n x587.2.1 x587.2.2.1 t4).bind fun r590 =>
 bif r590 then
 bif (decide ((lenI x587.2.2.2.2) ≥ 1)) then
 bif (!(decide ((lenI x587.2.2.2.2) ≤ 64))) then
 some (Sum.inr (Sum.inl ((([] : DE), false), ((m0, (m0_1, (m0_2, (m0_3, m0_4)))), (m1, (m2, (x587.1, (x587.2.1, (x587.2.2.1, (x587.2.2.2.1, x587.2.2.2.2))))))))))
 else
 bif (Nat.ble (List.length (m2 ++ r588.1)) 4294967296) then
 (qcc n x587.2.1 x587.2.2.1).bind fun r591 =>
 bif (Nat.ble (List.length ((m2 ++ r588.1) ++ r591)) 4294967296) then
 bif (Nat.ble (List.length (((m2 ++ r588.1) ++ r591) ++ r589.1)) 4294967296) then
 (qcg n (cvtI .u64 (lenI x587.2.2.2.2))).bind fun r592 =>
 bif (Nat.ble (List.length ((((m2 ++ r588.1) ++ r591) ++ r589.1) ++ r592)) 4294967296) then
 (qbo_W4 n ((t4, ((decide ((lenI x587.2.2.2.2) ≤ 64)), (t11, 0))), ((m0, (m0_1, (m0_2, (m0_3, m0_4)))), (m1, (((((m2 ++ r588.1) ++ r591) ++ r589.1) ++ r592), (x587.1, (x587.2.1, (x587.2.2.1, (x587.2.2.2.1, x587.2.2.2.2))))))))).bind fun r593 =>
 Sum.rec (fun u594 =>
 some (Sum.inr (Sum.inl ((u594.1.1, u594.1.2), ((u594.2.1.1, (u594.2.1.2.1, (u594.2.1.2.2.1, (u594.2.1.2.2.2.1, u594.2.1.2.2.2.2)))), (u594.2.2.1, (u594.2.2.2.1, (u594.2.2.2.2.1, (u594.2.2.2.2.2.1, (u594.2.2.2.2.2.2.1, (u594.2.2.2.2.2.2.2.1, u594.2.2.2.2.2.2.2.2))))))))))) (fun v595 =>
 some (Sum.inl ((v595.1.1, (v595.1.2.1, (addI .i64 v595.1.2.2 1))), ((v595.2.1.1, (v595.2.1.2.1, (v595.2.1.2.2.1, (v595.2.1.2.2.2.1, v595.2.1.2.2.2.2)))), (v595.2.2.1, v595.2.2.2.1))))) r593
 else none
 else none
 else none
 else none
 else
 some (Sum.inr (Sum.inl ((([] : DE), false), ((m0, (m0_1, (m0_2, (m0_3, m0_4)))), (m1, (m2, (x587.1, (x587.2.1, (x587.2.2.1, (x587.2.2.2.1, x587.2.2.2.2))))))))))
 else
 some (Sum.inr (Sum.inl ((([] : DE), false), ((m0, (m0_1, (m0_2, (m0_3, m0_4)))), (m1, (m2, (x587.1, (x587.2.1, (x587.2.2.1, (x587.2.2.2.1, x587.2.2.2.2))))))))))
 else
 some (Sum.inr (Sum.inl ((([] : DE), false), ((m0, (m0_1, (m0_2, (m0_3, m0_4)))), (m1, (m2, (x587.1, (x587.2.1, (x587.2.2.1, (x587.2.2.2.1, x587.2.2.2.2))))))))))
 else
 some (Sum.inr (Sum.inl ((([] : DE), false), ((m0, (m0_1, (m0_2, (m0_3, m0_4)))), (m1, (m2, (x587.1, (x587.2.1, (x587.2.2.1, (x587.2.2.2.1, x587.2.2.2.2))))))))))
 else
 some (Sum.inr (Sum.inl ((([] : DE), false), ((m0, (m0_1, (m0_2, (m0_3, m0_4)))), (m1, (m2, (x587.1, (x587.2.1, (x587.2.2.1, (x587.2.2.2.1, x587.2.2.2.2))))))))))
 else
 some (Sum.inr (Sum.inr ((t4, t5), ((m0, (m0_1, (m0_2, (m0_3, m0_4)))), (m1, m2)))))
def qbo_W2 (n : Nat) (s : (Int × Bool × Int) × (DH × DI × DJ × DC × DD) × DC × DC) : Option (((DC × Bool) × (DH × DI × DJ × DC × DD) × DC × DC × DA × Int × Int × DA × DB) ⊕ ((Int × Bool) × (DH × DI × DJ × DC × DD) × DC × DC)) := loopS (fun s => qbo_B2 n s.1.1 s.1.2.1 s.1.2.2 s.2.1.1 s.2.1.2.1 s.2.1.2.2.1 s.2.1.2.2.2.1 s.2.1.2.2.2.2 s.2.2.1 s.2.2.2) n s
def qbo_B6 (n : Nat) (t4 : Int) (t5 : Bool) (t20 : Int) (m0 : DH) (m0_1 : DI) (m0_2 : DJ) (m0_3 : DC) (m0_4 : DD) (m1 : DC) (m2 : DC) (m3 : DC) : Option (((Int × Bool × Int) × (DH × DI × DJ × DC × DD) × DC × DC × DC) ⊕ (Bool × (DH × DI × DJ × DC × DD) × DC × DC × DC)) :=
 bif (decide (t20 < (lenI m0_2))) then
 (getI m0_2 t20).bind fun x603 =>
 (qbu n x603.1 t4 4).bind fun r604 =>
 bif t5 then
 bif r604.2 then
 (getI m0_2 t20).bind fun x605 =>
 (qbz n x605.2.1 x605.2.2 t4).bind fun r606 =>
 bif (Nat.ble (List.length (m3 ++ r604.1)) 4294967296) then
 (getI m0_2 t20).bind fun x607 =>
 (qcc n x607.2.1 x607.2.2).bind fun r608 =>
 bif (Nat.ble (List.length ((m3 ++ r604.1) ++ r608)) 4294967296) then
 some (Sum.inl ((t4, (r606, (addI .i64 t20 1))), ((m0, (m0_1, (m0_2, (m0_3, m0_4)))), (m1, (m2, ((m3 ++ r604.1) ++ r608))))))
 else none
 else none
 else
 bif (Nat.ble (List.length (m3 ++ r604.1)) 4294967296) then
 (getI m0_2 t20).bind fun x609 =>
 (qcc n x609.2.1 x609.2.2).bind fun r610 =>
 bif (Nat.ble (List.length ((m3 ++ r604.1) ++ r610)) 4294967296) then
 some (Sum.inl ((t4, (false, (addI .i64 t20 1))), ((m0, (m0_1, (m0_2, (m0_3, m0_4)))), (m1, (m2, ((m3 ++ r604.1) ++ r610))))))
 else none
 else none
 else
 bif (Nat.ble (List.length (m3 ++ r604.1)) 4294967296) then
 (getI m0_2 t20).bind fun x611 =>
 (qcc n x611.2.1 x611.2.2).bind fun r612 =>
 bif (Nat.ble (List.length ((m3 ++ r604.1) ++ r612)) 4294967296) then
 some (Sum.inl ((t4, (false, (addI .i64 t20 1))), ((m0, (m0_1, (m0_2, (m0_3, m0_4)))), (m1, (m2, ((m3 ++ r604.1) ++ r612))))))
 else none
 else none
 else
 some (Sum.inr (t5, ((m0, (m0_1, (m0_2, (m0_3, m0_4)))), (m1, (m2, m3)))))
def qbo_W6 (n : Nat) (s : (Int × Bool × Int) × (DH × DI × DJ × DC × DD) × DC × DC × DC) : Option (Bool × (DH × DI × DJ × DC × DD) × DC × DC × DC) := loopS (fun s => qbo_B6 n s.1.1 s.1.2.1 s.1.2.2 s.2.1.1 s.2.1.2.1 s.2.1.2.2.1 s.2.1.2.2.2.1 s.2.1.2.2.2.2 s.2.2.1 s.2.2.2.1 s.2.2.2.2) n s
def qbv_B0 (n : Nat) (v_0 : Int) (n_1 : Int) (k_6 : Int) (m0 : DC) : Option (((Int × Int × Int) × DC) ⊕ DC) :=
 bif (decide (k_6 < n_1)) then
 bif (decide (k_6 < 8)) then
 bif (Nat.ble (List.length (m0 ++ ((cvtI .u8 (remI v_0 256)) :: ([] : DE)))) 4294967296) then
 some (Sum.inl (((quoI .u64 v_0 256), (n_1, (addI .i64 k_6 1))), (m0 ++ ((cvtI .u8 (remI v_0 256)) :: ([] : DE)))))
 else none
 else
 some (Sum.inr m0)
 else
 some (Sum.inr m0)
def qbv_W0 (n : Nat) (s : (Int × Int × Int) × DC) : Option DC := loopS (fun s => qbv_B0 n s.1.1 s.1.2.1 s.1.2.2 s.2) n s
def qbv (n : Nat) (v_0 : Int) (n_1 : Int) : Option DC :=
 (qbv_W0 n ((v_0, (n_1, 0)), ([] : DE))).bind fun r623 =>
 some r623
def qbo_B8 (n : Nat) (t5 : Bool) (t24 : Int) (m0 : DH) (m0_1 : DI) (m0_2 : DJ) (m0_3 : DC) (m0_4 : DD) (m1 : DC) (m2 : DC) (m3 : DC) (m4 : DC) : Option (((Bool × Int) × (DH × DI × DJ × DC × DD) × DC × DC × DC × DC) ⊕ (Bool × (DH × DI × DJ × DC × DD) × DC × DC × DC × DC)) :=
 bif (decide (t24 < (lenI m0_3))) then
 (getI m0_3 t24).bind fun x624 =>
 (qbv n x624 8).bind fun r625 =>
 bif (Nat.ble (List.length (m4 ++ r625)) 4294967296) then
 some (Sum.inl ((t5, (addI .i64 t24 1)), ((m0, (m0_1, (m0_2, (m0_3, m0_4)))), (m1, (m2, (m3, (m4 ++ r625)))))))
 else none
 else
 some (Sum.inr (t5, ((m0, (m0_1, (m0_2, (m0_3, m0_4)))), (m1, (m2, (m3, m4))))))
def qbo_W8 (n : Nat) (s : (Bool × Int) × (DH × DI × DJ × DC × DD) × DC × DC × DC × DC) : Option (Bool × (DH × DI × DJ × DC × DD) × DC × DC × DC × DC) := loopS (fun s => qbo_B8 n s.1.1 s.1.2 s.2.1.1 s.2.1.2.1 s.2.1.2.2.1 s.2.1.2.2.2.1 s.2.1.2.2.2.2 s.2.2.1 s.2.2.2.1 s.2.2.2.2.1 s.2.2.2.2.2) n s
def qbo_B10 (n : Nat) (t5 : Bool) (t26 : Int) (m0 : DH) (m0_1 : DI) (m0_2 : DJ) (m0_3 : DC) (m0_4 : DD) (m1 : DC) (m2 : DC) (m3 : DC) (m4 : DC) (m5 : DC) : Option (((Bool × Int) × (DH × DI × DJ × DC × DD) × DC × DC × DC × DC × DC) ⊕ (Bool × (DH × DI × DJ × DC × DD) × DC × DC × DC × DC × DC)) :=
 bif (decide (t26 < (lenI m0_4))) then
 bif t5 then
 (getI m0_4 t26).bind fun x637 =>
 (getI m0_4 t26).bind fun x638 =>
 (qcg n (cvtI .u64 (lenS x638))).bind fun r639 =>
 bif (Nat.ble (List.length (m5 ++ r639)) 4294967296) then
 (getI m0_4 t26).bind fun x640 =>
 bif (Nat.ble (List.length ((m5 ++ r639) ++ (bytesInts x640))) 4294967296) then
 some (Sum.inl (((decide ((lenS x637) ≤ 32)), (addI .i64 t26 1)), ((m0, (m0_1, (m0_2, (m0_3, m0_4)))), (m1, (m2, (m3, (m4, ((m5 ++ r639) ++ (bytesInts x640)))))))))
 else none
 else none
 else
 (getI m0_4 t26).bind fun x641 =>
 (qcg n (cvtI .u64 (lenS x641))).bind fun r642 =>
 bif (Nat.ble (List.length (m5 ++ r642)) 4294967296) then
 (getI m0_4 t26).bind fun x643 =>
 bif (Nat.ble (List.length ((m5 ++ r642) ++ (bytesInts x643))) 4294967296) then
 some (Sum.inl ((false, (addI .i64 t26 1)), ((m0, (m0_1, (m0_2, (m0_3, m0_4)))), (m1, (m2, (m3, (m4, ((m5 ++ r642) ++ (bytesInts x643)))))))))
 else none
 else none
 else
 some (Sum.inr (t5, ((m0, (m0_1, (m0_2, (m0_3, m0_4)))), (m1, (m2, (m3, (m4, m5)))))))
def qbo_W10 (n : Nat) (s : (Bool × Int) × (DH × DI × DJ × DC × DD) × DC × DC × DC × DC × DC) : Option (Bool × (DH × DI × DJ × DC × DD) × DC × DC × DC × DC × DC) := loopS (fun s => qbo_B10 n s.1.1 s.1.2 s.2.1.1 s.2.1.2.1 s.2.1.2.2.1 s.2.1.2.2.2.1 s.2.1.2.2.2.2 s.2.2.1 s.2.2.2.1 s.2.2.2.2.1 s.2.2.2.2.2.1 s.2.2.2.2.2.2) n s
def qcb_B0 (n : Nat) (l_0 : DK) (i_4 : Int) (m0 : DC) : Option (((DK × Int) × DC) ⊕ DC) :=
 bif (decide (i_4 < (lenI l_0))) then
 (getI l_0 i_4).bind fun x657 =>
 (qcg n (cvtI .u64 (lenI x657))).bind fun r658 =>
 bif (Nat.ble (List.length (m0 ++ r658)) 4294967296) then
 (getI l_0 i_4).bind fun x659 =>
 bif (Nat.ble (List.length ((m0 ++ r658) ++ x659)) 4294967296) then
 some (Sum.inl ((l_0, (addI .i64 i_4 1)), ((m0 ++ r658) ++ x659)))
 else none
 else none
 else
 some (Sum.inr m0)
def qcb_W0 (n : Nat) (s : (DK × Int) × DC) : Option DC := loopS (fun s => qcb_B0 n s.1.1 s.1.2 s.2) n s
def qcb (n : Nat) (l_0 : DK) : Option DC :=
 (qcg n (cvtI .u64 (lenI l_0))).bind fun r660 =>
 (qcb_W0 n ((l_0, 0), r660)).bind fun r661 =>
 some r661
def qbo (n : Nat) (t0 : DH) (t0_1 : DI) (t0_2 : DJ) (t0_3 : DC) (t0_4 : DD) : Option (DC × Bool) :=
 bif (decide ((lenI t0) > 8)) then
 some (([] : DE), false)
 else
 bif (decide ((lenI t0_1) < 1)) then
 some (([] : DE), false)
 else
 bif (decide ((lenI t0_1) > 8)) then
 some (([] : DE), false)
 else
 bif (decide ((lenI t0_2) > 8)) then
 some (([] : DE), false)
 else
 bif (decide ((lenI t0_3) > 16)) then
 some (([] : DE), false)
 else
 bif (decide ((lenI t0_4) > 16)) then
 some (([] : DE), false)
 else
 (qcg n (cvtI .u64 (lenI t0))).bind fun r662 =>
 (qbo_W0 n (((lenI t0), (true, 0)), ((t0, (t0_1, (t0_2, (t0_3, t0_4)))), r662))).bind fun r663 =>
 (qcg n (cvtI .u64 (lenI r663.2.1.2.1))).bind fun r664 =>
 (qbo_W2 n ((r663.1.1, (r663.1.2, 0)), ((r663.2.1.1, (r663.2.1.2.1, (r663.2.1.2.2.1, (r663.2.1.2.2.2.1, r663.2.1.2.2.2.2)))), (r663.2.2, r664)))).bind fun r665 =>
 Sum.rec (fun u666 =>
 some (u666.1.1, u666.1.2)) (fun v667 =>
 (qcg n (cvtI .u64 (lenI v667.2.1.2.2.1))).bind fun r668 =>
 (qbo_W6 n ((v667.1.1, (v667.1.2, 0)), ((v667.2.1.1, (v667.2.1.2.1, (v667.2.1.2.2.1, (v667.2.1.2.2.2.1, v667.2.1.2.2.2.2)))), (v667.2.2.1, (v667.2.2.2, r668))))).bind fun r669 =>
 (qcg n (cvtI .u64 (lenI r669.2.1.2.2.2.1))).bind fun r670 =>
 (qbo_W8 n ((r669.1, 0), ((r669.2.1.1, (r669.2.1.2.1, (r669.2.1.2.2.1, (r669.2.1.2.2.2.1, r669.2.1.2.2.2.2)))), (r669.2.2.1, (r669.2.2.2.1, (r669.2.2.2.2, r670)))))).bind fun r671 =>
 (qcg n (cvtI .u64 (lenI r671.2.1.2.2.2.2))).bind fun r672 =>
 (qbo_W10 n ((r671.1, 0), ((r671.2.1.1, (r671.2.1.2.1, (r671.2.1.2.2.1, (r671.2.1.2.2.2.1, r671.2.1.2.2.2.2)))), (r671.2.2.1, (r671.2.2.2.1, (r671.2.2.2.2.1, (r671.2.2.2.2.2, r672))))))).bind fun r673 =>
 (qcb n (r673.2.2.1 :: (r673.2.2.2.1 :: (r673.2.2.2.2.1 :: (r673.2.2.2.2.2.1 :: (r673.2.2.2.2.2.2 :: ([] : DK))))))).bind fun r674 =>
 some (r674, r673.1)) r665
def qbd_B0 (n : Nat) (a_0 : DA) (b_1 : DA) (i_5 : Int) : Option ((DA × DA × Int) ⊕ ((Bool) ⊕ (Unit))) :=
 bif (decide (i_5 < (lenI a_0))) then
 (getI a_0 i_5).bind fun x710 =>
 (getI b_1 i_5).bind fun x711 =>
 bif (!((x710.1 == x711.1) && (x710.2 == x711.2))) then
 some (Sum.inr (Sum.inl false))
 else
 some (Sum.inl (a_0, (b_1, (addI .i64 i_5 1))))
 else
 some (Sum.inr (Sum.inr ()))
def qbd_W0 (n : Nat) (s : DA × DA × Int) : Option ((Bool) ⊕ (Unit)) := loopS (fun s => qbd_B0 n s.1 s.2.1 s.2.2) n s
def qbd (n : Nat) (a_0 : DA) (b_1 : DA) : Option (Bool) :=
 bif ((lenI a_0) != (lenI b_1)) then
 some false
 else
 (qbd_W0 n (a_0, (b_1, 0))).bind fun r712 =>
 Sum.rec (fun u713 =>
 some u713) (fun v714 =>
 some true) r712
def qu_B0 (n : Nat) (t5 : Int) (m0 : DH) (m0_1 : DI) (m0_2 : DJ) (m0_3 : DC) (m0_4 : DD) (m1 : DH) (m1_1 : DI) (m1_2 : DJ) (m1_3 : DC) (m1_4 : DD) : Option ((Int × (DH × DI × DJ × DC × DD) × DH × DI × DJ × DC × DD) ⊕ ((Bool × (DH × DI × DJ × DC × DD) × DH × DI × DJ × DC × DD) ⊕ ((DH × DI × DJ × DC × DD) × DH × DI × DJ × DC × DD))) :=
 bif (decide (t5 < (lenI m0))) then
 (getI m0 t5).bind fun x715 =>
 (getI m1 t5).bind fun x716 =>
 (qbd n x715 x716).bind fun r717 =>
 bif (!r717) then
 some (Sum.inr (Sum.inl (false, ((m0, (m0_1, (m0_2, (m0_3, m0_4)))), (m1, (m1_1, (m1_2, (m1_3, m1_4))))))))
 else
 some (Sum.inl ((addI .i64 t5 1), ((m0, (m0_1, (m0_2, (m0_3, m0_4)))), (m1, (m1_1, (m1_2, (m1_3, m1_4)))))))
 else
 some (Sum.inr (Sum.inr ((m0, (m0_1, (m0_2, (m0_3, m0_4)))), (m1, (m1_1, (m1_2, (m1_3, m1_4)))))))
def qu_W0 (n : Nat) (s : Int × (DH × DI × DJ × DC × DD) × DH × DI × DJ × DC × DD) : Option ((Bool × (DH × DI × DJ × DC × DD) × DH × DI × DJ × DC × DD) ⊕ ((DH × DI × DJ × DC × DD) × DH × DI × DJ × DC × DD)) := loopS (fun s => qu_B0 n s.1 s.2.1.1 s.2.1.2.1 s.2.1.2.2.1 s.2.1.2.2.2.1 s.2.1.2.2.2.2 s.2.2.1 s.2.2.2.1 s.2.2.2.2.1 s.2.2.2.2.2.1 s.2.2.2.2.2.2) n s
def qu_B4 (n : Nat) (t6 : Int) (t9 : Int) (m0 : DH) (m0_1 : DI) (m0_2 : DJ) (m0_3 : DC) (m0_4 : DD) (m1 : DH) (m1_1 : DI) (m1_2 : DJ) (m1_3 : DC) (m1_4 : DD) (m2 : DA) (m2_1 : Int) (m2_2 : Int) (m2_3 : DA) (m2_4 : DB) (m3 : DA) (m3_1 : Int) (m3_2 : Int) (m3_3 : DA) (m3_4 : DB) : Option (((Int × Int) × (DH × DI × DJ × DC × DD) × (DH × DI × DJ × DC × DD) × (DA × Int × Int × DA × DB) × DA × Int × Int × DA × DB) ⊕ ((Bool × (DH × DI × DJ × DC × DD) × (DH × DI × DJ × DC × DD) × (DA × Int × Int × DA × DB) × DA × Int × Int × DA × DB) ⊕ (Int × (DH × DI × DJ × DC × DD) × (DH × DI × DJ × DC × DD) × (DA × Int × Int × DA × DB) × DA × Int × Int × DA × DB))) :=
 bif (decide (t9 < (lenI m2_4))) then
 (getI m2_4 t9).bind fun x725 =>
 (getI m3_4 t9).bind fun x726 =>
 bif (!((x725.1 == x726.1) && ((x725.2.1 == x726.2.1) && (x725.2.2 == x726.2.2)))) then
 some (Sum.inr (Sum.inl (false, ((m0, (m0_1, (m0_2, (m0_3, m0_4)))), ((m1, (m1_1, (m1_2, (m1_3, m1_4)))), ((m2, (m2_1, (m2_2, (m2_3, m2_4)))), (m3, (m3_1, (m3_2, (m3_3, m3_4))))))))))
 else
 some (Sum.inl ((t6, (addI .i64 t9 1)), ((m0, (m0_1, (m0_2, (m0_3, m0_4)))), ((m1, (m1_1, (m1_2, (m1_3, m1_4)))), ((m2, (m2_1, (m2_2, (m2_3, m2_4)))), (m3, (m3_1, (m3_2, (m3_3, m3_4)))))))))
 else
 some (Sum.inr (Sum.inr (t6, ((m0, (m0_1, (m0_2, (m0_3, m0_4)))), ((m1, (m1_1, (m1_2, (m1_3, m1_4)))), ((m2, (m2_1, (m2_2, (m2_3, m2_4)))), (m3, (m3_1, (m3_2, (m3_3, m3_4))))))))))
def qu_W4 (n : Nat) (s : (Int × Int) × (DH × DI × DJ × DC × DD) × (DH × DI × DJ × DC × DD) × (DA × Int × Int × DA × DB) × DA × Int × Int × DA × DB) : Option ((Bool × (DH × DI × DJ × DC × DD) × (DH × DI × DJ × DC × DD) × (DA × Int × Int × DA × DB) × DA × Int × Int × DA × DB) ⊕ (Int × (DH × DI × DJ × DC × DD) × (DH × DI × DJ × DC × DD) × (DA × Int × Int × DA × DB) × DA × Int × Int × DA × DB)) := loopS (fun s => qu_B4 n s.1.1 s.1.2 s.2.1.1 s.2.1.2.1 s.2.1.2.2.1 s.2.1.2.2.2.1 s.2.1.2.2.2.2 s.2.2.1.1 s.2.2.1.2.1 s.2.2.1.2.2.1 s.2.2.1.2.2.2.1 s.2.2.1.2.2.2.2 s.2.2.2.1.1 s.2.2.2.1.2.1 s.2.2.2.1.2.2.1 s.2.2.2.1.2.2.2.1 s.2.2.2.1.2.2.2.2 s.2.2.2.2.1 s.2.2.2.2.2.1 s.2.2.2.2.2.2.1 s.2.2.2.2.2.2.2.1 s.2.2.2.2.2.2.2.2) n s
def qu_B2 (n : Nat) (t6 : Int) (m0 : DH) (m0_1 : DI) (m0_2 : DJ) (m0_3 : DC) (m0_4 : DD) (m1 : DH) (m1_1 : DI) (m1_2 : DJ) (m1_3 : DC) (m1_4 : DD) : Option ((Int × (DH × DI × DJ × DC × DD) × DH × DI × DJ × DC × DD) ⊕ ((Bool × (DH × DI × DJ × DC × DD) × (DH × DI × DJ × DC × DD) × (DA × Int × Int × DA × DB) × DA × Int × Int × DA × DB) ⊕ ((DH × DI × DJ × DC × DD) × DH × DI × DJ × DC × DD))) :=
 bif (decide (t6 < (lenI m0_1))) then
 (getI m0_1 t6).bind fun x727 =>
 (getI m1_1 t6).bind fun x728 =>
 (qbd n x727.1 x728.1).bind fun r729 =>
 bif (!r729) then
 some (Sum.inr (Sum.inl (false, ((m0, (m0_1, (m0_2, (m0_3, m0_4)))), ((m1, (m1_1, (m1_2, (m1_3, m1_4)))), ((x727.1, (x727.2.1, (x727.2.2.1, (x727.2.2.2.1, x727.2.2.2.2)))), (x728.1, (x728.2.1, (x728.2.2.1, (x728.2.2.2.1, x728.2.2.2.2))))))))))
 else
 bif (!((x727.2.1 == x728.2.1) && (x727.2.2.1 == x728.2.2.1))) then
 some (Sum.inr (Sum.inl (false, ((m0, (m0_1, (m0_2, (m0_3, m0_4)))), ((m1, (m1_1, (m1_2, (m1_3, m1_4)))), ((x727.1, (x727.2.1, (x727.2.2.1, (x727.2.2.2.1, x727.2.2.2.2)))), (x728.1, (x728.2.1, (x728.2.2.1, (x728.2.2.2.1, x728.2.2.2.2))))))))))
 else
 (qbd n x727.2.2.2.1 x728.2.2.2.1).bind fun r730 =>
 bif (!r730) then
 some (Sum.inr (Sum.inl (false, ((m0, (m0_1, (m0_2, (m0_3, m0_4)))), ((m1, (m1_1, (m1_2, (m1_3, m1_4)))), ((x727.1, (x727.2.1, (x727.2.2.1, (x727.2.2.2.1, x727.2.2.2.2)))), (x728.1, (x728.2.1, (x728.2.2.1, (x728.2.2.2.1, x728.2.2.2.2))))))))))
 else
 bif ((lenI x727.2.2.2.2) != (lenI x728.2.2.2.2)) then
 some (Sum.inr (Sum.inl (false, ((m0, (m0_1, (m0_2, (m0_3, m0_4)))), ((m1, (m1_1, (m1_2, (m1_3, m1_4)))), ((x727.1, (x727.2.1, (x727.2.2.1, (x727.2.2.2.1, x727.2.2.2.2)))), (x728.1, (x728.2.1, (x728.2.2.1, (x728.2.2.2.1, x728.2.2.2.2))))))))))
 else
 (qu_W4 n ((t6, 0), ((m0, (m0_1, (m0_2, (m0_3, m0_4)))), ((m1, (m1_1, (m1_2, (m1_3, m1_4)))), ((x727.1, (x727.2.1, (x727.2.2.1, (x727.2.2.2.1, x727.2.2.2.2)))), (x728.1, (x728.2.1, (x728.2.2.1, (x728.2.2.2.1, x728.2.2.2.2))))))))).bind fun r731 =>
 Sum.rec (fun u732 =>
 some (Sum.inr (Sum.inl (u732.1, ((u732.2.1.1, (u732.2.1.2.1, (u732.2.1.2.2.1, (u732.2.1.2.2.2.1, u732.2.1.2.2.2.2)))), ((u732.2.2.1.1, (u732.2.2.1.2.1, (u732.2.2.1.2.2.1, (u732.2.2.1.2.2.2.1, u732.2.2.1.2.2.2.2)))), ((u732.2.2.2.1.1, (u732.2.2.2.1.2.1, (u732.2.2.2.1.2.2.1, (u732.2.2.2.1.2.2.2.1, u732.2.2.2.1.2.2.2.2)))), (u732.2.2.2.2.1, (u732.2.2.2.2.2.1, (u732.2.2.2.2.2.2.1, (u732.2.2.2.2.2.2.2.1, u732.2.2.2.2.2.2.2.2))))))))))) (fun v733 =>
 some (Sum.inl ((addI .i64 v733.1 1), ((v733.2.1.1, (v733.2.1.2.1, (v733.2.1.2.2.1, (v733.2.1.2.2.2.1, v733.2.1.2.2.2.2)))), (v733.2.2.1.1, (v733.2.2.1.2.1, (v733.2.2.1.2.2.1, (v733.2.2.1.2.2.2.1, v733.2.2.1.2.2.2.2)))))))) r731
 else
 some (Sum.inr (Sum.inr ((m0, (m0_1, (m0_2, (m0_3, m0_4)))), (m1, (m1_1, (m1_2, (m1_3, m1_4)))))))
def qu_W2 (n : Nat) (s : Int × (DH × DI × DJ × DC × DD) × DH × DI × DJ × DC × DD) : Option ((Bool × (DH × DI × DJ × DC × DD) × (DH × DI × DJ × DC × DD) × (DA × Int × Int × DA × DB) × DA × Int × Int × DA × DB) ⊕ ((DH × DI × DJ × DC × DD) × DH × DI × DJ × DC × DD)) := loopS (fun s => qu_B2 n s.1 s.2.1.1 s.2.1.2.1 s.2.1.2.2.1 s.2.1.2.2.2.1 s.2.1.2.2.2.2 s.2.2.1 s.2.2.2.1 s.2.2.2.2.1 s.2.2.2.2.2.1 s.2.2.2.2.2.2) n s
def qu_B6 (n : Nat) (t10 : Int) (m0 : DH) (m0_1 : DI) (m0_2 : DJ) (m0_3 : DC) (m0_4 : DD) (m1 : DH) (m1_1 : DI) (m1_2 : DJ) (m1_3 : DC) (m1_4 : DD) : Option ((Int × (DH × DI × DJ × DC × DD) × DH × DI × DJ × DC × DD) ⊕ ((Bool × (DH × DI × DJ × DC × DD) × DH × DI × DJ × DC × DD) ⊕ ((DH × DI × DJ × DC × DD) × DH × DI × DJ × DC × DD))) :=
 bif (decide (t10 < (lenI m0_2))) then
 (getI m0_2 t10).bind fun x740 =>
 (getI m1_2 t10).bind fun x741 =>
 (qbd n x740.1 x741.1).bind fun r742 =>
 bif (!r742) then
 some (Sum.inr (Sum.inl (false, ((m0, (m0_1, (m0_2, (m0_3, m0_4)))), (m1, (m1_1, (m1_2, (m1_3, m1_4))))))))
 else
 (getI m0_2 t10).bind fun x743 =>
 (getI m1_2 t10).bind fun x744 =>
 bif (!((x743.2.1 == x744.2.1) && (x743.2.2 == x744.2.2))) then
 some (Sum.inr (Sum.inl (false, ((m0, (m0_1, (m0_2, (m0_3, m0_4)))), (m1, (m1_1, (m1_2, (m1_3, m1_4))))))))
 else
 some (Sum.inl ((addI .i64 t10 1), ((m0, (m0_1, (m0_2, (m0_3, m0_4)))), (m1, (m1_1, (m1_2, (m1_3, m1_4)))))))
 else
 some (Sum.inr (Sum.inr ((m0, (m0_1, (m0_2, (m0_3, m0_4)))), (m1, (m1_1, (m1_2, (m1_3, m1_4)))))))
def qu_W6 (n : Nat) (s : Int × (DH × DI × DJ × DC × DD) × DH × DI × DJ × DC × DD) : Option ((Bool × (DH × DI × DJ × DC × DD) × DH × DI × DJ × DC × DD) ⊕ ((DH × DI × DJ × DC × DD) × DH × DI × DJ × DC × DD)) := loopS (fun s => qu_B6 n s.1 s.2.1.1 s.2.1.2.1 s.2.1.2.2.1 s.2.1.2.2.2.1 s.2.1.2.2.2.2 s.2.2.1 s.2.2.2.1 s.2.2.2.2.1 s.2.2.2.2.2.1 s.2.2.2.2.2.2) n s
def qu_B8 (n : Nat) (t11 : Int) (m0 : DH) (m0_1 : DI) (m0_2 : DJ) (m0_3 : DC) (m0_4 : DD) (m1 : DH) (m1_1 : DI) (m1_2 : DJ) (m1_3 : DC) (m1_4 : DD) : Option ((Int × (DH × DI × DJ × DC × DD) × DH × DI × DJ × DC × DD) ⊕ ((Bool × (DH × DI × DJ × DC × DD) × DH × DI × DJ × DC × DD) ⊕ ((DH × DI × DJ × DC × DD) × DH × DI × DJ × DC × DD))) :=
 bif (decide (t11 < (lenI m0_3))) then
 (getI m0_3 t11).bind fun x754 =>
 (getI m1_3 t11).bind fun x755 =>
 bif (x754 != x755) then
 some (Sum.inr (Sum.inl (false, ((m0, (m0_1, (m0_2, (m0_3, m0_4)))), (m1, (m1_1, (m1_2, (m1_3, m1_4))))))))
 else
 some (Sum.inl ((addI .i64 t11 1), ((m0, (m0_1, (m0_2, (m0_3, m0_4)))), (m1, (m1_1, (m1_2, (m1_3, m1_4)))))))
 else
 some (Sum.inr (Sum.inr ((m0, (m0_1, (m0_2, (m0_3, m0_4)))), (m1, (m1_1, (m1_2, (m1_3, m1_4)))))))
def qu_W8 (n : Nat) (s : Int × (DH × DI × DJ × DC × DD) × DH × DI × DJ × DC × DD) : Option ((Bool × (DH × DI × DJ × DC × DD) × DH × DI × DJ × DC × DD) ⊕ ((DH × DI × DJ × DC × DD) × DH × DI × DJ × DC × DD)) := loopS (fun s => qu_B8 n s.1 s.2.1.1 s.2.1.2.1 s.2.1.2.2.1 s.2.1.2.2.2.1 s.2.1.2.2.2.2 s.2.2.1 s.2.2.2.1 s.2.2.2.2.1 s.2.2.2.2.2.1 s.2.2.2.2.2.2) n s
def qu_B10 (n : Nat) (t12 : Int) (m0 : DH) (m0_1 : DI) (m0_2 : DJ) (m0_3 : DC) (m0_4 : DD) (m1 : DH) (m1_1 : DI) (m1_2 : DJ) (m1_3 : DC) (m1_4 : DD) : Option ((Int × (DH × DI × DJ × DC × DD) × DH × DI × DJ × DC × DD) ⊕ ((Bool × (DH × DI × DJ × DC × DD) × DH × DI × DJ × DC × DD) ⊕ ((DH × DI × DJ × DC × DD) × DH × DI × DJ × DC × DD))) :=
 bif (decide (t12 < (lenI m0_4))) then
 (getI m0_4 t12).bind fun x768 =>
 (getI m1_4 t12).bind fun x769 =>
 bif (!(eqS x768 x769)) then
 some (Sum.inr (Sum.inl (false, ((m0, (m0_1, (m0_2, (m0_3, m0_4)))), (m1, (m1_1, (m1_2, (m1_3, m1_4))))))))
 else
 some (Sum.inl ((addI .i64 t12 1), ((m0, (m0_1, (m0_2, (m0_3, m0_4)))), (m1, (m1_1, (m1_2, (m1_3, m1_4)))))))
 else
 some (Sum.inr (Sum.inr ((m0, (m0_1, (m0_2, (m0_3, m0_4)))), (m1, (m1_1, (m1_2, (m1_3, m1_4)))))))
def qu_W10 (n : Nat) (s : Int × (DH × DI × DJ × DC × DD) × DH × DI × DJ × DC × DD) : Option ((Bool × (DH × DI × DJ × DC × DD) × DH × DI × DJ × DC × DD) ⊕ ((DH × DI × DJ × DC × DD) × DH × DI × DJ × DC × DD)) := loopS (fun s => qu_B10 n s.1 s.2.1.1 s.2.1.2.1 s.2.1.2.2.1 s.2.1.2.2.2.1 s.2.1.2.2.2.2 s.2.2.1 s.2.2.2.1 s.2.2.2.2.1 s.2.2.2.2.2.1 s.2.2.2.2.2.2) n s
def qu (n : Nat) (t0 : DH) (t0_1 : DI) (t0_2 : DJ) (t0_3 : DC) (t0_4 : DD) (t1 : DH) (t1_1 : DI) (t1_2 : DJ) (t1_3 : DC) (t1_4 : DD) : Option (Bool) :=
 bif ((lenI t0) != (lenI t1)) then
 some false
 else
 bif ((lenI t0_1) != (lenI t1_1)) then
 some false
 else
 bif ((lenI t0_2) != (lenI t1_2)) then
 some false
 else
 bif ((lenI t0_3) != (lenI t1_3)) then
 some false
 else
 bif ((lenI t0_4) != (lenI t1_4)) then
 some false
 else
 (qu_W0 n (0, ((t0, (t0_1, (t0_2, (t0_3, t0_4)))), (t1, (t1_1, (t1_2, (t1_3, t1_4))))))).bind fun r770 =>
 Sum.rec (fun u771 =>
 some u771.1) (fun v772 =>
 (qu_W2 n (0, ((v772.1.1, (v772.1.2.1, (v772.1.2.2.1, (v772.1.2.2.2.1, v772.1.2.2.2.2)))), (v772.2.1, (v772.2.2.1, (v772.2.2.2.1, (v772.2.2.2.2.1, v772.2.2.2.2.2))))))).bind fun r773 =>
 Sum.rec (fun u774 =>
 some u774.1) (fun v775 =>
 (qu_W6 n (0, ((v775.1.1, (v775.1.2.1, (v775.1.2.2.1, (v775.1.2.2.2.1, v775.1.2.2.2.2)))), (v775.2.1, (v775.2.2.1, (v775.2.2.2.1, (v775.2.2.2.2.1, v775.2.2.2.2.2))))))).bind fun r776 =>
 Sum.rec (fun u777 =>
 some u777.1) (fun v778 =>
 (qu_W8 n (0, ((v778.1.1, (v778.1.2.1, (v778.1.2.2.1, (v778.1.2.2.2.1, v778.1.2.2.2.2)))), (v778.2.1, (v778.2.2.1, (v778.2.2.2.1, (v778.2.2.2.2.1, v778.2.2.2.2.2))))))).bind fun r779 =>
 Sum.rec (fun u780 =>
 some u780.1) (fun v781 =>
 (qu_W10 n (0, ((v781.1.1, (v781.1.2.1, (v781.1.2.2.1, (v781.1.2.2.2.1, v781.1.2.2.2.2)))), (v781.2.1, (v781.2.2.1, (v781.2.2.2.1, (v781.2.2.2.2.1, v781.2.2.2.2.2))))))).bind fun r782 =>
 Sum.rec (fun u783 =>
 some u783.1) (fun v784 =>
 some true) r782) r779) r776) r773) r770
def law06ModuleCuts (n : Nat) (t0 : DH) (t0_1 : DI) (t0_2 : DJ) (t0_3 : DC) (t0_4 : DD) (t1 : Int) (t2 : Int) : Option (Bool) :=
 (qbr n t0 t0_1 t0_2 t0_3 t0_4).bind fun r867 =>
 bif (!r867) then
 (qbc n).bind fun r868 =>
 some r868
 else
 (qbo n t0 t0_1 t0_2 t0_3 t0_4).bind fun r869 =>
 bif (!r869.2) then
 (qbc n).bind fun r870 =>
 some r870
 else
 bif (!((lenI r869.1) == 0)) then
 bif ((decide (0 ≤ (remI (cvtI .i64 t1) (lenI r869.1)))) && (decide ((remI (cvtI .i64 t1) (lenI r869.1)) ≤ (((List.length r869.1) : Nat) : Int)))) then
 (qba n (List.take (Int.toNat (remI (cvtI .i64 t1) (lenI r869.1))) r869.1)).bind fun r871 =>
 bif (Nat.ble (List.length r869.1) 4294967296) then
 bif (Nat.ble (List.length (r869.1 ++ (t2 :: ([] : DE)))) 4294967296) then
 (qba n (r869.1 ++ (t2 :: ([] : DE)))).bind fun r872 =>
 (qbc n).bind fun r873 =>
 bif r873 then
 bif (r871.2 == 2) then
 bif (r872.2 == 2) then
 (qu n r871.1.1 r871.1.2.1 r871.1.2.2.1 r871.1.2.2.2.1 r871.1.2.2.2.2 ([] : List (List ((Int) × Int))) ([] : List ((List ((Int) × Int)) × (Int) × (Int) × (List ((Int) × Int)) × List ((Int) × (Int) × Int))) ([] : List ((List ((Int) × Int)) × (Int) × Int)) ([] : DE) ([] : DF)).bind fun r874 =>
 bif r874 then
 (qu n r872.1.1 r872.1.2.1 r872.1.2.2.1 r872.1.2.2.2.1 r872.1.2.2.2.2 ([] : List (List ((Int) × Int))) ([] : List ((List ((Int) × Int)) × (Int) × (Int) × (List ((Int) × Int)) × List ((Int) × (Int) × Int))) ([] : List ((List ((Int) × Int)) × (Int) × Int)) ([] : DE) ([] : DF)).bind fun r875 =>
 some r875
 else
 some false
 else
 some false
 else
 some false
 else
 some false
 else none
 else none
 else none
 else none
end
end Sx
