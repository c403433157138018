import Derived.Test.YtdlbbdbbpoggfaaLib6
import Derived.KernelRfl
open Go Go.Ab
set_option linter.unusedVariables false
set_option maxRecDepth 20000
namespace Sx
noncomputable section
abbrev DA := List (Int × Int)
abbrev DB := List (Int × Int × Int)
abbrev DC := List Int
abbrev DD := List ByteArray
abbrev DE := List (Int)
abbrev DF := List (ByteArray)
abbrev DG := List (Nat × Int × Int)
abbrev DH := List (DA × Int × Int × DA × DB)
abbrev DI := List DA
abbrev DJ := List (DA × Int × Int)
abbrev DK := List DC
def law07SaneNames_B0q0 (n : Nat) (t5 : Int) (t8 : Int) (t9 : Int) (m0 : Int) (m0_1 : Int) (m2 : DH) : Option ((((Int × Int × Int) × (Int × Int) × DH) ⊕ ((Int × Int × Int) × (Int × Int) × DI × DH × DJ × DC × DD)) ⊕ (((Int × Int) × (Int × Int) × DH) ⊕ ((Int × Int) × (Int × Int) × DI × DH × DJ × DC × DD))) :=
 bif (decide (t9 ≤ t5)) then
 bif (Nat.ble (List.length (((m0, m0_1) :: ([] : List ((Int) × Int))) :: ([] : List (List ((Int) × Int))))) 4294967296) then
 bif (Nat.ble (List.length ((([] : List ((Int) × Int)), (m0, m0_1)) :: ([] : List ((List ((Int) × Int)) × (Int) × Int)))) 4294967296) then
 (m2[0]?).bind fun x1 =>
 bif (decide (0 < (((List.length m2) : Nat) : Int))) then
 (m2[0]?).bind fun x2 =>
 bif (Nat.beq 0 (Int.toNat 0)) then
 bif (Nat.ble (List.length (x1.2.2.2.1 ++ ((m0, m0_1) :: ([] : List ((Int) × Int))))) 4294967296) then
 bif (decide (0 < (((List.length m2) : Nat) : Int))) then
 (m2[0]?).bind fun x3 =>
 bif (Nat.beq 0 (Int.toNat 0)) then
 bif (decide (t9 > 0)) then
 (m2[(Int.toNat 0)]?).bind fun x4 =>
 bif (Nat.ble (List.length ((List.set m2 (Int.toNat 0) (x4.1, (x4.2.1, (x4.2.2.1, ((x1.2.2.2.1 ++ ((m0, m0_1) :: ([] : List ((Int) × Int)))), x4.2.2.2.2))))) ++ ((([] : List ((Int) × Int)), (m0, (m0_1, (([] : List ((Int) × Int)), ([] : List ((Int) × (Int) × Int)))))) :: ([] : List ((List ((Int) × Int)) × (Int) × (Int) × (List ((Int) × Int)) × List ((Int) × (Int) × Int)))))) 4294967296) then
 (((List.set m2 (Int.toNat 0) (x4.1, (x4.2.1, (x4.2.2.1, ((x1.2.2.2.1 ++ ((m0, m0_1) :: ([] : List ((Int) × Int)))), x4.2.2.2.2))))) ++ ((([] : List ((Int) × Int)), (m0, (m0_1, (([] : List ((Int) × Int)), ([] : List ((Int) × (Int) × Int)))))) :: ([] : List ((List ((Int) × Int)) × (Int) × (Int) × (List ((Int) × Int)) × List ((Int) × (Int) × Int)))))[(List.length (List.set m2 (Int.toNat 0) (x4.1, (x4.2.1, (x4.2.2.1, ((x1.2.2.2.1 ++ ((m0, m0_1) :: ([] : List ((Int) × Int)))), x4.2.2.2.2))))))]?).bind fun x5 =>
 some (Sum.inl (Sum.inr ((t5, (t8, (addI .i64 t9 1))), ((m0, m0_1), ((((m0, m0_1) :: ([] : List ((Int) × Int))) :: ([] : List (List ((Int) × Int)))), ((List.set ((List.set m2 (Int.toNat 0) (x4.1, (x4.2.1, (x4.2.2.1, ((x1.2.2.2.1 ++ ((m0, m0_1) :: ([] : List ((Int) × Int)))), x4.2.2.2.2))))) ++ ((([] : List ((Int) × Int)), (m0, (m0_1, (([] : List ((Int) × Int)), ([] : List ((Int) × (Int) × Int)))))) :: ([] : List ((List ((Int) × Int)) × (Int) × (Int) × (List ((Int) × Int)) × List ((Int) × (Int) × Int))))) (List.length (List.set m2 (Int.toNat 0) (x4.1, (x4.2.1, (x4.2.2.1, ((x1.2.2.2.1 ++ ((m0, m0_1) :: ([] : List ((Int) × Int)))), x4.2.2.2.2)))))) (x5.1, (x5.2.1, (x5.2.2.1, (x5.2.2.2.1, ((26, (0, 0)) :: ([] : List ((Int) × (Int) × Int)))))))), (((([] : List ((Int) × Int)), (m0, m0_1)) :: ([] : List ((List ((Int) × Int)) × (Int) × Int))), ((7 :: ([] : DE)), ((ByteArray.mk (List.toArray [120])) :: ([] : DF))))))))))
 else none
 else
 (m2[(Int.toNat 0)]?).bind fun x6 =>
 some (Sum.inl (Sum.inr ((t5, (t8, (addI .i64 t9 1))), ((m0, m0_1), ((((m0, m0_1) :: ([] : List ((Int) × Int))) :: ([] : List (List ((Int) × Int)))), ((List.set m2 (Int.toNat 0) (x6.1, (x6.2.1, (x6.2.2.1, ((x1.2.2.2.1 ++ ((m0, m0_1) :: ([] : List ((Int) × Int)))), x6.2.2.2.2))))), (((([] : List ((Int) × Int)), (m0, m0_1)) :: ([] : List ((List ((Int) × Int)) × (Int) × Int))), ((7 :: ([] : DE)), ((ByteArray.mk (List.toArray [120])) :: ([] : DF))))))))))
 else none
 else none
 else none
 else none
 else none
 else none
 else none
 else
 some (Sum.inr (Sum.inl ((t5, t8), ((m0, m0_1), m2))))
def law07SaneNames_B0q1 (n : Nat) (t5 : Int) (t8 : Int) (t9 : Int) (m0 : Int) (m0_1 : Int) (m2 : DI) (m3 : DH) (m4 : DJ) (m5 : DC) (m6 : DD) : Option ((((Int × Int × Int) × (Int × Int) × DH) ⊕ ((Int × Int × Int) × (Int × Int) × DI × DH × DJ × DC × DD)) ⊕ (((Int × Int) × (Int × Int) × DH) ⊕ ((Int × Int) × (Int × Int) × DI × DH × DJ × DC × DD))) :=
 bif (decide (t9 ≤ t5)) then
 bif (Nat.ble (List.length (m2 ++ (((m0, m0_1) :: ([] : List ((Int) × Int))) :: ([] : List (List ((Int) × Int)))))) 4294967296) then
 bif (Nat.ble (List.length (m5 ++ (7 :: ([] : DE)))) 4294967296) then
 bif (Nat.ble (List.length (m6 ++ ((ByteArray.mk (List.toArray [120])) :: ([] : DF)))) 4294967296) then
 bif (Nat.ble (List.length (m4 ++ ((([] : List ((Int) × Int)), (m0, m0_1)) :: ([] : List ((List ((Int) × Int)) × (Int) × Int))))) 4294967296) then
 (m3[0]?).bind fun x7 =>
 bif (decide (0 < (((List.length m3) : Nat) : Int))) then
 (m3[0]?).bind fun x8 =>
 bif (Nat.beq 0 (Int.toNat 0)) then
 bif (Nat.ble (List.length (x7.2.2.2.1 ++ ((m0, m0_1) :: ([] : List ((Int) × Int))))) 4294967296) then
 bif (decide (0 < (((List.length m3) : Nat) : Int))) then
 (m3[0]?).bind fun x9 =>
 bif (Nat.beq 0 (Int.toNat 0)) then
 bif (decide (t9 > 0)) then
 (m3[(Int.toNat 0)]?).bind fun x10 =>
 bif (Nat.ble (List.length ((List.set m3 (Int.toNat 0) (x10.1, (x10.2.1, (x10.2.2.1, ((x7.2.2.2.1 ++ ((m0, m0_1) :: ([] : List ((Int) × Int)))), x10.2.2.2.2))))) ++ ((([] : List ((Int) × Int)), (m0, (m0_1, (([] : List ((Int) × Int)), ([] : List ((Int) × (Int) × Int)))))) :: ([] : List ((List ((Int) × Int)) × (Int) × (Int) × (List ((Int) × Int)) × List ((Int) × (Int) × Int)))))) 4294967296) then
 (((List.set m3 (Int.toNat 0) (x10.1, (x10.2.1, (x10.2.2.1, ((x7.2.2.2.1 ++ ((m0, m0_1) :: ([] : List ((Int) × Int)))), x10.2.2.2.2))))) ++ ((([] : List ((Int) × Int)), (m0, (m0_1, (([] : List ((Int) × Int)), ([] : List ((Int) × (Int) × Int)))))) :: ([] : List ((List ((Int) × Int)) × (Int) × (Int) × (List ((Int) × Int)) × List ((Int) × (Int) × Int)))))[(List.length (List.set m3 (Int.toNat 0) (x10.1, (x10.2.1, (x10.2.2.1, ((x7.2.2.2.1 ++ ((m0, m0_1) :: ([] : List ((Int) × Int)))), x10.2.2.2.2))))))]?).bind fun x11 =>
 some (Sum.inl (Sum.inr ((t5, (t8, (addI .i64 t9 1))), ((m0, m0_1), ((m2 ++ (((m0, m0_1) :: ([] : List ((Int) × Int))) :: ([] : List (List ((Int) × Int))))), ((List.set ((List.set m3 (Int.toNat 0) (x10.1, (x10.2.1, (x10.2.2.1, ((x7.2.2.2.1 ++ ((m0, m0_1) :: ([] : List ((Int) × Int)))), x10.2.2.2.2))))) ++ ((([] : List ((Int) × Int)), (m0, (m0_1, (([] : List ((Int) × Int)), ([] : List ((Int) × (Int) × Int)))))) :: ([] : List ((List ((Int) × Int)) × (Int) × (Int) × (List ((Int) × Int)) × List ((Int) × (Int) × Int))))) (List.length (List.set m3 (Int.toNat 0) (x10.1, (x10.2.1, (x10.2.2.1, ((x7.2.2.2.1 ++ ((m0, m0_1) :: ([] : List ((Int) × Int)))), x10.2.2.2.2)))))) (x11.1, (x11.2.1, (x11.2.2.1, (x11.2.2.2.1, ((26, (0, 0)) :: ([] : List ((Int) × (Int) × Int)))))))), ((m4 ++ ((([] : List ((Int) × Int)), (m0, m0_1)) :: ([] : List ((List ((Int) × Int)) × (Int) × Int)))), ((m5 ++ (7 :: ([] : DE))), (m6 ++ ((ByteArray.mk (List.toArray [120])) :: ([] : DF)))))))))))
 else none
 else
 (m3[(Int.toNat 0)]?).bind fun x12 =>
 some (Sum.inl (Sum.inr ((t5, (t8, (addI .i64 t9 1))), ((m0, m0_1), ((m2 ++ (((m0, m0_1) :: ([] : List ((Int) × Int))) :: ([] : List (List ((Int) × Int))))), ((List.set m3 (Int.toNat 0) (x12.1, (x12.2.1, (x12.2.2.1, ((x7.2.2.2.1 ++ ((m0, m0_1) :: ([] : List ((Int) × Int)))), x12.2.2.2.2))))), ((m4 ++ ((([] : List ((Int) × Int)), (m0, m0_1)) :: ([] : List ((List ((Int) × Int)) × (Int) × Int)))), ((m5 ++ (7 :: ([] : DE))), (m6 ++ ((ByteArray.mk (List.toArray [120])) :: ([] : DF)))))))))))
 else none
 else none
 else none
 else none
 else none
 else none
 else none
 else none
 else none
 else
 some (Sum.inr (Sum.inr ((t5, t8), ((m0, m0_1), (m2, (m3, (m4, (m5, m6))))))))
def law07SaneNames_M0 (n : Nat) (s : ((Int × Int × Int) × (Int × Int) × DH) ⊕ ((Int × Int × Int) × (Int × Int) × DI × DH × DJ × DC × DD)) : Option ((((Int × Int × Int) × (Int × Int) × DH) ⊕ ((Int × Int × Int) × (Int × Int) × DI × DH × DJ × DC × DD)) ⊕ (((Int × Int) × (Int × Int) × DH) ⊕ ((Int × Int) × (Int × Int) × DI × DH × DJ × DC × DD))) := Sum.rec (fun a0 => law07SaneNames_B0q0 n a0.1.1 a0.1.2.1 a0.1.2.2 a0.2.1.1 a0.2.1.2 a0.2.2) (fun b0 => law07SaneNames_B0q1 n b0.1.1 b0.1.2.1 b0.1.2.2 b0.2.1.1 b0.2.1.2 b0.2.2.1 b0.2.2.2.1 b0.2.2.2.2.1 b0.2.2.2.2.2.1 b0.2.2.2.2.2.2) s
def law07SaneNames_W0 (n : Nat) (s : ((Int × Int × Int) × (Int × Int) × DH) ⊕ ((Int × Int × Int) × (Int × Int) × DI × DH × DJ × DC × DD)) : Option (((Int × Int) × (Int × Int) × DH) ⊕ ((Int × Int) × (Int × Int) × DI × DH × DJ × DC × DD)) := loopS (law07SaneNames_M0 n) n s
def qau (n : Nat) (t_0 : Int) (t_0_1 : Int) (recs_1 : Int) : Option (Bool) :=
 bif (t_0 == 1) then
 some (t_0_1 == 0)
 else
 bif (t_0 == 2) then
 some (t_0_1 == 0)
 else
 bif (t_0 == 3) then
 some (t_0_1 == 0)
 else
 bif (t_0 == 7) then
 some (t_0_1 == 0)
 else
 bif (t_0 == 4) then
 bif (decide (t_0_1 ≥ 0)) then
 some (decide (t_0_1 < recs_1))
 else
 some false
 else
 bif (t_0 == 5) then
 bif (decide (t_0_1 ≥ 0)) then
 some (decide (t_0_1 < 4))
 else
 some false
 else
 some false
def qak (n : Nat) (t_0 : Int) (t_0_1 : Int) (m0 : Int) : Option (Bool × Int) :=
 (qau n t_0 t_0_1 m0).bind fun r21 =>
 some ((!r21), m0)
def qac_B0 (n : Nat) (s_0 : DA) (t7 : Int) (t8 : Int) (m0 : Int) : Option (((DA × Int × Int) × Int) ⊕ ((Int × Int) ⊕ (Int))) :=
 bif (decide (t8 < t7)) then
 (getI s_0 t8).bind fun x22 =>
 (qak n x22.1 x22.2 m0).bind fun r23 =>
 bif r23.1 then
 some (Sum.inr (Sum.inl (t8, r23.2)))
 else
 some (Sum.inl ((s_0, (t7, (addI .i64 t8 1))), r23.2))
 else
 some (Sum.inr (Sum.inr m0))
def qac_W0 (n : Nat) (s : (DA × Int × Int) × Int) : Option ((Int × Int) ⊕ (Int)) := loopS (fun s => qac_B0 n s.1.1 s.1.2.1 s.1.2.2 s.2) n s
def qac (n : Nat) (s_0 : DA) (m0 : Int) : Option (Int × Int) :=
 (qac_W0 n ((s_0, ((lenI s_0), 0)), m0)).bind fun r24 =>
 Sum.rec (fun u25 =>
 some (u25.1, u25.2)) (fun v26 =>
 some ((-1), v26)) r24
def qn (n : Nat) (s_0 : DA) (m0 : Int) : Option (Bool × Int) :=
 (qac n s_0 m0).bind fun r27 =>
 some ((decide (r27.1 ≥ 0)), r27.2)
def qan (n : Nat) (list_0 : DA) (recs_1 : Int) (most_2 : Int) : Option (Bool) :=
 bif (decide ((lenI list_0) ≤ most_2)) then
 (qn n list_0 recs_1).bind fun r28 =>
 some (!r28.1)
 else
 some false
def qag (n : Nat) (l_0 : DA) (m0 : Int) : Option (Bool × Int) :=
 (qan n l_0 m0 6).bind fun r29 =>
 some ((!r29), m0)
def qq_B0 (n : Nat) (s_0 : DI) (t7 : Int) (t8 : Int) (m0 : Int) : Option (((DI × Int × Int) × Int) ⊕ ((Int × Int) ⊕ (Int))) :=
 bif (decide (t8 < t7)) then
 (getI s_0 t8).bind fun x30 =>
 (qag n x30 m0).bind fun r31 =>
 bif r31.1 then
 some (Sum.inr (Sum.inl (t8, r31.2)))
 else
 some (Sum.inl ((s_0, (t7, (addI .i64 t8 1))), r31.2))
 else
 some (Sum.inr (Sum.inr m0))
def qq_W0 (n : Nat) (s : (DI × Int × Int) × Int) : Option ((Int × Int) ⊕ (Int)) := loopS (fun s => qq_B0 n s.1.1 s.1.2.1 s.1.2.2 s.2) n s
def qq (n : Nat) (s_0 : DI) (m0 : Int) : Option (Int × Int) :=
 (qq_W0 n ((s_0, ((lenI s_0), 0)), m0)).bind fun r32 =>
 Sum.rec (fun u33 =>
 some (u33.1, u33.2)) (fun v34 =>
 some ((-1), v34)) r32
def qh (n : Nat) (s_0 : DI) (m0 : Int) : Option (Bool × Int) :=
 (qq n s_0 m0).bind fun r35 =>
 some ((decide (r35.1 ≥ 0)), r35.2)
def qat (n : Nat) (op_0 : Int) : Option (Int) :=
 bif (op_0 == 29) then
 some 2
 else
 bif (op_0 == 30) then
 some 2
 else
 bif (op_0 == 0) then
 some 1
 else
 bif (op_0 == 1) then
 some 1
 else
 bif (op_0 == 3) then
 some 1
 else
 bif (op_0 == 4) then
 some 1
 else
 bif (op_0 == 23) then
 some 1
 else
 bif (op_0 == 24) then
 some 1
 else
 bif (op_0 == 25) then
 some 1
 else
 bif (op_0 == 27) then
 some 1
 else
 bif (op_0 == 28) then
 some 1
 else
 bif (decide (op_0 < 0)) then
 some (-1)
 else
 bif (decide (op_0 ≥ 42)) then
 some (-1)
 else
 some 0
def qba (n : Nat) (n_0 : Int) (has_1 : Bool) : Option (Bool) :=
 bif (decide (n_0 ≥ 0)) then
 bif (decide (n_0 ≤ 255)) then
 bif has_1 then
 some true
 else
 some (n_0 == 0)
 else
 some false
 else
 some false
def qbb_B0 (n : Nat) (v_0 : Int) (m0 : DC) : Option ((Int × DC) ⊕ (Int × DC)) :=
 bif (decide (v_0 ≥ 128)) then
 bif (Nat.ble (List.length (m0 ++ ((orI .u8 (cvtI .u8 v_0) 128) :: ([] : DE)))) 4294967296) then
 some (Sum.inl ((shrI .u64 v_0 7), (m0 ++ ((orI .u8 (cvtI .u8 v_0) 128) :: ([] : DE)))))
 else none
 else
 some (Sum.inr (v_0, m0))
def qbb_W0 (n : Nat) (s : Int × DC) : Option (Int × DC) := loopS (fun s => qbb_B0 n s.1 s.2) n s
def qbb (n : Nat) (v_0 : Int) : Option DC :=
 (qbb_W0 n (v_0, ([] : DE))).bind fun r47 =>
 bif (Nat.ble (List.length (r47.2 ++ ((cvtI .u8 r47.1) :: ([] : DE)))) 4294967296) then
 some (r47.2 ++ ((cvtI .u8 r47.1) :: ([] : DE)))
 else none
def qay_B0 (n : Nat) (t39 : Nat × Nat) (t40 : Int) (t41 : Int) (m0 : DC) (m1 : Int) (m1_1 : Int) : Option ((((Nat × Nat) × Int × Int) × DC × Int × Int) ⊕ (DC × Int × Int)) :=
 bif (decide (t41 < t40)) then
 bif ((decide (0 ≤ t41)) && (decide (t41 < ((t39.2 : Nat) : Int)))) then
 bif (Nat.beq (((t39.1 + (Int.toNat t41)) * 1) + 0) 0) then
 (qbb n (cvtI .u64 m1)).bind fun r48 =>
 bif (Nat.ble (List.length (m0 ++ r48)) 4294967296) then
 some (Sum.inl (((t39.1, t39.2), (t40, (addI .i64 t41 1))), ((m0 ++ r48), (m1, m1_1))))
 else none
 else
 bif (Nat.beq (((t39.1 + (Int.toNat t41)) * 1) + 0) 1) then
 (qbb n (cvtI .u64 m1_1)).bind fun r49 =>
 bif (Nat.ble (List.length (m0 ++ r49)) 4294967296) then
 some (Sum.inl (((t39.1, t39.2), (t40, (addI .i64 t41 1))), ((m0 ++ r49), (m1, m1_1))))
 else none
 else none
 else none
 else
 some (Sum.inr (m0, (m1, m1_1)))
def qay_W0 (n : Nat) (s : ((Nat × Nat) × Int × Int) × DC × Int × Int) : Option (DC × Int × Int) := loopS (fun s => qay_B0 n s.1.1 s.1.2.1 s.1.2.2 s.2.1 s.2.2.1 s.2.2.2) n s
def qay (n : Nat) (i_0 : Int) (i_0_1 : Int) (i_0_2 : Int) : Option DC :=
 (qat n i_0).bind fun r50 =>
 bif (decide (r50 < 0)) then
 some ([] : DE)
 else
 (qba n i_0_1 (decide (r50 > 0))).bind fun r51 =>
 bif (!r51) then
 some ([] : DE)
 else
 (qba n i_0_2 (decide (r50 > 1))).bind fun r52 =>
 bif (!r52) then
 some ([] : DE)
 else
 bif ((decide (0 ≤ r50)) && (decide (r50 ≤ 2))) then
 (qay_W0 n (((0, ((Int.toNat r50) - 0)), (((((Int.toNat r50) - 0) : Nat) : Int), 0)), (((cvtI .u8 i_0) :: ([] : DE)), (i_0_1, i_0_2)))).bind fun r53 =>
 some r53.1
 else none
def qv (n : Nat) (i_0 : Int) (i_0_1 : Int) (i_0_2 : Int) : Option (Bool) :=
 (qay n i_0 i_0_1 i_0_2).bind fun r54 =>
 some ((lenI r54) == 0)
def qw_B0 (n : Nat) (s_0 : DB) (t7 : Int) (t8 : Int) : Option ((DB × Int × Int) ⊕ ((Int) ⊕ (Unit))) :=
 bif (decide (t8 < t7)) then
 (getI s_0 t8).bind fun x55 =>
 (qv n x55.1 x55.2.1 x55.2.2).bind fun r56 =>
 bif r56 then
 some (Sum.inr (Sum.inl t8))
 else
 some (Sum.inl (s_0, (t7, (addI .i64 t8 1))))
 else
 some (Sum.inr (Sum.inr ()))
def qw_W0 (n : Nat) (s : DB × Int × Int) : Option ((Int) ⊕ (Unit)) := loopS (fun s => qw_B0 n s.1 s.2.1 s.2.2) n s
def qw (n : Nat) (s_0 : DB) : Option (Int) :=
 (qw_W0 n (s_0, ((lenI s_0), 0))).bind fun r57 =>
 Sum.rec (fun u58 =>
 some u58) (fun v59 =>
 some (-1)) r57
def qi (n : Nat) (s_0 : DB) : Option (Bool) :=
 (qw n s_0).bind fun r60 =>
 some (decide (r60 ≥ 0))
def qz (n : Nat) (f_0 : DA) (f_0_1 : Int) (f_0_2 : Int) (f_0_3 : DA) (f_0_4 : DB) (recs_1 : Int) : Option (Bool) :=
 (qan n f_0 recs_1 4).bind fun r61 =>
 bif r61 then
 (qau n f_0_1 f_0_2 recs_1).bind fun r62 =>
 bif r62 then
 (qan n f_0_3 recs_1 (subI .i64 8 (lenI f_0))).bind fun r63 =>
 bif r63 then
 bif (decide ((lenI f_0_4) ≥ 1)) then
 bif (decide ((lenI f_0_4) ≤ 64)) then
 (qi n f_0_4).bind fun r64 =>
 some (!r64)
 else
 some false
 else
 some false
 else
 some false
 else
 some false
 else
 some false
def qah (n : Nat) (f_0 : DA) (f_0_1 : Int) (f_0_2 : Int) (f_0_3 : DA) (f_0_4 : DB) (m0 : Int) : Option (Bool × Int) :=
 (qz n f_0 f_0_1 f_0_2 f_0_3 f_0_4 m0).bind fun r65 =>
 some ((!r65), m0)
def qx_B0 (n : Nat) (s_0 : DH) (t7 : Int) (t8 : Int) (m0 : Int) : Option (((DH × Int × Int) × Int) ⊕ ((Int × Int) ⊕ (Int))) :=
 bif (decide (t8 < t7)) then
 (getI s_0 t8).bind fun x66 =>
 (qah n x66.1 x66.2.1 x66.2.2.1 x66.2.2.2.1 x66.2.2.2.2 m0).bind fun r67 =>
 bif r67.1 then
 some (Sum.inr (Sum.inl (t8, r67.2)))
 else
 some (Sum.inl ((s_0, (t7, (addI .i64 t8 1))), r67.2))
 else
 some (Sum.inr (Sum.inr m0))
def qx_W0 (n : Nat) (s : (DH × Int × Int) × Int) : Option ((Int × Int) ⊕ (Int)) := loopS (fun s => qx_B0 n s.1.1 s.1.2.1 s.1.2.2 s.2) n s
def qx (n : Nat) (s_0 : DH) (m0 : Int) : Option (Int × Int) :=
 (qx_W0 n ((s_0, ((lenI s_0), 0)), m0)).bind fun r68 =>
 Sum.rec (fun u69 =>
 some (u69.1, u69.2)) (fun v70 =>
 some ((-1), v70)) r68
def qo (n : Nat) (s_0 : DH) (m0 : Int) : Option (Bool × Int) :=
 (qx n s_0 m0).bind fun r71 =>
 some ((decide (r71.1 ≥ 0)), r71.2)
def qaf (n : Nat) (i_0 : DA) (i_0_1 : Int) (i_0_2 : Int) (m0 : Int) : Option (Bool × Int) :=
 (qan n i_0 m0 4).bind fun r76 =>
 bif (!r76) then
 some (true, m0)
 else
 (qau n i_0_1 i_0_2 m0).bind fun r77 =>
 some ((!r77), m0)
def qu_B0 (n : Nat) (s_0 : DJ) (t7 : Int) (t8 : Int) (m0 : Int) : Option (((DJ × Int × Int) × Int) ⊕ ((Int × Int) ⊕ (Int))) :=
 bif (decide (t8 < t7)) then
 (getI s_0 t8).bind fun x78 =>
 (qaf n x78.1 x78.2.1 x78.2.2 m0).bind fun r79 =>
 bif r79.1 then
 some (Sum.inr (Sum.inl (t8, r79.2)))
 else
 some (Sum.inl ((s_0, (t7, (addI .i64 t8 1))), r79.2))
 else
 some (Sum.inr (Sum.inr m0))
def qu_W0 (n : Nat) (s : (DJ × Int × Int) × Int) : Option ((Int × Int) ⊕ (Int)) := loopS (fun s => qu_B0 n s.1.1 s.1.2.1 s.1.2.2 s.2) n s
def qu (n : Nat) (s_0 : DJ) (m0 : Int) : Option (Int × Int) :=
 (qu_W0 n ((s_0, ((lenI s_0), 0)), m0)).bind fun r80 =>
 Sum.rec (fun u81 =>
 some (u81.1, u81.2)) (fun v82 =>
 some ((-1), v82)) r80
def qe (n : Nat) (s_0 : DJ) (m0 : Int) : Option (Bool × Int) :=
 (qu n s_0 m0).bind fun r83 =>
 some ((decide (r83.1 ≥ 0)), r83.2)
def qai (n : Nat) (s_0 : ByteArray) : Option (Bool) :=
 some (decide ((lenS s_0) > 32))
def qr_B0 (n : Nat) (s_0 : DD) (t7 : Int) (t8 : Int) : Option ((DD × Int × Int) ⊕ ((Int) ⊕ (Unit))) :=
 bif (decide (t8 < t7)) then
 (getI s_0 t8).bind fun x88 =>
 (qai n x88).bind fun r89 =>
 bif r89 then
 some (Sum.inr (Sum.inl t8))
 else
 some (Sum.inl (s_0, (t7, (addI .i64 t8 1))))
 else
 some (Sum.inr (Sum.inr ()))
def qr_W0 (n : Nat) (s : DD × Int × Int) : Option ((Int) ⊕ (Unit)) := loopS (fun s => qr_B0 n s.1 s.2.1 s.2.2) n s
def qr (n : Nat) (s_0 : DD) : Option (Int) :=
 (qr_W0 n (s_0, ((lenI s_0), 0))).bind fun r90 =>
 Sum.rec (fun u91 =>
 some u91) (fun v92 =>
 some (-1)) r90
def qd (n : Nat) (s_0 : DD) : Option (Bool) :=
 (qr n s_0).bind fun r93 =>
 some (decide (r93 ≥ 0))
def qaq (n : Nat) (t0 : DI) (t0_1 : DH) (t0_2 : DJ) (t0_3 : DC) (t0_4 : DD) : Option (Bool) :=
 bif (decide ((lenI t0) ≤ 8)) then
 (qh n t0 (lenI t0)).bind fun r94 =>
 bif (!r94.1) then
 bif (decide ((lenI t0_1) ≥ 1)) then
 bif (decide ((lenI t0_1) ≤ 8)) then
 (qo n t0_1 r94.2).bind fun r95 =>
 bif (!r95.1) then
 bif (decide ((lenI t0_2) ≤ 8)) then
 (qe n t0_2 r95.2).bind fun r96 =>
 bif (!r96.1) then
 bif (decide ((lenI t0_3) ≤ 16)) then
 bif (decide ((lenI t0_4) ≤ 16)) then
 (qd n t0_4).bind fun r97 =>
 some (!r97)
 else
 some false
 else
 some false
 else
 some false
 else
 some false
 else
 some false
 else
 some false
 else
 some false
 else
 some false
 else
 some false
def ql (n : Nat) (n_1 : Int) : Option DC :=
 (qbb n (cvtI .u64 n_1)).bind fun r99 =>
 bif (Nat.ble (List.length r99) 4294967296) then
 some r99
 else none
def qc (n : Nat) (n_1 : Int) (m1 : DC) : Option DC :=
 (qbb n (cvtI .u64 n_1)).bind fun r102 =>
 bif (Nat.ble (List.length (m1 ++ r102)) 4294967296) then
 some (m1 ++ r102)
 else none
def qaz (n : Nat) (t_0 : Int) (t_0_1 : Int) : Option DC :=
 (qbb n (cvtI .u64 (maxI t_0 0))).bind fun r105 =>
 (qbb n (cvtI .u64 (maxI t_0_1 0))).bind fun r106 =>
 bif (Nat.ble (List.length (r105 ++ r106)) 4294967296) then
 some (r105 ++ r106)
 else none
def qj_B0 (n : Nat) (t10 : DA) (t11 : Int) (t12 : Int) (m1 : DC) : Option (((DA × Int × Int) × DC) ⊕ DC) :=
 bif (decide (t12 < t11)) then
 (getI t10 t12).bind fun x107 =>
 (qaz n x107.1 x107.2).bind fun r108 =>
 bif (Nat.ble (List.length (m1 ++ r108)) 4294967296) then
 some (Sum.inl ((t10, (t11, (addI .i64 t12 1))), (m1 ++ r108)))
 else none
 else
 some (Sum.inr m1)
def qj_W0 (n : Nat) (s : (DA × Int × Int) × DC) : Option DC := loopS (fun s => qj_B0 n s.1.1 s.1.2.1 s.1.2.2 s.2) n s
def qj (n : Nat) (list_1 : DA) (m1 : DC) : Option DC :=
 (qc n (lenI list_1) m1).bind fun r109 =>
 (qj_W0 n ((list_1, ((lenI list_1), 0)), r109)).bind fun r110 =>
 some r110
def qy_B0 (n : Nat) (t14 : DI) (t15 : Int) (t16 : Int) (m1 : DC) : Option (((DI × Int × Int) × DC) ⊕ DC) :=
 bif (decide (t16 < t15)) then
 (getI t14 t16).bind fun x111 =>
 (qj n x111 m1).bind fun r112 =>
 some (Sum.inl ((t14, (t15, (addI .i64 t16 1))), r112))
 else
 some (Sum.inr m1)
def qy_W0 (n : Nat) (s : (DI × Int × Int) × DC) : Option DC := loopS (fun s => qy_B0 n s.1.1 s.1.2.1 s.1.2.2 s.2) n s
def qy (n : Nat) (m_0 : DI) (m_0_1 : DH) (m_0_2 : DJ) (m_0_3 : DC) (m_0_4 : DD) : Option DC :=
 (ql n (lenI m_0)).bind fun r113 =>
 (qy_W0 n ((m_0, ((lenI m_0), 0)), r113)).bind fun r114 =>
 some r114
def qp_B2 (n : Nat) (t16 : DH) (t17 : Int) (t18 : Int) (t47 : DB) (t48 : Int) (t49 : Int) (m1 : DC) : Option (((DH × Int × Int × DB × Int × Int) × DC) ⊕ ((DH × Int × Int) × DC)) :=
 bif (decide (t49 < t48)) then
 (getI t47 t49).bind fun x131 =>
 (qay n x131.1 x131.2.1 x131.2.2).bind fun r132 =>
 bif (Nat.ble (List.length (m1 ++ r132)) 4294967296) then
 some (Sum.inl ((t16, (t17, (t18, (t47, (t48, (addI .i64 t49 1)))))), (m1 ++ r132)))
 else none
 else
 some (Sum.inr ((t16, (t17, t18)), m1))
def qp_W2 (n : Nat) (s : (DH × Int × Int × DB × Int × Int) × DC) : Option ((DH × Int × Int) × DC) := loopS (fun s => qp_B2 n s.1.1 s.1.2.1 s.1.2.2.1 s.1.2.2.2.1 s.1.2.2.2.2.1 s.1.2.2.2.2.2 s.2) n s
def qp_B0 (n : Nat) (t16 : DH) (t17 : Int) (t18 : Int) (m1 : DC) : Option (((DH × Int × Int) × DC) ⊕ DC) :=
 bif (decide (t18 < t17)) then
 (getI t16 t18).bind fun x133 =>
 (qj n x133.1 m1).bind fun r134 =>
 (qaz n x133.2.1 x133.2.2.1).bind fun r135 =>
 bif (Nat.ble (List.length (r134 ++ r135)) 4294967296) then
 (qj n x133.2.2.2.1 (r134 ++ r135)).bind fun r136 =>
 (qc n (lenI x133.2.2.2.2) r136).bind fun r137 =>
 (qp_W2 n ((t16, (t17, (t18, (x133.2.2.2.2, ((lenI x133.2.2.2.2), 0))))), r137)).bind fun r138 =>
 some (Sum.inl ((r138.1.1, (r138.1.2.1, (addI .i64 r138.1.2.2 1))), r138.2))
 else none
 else
 some (Sum.inr m1)
def qp_W0 (n : Nat) (s : (DH × Int × Int) × DC) : Option DC := loopS (fun s => qp_B0 n s.1.1 s.1.2.1 s.1.2.2 s.2) n s
def qp (n : Nat) (t0 : DI) (t0_1 : DH) (t0_2 : DJ) (t0_3 : DC) (t0_4 : DD) : Option DC :=
 (ql n (lenI t0_1)).bind fun r139 =>
 (qp_W0 n ((t0_1, ((lenI t0_1), 0)), r139)).bind fun r140 =>
 some r140
def qab_B0 (n : Nat) (t14 : DJ) (t15 : Int) (t16 : Int) (m1 : DC) : Option (((DJ × Int × Int) × DC) ⊕ DC) :=
 bif (decide (t16 < t15)) then
 (getI t14 t16).bind fun x148 =>
 (qj n x148.1 m1).bind fun r149 =>
 (qaz n x148.2.1 x148.2.2).bind fun r150 =>
 bif (Nat.ble (List.length (r149 ++ r150)) 4294967296) then
 some (Sum.inl ((t14, (t15, (addI .i64 t16 1))), (r149 ++ r150)))
 else none
 else
 some (Sum.inr m1)
def qab_W0 (n : Nat) (s : (DJ × Int × Int) × DC) : Option DC := loopS (fun s => qab_B0 n s.1.1 s.1.2.1 s.1.2.2 s.2) n s
def qab (n : Nat) (m_0 : DI) (m_0_1 : DH) (m_0_2 : DJ) (m_0_3 : DC) (m_0_4 : DD) : Option DC :=
 (ql n (lenI m_0_2)).bind fun r151 =>
 (qab_W0 n ((m_0_2, ((lenI m_0_2), 0)), r151)).bind fun r152 =>
 some r152
def qax_B0 (n : Nat) (v_0 : Int) (t9 : Int) (t10 : Int) (m0 : DC) : Option (((Int × Int × Int) × DC) ⊕ DC) :=
 bif (decide (t10 < t9)) then
 bif (decide (0 ≤ (mulI .i64 8 t10))) then
 bif (Nat.ble (List.length (m0 ++ ((cvtI .u8 (shrI .u64 v_0 (mulI .i64 8 t10))) :: ([] : DE)))) 4294967296) then
 some (Sum.inl ((v_0, (t9, (addI .i64 t10 1))), (m0 ++ ((cvtI .u8 (shrI .u64 v_0 (mulI .i64 8 t10))) :: ([] : DE)))))
 else none
 else none
 else
 some (Sum.inr m0)
def qax_W0 (n : Nat) (s : (Int × Int × Int) × DC) : Option DC := loopS (fun s => qax_B0 n s.1.1 s.1.2.1 s.1.2.2 s.2) n s
def qax (n : Nat) (v_0 : Int) (n_1 : Int) : Option DC :=
 (qax_W0 n ((v_0, ((minI (maxI n_1 0) 8), 0)), ([] : DE))).bind fun r159 =>
 some r159
def qaa_B0 (n : Nat) (t14 : DC) (t15 : Int) (t16 : Int) (m1 : DC) : Option (((DC × Int × Int) × DC) ⊕ DC) :=
 bif (decide (t16 < t15)) then
 (getI t14 t16).bind fun x160 =>
 (qax n x160 8).bind fun r161 =>
 bif (Nat.ble (List.length (m1 ++ r161)) 4294967296) then
 some (Sum.inl ((t14, (t15, (addI .i64 t16 1))), (m1 ++ r161)))
 else none
 else
 some (Sum.inr m1)
def qaa_W0 (n : Nat) (s : (DC × Int × Int) × DC) : Option DC := loopS (fun s => qaa_B0 n s.1.1 s.1.2.1 s.1.2.2 s.2) n s
def qaa (n : Nat) (m_0 : DI) (m_0_1 : DH) (m_0_2 : DJ) (m_0_3 : DC) (m_0_4 : DD) : Option DC :=
 (ql n (lenI m_0_3)).bind fun r162 =>
 (qaa_W0 n ((m_0_3, ((lenI m_0_3), 0)), r162)).bind fun r163 =>
 some r163
def qaj_B0 (n : Nat) (t14 : DD) (t15 : Int) (t16 : Int) (m1 : DC) : Option (((DD × Int × Int) × DC) ⊕ DC) :=
 bif (decide (t16 < t15)) then
 (getI t14 t16).bind fun x171 =>
 (qc n (lenS x171) m1).bind fun r172 =>
 bif (Nat.ble (List.length (r172 ++ (bytesInts x171))) 4294967296) then
 some (Sum.inl ((t14, (t15, (addI .i64 t16 1))), (r172 ++ (bytesInts x171))))
 else none
 else
 some (Sum.inr m1)
def qaj_W0 (n : Nat) (s : (DD × Int × Int) × DC) : Option DC := loopS (fun s => qaj_B0 n s.1.1 s.1.2.1 s.1.2.2 s.2) n s
def qaj (n : Nat) (m_0 : DI) (m_0_1 : DH) (m_0_2 : DJ) (m_0_3 : DC) (m_0_4 : DD) : Option DC :=
 (ql n (lenI m_0_4)).bind fun r173 =>
 (qaj_W0 n ((m_0_4, ((lenI m_0_4), 0)), r173)).bind fun r174 =>
 some r174
def qaw_B0 (n : Nat) (t10 : DK) (t11 : Int) (t12 : Int) (m0 : DC) : Option (((DK × Int × Int) × DC) ⊕ DC) :=
 bif (decide (t12 < t11)) then
 (getI t10 t12).bind fun x182 =>
 (qbb n (cvtI .u64 (lenI x182))).bind fun r183 =>
 bif (Nat.ble (List.length (m0 ++ r183)) 4294967296) then
 bif (Nat.ble (List.length ((m0 ++ r183) ++ x182)) 4294967296) then
 some (Sum.inl ((t10, (t11, (addI .i64 t12 1))), ((m0 ++ r183) ++ x182)))
 else none
 else none
 else
 some (Sum.inr m0)
def qaw_W0 (n : Nat) (s : (DK × Int × Int) × DC) : Option DC := loopS (fun s => qaw_B0 n s.1.1 s.1.2.1 s.1.2.2 s.2) n s
def qaw (n : Nat) (parts_0 : DK) : Option DC :=
 (qbb n (cvtI .u64 (lenI parts_0))).bind fun r184 =>
 (qaw_W0 n ((parts_0, ((lenI parts_0), 0)), r184)).bind fun r185 =>
 some r185
def qad (n : Nat) (m_0 : DI) (m_0_1 : DH) (m_0_2 : DJ) (m_0_3 : DC) (m_0_4 : DD) : Option (DC × Int) :=
 (qaq n m_0 m_0_1 m_0_2 m_0_3 m_0_4).bind fun r186 =>
 bif (!r186) then
 some (([] : DE), 2)
 else
 (qy n m_0 m_0_1 m_0_2 m_0_3 m_0_4).bind fun r187 =>
 (qp n m_0 m_0_1 m_0_2 m_0_3 m_0_4).bind fun r188 =>
 (qab n m_0 m_0_1 m_0_2 m_0_3 m_0_4).bind fun r189 =>
 (qaa n m_0 m_0_1 m_0_2 m_0_3 m_0_4).bind fun r190 =>
 (qaj n m_0 m_0_1 m_0_2 m_0_3 m_0_4).bind fun r191 =>
 (qaw n (r187 :: (r188 :: (r189 :: (r190 :: (r191 :: ([] : DK))))))).bind fun r192 =>
 some (r192, 0)
def qas (n : Nat) (n_0 : Int) (most_1 : Int) : Option (Bool) :=
 some (decide (n_0 < most_1))
def saneNames (n : Nat) (t0 : DI) (t0_1 : DH) (t0_2 : DJ) (t0_3 : DC) (t0_4 : DD) (t1 : DA) (t1_1 : Int) (t1_2 : Int) (t1_3 : DA) (t1_4 : DB) (t2 : Int) (t2_1 : Int) (t2_2 : Int) : Option (Bool) :=
 bif (t2 == 0) then
 (qas n t2_1 (lenI t0_3)).bind fun r196 =>
 some r196
 else
 bif (t2 == 1) then
 (qas n t2_1 (lenI t0_4)).bind fun r197 =>
 some r197
 else
 bif (t2 == 3) then
 (qas n t2_1 (addI .i64 (lenI t1) (lenI t1_3))).bind fun r198 =>
 some r198
 else
 bif (t2 == 4) then
 (qas n t2_1 (addI .i64 (lenI t1) (lenI t1_3))).bind fun r199 =>
 some r199
 else
 bif (t2 == 23) then
 (qas n t2_1 (lenI t1_4)).bind fun r200 =>
 some r200
 else
 bif (t2 == 24) then
 (qas n t2_1 (lenI t1_4)).bind fun r201 =>
 some r201
 else
 bif (t2 == 25) then
 (qas n t2_1 (lenI t0_1)).bind fun r202 =>
 some r202
 else
 bif (t2 == 27) then
 (qas n t2_1 (lenI t0_2)).bind fun r203 =>
 some r203
 else
 bif (t2 == 28) then
 (qas n t2_1 (lenI t0)).bind fun r204 =>
 some r204
 else
 bif (t2 == 29) then
 (qas n t2_1 (lenI t0)).bind fun r205 =>
 bif r205 then
 (getI t0 t2_1).bind fun x206 =>
 (qas n t2_2 (lenI x206)).bind fun r207 =>
 some r207
 else
 some false
 else
 bif (t2 == 30) then
 (qas n t2_1 (lenI t0)).bind fun r208 =>
 bif r208 then
 (getI t0 t2_1).bind fun x209 =>
 (qas n t2_2 (lenI x209)).bind fun r210 =>
 some r210
 else
 some false
 else
 some true
def qao (n : Nat) (i_0 : Int) (i_0_1 : Int) (i_0_2 : Int) (m0 : DI) (m0_1 : DH) (m0_2 : DJ) (m0_3 : DC) (m0_4 : DD) (m1 : DA) (m1_1 : Int) (m1_2 : Int) (m1_3 : DA) (m1_4 : DB) : Option (Bool × (DI × DH × DJ × DC × DD) × DA × Int × Int × DA × DB) :=
 (saneNames n m0 m0_1 m0_2 m0_3 m0_4 m1 m1_1 m1_2 m1_3 m1_4 i_0 i_0_1 i_0_2).bind fun r211 =>
 some ((!r211), ((m0, (m0_1, (m0_2, (m0_3, m0_4)))), (m1, (m1_1, (m1_2, (m1_3, m1_4))))))
def qm_B0 (n : Nat) (s_0 : DB) (t7 : Int) (t8 : Int) (m0 : DI) (m0_1 : DH) (m0_2 : DJ) (m0_3 : DC) (m0_4 : DD) (m1 : DA) (m1_1 : Int) (m1_2 : Int) (m1_3 : DA) (m1_4 : DB) : Option (((DB × Int × Int) × (DI × DH × DJ × DC × DD) × DA × Int × Int × DA × DB) ⊕ ((Int × (DI × DH × DJ × DC × DD) × DA × Int × Int × DA × DB) ⊕ ((DI × DH × DJ × DC × DD) × DA × Int × Int × DA × DB))) :=
 bif (decide (t8 < t7)) then
 (getI s_0 t8).bind fun x212 =>
 (qao n x212.1 x212.2.1 x212.2.2 m0 m0_1 m0_2 m0_3 m0_4 m1 m1_1 m1_2 m1_3 m1_4).bind fun r213 =>
 bif r213.1 then
 some (Sum.inr (Sum.inl (t8, ((r213.2.1.1, (r213.2.1.2.1, (r213.2.1.2.2.1, (r213.2.1.2.2.2.1, r213.2.1.2.2.2.2)))), (r213.2.2.1, (r213.2.2.2.1, (r213.2.2.2.2.1, (r213.2.2.2.2.2.1, r213.2.2.2.2.2.2))))))))
 else
 some (Sum.inl ((s_0, (t7, (addI .i64 t8 1))), ((r213.2.1.1, (r213.2.1.2.1, (r213.2.1.2.2.1, (r213.2.1.2.2.2.1, r213.2.1.2.2.2.2)))), (r213.2.2.1, (r213.2.2.2.1, (r213.2.2.2.2.1, (r213.2.2.2.2.2.1, r213.2.2.2.2.2.2)))))))
 else
 some (Sum.inr (Sum.inr ((m0, (m0_1, (m0_2, (m0_3, m0_4)))), (m1, (m1_1, (m1_2, (m1_3, m1_4)))))))
def qm_W0 (n : Nat) (s : (DB × Int × Int) × (DI × DH × DJ × DC × DD) × DA × Int × Int × DA × DB) : Option ((Int × (DI × DH × DJ × DC × DD) × DA × Int × Int × DA × DB) ⊕ ((DI × DH × DJ × DC × DD) × DA × Int × Int × DA × DB)) := loopS (fun s => qm_B0 n s.1.1 s.1.2.1 s.1.2.2 s.2.1.1 s.2.1.2.1 s.2.1.2.2.1 s.2.1.2.2.2.1 s.2.1.2.2.2.2 s.2.2.1 s.2.2.2.1 s.2.2.2.2.1 s.2.2.2.2.2.1 s.2.2.2.2.2.2) n s
def qm (n : Nat) (s_0 : DB) (m0 : DI) (m0_1 : DH) (m0_2 : DJ) (m0_3 : DC) (m0_4 : DD) (m1 : DA) (m1_1 : Int) (m1_2 : Int) (m1_3 : DA) (m1_4 : DB) : Option (Int × (DI × DH × DJ × DC × DD) × DA × Int × Int × DA × DB) :=
 (qm_W0 n ((s_0, ((lenI s_0), 0)), ((m0, (m0_1, (m0_2, (m0_3, m0_4)))), (m1, (m1_1, (m1_2, (m1_3, m1_4))))))).bind fun r214 =>
 Sum.rec (fun u215 =>
 some (u215.1, ((u215.2.1.1, (u215.2.1.2.1, (u215.2.1.2.2.1, (u215.2.1.2.2.2.1, u215.2.1.2.2.2.2)))), (u215.2.2.1, (u215.2.2.2.1, (u215.2.2.2.2.1, (u215.2.2.2.2.2.1, u215.2.2.2.2.2.2))))))) (fun v216 =>
 some ((-1), ((v216.1.1, (v216.1.2.1, (v216.1.2.2.1, (v216.1.2.2.2.1, v216.1.2.2.2.2)))), (v216.2.1, (v216.2.2.1, (v216.2.2.2.1, (v216.2.2.2.2.1, v216.2.2.2.2.2))))))) r214
def qb (n : Nat) (s_0 : DB) (m0 : DI) (m0_1 : DH) (m0_2 : DJ) (m0_3 : DC) (m0_4 : DD) (m1 : DA) (m1_1 : Int) (m1_2 : Int) (m1_3 : DA) (m1_4 : DB) : Option (Bool × (DI × DH × DJ × DC × DD) × DA × Int × Int × DA × DB) :=
 (qm n s_0 m0 m0_1 m0_2 m0_3 m0_4 m1 m1_1 m1_2 m1_3 m1_4).bind fun r217 =>
 some ((decide (r217.1 ≥ 0)), ((r217.2.1.1, (r217.2.1.2.1, (r217.2.1.2.2.1, (r217.2.1.2.2.2.1, r217.2.1.2.2.2.2)))), (r217.2.2.1, (r217.2.2.2.1, (r217.2.2.2.2.1, (r217.2.2.2.2.2.1, r217.2.2.2.2.2.2))))))
def qam (n : Nat) (t_0 : Int) (t_0_1 : Int) : Option (Bool) :=
 some (t_0 == 5)
def qt_B0 (n : Nat) (s_0 : DA) (t7 : Int) (t8 : Int) : Option ((DA × Int × Int) ⊕ ((Int) ⊕ (Unit))) :=
 bif (decide (t8 < t7)) then
 (getI s_0 t8).bind fun x221 =>
 (qam n x221.1 x221.2).bind fun r222 =>
 bif r222 then
 some (Sum.inr (Sum.inl t8))
 else
 some (Sum.inl (s_0, (t7, (addI .i64 t8 1))))
 else
 some (Sum.inr (Sum.inr ()))
def qt_W0 (n : Nat) (s : DA × Int × Int) : Option ((Int) ⊕ (Unit)) := loopS (fun s => qt_B0 n s.1 s.2.1 s.2.2) n s
def qt (n : Nat) (s_0 : DA) : Option (Int) :=
 (qt_W0 n (s_0, ((lenI s_0), 0))).bind fun r223 =>
 Sum.rec (fun u224 =>
 some u224) (fun v225 =>
 some (-1)) r223
def qg (n : Nat) (s_0 : DA) : Option (Bool) :=
 (qt n s_0).bind fun r226 =>
 some (decide (r226 ≥ 0))
def qar_B0 (n : Nat) (t18 : DH) (t19 : Int) (t20 : Int) (m0 : DI) (m0_1 : DH) (m0_2 : DJ) (m0_3 : DC) (m0_4 : DD) : Option (((DH × Int × Int) × DI × DH × DJ × DC × DD) ⊕ ((Int × (DI × DH × DJ × DC × DD) × DA × Int × Int × DA × DB) ⊕ (DI × DH × DJ × DC × DD))) :=
 bif (decide (t20 < t19)) then
 (getI t18 t20).bind fun x227 =>
 (qb n x227.2.2.2.2 m0 m0_1 m0_2 m0_3 m0_4 x227.1 x227.2.1 x227.2.2.1 x227.2.2.2.1 x227.2.2.2.2).bind fun r228 =>
 bif r228.1 then
 some (Sum.inr (Sum.inl (1, ((r228.2.1.1, (r228.2.1.2.1, (r228.2.1.2.2.1, (r228.2.1.2.2.2.1, r228.2.1.2.2.2.2)))), (r228.2.2.1, (r228.2.2.2.1, (r228.2.2.2.2.1, (r228.2.2.2.2.2.1, r228.2.2.2.2.2.2))))))))
 else
 (qg n r228.2.2.2.2.2.1).bind fun r229 =>
 bif r229 then
 some (Sum.inr (Sum.inl (1, ((r228.2.1.1, (r228.2.1.2.1, (r228.2.1.2.2.1, (r228.2.1.2.2.2.1, r228.2.1.2.2.2.2)))), (r228.2.2.1, (r228.2.2.2.1, (r228.2.2.2.2.1, (r228.2.2.2.2.2.1, r228.2.2.2.2.2.2))))))))
 else
 some (Sum.inl ((t18, (t19, (addI .i64 t20 1))), (r228.2.1.1, (r228.2.1.2.1, (r228.2.1.2.2.1, (r228.2.1.2.2.2.1, r228.2.1.2.2.2.2))))))
 else
 some (Sum.inr (Sum.inr (m0, (m0_1, (m0_2, (m0_3, m0_4))))))
def qar_W0 (n : Nat) (s : (DH × Int × Int) × DI × DH × DJ × DC × DD) : Option ((Int × (DI × DH × DJ × DC × DD) × DA × Int × Int × DA × DB) ⊕ (DI × DH × DJ × DC × DD)) := loopS (fun s => qar_B0 n s.1.1 s.1.2.1 s.1.2.2 s.2.1 s.2.2.1 s.2.2.2.1 s.2.2.2.2.1 s.2.2.2.2.2) n s
def qav (n : Nat) (t_0 : Int) (t_0_1 : Int) : Option (Bool) :=
 bif (t_0 == 1) then
 some true
 else
 some (t_0 == 5)
def qal (n : Nat) (t_0 : Int) (t_0_1 : Int) : Option (Bool) :=
 (qav n t_0 t_0_1).bind fun r237 =>
 some (!r237)
def qs_B0 (n : Nat) (s_0 : DA) (t7 : Int) (t8 : Int) : Option ((DA × Int × Int) ⊕ ((Int) ⊕ (Unit))) :=
 bif (decide (t8 < t7)) then
 (getI s_0 t8).bind fun x238 =>
 (qal n x238.1 x238.2).bind fun r239 =>
 bif r239 then
 some (Sum.inr (Sum.inl t8))
 else
 some (Sum.inl (s_0, (t7, (addI .i64 t8 1))))
 else
 some (Sum.inr (Sum.inr ()))
def qs_W0 (n : Nat) (s : DA × Int × Int) : Option ((Int) ⊕ (Unit)) := loopS (fun s => qs_B0 n s.1 s.2.1 s.2.2) n s
def qs (n : Nat) (s_0 : DA) : Option (Int) :=
 (qs_W0 n (s_0, ((lenI s_0), 0))).bind fun r240 =>
 Sum.rec (fun u241 =>
 some u241) (fun v242 =>
 some (-1)) r240
def qf (n : Nat) (s_0 : DA) : Option (Bool) :=
 (qs n s_0).bind fun r243 =>
 some (decide (r243 ≥ 0))
def qap (n : Nat) (i_0 : DA) (i_0_1 : Int) (i_0_2 : Int) : Option (Bool) :=
 (qav n i_0_1 i_0_2).bind fun r244 =>
 bif (!r244) then
 some true
 else
 (qf n i_0).bind fun r245 =>
 some r245
def qk_B0 (n : Nat) (s_0 : DJ) (t7 : Int) (t8 : Int) : Option ((DJ × Int × Int) ⊕ ((Int) ⊕ (Unit))) :=
 bif (decide (t8 < t7)) then
 (getI s_0 t8).bind fun x246 =>
 (qap n x246.1 x246.2.1 x246.2.2).bind fun r247 =>
 bif r247 then
 some (Sum.inr (Sum.inl t8))
 else
 some (Sum.inl (s_0, (t7, (addI .i64 t8 1))))
 else
 some (Sum.inr (Sum.inr ()))
def qk_W0 (n : Nat) (s : DJ × Int × Int) : Option ((Int) ⊕ (Unit)) := loopS (fun s => qk_B0 n s.1 s.2.1 s.2.2) n s
def qk (n : Nat) (s_0 : DJ) : Option (Int) :=
 (qk_W0 n (s_0, ((lenI s_0), 0))).bind fun r248 =>
 Sum.rec (fun u249 =>
 some u249) (fun v250 =>
 some (-1)) r248
def qa (n : Nat) (s_0 : DJ) : Option (Bool) :=
 (qk n s_0).bind fun r251 =>
 some (decide (r251 ≥ 0))
def qar (n : Nat) (m_0 : DI) (m_0_1 : DH) (m_0_2 : DJ) (m_0_3 : DC) (m_0_4 : DD) : Option (Int) :=
 (qad n m_0 m_0_1 m_0_2 m_0_3 m_0_4).bind fun r252 =>
 bif (r252.2 != 0) then
 some r252.2
 else
 (qar_W0 n ((m_0_1, ((lenI m_0_1), 0)), (m_0, (m_0_1, (m_0_2, (m_0_3, m_0_4)))))).bind fun r253 =>
 Sum.rec (fun u254 =>
 some u254.1) (fun v255 =>
 (qa n v255.2.2.1).bind fun r256 =>
 bif r256 then
 some 1
 else
 some 0) r253
def qae (n : Nat) : Option (Bool) :=
 (qar n ([] : List (List ((Int) × Int))) ((([] : List ((Int) × Int)), (1, (0, (([] : List ((Int) × Int)), ((0, (0, 0)) :: ([] : List ((Int) × (Int) × Int))))))) :: ([] : List ((List ((Int) × Int)) × (Int) × (Int) × (List ((Int) × Int)) × List ((Int) × (Int) × Int)))) ([] : List ((List ((Int) × Int)) × (Int) × Int)) ([] : DE) ([] : DF)).bind fun r267 =>
 bif (r267 == 1) then
 (qar n ([] : List (List ((Int) × Int))) ([] : List ((List ((Int) × Int)) × (Int) × (Int) × (List ((Int) × Int)) × List ((Int) × (Int) × Int))) ([] : List ((List ((Int) × Int)) × (Int) × Int)) ([] : DE) ([] : DF)).bind fun r268 =>
 some (r268 == 2)
 else
 some false
def law07SaneNames (n : Nat) (t0 : Int) (t1 : Int) : Option (Bool) :=
 (getI (0 :: (1 :: (3 :: (25 :: (27 :: (28 :: ([] : DE))))))) (remI t0 6)).bind fun x269 =>
 (law07SaneNames_W0 n (Sum.inl (((cvtI .i64 (remI t1 8)), (x269, 0)), ((1, 0), ((([] : List ((Int) × Int)), (1, (0, (([] : List ((Int) × Int)), ([] : List ((Int) × (Int) × Int)))))) :: ([] : List ((List ((Int) × Int)) × (Int) × (Int) × (List ((Int) × Int)) × List ((Int) × (Int) × Int)))))))).bind fun r270 =>
 Sum.rec (fun u271 =>
 bif (decide (0 < (((List.length u271.2.2) : Nat) : Int))) then
 (u271.2.2[0]?).bind fun x273 =>
 (u271.2.2[(Int.toNat 0)]?).bind fun x274 =>
 (qar n ([] : List (List ((Int) × Int))) (List.set u271.2.2 (Int.toNat 0) (x274.1, (x274.2.1, (x274.2.2.1, (x274.2.2.2.1, ((u271.1.2, (u271.1.1, 0)) :: ([] : List ((Int) × (Int) × Int)))))))) ([] : List ((List ((Int) × Int)) × (Int) × Int)) ([] : DE) ([] : DF)).bind fun r275 =>
 bif (decide (0 < (((List.length (List.set u271.2.2 (Int.toNat 0) (x274.1, (x274.2.1, (x274.2.2.1, (x274.2.2.2.1, ((u271.1.2, (u271.1.1, 0)) :: ([] : List ((Int) × (Int) × Int))))))))) : Nat) : Int))) then
 ((List.set u271.2.2 (Int.toNat 0) (x274.1, (x274.2.1, (x274.2.2.1, (x274.2.2.2.1, ((u271.1.2, (u271.1.1, 0)) :: ([] : List ((Int) × (Int) × Int))))))))[0]?).bind fun x276 =>
 ((List.set u271.2.2 (Int.toNat 0) (x274.1, (x274.2.1, (x274.2.2.1, (x274.2.2.2.1, ((u271.1.2, (u271.1.1, 0)) :: ([] : List ((Int) × (Int) × Int))))))))[(Int.toNat 0)]?).bind fun x277 =>
 (qar n ([] : List (List ((Int) × Int))) (List.set (List.set u271.2.2 (Int.toNat 0) (x274.1, (x274.2.1, (x274.2.2.1, (x274.2.2.2.1, ((u271.1.2, (u271.1.1, 0)) :: ([] : List ((Int) × (Int) × Int)))))))) (Int.toNat 0) (x277.1, (x277.2.1, (x277.2.2.1, (x277.2.2.2.1, ((u271.1.2, ((addI .i64 u271.1.1 1), 0)) :: ([] : List ((Int) × (Int) × Int)))))))) ([] : List ((List ((Int) × Int)) × (Int) × Int)) ([] : DE) ([] : DF)).bind fun r278 =>
 (qae n).bind fun r279 =>
 bif r279 then
 bif (r275 == 0) then
 some (r278 == 1)
 else
 some false
 else
 some false
 else none
 else none) (fun v272 =>
 bif (decide (0 < (((List.length v272.2.2.2.1) : Nat) : Int))) then
 (v272.2.2.2.1[0]?).bind fun x280 =>
 (v272.2.2.2.1[(Int.toNat 0)]?).bind fun x281 =>
 (qar n v272.2.2.1 (List.set v272.2.2.2.1 (Int.toNat 0) (x281.1, (x281.2.1, (x281.2.2.1, (x281.2.2.2.1, ((v272.1.2, (v272.1.1, 0)) :: ([] : List ((Int) × (Int) × Int)))))))) v272.2.2.2.2.1 v272.2.2.2.2.2.1 v272.2.2.2.2.2.2).bind fun r282 =>
 bif (decide (0 < (((List.length (List.set v272.2.2.2.1 (Int.toNat 0) (x281.1, (x281.2.1, (x281.2.2.1, (x281.2.2.2.1, ((v272.1.2, (v272.1.1, 0)) :: ([] : List ((Int) × (Int) × Int))))))))) : Nat) : Int))) then
 ((List.set v272.2.2.2.1 (Int.toNat 0) (x281.1, (x281.2.1, (x281.2.2.1, (x281.2.2.2.1, ((v272.1.2, (v272.1.1, 0)) :: ([] : List ((Int) × (Int) × Int))))))))[0]?).bind fun x283 =>
 ((List.set v272.2.2.2.1 (Int.toNat 0) (x281.1, (x281.2.1, (x281.2.2.1, (x281.2.2.2.1, ((v272.1.2, (v272.1.1, 0)) :: ([] : List ((Int) × (Int) × Int))))))))[(Int.toNat 0)]?).bind fun x284 =>
 (qar n v272.2.2.1 (List.set (List.set v272.2.2.2.1 (Int.toNat 0) (x281.1, (x281.2.1, (x281.2.2.1, (x281.2.2.2.1, ((v272.1.2, (v272.1.1, 0)) :: ([] : List ((Int) × (Int) × Int)))))))) (Int.toNat 0) (x284.1, (x284.2.1, (x284.2.2.1, (x284.2.2.2.1, ((v272.1.2, ((addI .i64 v272.1.1 1), 0)) :: ([] : List ((Int) × (Int) × Int)))))))) v272.2.2.2.2.1 v272.2.2.2.2.2.1 v272.2.2.2.2.2.2).bind fun r285 =>
 (qae n).bind fun r286 =>
 bif r286 then
 bif (r282 == 0) then
 some (r285 == 1)
 else
 some false
 else
 some false
 else none
 else none) r270
end
end Sx
