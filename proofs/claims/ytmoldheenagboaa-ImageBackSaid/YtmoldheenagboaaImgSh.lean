import Derived.Test.YtmoldheenagboaaLib5
import Derived.KernelRfl
open Go Go.Ab
set_option linter.unusedVariables false
set_option maxRecDepth 20000
namespace Sx
noncomputable section
abbrev DA := List Int
abbrev DB := List (Int × Int × Bool)
abbrev DC := List (Int)
abbrev DD := List (Nat × Int × Int)
abbrev DE := List (Int × Int × DA × DA)
def qbo_B0 (n : Nat) (t3 : Int) (t4 : Int) (m0 : DE) (m0_1 : DE) (m0_2 : DB) (m0_3 : Int) (m0_4 : Int) (m0_5 : Int) (m0_6 : Int) : Option (((Int × Int) × DE × DE × DB × Int × Int × Int × Int) ⊕ (Int × DE × DE × DB × Int × Int × Int × Int)) :=
 bif (decide (t4 < (lenI m0_1))) then
 (getI m0_1 t4).bind fun x0 =>
 (getI m0_1 t4).bind fun x1 =>
 some (Sum.inl (((addI .i64 (addI .i64 t3 (lenI x0.2.2.1)) (lenI x1.2.2.2)), (addI .i64 t4 1)), (m0, (m0_1, (m0_2, (m0_3, (m0_4, (m0_5, m0_6))))))))
 else
 some (Sum.inr (t3, (m0, (m0_1, (m0_2, (m0_3, (m0_4, (m0_5, m0_6))))))))
def qbo_W0 (n : Nat) (s : (Int × Int) × DE × DE × DB × Int × Int × Int × Int) : Option (Int × DE × DE × DB × Int × Int × Int × Int) := loopS (fun s => qbo_B0 n s.1.1 s.1.2 s.2.1 s.2.2.1 s.2.2.2.1 s.2.2.2.2.1 s.2.2.2.2.2.1 s.2.2.2.2.2.2.1 s.2.2.2.2.2.2.2) n s
def qbo_B2 (n : Nat) (t3 : Int) (t5 : Int) (m0 : DE) (m0_1 : DE) (m0_2 : DB) (m0_3 : Int) (m0_4 : Int) (m0_5 : Int) (m0_6 : Int) : Option (((Int × Int) × DE × DE × DB × Int × Int × Int × Int) ⊕ (Int × DE × DE × DB × Int × Int × Int × Int)) :=
 bif (decide (t5 < (lenI m0))) then
 (getI m0 t5).bind fun x3 =>
 (getI m0 t5).bind fun x4 =>
 some (Sum.inl (((addI .i64 (addI .i64 t3 (lenI x3.2.2.1)) (lenI x4.2.2.2)), (addI .i64 t5 1)), (m0, (m0_1, (m0_2, (m0_3, (m0_4, (m0_5, m0_6))))))))
 else
 some (Sum.inr (t3, (m0, (m0_1, (m0_2, (m0_3, (m0_4, (m0_5, m0_6))))))))
def qbo_W2 (n : Nat) (s : (Int × Int) × DE × DE × DB × Int × Int × Int × Int) : Option (Int × DE × DE × DB × Int × Int × Int × Int) := loopS (fun s => qbo_B2 n s.1.1 s.1.2 s.2.1 s.2.2.1 s.2.2.2.1 s.2.2.2.2.1 s.2.2.2.2.2.1 s.2.2.2.2.2.2.1 s.2.2.2.2.2.2.2) n s
def qbo (n : Nat) (t0 : DE) (t0_1 : DE) (t0_2 : DB) (t0_3 : Int) (t0_4 : Int) (t0_5 : Int) (t0_6 : Int) : Option (Bool) :=
 bif (decide ((addI .i64 (addI .i64 (lenI t0_1) (lenI t0_2)) (lenI t0)) > 300)) then
 some false
 else
 (qbo_W0 n (((addI .i64 (addI .i64 (lenI t0_1) (lenI t0_2)) (lenI t0)), 0), (t0, (t0_1, (t0_2, (t0_3, (t0_4, (t0_5, t0_6)))))))).bind fun r5 =>
 (qbo_W2 n ((r5.1, 0), (r5.2.1, (r5.2.2.1, (r5.2.2.2.1, (r5.2.2.2.2.1, (r5.2.2.2.2.2.1, (r5.2.2.2.2.2.2.1, r5.2.2.2.2.2.2.2)))))))).bind fun r6 =>
 some (decide (r6.1 < 3000))
def qcb_B0 (n : Nat) (v_0 : Int) (t9 : Int) (t10 : Int) (m0 : DA) : Option (((Int × Int × Int) × DA) ⊕ DA) :=
 bif (decide (t10 < t9)) then
 bif (decide (0 ≤ (mulI .i64 8 t10))) then
 bif (Nat.ble (List.length (m0 ++ ((cvtI .u8 (shrI .u64 v_0 (mulI .i64 8 t10))) :: ([] : DC)))) 4294967296) then
 some (Sum.inl ((v_0, (t9, (addI .i64 t10 1))), (m0 ++ ((cvtI .u8 (shrI .u64 v_0 (mulI .i64 8 t10))) :: ([] : DC)))))
 else none
 else none
 else
 some (Sum.inr m0)
def qcb_W0 (n : Nat) (s : (Int × Int × Int) × DA) : Option DA := loopS (fun s => qcb_B0 n s.1.1 s.1.2.1 s.1.2.2 s.2) n s
def qcb (n : Nat) (v_0 : Int) (n_1 : Int) : Option DA :=
 (qcb_W0 n ((v_0, ((minI (maxI n_1 0) 8), 0)), ([] : DC))).bind fun r8 =>
 some r8
def qci_B0 (n : Nat) (v_0 : Int) (m0 : DA) : Option ((Int × DA) ⊕ (Int × DA)) :=
 bif (decide (v_0 ≥ 128)) then
 bif (Nat.ble (List.length (m0 ++ ((orI .u8 (cvtI .u8 v_0) 128) :: ([] : DC)))) 4294967296) then
 some (Sum.inl ((shrI .u64 v_0 7), (m0 ++ ((orI .u8 (cvtI .u8 v_0) 128) :: ([] : DC)))))
 else none
 else
 some (Sum.inr (v_0, m0))
def qci_W0 (n : Nat) (s : Int × DA) : Option (Int × DA) := loopS (fun s => qci_B0 n s.1 s.2) n s
def qci (n : Nat) (v_0 : Int) : Option DA :=
 (qci_W0 n (v_0, ([] : DC))).bind fun r10 =>
 bif (Nat.ble (List.length (r10.2 ++ ((cvtI .u8 r10.1) :: ([] : DC)))) 4294967296) then
 some (r10.2 ++ ((cvtI .u8 r10.1) :: ([] : DC)))
 else none
def qah (n : Nat) (v_1 : Int) (m1 : DA) : Option DA :=
 (qci n v_1).bind fun r11 =>
 bif (Nat.ble (List.length (m1 ++ r11)) 4294967296) then
 some (m1 ++ r11)
 else none
def qal (n : Nat) (n_1 : Int) (m1 : DA) : Option DA :=
 (qah n (cvtI .u64 (maxI n_1 0)) m1).bind fun r12 =>
 some r12
def qbl_B0 (n : Nat) (t27 : Int) (t27_1 : Int) (t27_2 : Int) (t28 : Int) (m0 : DE) (m0_1 : DE) (m0_2 : DB) (m0_3 : Int) (m0_4 : Int) (m0_5 : Int) (m0_6 : Int) (m2 : DA) : Option ((((Int × Int × Int) × Int) × (DE × DE × DB × Int × Int × Int × Int) × DA) ⊕ ((DE × DE × DB × Int × Int × Int × Int) × DA)) :=
 bif (decide (t28 < 3)) then
 bif ((decide (0 ≤ t28)) && (decide (t28 < 3))) then
 bif (Nat.beq (Int.toNat t28) 0) then
 (qal n t27 m2).bind fun r13 =>
 some (Sum.inl (((t27, (t27_1, t27_2)), (addI .i64 t28 1)), ((m0, (m0_1, (m0_2, (m0_3, (m0_4, (m0_5, m0_6)))))), r13)))
 else
 bif (Nat.beq (Int.toNat t28) 1) then
 (qal n t27_1 m2).bind fun r14 =>
 some (Sum.inl (((t27, (t27_1, t27_2)), (addI .i64 t28 1)), ((m0, (m0_1, (m0_2, (m0_3, (m0_4, (m0_5, m0_6)))))), r14)))
 else
 bif (Nat.beq (Int.toNat t28) 2) then
 (qal n t27_2 m2).bind fun r15 =>
 some (Sum.inl (((t27, (t27_1, t27_2)), (addI .i64 t28 1)), ((m0, (m0_1, (m0_2, (m0_3, (m0_4, (m0_5, m0_6)))))), r15)))
 else none
 else none
 else
 some (Sum.inr ((m0, (m0_1, (m0_2, (m0_3, (m0_4, (m0_5, m0_6)))))), m2))
def qbl_W0 (n : Nat) (s : ((Int × Int × Int) × Int) × (DE × DE × DB × Int × Int × Int × Int) × DA) : Option ((DE × DE × DB × Int × Int × Int × Int) × DA) := loopS (fun s => qbl_B0 n s.1.1.1 s.1.1.2.1 s.1.1.2.2 s.1.2 s.2.1.1 s.2.1.2.1 s.2.1.2.2.1 s.2.1.2.2.2.1 s.2.1.2.2.2.2.1 s.2.1.2.2.2.2.2.1 s.2.1.2.2.2.2.2.2 s.2.2) n s
def qam_B0 (n : Nat) (t10 : DA) (t11 : Int) (t12 : Int) (m1 : DA) : Option (((DA × Int × Int) × DA) ⊕ DA) :=
 bif (decide (t12 < t11)) then
 (getI t10 t12).bind fun x27 =>
 (qah n x27 m1).bind fun r28 =>
 some (Sum.inl ((t10, (t11, (addI .i64 t12 1))), r28))
 else
 some (Sum.inr m1)
def qam_W0 (n : Nat) (s : (DA × Int × Int) × DA) : Option DA := loopS (fun s => qam_B0 n s.1.1 s.1.2.1 s.1.2.2 s.2) n s
def qam (n : Nat) (list_1 : DA) (m1 : DA) : Option DA :=
 (qal n (lenI list_1) m1).bind fun r29 =>
 (qam_W0 n ((list_1, ((lenI list_1), 0)), r29)).bind fun r30 =>
 some r30
def qr (n : Nat) (f_1 : Int) (f_1_1 : Int) (f_1_2 : DA) (f_1_3 : DA) (m1 : DA) : Option DA :=
 (qal n f_1 m1).bind fun r31 =>
 (qal n f_1_1 r31).bind fun r32 =>
 (qam n f_1_2 r32).bind fun r33 =>
 (qam n f_1_3 r33).bind fun r34 =>
 some r34
def qbl_B2 (n : Nat) (t45 : DE) (t46 : Int) (t47 : Int) (m0 : DE) (m0_1 : DE) (m0_2 : DB) (m0_3 : Int) (m0_4 : Int) (m0_5 : Int) (m0_6 : Int) (m2 : DA) : Option (((DE × Int × Int) × (DE × DE × DB × Int × Int × Int × Int) × DA) ⊕ ((DE × DE × DB × Int × Int × Int × Int) × DA)) :=
 bif (decide (t47 < t46)) then
 (getI t45 t47).bind fun x35 =>
 (qr n x35.1 x35.2.1 x35.2.2.1 x35.2.2.2 m2).bind fun r36 =>
 some (Sum.inl ((t45, (t46, (addI .i64 t47 1))), ((m0, (m0_1, (m0_2, (m0_3, (m0_4, (m0_5, m0_6)))))), r36)))
 else
 some (Sum.inr ((m0, (m0_1, (m0_2, (m0_3, (m0_4, (m0_5, m0_6)))))), m2))
def qbl_W2 (n : Nat) (s : (DE × Int × Int) × (DE × DE × DB × Int × Int × Int × Int) × DA) : Option ((DE × DE × DB × Int × Int × Int × Int) × DA) := loopS (fun s => qbl_B2 n s.1.1 s.1.2.1 s.1.2.2 s.2.1.1 s.2.1.2.1 s.2.1.2.2.1 s.2.1.2.2.2.1 s.2.1.2.2.2.2.1 s.2.1.2.2.2.2.2.1 s.2.1.2.2.2.2.2.2 s.2.2) n s
def qak (n : Nat) (o_1 : Int) (o_1_1 : Int) (o_1_2 : DA) (o_1_3 : DA) (m1 : DA) : Option DA :=
 (qal n o_1 m1).bind fun r46 =>
 (qal n o_1_1 r46).bind fun r47 =>
 (qam n o_1_2 r47).bind fun r48 =>
 (qal n (lenI o_1_3) r48).bind fun r49 =>
 bif (Nat.ble (List.length (r49 ++ o_1_3)) 4294967296) then
 some (r49 ++ o_1_3)
 else none
def qbl_B4 (n : Nat) (t61 : DE) (t62 : Int) (t63 : Int) (m0 : DE) (m0_1 : DE) (m0_2 : DB) (m0_3 : Int) (m0_4 : Int) (m0_5 : Int) (m0_6 : Int) (m2 : DA) : Option (((DE × Int × Int) × (DE × DE × DB × Int × Int × Int × Int) × DA) ⊕ ((DE × DE × DB × Int × Int × Int × Int) × DA)) :=
 bif (decide (t63 < t62)) then
 (getI t61 t63).bind fun x50 =>
 (qak n x50.1 x50.2.1 x50.2.2.1 x50.2.2.2 m2).bind fun r51 =>
 some (Sum.inl ((t61, (t62, (addI .i64 t63 1))), ((m0, (m0_1, (m0_2, (m0_3, (m0_4, (m0_5, m0_6)))))), r51)))
 else
 some (Sum.inr ((m0, (m0_1, (m0_2, (m0_3, (m0_4, (m0_5, m0_6)))))), m2))
def qbl_W4 (n : Nat) (s : (DE × Int × Int) × (DE × DE × DB × Int × Int × Int × Int) × DA) : Option ((DE × DE × DB × Int × Int × Int × Int) × DA) := loopS (fun s => qbl_B4 n s.1.1 s.1.2.1 s.1.2.2 s.2.1.1 s.2.1.2.1 s.2.1.2.2.1 s.2.1.2.2.2.1 s.2.1.2.2.2.2.1 s.2.1.2.2.2.2.2.1 s.2.1.2.2.2.2.2.2 s.2.2) n s
def qaq (n : Nat) (h_1 : Int) (h_1_1 : Int) (h_1_2 : Bool) (m1 : DA) : Option DA :=
 (qal n h_1 m1).bind fun r62 =>
 (qah n h_1_1 r62).bind fun r63 =>
 bif h_1_2 then
 (qah n 1 r63).bind fun r64 =>
 some r64
 else
 (qah n 0 r63).bind fun r65 =>
 some r65
def qbl_B6 (n : Nat) (t77 : DB) (t78 : Int) (t79 : Int) (m1 : DA) : Option (((DB × Int × Int) × DA) ⊕ DA) :=
 bif (decide (t79 < t78)) then
 (getI t77 t79).bind fun x66 =>
 (qaq n x66.1 x66.2.1 x66.2.2 m1).bind fun r67 =>
 some (Sum.inl ((t77, (t78, (addI .i64 t79 1))), r67))
 else
 some (Sum.inr m1)
def qbl_W6 (n : Nat) (s : (DB × Int × Int) × DA) : Option DA := loopS (fun s => qbl_B6 n s.1.1 s.1.2.1 s.1.2.2 s.2) n s
def qcj_B2 (n : Nat) (n_3 : Int) (t7 : DA) (t8 : Int) (t9 : Int) (t17 : Int) : Option ((Int × DA × Int × Int × Int) ⊕ (Int × DA × Int × Int)) :=
 bif (decide (t17 < 8)) then
 some (Sum.inl ((xorI .u32 (shrI .u32 n_3 1) (mulI .u32 3988292384 (andI .u32 n_3 1))), (t7, (t8, (t9, (addI .i64 t17 1))))))
 else
 some (Sum.inr (n_3, (t7, (t8, t9))))
def qcj_W2 (n : Nat) (s : Int × DA × Int × Int × Int) : Option (Int × DA × Int × Int) := loopS (fun s => qcj_B2 n s.1 s.2.1 s.2.2.1 s.2.2.2.1 s.2.2.2.2) n s
def qcj_B0 (n : Nat) (n_3 : Int) (t7 : DA) (t8 : Int) (t9 : Int) : Option ((Int × DA × Int × Int) ⊕ (Int)) :=
 bif (decide (t9 < t8)) then
 (getI t7 t9).bind fun x78 =>
 (qcj_W2 n ((xorI .u32 n_3 (cvtI .u32 x78)), (t7, (t8, (t9, 0))))).bind fun r79 =>
 some (Sum.inl (r79.1, (r79.2.1, (r79.2.2.1, (addI .i64 r79.2.2.2 1)))))
 else
 some (Sum.inr n_3)
def qcj_W0 (n : Nat) (s : Int × DA × Int × Int) : Option (Int) := loopS (fun s => qcj_B0 n s.1 s.2.1 s.2.2.1 s.2.2.2) n s
def qcj (n : Nat) (b_0 : DA) : Option (Int) :=
 (qcj_W0 n (4294967295, (b_0, ((lenI b_0), 0)))).bind fun r80 =>
 some (notI .u32 r80)
def qcg (n : Nat) (b_0 : DA) : Option DA :=
 bif (Nat.ble (List.length b_0) 4294967296) then
 (qcj n b_0).bind fun r82 =>
 (qcb n (cvtI .u64 r82) 4).bind fun r83 =>
 bif (Nat.ble (List.length (b_0 ++ r83)) 4294967296) then
 some (b_0 ++ r83)
 else none
 else none
def qbl (n : Nat) (t0 : DE) (t0_1 : DE) (t0_2 : DB) (t0_3 : Int) (t0_4 : Int) (t0_5 : Int) (t0_6 : Int) (t1 : Int) : Option DA :=
 (qcb n (cvtI .u64 t1) 4).bind fun r84 =>
 bif (Nat.ble (List.length ((2 :: ([] : DC)) ++ r84)) 4294967296) then
 (qbl_W0 n (((t0_5, (t0_3, t0_4)), 0), ((t0, (t0_1, (t0_2, (t0_3, (t0_4, (t0_5, t0_6)))))), ((2 :: ([] : DC)) ++ r84)))).bind fun r85 =>
 (qah n r85.1.2.2.2.2.2.2 r85.2).bind fun r86 =>
 (qal n (lenI r85.1.1) r86).bind fun r87 =>
 (qbl_W2 n ((r85.1.1, ((lenI r85.1.1), 0)), ((r85.1.1, (r85.1.2.1, (r85.1.2.2.1, (r85.1.2.2.2.1, (r85.1.2.2.2.2.1, (r85.1.2.2.2.2.2.1, r85.1.2.2.2.2.2.2)))))), r87))).bind fun r88 =>
 (qal n (lenI r88.1.2.1) r88.2).bind fun r89 =>
 (qbl_W4 n ((r88.1.2.1, ((lenI r88.1.2.1), 0)), ((r88.1.1, (r88.1.2.1, (r88.1.2.2.1, (r88.1.2.2.2.1, (r88.1.2.2.2.2.1, (r88.1.2.2.2.2.2.1, r88.1.2.2.2.2.2.2)))))), r89))).bind fun r90 =>
 (qal n (lenI r90.1.2.2.1) r90.2).bind fun r91 =>
 (qbl_W6 n ((r90.1.2.2.1, ((lenI r90.1.2.2.1), 0)), r91)).bind fun r92 =>
 (qcg n r92).bind fun r93 =>
 some r93
 else none
def qcf (n : Nat) (b_0 : DA) : Option (DA × Int) :=
 bif (decide ((lenI b_0) < 4)) then
 some (([] : DC), 3)
 else
 bif ((decide (0 ≤ (subI .i64 (lenI b_0) 4))) && (decide ((subI .i64 (lenI b_0) 4) ≤ (((List.length b_0) : Nat) : Int)))) then
 (qcg n (List.take (Int.toNat (subI .i64 (lenI b_0) 4)) b_0)).bind fun r95 =>
 bif (!(eqS (intsBytes r95) (intsBytes b_0))) then
 some (([] : DC), 3)
 else
 bif (Nat.ble (List.length (List.take (Int.toNat (subI .i64 (lenI b_0) 4)) b_0)) 4294967296) then
 some ((List.take (Int.toNat (subI .i64 (lenI b_0) 4)) b_0), 0)
 else none
 else none
def qbc (n : Nat) (b_0 : DA) : Option (DA × Bool) :=
 bif (Nat.ble (List.length b_0) 4294967296) then
 some (b_0, false)
 else none
def qbg (n : Nat) (m0 : DA) (m0_1 : Bool) : Option (Bool × DA × Bool) :=
 some (m0_1, (m0, m0_1))
def qav (n : Nat) (m0 : DA) (m0_1 : Bool) : Option (DA × Bool) :=
 some (m0, true)
def qax (n : Nat) (n_1 : Int) (m0 : DA) (m0_1 : Bool) : Option (DA × DA × Bool) :=
 (qbg n m0 m0_1).bind fun r100 =>
 bif r100.1 then
 (qav n r100.2.1 r100.2.2).bind fun r101 =>
 some (([] : DC), (r101.1, r101.2))
 else
 bif (decide (n_1 < 0)) then
 (qav n r100.2.1 r100.2.2).bind fun r102 =>
 some (([] : DC), (r102.1, r102.2))
 else
 bif (decide (n_1 > (lenI r100.2.1))) then
 (qav n r100.2.1 r100.2.2).bind fun r103 =>
 some (([] : DC), (r103.1, r103.2))
 else
 bif ((decide (0 ≤ n_1)) && (decide (n_1 ≤ (((List.length r100.2.1) : Nat) : Int)))) then
 bif (Nat.ble (List.length (List.take (Int.toNat n_1) r100.2.1)) 4294967296) then
 bif ((decide (0 ≤ n_1)) && (decide (n_1 ≤ (((List.length r100.2.1) : Nat) : Int)))) then
 some ((List.take (Int.toNat n_1) r100.2.1), ((List.drop (Int.toNat n_1) (List.take (List.length r100.2.1) r100.2.1)), r100.2.2))
 else none
 else none
 else none
def qay (n : Nat) (s_0 : DA) : Option DA :=
 some s_0
def fixV (xs : DA) : Int := xs.foldr (fun c v => orI .u64 (IntKind.u64.wrap (v * 256)) (IntKind.u64.wrap c)) 0
def qai (n : Nat) (n_1 : Int) (m0 : DA) (m0_1 : Bool) : Option (Int × DA × Bool) :=
 (qax n (minI (maxI n_1 0) 8) m0 m0_1).bind fun r => some (fixV r.1, r.2)
def qbj (n : Nat) (b_0 : DA) (first_1 : Int) : Option ((Int × Int) ⊕ ((Int × Int) × DA × Bool)) :=
 bif (decide ((lenI b_0) > 65536)) then
 some (Sum.inl (0, 2))
 else
 (qcf n b_0).bind fun r110 =>
 bif (r110.2 != 0) then
 some (Sum.inl (0, r110.2))
 else
 (qbc n r110.1).bind fun r111 =>
 (qai n 1 r111.1 r111.2).bind fun r112 =>
 bif (r112.1 != (cvtI .u64 first_1)) then
 some (Sum.inl (0, 2))
 else
 (qbg n r112.2.1 r112.2.2).bind fun r113 =>
 bif r113.1 then
 some (Sum.inl (0, 2))
 else
 (qai n 4 r113.2.1 r113.2.2).bind fun r114 =>
 (qbg n r114.2.1 r114.2.2).bind fun r115 =>
 bif r115.1 then
 some (Sum.inl (0, 2))
 else
 some (Sum.inr (((cvtI .u32 r114.1), 0), (r115.2.1, r115.2.2)))
def qas (n : Nat) : Option (Empty) :=
 none
def qz (n : Nat) (n_1 : Int) : Option (Empty) :=
 (qas n).bind fun r119 =>
 none
def qbf_B0 (n : Nat) (v_3 : Int) (k_4 : Int) : Option ((Int × Int) ⊕ (Empty)) :=
 (qz n 1).bind fun r120 =>
 none
def qbf_W0 (n : Nat) (s : Int × Int) : Option (Empty) := loopS (fun s => qbf_B0 n s.1 s.2) n s
def qbf (n : Nat) : Option (Empty) :=
 (qbf_W0 n (0, 0)).bind fun r121 =>
 none
def qaj (n : Nat) (m0 : Bool) : Option (Empty) :=
 (qbf n).bind fun r122 =>
 none
def qan_B0 (n : Nat) (v_3 : Int) (k_4 : Int) (m0 : DA) (m0_1 : Bool) : Option (((Int × Int) × DA × Bool) ⊕ (Int × DA × Bool)) :=
 (qax n 1 m0 m0_1).bind fun r129 =>
 bif ((lenI r129.1) == 0) then
 some (Sum.inr (0, (r129.2.1, r129.2.2)))
 else
 (getI r129.1 0).bind fun x130 =>
 bif (k_4 == 9) then
 bif (decide (x130 > 1)) then
 (qav n r129.2.1 r129.2.2).bind fun r131 =>
 some (Sum.inr (0, (r131.1, r131.2)))
 else
 bif (decide (k_4 > 0)) then
 bif (x130 == 0) then
 (qav n r129.2.1 r129.2.2).bind fun r132 =>
 some (Sum.inr (0, (r132.1, r132.2)))
 else
 bif (decide (0 ≤ (mulI .i64 7 k_4))) then
 bif (decide (x130 < 128)) then
 some (Sum.inr ((orI .u64 v_3 (shlI .u64 (cvtI .u64 (andNotI .u8 x130 128)) (mulI .i64 7 k_4))), (r129.2.1, r129.2.2)))
 else
 some (Sum.inl (((orI .u64 v_3 (shlI .u64 (cvtI .u64 (andNotI .u8 x130 128)) (mulI .i64 7 k_4))), (addI .i64 k_4 1)), (r129.2.1, r129.2.2)))
 else none
 else
 bif (decide (0 ≤ (mulI .i64 7 k_4))) then
 bif (decide (x130 < 128)) then
 some (Sum.inr ((orI .u64 v_3 (shlI .u64 (cvtI .u64 (andNotI .u8 x130 128)) (mulI .i64 7 k_4))), (r129.2.1, r129.2.2)))
 else
 some (Sum.inl (((orI .u64 v_3 (shlI .u64 (cvtI .u64 (andNotI .u8 x130 128)) (mulI .i64 7 k_4))), (addI .i64 k_4 1)), (r129.2.1, r129.2.2)))
 else none
 else
 bif (decide (k_4 > 0)) then
 bif (x130 == 0) then
 (qav n r129.2.1 r129.2.2).bind fun r133 =>
 some (Sum.inr (0, (r133.1, r133.2)))
 else
 bif (decide (0 ≤ (mulI .i64 7 k_4))) then
 bif (decide (x130 < 128)) then
 some (Sum.inr ((orI .u64 v_3 (shlI .u64 (cvtI .u64 (andNotI .u8 x130 128)) (mulI .i64 7 k_4))), (r129.2.1, r129.2.2)))
 else
 some (Sum.inl (((orI .u64 v_3 (shlI .u64 (cvtI .u64 (andNotI .u8 x130 128)) (mulI .i64 7 k_4))), (addI .i64 k_4 1)), (r129.2.1, r129.2.2)))
 else none
 else
 bif (decide (0 ≤ (mulI .i64 7 k_4))) then
 bif (decide (x130 < 128)) then
 some (Sum.inr ((orI .u64 v_3 (shlI .u64 (cvtI .u64 (andNotI .u8 x130 128)) (mulI .i64 7 k_4))), (r129.2.1, r129.2.2)))
 else
 some (Sum.inl (((orI .u64 v_3 (shlI .u64 (cvtI .u64 (andNotI .u8 x130 128)) (mulI .i64 7 k_4))), (addI .i64 k_4 1)), (r129.2.1, r129.2.2)))
 else none
def qan_W0 (n : Nat) (s : (Int × Int) × DA × Bool) : Option (Int × DA × Bool) := loopS (fun s => qan_B0 n s.1.1 s.1.2 s.2.1 s.2.2) n s
def qan (n : Nat) (m0 : DA) (m0_1 : Bool) : Option (Int × DA × Bool) :=
 (qan_W0 n ((0, 0), (m0, m0_1))).bind fun r134 =>
 some (r134.1, (r134.2.1, r134.2.2))
def qn (n : Nat) (m0 : Bool) (m1 : DA) (m1_1 : Bool) : Option (Int × Bool × DA × Bool) :=
 (qan n m1 m1_1).bind fun r135 =>
 bif (decide (r135.1 > 2147483647)) then
 some (0, (true, (r135.2.1, r135.2.2)))
 else
 some ((cvtI .i64 r135.1), (m0, (r135.2.1, r135.2.2)))
def qp (n : Nat) (m0 : Bool) (m1 : DA) (m1_1 : Bool) : Option (Bool × Bool × DA × Bool) :=
 bif m0 then
 some (true, (m0, (m1, m1_1)))
 else
 (qbg n m1 m1_1).bind fun r152 =>
 some (r152.1, (m0, (r152.2.1, r152.2.2)))
def qac_B0 (n : Nat) (n_6 : Int) (m0 : Bool) (m1 : DA) (m1_1 : Bool) (m2 : DA) : Option ((Int × Bool × (DA × Bool) × DA) ⊕ (Bool × (DA × Bool) × DA)) :=
 bif (decide (n_6 > 0)) then
 (qp n m0 m1 m1_1).bind fun r158 =>
 bif (!r158.1) then
 (qan n r158.2.2.1 r158.2.2.2).bind fun r159 =>
 bif (Nat.ble (List.length (m2 ++ (r159.1 :: ([] : DC)))) 4294967296) then
 some (Sum.inl ((subI .i64 n_6 1), (r158.2.1, ((r159.2.1, r159.2.2), (m2 ++ (r159.1 :: ([] : DC)))))))
 else none
 else
 some (Sum.inr (r158.2.1, ((r158.2.2.1, r158.2.2.2), m2)))
 else
 some (Sum.inr (m0, ((m1, m1_1), m2)))
def qac_W0 (n : Nat) (s : Int × Bool × (DA × Bool) × DA) : Option (Bool × (DA × Bool) × DA) := loopS (fun s => qac_B0 n s.1 s.2.1 s.2.2.1.1 s.2.2.1.2 s.2.2.2) n s
def qac (n : Nat) (m0 : Bool) (m1 : DA) (m1_1 : Bool) : Option (DA × Bool × DA × Bool) :=
 (qn n m0 m1 m1_1).bind fun r160 =>
 (qac_W0 n (r160.1, (r160.2.1, ((r160.2.2.1, r160.2.2.2), ([] : DC))))).bind fun r161 =>
 some (r161.2.2, (r161.1, (r161.2.1.1, r161.2.1.2)))
def qq (n : Nat) (m0 : Bool) (m1 : DA) (m1_1 : Bool) : Option ((Int × Int × DA × DA) × Bool × DA × Bool) :=
 (qn n m0 m1 m1_1).bind fun r162 =>
 (qn n r162.2.1 r162.2.2.1 r162.2.2.2).bind fun r163 =>
 (qac n r163.2.1 r163.2.2.1 r163.2.2.2).bind fun r164 =>
 (qac n r164.2.1 r164.2.2.1 r164.2.2.2).bind fun r165 =>
 some ((r162.1, (r163.1, (r164.1, r165.1))), (r165.2.1, (r165.2.2.1, r165.2.2.2)))
def ql_B0 (n : Nat) (n_6 : Int) (m0 : Bool) (m1 : DA) (m1_1 : Bool) (m2 : DE) : Option ((Int × Bool × (DA × Bool) × DE) ⊕ (Bool × (DA × Bool) × DE)) :=
 bif (decide (n_6 > 0)) then
 (qp n m0 m1 m1_1).bind fun r166 =>
 bif (!r166.1) then
 (qq n r166.2.1 r166.2.2.1 r166.2.2.2).bind fun r167 =>
 bif (Nat.ble (List.length (m2 ++ ((r167.1.1, (r167.1.2.1, (r167.1.2.2.1, r167.1.2.2.2))) :: ([] : List ((Int) × (Int) × DA × DA))))) 4294967296) then
 some (Sum.inl ((subI .i64 n_6 1), (r167.2.1, ((r167.2.2.1, r167.2.2.2), (m2 ++ ((r167.1.1, (r167.1.2.1, (r167.1.2.2.1, r167.1.2.2.2))) :: ([] : List ((Int) × (Int) × DA × DA))))))))
 else none
 else
 some (Sum.inr (r166.2.1, ((r166.2.2.1, r166.2.2.2), m2)))
 else
 some (Sum.inr (m0, ((m1, m1_1), m2)))
def ql_W0 (n : Nat) (s : Int × Bool × (DA × Bool) × DE) : Option (Bool × (DA × Bool) × DE) := loopS (fun s => ql_B0 n s.1 s.2.1 s.2.2.1.1 s.2.2.1.2 s.2.2.2) n s
def ql (n : Nat) (m0 : Bool) (m1 : DA) (m1_1 : Bool) : Option (DE × Bool × DA × Bool) :=
 (qn n m0 m1 m1_1).bind fun r168 =>
 (ql_W0 n (r168.1, (r168.2.1, ((r168.2.2.1, r168.2.2.2), ([] : List ((Int) × (Int) × DA × DA)))))).bind fun r169 =>
 some (r169.2.2, (r169.1, (r169.2.1.1, r169.2.1.2)))
def qar (n : Nat) (m0 : Bool) (m1 : DA) (m1_1 : Bool) : Option ((Int × Int × DA × DA) × Bool × DA × Bool) :=
 (qn n m0 m1 m1_1).bind fun r187 =>
 (qn n r187.2.1 r187.2.2.1 r187.2.2.2).bind fun r188 =>
 (qac n r188.2.1 r188.2.2.1 r188.2.2.2).bind fun r189 =>
 (qn n r189.2.1 r189.2.2.1 r189.2.2.2).bind fun r190 =>
 (qax n r190.1 r190.2.2.1 r190.2.2.2).bind fun r191 =>
 some ((r187.1, (r188.1, (r189.1, r191.1))), (r190.2.1, (r191.2.1, r191.2.2)))
def qad_B0 (n : Nat) (n_6 : Int) (m0 : Bool) (m1 : DA) (m1_1 : Bool) (m2 : DE) : Option ((Int × Bool × (DA × Bool) × DE) ⊕ (Bool × (DA × Bool) × DE)) :=
 bif (decide (n_6 > 0)) then
 (qp n m0 m1 m1_1).bind fun r192 =>
 bif (!r192.1) then
 (qar n r192.2.1 r192.2.2.1 r192.2.2.2).bind fun r193 =>
 bif (Nat.ble (List.length (m2 ++ ((r193.1.1, (r193.1.2.1, (r193.1.2.2.1, r193.1.2.2.2))) :: ([] : List ((Int) × (Int) × DA × DA))))) 4294967296) then
 some (Sum.inl ((subI .i64 n_6 1), (r193.2.1, ((r193.2.2.1, r193.2.2.2), (m2 ++ ((r193.1.1, (r193.1.2.1, (r193.1.2.2.1, r193.1.2.2.2))) :: ([] : List ((Int) × (Int) × DA × DA))))))))
 else none
 else
 some (Sum.inr (r192.2.1, ((r192.2.2.1, r192.2.2.2), m2)))
 else
 some (Sum.inr (m0, ((m1, m1_1), m2)))
def qad_W0 (n : Nat) (s : Int × Bool × (DA × Bool) × DE) : Option (Bool × (DA × Bool) × DE) := loopS (fun s => qad_B0 n s.1 s.2.1 s.2.2.1.1 s.2.2.1.2 s.2.2.2) n s
def qad (n : Nat) (m0 : Bool) (m1 : DA) (m1_1 : Bool) : Option (DE × Bool × DA × Bool) :=
 (qn n m0 m1 m1_1).bind fun r194 =>
 (qad_W0 n (r194.1, (r194.2.1, ((r194.2.2.1, r194.2.2.2), ([] : List ((Int) × (Int) × DA × DA)))))).bind fun r195 =>
 some (r195.2.2, (r195.1, (r195.2.1.1, r195.2.1.2)))
def qap (n : Nat) (m0 : Bool) (m1 : DA) (m1_1 : Bool) : Option ((Int × Int × Bool) × Bool × DA × Bool) :=
 (qn n m0 m1 m1_1).bind fun r209 =>
 (qan n r209.2.2.1 r209.2.2.2).bind fun r210 =>
 (qn n r209.2.1 r210.2.1 r210.2.2).bind fun r211 =>
 bif r211.2.1 then
 some ((r209.1, (r210.1, (r211.1 == 1))), (true, (r211.2.2.1, r211.2.2.2)))
 else
 some ((r209.1, (r210.1, (r211.1 == 1))), ((decide (r211.1 > 1)), (r211.2.2.1, r211.2.2.2)))
def qa_B0 (n : Nat) (n_6 : Int) (m0 : Bool) (m1 : DA) (m1_1 : Bool) (m2 : DB) : Option ((Int × Bool × (DA × Bool) × DB) ⊕ (Bool × (DA × Bool) × DB)) :=
 bif (decide (n_6 > 0)) then
 (qp n m0 m1 m1_1).bind fun r212 =>
 bif (!r212.1) then
 (qap n r212.2.1 r212.2.2.1 r212.2.2.2).bind fun r213 =>
 bif (Nat.ble (List.length (m2 ++ ((r213.1.1, (r213.1.2.1, r213.1.2.2)) :: ([] : List ((Int) × (Int) × Bool))))) 4294967296) then
 some (Sum.inl ((subI .i64 n_6 1), (r213.2.1, ((r213.2.2.1, r213.2.2.2), (m2 ++ ((r213.1.1, (r213.1.2.1, r213.1.2.2)) :: ([] : List ((Int) × (Int) × Bool))))))))
 else none
 else
 some (Sum.inr (r212.2.1, ((r212.2.2.1, r212.2.2.2), m2)))
 else
 some (Sum.inr (m0, ((m1, m1_1), m2)))
def qa_W0 (n : Nat) (s : Int × Bool × (DA × Bool) × DB) : Option (Bool × (DA × Bool) × DB) := loopS (fun s => qa_B0 n s.1 s.2.1 s.2.2.1.1 s.2.2.1.2 s.2.2.2) n s
def qa (n : Nat) (m0 : Bool) (m1 : DA) (m1_1 : Bool) : Option (DB × Bool × DA × Bool) :=
 (qn n m0 m1 m1_1).bind fun r214 =>
 (qa_W0 n (r214.1, (r214.2.1, ((r214.2.2.1, r214.2.2.2), ([] : List ((Int) × (Int) × Bool)))))).bind fun r215 =>
 some (r215.2.2, (r215.1, (r215.2.1.1, r215.2.1.2)))
def qaw (n : Nat) (m0 : DA) (m0_1 : Bool) : Option (Int × DA × Bool) :=
 (qbg n m0 m0_1).bind fun r239 =>
 bif r239.1 then
 some (0, (r239.2.1, r239.2.2))
 else
 some ((lenI r239.2.1), (r239.2.1, r239.2.2))
def qbi (n : Nat) (b_0 : DA) : Option ((DE × DE × DB × Int × Int × Int × Int) × Int × Int) :=
 (qbj n b_0 2).bind fun r240 =>
 Sum.rec (fun u241 =>
 bif (u241.2 != 0) then
 some (([], ([], ([], (0, (0, (0, 0)))))), (0, u241.2))
 else
 (qaj n Bool.false).bind fun r243 =>
 none) (fun v242 =>
 bif (v242.1.2 != 0) then
 some (([], ([], ([], (0, (0, (0, 0)))))), (0, v242.1.2))
 else
 (qn n Bool.false v242.2.1 v242.2.2).bind fun r244 =>
 (qn n r244.2.1 r244.2.2.1 r244.2.2.2).bind fun r245 =>
 (qn n r245.2.1 r245.2.2.1 r245.2.2.2).bind fun r246 =>
 (qan n r246.2.2.1 r246.2.2.2).bind fun r247 =>
 (ql n r246.2.1 r247.2.1 r247.2.2).bind fun r248 =>
 (qad n r248.2.1 r248.2.2.1 r248.2.2.2).bind fun r249 =>
 (qa n r249.2.1 r249.2.2.1 r249.2.2.2).bind fun r250 =>
 (qp n r250.2.1 r250.2.2.1 r250.2.2.2).bind fun r251 =>
 bif r251.1 then
 some (([], ([], ([], (0, (0, (0, 0)))))), (0, 2))
 else
 (qaw n r251.2.2.1 r251.2.2.2).bind fun r252 =>
 bif (decide (r252.1 > 0)) then
 some (([], ([], ([], (0, (0, (0, 0)))))), (0, 2))
 else
 some ((r248.1, (r249.1, (r250.1, (r245.1, (r246.1, (r244.1, r247.1)))))), (v242.1.1, 0))) r240
def qbh (n : Nat) : Option (Bool) :=
 (qbl n ([] : List ((Int) × (Int) × DA × DA)) ([] : List ((Int) × (Int) × DA × DA)) ([] : List ((Int) × (Int) × Bool)) 5 0 0 0 9).bind fun r253 =>
 (qbi n r253).bind fun r254 =>
 bif (r254.2.2 == 0) then
 bif (r254.2.1 == 9) then
 some (r254.1.2.2.2.1 == 5)
 else
 some false
 else
 some false
def qbt_B0 (n : Nat) (v_0 : Int) (n_1 : Int) (k_6 : Int) (m0 : DA) : Option (((Int × Int × Int) × DA) ⊕ DA) :=
 bif (decide (k_6 < n_1)) then
 bif (decide (k_6 < 8)) then
 bif (Nat.ble (List.length (m0 ++ ((cvtI .u8 (remI v_0 256)) :: ([] : DC)))) 4294967296) then
 some (Sum.inl (((quoI .u64 v_0 256), (n_1, (addI .i64 k_6 1))), (m0 ++ ((cvtI .u8 (remI v_0 256)) :: ([] : DC)))))
 else none
 else
 some (Sum.inr m0)
 else
 some (Sum.inr m0)
def qbt_W0 (n : Nat) (s : (Int × Int × Int) × DA) : Option DA := loopS (fun s => qbt_B0 n s.1.1 s.1.2.1 s.1.2.2 s.2) n s
def qbt (n : Nat) (v_0 : Int) (n_1 : Int) : Option DA :=
 (qbt_W0 n ((v_0, (n_1, 0)), ([] : DC))).bind fun r260 =>
 some r260
def qbm (n : Nat) (n_0 : Int) : Option (Int) :=
 bif (decide (n_0 < 0)) then
 some 0
 else
 some (cvtI .u64 n_0)
def qcd_S (n : Nat) (self : Int → Option DA) (v_0 : Int) : Option DA :=
 bif (decide (v_0 < 128)) then
 some ((cvtI .u8 v_0) :: ([] : DC))
 else
 (self (quoI .u64 v_0 128)).bind fun r270 =>
 bif (Nat.ble (List.length (((cvtI .u8 (addI .u64 128 (remI v_0 128))) :: ([] : DC)) ++ r270)) 4294967296) then
 some (((cvtI .u8 (addI .u64 128 (remI v_0 128))) :: ([] : DC)) ++ r270)
 else none
def qcd_D (n : Nat) (d : Nat) : Int → Option DA := Nat.rec (fun _ => none) (fun _ ih a => qcd_S n ih a) d
def qcd (n : Nat) (v_0 : Int) : Option DA := qcd_D n n v_0
def qbu_B0 (n : Nat) (old_0 : Bool) (l_1 : DA) (i_6 : Int) (m0 : DA) : Option (((Bool × DA × Int) × DA) ⊕ DA) :=
 bif (decide (i_6 < (lenI l_1))) then
 bif old_0 then
 (getI l_1 i_6).bind fun x271 =>
 (qbt n x271 8).bind fun r272 =>
 bif (Nat.ble (List.length (m0 ++ r272)) 4294967296) then
 some (Sum.inl ((old_0, (l_1, (addI .i64 i_6 1))), (m0 ++ r272)))
 else none
 else
 (getI l_1 i_6).bind fun x273 =>
 (qcd n x273).bind fun r274 =>
 bif (Nat.ble (List.length (m0 ++ r274)) 4294967296) then
 some (Sum.inl ((old_0, (l_1, (addI .i64 i_6 1))), (m0 ++ r274)))
 else none
 else
 some (Sum.inr m0)
def qbu_W0 (n : Nat) (s : (Bool × DA × Int) × DA) : Option DA := loopS (fun s => qbu_B0 n s.1.1 s.1.2.1 s.1.2.2 s.2) n s
def qbu (n : Nat) (old_0 : Bool) (l_1 : DA) : Option DA :=
 (qbu_W0 n ((old_0, (l_1, 0)), ([] : DC))).bind fun r275 =>
 some r275
def qbx (n : Nat) (old_0 : Bool) (l_1 : DA) : Option DA :=
 bif (Nat.ble (List.length (((cvtI .u64 (lenI l_1)) :: ([] : DC)) ++ l_1)) 4294967296) then
 (qbu n old_0 (((cvtI .u64 (lenI l_1)) :: ([] : DC)) ++ l_1)).bind fun r285 =>
 some r285
 else none
def qbp_B0 (n : Nat) (t2 : Bool) (t11 : Int) (m0 : DE) (m0_1 : DE) (m0_2 : DB) (m0_3 : Int) (m0_4 : Int) (m0_5 : Int) (m0_6 : Int) (m1 : DA) (m2 : DA) (m3 : DA) (m4 : DA) : Option (((Bool × Int) × (DE × DE × DB × Int × Int × Int × Int) × DA × DA × DA × DA) ⊕ (Bool × (DE × DE × DB × Int × Int × Int × Int) × DA × DA × DA × DA)) :=
 bif (decide (t11 < (lenI m0))) then
 (getI m0 t11).bind fun x286 =>
 (qbm n x286.1).bind fun r287 =>
 (qbm n x286.2.1).bind fun r288 =>
 (qbu n t2 (r287 :: (r288 :: ([] : DC)))).bind fun r289 =>
 bif (Nat.ble (List.length (m2 ++ r289)) 4294967296) then
 (qbx n t2 x286.2.2.1).bind fun r290 =>
 bif (Nat.ble (List.length ((m2 ++ r289) ++ r290)) 4294967296) then
 (qbx n t2 x286.2.2.2).bind fun r291 =>
 bif (Nat.ble (List.length (((m2 ++ r289) ++ r290) ++ r291)) 4294967296) then
 some (Sum.inl ((t2, (addI .i64 t11 1)), ((m0, (m0_1, (m0_2, (m0_3, (m0_4, (m0_5, m0_6)))))), (m1, ((((m2 ++ r289) ++ r290) ++ r291), (m3, m4))))))
 else none
 else none
 else none
 else
 some (Sum.inr (t2, ((m0, (m0_1, (m0_2, (m0_3, (m0_4, (m0_5, m0_6)))))), (m1, (m2, (m3, m4))))))
def qbp_W0 (n : Nat) (s : (Bool × Int) × (DE × DE × DB × Int × Int × Int × Int) × DA × DA × DA × DA) : Option (Bool × (DE × DE × DB × Int × Int × Int × Int) × DA × DA × DA × DA) := loopS (fun s => qbp_B0 n s.1.1 s.1.2 s.2.1.1 s.2.1.2.1 s.2.1.2.2.1 s.2.1.2.2.2.1 s.2.1.2.2.2.2.1 s.2.1.2.2.2.2.2.1 s.2.1.2.2.2.2.2.2 s.2.2.1 s.2.2.2.1 s.2.2.2.2.1 s.2.2.2.2.2) n s
def qbp_B2 (n : Nat) (t2 : Bool) (t13 : Int) (m0 : DE) (m0_1 : DE) (m0_2 : DB) (m0_3 : Int) (m0_4 : Int) (m0_5 : Int) (m0_6 : Int) (m1 : DA) (m2 : DA) (m3 : DA) (m4 : DA) : Option (((Bool × Int) × (DE × DE × DB × Int × Int × Int × Int) × DA × DA × DA × DA) ⊕ (Bool × (DE × DE × DB × Int × Int × Int × Int) × DA × DA × DA × DA)) :=
 bif (decide (t13 < (lenI m0_1))) then
 (getI m0_1 t13).bind fun x298 =>
 (qbm n x298.1).bind fun r299 =>
 (qbm n x298.2.1).bind fun r300 =>
 (qbu n t2 (r299 :: (r300 :: ([] : DC)))).bind fun r301 =>
 bif (Nat.ble (List.length (m3 ++ r301)) 4294967296) then
 (qbx n t2 x298.2.2.1).bind fun r302 =>
 bif (Nat.ble (List.length ((m3 ++ r301) ++ r302)) 4294967296) then
 (qbu n t2 ((cvtI .u64 (lenI x298.2.2.2)) :: ([] : DC))).bind fun r303 =>
 bif (Nat.ble (List.length (((m3 ++ r301) ++ r302) ++ r303)) 4294967296) then
 bif (Nat.ble (List.length ((((m3 ++ r301) ++ r302) ++ r303) ++ x298.2.2.2)) 4294967296) then
 some (Sum.inl ((t2, (addI .i64 t13 1)), ((m0, (m0_1, (m0_2, (m0_3, (m0_4, (m0_5, m0_6)))))), (m1, (m2, (((((m3 ++ r301) ++ r302) ++ r303) ++ x298.2.2.2), m4))))))
 else none
 else none
 else none
 else none
 else
 some (Sum.inr (t2, ((m0, (m0_1, (m0_2, (m0_3, (m0_4, (m0_5, m0_6)))))), (m1, (m2, (m3, m4))))))
def qbp_W2 (n : Nat) (s : (Bool × Int) × (DE × DE × DB × Int × Int × Int × Int) × DA × DA × DA × DA) : Option (Bool × (DE × DE × DB × Int × Int × Int × Int) × DA × DA × DA × DA) := loopS (fun s => qbp_B2 n s.1.1 s.1.2 s.2.1.1 s.2.1.2.1 s.2.1.2.2.1 s.2.1.2.2.2.1 s.2.1.2.2.2.2.1 s.2.1.2.2.2.2.2.1 s.2.1.2.2.2.2.2.2 s.2.2.1 s.2.2.2.1 s.2.2.2.2.1 s.2.2.2.2.2) n s
def qbp_B4 (n : Nat) (t2 : Bool) (t15 : Int) (m0 : DE) (m0_1 : DE) (m0_2 : DB) (m0_3 : Int) (m0_4 : Int) (m0_5 : Int) (m0_6 : Int) (m1 : DA) (m2 : DA) (m3 : DA) (m4 : DA) : Option (((Bool × Int) × (DE × DE × DB × Int × Int × Int × Int) × DA × DA × DA × DA) ⊕ (Bool × (DE × DE × DB × Int × Int × Int × Int) × DA × DA × DA × DA)) :=
 bif (decide (t15 < (lenI m0_2))) then
 (getI m0_2 t15).bind fun x311 =>
 bif x311.2.2 then
 (qbm n x311.1).bind fun r312 =>
 (qbu n t2 (r312 :: (x311.2.1 :: (1 :: ([] : DC))))).bind fun r313 =>
 bif (Nat.ble (List.length (m4 ++ r313)) 4294967296) then
 some (Sum.inl ((t2, (addI .i64 t15 1)), ((m0, (m0_1, (m0_2, (m0_3, (m0_4, (m0_5, m0_6)))))), (m1, (m2, (m3, (m4 ++ r313)))))))
 else none
 else
 (qbm n x311.1).bind fun r314 =>
 (qbu n t2 (r314 :: (x311.2.1 :: (0 :: ([] : DC))))).bind fun r315 =>
 bif (Nat.ble (List.length (m4 ++ r315)) 4294967296) then
 some (Sum.inl ((t2, (addI .i64 t15 1)), ((m0, (m0_1, (m0_2, (m0_3, (m0_4, (m0_5, m0_6)))))), (m1, (m2, (m3, (m4 ++ r315)))))))
 else none
 else
 some (Sum.inr (t2, ((m0, (m0_1, (m0_2, (m0_3, (m0_4, (m0_5, m0_6)))))), (m1, (m2, (m3, m4))))))
def qbp_W4 (n : Nat) (s : (Bool × Int) × (DE × DE × DB × Int × Int × Int × Int) × DA × DA × DA × DA) : Option (Bool × (DE × DE × DB × Int × Int × Int × Int) × DA × DA × DA × DA) := loopS (fun s => qbp_B4 n s.1.1 s.1.2 s.2.1.1 s.2.1.2.1 s.2.1.2.2.1 s.2.1.2.2.2.1 s.2.1.2.2.2.2.1 s.2.1.2.2.2.2.2.1 s.2.1.2.2.2.2.2.2 s.2.2.1 s.2.2.2.1 s.2.2.2.2.1 s.2.2.2.2.2) n s
def qcc_B2 (n : Nat) (b_0 : DA) (n_3 : Int) (i_4 : Int) (k_5 : Int) : Option ((DA × Int × Int × Int) ⊕ (DA × Int × Int)) :=
 bif (decide (k_5 < 8)) then
 bif ((remI n_3 2) == 1) then
 some (Sum.inl (b_0, ((xorI .u32 (quoI .u32 n_3 2) 3988292384), (i_4, (addI .i64 k_5 1)))))
 else
 some (Sum.inl (b_0, ((quoI .u32 n_3 2), (i_4, (addI .i64 k_5 1)))))
 else
 some (Sum.inr (b_0, (n_3, i_4)))
def qcc_W2 (n : Nat) (s : DA × Int × Int × Int) : Option (DA × Int × Int) := loopS (fun s => qcc_B2 n s.1 s.2.1 s.2.2.1 s.2.2.2) n s
def qcc_B0 (n : Nat) (b_0 : DA) (n_3 : Int) (i_4 : Int) : Option ((DA × Int × Int) ⊕ (Int)) :=
 bif (decide (i_4 < (lenI b_0))) then
 (getI b_0 i_4).bind fun x328 =>
 (qcc_W2 n (b_0, ((xorI .u32 n_3 (cvtI .u32 x328)), (i_4, 0)))).bind fun r329 =>
 some (Sum.inl (r329.1, (r329.2.1, (addI .i64 r329.2.2 1))))
 else
 some (Sum.inr n_3)
def qcc_W0 (n : Nat) (s : DA × Int × Int) : Option (Int) := loopS (fun s => qcc_B0 n s.1 s.2.1 s.2.2) n s
def qcc (n : Nat) (b_0 : DA) : Option (Int) :=
 (qcc_W0 n (b_0, (4294967295, 0))).bind fun r330 =>
 some (notI .u32 r330)
def qca (n : Nat) (b_0 : DA) : Option DA :=
 bif (Nat.ble (List.length b_0) 4294967296) then
 (qcc n b_0).bind fun r332 =>
 (qbt n (cvtI .u64 r332) 4).bind fun r333 =>
 bif (Nat.ble (List.length (b_0 ++ r333)) 4294967296) then
 some (b_0 ++ r333)
 else none
 else none
def qbp (n : Nat) (t0 : DE) (t0_1 : DE) (t0_2 : DB) (t0_3 : Int) (t0_4 : Int) (t0_5 : Int) (t0_6 : Int) (t1 : Int) (t2 : Bool) : Option DA :=
 bif t2 then
 (qbt n (cvtI .u64 t1) 4).bind fun r334 =>
 bif (Nat.ble (List.length ((List.set (2 :: ([] : DC)) 0 1) ++ r334)) 4294967296) then
 (qbm n t0_5).bind fun r335 =>
 (qbm n t0_3).bind fun r336 =>
 (qbm n t0_4).bind fun r337 =>
 (qbu n t2 (r335 :: (r336 :: (r337 :: (t0_6 :: ([] : DC)))))).bind fun r338 =>
 bif (Nat.ble (List.length (((List.set (2 :: ([] : DC)) 0 1) ++ r334) ++ r338)) 4294967296) then
 (qbp_W0 n ((t2, 0), ((t0, (t0_1, (t0_2, (t0_3, (t0_4, (t0_5, t0_6)))))), ((((List.set (2 :: ([] : DC)) 0 1) ++ r334) ++ r338), (([] : DC), (([] : DC), ([] : DC))))))).bind fun r339 =>
 (qbp_W2 n ((r339.1, 0), ((r339.2.1.1, (r339.2.1.2.1, (r339.2.1.2.2.1, (r339.2.1.2.2.2.1, (r339.2.1.2.2.2.2.1, (r339.2.1.2.2.2.2.2.1, r339.2.1.2.2.2.2.2.2)))))), (r339.2.2.1, (r339.2.2.2.1, (r339.2.2.2.2.1, r339.2.2.2.2.2)))))).bind fun r340 =>
 (qbp_W4 n ((r340.1, 0), ((r340.2.1.1, (r340.2.1.2.1, (r340.2.1.2.2.1, (r340.2.1.2.2.2.1, (r340.2.1.2.2.2.2.1, (r340.2.1.2.2.2.2.2.1, r340.2.1.2.2.2.2.2.2)))))), (r340.2.2.1, (r340.2.2.2.1, (r340.2.2.2.2.1, r340.2.2.2.2.2)))))).bind fun r341 =>
 (qbu n r341.1 ((cvtI .u64 (lenI r341.2.1.1)) :: ([] : DC))).bind fun r342 =>
 bif (Nat.ble (List.length (r342 ++ r341.2.2.2.1)) 4294967296) then
 (qbu n r341.1 ((cvtI .u64 (lenI r341.2.1.2.1)) :: ([] : DC))).bind fun r343 =>
 bif (Nat.ble (List.length (r343 ++ r341.2.2.2.2.1)) 4294967296) then
 (qbu n r341.1 ((cvtI .u64 (lenI r341.2.1.2.2.1)) :: ([] : DC))).bind fun r344 =>
 bif (Nat.ble (List.length (r344 ++ r341.2.2.2.2.2)) 4294967296) then
 bif r341.1 then
 bif (Nat.ble (List.length (r341.2.2.1 ++ (r344 ++ r341.2.2.2.2.2))) 4294967296) then
 bif (Nat.ble (List.length ((r341.2.2.1 ++ (r344 ++ r341.2.2.2.2.2)) ++ (r342 ++ r341.2.2.2.1))) 4294967296) then
 bif (Nat.ble (List.length (((r341.2.2.1 ++ (r344 ++ r341.2.2.2.2.2)) ++ (r342 ++ r341.2.2.2.1)) ++ (r343 ++ r341.2.2.2.2.1))) 4294967296) then
 (qca n (((r341.2.2.1 ++ (r344 ++ r341.2.2.2.2.2)) ++ (r342 ++ r341.2.2.2.1)) ++ (r343 ++ r341.2.2.2.2.1))).bind fun r345 =>
 some r345
 else none
 else none
 else none
 else
 bif (Nat.ble (List.length (r341.2.2.1 ++ (r342 ++ r341.2.2.2.1))) 4294967296) then
 bif (Nat.ble (List.length ((r341.2.2.1 ++ (r342 ++ r341.2.2.2.1)) ++ (r343 ++ r341.2.2.2.2.1))) 4294967296) then
 bif (Nat.ble (List.length (((r341.2.2.1 ++ (r342 ++ r341.2.2.2.1)) ++ (r343 ++ r341.2.2.2.2.1)) ++ (r344 ++ r341.2.2.2.2.2))) 4294967296) then
 (qca n (((r341.2.2.1 ++ (r342 ++ r341.2.2.2.1)) ++ (r343 ++ r341.2.2.2.2.1)) ++ (r344 ++ r341.2.2.2.2.2))).bind fun r346 =>
 some r346
 else none
 else none
 else none
 else none
 else none
 else none
 else none
 else none
 else
 (qbt n (cvtI .u64 t1) 4).bind fun r347 =>
 bif (Nat.ble (List.length ((2 :: ([] : DC)) ++ r347)) 4294967296) then
 (qbm n t0_5).bind fun r348 =>
 (qbm n t0_3).bind fun r349 =>
 (qbm n t0_4).bind fun r350 =>
 (qbu n t2 (r348 :: (r349 :: (r350 :: (t0_6 :: ([] : DC)))))).bind fun r351 =>
 bif (Nat.ble (List.length (((2 :: ([] : DC)) ++ r347) ++ r351)) 4294967296) then
 (qbp_W0 n ((t2, 0), ((t0, (t0_1, (t0_2, (t0_3, (t0_4, (t0_5, t0_6)))))), ((((2 :: ([] : DC)) ++ r347) ++ r351), (([] : DC), (([] : DC), ([] : DC))))))).bind fun r352 =>
 (qbp_W2 n ((r352.1, 0), ((r352.2.1.1, (r352.2.1.2.1, (r352.2.1.2.2.1, (r352.2.1.2.2.2.1, (r352.2.1.2.2.2.2.1, (r352.2.1.2.2.2.2.2.1, r352.2.1.2.2.2.2.2.2)))))), (r352.2.2.1, (r352.2.2.2.1, (r352.2.2.2.2.1, r352.2.2.2.2.2)))))).bind fun r353 =>
 (qbp_W4 n ((r353.1, 0), ((r353.2.1.1, (r353.2.1.2.1, (r353.2.1.2.2.1, (r353.2.1.2.2.2.1, (r353.2.1.2.2.2.2.1, (r353.2.1.2.2.2.2.2.1, r353.2.1.2.2.2.2.2.2)))))), (r353.2.2.1, (r353.2.2.2.1, (r353.2.2.2.2.1, r353.2.2.2.2.2)))))).bind fun r354 =>
 (qbu n r354.1 ((cvtI .u64 (lenI r354.2.1.1)) :: ([] : DC))).bind fun r355 =>
 bif (Nat.ble (List.length (r355 ++ r354.2.2.2.1)) 4294967296) then
 (qbu n r354.1 ((cvtI .u64 (lenI r354.2.1.2.1)) :: ([] : DC))).bind fun r356 =>
 bif (Nat.ble (List.length (r356 ++ r354.2.2.2.2.1)) 4294967296) then
 (qbu n r354.1 ((cvtI .u64 (lenI r354.2.1.2.2.1)) :: ([] : DC))).bind fun r357 =>
 bif (Nat.ble (List.length (r357 ++ r354.2.2.2.2.2)) 4294967296) then
 bif r354.1 then
 bif (Nat.ble (List.length (r354.2.2.1 ++ (r357 ++ r354.2.2.2.2.2))) 4294967296) then
 bif (Nat.ble (List.length ((r354.2.2.1 ++ (r357 ++ r354.2.2.2.2.2)) ++ (r355 ++ r354.2.2.2.1))) 4294967296) then
 bif (Nat.ble (List.length (((r354.2.2.1 ++ (r357 ++ r354.2.2.2.2.2)) ++ (r355 ++ r354.2.2.2.1)) ++ (r356 ++ r354.2.2.2.2.1))) 4294967296) then
 (qca n (((r354.2.2.1 ++ (r357 ++ r354.2.2.2.2.2)) ++ (r355 ++ r354.2.2.2.1)) ++ (r356 ++ r354.2.2.2.2.1))).bind fun r358 =>
 some r358
 else none
 else none
 else none
 else
 bif (Nat.ble (List.length (r354.2.2.1 ++ (r355 ++ r354.2.2.2.1))) 4294967296) then
 bif (Nat.ble (List.length ((r354.2.2.1 ++ (r355 ++ r354.2.2.2.1)) ++ (r356 ++ r354.2.2.2.2.1))) 4294967296) then
 bif (Nat.ble (List.length (((r354.2.2.1 ++ (r355 ++ r354.2.2.2.1)) ++ (r356 ++ r354.2.2.2.2.1)) ++ (r357 ++ r354.2.2.2.2.2))) 4294967296) then
 (qca n (((r354.2.2.1 ++ (r355 ++ r354.2.2.2.1)) ++ (r356 ++ r354.2.2.2.2.1)) ++ (r357 ++ r354.2.2.2.2.2))).bind fun r359 =>
 some r359
 else none
 else none
 else none
 else none
 else none
 else none
 else none
 else none
def qby_B0 (n : Nat) (a_0 : DA) (b_1 : DA) (i_5 : Int) : Option ((DA × DA × Int) ⊕ ((Bool) ⊕ (Unit))) :=
 bif (decide (i_5 < (lenI a_0))) then
 (getI a_0 i_5).bind fun x364 =>
 (getI b_1 i_5).bind fun x365 =>
 bif (x364 != x365) then
 some (Sum.inr (Sum.inl false))
 else
 some (Sum.inl (a_0, (b_1, (addI .i64 i_5 1))))
 else
 some (Sum.inr (Sum.inr ()))
def qby_W0 (n : Nat) (s : DA × DA × Int) : Option ((Bool) ⊕ (Unit)) := loopS (fun s => qby_B0 n s.1 s.2.1 s.2.2) n s
def qby (n : Nat) (a_0 : DA) (b_1 : DA) : Option (Bool) :=
 bif ((lenI a_0) != (lenI b_1)) then
 some false
 else
 (qby_W0 n (a_0, (b_1, 0))).bind fun r366 =>
 Sum.rec (fun u367 =>
 some u367) (fun v368 =>
 some true) r366
def qbn_B0 (n : Nat) (t4 : Int) (m0 : DE) (m0_1 : DE) (m0_2 : DB) (m0_3 : Int) (m0_4 : Int) (m0_5 : Int) (m0_6 : Int) (m1 : DA) : Option ((Int × (DE × DE × DB × Int × Int × Int × Int) × DA) ⊕ ((DE × DE × DB × Int × Int × Int × Int) × DA)) :=
 bif (decide (t4 < (lenI m0))) then
 (getI m0 t4).bind fun x380 =>
 (getI m0 t4).bind fun x381 =>
 bif (Nat.ble (List.length (m1 ++ (x380.1 :: (x381.2.1 :: ([] : DC))))) 4294967296) then
 some (Sum.inl ((addI .i64 t4 1), ((m0, (m0_1, (m0_2, (m0_3, (m0_4, (m0_5, m0_6)))))), (m1 ++ (x380.1 :: (x381.2.1 :: ([] : DC)))))))
 else none
 else
 some (Sum.inr ((m0, (m0_1, (m0_2, (m0_3, (m0_4, (m0_5, m0_6)))))), m1))
def qbn_W0 (n : Nat) (s : Int × (DE × DE × DB × Int × Int × Int × Int) × DA) : Option ((DE × DE × DB × Int × Int × Int × Int) × DA) := loopS (fun s => qbn_B0 n s.1 s.2.1.1 s.2.1.2.1 s.2.1.2.2.1 s.2.1.2.2.2.1 s.2.1.2.2.2.2.1 s.2.1.2.2.2.2.2.1 s.2.1.2.2.2.2.2.2 s.2.2) n s
def qbn_B2 (n : Nat) (t5 : Int) (m0 : DE) (m0_1 : DE) (m0_2 : DB) (m0_3 : Int) (m0_4 : Int) (m0_5 : Int) (m0_6 : Int) (m1 : DA) : Option ((Int × (DE × DE × DB × Int × Int × Int × Int) × DA) ⊕ ((DE × DE × DB × Int × Int × Int × Int) × DA)) :=
 bif (decide (t5 < (lenI m0_1))) then
 (getI m0_1 t5).bind fun x383 =>
 (getI m0_1 t5).bind fun x384 =>
 bif (Nat.ble (List.length (m1 ++ (x383.1 :: (x384.2.1 :: ([] : DC))))) 4294967296) then
 some (Sum.inl ((addI .i64 t5 1), ((m0, (m0_1, (m0_2, (m0_3, (m0_4, (m0_5, m0_6)))))), (m1 ++ (x383.1 :: (x384.2.1 :: ([] : DC)))))))
 else none
 else
 some (Sum.inr ((m0, (m0_1, (m0_2, (m0_3, (m0_4, (m0_5, m0_6)))))), m1))
def qbn_W2 (n : Nat) (s : Int × (DE × DE × DB × Int × Int × Int × Int) × DA) : Option ((DE × DE × DB × Int × Int × Int × Int) × DA) := loopS (fun s => qbn_B2 n s.1 s.2.1.1 s.2.1.2.1 s.2.1.2.2.1 s.2.1.2.2.2.1 s.2.1.2.2.2.2.1 s.2.1.2.2.2.2.2.1 s.2.1.2.2.2.2.2.2 s.2.2) n s
def qbn_B4 (n : Nat) (t6 : Int) (m0 : DE) (m0_1 : DE) (m0_2 : DB) (m0_3 : Int) (m0_4 : Int) (m0_5 : Int) (m0_6 : Int) (m1 : DA) : Option ((Int × (DE × DE × DB × Int × Int × Int × Int) × DA) ⊕ ((DE × DE × DB × Int × Int × Int × Int) × DA)) :=
 bif (decide (t6 < (lenI m0_2))) then
 (getI m0_2 t6).bind fun x387 =>
 bif (Nat.ble (List.length (m1 ++ (x387.1 :: ([] : DC)))) 4294967296) then
 some (Sum.inl ((addI .i64 t6 1), ((m0, (m0_1, (m0_2, (m0_3, (m0_4, (m0_5, m0_6)))))), (m1 ++ (x387.1 :: ([] : DC))))))
 else none
 else
 some (Sum.inr ((m0, (m0_1, (m0_2, (m0_3, (m0_4, (m0_5, m0_6)))))), m1))
def qbn_W4 (n : Nat) (s : Int × (DE × DE × DB × Int × Int × Int × Int) × DA) : Option ((DE × DE × DB × Int × Int × Int × Int) × DA) := loopS (fun s => qbn_B4 n s.1 s.2.1.1 s.2.1.2.1 s.2.1.2.2.1 s.2.1.2.2.2.1 s.2.1.2.2.2.2.1 s.2.1.2.2.2.2.2.1 s.2.1.2.2.2.2.2.2 s.2.2) n s
def qbn_B6 (n : Nat) (t7 : Int) (m0 : DA) : Option ((Int × DA) ⊕ ((Bool × DA) ⊕ DA)) :=
 bif (decide (t7 < (lenI m0))) then
 bif ((decide (0 ≤ t7)) && (decide (t7 < (((List.length m0) : Nat) : Int)))) then
 (m0[(Int.toNat t7)]?).bind fun x391 =>
 bif (decide (x391 < 0)) then
 some (Sum.inr (Sum.inl (false, m0)))
 else
 bif ((decide (0 ≤ t7)) && (decide (t7 < (((List.length m0) : Nat) : Int)))) then
 (m0[(Int.toNat t7)]?).bind fun x392 =>
 bif (decide (x392 > 2147483647)) then
 some (Sum.inr (Sum.inl (false, m0)))
 else
 some (Sum.inl ((addI .i64 t7 1), m0))
 else none
 else none
 else
 some (Sum.inr (Sum.inr m0))
def qbn_W6 (n : Nat) (s : Int × DA) : Option ((Bool × DA) ⊕ DA) := loopS (fun s => qbn_B6 n s.1 s.2) n s
def qbn (n : Nat) (t0 : DE) (t0_1 : DE) (t0_2 : DB) (t0_3 : Int) (t0_4 : Int) (t0_5 : Int) (t0_6 : Int) : Option (Bool) :=
 (qbn_W0 n (0, ((t0, (t0_1, (t0_2, (t0_3, (t0_4, (t0_5, t0_6)))))), (t0_5 :: (t0_3 :: (t0_4 :: ([] : DC))))))).bind fun r393 =>
 (qbn_W2 n (0, ((r393.1.1, (r393.1.2.1, (r393.1.2.2.1, (r393.1.2.2.2.1, (r393.1.2.2.2.2.1, (r393.1.2.2.2.2.2.1, r393.1.2.2.2.2.2.2)))))), r393.2))).bind fun r394 =>
 (qbn_W4 n (0, ((r394.1.1, (r394.1.2.1, (r394.1.2.2.1, (r394.1.2.2.2.1, (r394.1.2.2.2.2.1, (r394.1.2.2.2.2.2.1, r394.1.2.2.2.2.2.2)))))), r394.2))).bind fun r395 =>
 (qbn_W6 n (0, r395.2)).bind fun r396 =>
 Sum.rec (fun u397 =>
 some u397.1) (fun v398 =>
 some true) r396
def qbq_B0 (n : Nat) (a_0 : DA) (b_1 : DA) (i_5 : Int) : Option ((DA × DA × Int) ⊕ ((Bool) ⊕ (Unit))) :=
 bif (decide (i_5 < (lenI a_0))) then
 (getI a_0 i_5).bind fun x411 =>
 (getI b_1 i_5).bind fun x412 =>
 bif (x411 != x412) then
 some (Sum.inr (Sum.inl false))
 else
 some (Sum.inl (a_0, (b_1, (addI .i64 i_5 1))))
 else
 some (Sum.inr (Sum.inr ()))
def qbq_W0 (n : Nat) (s : DA × DA × Int) : Option ((Bool) ⊕ (Unit)) := loopS (fun s => qbq_B0 n s.1 s.2.1 s.2.2) n s
def qbq (n : Nat) (a_0 : DA) (b_1 : DA) : Option (Bool) :=
 bif ((lenI a_0) != (lenI b_1)) then
 some false
 else
 (qbq_W0 n (a_0, (b_1, 0))).bind fun r413 =>
 Sum.rec (fun u414 =>
 some u414) (fun v415 =>
 some true) r413
def qbk_B0 (n : Nat) (t5 : Int) (m0 : DE) (m0_1 : DE) (m0_2 : DB) (m0_3 : Int) (m0_4 : Int) (m0_5 : Int) (m0_6 : Int) (m1 : DE) (m1_1 : DE) (m1_2 : DB) (m1_3 : Int) (m1_4 : Int) (m1_5 : Int) (m1_6 : Int) : Option ((Int × (DE × DE × DB × Int × Int × Int × Int) × DE × DE × DB × Int × Int × Int × Int) ⊕ ((Bool × (DE × DE × DB × Int × Int × Int × Int) × (DE × DE × DB × Int × Int × Int × Int) × (Int × Int × DA × DA) × Int × Int × DA × DA) ⊕ ((DE × DE × DB × Int × Int × Int × Int) × DE × DE × DB × Int × Int × Int × Int))) :=
 bif (decide (t5 < (lenI m0))) then
 (getI m0 t5).bind fun x416 =>
 (getI m1 t5).bind fun x417 =>
 bif (x416.1 != x417.1) then
 some (Sum.inr (Sum.inl (false, ((m0, (m0_1, (m0_2, (m0_3, (m0_4, (m0_5, m0_6)))))), ((m1, (m1_1, (m1_2, (m1_3, (m1_4, (m1_5, m1_6)))))), ((x416.1, (x416.2.1, (x416.2.2.1, x416.2.2.2))), (x417.1, (x417.2.1, (x417.2.2.1, x417.2.2.2)))))))))
 else
 bif (x416.2.1 != x417.2.1) then
 some (Sum.inr (Sum.inl (false, ((m0, (m0_1, (m0_2, (m0_3, (m0_4, (m0_5, m0_6)))))), ((m1, (m1_1, (m1_2, (m1_3, (m1_4, (m1_5, m1_6)))))), ((x416.1, (x416.2.1, (x416.2.2.1, x416.2.2.2))), (x417.1, (x417.2.1, (x417.2.2.1, x417.2.2.2)))))))))
 else
 (qbq n x416.2.2.1 x417.2.2.1).bind fun r418 =>
 bif (!r418) then
 some (Sum.inr (Sum.inl (false, ((m0, (m0_1, (m0_2, (m0_3, (m0_4, (m0_5, m0_6)))))), ((m1, (m1_1, (m1_2, (m1_3, (m1_4, (m1_5, m1_6)))))), ((x416.1, (x416.2.1, (x416.2.2.1, x416.2.2.2))), (x417.1, (x417.2.1, (x417.2.2.1, x417.2.2.2)))))))))
 else
 (qbq n x416.2.2.2 x417.2.2.2).bind fun r419 =>
 bif (!r419) then
 some (Sum.inr (Sum.inl (false, ((m0, (m0_1, (m0_2, (m0_3, (m0_4, (m0_5, m0_6)))))), ((m1, (m1_1, (m1_2, (m1_3, (m1_4, (m1_5, m1_6)))))), ((x416.1, (x416.2.1, (x416.2.2.1, x416.2.2.2))), (x417.1, (x417.2.1, (x417.2.2.1, x417.2.2.2)))))))))
 else
 some (Sum.inl ((addI .i64 t5 1), ((m0, (m0_1, (m0_2, (m0_3, (m0_4, (m0_5, m0_6)))))), (m1, (m1_1, (m1_2, (m1_3, (m1_4, (m1_5, m1_6)))))))))
 else
 some (Sum.inr (Sum.inr ((m0, (m0_1, (m0_2, (m0_3, (m0_4, (m0_5, m0_6)))))), (m1, (m1_1, (m1_2, (m1_3, (m1_4, (m1_5, m1_6)))))))))
def qbk_W0 (n : Nat) (s : Int × (DE × DE × DB × Int × Int × Int × Int) × DE × DE × DB × Int × Int × Int × Int) : Option ((Bool × (DE × DE × DB × Int × Int × Int × Int) × (DE × DE × DB × Int × Int × Int × Int) × (Int × Int × DA × DA) × Int × Int × DA × DA) ⊕ ((DE × DE × DB × Int × Int × Int × Int) × DE × DE × DB × Int × Int × Int × Int)) := loopS (fun s => qbk_B0 n s.1 s.2.1.1 s.2.1.2.1 s.2.1.2.2.1 s.2.1.2.2.2.1 s.2.1.2.2.2.2.1 s.2.1.2.2.2.2.2.1 s.2.1.2.2.2.2.2.2 s.2.2.1 s.2.2.2.1 s.2.2.2.2.1 s.2.2.2.2.2.1 s.2.2.2.2.2.2.1 s.2.2.2.2.2.2.2.1 s.2.2.2.2.2.2.2.2) n s
def qbv_B0 (n : Nat) (t0 : DE) (t1 : DE) (t5 : Int) : Option ((DE × DE × Int) ⊕ ((Bool) ⊕ (Unit))) :=
 bif (decide (t5 < (lenI t0))) then
 (getI t0 t5).bind fun x438 =>
 (getI t1 t5).bind fun x439 =>
 bif (x438.1 != x439.1) then
 some (Sum.inr (Sum.inl false))
 else
 (getI t0 t5).bind fun x440 =>
 (getI t1 t5).bind fun x441 =>
 bif (x440.2.1 != x441.2.1) then
 some (Sum.inr (Sum.inl false))
 else
 (getI t0 t5).bind fun x442 =>
 (getI t1 t5).bind fun x443 =>
 (qbq n x442.2.2.1 x443.2.2.1).bind fun r444 =>
 bif (!r444) then
 some (Sum.inr (Sum.inl false))
 else
 (getI t0 t5).bind fun x445 =>
 (getI t1 t5).bind fun x446 =>
 (qby n x445.2.2.2 x446.2.2.2).bind fun r447 =>
 bif (!r447) then
 some (Sum.inr (Sum.inl false))
 else
 some (Sum.inl (t0, (t1, (addI .i64 t5 1))))
 else
 some (Sum.inr (Sum.inr ()))
def qbv_W0 (n : Nat) (s : DE × DE × Int) : Option ((Bool) ⊕ (Unit)) := loopS (fun s => qbv_B0 n s.1 s.2.1 s.2.2) n s
def qbv (n : Nat) (t0 : DE) (t1 : DE) : Option (Bool) :=
 bif ((lenI t0) != (lenI t1)) then
 some false
 else
 (qbv_W0 n (t0, (t1, 0))).bind fun r448 =>
 Sum.rec (fun u449 =>
 some u449) (fun v450 =>
 some true) r448
def qbz_B0 (n : Nat) (a_0 : DB) (b_1 : DB) (i_5 : Int) : Option ((DB × DB × Int) ⊕ ((Bool) ⊕ (Unit))) :=
 bif (decide (i_5 < (lenI a_0))) then
 (getI a_0 i_5).bind fun x455 =>
 (getI b_1 i_5).bind fun x456 =>
 bif (!((x455.1 == x456.1) && ((x455.2.1 == x456.2.1) && (x455.2.2 == x456.2.2)))) then
 some (Sum.inr (Sum.inl false))
 else
 some (Sum.inl (a_0, (b_1, (addI .i64 i_5 1))))
 else
 some (Sum.inr (Sum.inr ()))
def qbz_W0 (n : Nat) (s : DB × DB × Int) : Option ((Bool) ⊕ (Unit)) := loopS (fun s => qbz_B0 n s.1 s.2.1 s.2.2) n s
def qbz (n : Nat) (a_0 : DB) (b_1 : DB) : Option (Bool) :=
 bif ((lenI a_0) != (lenI b_1)) then
 some false
 else
 (qbz_W0 n (a_0, (b_1, 0))).bind fun r457 =>
 Sum.rec (fun u458 =>
 some u458) (fun v459 =>
 some true) r457
def qbk (n : Nat) (t0 : DE) (t0_1 : DE) (t0_2 : DB) (t0_3 : Int) (t0_4 : Int) (t0_5 : Int) (t0_6 : Int) (t1 : DE) (t1_1 : DE) (t1_2 : DB) (t1_3 : Int) (t1_4 : Int) (t1_5 : Int) (t1_6 : Int) : Option (Bool) :=
 bif ((lenI t0) != (lenI t1)) then
 some false
 else
 bif (t0_3 != t1_3) then
 some false
 else
 bif (t0_4 != t1_4) then
 some false
 else
 bif (t0_5 != t1_5) then
 some false
 else
 bif (t0_6 != t1_6) then
 some false
 else
 (qbk_W0 n (0, ((t0, (t0_1, (t0_2, (t0_3, (t0_4, (t0_5, t0_6)))))), (t1, (t1_1, (t1_2, (t1_3, (t1_4, (t1_5, t1_6))))))))).bind fun r460 =>
 Sum.rec (fun u461 =>
 some u461.1) (fun v462 =>
 (qbv n v462.1.2.1 v462.2.2.1).bind fun r463 =>
 bif r463 then
 (qbz n v462.1.2.2.1 v462.2.2.2.1).bind fun r464 =>
 some r464
 else
 some false) r460
def law20ImageBack (n : Nat) (s_0 : DE) (s_0_1 : DE) (s_0_2 : DB) (s_0_3 : Int) (s_0_4 : Int) (s_0_5 : Int) (s_0_6 : Int) (print_1 : Int) : Option (Bool) :=
 (qbo n s_0 s_0_1 s_0_2 s_0_3 s_0_4 s_0_5 s_0_6).bind fun r465 =>
 bif (!r465) then
 (qbh n).bind fun r466 =>
 some r466
 else
 (qbl n s_0 s_0_1 s_0_2 s_0_3 s_0_4 s_0_5 s_0_6 print_1).bind fun r467 =>
 (qbp n s_0 s_0_1 s_0_2 s_0_3 s_0_4 s_0_5 s_0_6 print_1 Bool.false).bind fun r468 =>
 (qby n r467 r468).bind fun r469 =>
 bif (!r469) then
 some false
 else
 (qbi n r467).bind fun r470 =>
 (qbn n s_0 s_0_1 s_0_2 s_0_3 s_0_4 s_0_5 s_0_6).bind fun r471 =>
 bif (!r471) then
 (qbh n).bind fun r472 =>
 some r472
 else
 bif (decide ((lenI r467) > 65536)) then
 (qbh n).bind fun r473 =>
 some r473
 else
 (qbh n).bind fun r474 =>
 bif r474 then
 bif (r470.2.2 == 0) then
 bif (r470.2.1 == print_1) then
 (qbk n r470.1.1 r470.1.2.1 r470.1.2.2.1 r470.1.2.2.2.1 r470.1.2.2.2.2.1 r470.1.2.2.2.2.2.1 r470.1.2.2.2.2.2.2 s_0 s_0_1 s_0_2 s_0_3 s_0_4 s_0_5 s_0_6).bind fun r475 =>
 some r475
 else
 some false
 else
 some false
 else
 some false
def qbr_B0 (n : Nat) (t3 : Int) (t4 : Int) (m0 : DE) (m0_1 : DE) (m0_2 : DB) (m0_3 : Int) (m0_4 : Int) (m0_5 : Int) (m0_6 : Int) : Option (((Int × Int) × DE × DE × DB × Int × Int × Int × Int) ⊕ (Int × DE × DE × DB × Int × Int × Int × Int)) :=
 bif (decide (t4 < (lenI m0_1))) then
 (getI m0_1 t4).bind fun x626 =>
 (getI m0_1 t4).bind fun x627 =>
 some (Sum.inl (((addI .i64 (addI .i64 t3 (lenI x626.2.2.1)) (lenI x627.2.2.2)), (addI .i64 t4 1)), (m0, (m0_1, (m0_2, (m0_3, (m0_4, (m0_5, m0_6))))))))
 else
 some (Sum.inr (t3, (m0, (m0_1, (m0_2, (m0_3, (m0_4, (m0_5, m0_6))))))))
def qbr_W0 (n : Nat) (s : (Int × Int) × DE × DE × DB × Int × Int × Int × Int) : Option (Int × DE × DE × DB × Int × Int × Int × Int) := loopS (fun s => qbr_B0 n s.1.1 s.1.2 s.2.1 s.2.2.1 s.2.2.2.1 s.2.2.2.2.1 s.2.2.2.2.2.1 s.2.2.2.2.2.2.1 s.2.2.2.2.2.2.2) n s
def qbr_B2 (n : Nat) (t3 : Int) (t5 : Int) (m0 : DE) (m0_1 : DE) (m0_2 : DB) (m0_3 : Int) (m0_4 : Int) (m0_5 : Int) (m0_6 : Int) : Option (((Int × Int) × DE × DE × DB × Int × Int × Int × Int) ⊕ (Int × DE × DE × DB × Int × Int × Int × Int)) :=
 bif (decide (t5 < (lenI m0))) then
 (getI m0 t5).bind fun x629 =>
 (getI m0 t5).bind fun x630 =>
 some (Sum.inl (((addI .i64 (addI .i64 t3 (lenI x629.2.2.1)) (lenI x630.2.2.2)), (addI .i64 t5 1)), (m0, (m0_1, (m0_2, (m0_3, (m0_4, (m0_5, m0_6))))))))
 else
 some (Sum.inr (t3, (m0, (m0_1, (m0_2, (m0_3, (m0_4, (m0_5, m0_6))))))))
def qbr_W2 (n : Nat) (s : (Int × Int) × DE × DE × DB × Int × Int × Int × Int) : Option (Int × DE × DE × DB × Int × Int × Int × Int) := loopS (fun s => qbr_B2 n s.1.1 s.1.2 s.2.1 s.2.2.1 s.2.2.2.1 s.2.2.2.2.1 s.2.2.2.2.2.1 s.2.2.2.2.2.2.1 s.2.2.2.2.2.2.2) n s
def qbr (n : Nat) (t0 : DE) (t0_1 : DE) (t0_2 : DB) (t0_3 : Int) (t0_4 : Int) (t0_5 : Int) (t0_6 : Int) : Option (Bool) :=
 bif (decide ((addI .i64 (addI .i64 (lenI t0_1) (lenI t0_2)) (lenI t0)) > 300)) then
 some false
 else
 (qbr_W0 n (((addI .i64 (addI .i64 (lenI t0_1) (lenI t0_2)) (lenI t0)), 0), (t0, (t0_1, (t0_2, (t0_3, (t0_4, (t0_5, t0_6)))))))).bind fun r631 =>
 (qbr_W2 n ((r631.1, 0), (r631.2.1, (r631.2.2.1, (r631.2.2.2.1, (r631.2.2.2.2.1, (r631.2.2.2.2.2.1, (r631.2.2.2.2.2.2.1, r631.2.2.2.2.2.2.2)))))))).bind fun r632 =>
 some (decide (r632.1 < 3000))
def qch (n : Nat) (n_0 : Int) : Option (Int) :=
 some (cvtI .u64 (maxI n_0 0))
def qau_B0 (n : Nat) (t6 : DA) (t7 : Int) (t8 : Int) (m1 : DA) : Option (((DA × Int × Int) × DA) ⊕ DA) :=
 bif (decide (t8 < t7)) then
 (getI t6 t8).bind fun x641 =>
 (qcb n x641 8).bind fun r642 =>
 bif (Nat.ble (List.length (m1 ++ r642)) 4294967296) then
 some (Sum.inl ((t6, (t7, (addI .i64 t8 1))), (m1 ++ r642)))
 else none
 else
 some (Sum.inr m1)
def qau_W0 (n : Nat) (s : (DA × Int × Int) × DA) : Option DA := loopS (fun s => qau_B0 n s.1.1 s.1.2.1 s.1.2.2 s.2) n s
def qau (n : Nat) (list_1 : DA) (m1 : DA) : Option DA :=
 (qau_W0 n ((list_1, ((lenI list_1), 0)), m1)).bind fun r643 =>
 some r643
def qce (n : Nat) (yes_0 : Bool) : Option (Int) :=
 bif yes_0 then
 some 1
 else
 some 0
def qbw_B0 (n : Nat) (t38 : DB) (t39 : Int) (t40 : Int) (m0 : DE) (m0_1 : DE) (m0_2 : DB) (m0_3 : Int) (m0_4 : Int) (m0_5 : Int) (m0_6 : Int) (m2 : DA) : Option (((DB × Int × Int) × (DE × DE × DB × Int × Int × Int × Int) × DA) ⊕ ((DE × DE × DB × Int × Int × Int × Int) × DA)) :=
 bif (decide (t40 < t39)) then
 (getI t38 t40).bind fun x652 =>
 (qch n x652.1).bind fun r653 =>
 (qce n x652.2.2).bind fun r654 =>
 (qau n (r653 :: (x652.2.1 :: (r654 :: ([] : DC)))) m2).bind fun r655 =>
 some (Sum.inl ((t38, (t39, (addI .i64 t40 1))), ((m0, (m0_1, (m0_2, (m0_3, (m0_4, (m0_5, m0_6)))))), r655)))
 else
 some (Sum.inr ((m0, (m0_1, (m0_2, (m0_3, (m0_4, (m0_5, m0_6)))))), m2))
def qbw_W0 (n : Nat) (s : (DB × Int × Int) × (DE × DE × DB × Int × Int × Int × Int) × DA) : Option ((DE × DE × DB × Int × Int × Int × Int) × DA) := loopS (fun s => qbw_B0 n s.1.1 s.1.2.1 s.1.2.2 s.2.1.1 s.2.1.2.1 s.2.1.2.2.1 s.2.1.2.2.2.1 s.2.1.2.2.2.2.1 s.2.1.2.2.2.2.2.1 s.2.1.2.2.2.2.2.2 s.2.2) n s
def qbe (n : Nat) (list_1 : DA) (m1 : DA) : Option DA :=
 (qch n (lenI list_1)).bind fun r670 =>
 (qau n (r670 :: ([] : DC)) m1).bind fun r671 =>
 (qau n list_1 r671).bind fun r672 =>
 some r672
def qbw_B2 (n : Nat) (t64 : DE) (t65 : Int) (t66 : Int) (m0 : DE) (m0_1 : DE) (m0_2 : DB) (m0_3 : Int) (m0_4 : Int) (m0_5 : Int) (m0_6 : Int) (m2 : DA) : Option (((DE × Int × Int) × (DE × DE × DB × Int × Int × Int × Int) × DA) ⊕ ((DE × DE × DB × Int × Int × Int × Int) × DA)) :=
 bif (decide (t66 < t65)) then
 (getI t64 t66).bind fun x673 =>
 (qch n x673.1).bind fun r674 =>
 (qch n x673.2.1).bind fun r675 =>
 (qau n (r674 :: (r675 :: ([] : DC))) m2).bind fun r676 =>
 (qbe n x673.2.2.1 r676).bind fun r677 =>
 (qbe n x673.2.2.2 r677).bind fun r678 =>
 some (Sum.inl ((t64, (t65, (addI .i64 t66 1))), ((m0, (m0_1, (m0_2, (m0_3, (m0_4, (m0_5, m0_6)))))), r678)))
 else
 some (Sum.inr ((m0, (m0_1, (m0_2, (m0_3, (m0_4, (m0_5, m0_6)))))), m2))
def qbw_W2 (n : Nat) (s : (DE × Int × Int) × (DE × DE × DB × Int × Int × Int × Int) × DA) : Option ((DE × DE × DB × Int × Int × Int × Int) × DA) := loopS (fun s => qbw_B2 n s.1.1 s.1.2.1 s.1.2.2 s.2.1.1 s.2.1.2.1 s.2.1.2.2.1 s.2.1.2.2.2.1 s.2.1.2.2.2.2.1 s.2.1.2.2.2.2.2.1 s.2.1.2.2.2.2.2.2 s.2.2) n s
def qbw_B4 (n : Nat) (t96 : DE) (t97 : Int) (t98 : Int) (m1 : DA) : Option (((DE × Int × Int) × DA) ⊕ DA) :=
 bif (decide (t98 < t97)) then
 (getI t96 t98).bind fun x691 =>
 (qch n x691.1).bind fun r692 =>
 (qch n x691.2.1).bind fun r693 =>
 (qau n (r692 :: (r693 :: ([] : DC))) m1).bind fun r694 =>
 (qbe n x691.2.2.1 r694).bind fun r695 =>
 (qch n (lenI x691.2.2.2)).bind fun r696 =>
 (qau n (r696 :: ([] : DC)) r695).bind fun r697 =>
 bif (Nat.ble (List.length (r697 ++ x691.2.2.2)) 4294967296) then
 some (Sum.inl ((t96, (t97, (addI .i64 t98 1))), (r697 ++ x691.2.2.2)))
 else none
 else
 some (Sum.inr m1)
def qbw_W4 (n : Nat) (s : (DE × Int × Int) × DA) : Option DA := loopS (fun s => qbw_B4 n s.1.1 s.1.2.1 s.1.2.2 s.2) n s
def qbw (n : Nat) (t0 : DE) (t0_1 : DE) (t0_2 : DB) (t0_3 : Int) (t0_4 : Int) (t0_5 : Int) (t0_6 : Int) (t1 : Int) : Option DA :=
 (qcb n (cvtI .u64 t1) 4).bind fun r711 =>
 bif (Nat.ble (List.length ((1 :: ([] : DC)) ++ r711)) 4294967296) then
 (qch n t0_5).bind fun r712 =>
 (qch n t0_3).bind fun r713 =>
 (qch n t0_4).bind fun r714 =>
 (qch n (lenI t0_2)).bind fun r715 =>
 (qau n (r712 :: (r713 :: (r714 :: (t0_6 :: (r715 :: ([] : DC)))))) ((1 :: ([] : DC)) ++ r711)).bind fun r716 =>
 (qbw_W0 n ((t0_2, ((lenI t0_2), 0)), ((t0, (t0_1, (t0_2, (t0_3, (t0_4, (t0_5, t0_6)))))), r716))).bind fun r717 =>
 (qch n (lenI r717.1.1)).bind fun r718 =>
 (qau n (r718 :: ([] : DC)) r717.2).bind fun r719 =>
 (qbw_W2 n ((r717.1.1, ((lenI r717.1.1), 0)), ((r717.1.1, (r717.1.2.1, (r717.1.2.2.1, (r717.1.2.2.2.1, (r717.1.2.2.2.2.1, (r717.1.2.2.2.2.2.1, r717.1.2.2.2.2.2.2)))))), r719))).bind fun r720 =>
 (qch n (lenI r720.1.2.1)).bind fun r721 =>
 (qau n (r721 :: ([] : DC)) r720.2).bind fun r722 =>
 (qbw_W4 n ((r720.1.2.1, ((lenI r720.1.2.1), 0)), r722)).bind fun r723 =>
 (qcg n r723).bind fun r724 =>
 some r724
 else none
def qo (n : Nat) (n_1 : Int) : Option (Empty) :=
 (qz n (minI (maxI n_1 0) 8)).bind fun r729 =>
 none
def qaz (n : Nat) (m0 : Bool) : Option (Empty) :=
 (qo n 8).bind fun r730 =>
 none
def qbd (n : Nat) (m0 : Bool) : Option (Empty) :=
 (qaz n m0).bind fun r731 =>
 none
def qaf (n : Nat) (m0 : Bool) : Option (Empty) :=
 (qbd n m0).bind fun r732 =>
 none
def qao (n : Nat) (m0 : Bool) (m1 : DA) (m1_1 : Bool) : Option (Int × Bool × DA × Bool) :=
 (qai n 8 m1 m1_1).bind fun r737 =>
 some (r737.1, (m0, (r737.2.1, r737.2.2)))
def qag (n : Nat) (m0 : Bool) (m1 : DA) (m1_1 : Bool) : Option (Int × Bool × DA × Bool) :=
 (qao n m0 m1 m1_1).bind fun r738 =>
 bif (decide (r738.1 > 2147483647)) then
 some (0, (true, (r738.2.2.1, r738.2.2.2)))
 else
 some ((cvtI .i64 r738.1), (r738.2.1, (r738.2.2.1, r738.2.2.2)))
def qx (n : Nat) (m1 : Int) (m1_1 : Int) (m1_2 : Int) (m1_3 : Int) (m2 : Bool) (m3 : DA) (m3_1 : Bool) : Option ((Int × Int × Int × Int) × Bool × (DA × Bool) × DB) :=
 (qag n m2 m3 m3_1).bind fun r749 =>
 (qao n r749.2.1 r749.2.2.1 r749.2.2.2).bind fun r750 =>
 (qag n r750.2.1 r750.2.2.1 r750.2.2.2).bind fun r751 =>
 bif r751.2.1 then
 bif (Nat.ble (List.length ((r749.1, (r750.1, (r751.1 == 1))) :: ([] : List ((Int) × (Int) × Bool)))) 4294967296) then
 some ((m1, (m1_1, (m1_2, m1_3))), (true, ((r751.2.2.1, r751.2.2.2), ((r749.1, (r750.1, (r751.1 == 1))) :: ([] : List ((Int) × (Int) × Bool))))))
 else none
 else
 bif (Nat.ble (List.length ((r749.1, (r750.1, (r751.1 == 1))) :: ([] : List ((Int) × (Int) × Bool)))) 4294967296) then
 some ((m1, (m1_1, (m1_2, m1_3))), ((decide (r751.1 > 1)), ((r751.2.2.1, r751.2.2.2), ((r749.1, (r750.1, (r751.1 == 1))) :: ([] : List ((Int) × (Int) × Bool))))))
 else none
def qc (n : Nat) (m1 : Int) (m1_1 : Int) (m1_2 : Int) (m1_3 : Int) (m2 : Bool) (m3 : DB) (m4 : DA) (m4_1 : Bool) : Option ((Int × Int × Int × Int) × Bool × DB × DA × Bool) :=
 (qag n m2 m4 m4_1).bind fun r756 =>
 (qao n r756.2.1 r756.2.2.1 r756.2.2.2).bind fun r757 =>
 (qag n r757.2.1 r757.2.2.1 r757.2.2.2).bind fun r758 =>
 bif r758.2.1 then
 bif (Nat.ble (List.length (m3 ++ ((r756.1, (r757.1, (r758.1 == 1))) :: ([] : List ((Int) × (Int) × Bool))))) 4294967296) then
 some ((m1, (m1_1, (m1_2, m1_3))), (true, ((m3 ++ ((r756.1, (r757.1, (r758.1 == 1))) :: ([] : List ((Int) × (Int) × Bool)))), (r758.2.2.1, r758.2.2.2))))
 else none
 else
 bif (Nat.ble (List.length (m3 ++ ((r756.1, (r757.1, (r758.1 == 1))) :: ([] : List ((Int) × (Int) × Bool))))) 4294967296) then
 some ((m1, (m1_1, (m1_2, m1_3))), ((decide (r758.1 > 1)), ((m3 ++ ((r756.1, (r757.1, (r758.1 == 1))) :: ([] : List ((Int) × (Int) × Bool)))), (r758.2.2.1, r758.2.2.2))))
 else none
def qat_B0q0 (n : Nat) (n_4 : Int) (m0 : Bool) (m2 : Int) (m2_1 : Int) (m2_2 : Int) (m2_3 : Int) (m3 : DA) (m3_1 : Bool) : Option (((Int × Bool × (Int × Int × Int × Int) × DA × Bool) ⊕ (Int × Bool × (Int × Int × Int × Int) × (DA × Bool) × DB)) ⊕ ((Bool × (Int × Int × Int × Int) × DA × Bool) ⊕ (Bool × (Int × Int × Int × Int) × (DA × Bool) × DB))) :=
 bif (decide (n_4 > 0)) then
 bif (!m0) then
 (qbg n m3 m3_1).bind fun r752 =>
 bif (!r752.1) then
 (qx n m2 m2_1 m2_2 m2_3 m0 r752.2.1 r752.2.2).bind fun r753 =>
 some (Sum.inl (Sum.inr ((subI .i64 n_4 1), (r753.2.1, ((r753.1.1, (r753.1.2.1, (r753.1.2.2.1, r753.1.2.2.2))), ((r753.2.2.1.1, r753.2.2.1.2), r753.2.2.2))))))
 else
 some (Sum.inr (Sum.inl (m0, ((m2, (m2_1, (m2_2, m2_3))), (r752.2.1, r752.2.2)))))
 else
 some (Sum.inr (Sum.inl (m0, ((m2, (m2_1, (m2_2, m2_3))), (m3, m3_1)))))
 else
 some (Sum.inr (Sum.inl (m0, ((m2, (m2_1, (m2_2, m2_3))), (m3, m3_1)))))
def qat_B0q1 (n : Nat) (n_4 : Int) (m0 : Bool) (m2 : Int) (m2_1 : Int) (m2_2 : Int) (m2_3 : Int) (m3 : DA) (m3_1 : Bool) (m4 : DB) : Option (((Int × Bool × (Int × Int × Int × Int) × DA × Bool) ⊕ (Int × Bool × (Int × Int × Int × Int) × (DA × Bool) × DB)) ⊕ ((Bool × (Int × Int × Int × Int) × DA × Bool) ⊕ (Bool × (Int × Int × Int × Int) × (DA × Bool) × DB))) :=
 bif (decide (n_4 > 0)) then
 bif (!m0) then
 (qbg n m3 m3_1).bind fun r759 =>
 bif (!r759.1) then
 (qc n m2 m2_1 m2_2 m2_3 m0 m4 r759.2.1 r759.2.2).bind fun r760 =>
 some (Sum.inl (Sum.inr ((subI .i64 n_4 1), (r760.2.1, ((r760.1.1, (r760.1.2.1, (r760.1.2.2.1, r760.1.2.2.2))), ((r760.2.2.2.1, r760.2.2.2.2), r760.2.2.1))))))
 else
 some (Sum.inr (Sum.inr (m0, ((m2, (m2_1, (m2_2, m2_3))), ((r759.2.1, r759.2.2), m4)))))
 else
 some (Sum.inr (Sum.inr (m0, ((m2, (m2_1, (m2_2, m2_3))), ((m3, m3_1), m4)))))
 else
 some (Sum.inr (Sum.inr (m0, ((m2, (m2_1, (m2_2, m2_3))), ((m3, m3_1), m4)))))
def qat_M0 (n : Nat) (s : (Int × Bool × (Int × Int × Int × Int) × DA × Bool) ⊕ (Int × Bool × (Int × Int × Int × Int) × (DA × Bool) × DB)) : Option (((Int × Bool × (Int × Int × Int × Int) × DA × Bool) ⊕ (Int × Bool × (Int × Int × Int × Int) × (DA × Bool) × DB)) ⊕ ((Bool × (Int × Int × Int × Int) × DA × Bool) ⊕ (Bool × (Int × Int × Int × Int) × (DA × Bool) × DB))) := Sum.rec (fun a0 => qat_B0q0 n a0.1 a0.2.1 a0.2.2.1.1 a0.2.2.1.2.1 a0.2.2.1.2.2.1 a0.2.2.1.2.2.2 a0.2.2.2.1 a0.2.2.2.2) (fun b0 => qat_B0q1 n b0.1 b0.2.1 b0.2.2.1.1 b0.2.2.1.2.1 b0.2.2.1.2.2.1 b0.2.2.1.2.2.2 b0.2.2.2.1.1 b0.2.2.2.1.2 b0.2.2.2.2) s
def qat_W0 (n : Nat) (s : (Int × Bool × (Int × Int × Int × Int) × DA × Bool) ⊕ (Int × Bool × (Int × Int × Int × Int) × (DA × Bool) × DB)) : Option ((Bool × (Int × Int × Int × Int) × DA × Bool) ⊕ (Bool × (Int × Int × Int × Int) × (DA × Bool) × DB)) := loopS (qat_M0 n) n s
def qat (n : Nat) (m0 : Bool) (m2 : Int) (m2_1 : Int) (m2_2 : Int) (m2_3 : Int) (m3 : DA) (m3_1 : Bool) : Option ((Bool × (Int × Int × Int × Int) × DA × Bool) ⊕ (Bool × (Int × Int × Int × Int) × (DA × Bool) × DB)) :=
 (qag n m0 m3 m3_1).bind fun r761 =>
 (qat_W0 n (Sum.inl (r761.1, (r761.2.1, ((m2, (m2_1, (m2_2, m2_3))), (r761.2.2.1, r761.2.2.2)))))).bind fun r762 =>
 Sum.rec (fun u763 =>
 some (Sum.inl (u763.1, ((u763.2.1.1, (u763.2.1.2.1, (u763.2.1.2.2.1, u763.2.1.2.2.2))), (u763.2.2.1, u763.2.2.2))))) (fun v764 =>
 some (Sum.inr (v764.1, ((v764.2.1.1, (v764.2.1.2.1, (v764.2.1.2.2.1, v764.2.1.2.2.2))), ((v764.2.2.1.1, v764.2.2.1.2), v764.2.2.2))))) r762
def qbb_B0 (n : Nat) (n_4 : Int) (m0 : Bool) (m1 : DA) (m1_1 : Bool) (m2 : DA) : Option ((Int × Bool × (DA × Bool) × DA) ⊕ (Bool × (DA × Bool) × DA)) :=
 bif (decide (n_4 > 0)) then
 bif (!m0) then
 (qbg n m1 m1_1).bind fun r778 =>
 bif (!r778.1) then
 (qao n m0 r778.2.1 r778.2.2).bind fun r779 =>
 bif (Nat.ble (List.length (m2 ++ (r779.1 :: ([] : DC)))) 4294967296) then
 some (Sum.inl ((subI .i64 n_4 1), (r779.2.1, ((r779.2.2.1, r779.2.2.2), (m2 ++ (r779.1 :: ([] : DC)))))))
 else none
 else
 some (Sum.inr (m0, ((r778.2.1, r778.2.2), m2)))
 else
 some (Sum.inr (m0, ((m1, m1_1), m2)))
 else
 some (Sum.inr (m0, ((m1, m1_1), m2)))
def qbb_W0 (n : Nat) (s : Int × Bool × (DA × Bool) × DA) : Option (Bool × (DA × Bool) × DA) := loopS (fun s => qbb_B0 n s.1 s.2.1 s.2.2.1.1 s.2.2.1.2 s.2.2.2) n s
def qbb (n : Nat) (m0 : Bool) (m1 : DA) (m1_1 : Bool) : Option (DA × Bool × DA × Bool) :=
 (qag n m0 m1 m1_1).bind fun r780 =>
 (qbb_W0 n (r780.1, (r780.2.1, ((r780.2.2.1, r780.2.2.2), ([] : DC))))).bind fun r781 =>
 some (r781.2.2, (r781.1, (r781.2.1.1, r781.2.1.2)))
def qu (n : Nat) (m0 : Int) (m0_1 : Int) (m0_2 : Int) (m0_3 : Int) (m2 : Bool) (m3 : DA) (m3_1 : Bool) : Option ((Int × Int × Int × Int) × Bool × (DA × Bool) × DE) :=
 (qag n m2 m3 m3_1).bind fun r782 =>
 (qag n r782.2.1 r782.2.2.1 r782.2.2.2).bind fun r783 =>
 (qbb n r783.2.1 r783.2.2.1 r783.2.2.2).bind fun r784 =>
 (qbb n r784.2.1 r784.2.2.1 r784.2.2.2).bind fun r785 =>
 bif (Nat.ble (List.length ((r782.1, (r783.1, (r784.1, r785.1))) :: ([] : List ((Int) × (Int) × DA × DA)))) 4294967296) then
 some ((m0, (m0_1, (m0_2, m0_3))), (r785.2.1, ((r785.2.2.1, r785.2.2.2), ((r782.1, (r783.1, (r784.1, r785.1))) :: ([] : List ((Int) × (Int) × DA × DA))))))
 else none
def qg (n : Nat) (m0 : Int) (m0_1 : Int) (m0_2 : Int) (m0_3 : Int) (m2 : DE) (m3 : Bool) (m4 : DA) (m4_1 : Bool) : Option ((Int × Int × Int × Int) × DE × Bool × DA × Bool) :=
 (qag n m3 m4 m4_1).bind fun r791 =>
 (qag n r791.2.1 r791.2.2.1 r791.2.2.2).bind fun r792 =>
 (qbb n r792.2.1 r792.2.2.1 r792.2.2.2).bind fun r793 =>
 (qbb n r793.2.1 r793.2.2.1 r793.2.2.2).bind fun r794 =>
 bif (Nat.ble (List.length (m2 ++ ((r791.1, (r792.1, (r793.1, r794.1))) :: ([] : List ((Int) × (Int) × DA × DA))))) 4294967296) then
 some ((m0, (m0_1, (m0_2, m0_3))), ((m2 ++ ((r791.1, (r792.1, (r793.1, r794.1))) :: ([] : List ((Int) × (Int) × DA × DA)))), (r794.2.1, (r794.2.2.1, r794.2.2.2))))
 else none
def qab_B0q0 (n : Nat) (n_4 : Int) (m0 : Bool) (m1 : Int) (m1_1 : Int) (m1_2 : Int) (m1_3 : Int) (m3 : DA) (m3_1 : Bool) : Option (((Int × Bool × (Int × Int × Int × Int) × DA × Bool) ⊕ (Int × Bool × (Int × Int × Int × Int) × (DA × Bool) × DE)) ⊕ ((Bool × (Int × Int × Int × Int) × DA × Bool) ⊕ (Bool × (Int × Int × Int × Int) × (DA × Bool) × DE))) :=
 bif (decide (n_4 > 0)) then
 bif (!m0) then
 (qbg n m3 m3_1).bind fun r786 =>
 bif (!r786.1) then
 (qu n m1 m1_1 m1_2 m1_3 m0 r786.2.1 r786.2.2).bind fun r787 =>
 some (Sum.inl (Sum.inr ((subI .i64 n_4 1), (r787.2.1, ((r787.1.1, (r787.1.2.1, (r787.1.2.2.1, r787.1.2.2.2))), ((r787.2.2.1.1, r787.2.2.1.2), r787.2.2.2))))))
 else
 some (Sum.inr (Sum.inl (m0, ((m1, (m1_1, (m1_2, m1_3))), (r786.2.1, r786.2.2)))))
 else
 some (Sum.inr (Sum.inl (m0, ((m1, (m1_1, (m1_2, m1_3))), (m3, m3_1)))))
 else
 some (Sum.inr (Sum.inl (m0, ((m1, (m1_1, (m1_2, m1_3))), (m3, m3_1)))))
def qab_B0q1 (n : Nat) (n_4 : Int) (m0 : Bool) (m1 : Int) (m1_1 : Int) (m1_2 : Int) (m1_3 : Int) (m3 : DA) (m3_1 : Bool) (m4 : DE) : Option (((Int × Bool × (Int × Int × Int × Int) × DA × Bool) ⊕ (Int × Bool × (Int × Int × Int × Int) × (DA × Bool) × DE)) ⊕ ((Bool × (Int × Int × Int × Int) × DA × Bool) ⊕ (Bool × (Int × Int × Int × Int) × (DA × Bool) × DE))) :=
 bif (decide (n_4 > 0)) then
 bif (!m0) then
 (qbg n m3 m3_1).bind fun r795 =>
 bif (!r795.1) then
 (qg n m1 m1_1 m1_2 m1_3 m4 m0 r795.2.1 r795.2.2).bind fun r796 =>
 some (Sum.inl (Sum.inr ((subI .i64 n_4 1), (r796.2.2.1, ((r796.1.1, (r796.1.2.1, (r796.1.2.2.1, r796.1.2.2.2))), ((r796.2.2.2.1, r796.2.2.2.2), r796.2.1))))))
 else
 some (Sum.inr (Sum.inr (m0, ((m1, (m1_1, (m1_2, m1_3))), ((r795.2.1, r795.2.2), m4)))))
 else
 some (Sum.inr (Sum.inr (m0, ((m1, (m1_1, (m1_2, m1_3))), ((m3, m3_1), m4)))))
 else
 some (Sum.inr (Sum.inr (m0, ((m1, (m1_1, (m1_2, m1_3))), ((m3, m3_1), m4)))))
def qab_M0 (n : Nat) (s : (Int × Bool × (Int × Int × Int × Int) × DA × Bool) ⊕ (Int × Bool × (Int × Int × Int × Int) × (DA × Bool) × DE)) : Option (((Int × Bool × (Int × Int × Int × Int) × DA × Bool) ⊕ (Int × Bool × (Int × Int × Int × Int) × (DA × Bool) × DE)) ⊕ ((Bool × (Int × Int × Int × Int) × DA × Bool) ⊕ (Bool × (Int × Int × Int × Int) × (DA × Bool) × DE))) := Sum.rec (fun a0 => qab_B0q0 n a0.1 a0.2.1 a0.2.2.1.1 a0.2.2.1.2.1 a0.2.2.1.2.2.1 a0.2.2.1.2.2.2 a0.2.2.2.1 a0.2.2.2.2) (fun b0 => qab_B0q1 n b0.1 b0.2.1 b0.2.2.1.1 b0.2.2.1.2.1 b0.2.2.1.2.2.1 b0.2.2.1.2.2.2 b0.2.2.2.1.1 b0.2.2.2.1.2 b0.2.2.2.2) s
def qab_W0 (n : Nat) (s : (Int × Bool × (Int × Int × Int × Int) × DA × Bool) ⊕ (Int × Bool × (Int × Int × Int × Int) × (DA × Bool) × DE)) : Option ((Bool × (Int × Int × Int × Int) × DA × Bool) ⊕ (Bool × (Int × Int × Int × Int) × (DA × Bool) × DE)) := loopS (qab_M0 n) n s
def qab (n : Nat) (m0 : Bool) (m1 : Int) (m1_1 : Int) (m1_2 : Int) (m1_3 : Int) (m3 : DA) (m3_1 : Bool) : Option ((Bool × (Int × Int × Int × Int) × DA × Bool) ⊕ (Bool × (Int × Int × Int × Int) × (DA × Bool) × DE)) :=
 (qag n m0 m3 m3_1).bind fun r797 =>
 (qab_W0 n (Sum.inl (r797.1, (r797.2.1, ((m1, (m1_1, (m1_2, m1_3))), (r797.2.2.1, r797.2.2.2)))))).bind fun r798 =>
 Sum.rec (fun u799 =>
 some (Sum.inl (u799.1, ((u799.2.1.1, (u799.2.1.2.1, (u799.2.1.2.2.1, u799.2.1.2.2.2))), (u799.2.2.1, u799.2.2.2))))) (fun v800 =>
 some (Sum.inr (v800.1, ((v800.2.1.1, (v800.2.1.2.1, (v800.2.1.2.2.1, v800.2.1.2.2.2))), ((v800.2.2.1.1, v800.2.2.1.2), v800.2.2.2))))) r798
def qy (n : Nat) (m0 : Int) (m0_1 : Int) (m0_2 : Int) (m0_3 : Int) (m2 : Bool) (m3 : DA) (m3_1 : Bool) : Option ((Int × Int × Int × Int) × Bool × (DA × Bool) × DE) :=
 (qag n m2 m3 m3_1).bind fun r819 =>
 (qag n r819.2.1 r819.2.2.1 r819.2.2.2).bind fun r820 =>
 (qbb n r820.2.1 r820.2.2.1 r820.2.2.2).bind fun r821 =>
 (qag n r821.2.1 r821.2.2.1 r821.2.2.2).bind fun r822 =>
 (qax n r822.1 r822.2.2.1 r822.2.2.2).bind fun r823 =>
 bif (Nat.ble (List.length ((r819.1, (r820.1, (r821.1, r823.1))) :: ([] : List ((Int) × (Int) × DA × DA)))) 4294967296) then
 some ((m0, (m0_1, (m0_2, m0_3))), (r822.2.1, ((r823.2.1, r823.2.2), ((r819.1, (r820.1, (r821.1, r823.1))) :: ([] : List ((Int) × (Int) × DA × DA))))))
 else none
def qj (n : Nat) (m0 : Int) (m0_1 : Int) (m0_2 : Int) (m0_3 : Int) (m2 : DE) (m3 : Bool) (m4 : DA) (m4_1 : Bool) : Option ((Int × Int × Int × Int) × DE × Bool × DA × Bool) :=
 (qag n m3 m4 m4_1).bind fun r833 =>
 (qag n r833.2.1 r833.2.2.1 r833.2.2.2).bind fun r834 =>
 (qbb n r834.2.1 r834.2.2.1 r834.2.2.2).bind fun r835 =>
 (qag n r835.2.1 r835.2.2.1 r835.2.2.2).bind fun r836 =>
 (qax n r836.1 r836.2.2.1 r836.2.2.2).bind fun r837 =>
 bif (Nat.ble (List.length (m2 ++ ((r833.1, (r834.1, (r835.1, r837.1))) :: ([] : List ((Int) × (Int) × DA × DA))))) 4294967296) then
 some ((m0, (m0_1, (m0_2, m0_3))), ((m2 ++ ((r833.1, (r834.1, (r835.1, r837.1))) :: ([] : List ((Int) × (Int) × DA × DA)))), (r836.2.1, (r837.2.1, r837.2.2))))
 else none
def qw_B0q0 (n : Nat) (n_4 : Int) (m0 : Bool) (m1 : Int) (m1_1 : Int) (m1_2 : Int) (m1_3 : Int) (m3 : DA) (m3_1 : Bool) : Option (((Int × Bool × (Int × Int × Int × Int) × DA × Bool) ⊕ (Int × Bool × (Int × Int × Int × Int) × (DA × Bool) × DE)) ⊕ ((Bool × (Int × Int × Int × Int) × DA × Bool) ⊕ (Bool × (Int × Int × Int × Int) × (DA × Bool) × DE))) :=
 bif (decide (n_4 > 0)) then
 bif (!m0) then
 (qbg n m3 m3_1).bind fun r824 =>
 bif (!r824.1) then
 (qy n m1 m1_1 m1_2 m1_3 m0 r824.2.1 r824.2.2).bind fun r825 =>
 some (Sum.inl (Sum.inr ((subI .i64 n_4 1), (r825.2.1, ((r825.1.1, (r825.1.2.1, (r825.1.2.2.1, r825.1.2.2.2))), ((r825.2.2.1.1, r825.2.2.1.2), r825.2.2.2))))))
 else
 some (Sum.inr (Sum.inl (m0, ((m1, (m1_1, (m1_2, m1_3))), (r824.2.1, r824.2.2)))))
 else
 some (Sum.inr (Sum.inl (m0, ((m1, (m1_1, (m1_2, m1_3))), (m3, m3_1)))))
 else
 some (Sum.inr (Sum.inl (m0, ((m1, (m1_1, (m1_2, m1_3))), (m3, m3_1)))))
def qw_B0q1 (n : Nat) (n_4 : Int) (m0 : Bool) (m1 : Int) (m1_1 : Int) (m1_2 : Int) (m1_3 : Int) (m3 : DA) (m3_1 : Bool) (m4 : DE) : Option (((Int × Bool × (Int × Int × Int × Int) × DA × Bool) ⊕ (Int × Bool × (Int × Int × Int × Int) × (DA × Bool) × DE)) ⊕ ((Bool × (Int × Int × Int × Int) × DA × Bool) ⊕ (Bool × (Int × Int × Int × Int) × (DA × Bool) × DE))) :=
 bif (decide (n_4 > 0)) then
 bif (!m0) then
 (qbg n m3 m3_1).bind fun r838 =>
 bif (!r838.1) then
 (qj n m1 m1_1 m1_2 m1_3 m4 m0 r838.2.1 r838.2.2).bind fun r839 =>
 some (Sum.inl (Sum.inr ((subI .i64 n_4 1), (r839.2.2.1, ((r839.1.1, (r839.1.2.1, (r839.1.2.2.1, r839.1.2.2.2))), ((r839.2.2.2.1, r839.2.2.2.2), r839.2.1))))))
 else
 some (Sum.inr (Sum.inr (m0, ((m1, (m1_1, (m1_2, m1_3))), ((r838.2.1, r838.2.2), m4)))))
 else
 some (Sum.inr (Sum.inr (m0, ((m1, (m1_1, (m1_2, m1_3))), ((m3, m3_1), m4)))))
 else
 some (Sum.inr (Sum.inr (m0, ((m1, (m1_1, (m1_2, m1_3))), ((m3, m3_1), m4)))))
def qw_M0 (n : Nat) (s : (Int × Bool × (Int × Int × Int × Int) × DA × Bool) ⊕ (Int × Bool × (Int × Int × Int × Int) × (DA × Bool) × DE)) : Option (((Int × Bool × (Int × Int × Int × Int) × DA × Bool) ⊕ (Int × Bool × (Int × Int × Int × Int) × (DA × Bool) × DE)) ⊕ ((Bool × (Int × Int × Int × Int) × DA × Bool) ⊕ (Bool × (Int × Int × Int × Int) × (DA × Bool) × DE))) := Sum.rec (fun a0 => qw_B0q0 n a0.1 a0.2.1 a0.2.2.1.1 a0.2.2.1.2.1 a0.2.2.1.2.2.1 a0.2.2.1.2.2.2 a0.2.2.2.1 a0.2.2.2.2) (fun b0 => qw_B0q1 n b0.1 b0.2.1 b0.2.2.1.1 b0.2.2.1.2.1 b0.2.2.1.2.2.1 b0.2.2.1.2.2.2 b0.2.2.2.1.1 b0.2.2.2.1.2 b0.2.2.2.2) s
def qw_W0 (n : Nat) (s : (Int × Bool × (Int × Int × Int × Int) × DA × Bool) ⊕ (Int × Bool × (Int × Int × Int × Int) × (DA × Bool) × DE)) : Option ((Bool × (Int × Int × Int × Int) × DA × Bool) ⊕ (Bool × (Int × Int × Int × Int) × (DA × Bool) × DE)) := loopS (qw_M0 n) n s
def qw (n : Nat) (m0 : Bool) (m1 : Int) (m1_1 : Int) (m1_2 : Int) (m1_3 : Int) (m3 : DA) (m3_1 : Bool) : Option ((Bool × (Int × Int × Int × Int) × DA × Bool) ⊕ (Bool × (Int × Int × Int × Int) × (DA × Bool) × DE)) :=
 (qag n m0 m3 m3_1).bind fun r840 =>
 (qw_W0 n (Sum.inl (r840.1, (r840.2.1, ((m1, (m1_1, (m1_2, m1_3))), (r840.2.2.1, r840.2.2.2)))))).bind fun r841 =>
 Sum.rec (fun u842 =>
 some (Sum.inl (u842.1, ((u842.2.1.1, (u842.2.1.2.1, (u842.2.1.2.2.1, u842.2.1.2.2.2))), (u842.2.2.1, u842.2.2.2))))) (fun v843 =>
 some (Sum.inr (v843.1, ((v843.2.1.1, (v843.2.1.2.1, (v843.2.1.2.2.1, v843.2.1.2.2.2))), ((v843.2.2.1.1, v843.2.2.1.2), v843.2.2.2))))) r841
def qe (n : Nat) (m0 : Int) (m0_1 : Int) (m0_2 : Int) (m0_3 : Int) (m2 : DE) (m3 : Bool) (m4 : DA) (m4_1 : Bool) : Option ((Int × Int × Int × Int) × DE × Bool × (DA × Bool) × DE) :=
 (qag n m3 m4 m4_1).bind fun r865 =>
 (qag n r865.2.1 r865.2.2.1 r865.2.2.2).bind fun r866 =>
 (qbb n r866.2.1 r866.2.2.1 r866.2.2.2).bind fun r867 =>
 (qag n r867.2.1 r867.2.2.1 r867.2.2.2).bind fun r868 =>
 (qax n r868.1 r868.2.2.1 r868.2.2.2).bind fun r869 =>
 bif (Nat.ble (List.length ((r865.1, (r866.1, (r867.1, r869.1))) :: ([] : List ((Int) × (Int) × DA × DA)))) 4294967296) then
 some ((m0, (m0_1, (m0_2, m0_3))), (m2, (r868.2.1, ((r869.2.1, r869.2.2), ((r865.1, (r866.1, (r867.1, r869.1))) :: ([] : List ((Int) × (Int) × DA × DA)))))))
 else none
def qh (n : Nat) (m0 : Int) (m0_1 : Int) (m0_2 : Int) (m0_3 : Int) (m2 : DE) (m3 : DE) (m4 : Bool) (m5 : DA) (m5_1 : Bool) : Option ((Int × Int × Int × Int) × DE × DE × Bool × DA × Bool) :=
 (qag n m4 m5 m5_1).bind fun r879 =>
 (qag n r879.2.1 r879.2.2.1 r879.2.2.2).bind fun r880 =>
 (qbb n r880.2.1 r880.2.2.1 r880.2.2.2).bind fun r881 =>
 (qag n r881.2.1 r881.2.2.1 r881.2.2.2).bind fun r882 =>
 (qax n r882.1 r882.2.2.1 r882.2.2.2).bind fun r883 =>
 bif (Nat.ble (List.length (m3 ++ ((r879.1, (r880.1, (r881.1, r883.1))) :: ([] : List ((Int) × (Int) × DA × DA))))) 4294967296) then
 some ((m0, (m0_1, (m0_2, m0_3))), (m2, ((m3 ++ ((r879.1, (r880.1, (r881.1, r883.1))) :: ([] : List ((Int) × (Int) × DA × DA)))), (r882.2.1, (r883.2.1, r883.2.2)))))
 else none
def qt_B0q0 (n : Nat) (n_4 : Int) (m0 : Bool) (m1 : Int) (m1_1 : Int) (m1_2 : Int) (m1_3 : Int) (m3 : DA) (m3_1 : Bool) (m4 : DE) : Option (((Int × Bool × (Int × Int × Int × Int) × (DA × Bool) × DE) ⊕ (Int × Bool × (Int × Int × Int × Int) × (DA × Bool) × DE × DE)) ⊕ ((Bool × (Int × Int × Int × Int) × (DA × Bool) × DE) ⊕ (Bool × (Int × Int × Int × Int) × (DA × Bool) × DE × DE))) :=
 bif (decide (n_4 > 0)) then
 bif (!m0) then
 (qbg n m3 m3_1).bind fun r870 =>
 bif (!r870.1) then
 (qe n m1 m1_1 m1_2 m1_3 m4 m0 r870.2.1 r870.2.2).bind fun r871 =>
 some (Sum.inl (Sum.inr ((subI .i64 n_4 1), (r871.2.2.1, ((r871.1.1, (r871.1.2.1, (r871.1.2.2.1, r871.1.2.2.2))), ((r871.2.2.2.1.1, r871.2.2.2.1.2), (r871.2.1, r871.2.2.2.2)))))))
 else
 some (Sum.inr (Sum.inl (m0, ((m1, (m1_1, (m1_2, m1_3))), ((r870.2.1, r870.2.2), m4)))))
 else
 some (Sum.inr (Sum.inl (m0, ((m1, (m1_1, (m1_2, m1_3))), ((m3, m3_1), m4)))))
 else
 some (Sum.inr (Sum.inl (m0, ((m1, (m1_1, (m1_2, m1_3))), ((m3, m3_1), m4)))))
def qt_B0q1 (n : Nat) (n_4 : Int) (m0 : Bool) (m1 : Int) (m1_1 : Int) (m1_2 : Int) (m1_3 : Int) (m3 : DA) (m3_1 : Bool) (m4 : DE) (m5 : DE) : Option (((Int × Bool × (Int × Int × Int × Int) × (DA × Bool) × DE) ⊕ (Int × Bool × (Int × Int × Int × Int) × (DA × Bool) × DE × DE)) ⊕ ((Bool × (Int × Int × Int × Int) × (DA × Bool) × DE) ⊕ (Bool × (Int × Int × Int × Int) × (DA × Bool) × DE × DE))) :=
 bif (decide (n_4 > 0)) then
 bif (!m0) then
 (qbg n m3 m3_1).bind fun r884 =>
 bif (!r884.1) then
 (qh n m1 m1_1 m1_2 m1_3 m4 m5 m0 r884.2.1 r884.2.2).bind fun r885 =>
 some (Sum.inl (Sum.inr ((subI .i64 n_4 1), (r885.2.2.2.1, ((r885.1.1, (r885.1.2.1, (r885.1.2.2.1, r885.1.2.2.2))), ((r885.2.2.2.2.1, r885.2.2.2.2.2), (r885.2.1, r885.2.2.1)))))))
 else
 some (Sum.inr (Sum.inr (m0, ((m1, (m1_1, (m1_2, m1_3))), ((r884.2.1, r884.2.2), (m4, m5))))))
 else
 some (Sum.inr (Sum.inr (m0, ((m1, (m1_1, (m1_2, m1_3))), ((m3, m3_1), (m4, m5))))))
 else
 some (Sum.inr (Sum.inr (m0, ((m1, (m1_1, (m1_2, m1_3))), ((m3, m3_1), (m4, m5))))))
def qt_M0 (n : Nat) (s : (Int × Bool × (Int × Int × Int × Int) × (DA × Bool) × DE) ⊕ (Int × Bool × (Int × Int × Int × Int) × (DA × Bool) × DE × DE)) : Option (((Int × Bool × (Int × Int × Int × Int) × (DA × Bool) × DE) ⊕ (Int × Bool × (Int × Int × Int × Int) × (DA × Bool) × DE × DE)) ⊕ ((Bool × (Int × Int × Int × Int) × (DA × Bool) × DE) ⊕ (Bool × (Int × Int × Int × Int) × (DA × Bool) × DE × DE))) := Sum.rec (fun a0 => qt_B0q0 n a0.1 a0.2.1 a0.2.2.1.1 a0.2.2.1.2.1 a0.2.2.1.2.2.1 a0.2.2.1.2.2.2 a0.2.2.2.1.1 a0.2.2.2.1.2 a0.2.2.2.2) (fun b0 => qt_B0q1 n b0.1 b0.2.1 b0.2.2.1.1 b0.2.2.1.2.1 b0.2.2.1.2.2.1 b0.2.2.1.2.2.2 b0.2.2.2.1.1 b0.2.2.2.1.2 b0.2.2.2.2.1 b0.2.2.2.2.2) s
def qt_W0 (n : Nat) (s : (Int × Bool × (Int × Int × Int × Int) × (DA × Bool) × DE) ⊕ (Int × Bool × (Int × Int × Int × Int) × (DA × Bool) × DE × DE)) : Option ((Bool × (Int × Int × Int × Int) × (DA × Bool) × DE) ⊕ (Bool × (Int × Int × Int × Int) × (DA × Bool) × DE × DE)) := loopS (qt_M0 n) n s
def qt (n : Nat) (m0 : Bool) (m1 : Int) (m1_1 : Int) (m1_2 : Int) (m1_3 : Int) (m3 : DA) (m3_1 : Bool) (m4 : DE) : Option ((Bool × (Int × Int × Int × Int) × (DA × Bool) × DE) ⊕ (Bool × (Int × Int × Int × Int) × (DA × Bool) × DE × DE)) :=
 (qag n m0 m3 m3_1).bind fun r886 =>
 (qt_W0 n (Sum.inl (r886.1, (r886.2.1, ((m1, (m1_1, (m1_2, m1_3))), ((r886.2.2.1, r886.2.2.2), m4)))))).bind fun r887 =>
 Sum.rec (fun u888 =>
 some (Sum.inl (u888.1, ((u888.2.1.1, (u888.2.1.2.1, (u888.2.1.2.2.1, u888.2.1.2.2.2))), ((u888.2.2.1.1, u888.2.2.1.2), u888.2.2.2))))) (fun v889 =>
 some (Sum.inr (v889.1, ((v889.2.1.1, (v889.2.1.2.1, (v889.2.1.2.2.1, v889.2.1.2.2.2))), ((v889.2.2.1.1, v889.2.2.1.2), (v889.2.2.2.1, v889.2.2.2.2)))))) r887
def qd (n : Nat) (m0 : Int) (m0_1 : Int) (m0_2 : Int) (m0_3 : Int) (m2 : DB) (m3 : Bool) (m4 : DA) (m4_1 : Bool) : Option ((Int × Int × Int × Int) × DB × Bool × (DA × Bool) × DE) :=
 (qag n m3 m4 m4_1).bind fun r910 =>
 (qag n r910.2.1 r910.2.2.1 r910.2.2.2).bind fun r911 =>
 (qbb n r911.2.1 r911.2.2.1 r911.2.2.2).bind fun r912 =>
 (qbb n r912.2.1 r912.2.2.1 r912.2.2.2).bind fun r913 =>
 bif (Nat.ble (List.length ((r910.1, (r911.1, (r912.1, r913.1))) :: ([] : List ((Int) × (Int) × DA × DA)))) 4294967296) then
 some ((m0, (m0_1, (m0_2, m0_3))), (m2, (r913.2.1, ((r913.2.2.1, r913.2.2.2), ((r910.1, (r911.1, (r912.1, r913.1))) :: ([] : List ((Int) × (Int) × DA × DA)))))))
 else none
def qb (n : Nat) (m0 : Int) (m0_1 : Int) (m0_2 : Int) (m0_3 : Int) (m2 : DE) (m3 : DB) (m4 : Bool) (m5 : DA) (m5_1 : Bool) : Option ((Int × Int × Int × Int) × DE × DB × Bool × DA × Bool) :=
 (qag n m4 m5 m5_1).bind fun r919 =>
 (qag n r919.2.1 r919.2.2.1 r919.2.2.2).bind fun r920 =>
 (qbb n r920.2.1 r920.2.2.1 r920.2.2.2).bind fun r921 =>
 (qbb n r921.2.1 r921.2.2.1 r921.2.2.2).bind fun r922 =>
 bif (Nat.ble (List.length (m2 ++ ((r919.1, (r920.1, (r921.1, r922.1))) :: ([] : List ((Int) × (Int) × DA × DA))))) 4294967296) then
 some ((m0, (m0_1, (m0_2, m0_3))), ((m2 ++ ((r919.1, (r920.1, (r921.1, r922.1))) :: ([] : List ((Int) × (Int) × DA × DA)))), (m3, (r922.2.1, (r922.2.2.1, r922.2.2.2)))))
 else none
def qv_B0q0 (n : Nat) (n_4 : Int) (m0 : Bool) (m1 : Int) (m1_1 : Int) (m1_2 : Int) (m1_3 : Int) (m3 : DA) (m3_1 : Bool) (m4 : DB) : Option (((Int × Bool × (Int × Int × Int × Int) × (DA × Bool) × DB) ⊕ (Int × Bool × (Int × Int × Int × Int) × (DA × Bool) × DB × DE)) ⊕ ((Bool × (Int × Int × Int × Int) × (DA × Bool) × DB) ⊕ (Bool × (Int × Int × Int × Int) × (DA × Bool) × DB × DE))) :=
 bif (decide (n_4 > 0)) then
 bif (!m0) then
 (qbg n m3 m3_1).bind fun r914 =>
 bif (!r914.1) then
 (qd n m1 m1_1 m1_2 m1_3 m4 m0 r914.2.1 r914.2.2).bind fun r915 =>
 some (Sum.inl (Sum.inr ((subI .i64 n_4 1), (r915.2.2.1, ((r915.1.1, (r915.1.2.1, (r915.1.2.2.1, r915.1.2.2.2))), ((r915.2.2.2.1.1, r915.2.2.2.1.2), (r915.2.1, r915.2.2.2.2)))))))
 else
 some (Sum.inr (Sum.inl (m0, ((m1, (m1_1, (m1_2, m1_3))), ((r914.2.1, r914.2.2), m4)))))
 else
 some (Sum.inr (Sum.inl (m0, ((m1, (m1_1, (m1_2, m1_3))), ((m3, m3_1), m4)))))
 else
 some (Sum.inr (Sum.inl (m0, ((m1, (m1_1, (m1_2, m1_3))), ((m3, m3_1), m4)))))
def qv_B0q1 (n : Nat) (n_4 : Int) (m0 : Bool) (m1 : Int) (m1_1 : Int) (m1_2 : Int) (m1_3 : Int) (m3 : DA) (m3_1 : Bool) (m4 : DB) (m5 : DE) : Option (((Int × Bool × (Int × Int × Int × Int) × (DA × Bool) × DB) ⊕ (Int × Bool × (Int × Int × Int × Int) × (DA × Bool) × DB × DE)) ⊕ ((Bool × (Int × Int × Int × Int) × (DA × Bool) × DB) ⊕ (Bool × (Int × Int × Int × Int) × (DA × Bool) × DB × DE))) :=
 bif (decide (n_4 > 0)) then
 bif (!m0) then
 (qbg n m3 m3_1).bind fun r923 =>
 bif (!r923.1) then
 (qb n m1 m1_1 m1_2 m1_3 m5 m4 m0 r923.2.1 r923.2.2).bind fun r924 =>
 some (Sum.inl (Sum.inr ((subI .i64 n_4 1), (r924.2.2.2.1, ((r924.1.1, (r924.1.2.1, (r924.1.2.2.1, r924.1.2.2.2))), ((r924.2.2.2.2.1, r924.2.2.2.2.2), (r924.2.2.1, r924.2.1)))))))
 else
 some (Sum.inr (Sum.inr (m0, ((m1, (m1_1, (m1_2, m1_3))), ((r923.2.1, r923.2.2), (m4, m5))))))
 else
 some (Sum.inr (Sum.inr (m0, ((m1, (m1_1, (m1_2, m1_3))), ((m3, m3_1), (m4, m5))))))
 else
 some (Sum.inr (Sum.inr (m0, ((m1, (m1_1, (m1_2, m1_3))), ((m3, m3_1), (m4, m5))))))
def qv_M0 (n : Nat) (s : (Int × Bool × (Int × Int × Int × Int) × (DA × Bool) × DB) ⊕ (Int × Bool × (Int × Int × Int × Int) × (DA × Bool) × DB × DE)) : Option (((Int × Bool × (Int × Int × Int × Int) × (DA × Bool) × DB) ⊕ (Int × Bool × (Int × Int × Int × Int) × (DA × Bool) × DB × DE)) ⊕ ((Bool × (Int × Int × Int × Int) × (DA × Bool) × DB) ⊕ (Bool × (Int × Int × Int × Int) × (DA × Bool) × DB × DE))) := Sum.rec (fun a0 => qv_B0q0 n a0.1 a0.2.1 a0.2.2.1.1 a0.2.2.1.2.1 a0.2.2.1.2.2.1 a0.2.2.1.2.2.2 a0.2.2.2.1.1 a0.2.2.2.1.2 a0.2.2.2.2) (fun b0 => qv_B0q1 n b0.1 b0.2.1 b0.2.2.1.1 b0.2.2.1.2.1 b0.2.2.1.2.2.1 b0.2.2.1.2.2.2 b0.2.2.2.1.1 b0.2.2.2.1.2 b0.2.2.2.2.1 b0.2.2.2.2.2) s
def qv_W0 (n : Nat) (s : (Int × Bool × (Int × Int × Int × Int) × (DA × Bool) × DB) ⊕ (Int × Bool × (Int × Int × Int × Int) × (DA × Bool) × DB × DE)) : Option ((Bool × (Int × Int × Int × Int) × (DA × Bool) × DB) ⊕ (Bool × (Int × Int × Int × Int) × (DA × Bool) × DB × DE)) := loopS (qv_M0 n) n s
def qv (n : Nat) (m0 : Bool) (m1 : Int) (m1_1 : Int) (m1_2 : Int) (m1_3 : Int) (m3 : DA) (m3_1 : Bool) (m4 : DB) : Option ((Bool × (Int × Int × Int × Int) × (DA × Bool) × DB) ⊕ (Bool × (Int × Int × Int × Int) × (DA × Bool) × DB × DE)) :=
 (qag n m0 m3 m3_1).bind fun r925 =>
 (qv_W0 n (Sum.inl (r925.1, (r925.2.1, ((m1, (m1_1, (m1_2, m1_3))), ((r925.2.2.1, r925.2.2.2), m4)))))).bind fun r926 =>
 Sum.rec (fun u927 =>
 some (Sum.inl (u927.1, ((u927.2.1.1, (u927.2.1.2.1, (u927.2.1.2.2.1, u927.2.1.2.2.2))), ((u927.2.2.1.1, u927.2.2.1.2), u927.2.2.2))))) (fun v928 =>
 some (Sum.inr (v928.1, ((v928.2.1.1, (v928.2.1.2.1, (v928.2.1.2.2.1, v928.2.1.2.2.2))), ((v928.2.2.1.1, v928.2.2.1.2), (v928.2.2.2.1, v928.2.2.2.2)))))) r926
def qf (n : Nat) (m0 : Int) (m0_1 : Int) (m0_2 : Int) (m0_3 : Int) (m2 : DB) (m3 : Bool) (m4 : DA) (m4_1 : Bool) : Option ((Int × Int × Int × Int) × DB × Bool × (DA × Bool) × DE) :=
 (qag n m3 m4 m4_1).bind fun r956 =>
 (qag n r956.2.1 r956.2.2.1 r956.2.2.2).bind fun r957 =>
 (qbb n r957.2.1 r957.2.2.1 r957.2.2.2).bind fun r958 =>
 (qag n r958.2.1 r958.2.2.1 r958.2.2.2).bind fun r959 =>
 (qax n r959.1 r959.2.2.1 r959.2.2.2).bind fun r960 =>
 bif (Nat.ble (List.length ((r956.1, (r957.1, (r958.1, r960.1))) :: ([] : List ((Int) × (Int) × DA × DA)))) 4294967296) then
 some ((m0, (m0_1, (m0_2, m0_3))), (m2, (r959.2.1, ((r960.2.1, r960.2.2), ((r956.1, (r957.1, (r958.1, r960.1))) :: ([] : List ((Int) × (Int) × DA × DA)))))))
 else none
def qm (n : Nat) (m0 : Int) (m0_1 : Int) (m0_2 : Int) (m0_3 : Int) (m2 : DE) (m3 : DB) (m4 : Bool) (m5 : DA) (m5_1 : Bool) : Option ((Int × Int × Int × Int) × DE × DB × Bool × DA × Bool) :=
 (qag n m4 m5 m5_1).bind fun r970 =>
 (qag n r970.2.1 r970.2.2.1 r970.2.2.2).bind fun r971 =>
 (qbb n r971.2.1 r971.2.2.1 r971.2.2.2).bind fun r972 =>
 (qag n r972.2.1 r972.2.2.1 r972.2.2.2).bind fun r973 =>
 (qax n r973.1 r973.2.2.1 r973.2.2.2).bind fun r974 =>
 bif (Nat.ble (List.length (m2 ++ ((r970.1, (r971.1, (r972.1, r974.1))) :: ([] : List ((Int) × (Int) × DA × DA))))) 4294967296) then
 some ((m0, (m0_1, (m0_2, m0_3))), ((m2 ++ ((r970.1, (r971.1, (r972.1, r974.1))) :: ([] : List ((Int) × (Int) × DA × DA)))), (m3, (r973.2.1, (r974.2.1, r974.2.2)))))
 else none
def qaa_B0q0 (n : Nat) (n_4 : Int) (m0 : Bool) (m1 : Int) (m1_1 : Int) (m1_2 : Int) (m1_3 : Int) (m3 : DA) (m3_1 : Bool) (m4 : DB) : Option (((Int × Bool × (Int × Int × Int × Int) × (DA × Bool) × DB) ⊕ (Int × Bool × (Int × Int × Int × Int) × (DA × Bool) × DB × DE)) ⊕ ((Bool × (Int × Int × Int × Int) × (DA × Bool) × DB) ⊕ (Bool × (Int × Int × Int × Int) × (DA × Bool) × DB × DE))) :=
 bif (decide (n_4 > 0)) then
 bif (!m0) then
 (qbg n m3 m3_1).bind fun r961 =>
 bif (!r961.1) then
 (qf n m1 m1_1 m1_2 m1_3 m4 m0 r961.2.1 r961.2.2).bind fun r962 =>
 some (Sum.inl (Sum.inr ((subI .i64 n_4 1), (r962.2.2.1, ((r962.1.1, (r962.1.2.1, (r962.1.2.2.1, r962.1.2.2.2))), ((r962.2.2.2.1.1, r962.2.2.2.1.2), (r962.2.1, r962.2.2.2.2)))))))
 else
 some (Sum.inr (Sum.inl (m0, ((m1, (m1_1, (m1_2, m1_3))), ((r961.2.1, r961.2.2), m4)))))
 else
 some (Sum.inr (Sum.inl (m0, ((m1, (m1_1, (m1_2, m1_3))), ((m3, m3_1), m4)))))
 else
 some (Sum.inr (Sum.inl (m0, ((m1, (m1_1, (m1_2, m1_3))), ((m3, m3_1), m4)))))
def qaa_B0q1 (n : Nat) (n_4 : Int) (m0 : Bool) (m1 : Int) (m1_1 : Int) (m1_2 : Int) (m1_3 : Int) (m3 : DA) (m3_1 : Bool) (m4 : DB) (m5 : DE) : Option (((Int × Bool × (Int × Int × Int × Int) × (DA × Bool) × DB) ⊕ (Int × Bool × (Int × Int × Int × Int) × (DA × Bool) × DB × DE)) ⊕ ((Bool × (Int × Int × Int × Int) × (DA × Bool) × DB) ⊕ (Bool × (Int × Int × Int × Int) × (DA × Bool) × DB × DE))) :=
 bif (decide (n_4 > 0)) then
 bif (!m0) then
 (qbg n m3 m3_1).bind fun r975 =>
 bif (!r975.1) then
 (qm n m1 m1_1 m1_2 m1_3 m5 m4 m0 r975.2.1 r975.2.2).bind fun r976 =>
 some (Sum.inl (Sum.inr ((subI .i64 n_4 1), (r976.2.2.2.1, ((r976.1.1, (r976.1.2.1, (r976.1.2.2.1, r976.1.2.2.2))), ((r976.2.2.2.2.1, r976.2.2.2.2.2), (r976.2.2.1, r976.2.1)))))))
 else
 some (Sum.inr (Sum.inr (m0, ((m1, (m1_1, (m1_2, m1_3))), ((r975.2.1, r975.2.2), (m4, m5))))))
 else
 some (Sum.inr (Sum.inr (m0, ((m1, (m1_1, (m1_2, m1_3))), ((m3, m3_1), (m4, m5))))))
 else
 some (Sum.inr (Sum.inr (m0, ((m1, (m1_1, (m1_2, m1_3))), ((m3, m3_1), (m4, m5))))))
def qaa_M0 (n : Nat) (s : (Int × Bool × (Int × Int × Int × Int) × (DA × Bool) × DB) ⊕ (Int × Bool × (Int × Int × Int × Int) × (DA × Bool) × DB × DE)) : Option (((Int × Bool × (Int × Int × Int × Int) × (DA × Bool) × DB) ⊕ (Int × Bool × (Int × Int × Int × Int) × (DA × Bool) × DB × DE)) ⊕ ((Bool × (Int × Int × Int × Int) × (DA × Bool) × DB) ⊕ (Bool × (Int × Int × Int × Int) × (DA × Bool) × DB × DE))) := Sum.rec (fun a0 => qaa_B0q0 n a0.1 a0.2.1 a0.2.2.1.1 a0.2.2.1.2.1 a0.2.2.1.2.2.1 a0.2.2.1.2.2.2 a0.2.2.2.1.1 a0.2.2.2.1.2 a0.2.2.2.2) (fun b0 => qaa_B0q1 n b0.1 b0.2.1 b0.2.2.1.1 b0.2.2.1.2.1 b0.2.2.1.2.2.1 b0.2.2.1.2.2.2 b0.2.2.2.1.1 b0.2.2.2.1.2 b0.2.2.2.2.1 b0.2.2.2.2.2) s
def qaa_W0 (n : Nat) (s : (Int × Bool × (Int × Int × Int × Int) × (DA × Bool) × DB) ⊕ (Int × Bool × (Int × Int × Int × Int) × (DA × Bool) × DB × DE)) : Option ((Bool × (Int × Int × Int × Int) × (DA × Bool) × DB) ⊕ (Bool × (Int × Int × Int × Int) × (DA × Bool) × DB × DE)) := loopS (qaa_M0 n) n s
def qaa (n : Nat) (m0 : Bool) (m1 : Int) (m1_1 : Int) (m1_2 : Int) (m1_3 : Int) (m3 : DA) (m3_1 : Bool) (m4 : DB) : Option ((Bool × (Int × Int × Int × Int) × (DA × Bool) × DB) ⊕ (Bool × (Int × Int × Int × Int) × (DA × Bool) × DB × DE)) :=
 (qag n m0 m3 m3_1).bind fun r977 =>
 (qaa_W0 n (Sum.inl (r977.1, (r977.2.1, ((m1, (m1_1, (m1_2, m1_3))), ((r977.2.2.1, r977.2.2.2), m4)))))).bind fun r978 =>
 Sum.rec (fun u979 =>
 some (Sum.inl (u979.1, ((u979.2.1.1, (u979.2.1.2.1, (u979.2.1.2.2.1, u979.2.1.2.2.2))), ((u979.2.2.1.1, u979.2.2.1.2), u979.2.2.2))))) (fun v980 =>
 some (Sum.inr (v980.1, ((v980.2.1.1, (v980.2.1.2.1, (v980.2.1.2.2.1, v980.2.1.2.2.2))), ((v980.2.2.1.1, v980.2.2.1.2), (v980.2.2.2.1, v980.2.2.2.2)))))) r978
def qi (n : Nat) (m0 : Int) (m0_1 : Int) (m0_2 : Int) (m0_3 : Int) (m2 : DE) (m3 : DB) (m4 : Bool) (m5 : DA) (m5_1 : Bool) : Option ((Int × Int × Int × Int) × DE × DB × Bool × (DA × Bool) × DE) :=
 (qag n m4 m5 m5_1).bind fun r1011 =>
 (qag n r1011.2.1 r1011.2.2.1 r1011.2.2.2).bind fun r1012 =>
 (qbb n r1012.2.1 r1012.2.2.1 r1012.2.2.2).bind fun r1013 =>
 (qag n r1013.2.1 r1013.2.2.1 r1013.2.2.2).bind fun r1014 =>
 (qax n r1014.1 r1014.2.2.1 r1014.2.2.2).bind fun r1015 =>
 bif (Nat.ble (List.length ((r1011.1, (r1012.1, (r1013.1, r1015.1))) :: ([] : List ((Int) × (Int) × DA × DA)))) 4294967296) then
 some ((m0, (m0_1, (m0_2, m0_3))), (m2, (m3, (r1014.2.1, ((r1015.2.1, r1015.2.2), ((r1011.1, (r1012.1, (r1013.1, r1015.1))) :: ([] : List ((Int) × (Int) × DA × DA))))))))
 else none
def qk (n : Nat) (m0 : Int) (m0_1 : Int) (m0_2 : Int) (m0_3 : Int) (m2 : DE) (m3 : DE) (m4 : DB) (m5 : Bool) (m6 : DA) (m6_1 : Bool) : Option ((Int × Int × Int × Int) × DE × DE × DB × Bool × DA × Bool) :=
 (qag n m5 m6 m6_1).bind fun r1025 =>
 (qag n r1025.2.1 r1025.2.2.1 r1025.2.2.2).bind fun r1026 =>
 (qbb n r1026.2.1 r1026.2.2.1 r1026.2.2.2).bind fun r1027 =>
 (qag n r1027.2.1 r1027.2.2.1 r1027.2.2.2).bind fun r1028 =>
 (qax n r1028.1 r1028.2.2.1 r1028.2.2.2).bind fun r1029 =>
 bif (Nat.ble (List.length (m3 ++ ((r1025.1, (r1026.1, (r1027.1, r1029.1))) :: ([] : List ((Int) × (Int) × DA × DA))))) 4294967296) then
 some ((m0, (m0_1, (m0_2, m0_3))), (m2, ((m3 ++ ((r1025.1, (r1026.1, (r1027.1, r1029.1))) :: ([] : List ((Int) × (Int) × DA × DA)))), (m4, (r1028.2.1, (r1029.2.1, r1029.2.2))))))
 else none
def qae_B0q0 (n : Nat) (n_4 : Int) (m0 : Bool) (m1 : Int) (m1_1 : Int) (m1_2 : Int) (m1_3 : Int) (m3 : DA) (m3_1 : Bool) (m4 : DE) (m5 : DB) : Option (((Int × Bool × (Int × Int × Int × Int) × (DA × Bool) × DE × DB) ⊕ (Int × Bool × (Int × Int × Int × Int) × (DA × Bool) × DE × DB × DE)) ⊕ ((Bool × (Int × Int × Int × Int) × (DA × Bool) × DE × DB) ⊕ (Bool × (Int × Int × Int × Int) × (DA × Bool) × DE × DB × DE))) :=
 bif (decide (n_4 > 0)) then
 bif (!m0) then
 (qbg n m3 m3_1).bind fun r1016 =>
 bif (!r1016.1) then
 (qi n m1 m1_1 m1_2 m1_3 m4 m5 m0 r1016.2.1 r1016.2.2).bind fun r1017 =>
 some (Sum.inl (Sum.inr ((subI .i64 n_4 1), (r1017.2.2.2.1, ((r1017.1.1, (r1017.1.2.1, (r1017.1.2.2.1, r1017.1.2.2.2))), ((r1017.2.2.2.2.1.1, r1017.2.2.2.2.1.2), (r1017.2.1, (r1017.2.2.1, r1017.2.2.2.2.2))))))))
 else
 some (Sum.inr (Sum.inl (m0, ((m1, (m1_1, (m1_2, m1_3))), ((r1016.2.1, r1016.2.2), (m4, m5))))))
 else
 some (Sum.inr (Sum.inl (m0, ((m1, (m1_1, (m1_2, m1_3))), ((m3, m3_1), (m4, m5))))))
 else
 some (Sum.inr (Sum.inl (m0, ((m1, (m1_1, (m1_2, m1_3))), ((m3, m3_1), (m4, m5))))))
def qae_B0q1 (n : Nat) (n_4 : Int) (m0 : Bool) (m1 : Int) (m1_1 : Int) (m1_2 : Int) (m1_3 : Int) (m3 : DA) (m3_1 : Bool) (m4 : DE) (m5 : DB) (m6 : DE) : Option (((Int × Bool × (Int × Int × Int × Int) × (DA × Bool) × DE × DB) ⊕ (Int × Bool × (Int × Int × Int × Int) × (DA × Bool) × DE × DB × DE)) ⊕ ((Bool × (Int × Int × Int × Int) × (DA × Bool) × DE × DB) ⊕ (Bool × (Int × Int × Int × Int) × (DA × Bool) × DE × DB × DE))) :=
 bif (decide (n_4 > 0)) then
 bif (!m0) then
 (qbg n m3 m3_1).bind fun r1030 =>
 bif (!r1030.1) then
 (qk n m1 m1_1 m1_2 m1_3 m4 m6 m5 m0 r1030.2.1 r1030.2.2).bind fun r1031 =>
 some (Sum.inl (Sum.inr ((subI .i64 n_4 1), (r1031.2.2.2.2.1, ((r1031.1.1, (r1031.1.2.1, (r1031.1.2.2.1, r1031.1.2.2.2))), ((r1031.2.2.2.2.2.1, r1031.2.2.2.2.2.2), (r1031.2.1, (r1031.2.2.2.1, r1031.2.2.1))))))))
 else
 some (Sum.inr (Sum.inr (m0, ((m1, (m1_1, (m1_2, m1_3))), ((r1030.2.1, r1030.2.2), (m4, (m5, m6)))))))
 else
 some (Sum.inr (Sum.inr (m0, ((m1, (m1_1, (m1_2, m1_3))), ((m3, m3_1), (m4, (m5, m6)))))))
 else
 some (Sum.inr (Sum.inr (m0, ((m1, (m1_1, (m1_2, m1_3))), ((m3, m3_1), (m4, (m5, m6)))))))
def qae_M0 (n : Nat) (s : (Int × Bool × (Int × Int × Int × Int) × (DA × Bool) × DE × DB) ⊕ (Int × Bool × (Int × Int × Int × Int) × (DA × Bool) × DE × DB × DE)) : Option (((Int × Bool × (Int × Int × Int × Int) × (DA × Bool) × DE × DB) ⊕ (Int × Bool × (Int × Int × Int × Int) × (DA × Bool) × DE × DB × DE)) ⊕ ((Bool × (Int × Int × Int × Int) × (DA × Bool) × DE × DB) ⊕ (Bool × (Int × Int × Int × Int) × (DA × Bool) × DE × DB × DE))) := Sum.rec (fun a0 => qae_B0q0 n a0.1 a0.2.1 a0.2.2.1.1 a0.2.2.1.2.1 a0.2.2.1.2.2.1 a0.2.2.1.2.2.2 a0.2.2.2.1.1 a0.2.2.2.1.2 a0.2.2.2.2.1 a0.2.2.2.2.2) (fun b0 => qae_B0q1 n b0.1 b0.2.1 b0.2.2.1.1 b0.2.2.1.2.1 b0.2.2.1.2.2.1 b0.2.2.1.2.2.2 b0.2.2.2.1.1 b0.2.2.2.1.2 b0.2.2.2.2.1 b0.2.2.2.2.2.1 b0.2.2.2.2.2.2) s
def qae_W0 (n : Nat) (s : (Int × Bool × (Int × Int × Int × Int) × (DA × Bool) × DE × DB) ⊕ (Int × Bool × (Int × Int × Int × Int) × (DA × Bool) × DE × DB × DE)) : Option ((Bool × (Int × Int × Int × Int) × (DA × Bool) × DE × DB) ⊕ (Bool × (Int × Int × Int × Int) × (DA × Bool) × DE × DB × DE)) := loopS (qae_M0 n) n s
def qae (n : Nat) (m0 : Bool) (m1 : Int) (m1_1 : Int) (m1_2 : Int) (m1_3 : Int) (m3 : DA) (m3_1 : Bool) (m4 : DE) (m5 : DB) : Option ((Bool × (Int × Int × Int × Int) × (DA × Bool) × DE × DB) ⊕ (Bool × (Int × Int × Int × Int) × (DA × Bool) × DE × DB × DE)) :=
 (qag n m0 m3 m3_1).bind fun r1032 =>
 (qae_W0 n (Sum.inl (r1032.1, (r1032.2.1, ((m1, (m1_1, (m1_2, m1_3))), ((r1032.2.2.1, r1032.2.2.2), (m4, m5))))))).bind fun r1033 =>
 Sum.rec (fun u1034 =>
 some (Sum.inl (u1034.1, ((u1034.2.1.1, (u1034.2.1.2.1, (u1034.2.1.2.2.1, u1034.2.1.2.2.2))), ((u1034.2.2.1.1, u1034.2.2.1.2), (u1034.2.2.2.1, u1034.2.2.2.2)))))) (fun v1035 =>
 some (Sum.inr (v1035.1, ((v1035.2.1.1, (v1035.2.1.2.1, (v1035.2.1.2.2.1, v1035.2.1.2.2.2))), ((v1035.2.2.1.1, v1035.2.2.1.2), (v1035.2.2.2.1, (v1035.2.2.2.2.1, v1035.2.2.2.2.2))))))) r1033
def qs (n : Nat) (m0 : Bool) (m1 : DA) (m1_1 : Bool) : Option ((DE × DE × DB × Int × Int × Int × Int) × Bool × DA × Bool) :=
 (qag n m0 m1 m1_1).bind fun r1036 =>
 (qag n r1036.2.1 r1036.2.2.1 r1036.2.2.2).bind fun r1037 =>
 (qag n r1037.2.1 r1037.2.2.1 r1037.2.2.2).bind fun r1038 =>
 (qao n r1038.2.1 r1038.2.2.1 r1038.2.2.2).bind fun r1039 =>
 (qat n r1039.2.1 r1037.1 r1038.1 r1036.1 r1039.1 r1039.2.2.1 r1039.2.2.2).bind fun r1040 =>
 Sum.rec (fun u1041 =>
 (qab n u1041.1 u1041.2.1.1 u1041.2.1.2.1 u1041.2.1.2.2.1 u1041.2.1.2.2.2 u1041.2.2.1 u1041.2.2.2).bind fun r1043 =>
 Sum.rec (fun u1044 =>
 (qw n u1044.1 u1044.2.1.1 u1044.2.1.2.1 u1044.2.1.2.2.1 u1044.2.1.2.2.2 u1044.2.2.1 u1044.2.2.2).bind fun r1046 =>
 Sum.rec (fun u1047 =>
 some (([], ([], ([], (u1047.2.1.1, (u1047.2.1.2.1, (u1047.2.1.2.2.1, u1047.2.1.2.2.2)))))), (u1047.1, (u1047.2.2.1, u1047.2.2.2)))) (fun v1048 =>
 some (([], (v1048.2.2.2, ([], (v1048.2.1.1, (v1048.2.1.2.1, (v1048.2.1.2.2.1, v1048.2.1.2.2.2)))))), (v1048.1, (v1048.2.2.1.1, v1048.2.2.1.2)))) r1046) (fun v1045 =>
 (qt n v1045.1 v1045.2.1.1 v1045.2.1.2.1 v1045.2.1.2.2.1 v1045.2.1.2.2.2 v1045.2.2.1.1 v1045.2.2.1.2 v1045.2.2.2).bind fun r1049 =>
 Sum.rec (fun u1050 =>
 some ((u1050.2.2.2, ([], ([], (u1050.2.1.1, (u1050.2.1.2.1, (u1050.2.1.2.2.1, u1050.2.1.2.2.2)))))), (u1050.1, (u1050.2.2.1.1, u1050.2.2.1.2)))) (fun v1051 =>
 some ((v1051.2.2.2.1, (v1051.2.2.2.2, ([], (v1051.2.1.1, (v1051.2.1.2.1, (v1051.2.1.2.2.1, v1051.2.1.2.2.2)))))), (v1051.1, (v1051.2.2.1.1, v1051.2.2.1.2)))) r1049) r1043) (fun v1042 =>
 (qv n v1042.1 v1042.2.1.1 v1042.2.1.2.1 v1042.2.1.2.2.1 v1042.2.1.2.2.2 v1042.2.2.1.1 v1042.2.2.1.2 v1042.2.2.2).bind fun r1052 =>
 Sum.rec (fun u1053 =>
 (qaa n u1053.1 u1053.2.1.1 u1053.2.1.2.1 u1053.2.1.2.2.1 u1053.2.1.2.2.2 u1053.2.2.1.1 u1053.2.2.1.2 u1053.2.2.2).bind fun r1055 =>
 Sum.rec (fun u1056 =>
 some (([], ([], (u1056.2.2.2, (u1056.2.1.1, (u1056.2.1.2.1, (u1056.2.1.2.2.1, u1056.2.1.2.2.2)))))), (u1056.1, (u1056.2.2.1.1, u1056.2.2.1.2)))) (fun v1057 =>
 some (([], (v1057.2.2.2.2, (v1057.2.2.2.1, (v1057.2.1.1, (v1057.2.1.2.1, (v1057.2.1.2.2.1, v1057.2.1.2.2.2)))))), (v1057.1, (v1057.2.2.1.1, v1057.2.2.1.2)))) r1055) (fun v1054 =>
 (qae n v1054.1 v1054.2.1.1 v1054.2.1.2.1 v1054.2.1.2.2.1 v1054.2.1.2.2.2 v1054.2.2.1.1 v1054.2.2.1.2 v1054.2.2.2.2 v1054.2.2.2.1).bind fun r1058 =>
 Sum.rec (fun u1059 =>
 some ((u1059.2.2.2.1, ([], (u1059.2.2.2.2, (u1059.2.1.1, (u1059.2.1.2.1, (u1059.2.1.2.2.1, u1059.2.1.2.2.2)))))), (u1059.1, (u1059.2.2.1.1, u1059.2.2.1.2)))) (fun v1060 =>
 some ((v1060.2.2.2.1, (v1060.2.2.2.2.2, (v1060.2.2.2.2.1, (v1060.2.1.1, (v1060.2.1.2.1, (v1060.2.1.2.2.1, v1060.2.1.2.2.2)))))), (v1060.1, (v1060.2.2.1.1, v1060.2.2.1.2)))) r1058) r1052) r1040
def qbs (n : Nat) (b_0 : DA) : Option (DA × Int) :=
 (qbj n b_0 1).bind fun r1079 =>
 Sum.rec (fun u1080 =>
 bif (u1080.2 != 0) then
 some (([] : DC), u1080.2)
 else
 (qaf n Bool.false).bind fun r1082 =>
 none) (fun v1081 =>
 bif (v1081.1.2 != 0) then
 some (([] : DC), v1081.1.2)
 else
 (qs n Bool.false v1081.2.1 v1081.2.2).bind fun r1083 =>
 bif r1083.2.1 then
 some (([] : DC), 2)
 else
 (qbg n r1083.2.2.1 r1083.2.2.2).bind fun r1084 =>
 bif r1084.1 then
 some (([] : DC), 2)
 else
 (qaw n r1084.2.1 r1084.2.2).bind fun r1085 =>
 bif (decide (r1085.1 > 0)) then
 some (([] : DC), 2)
 else
 (qbl n r1083.1.1 r1083.1.2.1 r1083.1.2.2.1 r1083.1.2.2.2.1 r1083.1.2.2.2.2.1 r1083.1.2.2.2.2.2.1 r1083.1.2.2.2.2.2.2 v1081.1.1).bind fun r1086 =>
 some (r1086, 0)) r1079
def qba (n : Nat) : Option (Bool) :=
 (qbw n ([] : List ((Int) × (Int) × DA × DA)) ([] : List ((Int) × (Int) × DA × DA)) ([] : List ((Int) × (Int) × Bool)) 5 0 0 0 9).bind fun r1087 =>
 (qbs n r1087).bind fun r1088 =>
 bif (r1088.2 == 0) then
 bif ((lenI r1088.1) == 16) then
 (getI r1088.1 0).bind fun x1089 =>
 some (x1089 == 2)
 else
 some false
 else
 some false
def law21OldTurned_B0 (n : Nat) (t2 : Int) (t8 : Int) (t9 : Int) (m0 : DE) (m0_1 : DE) (m0_2 : DB) (m0_3 : Int) (m0_4 : Int) (m0_5 : Int) (m0_6 : Int) (m1 : DA) : Option (((Int × Int × Int) × (DE × DE × DB × Int × Int × Int × Int) × DA) ⊕ ((DE × DE × DB × Int × Int × Int × Int) × DA)) :=
 bif (decide (t9 < 4)) then
 bif ((decide (0 ≤ (addI .i64 t8 t9))) && (decide ((addI .i64 t8 t9) < (((List.length m1) : Nat) : Int)))) then
 (m1[(Int.toNat (addI .i64 t8 t9))]?).bind fun x1098 =>
 bif (decide (0 ≤ (cvtI .u64 (mulI .i64 8 t9)))) then
 bif ((decide (0 ≤ (addI .i64 t8 t9))) && (decide ((addI .i64 t8 t9) < (((List.length m1) : Nat) : Int)))) then
 bif (Nat.ble ((Int.toNat (addI .i64 t8 t9)) + 1) (List.length m1)) then
 some (Sum.inl ((t2, (t8, (addI .i64 t9 1))), ((m0, (m0_1, (m0_2, (m0_3, (m0_4, (m0_5, m0_6)))))), (List.set m1 (Int.toNat (addI .i64 t8 t9)) (xorI .u8 x1098 (cvtI .u8 (shrI .u32 t2 (cvtI .u64 (mulI .i64 8 t9)))))))))
 else none
 else none
 else none
 else none
 else
 some (Sum.inr ((m0, (m0_1, (m0_2, (m0_3, (m0_4, (m0_5, m0_6)))))), m1))
def law21OldTurned_W0 (n : Nat) (s : (Int × Int × Int) × (DE × DE × DB × Int × Int × Int × Int) × DA) : Option ((DE × DE × DB × Int × Int × Int × Int) × DA) := loopS (fun s => law21OldTurned_B0 n s.1.1 s.1.2.1 s.1.2.2 s.2.1.1 s.2.1.2.1 s.2.1.2.2.1 s.2.1.2.2.2.1 s.2.1.2.2.2.2.1 s.2.1.2.2.2.2.2.1 s.2.1.2.2.2.2.2.2 s.2.2) n s
def law21OldTurned (n : Nat) (t0 : DE) (t0_1 : DE) (t0_2 : DB) (t0_3 : Int) (t0_4 : Int) (t0_5 : Int) (t0_6 : Int) (t1 : Int) (t2 : Int) : Option (Bool) :=
 (qbr n t0 t0_1 t0_2 t0_3 t0_4 t0_5 t0_6).bind fun r1113 =>
 bif (!r1113) then
 (qba n).bind fun r1114 =>
 some r1114
 else
 bif (t2 == 0) then
 (qba n).bind fun r1115 =>
 some r1115
 else
 (qbp n t0 t0_1 t0_2 t0_3 t0_4 t0_5 t0_6 7 Bool.true).bind fun r1116 =>
 bif (decide ((lenI r1116) > 65536)) then
 (qba n).bind fun r1117 =>
 some r1117
 else
 bif (!((subI .i64 (lenI r1116) 4) == 0)) then
 (law21OldTurned_W0 n ((t2, ((remI (cvtI .i64 t1) (subI .i64 (lenI r1116) 4)), 0)), ((t0, (t0_1, (t0_2, (t0_3, (t0_4, (t0_5, t0_6)))))), r1116))).bind fun r1118 =>
 (qbs n r1118.2).bind fun r1119 =>
 (qba n).bind fun r1120 =>
 bif r1120 then
 bif (r1119.2 == 3) then
 bif ((lenI r1119.1) == 0) then
 (qbk n r1118.1.1 r1118.1.2.1 r1118.1.2.2.1 r1118.1.2.2.2.1 r1118.1.2.2.2.2.1 r1118.1.2.2.2.2.2.1 r1118.1.2.2.2.2.2.2 r1118.1.1 r1118.1.2.1 r1118.1.2.2.1 r1118.1.2.2.2.1 r1118.1.2.2.2.2.1 r1118.1.2.2.2.2.2.1 r1118.1.2.2.2.2.2.2).bind fun r1121 =>
 some r1121
 else
 some false
 else
 some false
 else
 some false
 else none
def law21OldVersions (n : Nat) (s_0 : DE) (s_0_1 : DE) (s_0_2 : DB) (s_0_3 : Int) (s_0_4 : Int) (s_0_5 : Int) (s_0_6 : Int) (print_1 : Int) : Option (Bool) :=
 (qbr n s_0 s_0_1 s_0_2 s_0_3 s_0_4 s_0_5 s_0_6).bind fun r1138 =>
 bif (!r1138) then
 (qba n).bind fun r1139 =>
 some r1139
 else
 (qbp n s_0 s_0_1 s_0_2 s_0_3 s_0_4 s_0_5 s_0_6 print_1 Bool.true).bind fun r1140 =>
 (qbp n s_0 s_0_1 s_0_2 s_0_3 s_0_4 s_0_5 s_0_6 print_1 Bool.false).bind fun r1141 =>
 bif (decide ((lenI r1140) > 65536)) then
 (qba n).bind fun r1142 =>
 some r1142
 else
 bif (decide ((lenI r1141) > 65536)) then
 (qba n).bind fun r1143 =>
 some r1143
 else
 (qbs n r1141).bind fun r1144 =>
 (qbi n r1140).bind fun r1145 =>
 (qba n).bind fun r1146 =>
 bif r1146 then
 bif (r1144.2 == 2) then
 bif ((lenI r1144.1) == 0) then
 some (r1145.2.2 == 2)
 else
 some false
 else
 some false
 else
 some false
end
end Sx
