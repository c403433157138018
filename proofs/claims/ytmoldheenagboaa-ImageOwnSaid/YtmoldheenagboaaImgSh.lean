import Derived.Test.YtmoldheenagboaaLib5
import Derived.KernelRfl
open Go Go.Ab
set_option linter.unusedVariables false
set_option maxRecDepth 20000
namespace Sx
noncomputable section
abbrev DA := List Int
abbrev DB := List (Int × Int × Bool)
abbrev DC := List (Int)
abbrev DD := List (Nat × Int × Int)
abbrev DE := List (Int × Int × DA × DA)
def qak_B0 (n : Nat) (t3 : Int) (t4 : Int) (m0 : DE) (m0_1 : DE) (m0_2 : DB) (m0_3 : Int) (m0_4 : Int) (m0_5 : Int) (m0_6 : Int) : Option (((Int × Int) × DE × DE × DB × Int × Int × Int × Int) ⊕ (Int × DE × DE × DB × Int × Int × Int × Int)) :=
 bif (decide (t4 < (lenI m0_1))) then
 (getI m0_1 t4).bind fun x0 =>
 (getI m0_1 t4).bind fun x1 =>
 some (Sum.inl (((addI .i64 (addI .i64 t3 (lenI x0.2.2.1)) (lenI x1.2.2.2)), (addI .i64 t4 1)), (m0, (m0_1, (m0_2, (m0_3, (m0_4, (m0_5, m0_6))))))))
 else
 some (Sum.inr (t3, (m0, (m0_1, (m0_2, (m0_3, (m0_4, (m0_5, m0_6))))))))
def qak_W0 (n : Nat) (s : (Int × Int) × DE × DE × DB × Int × Int × Int × Int) : Option (Int × DE × DE × DB × Int × Int × Int × Int) := loopS (fun s => qak_B0 n s.1.1 s.1.2 s.2.1 s.2.2.1 s.2.2.2.1 s.2.2.2.2.1 s.2.2.2.2.2.1 s.2.2.2.2.2.2.1 s.2.2.2.2.2.2.2) n s
def qak_B2 (n : Nat) (t3 : Int) (t5 : Int) (m0 : DE) (m0_1 : DE) (m0_2 : DB) (m0_3 : Int) (m0_4 : Int) (m0_5 : Int) (m0_6 : Int) : Option (((Int × Int) × DE × DE × DB × Int × Int × Int × Int) ⊕ (Int × DE × DE × DB × Int × Int × Int × Int)) :=
 bif (decide (t5 < (lenI m0))) then
 (getI m0 t5).bind fun x3 =>
 (getI m0 t5).bind fun x4 =>
 some (Sum.inl (((addI .i64 (addI .i64 t3 (lenI x3.2.2.1)) (lenI x4.2.2.2)), (addI .i64 t5 1)), (m0, (m0_1, (m0_2, (m0_3, (m0_4, (m0_5, m0_6))))))))
 else
 some (Sum.inr (t3, (m0, (m0_1, (m0_2, (m0_3, (m0_4, (m0_5, m0_6))))))))
def qak_W2 (n : Nat) (s : (Int × Int) × DE × DE × DB × Int × Int × Int × Int) : Option (Int × DE × DE × DB × Int × Int × Int × Int) := loopS (fun s => qak_B2 n s.1.1 s.1.2 s.2.1 s.2.2.1 s.2.2.2.1 s.2.2.2.2.1 s.2.2.2.2.2.1 s.2.2.2.2.2.2.1 s.2.2.2.2.2.2.2) n s
def qak (n : Nat) (t0 : DE) (t0_1 : DE) (t0_2 : DB) (t0_3 : Int) (t0_4 : Int) (t0_5 : Int) (t0_6 : Int) : Option (Bool) :=
 bif (decide ((addI .i64 (addI .i64 (lenI t0_1) (lenI t0_2)) (lenI t0)) > 300)) then
 some false
 else
 (qak_W0 n (((addI .i64 (addI .i64 (lenI t0_1) (lenI t0_2)) (lenI t0)), 0), (t0, (t0_1, (t0_2, (t0_3, (t0_4, (t0_5, t0_6)))))))).bind fun r5 =>
 (qak_W2 n ((r5.1, 0), (r5.2.1, (r5.2.2.1, (r5.2.2.2.1, (r5.2.2.2.2.1, (r5.2.2.2.2.2.1, (r5.2.2.2.2.2.2.1, r5.2.2.2.2.2.2.2)))))))).bind fun r6 =>
 some (decide (r6.1 < 3000))
def qau_B0 (n : Nat) (v_0 : Int) (t9 : Int) (t10 : Int) (m0 : DA) : Option (((Int × Int × Int) × DA) ⊕ DA) :=
 bif (decide (t10 < t9)) then
 bif (decide (0 ≤ (mulI .i64 8 t10))) then
 bif (Nat.ble (List.length (m0 ++ ((cvtI .u8 (shrI .u64 v_0 (mulI .i64 8 t10))) :: ([] : DC)))) 4294967296) then
 some (Sum.inl ((v_0, (t9, (addI .i64 t10 1))), (m0 ++ ((cvtI .u8 (shrI .u64 v_0 (mulI .i64 8 t10))) :: ([] : DC)))))
 else none
 else none
 else
 some (Sum.inr m0)
def qau_W0 (n : Nat) (s : (Int × Int × Int) × DA) : Option DA := loopS (fun s => qau_B0 n s.1.1 s.1.2.1 s.1.2.2 s.2) n s
def qau (n : Nat) (v_0 : Int) (n_1 : Int) : Option DA :=
 (qau_W0 n ((v_0, ((minI (maxI n_1 0) 8), 0)), ([] : DC))).bind fun r8 =>
 some r8
def qay_B0 (n : Nat) (v_0 : Int) (m0 : DA) : Option ((Int × DA) ⊕ (Int × DA)) :=
 bif (decide (v_0 ≥ 128)) then
 bif (Nat.ble (List.length (m0 ++ ((orI .u8 (cvtI .u8 v_0) 128) :: ([] : DC)))) 4294967296) then
 some (Sum.inl ((shrI .u64 v_0 7), (m0 ++ ((orI .u8 (cvtI .u8 v_0) 128) :: ([] : DC)))))
 else none
 else
 some (Sum.inr (v_0, m0))
def qay_W0 (n : Nat) (s : Int × DA) : Option (Int × DA) := loopS (fun s => qay_B0 n s.1 s.2) n s
def qay (n : Nat) (v_0 : Int) : Option DA :=
 (qay_W0 n (v_0, ([] : DC))).bind fun r10 =>
 bif (Nat.ble (List.length (r10.2 ++ ((cvtI .u8 r10.1) :: ([] : DC)))) 4294967296) then
 some (r10.2 ++ ((cvtI .u8 r10.1) :: ([] : DC)))
 else none
def qn (n : Nat) (v_1 : Int) (m1 : DA) : Option DA :=
 (qay n v_1).bind fun r11 =>
 bif (Nat.ble (List.length (m1 ++ r11)) 4294967296) then
 some (m1 ++ r11)
 else none
def qk (n : Nat) (n_1 : Int) (m1 : DA) : Option DA :=
 (qn n (cvtI .u64 (maxI n_1 0)) m1).bind fun r12 =>
 some r12
def qad_B0 (n : Nat) (t27 : Int) (t27_1 : Int) (t27_2 : Int) (t28 : Int) (m0 : DE) (m0_1 : DE) (m0_2 : DB) (m0_3 : Int) (m0_4 : Int) (m0_5 : Int) (m0_6 : Int) (m2 : DA) : Option ((((Int × Int × Int) × Int) × (DE × DE × DB × Int × Int × Int × Int) × DA) ⊕ ((DE × DE × DB × Int × Int × Int × Int) × DA)) :=
 bif (decide (t28 < 3)) then
 bif ((decide (0 ≤ t28)) && (decide (t28 < 3))) then
 bif (Nat.beq (Int.toNat t28) 0) then
 (qk n t27 m2).bind fun r13 =>
 some (Sum.inl (((t27, (t27_1, t27_2)), (addI .i64 t28 1)), ((m0, (m0_1, (m0_2, (m0_3, (m0_4, (m0_5, m0_6)))))), r13)))
 else
 bif (Nat.beq (Int.toNat t28) 1) then
 (qk n t27_1 m2).bind fun r14 =>
 some (Sum.inl (((t27, (t27_1, t27_2)), (addI .i64 t28 1)), ((m0, (m0_1, (m0_2, (m0_3, (m0_4, (m0_5, m0_6)))))), r14)))
 else
 bif (Nat.beq (Int.toNat t28) 2) then
 (qk n t27_2 m2).bind fun r15 =>
 some (Sum.inl (((t27, (t27_1, t27_2)), (addI .i64 t28 1)), ((m0, (m0_1, (m0_2, (m0_3, (m0_4, (m0_5, m0_6)))))), r15)))
 else none
 else none
 else
 some (Sum.inr ((m0, (m0_1, (m0_2, (m0_3, (m0_4, (m0_5, m0_6)))))), m2))
def qad_W0 (n : Nat) (s : ((Int × Int × Int) × Int) × (DE × DE × DB × Int × Int × Int × Int) × DA) : Option ((DE × DE × DB × Int × Int × Int × Int) × DA) := loopS (fun s => qad_B0 n s.1.1.1 s.1.1.2.1 s.1.1.2.2 s.1.2 s.2.1.1 s.2.1.2.1 s.2.1.2.2.1 s.2.1.2.2.2.1 s.2.1.2.2.2.2.1 s.2.1.2.2.2.2.2.1 s.2.1.2.2.2.2.2.2 s.2.2) n s
def ql_B0 (n : Nat) (t10 : DA) (t11 : Int) (t12 : Int) (m1 : DA) : Option (((DA × Int × Int) × DA) ⊕ DA) :=
 bif (decide (t12 < t11)) then
 (getI t10 t12).bind fun x27 =>
 (qn n x27 m1).bind fun r28 =>
 some (Sum.inl ((t10, (t11, (addI .i64 t12 1))), r28))
 else
 some (Sum.inr m1)
def ql_W0 (n : Nat) (s : (DA × Int × Int) × DA) : Option DA := loopS (fun s => ql_B0 n s.1.1 s.1.2.1 s.1.2.2 s.2) n s
def ql (n : Nat) (list_1 : DA) (m1 : DA) : Option DA :=
 (qk n (lenI list_1) m1).bind fun r29 =>
 (ql_W0 n ((list_1, ((lenI list_1), 0)), r29)).bind fun r30 =>
 some r30
def qd (n : Nat) (f_1 : Int) (f_1_1 : Int) (f_1_2 : DA) (f_1_3 : DA) (m1 : DA) : Option DA :=
 (qk n f_1 m1).bind fun r31 =>
 (qk n f_1_1 r31).bind fun r32 =>
 (ql n f_1_2 r32).bind fun r33 =>
 (ql n f_1_3 r33).bind fun r34 =>
 some r34
def qad_B2 (n : Nat) (t45 : DE) (t46 : Int) (t47 : Int) (m0 : DE) (m0_1 : DE) (m0_2 : DB) (m0_3 : Int) (m0_4 : Int) (m0_5 : Int) (m0_6 : Int) (m2 : DA) : Option (((DE × Int × Int) × (DE × DE × DB × Int × Int × Int × Int) × DA) ⊕ ((DE × DE × DB × Int × Int × Int × Int) × DA)) :=
 bif (decide (t47 < t46)) then
 (getI t45 t47).bind fun x35 =>
 (qd n x35.1 x35.2.1 x35.2.2.1 x35.2.2.2 m2).bind fun r36 =>
 some (Sum.inl ((t45, (t46, (addI .i64 t47 1))), ((m0, (m0_1, (m0_2, (m0_3, (m0_4, (m0_5, m0_6)))))), r36)))
 else
 some (Sum.inr ((m0, (m0_1, (m0_2, (m0_3, (m0_4, (m0_5, m0_6)))))), m2))
def qad_W2 (n : Nat) (s : (DE × Int × Int) × (DE × DE × DB × Int × Int × Int × Int) × DA) : Option ((DE × DE × DB × Int × Int × Int × Int) × DA) := loopS (fun s => qad_B2 n s.1.1 s.1.2.1 s.1.2.2 s.2.1.1 s.2.1.2.1 s.2.1.2.2.1 s.2.1.2.2.2.1 s.2.1.2.2.2.2.1 s.2.1.2.2.2.2.2.1 s.2.1.2.2.2.2.2.2 s.2.2) n s
def qp (n : Nat) (o_1 : Int) (o_1_1 : Int) (o_1_2 : DA) (o_1_3 : DA) (m1 : DA) : Option DA :=
 (qk n o_1 m1).bind fun r46 =>
 (qk n o_1_1 r46).bind fun r47 =>
 (ql n o_1_2 r47).bind fun r48 =>
 (qk n (lenI o_1_3) r48).bind fun r49 =>
 bif (Nat.ble (List.length (r49 ++ o_1_3)) 4294967296) then
 some (r49 ++ o_1_3)
 else none
def qad_B4 (n : Nat) (t61 : DE) (t62 : Int) (t63 : Int) (m0 : DE) (m0_1 : DE) (m0_2 : DB) (m0_3 : Int) (m0_4 : Int) (m0_5 : Int) (m0_6 : Int) (m2 : DA) : Option (((DE × Int × Int) × (DE × DE × DB × Int × Int × Int × Int) × DA) ⊕ ((DE × DE × DB × Int × Int × Int × Int) × DA)) :=
 bif (decide (t63 < t62)) then
 (getI t61 t63).bind fun x50 =>
 (qp n x50.1 x50.2.1 x50.2.2.1 x50.2.2.2 m2).bind fun r51 =>
 some (Sum.inl ((t61, (t62, (addI .i64 t63 1))), ((m0, (m0_1, (m0_2, (m0_3, (m0_4, (m0_5, m0_6)))))), r51)))
 else
 some (Sum.inr ((m0, (m0_1, (m0_2, (m0_3, (m0_4, (m0_5, m0_6)))))), m2))
def qad_W4 (n : Nat) (s : (DE × Int × Int) × (DE × DE × DB × Int × Int × Int × Int) × DA) : Option ((DE × DE × DB × Int × Int × Int × Int) × DA) := loopS (fun s => qad_B4 n s.1.1 s.1.2.1 s.1.2.2 s.2.1.1 s.2.1.2.1 s.2.1.2.2.1 s.2.1.2.2.2.1 s.2.1.2.2.2.2.1 s.2.1.2.2.2.2.2.1 s.2.1.2.2.2.2.2.2 s.2.2) n s
def qt (n : Nat) (h_1 : Int) (h_1_1 : Int) (h_1_2 : Bool) (m1 : DA) : Option DA :=
 (qk n h_1 m1).bind fun r62 =>
 (qn n h_1_1 r62).bind fun r63 =>
 bif h_1_2 then
 (qn n 1 r63).bind fun r64 =>
 some r64
 else
 (qn n 0 r63).bind fun r65 =>
 some r65
def qad_B6 (n : Nat) (t77 : DB) (t78 : Int) (t79 : Int) (m1 : DA) : Option (((DB × Int × Int) × DA) ⊕ DA) :=
 bif (decide (t79 < t78)) then
 (getI t77 t79).bind fun x66 =>
 (qt n x66.1 x66.2.1 x66.2.2 m1).bind fun r67 =>
 some (Sum.inl ((t77, (t78, (addI .i64 t79 1))), r67))
 else
 some (Sum.inr m1)
def qad_W6 (n : Nat) (s : (DB × Int × Int) × DA) : Option DA := loopS (fun s => qad_B6 n s.1.1 s.1.2.1 s.1.2.2 s.2) n s
def qaz_B2 (n : Nat) (n_3 : Int) (t7 : DA) (t8 : Int) (t9 : Int) (t17 : Int) : Option ((Int × DA × Int × Int × Int) ⊕ (Int × DA × Int × Int)) :=
 bif (decide (t17 < 8)) then
 some (Sum.inl ((xorI .u32 (shrI .u32 n_3 1) (mulI .u32 3988292384 (andI .u32 n_3 1))), (t7, (t8, (t9, (addI .i64 t17 1))))))
 else
 some (Sum.inr (n_3, (t7, (t8, t9))))
def qaz_W2 (n : Nat) (s : Int × DA × Int × Int × Int) : Option (Int × DA × Int × Int) := loopS (fun s => qaz_B2 n s.1 s.2.1 s.2.2.1 s.2.2.2.1 s.2.2.2.2) n s
def qaz_B0 (n : Nat) (n_3 : Int) (t7 : DA) (t8 : Int) (t9 : Int) : Option ((Int × DA × Int × Int) ⊕ (Int)) :=
 bif (decide (t9 < t8)) then
 (getI t7 t9).bind fun x78 =>
 (qaz_W2 n ((xorI .u32 n_3 (cvtI .u32 x78)), (t7, (t8, (t9, 0))))).bind fun r79 =>
 some (Sum.inl (r79.1, (r79.2.1, (r79.2.2.1, (addI .i64 r79.2.2.2 1)))))
 else
 some (Sum.inr n_3)
def qaz_W0 (n : Nat) (s : Int × DA × Int × Int) : Option (Int) := loopS (fun s => qaz_B0 n s.1 s.2.1 s.2.2.1 s.2.2.2) n s
def qaz (n : Nat) (b_0 : DA) : Option (Int) :=
 (qaz_W0 n (4294967295, (b_0, ((lenI b_0), 0)))).bind fun r80 =>
 some (notI .u32 r80)
def qaw (n : Nat) (b_0 : DA) : Option DA :=
 bif (Nat.ble (List.length b_0) 4294967296) then
 (qaz n b_0).bind fun r82 =>
 (qau n (cvtI .u64 r82) 4).bind fun r83 =>
 bif (Nat.ble (List.length (b_0 ++ r83)) 4294967296) then
 some (b_0 ++ r83)
 else none
 else none
def qad (n : Nat) (t0 : DE) (t0_1 : DE) (t0_2 : DB) (t0_3 : Int) (t0_4 : Int) (t0_5 : Int) (t0_6 : Int) (t1 : Int) : Option DA :=
 (qau n (cvtI .u64 t1) 4).bind fun r84 =>
 bif (Nat.ble (List.length ((2 :: ([] : DC)) ++ r84)) 4294967296) then
 (qad_W0 n (((t0_5, (t0_3, t0_4)), 0), ((t0, (t0_1, (t0_2, (t0_3, (t0_4, (t0_5, t0_6)))))), ((2 :: ([] : DC)) ++ r84)))).bind fun r85 =>
 (qn n r85.1.2.2.2.2.2.2 r85.2).bind fun r86 =>
 (qk n (lenI r85.1.1) r86).bind fun r87 =>
 (qad_W2 n ((r85.1.1, ((lenI r85.1.1), 0)), ((r85.1.1, (r85.1.2.1, (r85.1.2.2.1, (r85.1.2.2.2.1, (r85.1.2.2.2.2.1, (r85.1.2.2.2.2.2.1, r85.1.2.2.2.2.2.2)))))), r87))).bind fun r88 =>
 (qk n (lenI r88.1.2.1) r88.2).bind fun r89 =>
 (qad_W4 n ((r88.1.2.1, ((lenI r88.1.2.1), 0)), ((r88.1.1, (r88.1.2.1, (r88.1.2.2.1, (r88.1.2.2.2.1, (r88.1.2.2.2.2.1, (r88.1.2.2.2.2.2.1, r88.1.2.2.2.2.2.2)))))), r89))).bind fun r90 =>
 (qk n (lenI r90.1.2.2.1) r90.2).bind fun r91 =>
 (qad_W6 n ((r90.1.2.2.1, ((lenI r90.1.2.2.1), 0)), r91)).bind fun r92 =>
 (qaw n r92).bind fun r93 =>
 some r93
 else none
def qax (n : Nat) (b_0 : DA) : Option (DA × Int) :=
 bif (decide ((lenI b_0) < 4)) then
 some (([] : DC), 3)
 else
 bif ((decide (0 ≤ (subI .i64 (lenI b_0) 4))) && (decide ((subI .i64 (lenI b_0) 4) ≤ (((List.length b_0) : Nat) : Int)))) then
 (qaw n (List.take (Int.toNat (subI .i64 (lenI b_0) 4)) b_0)).bind fun r95 =>
 bif (!(eqS (intsBytes r95) (intsBytes b_0))) then
 some (([] : DC), 3)
 else
 bif (Nat.ble (List.length (List.take (Int.toNat (subI .i64 (lenI b_0) 4)) b_0)) 4294967296) then
 some ((List.take (Int.toNat (subI .i64 (lenI b_0) 4)) b_0), 0)
 else none
 else none
def qx (n : Nat) (b_0 : DA) : Option (DA × Bool) :=
 bif (Nat.ble (List.length b_0) 4294967296) then
 some (b_0, false)
 else none
def qab (n : Nat) (m0 : DA) (m0_1 : Bool) : Option (Bool × DA × Bool) :=
 some (m0_1, (m0, m0_1))
def qw (n : Nat) (m0 : DA) (m0_1 : Bool) : Option (DA × Bool) :=
 some (m0, true)
def qv (n : Nat) (n_1 : Int) (m0 : DA) (m0_1 : Bool) : Option (DA × DA × Bool) :=
 (qab n m0 m0_1).bind fun r100 =>
 bif r100.1 then
 (qw n r100.2.1 r100.2.2).bind fun r101 =>
 some (([] : DC), (r101.1, r101.2))
 else
 bif (decide (n_1 < 0)) then
 (qw n r100.2.1 r100.2.2).bind fun r102 =>
 some (([] : DC), (r102.1, r102.2))
 else
 bif (decide (n_1 > (lenI r100.2.1))) then
 (qw n r100.2.1 r100.2.2).bind fun r103 =>
 some (([] : DC), (r103.1, r103.2))
 else
 bif ((decide (0 ≤ n_1)) && (decide (n_1 ≤ (((List.length r100.2.1) : Nat) : Int)))) then
 bif (Nat.ble (List.length (List.take (Int.toNat n_1) r100.2.1)) 4294967296) then
 bif ((decide (0 ≤ n_1)) && (decide (n_1 ≤ (((List.length r100.2.1) : Nat) : Int)))) then
 some ((List.take (Int.toNat n_1) r100.2.1), ((List.drop (Int.toNat n_1) (List.take (List.length r100.2.1) r100.2.1)), r100.2.2))
 else none
 else none
 else none
def qz (n : Nat) (s_0 : DA) : Option DA :=
 some s_0
def fixV (xs : DA) : Int := xs.foldr (fun c v => orI .u64 (IntKind.u64.wrap (v * 256)) (IntKind.u64.wrap c)) 0
def qm (n : Nat) (n_1 : Int) (m0 : DA) (m0_1 : Bool) : Option (Int × DA × Bool) :=
 (qv n (minI (maxI n_1 0) 8) m0 m0_1).bind fun r => some (fixV r.1, r.2)
def qae (n : Nat) (b_0 : DA) (first_1 : Int) : Option ((Int × Int) ⊕ ((Int × Int) × DA × Bool)) :=
 bif (decide ((lenI b_0) > 65536)) then
 some (Sum.inl (0, 2))
 else
 (qax n b_0).bind fun r110 =>
 bif (r110.2 != 0) then
 some (Sum.inl (0, r110.2))
 else
 (qx n r110.1).bind fun r111 =>
 (qm n 1 r111.1 r111.2).bind fun r112 =>
 bif (r112.1 != (cvtI .u64 first_1)) then
 some (Sum.inl (0, 2))
 else
 (qab n r112.2.1 r112.2.2).bind fun r113 =>
 bif r113.1 then
 some (Sum.inl (0, 2))
 else
 (qm n 4 r113.2.1 r113.2.2).bind fun r114 =>
 (qab n r114.2.1 r114.2.2).bind fun r115 =>
 bif r115.1 then
 some (Sum.inl (0, 2))
 else
 some (Sum.inr (((cvtI .u32 r114.1), 0), (r115.2.1, r115.2.2)))
def qo (n : Nat) : Option (Empty) :=
 none
def qg (n : Nat) (n_1 : Int) : Option (Empty) :=
 (qo n).bind fun r119 =>
 none
def qaa_B0 (n : Nat) (v_3 : Int) (k_4 : Int) : Option ((Int × Int) ⊕ (Empty)) :=
 (qg n 1).bind fun r120 =>
 none
def qaa_W0 (n : Nat) (s : Int × Int) : Option (Empty) := loopS (fun s => qaa_B0 n s.1 s.2) n s
def qaa (n : Nat) : Option (Empty) :=
 (qaa_W0 n (0, 0)).bind fun r121 =>
 none
def qj (n : Nat) (m0 : Bool) : Option (Empty) :=
 (qaa n).bind fun r122 =>
 none
def qr_B0 (n : Nat) (v_3 : Int) (k_4 : Int) (m0 : DA) (m0_1 : Bool) : Option (((Int × Int) × DA × Bool) ⊕ (Int × DA × Bool)) :=
 (qv n 1 m0 m0_1).bind fun r129 =>
 bif ((lenI r129.1) == 0) then
 some (Sum.inr (0, (r129.2.1, r129.2.2)))
 else
 (getI r129.1 0).bind fun x130 =>
 bif (k_4 == 9) then
 bif (decide (x130 > 1)) then
 (qw n r129.2.1 r129.2.2).bind fun r131 =>
 some (Sum.inr (0, (r131.1, r131.2)))
 else
 bif (decide (k_4 > 0)) then
 bif (x130 == 0) then
 (qw n r129.2.1 r129.2.2).bind fun r132 =>
 some (Sum.inr (0, (r132.1, r132.2)))
 else
 bif (decide (0 ≤ (mulI .i64 7 k_4))) then
 bif (decide (x130 < 128)) then
 some (Sum.inr ((orI .u64 v_3 (shlI .u64 (cvtI .u64 (andNotI .u8 x130 128)) (mulI .i64 7 k_4))), (r129.2.1, r129.2.2)))
 else
 some (Sum.inl (((orI .u64 v_3 (shlI .u64 (cvtI .u64 (andNotI .u8 x130 128)) (mulI .i64 7 k_4))), (addI .i64 k_4 1)), (r129.2.1, r129.2.2)))
 else none
 else
 bif (decide (0 ≤ (mulI .i64 7 k_4))) then
 bif (decide (x130 < 128)) then
 some (Sum.inr ((orI .u64 v_3 (shlI .u64 (cvtI .u64 (andNotI .u8 x130 128)) (mulI .i64 7 k_4))), (r129.2.1, r129.2.2)))
 else
 some (Sum.inl (((orI .u64 v_3 (shlI .u64 (cvtI .u64 (andNotI .u8 x130 128)) (mulI .i64 7 k_4))), (addI .i64 k_4 1)), (r129.2.1, r129.2.2)))
 else none
 else
 bif (decide (k_4 > 0)) then
 bif (x130 == 0) then
 (qw n r129.2.1 r129.2.2).bind fun r133 =>
 some (Sum.inr (0, (r133.1, r133.2)))
 else
 bif (decide (0 ≤ (mulI .i64 7 k_4))) then
 bif (decide (x130 < 128)) then
 some (Sum.inr ((orI .u64 v_3 (shlI .u64 (cvtI .u64 (andNotI .u8 x130 128)) (mulI .i64 7 k_4))), (r129.2.1, r129.2.2)))
 else
 some (Sum.inl (((orI .u64 v_3 (shlI .u64 (cvtI .u64 (andNotI .u8 x130 128)) (mulI .i64 7 k_4))), (addI .i64 k_4 1)), (r129.2.1, r129.2.2)))
 else none
 else
 bif (decide (0 ≤ (mulI .i64 7 k_4))) then
 bif (decide (x130 < 128)) then
 some (Sum.inr ((orI .u64 v_3 (shlI .u64 (cvtI .u64 (andNotI .u8 x130 128)) (mulI .i64 7 k_4))), (r129.2.1, r129.2.2)))
 else
 some (Sum.inl (((orI .u64 v_3 (shlI .u64 (cvtI .u64 (andNotI .u8 x130 128)) (mulI .i64 7 k_4))), (addI .i64 k_4 1)), (r129.2.1, r129.2.2)))
 else none
def qr_W0 (n : Nat) (s : (Int × Int) × DA × Bool) : Option (Int × DA × Bool) := loopS (fun s => qr_B0 n s.1.1 s.1.2 s.2.1 s.2.2) n s
def qr (n : Nat) (m0 : DA) (m0_1 : Bool) : Option (Int × DA × Bool) :=
 (qr_W0 n ((0, 0), (m0, m0_1))).bind fun r134 =>
 some (r134.1, (r134.2.1, r134.2.2))
def qf (n : Nat) (m0 : Bool) (m1 : DA) (m1_1 : Bool) : Option (Int × Bool × DA × Bool) :=
 (qr n m1 m1_1).bind fun r135 =>
 bif (decide (r135.1 > 2147483647)) then
 some (0, (true, (r135.2.1, r135.2.2)))
 else
 some ((cvtI .i64 r135.1), (m0, (r135.2.1, r135.2.2)))
def qc (n : Nat) (m0 : Bool) (m1 : DA) (m1_1 : Bool) : Option (Bool × Bool × DA × Bool) :=
 bif m0 then
 some (true, (m0, (m1, m1_1)))
 else
 (qab n m1 m1_1).bind fun r152 =>
 some (r152.1, (m0, (r152.2.1, r152.2.2)))
def qi_B0 (n : Nat) (n_6 : Int) (m0 : Bool) (m1 : DA) (m1_1 : Bool) (m2 : DA) : Option ((Int × Bool × (DA × Bool) × DA) ⊕ (Bool × (DA × Bool) × DA)) :=
 bif (decide (n_6 > 0)) then
 (qc n m0 m1 m1_1).bind fun r158 =>
 bif (!r158.1) then
 (qr n r158.2.2.1 r158.2.2.2).bind fun r159 =>
 bif (Nat.ble (List.length (m2 ++ (r159.1 :: ([] : DC)))) 4294967296) then
 some (Sum.inl ((subI .i64 n_6 1), (r158.2.1, ((r159.2.1, r159.2.2), (m2 ++ (r159.1 :: ([] : DC)))))))
 else none
 else
 some (Sum.inr (r158.2.1, ((r158.2.2.1, r158.2.2.2), m2)))
 else
 some (Sum.inr (m0, ((m1, m1_1), m2)))
def qi_W0 (n : Nat) (s : Int × Bool × (DA × Bool) × DA) : Option (Bool × (DA × Bool) × DA) := loopS (fun s => qi_B0 n s.1 s.2.1 s.2.2.1.1 s.2.2.1.2 s.2.2.2) n s
def qi (n : Nat) (m0 : Bool) (m1 : DA) (m1_1 : Bool) : Option (DA × Bool × DA × Bool) :=
 (qf n m0 m1 m1_1).bind fun r160 =>
 (qi_W0 n (r160.1, (r160.2.1, ((r160.2.2.1, r160.2.2.2), ([] : DC))))).bind fun r161 =>
 some (r161.2.2, (r161.1, (r161.2.1.1, r161.2.1.2)))
def qe (n : Nat) (m0 : Bool) (m1 : DA) (m1_1 : Bool) : Option ((Int × Int × DA × DA) × Bool × DA × Bool) :=
 (qf n m0 m1 m1_1).bind fun r162 =>
 (qf n r162.2.1 r162.2.2.1 r162.2.2.2).bind fun r163 =>
 (qi n r163.2.1 r163.2.2.1 r163.2.2.2).bind fun r164 =>
 (qi n r164.2.1 r164.2.2.1 r164.2.2.2).bind fun r165 =>
 some ((r162.1, (r163.1, (r164.1, r165.1))), (r165.2.1, (r165.2.2.1, r165.2.2.2)))
def qb_B0 (n : Nat) (n_6 : Int) (m0 : Bool) (m1 : DA) (m1_1 : Bool) (m2 : DE) : Option ((Int × Bool × (DA × Bool) × DE) ⊕ (Bool × (DA × Bool) × DE)) :=
 bif (decide (n_6 > 0)) then
 (qc n m0 m1 m1_1).bind fun r166 =>
 bif (!r166.1) then
 (qe n r166.2.1 r166.2.2.1 r166.2.2.2).bind fun r167 =>
 bif (Nat.ble (List.length (m2 ++ ((r167.1.1, (r167.1.2.1, (r167.1.2.2.1, r167.1.2.2.2))) :: ([] : List ((Int) × (Int) × DA × DA))))) 4294967296) then
 some (Sum.inl ((subI .i64 n_6 1), (r167.2.1, ((r167.2.2.1, r167.2.2.2), (m2 ++ ((r167.1.1, (r167.1.2.1, (r167.1.2.2.1, r167.1.2.2.2))) :: ([] : List ((Int) × (Int) × DA × DA))))))))
 else none
 else
 some (Sum.inr (r166.2.1, ((r166.2.2.1, r166.2.2.2), m2)))
 else
 some (Sum.inr (m0, ((m1, m1_1), m2)))
def qb_W0 (n : Nat) (s : Int × Bool × (DA × Bool) × DE) : Option (Bool × (DA × Bool) × DE) := loopS (fun s => qb_B0 n s.1 s.2.1 s.2.2.1.1 s.2.2.1.2 s.2.2.2) n s
def qb (n : Nat) (m0 : Bool) (m1 : DA) (m1_1 : Bool) : Option (DE × Bool × DA × Bool) :=
 (qf n m0 m1 m1_1).bind fun r168 =>
 (qb_W0 n (r168.1, (r168.2.1, ((r168.2.2.1, r168.2.2.2), ([] : List ((Int) × (Int) × DA × DA)))))).bind fun r169 =>
 some (r169.2.2, (r169.1, (r169.2.1.1, r169.2.1.2)))
def qs (n : Nat) (m0 : Bool) (m1 : DA) (m1_1 : Bool) : Option ((Int × Int × DA × DA) × Bool × DA × Bool) :=
 (qf n m0 m1 m1_1).bind fun r187 =>
 (qf n r187.2.1 r187.2.2.1 r187.2.2.2).bind fun r188 =>
 (qi n r188.2.1 r188.2.2.1 r188.2.2.2).bind fun r189 =>
 (qf n r189.2.1 r189.2.2.1 r189.2.2.2).bind fun r190 =>
 (qv n r190.1 r190.2.2.1 r190.2.2.2).bind fun r191 =>
 some ((r187.1, (r188.1, (r189.1, r191.1))), (r190.2.1, (r191.2.1, r191.2.2)))
def qh_B0 (n : Nat) (n_6 : Int) (m0 : Bool) (m1 : DA) (m1_1 : Bool) (m2 : DE) : Option ((Int × Bool × (DA × Bool) × DE) ⊕ (Bool × (DA × Bool) × DE)) :=
 bif (decide (n_6 > 0)) then
 (qc n m0 m1 m1_1).bind fun r192 =>
 bif (!r192.1) then
 (qs n r192.2.1 r192.2.2.1 r192.2.2.2).bind fun r193 =>
 bif (Nat.ble (List.length (m2 ++ ((r193.1.1, (r193.1.2.1, (r193.1.2.2.1, r193.1.2.2.2))) :: ([] : List ((Int) × (Int) × DA × DA))))) 4294967296) then
 some (Sum.inl ((subI .i64 n_6 1), (r193.2.1, ((r193.2.2.1, r193.2.2.2), (m2 ++ ((r193.1.1, (r193.1.2.1, (r193.1.2.2.1, r193.1.2.2.2))) :: ([] : List ((Int) × (Int) × DA × DA))))))))
 else none
 else
 some (Sum.inr (r192.2.1, ((r192.2.2.1, r192.2.2.2), m2)))
 else
 some (Sum.inr (m0, ((m1, m1_1), m2)))
def qh_W0 (n : Nat) (s : Int × Bool × (DA × Bool) × DE) : Option (Bool × (DA × Bool) × DE) := loopS (fun s => qh_B0 n s.1 s.2.1 s.2.2.1.1 s.2.2.1.2 s.2.2.2) n s
def qh (n : Nat) (m0 : Bool) (m1 : DA) (m1_1 : Bool) : Option (DE × Bool × DA × Bool) :=
 (qf n m0 m1 m1_1).bind fun r194 =>
 (qh_W0 n (r194.1, (r194.2.1, ((r194.2.2.1, r194.2.2.2), ([] : List ((Int) × (Int) × DA × DA)))))).bind fun r195 =>
 some (r195.2.2, (r195.1, (r195.2.1.1, r195.2.1.2)))
def qq (n : Nat) (m0 : Bool) (m1 : DA) (m1_1 : Bool) : Option ((Int × Int × Bool) × Bool × DA × Bool) :=
 (qf n m0 m1 m1_1).bind fun r209 =>
 (qr n r209.2.2.1 r209.2.2.2).bind fun r210 =>
 (qf n r209.2.1 r210.2.1 r210.2.2).bind fun r211 =>
 bif r211.2.1 then
 some ((r209.1, (r210.1, (r211.1 == 1))), (true, (r211.2.2.1, r211.2.2.2)))
 else
 some ((r209.1, (r210.1, (r211.1 == 1))), ((decide (r211.1 > 1)), (r211.2.2.1, r211.2.2.2)))
def qa_B0 (n : Nat) (n_6 : Int) (m0 : Bool) (m1 : DA) (m1_1 : Bool) (m2 : DB) : Option ((Int × Bool × (DA × Bool) × DB) ⊕ (Bool × (DA × Bool) × DB)) :=
 bif (decide (n_6 > 0)) then
 (qc n m0 m1 m1_1).bind fun r212 =>
 bif (!r212.1) then
 (qq n r212.2.1 r212.2.2.1 r212.2.2.2).bind fun r213 =>
 bif (Nat.ble (List.length (m2 ++ ((r213.1.1, (r213.1.2.1, r213.1.2.2)) :: ([] : List ((Int) × (Int) × Bool))))) 4294967296) then
 some (Sum.inl ((subI .i64 n_6 1), (r213.2.1, ((r213.2.2.1, r213.2.2.2), (m2 ++ ((r213.1.1, (r213.1.2.1, r213.1.2.2)) :: ([] : List ((Int) × (Int) × Bool))))))))
 else none
 else
 some (Sum.inr (r212.2.1, ((r212.2.2.1, r212.2.2.2), m2)))
 else
 some (Sum.inr (m0, ((m1, m1_1), m2)))
def qa_W0 (n : Nat) (s : Int × Bool × (DA × Bool) × DB) : Option (Bool × (DA × Bool) × DB) := loopS (fun s => qa_B0 n s.1 s.2.1 s.2.2.1.1 s.2.2.1.2 s.2.2.2) n s
def qa (n : Nat) (m0 : Bool) (m1 : DA) (m1_1 : Bool) : Option (DB × Bool × DA × Bool) :=
 (qf n m0 m1 m1_1).bind fun r214 =>
 (qa_W0 n (r214.1, (r214.2.1, ((r214.2.2.1, r214.2.2.2), ([] : List ((Int) × (Int) × Bool)))))).bind fun r215 =>
 some (r215.2.2, (r215.1, (r215.2.1.1, r215.2.1.2)))
def qu (n : Nat) (m0 : DA) (m0_1 : Bool) : Option (Int × DA × Bool) :=
 (qab n m0 m0_1).bind fun r239 =>
 bif r239.1 then
 some (0, (r239.2.1, r239.2.2))
 else
 some ((lenI r239.2.1), (r239.2.1, r239.2.2))
def qag (n : Nat) (b_0 : DA) : Option ((DE × DE × DB × Int × Int × Int × Int) × Int × Int) :=
 (qae n b_0 2).bind fun r240 =>
 Sum.rec (fun u241 =>
 bif (u241.2 != 0) then
 some (([], ([], ([], (0, (0, (0, 0)))))), (0, u241.2))
 else
 (qj n Bool.false).bind fun r243 =>
 none) (fun v242 =>
 bif (v242.1.2 != 0) then
 some (([], ([], ([], (0, (0, (0, 0)))))), (0, v242.1.2))
 else
 (qf n Bool.false v242.2.1 v242.2.2).bind fun r244 =>
 (qf n r244.2.1 r244.2.2.1 r244.2.2.2).bind fun r245 =>
 (qf n r245.2.1 r245.2.2.1 r245.2.2.2).bind fun r246 =>
 (qr n r246.2.2.1 r246.2.2.2).bind fun r247 =>
 (qb n r246.2.1 r247.2.1 r247.2.2).bind fun r248 =>
 (qh n r248.2.1 r248.2.2.1 r248.2.2.2).bind fun r249 =>
 (qa n r249.2.1 r249.2.2.1 r249.2.2.2).bind fun r250 =>
 (qc n r250.2.1 r250.2.2.1 r250.2.2.2).bind fun r251 =>
 bif r251.1 then
 some (([], ([], ([], (0, (0, (0, 0)))))), (0, 2))
 else
 (qu n r251.2.2.1 r251.2.2.2).bind fun r252 =>
 bif (decide (r252.1 > 0)) then
 some (([], ([], ([], (0, (0, (0, 0)))))), (0, 2))
 else
 some ((r248.1, (r249.1, (r250.1, (r245.1, (r246.1, (r244.1, r247.1)))))), (v242.1.1, 0))) r240
def qy (n : Nat) : Option (Bool) :=
 (qad n ([] : List ((Int) × (Int) × DA × DA)) ([] : List ((Int) × (Int) × DA × DA)) ([] : List ((Int) × (Int) × Bool)) 5 0 0 0 9).bind fun r253 =>
 (qag n r253).bind fun r254 =>
 bif (r254.2.2 == 0) then
 bif (r254.2.1 == 9) then
 some (r254.1.2.2.2.1 == 5)
 else
 some false
 else
 some false
def qaj_B0 (n : Nat) (v_0 : Int) (n_1 : Int) (k_6 : Int) (m0 : DA) : Option (((Int × Int × Int) × DA) ⊕ DA) :=
 bif (decide (k_6 < n_1)) then
 bif (decide (k_6 < 8)) then
 bif (Nat.ble (List.length (m0 ++ ((cvtI .u8 (remI v_0 256)) :: ([] : DC)))) 4294967296) then
 some (Sum.inl (((quoI .u64 v_0 256), (n_1, (addI .i64 k_6 1))), (m0 ++ ((cvtI .u8 (remI v_0 256)) :: ([] : DC)))))
 else none
 else
 some (Sum.inr m0)
 else
 some (Sum.inr m0)
def qaj_W0 (n : Nat) (s : (Int × Int × Int) × DA) : Option DA := loopS (fun s => qaj_B0 n s.1.1 s.1.2.1 s.1.2.2 s.2) n s
def qaj (n : Nat) (v_0 : Int) (n_1 : Int) : Option DA :=
 (qaj_W0 n ((v_0, (n_1, 0)), ([] : DC))).bind fun r260 =>
 some r260
def qaf (n : Nat) (n_0 : Int) : Option (Int) :=
 bif (decide (n_0 < 0)) then
 some 0
 else
 some (cvtI .u64 n_0)
def qat_S (n : Nat) (self : Int → Option DA) (v_0 : Int) : Option DA :=
 bif (decide (v_0 < 128)) then
 some ((cvtI .u8 v_0) :: ([] : DC))
 else
 (self (quoI .u64 v_0 128)).bind fun r270 =>
 bif (Nat.ble (List.length (((cvtI .u8 (addI .u64 128 (remI v_0 128))) :: ([] : DC)) ++ r270)) 4294967296) then
 some (((cvtI .u8 (addI .u64 128 (remI v_0 128))) :: ([] : DC)) ++ r270)
 else none
def qat_D (n : Nat) (d : Nat) : Int → Option DA := Nat.rec (fun _ => none) (fun _ ih a => qat_S n ih a) d
def qat (n : Nat) (v_0 : Int) : Option DA := qat_D n n v_0
def qam_B0 (n : Nat) (old_0 : Bool) (l_1 : DA) (i_6 : Int) (m0 : DA) : Option (((Bool × DA × Int) × DA) ⊕ DA) :=
 bif (decide (i_6 < (lenI l_1))) then
 bif old_0 then
 (getI l_1 i_6).bind fun x271 =>
 (qaj n x271 8).bind fun r272 =>
 bif (Nat.ble (List.length (m0 ++ r272)) 4294967296) then
 some (Sum.inl ((old_0, (l_1, (addI .i64 i_6 1))), (m0 ++ r272)))
 else none
 else
 (getI l_1 i_6).bind fun x273 =>
 (qat n x273).bind fun r274 =>
 bif (Nat.ble (List.length (m0 ++ r274)) 4294967296) then
 some (Sum.inl ((old_0, (l_1, (addI .i64 i_6 1))), (m0 ++ r274)))
 else none
 else
 some (Sum.inr m0)
def qam_W0 (n : Nat) (s : (Bool × DA × Int) × DA) : Option DA := loopS (fun s => qam_B0 n s.1.1 s.1.2.1 s.1.2.2 s.2) n s
def qam (n : Nat) (old_0 : Bool) (l_1 : DA) : Option DA :=
 (qam_W0 n ((old_0, (l_1, 0)), ([] : DC))).bind fun r275 =>
 some r275
def qao (n : Nat) (old_0 : Bool) (l_1 : DA) : Option DA :=
 bif (Nat.ble (List.length (((cvtI .u64 (lenI l_1)) :: ([] : DC)) ++ l_1)) 4294967296) then
 (qam n old_0 (((cvtI .u64 (lenI l_1)) :: ([] : DC)) ++ l_1)).bind fun r285 =>
 some r285
 else none
def qah_B0 (n : Nat) (t2 : Bool) (t11 : Int) (m0 : DE) (m0_1 : DE) (m0_2 : DB) (m0_3 : Int) (m0_4 : Int) (m0_5 : Int) (m0_6 : Int) (m1 : DA) (m2 : DA) (m3 : DA) (m4 : DA) : Option (((Bool × Int) × (DE × DE × DB × Int × Int × Int × Int) × DA × DA × DA × DA) ⊕ (Bool × (DE × DE × DB × Int × Int × Int × Int) × DA × DA × DA × DA)) :=
 bif (decide (t11 < (lenI m0))) then
 (getI m0 t11).bind fun x286 =>
 (qaf n x286.1).bind fun r287 =>
 (qaf n x286.2.1).bind fun r288 =>
 (qam n t2 (r287 :: (r288 :: ([] : DC)))).bind fun r289 =>
 bif (Nat.ble (List.length (m2 ++ r289)) 4294967296) then
 (qao n t2 x286.2.2.1).bind fun r290 =>
 bif (Nat.ble (List.length ((m2 ++ r289) ++ r290)) 4294967296) then
 (qao n t2 x286.2.2.2).bind fun r291 =>
 bif (Nat.ble (List.length (((m2 ++ r289) ++ r290) ++ r291)) 4294967296) then
 some (Sum.inl ((t2, (addI .i64 t11 1)), ((m0, (m0_1, (m0_2, (m0_3, (m0_4, (m0_5, m0_6)))))), (m1, ((((m2 ++ r289) ++ r290) ++ r291), (m3, m4))))))
 else none
 else none
 else none
 else
 some (Sum.inr (t2, ((m0, (m0_1, (m0_2, (m0_3, (m0_4, (m0_5, m0_6)))))), (m1, (m2, (m3, m4))))))
def qah_W0 (n : Nat) (s : (Bool × Int) × (DE × DE × DB × Int × Int × Int × Int) × DA × DA × DA × DA) : Option (Bool × (DE × DE × DB × Int × Int × Int × Int) × DA × DA × DA × DA) := loopS (fun s => qah_B0 n s.1.1 s.1.2 s.2.1.1 s.2.1.2.1 s.2.1.2.2.1 s.2.1.2.2.2.1 s.2.1.2.2.2.2.1 s.2.1.2.2.2.2.2.1 s.2.1.2.2.2.2.2.2 s.2.2.1 s.2.2.2.1 s.2.2.2.2.1 s.2.2.2.2.2) n s
def qah_B2 (n : Nat) (t2 : Bool) (t13 : Int) (m0 : DE) (m0_1 : DE) (m0_2 : DB) (m0_3 : Int) (m0_4 : Int) (m0_5 : Int) (m0_6 : Int) (m1 : DA) (m2 : DA) (m3 : DA) (m4 : DA) : Option (((Bool × Int) × (DE × DE × DB × Int × Int × Int × Int) × DA × DA × DA × DA) ⊕ (Bool × (DE × DE × DB × Int × Int × Int × Int) × DA × DA × DA × DA)) :=
 bif (decide (t13 < (lenI m0_1))) then
 (getI m0_1 t13).bind fun x298 =>
 (qaf n x298.1).bind fun r299 =>
 (qaf n x298.2.1).bind fun r300 =>
 (qam n t2 (r299 :: (r300 :: ([] : DC)))).bind fun r301 =>
 bif (Nat.ble (List.length (m3 ++ r301)) 4294967296) then
 (qao n t2 x298.2.2.1).bind fun r302 =>
 bif (Nat.ble (List.length ((m3 ++ r301) ++ r302)) 4294967296) then
 (qam n t2 ((cvtI .u64 (lenI x298.2.2.2)) :: ([] : DC))).bind fun r303 =>
 bif (Nat.ble (List.length (((m3 ++ r301) ++ r302) ++ r303)) 4294967296) then
 bif (Nat.ble (List.length ((((m3 ++ r301) ++ r302) ++ r303) ++ x298.2.2.2)) 4294967296) then
 some (Sum.inl ((t2, (addI .i64 t13 1)), ((m0, (m0_1, (m0_2, (m0_3, (m0_4, (m0_5, m0_6)))))), (m1, (m2, (((((m3 ++ r301) ++ r302) ++ r303) ++ x298.2.2.2), m4))))))
 else none
 else none
 else none
 else none
 else
 some (Sum.inr (t2, ((m0, (m0_1, (m0_2, (m0_3, (m0_4, (m0_5, m0_6)))))), (m1, (m2, (m3, m4))))))
def qah_W2 (n : Nat) (s : (Bool × Int) × (DE × DE × DB × Int × Int × Int × Int) × DA × DA × DA × DA) : Option (Bool × (DE × DE × DB × Int × Int × Int × Int) × DA × DA × DA × DA) := loopS (fun s => qah_B2 n s.1.1 s.1.2 s.2.1.1 s.2.1.2.1 s.2.1.2.2.1 s.2.1.2.2.2.1 s.2.1.2.2.2.2.1 s.2.1.2.2.2.2.2.1 s.2.1.2.2.2.2.2.2 s.2.2.1 s.2.2.2.1 s.2.2.2.2.1 s.2.2.2.2.2) n s
def qah_B4 (n : Nat) (t2 : Bool) (t15 : Int) (m0 : DE) (m0_1 : DE) (m0_2 : DB) (m0_3 : Int) (m0_4 : Int) (m0_5 : Int) (m0_6 : Int) (m1 : DA) (m2 : DA) (m3 : DA) (m4 : DA) : Option (((Bool × Int) × (DE × DE × DB × Int × Int × Int × Int) × DA × DA × DA × DA) ⊕ (Bool × (DE × DE × DB × Int × Int × Int × Int) × DA × DA × DA × DA)) :=
 bif (decide (t15 < (lenI m0_2))) then
 (getI m0_2 t15).bind fun x311 =>
 bif x311.2.2 then
 (qaf n x311.1).bind fun r312 =>
 (qam n t2 (r312 :: (x311.2.1 :: (1 :: ([] : DC))))).bind fun r313 =>
 bif (Nat.ble (List.length (m4 ++ r313)) 4294967296) then
 some (Sum.inl ((t2, (addI .i64 t15 1)), ((m0, (m0_1, (m0_2, (m0_3, (m0_4, (m0_5, m0_6)))))), (m1, (m2, (m3, (m4 ++ r313)))))))
 else none
 else
 (qaf n x311.1).bind fun r314 =>
 (qam n t2 (r314 :: (x311.2.1 :: (0 :: ([] : DC))))).bind fun r315 =>
 bif (Nat.ble (List.length (m4 ++ r315)) 4294967296) then
 some (Sum.inl ((t2, (addI .i64 t15 1)), ((m0, (m0_1, (m0_2, (m0_3, (m0_4, (m0_5, m0_6)))))), (m1, (m2, (m3, (m4 ++ r315)))))))
 else none
 else
 some (Sum.inr (t2, ((m0, (m0_1, (m0_2, (m0_3, (m0_4, (m0_5, m0_6)))))), (m1, (m2, (m3, m4))))))
def qah_W4 (n : Nat) (s : (Bool × Int) × (DE × DE × DB × Int × Int × Int × Int) × DA × DA × DA × DA) : Option (Bool × (DE × DE × DB × Int × Int × Int × Int) × DA × DA × DA × DA) := loopS (fun s => qah_B4 n s.1.1 s.1.2 s.2.1.1 s.2.1.2.1 s.2.1.2.2.1 s.2.1.2.2.2.1 s.2.1.2.2.2.2.1 s.2.1.2.2.2.2.2.1 s.2.1.2.2.2.2.2.2 s.2.2.1 s.2.2.2.1 s.2.2.2.2.1 s.2.2.2.2.2) n s
def qav_B2 (n : Nat) (b_0 : DA) (n_3 : Int) (i_4 : Int) (k_5 : Int) : Option ((DA × Int × Int × Int) ⊕ (DA × Int × Int)) :=
 bif (decide (k_5 < 8)) then
 bif ((remI n_3 2) == 1) then
 some (Sum.inl (b_0, ((xorI .u32 (quoI .u32 n_3 2) 3988292384), (i_4, (addI .i64 k_5 1)))))
 else
 some (Sum.inl (b_0, ((quoI .u32 n_3 2), (i_4, (addI .i64 k_5 1)))))
 else
 some (Sum.inr (b_0, (n_3, i_4)))
def qav_W2 (n : Nat) (s : DA × Int × Int × Int) : Option (DA × Int × Int) := loopS (fun s => qav_B2 n s.1 s.2.1 s.2.2.1 s.2.2.2) n s
def qav_B0 (n : Nat) (b_0 : DA) (n_3 : Int) (i_4 : Int) : Option ((DA × Int × Int) ⊕ (Int)) :=
 bif (decide (i_4 < (lenI b_0))) then
 (getI b_0 i_4).bind fun x328 =>
 (qav_W2 n (b_0, ((xorI .u32 n_3 (cvtI .u32 x328)), (i_4, 0)))).bind fun r329 =>
 some (Sum.inl (r329.1, (r329.2.1, (addI .i64 r329.2.2 1))))
 else
 some (Sum.inr n_3)
def qav_W0 (n : Nat) (s : DA × Int × Int) : Option (Int) := loopS (fun s => qav_B0 n s.1 s.2.1 s.2.2) n s
def qav (n : Nat) (b_0 : DA) : Option (Int) :=
 (qav_W0 n (b_0, (4294967295, 0))).bind fun r330 =>
 some (notI .u32 r330)
def qaq (n : Nat) (b_0 : DA) : Option DA :=
 bif (Nat.ble (List.length b_0) 4294967296) then
 (qav n b_0).bind fun r332 =>
 (qaj n (cvtI .u64 r332) 4).bind fun r333 =>
 bif (Nat.ble (List.length (b_0 ++ r333)) 4294967296) then
 some (b_0 ++ r333)
 else none
 else none
def qah (n : Nat) (t0 : DE) (t0_1 : DE) (t0_2 : DB) (t0_3 : Int) (t0_4 : Int) (t0_5 : Int) (t0_6 : Int) (t1 : Int) (t2 : Bool) : Option DA :=
 bif t2 then
 (qaj n (cvtI .u64 t1) 4).bind fun r334 =>
 bif (Nat.ble (List.length ((List.set (2 :: ([] : DC)) 0 1) ++ r334)) 4294967296) then
 (qaf n t0_5).bind fun r335 =>
 (qaf n t0_3).bind fun r336 =>
 (qaf n t0_4).bind fun r337 =>
 (qam n t2 (r335 :: (r336 :: (r337 :: (t0_6 :: ([] : DC)))))).bind fun r338 =>
 bif (Nat.ble (List.length (((List.set (2 :: ([] : DC)) 0 1) ++ r334) ++ r338)) 4294967296) then
 (qah_W0 n ((t2, 0), ((t0, (t0_1, (t0_2, (t0_3, (t0_4, (t0_5, t0_6)))))), ((((List.set (2 :: ([] : DC)) 0 1) ++ r334) ++ r338), (([] : DC), (([] : DC), ([] : DC))))))).bind fun r339 =>
 (qah_W2 n ((r339.1, 0), ((r339.2.1.1, (r339.2.1.2.1, (r339.2.1.2.2.1, (r339.2.1.2.2.2.1, (r339.2.1.2.2.2.2.1, (r339.2.1.2.2.2.2.2.1, r339.2.1.2.2.2.2.2.2)))))), (r339.2.2.1, (r339.2.2.2.1, (r339.2.2.2.2.1, r339.2.2.2.2.2)))))).bind fun r340 =>
 (qah_W4 n ((r340.1, 0), ((r340.2.1.1, (r340.2.1.2.1, (r340.2.1.2.2.1, (r340.2.1.2.2.2.1, (r340.2.1.2.2.2.2.1, (r340.2.1.2.2.2.2.2.1, r340.2.1.2.2.2.2.2.2)))))), (r340.2.2.1, (r340.2.2.2.1, (r340.2.2.2.2.1, r340.2.2.2.2.2)))))).bind fun r341 =>
 (qam n r341.1 ((cvtI .u64 (lenI r341.2.1.1)) :: ([] : DC))).bind fun r342 =>
 bif (Nat.ble (List.length (r342 ++ r341.2.2.2.1)) 4294967296) then
 (qam n r341.1 ((cvtI .u64 (lenI r341.2.1.2.1)) :: ([] : DC))).bind fun r343 =>
 bif (Nat.ble (List.length (r343 ++ r341.2.2.2.2.1)) 4294967296) then
 (qam n r341.1 ((cvtI .u64 (lenI r341.2.1.2.2.1)) :: ([] : DC))).bind fun r344 =>
 bif (Nat.ble (List.length (r344 ++ r341.2.2.2.2.2)) 4294967296) then
 bif r341.1 then
 bif (Nat.ble (List.length (r341.2.2.1 ++ (r344 ++ r341.2.2.2.2.2))) 4294967296) then
 bif (Nat.ble (List.length ((r341.2.2.1 ++ (r344 ++ r341.2.2.2.2.2)) ++ (r342 ++ r341.2.2.2.1))) 4294967296) then
 bif (Nat.ble (List.length (((r341.2.2.1 ++ (r344 ++ r341.2.2.2.2.2)) ++ (r342 ++ r341.2.2.2.1)) ++ (r343 ++ r341.2.2.2.2.1))) 4294967296) then
 (qaq n (((r341.2.2.1 ++ (r344 ++ r341.2.2.2.2.2)) ++ (r342 ++ r341.2.2.2.1)) ++ (r343 ++ r341.2.2.2.2.1))).bind fun r345 =>
 some r345
 else none
 else none
 else none
 else
 bif (Nat.ble (List.length (r341.2.2.1 ++ (r342 ++ r341.2.2.2.1))) 4294967296) then
 bif (Nat.ble (List.length ((r341.2.2.1 ++ (r342 ++ r341.2.2.2.1)) ++ (r343 ++ r341.2.2.2.2.1))) 4294967296) then
 bif (Nat.ble (List.length (((r341.2.2.1 ++ (r342 ++ r341.2.2.2.1)) ++ (r343 ++ r341.2.2.2.2.1)) ++ (r344 ++ r341.2.2.2.2.2))) 4294967296) then
 (qaq n (((r341.2.2.1 ++ (r342 ++ r341.2.2.2.1)) ++ (r343 ++ r341.2.2.2.2.1)) ++ (r344 ++ r341.2.2.2.2.2))).bind fun r346 =>
 some r346
 else none
 else none
 else none
 else none
 else none
 else none
 else none
 else none
 else
 (qaj n (cvtI .u64 t1) 4).bind fun r347 =>
 bif (Nat.ble (List.length ((2 :: ([] : DC)) ++ r347)) 4294967296) then
 (qaf n t0_5).bind fun r348 =>
 (qaf n t0_3).bind fun r349 =>
 (qaf n t0_4).bind fun r350 =>
 (qam n t2 (r348 :: (r349 :: (r350 :: (t0_6 :: ([] : DC)))))).bind fun r351 =>
 bif (Nat.ble (List.length (((2 :: ([] : DC)) ++ r347) ++ r351)) 4294967296) then
 (qah_W0 n ((t2, 0), ((t0, (t0_1, (t0_2, (t0_3, (t0_4, (t0_5, t0_6)))))), ((((2 :: ([] : DC)) ++ r347) ++ r351), (([] : DC), (([] : DC), ([] : DC))))))).bind fun r352 =>
 (qah_W2 n ((r352.1, 0), ((r352.2.1.1, (r352.2.1.2.1, (r352.2.1.2.2.1, (r352.2.1.2.2.2.1, (r352.2.1.2.2.2.2.1, (r352.2.1.2.2.2.2.2.1, r352.2.1.2.2.2.2.2.2)))))), (r352.2.2.1, (r352.2.2.2.1, (r352.2.2.2.2.1, r352.2.2.2.2.2)))))).bind fun r353 =>
 (qah_W4 n ((r353.1, 0), ((r353.2.1.1, (r353.2.1.2.1, (r353.2.1.2.2.1, (r353.2.1.2.2.2.1, (r353.2.1.2.2.2.2.1, (r353.2.1.2.2.2.2.2.1, r353.2.1.2.2.2.2.2.2)))))), (r353.2.2.1, (r353.2.2.2.1, (r353.2.2.2.2.1, r353.2.2.2.2.2)))))).bind fun r354 =>
 (qam n r354.1 ((cvtI .u64 (lenI r354.2.1.1)) :: ([] : DC))).bind fun r355 =>
 bif (Nat.ble (List.length (r355 ++ r354.2.2.2.1)) 4294967296) then
 (qam n r354.1 ((cvtI .u64 (lenI r354.2.1.2.1)) :: ([] : DC))).bind fun r356 =>
 bif (Nat.ble (List.length (r356 ++ r354.2.2.2.2.1)) 4294967296) then
 (qam n r354.1 ((cvtI .u64 (lenI r354.2.1.2.2.1)) :: ([] : DC))).bind fun r357 =>
 bif (Nat.ble (List.length (r357 ++ r354.2.2.2.2.2)) 4294967296) then
 bif r354.1 then
 bif (Nat.ble (List.length (r354.2.2.1 ++ (r357 ++ r354.2.2.2.2.2))) 4294967296) then
 bif (Nat.ble (List.length ((r354.2.2.1 ++ (r357 ++ r354.2.2.2.2.2)) ++ (r355 ++ r354.2.2.2.1))) 4294967296) then
 bif (Nat.ble (List.length (((r354.2.2.1 ++ (r357 ++ r354.2.2.2.2.2)) ++ (r355 ++ r354.2.2.2.1)) ++ (r356 ++ r354.2.2.2.2.1))) 4294967296) then
 (qaq n (((r354.2.2.1 ++ (r357 ++ r354.2.2.2.2.2)) ++ (r355 ++ r354.2.2.2.1)) ++ (r356 ++ r354.2.2.2.2.1))).bind fun r358 =>
 some r358
 else none
 else none
 else none
 else
 bif (Nat.ble (List.length (r354.2.2.1 ++ (r355 ++ r354.2.2.2.1))) 4294967296) then
 bif (Nat.ble (List.length ((r354.2.2.1 ++ (r355 ++ r354.2.2.2.1)) ++ (r356 ++ r354.2.2.2.2.1))) 4294967296) then
 bif (Nat.ble (List.length (((r354.2.2.1 ++ (r355 ++ r354.2.2.2.1)) ++ (r356 ++ r354.2.2.2.2.1)) ++ (r357 ++ r354.2.2.2.2.2))) 4294967296) then
 (qaq n (((r354.2.2.1 ++ (r355 ++ r354.2.2.2.1)) ++ (r356 ++ r354.2.2.2.2.1)) ++ (r357 ++ r354.2.2.2.2.2))).bind fun r359 =>
 some r359
 else none
 else none
 else none
 else none
 else none
 else none
 else none
 else none
def qan_B0 (n : Nat) (a_0 : DA) (b_1 : DA) (i_5 : Int) : Option ((DA × DA × Int) ⊕ ((Bool) ⊕ (Unit))) :=
 bif (decide (i_5 < (lenI a_0))) then
 (getI a_0 i_5).bind fun x364 =>
 (getI b_1 i_5).bind fun x365 =>
 bif (x364 != x365) then
 some (Sum.inr (Sum.inl false))
 else
 some (Sum.inl (a_0, (b_1, (addI .i64 i_5 1))))
 else
 some (Sum.inr (Sum.inr ()))
def qan_W0 (n : Nat) (s : DA × DA × Int) : Option ((Bool) ⊕ (Unit)) := loopS (fun s => qan_B0 n s.1 s.2.1 s.2.2) n s
def qan (n : Nat) (a_0 : DA) (b_1 : DA) : Option (Bool) :=
 bif ((lenI a_0) != (lenI b_1)) then
 some false
 else
 (qan_W0 n (a_0, (b_1, 0))).bind fun r366 =>
 Sum.rec (fun u367 =>
 some u367) (fun v368 =>
 some true) r366
def qai_B0 (n : Nat) (t4 : Int) (m0 : DE) (m0_1 : DE) (m0_2 : DB) (m0_3 : Int) (m0_4 : Int) (m0_5 : Int) (m0_6 : Int) (m1 : DA) : Option ((Int × (DE × DE × DB × Int × Int × Int × Int) × DA) ⊕ ((DE × DE × DB × Int × Int × Int × Int) × DA)) :=
 bif (decide (t4 < (lenI m0))) then
 (getI m0 t4).bind fun x380 =>
 (getI m0 t4).bind fun x381 =>
 bif (Nat.ble (List.length (m1 ++ (x380.1 :: (x381.2.1 :: ([] : DC))))) 4294967296) then
 some (Sum.inl ((addI .i64 t4 1), ((m0, (m0_1, (m0_2, (m0_3, (m0_4, (m0_5, m0_6)))))), (m1 ++ (x380.1 :: (x381.2.1 :: ([] : DC)))))))
 else none
 else
 some (Sum.inr ((m0, (m0_1, (m0_2, (m0_3, (m0_4, (m0_5, m0_6)))))), m1))
def qai_W0 (n : Nat) (s : Int × (DE × DE × DB × Int × Int × Int × Int) × DA) : Option ((DE × DE × DB × Int × Int × Int × Int) × DA) := loopS (fun s => qai_B0 n s.1 s.2.1.1 s.2.1.2.1 s.2.1.2.2.1 s.2.1.2.2.2.1 s.2.1.2.2.2.2.1 s.2.1.2.2.2.2.2.1 s.2.1.2.2.2.2.2.2 s.2.2) n s
def qai_B2 (n : Nat) (t5 : Int) (m0 : DE) (m0_1 : DE) (m0_2 : DB) (m0_3 : Int) (m0_4 : Int) (m0_5 : Int) (m0_6 : Int) (m1 : DA) : Option ((Int × (DE × DE × DB × Int × Int × Int × Int) × DA) ⊕ ((DE × DE × DB × Int × Int × Int × Int) × DA)) :=
 bif (decide (t5 < (lenI m0_1))) then
 (getI m0_1 t5).bind fun x383 =>
 (getI m0_1 t5).bind fun x384 =>
 bif (Nat.ble (List.length (m1 ++ (x383.1 :: (x384.2.1 :: ([] : DC))))) 4294967296) then
 some (Sum.inl ((addI .i64 t5 1), ((m0, (m0_1, (m0_2, (m0_3, (m0_4, (m0_5, m0_6)))))), (m1 ++ (x383.1 :: (x384.2.1 :: ([] : DC)))))))
 else none
 else
 some (Sum.inr ((m0, (m0_1, (m0_2, (m0_3, (m0_4, (m0_5, m0_6)))))), m1))
def qai_W2 (n : Nat) (s : Int × (DE × DE × DB × Int × Int × Int × Int) × DA) : Option ((DE × DE × DB × Int × Int × Int × Int) × DA) := loopS (fun s => qai_B2 n s.1 s.2.1.1 s.2.1.2.1 s.2.1.2.2.1 s.2.1.2.2.2.1 s.2.1.2.2.2.2.1 s.2.1.2.2.2.2.2.1 s.2.1.2.2.2.2.2.2 s.2.2) n s
def qai_B4 (n : Nat) (t6 : Int) (m0 : DE) (m0_1 : DE) (m0_2 : DB) (m0_3 : Int) (m0_4 : Int) (m0_5 : Int) (m0_6 : Int) (m1 : DA) : Option ((Int × (DE × DE × DB × Int × Int × Int × Int) × DA) ⊕ ((DE × DE × DB × Int × Int × Int × Int) × DA)) :=
 bif (decide (t6 < (lenI m0_2))) then
 (getI m0_2 t6).bind fun x387 =>
 bif (Nat.ble (List.length (m1 ++ (x387.1 :: ([] : DC)))) 4294967296) then
 some (Sum.inl ((addI .i64 t6 1), ((m0, (m0_1, (m0_2, (m0_3, (m0_4, (m0_5, m0_6)))))), (m1 ++ (x387.1 :: ([] : DC))))))
 else none
 else
 some (Sum.inr ((m0, (m0_1, (m0_2, (m0_3, (m0_4, (m0_5, m0_6)))))), m1))
def qai_W4 (n : Nat) (s : Int × (DE × DE × DB × Int × Int × Int × Int) × DA) : Option ((DE × DE × DB × Int × Int × Int × Int) × DA) := loopS (fun s => qai_B4 n s.1 s.2.1.1 s.2.1.2.1 s.2.1.2.2.1 s.2.1.2.2.2.1 s.2.1.2.2.2.2.1 s.2.1.2.2.2.2.2.1 s.2.1.2.2.2.2.2.2 s.2.2) n s
def qai_B6 (n : Nat) (t7 : Int) (m0 : DA) : Option ((Int × DA) ⊕ ((Bool × DA) ⊕ DA)) :=
 bif (decide (t7 < (lenI m0))) then
 bif ((decide (0 ≤ t7)) && (decide (t7 < (((List.length m0) : Nat) : Int)))) then
 (m0[(Int.toNat t7)]?).bind fun x391 =>
 bif (decide (x391 < 0)) then
 some (Sum.inr (Sum.inl (false, m0)))
 else
 bif ((decide (0 ≤ t7)) && (decide (t7 < (((List.length m0) : Nat) : Int)))) then
 (m0[(Int.toNat t7)]?).bind fun x392 =>
 bif (decide (x392 > 2147483647)) then
 some (Sum.inr (Sum.inl (false, m0)))
 else
 some (Sum.inl ((addI .i64 t7 1), m0))
 else none
 else none
 else
 some (Sum.inr (Sum.inr m0))
def qai_W6 (n : Nat) (s : Int × DA) : Option ((Bool × DA) ⊕ DA) := loopS (fun s => qai_B6 n s.1 s.2) n s
def qai (n : Nat) (t0 : DE) (t0_1 : DE) (t0_2 : DB) (t0_3 : Int) (t0_4 : Int) (t0_5 : Int) (t0_6 : Int) : Option (Bool) :=
 (qai_W0 n (0, ((t0, (t0_1, (t0_2, (t0_3, (t0_4, (t0_5, t0_6)))))), (t0_5 :: (t0_3 :: (t0_4 :: ([] : DC))))))).bind fun r393 =>
 (qai_W2 n (0, ((r393.1.1, (r393.1.2.1, (r393.1.2.2.1, (r393.1.2.2.2.1, (r393.1.2.2.2.2.1, (r393.1.2.2.2.2.2.1, r393.1.2.2.2.2.2.2)))))), r393.2))).bind fun r394 =>
 (qai_W4 n (0, ((r394.1.1, (r394.1.2.1, (r394.1.2.2.1, (r394.1.2.2.2.1, (r394.1.2.2.2.2.1, (r394.1.2.2.2.2.2.1, r394.1.2.2.2.2.2.2)))))), r394.2))).bind fun r395 =>
 (qai_W6 n (0, r395.2)).bind fun r396 =>
 Sum.rec (fun u397 =>
 some u397.1) (fun v398 =>
 some true) r396
def qal_B0 (n : Nat) (a_0 : DA) (b_1 : DA) (i_5 : Int) : Option ((DA × DA × Int) ⊕ ((Bool) ⊕ (Unit))) :=
 bif (decide (i_5 < (lenI a_0))) then
 (getI a_0 i_5).bind fun x411 =>
 (getI b_1 i_5).bind fun x412 =>
 bif (x411 != x412) then
 some (Sum.inr (Sum.inl false))
 else
 some (Sum.inl (a_0, (b_1, (addI .i64 i_5 1))))
 else
 some (Sum.inr (Sum.inr ()))
def qal_W0 (n : Nat) (s : DA × DA × Int) : Option ((Bool) ⊕ (Unit)) := loopS (fun s => qal_B0 n s.1 s.2.1 s.2.2) n s
def qal (n : Nat) (a_0 : DA) (b_1 : DA) : Option (Bool) :=
 bif ((lenI a_0) != (lenI b_1)) then
 some false
 else
 (qal_W0 n (a_0, (b_1, 0))).bind fun r413 =>
 Sum.rec (fun u414 =>
 some u414) (fun v415 =>
 some true) r413
def qac_B0 (n : Nat) (t5 : Int) (m0 : DE) (m0_1 : DE) (m0_2 : DB) (m0_3 : Int) (m0_4 : Int) (m0_5 : Int) (m0_6 : Int) (m1 : DE) (m1_1 : DE) (m1_2 : DB) (m1_3 : Int) (m1_4 : Int) (m1_5 : Int) (m1_6 : Int) : Option ((Int × (DE × DE × DB × Int × Int × Int × Int) × DE × DE × DB × Int × Int × Int × Int) ⊕ ((Bool × (DE × DE × DB × Int × Int × Int × Int) × (DE × DE × DB × Int × Int × Int × Int) × (Int × Int × DA × DA) × Int × Int × DA × DA) ⊕ ((DE × DE × DB × Int × Int × Int × Int) × DE × DE × DB × Int × Int × Int × Int))) :=
 bif (decide (t5 < (lenI m0))) then
 (getI m0 t5).bind fun x416 =>
 (getI m1 t5).bind fun x417 =>
 bif (x416.1 != x417.1) then
 some (Sum.inr (Sum.inl (false, ((m0, (m0_1, (m0_2, (m0_3, (m0_4, (m0_5, m0_6)))))), ((m1, (m1_1, (m1_2, (m1_3, (m1_4, (m1_5, m1_6)))))), ((x416.1, (x416.2.1, (x416.2.2.1, x416.2.2.2))), (x417.1, (x417.2.1, (x417.2.2.1, x417.2.2.2)))))))))
 else
 bif (x416.2.1 != x417.2.1) then
 some (Sum.inr (Sum.inl (false, ((m0, (m0_1, (m0_2, (m0_3, (m0_4, (m0_5, m0_6)))))), ((m1, (m1_1, (m1_2, (m1_3, (m1_4, (m1_5, m1_6)))))), ((x416.1, (x416.2.1, (x416.2.2.1, x416.2.2.2))), (x417.1, (x417.2.1, (x417.2.2.1, x417.2.2.2)))))))))
 else
 (qal n x416.2.2.1 x417.2.2.1).bind fun r418 =>
 bif (!r418) then
 some (Sum.inr (Sum.inl (false, ((m0, (m0_1, (m0_2, (m0_3, (m0_4, (m0_5, m0_6)))))), ((m1, (m1_1, (m1_2, (m1_3, (m1_4, (m1_5, m1_6)))))), ((x416.1, (x416.2.1, (x416.2.2.1, x416.2.2.2))), (x417.1, (x417.2.1, (x417.2.2.1, x417.2.2.2)))))))))
 else
 (qal n x416.2.2.2 x417.2.2.2).bind fun r419 =>
 bif (!r419) then
 some (Sum.inr (Sum.inl (false, ((m0, (m0_1, (m0_2, (m0_3, (m0_4, (m0_5, m0_6)))))), ((m1, (m1_1, (m1_2, (m1_3, (m1_4, (m1_5, m1_6)))))), ((x416.1, (x416.2.1, (x416.2.2.1, x416.2.2.2))), (x417.1, (x417.2.1, (x417.2.2.1, x417.2.2.2)))))))))
 else
 some (Sum.inl ((addI .i64 t5 1), ((m0, (m0_1, (m0_2, (m0_3, (m0_4, (m0_5, m0_6)))))), (m1, (m1_1, (m1_2, (m1_3, (m1_4, (m1_5, m1_6)))))))))
 else
 some (Sum.inr (Sum.inr ((m0, (m0_1, (m0_2, (m0_3, (m0_4, (m0_5, m0_6)))))), (m1, (m1_1, (m1_2, (m1_3, (m1_4, (m1_5, m1_6)))))))))
def qac_W0 (n : Nat) (s : Int × (DE × DE × DB × Int × Int × Int × Int) × DE × DE × DB × Int × Int × Int × Int) : Option ((Bool × (DE × DE × DB × Int × Int × Int × Int) × (DE × DE × DB × Int × Int × Int × Int) × (Int × Int × DA × DA) × Int × Int × DA × DA) ⊕ ((DE × DE × DB × Int × Int × Int × Int) × DE × DE × DB × Int × Int × Int × Int)) := loopS (fun s => qac_B0 n s.1 s.2.1.1 s.2.1.2.1 s.2.1.2.2.1 s.2.1.2.2.2.1 s.2.1.2.2.2.2.1 s.2.1.2.2.2.2.2.1 s.2.1.2.2.2.2.2.2 s.2.2.1 s.2.2.2.1 s.2.2.2.2.1 s.2.2.2.2.2.1 s.2.2.2.2.2.2.1 s.2.2.2.2.2.2.2.1 s.2.2.2.2.2.2.2.2) n s
def qar_B0 (n : Nat) (t0 : DE) (t1 : DE) (t5 : Int) : Option ((DE × DE × Int) ⊕ ((Bool) ⊕ (Unit))) :=
 bif (decide (t5 < (lenI t0))) then
 (getI t0 t5).bind fun x438 =>
 (getI t1 t5).bind fun x439 =>
 bif (x438.1 != x439.1) then
 some (Sum.inr (Sum.inl false))
 else
 (getI t0 t5).bind fun x440 =>
 (getI t1 t5).bind fun x441 =>
 bif (x440.2.1 != x441.2.1) then
 some (Sum.inr (Sum.inl false))
 else
 (getI t0 t5).bind fun x442 =>
 (getI t1 t5).bind fun x443 =>
 (qal n x442.2.2.1 x443.2.2.1).bind fun r444 =>
 bif (!r444) then
 some (Sum.inr (Sum.inl false))
 else
 (getI t0 t5).bind fun x445 =>
 (getI t1 t5).bind fun x446 =>
 (qan n x445.2.2.2 x446.2.2.2).bind fun r447 =>
 bif (!r447) then
 some (Sum.inr (Sum.inl false))
 else
 some (Sum.inl (t0, (t1, (addI .i64 t5 1))))
 else
 some (Sum.inr (Sum.inr ()))
def qar_W0 (n : Nat) (s : DE × DE × Int) : Option ((Bool) ⊕ (Unit)) := loopS (fun s => qar_B0 n s.1 s.2.1 s.2.2) n s
def qar (n : Nat) (t0 : DE) (t1 : DE) : Option (Bool) :=
 bif ((lenI t0) != (lenI t1)) then
 some false
 else
 (qar_W0 n (t0, (t1, 0))).bind fun r448 =>
 Sum.rec (fun u449 =>
 some u449) (fun v450 =>
 some true) r448
def qap_B0 (n : Nat) (a_0 : DB) (b_1 : DB) (i_5 : Int) : Option ((DB × DB × Int) ⊕ ((Bool) ⊕ (Unit))) :=
 bif (decide (i_5 < (lenI a_0))) then
 (getI a_0 i_5).bind fun x455 =>
 (getI b_1 i_5).bind fun x456 =>
 bif (!((x455.1 == x456.1) && ((x455.2.1 == x456.2.1) && (x455.2.2 == x456.2.2)))) then
 some (Sum.inr (Sum.inl false))
 else
 some (Sum.inl (a_0, (b_1, (addI .i64 i_5 1))))
 else
 some (Sum.inr (Sum.inr ()))
def qap_W0 (n : Nat) (s : DB × DB × Int) : Option ((Bool) ⊕ (Unit)) := loopS (fun s => qap_B0 n s.1 s.2.1 s.2.2) n s
def qap (n : Nat) (a_0 : DB) (b_1 : DB) : Option (Bool) :=
 bif ((lenI a_0) != (lenI b_1)) then
 some false
 else
 (qap_W0 n (a_0, (b_1, 0))).bind fun r457 =>
 Sum.rec (fun u458 =>
 some u458) (fun v459 =>
 some true) r457
def qac (n : Nat) (t0 : DE) (t0_1 : DE) (t0_2 : DB) (t0_3 : Int) (t0_4 : Int) (t0_5 : Int) (t0_6 : Int) (t1 : DE) (t1_1 : DE) (t1_2 : DB) (t1_3 : Int) (t1_4 : Int) (t1_5 : Int) (t1_6 : Int) : Option (Bool) :=
 bif ((lenI t0) != (lenI t1)) then
 some false
 else
 bif (t0_3 != t1_3) then
 some false
 else
 bif (t0_4 != t1_4) then
 some false
 else
 bif (t0_5 != t1_5) then
 some false
 else
 bif (t0_6 != t1_6) then
 some false
 else
 (qac_W0 n (0, ((t0, (t0_1, (t0_2, (t0_3, (t0_4, (t0_5, t0_6)))))), (t1, (t1_1, (t1_2, (t1_3, (t1_4, (t1_5, t1_6))))))))).bind fun r460 =>
 Sum.rec (fun u461 =>
 some u461.1) (fun v462 =>
 (qar n v462.1.2.1 v462.2.2.1).bind fun r463 =>
 bif r463 then
 (qap n v462.1.2.2.1 v462.2.2.2.1).bind fun r464 =>
 some r464
 else
 some false) r460
def qas_B0q0 (n : Nat) (t4 : Int) (m0 : DE) (m0_1 : DE) (m0_2 : DB) (m0_3 : Int) (m0_4 : Int) (m0_5 : Int) (m0_6 : Int) (m1 : Int) (m1_1 : Int) (m1_2 : Int) (m1_3 : Int) (m2 : Int) (m2_1 : Int) (m2_2 : Int) (m2_3 : Int) (m3 : DB) : Option (((Int × (DE × DE × DB × Int × Int × Int × Int) × (Int × Int × Int × Int) × (Int × Int × Int × Int) × DB) ⊕ (Int × (DE × DE × DB × Int × Int × Int × Int) × (Int × Int × Int × Int) × (Int × Int × Int × Int) × DE × DB)) ⊕ (((DE × DE × DB × Int × Int × Int × Int) × (Int × Int × Int × Int) × (Int × Int × Int × Int) × DB) ⊕ ((DE × DE × DB × Int × Int × Int × Int) × (Int × Int × Int × Int) × (Int × Int × Int × Int) × DE × DB))) :=
 bif (decide (t4 < (lenI m0))) then
 (getI m0 t4).bind fun x561 =>
 bif (Nat.ble (List.length x561.2.2.1) 4294967296) then
 bif (Nat.ble (List.length x561.2.2.2) 4294967296) then
 bif (Nat.ble (List.length ((x561.1, (x561.2.1, (x561.2.2.1, x561.2.2.2))) :: ([] : List ((Int) × (Int) × DA × DA)))) 4294967296) then
 some (Sum.inl (Sum.inr ((addI .i64 t4 1), ((m0, (m0_1, (m0_2, (m0_3, (m0_4, (m0_5, m0_6)))))), ((m1, (m1_1, (m1_2, m1_3))), ((m2, (m2_1, (m2_2, m2_3))), (((x561.1, (x561.2.1, (x561.2.2.1, x561.2.2.2))) :: ([] : List ((Int) × (Int) × DA × DA))), m3)))))))
 else none
 else none
 else none
 else
 some (Sum.inr (Sum.inl ((m0, (m0_1, (m0_2, (m0_3, (m0_4, (m0_5, m0_6)))))), ((m1, (m1_1, (m1_2, m1_3))), ((m2, (m2_1, (m2_2, m2_3))), m3)))))
def qas_B0q1 (n : Nat) (t4 : Int) (m0 : DE) (m0_1 : DE) (m0_2 : DB) (m0_3 : Int) (m0_4 : Int) (m0_5 : Int) (m0_6 : Int) (m1 : Int) (m1_1 : Int) (m1_2 : Int) (m1_3 : Int) (m2 : Int) (m2_1 : Int) (m2_2 : Int) (m2_3 : Int) (m3 : DE) (m4 : DB) : Option (((Int × (DE × DE × DB × Int × Int × Int × Int) × (Int × Int × Int × Int) × (Int × Int × Int × Int) × DB) ⊕ (Int × (DE × DE × DB × Int × Int × Int × Int) × (Int × Int × Int × Int) × (Int × Int × Int × Int) × DE × DB)) ⊕ (((DE × DE × DB × Int × Int × Int × Int) × (Int × Int × Int × Int) × (Int × Int × Int × Int) × DB) ⊕ ((DE × DE × DB × Int × Int × Int × Int) × (Int × Int × Int × Int) × (Int × Int × Int × Int) × DE × DB))) :=
 bif (decide (t4 < (lenI m0))) then
 (getI m0 t4).bind fun x562 =>
 bif (Nat.ble (List.length x562.2.2.1) 4294967296) then
 bif (Nat.ble (List.length x562.2.2.2) 4294967296) then
 bif (Nat.ble (List.length (m3 ++ ((x562.1, (x562.2.1, (x562.2.2.1, x562.2.2.2))) :: ([] : List ((Int) × (Int) × DA × DA))))) 4294967296) then
 some (Sum.inl (Sum.inr ((addI .i64 t4 1), ((m0, (m0_1, (m0_2, (m0_3, (m0_4, (m0_5, m0_6)))))), ((m1, (m1_1, (m1_2, m1_3))), ((m2, (m2_1, (m2_2, m2_3))), ((m3 ++ ((x562.1, (x562.2.1, (x562.2.2.1, x562.2.2.2))) :: ([] : List ((Int) × (Int) × DA × DA)))), m4)))))))
 else none
 else none
 else none
 else
 some (Sum.inr (Sum.inr ((m0, (m0_1, (m0_2, (m0_3, (m0_4, (m0_5, m0_6)))))), ((m1, (m1_1, (m1_2, m1_3))), ((m2, (m2_1, (m2_2, m2_3))), (m3, m4))))))
def qas_M0 (n : Nat) (s : (Int × (DE × DE × DB × Int × Int × Int × Int) × (Int × Int × Int × Int) × (Int × Int × Int × Int) × DB) ⊕ (Int × (DE × DE × DB × Int × Int × Int × Int) × (Int × Int × Int × Int) × (Int × Int × Int × Int) × DE × DB)) : Option (((Int × (DE × DE × DB × Int × Int × Int × Int) × (Int × Int × Int × Int) × (Int × Int × Int × Int) × DB) ⊕ (Int × (DE × DE × DB × Int × Int × Int × Int) × (Int × Int × Int × Int) × (Int × Int × Int × Int) × DE × DB)) ⊕ (((DE × DE × DB × Int × Int × Int × Int) × (Int × Int × Int × Int) × (Int × Int × Int × Int) × DB) ⊕ ((DE × DE × DB × Int × Int × Int × Int) × (Int × Int × Int × Int) × (Int × Int × Int × Int) × DE × DB))) := Sum.rec (fun a0 => qas_B0q0 n a0.1 a0.2.1.1 a0.2.1.2.1 a0.2.1.2.2.1 a0.2.1.2.2.2.1 a0.2.1.2.2.2.2.1 a0.2.1.2.2.2.2.2.1 a0.2.1.2.2.2.2.2.2 a0.2.2.1.1 a0.2.2.1.2.1 a0.2.2.1.2.2.1 a0.2.2.1.2.2.2 a0.2.2.2.1.1 a0.2.2.2.1.2.1 a0.2.2.2.1.2.2.1 a0.2.2.2.1.2.2.2 a0.2.2.2.2) (fun b0 => qas_B0q1 n b0.1 b0.2.1.1 b0.2.1.2.1 b0.2.1.2.2.1 b0.2.1.2.2.2.1 b0.2.1.2.2.2.2.1 b0.2.1.2.2.2.2.2.1 b0.2.1.2.2.2.2.2.2 b0.2.2.1.1 b0.2.2.1.2.1 b0.2.2.1.2.2.1 b0.2.2.1.2.2.2 b0.2.2.2.1.1 b0.2.2.2.1.2.1 b0.2.2.2.1.2.2.1 b0.2.2.2.1.2.2.2 b0.2.2.2.2.1 b0.2.2.2.2.2) s
def qas_W0 (n : Nat) (s : (Int × (DE × DE × DB × Int × Int × Int × Int) × (Int × Int × Int × Int) × (Int × Int × Int × Int) × DB) ⊕ (Int × (DE × DE × DB × Int × Int × Int × Int) × (Int × Int × Int × Int) × (Int × Int × Int × Int) × DE × DB)) : Option (((DE × DE × DB × Int × Int × Int × Int) × (Int × Int × Int × Int) × (Int × Int × Int × Int) × DB) ⊕ ((DE × DE × DB × Int × Int × Int × Int) × (Int × Int × Int × Int) × (Int × Int × Int × Int) × DE × DB)) := loopS (qas_M0 n) n s
def qas_B2x1q0 (n : Nat) (t6 : Int) (m0 : DE) (m0_1 : DE) (m0_2 : DB) (m0_3 : Int) (m0_4 : Int) (m0_5 : Int) (m0_6 : Int) (m1 : Int) (m1_1 : Int) (m1_2 : Int) (m1_3 : Int) (m2 : Int) (m2_1 : Int) (m2_2 : Int) (m2_3 : Int) (m3 : DB) : Option (((Int × (DE × DE × DB × Int × Int × Int × Int) × (Int × Int × Int × Int) × (Int × Int × Int × Int) × DB) ⊕ ((Int × (DE × DE × DB × Int × Int × Int × Int) × (Int × Int × Int × Int) × (Int × Int × Int × Int) × DE × DB) ⊕ ((Int × (DE × DE × DB × Int × Int × Int × Int) × (Int × Int × Int × Int) × (Int × Int × Int × Int) × DE × DB) ⊕ (Int × (DE × DE × DB × Int × Int × Int × Int) × (Int × Int × Int × Int) × (Int × Int × Int × Int) × DE × DE × DB)))) ⊕ (((DE × DE × DB × Int × Int × Int × Int) × (Int × Int × Int × Int) × (Int × Int × Int × Int) × DB) ⊕ (((DE × DE × DB × Int × Int × Int × Int) × (Int × Int × Int × Int) × (Int × Int × Int × Int) × DE × DB) ⊕ (((DE × DE × DB × Int × Int × Int × Int) × (Int × Int × Int × Int) × (Int × Int × Int × Int) × DE × DB) ⊕ ((DE × DE × DB × Int × Int × Int × Int) × (Int × Int × Int × Int) × (Int × Int × Int × Int) × DE × DE × DB))))) :=
 bif (decide (t6 < (lenI m0_1))) then
 (getI m0_1 t6).bind fun x574 =>
 bif (Nat.ble (List.length x574.2.2.1) 4294967296) then
 bif (Nat.ble (List.length x574.2.2.2) 4294967296) then
 bif (Nat.ble (List.length ((x574.1, (x574.2.1, (x574.2.2.1, x574.2.2.2))) :: ([] : List ((Int) × (Int) × DA × DA)))) 4294967296) then
 some (Sum.inl (Sum.inr (Sum.inl ((addI .i64 t6 1), ((m0, (m0_1, (m0_2, (m0_3, (m0_4, (m0_5, m0_6)))))), ((m1, (m1_1, (m1_2, m1_3))), ((m2, (m2_1, (m2_2, m2_3))), (((x574.1, (x574.2.1, (x574.2.2.1, x574.2.2.2))) :: ([] : List ((Int) × (Int) × DA × DA))), m3))))))))
 else none
 else none
 else none
 else
 some (Sum.inr (Sum.inl ((m0, (m0_1, (m0_2, (m0_3, (m0_4, (m0_5, m0_6)))))), ((m1, (m1_1, (m1_2, m1_3))), ((m2, (m2_1, (m2_2, m2_3))), m3)))))
def qas_B2x1q1 (n : Nat) (t6 : Int) (m0 : DE) (m0_1 : DE) (m0_2 : DB) (m0_3 : Int) (m0_4 : Int) (m0_5 : Int) (m0_6 : Int) (m1 : Int) (m1_1 : Int) (m1_2 : Int) (m1_3 : Int) (m2 : Int) (m2_1 : Int) (m2_2 : Int) (m2_3 : Int) (m3 : DE) (m4 : DB) : Option (((Int × (DE × DE × DB × Int × Int × Int × Int) × (Int × Int × Int × Int) × (Int × Int × Int × Int) × DB) ⊕ ((Int × (DE × DE × DB × Int × Int × Int × Int) × (Int × Int × Int × Int) × (Int × Int × Int × Int) × DE × DB) ⊕ ((Int × (DE × DE × DB × Int × Int × Int × Int) × (Int × Int × Int × Int) × (Int × Int × Int × Int) × DE × DB) ⊕ (Int × (DE × DE × DB × Int × Int × Int × Int) × (Int × Int × Int × Int) × (Int × Int × Int × Int) × DE × DE × DB)))) ⊕ (((DE × DE × DB × Int × Int × Int × Int) × (Int × Int × Int × Int) × (Int × Int × Int × Int) × DB) ⊕ (((DE × DE × DB × Int × Int × Int × Int) × (Int × Int × Int × Int) × (Int × Int × Int × Int) × DE × DB) ⊕ (((DE × DE × DB × Int × Int × Int × Int) × (Int × Int × Int × Int) × (Int × Int × Int × Int) × DE × DB) ⊕ ((DE × DE × DB × Int × Int × Int × Int) × (Int × Int × Int × Int) × (Int × Int × Int × Int) × DE × DE × DB))))) :=
 bif (decide (t6 < (lenI m0_1))) then
 (getI m0_1 t6).bind fun x575 =>
 bif (Nat.ble (List.length x575.2.2.1) 4294967296) then
 bif (Nat.ble (List.length x575.2.2.2) 4294967296) then
 bif (Nat.ble (List.length (m3 ++ ((x575.1, (x575.2.1, (x575.2.2.1, x575.2.2.2))) :: ([] : List ((Int) × (Int) × DA × DA))))) 4294967296) then
 some (Sum.inl (Sum.inr (Sum.inl ((addI .i64 t6 1), ((m0, (m0_1, (m0_2, (m0_3, (m0_4, (m0_5, m0_6)))))), ((m1, (m1_1, (m1_2, m1_3))), ((m2, (m2_1, (m2_2, m2_3))), ((m3 ++ ((x575.1, (x575.2.1, (x575.2.2.1, x575.2.2.2))) :: ([] : List ((Int) × (Int) × DA × DA)))), m4))))))))
 else none
 else none
 else none
 else
 some (Sum.inr (Sum.inr (Sum.inl ((m0, (m0_1, (m0_2, (m0_3, (m0_4, (m0_5, m0_6)))))), ((m1, (m1_1, (m1_2, m1_3))), ((m2, (m2_1, (m2_2, m2_3))), (m3, m4)))))))
def qas_B2x1q2 (n : Nat) (t6 : Int) (m0 : DE) (m0_1 : DE) (m0_2 : DB) (m0_3 : Int) (m0_4 : Int) (m0_5 : Int) (m0_6 : Int) (m1 : Int) (m1_1 : Int) (m1_2 : Int) (m1_3 : Int) (m2 : Int) (m2_1 : Int) (m2_2 : Int) (m2_3 : Int) (m3 : DE) (m4 : DB) : Option (((Int × (DE × DE × DB × Int × Int × Int × Int) × (Int × Int × Int × Int) × (Int × Int × Int × Int) × DB) ⊕ ((Int × (DE × DE × DB × Int × Int × Int × Int) × (Int × Int × Int × Int) × (Int × Int × Int × Int) × DE × DB) ⊕ ((Int × (DE × DE × DB × Int × Int × Int × Int) × (Int × Int × Int × Int) × (Int × Int × Int × Int) × DE × DB) ⊕ (Int × (DE × DE × DB × Int × Int × Int × Int) × (Int × Int × Int × Int) × (Int × Int × Int × Int) × DE × DE × DB)))) ⊕ (((DE × DE × DB × Int × Int × Int × Int) × (Int × Int × Int × Int) × (Int × Int × Int × Int) × DB) ⊕ (((DE × DE × DB × Int × Int × Int × Int) × (Int × Int × Int × Int) × (Int × Int × Int × Int) × DE × DB) ⊕ (((DE × DE × DB × Int × Int × Int × Int) × (Int × Int × Int × Int) × (Int × Int × Int × Int) × DE × DB) ⊕ ((DE × DE × DB × Int × Int × Int × Int) × (Int × Int × Int × Int) × (Int × Int × Int × Int) × DE × DE × DB))))) :=
 bif (decide (t6 < (lenI m0_1))) then
 (getI m0_1 t6).bind fun x576 =>
 bif (Nat.ble (List.length x576.2.2.1) 4294967296) then
 bif (Nat.ble (List.length x576.2.2.2) 4294967296) then
 bif (Nat.ble (List.length ((x576.1, (x576.2.1, (x576.2.2.1, x576.2.2.2))) :: ([] : List ((Int) × (Int) × DA × DA)))) 4294967296) then
 some (Sum.inl (Sum.inr (Sum.inr (Sum.inr ((addI .i64 t6 1), ((m0, (m0_1, (m0_2, (m0_3, (m0_4, (m0_5, m0_6)))))), ((m1, (m1_1, (m1_2, m1_3))), ((m2, (m2_1, (m2_2, m2_3))), (m3, (((x576.1, (x576.2.1, (x576.2.2.1, x576.2.2.2))) :: ([] : List ((Int) × (Int) × DA × DA))), m4))))))))))
 else none
 else none
 else none
 else
 some (Sum.inr (Sum.inr (Sum.inr (Sum.inl ((m0, (m0_1, (m0_2, (m0_3, (m0_4, (m0_5, m0_6)))))), ((m1, (m1_1, (m1_2, m1_3))), ((m2, (m2_1, (m2_2, m2_3))), (m3, m4))))))))
def qas_B2x1q3 (n : Nat) (t6 : Int) (m0 : DE) (m0_1 : DE) (m0_2 : DB) (m0_3 : Int) (m0_4 : Int) (m0_5 : Int) (m0_6 : Int) (m1 : Int) (m1_1 : Int) (m1_2 : Int) (m1_3 : Int) (m2 : Int) (m2_1 : Int) (m2_2 : Int) (m2_3 : Int) (m3 : DE) (m4 : DE) (m5 : DB) : Option (((Int × (DE × DE × DB × Int × Int × Int × Int) × (Int × Int × Int × Int) × (Int × Int × Int × Int) × DB) ⊕ ((Int × (DE × DE × DB × Int × Int × Int × Int) × (Int × Int × Int × Int) × (Int × Int × Int × Int) × DE × DB) ⊕ ((Int × (DE × DE × DB × Int × Int × Int × Int) × (Int × Int × Int × Int) × (Int × Int × Int × Int) × DE × DB) ⊕ (Int × (DE × DE × DB × Int × Int × Int × Int) × (Int × Int × Int × Int) × (Int × Int × Int × Int) × DE × DE × DB)))) ⊕ (((DE × DE × DB × Int × Int × Int × Int) × (Int × Int × Int × Int) × (Int × Int × Int × Int) × DB) ⊕ (((DE × DE × DB × Int × Int × Int × Int) × (Int × Int × Int × Int) × (Int × Int × Int × Int) × DE × DB) ⊕ (((DE × DE × DB × Int × Int × Int × Int) × (Int × Int × Int × Int) × (Int × Int × Int × Int) × DE × DB) ⊕ ((DE × DE × DB × Int × Int × Int × Int) × (Int × Int × Int × Int) × (Int × Int × Int × Int) × DE × DE × DB))))) :=
 bif (decide (t6 < (lenI m0_1))) then
 (getI m0_1 t6).bind fun x577 =>
 bif (Nat.ble (List.length x577.2.2.1) 4294967296) then
 bif (Nat.ble (List.length x577.2.2.2) 4294967296) then
 bif (Nat.ble (List.length (m4 ++ ((x577.1, (x577.2.1, (x577.2.2.1, x577.2.2.2))) :: ([] : List ((Int) × (Int) × DA × DA))))) 4294967296) then
 some (Sum.inl (Sum.inr (Sum.inr (Sum.inr ((addI .i64 t6 1), ((m0, (m0_1, (m0_2, (m0_3, (m0_4, (m0_5, m0_6)))))), ((m1, (m1_1, (m1_2, m1_3))), ((m2, (m2_1, (m2_2, m2_3))), (m3, ((m4 ++ ((x577.1, (x577.2.1, (x577.2.2.1, x577.2.2.2))) :: ([] : List ((Int) × (Int) × DA × DA)))), m5))))))))))
 else none
 else none
 else none
 else
 some (Sum.inr (Sum.inr (Sum.inr (Sum.inr ((m0, (m0_1, (m0_2, (m0_3, (m0_4, (m0_5, m0_6)))))), ((m1, (m1_1, (m1_2, m1_3))), ((m2, (m2_1, (m2_2, m2_3))), (m3, (m4, m5)))))))))
def qas_M2x1 (n : Nat) (s : (Int × (DE × DE × DB × Int × Int × Int × Int) × (Int × Int × Int × Int) × (Int × Int × Int × Int) × DB) ⊕ ((Int × (DE × DE × DB × Int × Int × Int × Int) × (Int × Int × Int × Int) × (Int × Int × Int × Int) × DE × DB) ⊕ ((Int × (DE × DE × DB × Int × Int × Int × Int) × (Int × Int × Int × Int) × (Int × Int × Int × Int) × DE × DB) ⊕ (Int × (DE × DE × DB × Int × Int × Int × Int) × (Int × Int × Int × Int) × (Int × Int × Int × Int) × DE × DE × DB)))) : Option (((Int × (DE × DE × DB × Int × Int × Int × Int) × (Int × Int × Int × Int) × (Int × Int × Int × Int) × DB) ⊕ ((Int × (DE × DE × DB × Int × Int × Int × Int) × (Int × Int × Int × Int) × (Int × Int × Int × Int) × DE × DB) ⊕ ((Int × (DE × DE × DB × Int × Int × Int × Int) × (Int × Int × Int × Int) × (Int × Int × Int × Int) × DE × DB) ⊕ (Int × (DE × DE × DB × Int × Int × Int × Int) × (Int × Int × Int × Int) × (Int × Int × Int × Int) × DE × DE × DB)))) ⊕ (((DE × DE × DB × Int × Int × Int × Int) × (Int × Int × Int × Int) × (Int × Int × Int × Int) × DB) ⊕ (((DE × DE × DB × Int × Int × Int × Int) × (Int × Int × Int × Int) × (Int × Int × Int × Int) × DE × DB) ⊕ (((DE × DE × DB × Int × Int × Int × Int) × (Int × Int × Int × Int) × (Int × Int × Int × Int) × DE × DB) ⊕ ((DE × DE × DB × Int × Int × Int × Int) × (Int × Int × Int × Int) × (Int × Int × Int × Int) × DE × DE × DB))))) := Sum.rec (fun a0 => qas_B2x1q0 n a0.1 a0.2.1.1 a0.2.1.2.1 a0.2.1.2.2.1 a0.2.1.2.2.2.1 a0.2.1.2.2.2.2.1 a0.2.1.2.2.2.2.2.1 a0.2.1.2.2.2.2.2.2 a0.2.2.1.1 a0.2.2.1.2.1 a0.2.2.1.2.2.1 a0.2.2.1.2.2.2 a0.2.2.2.1.1 a0.2.2.2.1.2.1 a0.2.2.2.1.2.2.1 a0.2.2.2.1.2.2.2 a0.2.2.2.2) (fun b0 => Sum.rec (fun a1 => qas_B2x1q1 n a1.1 a1.2.1.1 a1.2.1.2.1 a1.2.1.2.2.1 a1.2.1.2.2.2.1 a1.2.1.2.2.2.2.1 a1.2.1.2.2.2.2.2.1 a1.2.1.2.2.2.2.2.2 a1.2.2.1.1 a1.2.2.1.2.1 a1.2.2.1.2.2.1 a1.2.2.1.2.2.2 a1.2.2.2.1.1 a1.2.2.2.1.2.1 a1.2.2.2.1.2.2.1 a1.2.2.2.1.2.2.2 a1.2.2.2.2.1 a1.2.2.2.2.2) (fun b1 => Sum.rec (fun a2 => qas_B2x1q2 n a2.1 a2.2.1.1 a2.2.1.2.1 a2.2.1.2.2.1 a2.2.1.2.2.2.1 a2.2.1.2.2.2.2.1 a2.2.1.2.2.2.2.2.1 a2.2.1.2.2.2.2.2.2 a2.2.2.1.1 a2.2.2.1.2.1 a2.2.2.1.2.2.1 a2.2.2.1.2.2.2 a2.2.2.2.1.1 a2.2.2.2.1.2.1 a2.2.2.2.1.2.2.1 a2.2.2.2.1.2.2.2 a2.2.2.2.2.1 a2.2.2.2.2.2) (fun b2 => qas_B2x1q3 n b2.1 b2.2.1.1 b2.2.1.2.1 b2.2.1.2.2.1 b2.2.1.2.2.2.1 b2.2.1.2.2.2.2.1 b2.2.1.2.2.2.2.2.1 b2.2.1.2.2.2.2.2.2 b2.2.2.1.1 b2.2.2.1.2.1 b2.2.2.1.2.2.1 b2.2.2.1.2.2.2 b2.2.2.2.1.1 b2.2.2.2.1.2.1 b2.2.2.2.1.2.2.1 b2.2.2.2.1.2.2.2 b2.2.2.2.2.1 b2.2.2.2.2.2.1 b2.2.2.2.2.2.2) b1) b0) s
def qas_W2x1 (n : Nat) (s : (Int × (DE × DE × DB × Int × Int × Int × Int) × (Int × Int × Int × Int) × (Int × Int × Int × Int) × DB) ⊕ ((Int × (DE × DE × DB × Int × Int × Int × Int) × (Int × Int × Int × Int) × (Int × Int × Int × Int) × DE × DB) ⊕ ((Int × (DE × DE × DB × Int × Int × Int × Int) × (Int × Int × Int × Int) × (Int × Int × Int × Int) × DE × DB) ⊕ (Int × (DE × DE × DB × Int × Int × Int × Int) × (Int × Int × Int × Int) × (Int × Int × Int × Int) × DE × DE × DB)))) : Option (((DE × DE × DB × Int × Int × Int × Int) × (Int × Int × Int × Int) × (Int × Int × Int × Int) × DB) ⊕ (((DE × DE × DB × Int × Int × Int × Int) × (Int × Int × Int × Int) × (Int × Int × Int × Int) × DE × DB) ⊕ (((DE × DE × DB × Int × Int × Int × Int) × (Int × Int × Int × Int) × (Int × Int × Int × Int) × DE × DB) ⊕ ((DE × DE × DB × Int × Int × Int × Int) × (Int × Int × Int × Int) × (Int × Int × Int × Int) × DE × DE × DB)))) := loopS (qas_M2x1 n) n s
def qas (n : Nat) (t0 : DE) (t0_1 : DE) (t0_2 : DB) (t0_3 : Int) (t0_4 : Int) (t0_5 : Int) (t0_6 : Int) : Option (DE × DE × DB × Int × Int × Int × Int) :=
 bif (Nat.ble (List.length t0_2) 4294967296) then
 (qas_W0 n (Sum.inl (0, ((t0, (t0_1, (t0_2, (t0_3, (t0_4, (t0_5, t0_6)))))), ((0, (0, (0, 0))), ((t0_3, (t0_4, (t0_5, t0_6))), t0_2)))))).bind fun r578 =>
 Sum.rec (fun u579 =>
 (qas_W2x1 n (Sum.inl (0, ((u579.1.1, (u579.1.2.1, (u579.1.2.2.1, (u579.1.2.2.2.1, (u579.1.2.2.2.2.1, (u579.1.2.2.2.2.2.1, u579.1.2.2.2.2.2.2)))))), ((u579.2.1.1, (u579.2.1.2.1, (u579.2.1.2.2.1, u579.2.1.2.2.2))), ((u579.2.2.1.1, (u579.2.2.1.2.1, (u579.2.2.1.2.2.1, u579.2.2.1.2.2.2))), u579.2.2.2)))))).bind fun r581 =>
 Sum.rec (fun u582 =>
 some ([], ([], (u582.2.2.2, (u582.2.2.1.1, (u582.2.2.1.2.1, (u582.2.2.1.2.2.1, u582.2.2.1.2.2.2))))))) (fun v583 =>
 Sum.rec (fun u584 =>
 some ([], (u584.2.2.2.1, (u584.2.2.2.2, (u584.2.2.1.1, (u584.2.2.1.2.1, (u584.2.2.1.2.2.1, u584.2.2.1.2.2.2))))))) (fun v585 =>
 Sum.rec (fun u586 =>
 some (u586.2.2.2.1, ([], (u586.2.2.2.2, (u586.2.2.1.1, (u586.2.2.1.2.1, (u586.2.2.1.2.2.1, u586.2.2.1.2.2.2))))))) (fun v587 =>
 some (v587.2.2.2.1, (v587.2.2.2.2.1, (v587.2.2.2.2.2, (v587.2.2.1.1, (v587.2.2.1.2.1, (v587.2.2.1.2.2.1, v587.2.2.1.2.2.2))))))) v585) v583) r581) (fun v580 =>
 (qas_W2x1 n (Sum.inr (Sum.inr (Sum.inl (0, ((v580.1.1, (v580.1.2.1, (v580.1.2.2.1, (v580.1.2.2.2.1, (v580.1.2.2.2.2.1, (v580.1.2.2.2.2.2.1, v580.1.2.2.2.2.2.2)))))), ((v580.2.1.1, (v580.2.1.2.1, (v580.2.1.2.2.1, v580.2.1.2.2.2))), ((v580.2.2.1.1, (v580.2.2.1.2.1, (v580.2.2.1.2.2.1, v580.2.2.1.2.2.2))), (v580.2.2.2.1, v580.2.2.2.2))))))))).bind fun r588 =>
 Sum.rec (fun u589 =>
 some ([], ([], (u589.2.2.2, (u589.2.2.1.1, (u589.2.2.1.2.1, (u589.2.2.1.2.2.1, u589.2.2.1.2.2.2))))))) (fun v590 =>
 Sum.rec (fun u591 =>
 some ([], (u591.2.2.2.1, (u591.2.2.2.2, (u591.2.2.1.1, (u591.2.2.1.2.1, (u591.2.2.1.2.2.1, u591.2.2.1.2.2.2))))))) (fun v592 =>
 Sum.rec (fun u593 =>
 some (u593.2.2.2.1, ([], (u593.2.2.2.2, (u593.2.2.1.1, (u593.2.2.1.2.1, (u593.2.2.1.2.2.1, u593.2.2.1.2.2.2))))))) (fun v594 =>
 some (v594.2.2.2.1, (v594.2.2.2.2.1, (v594.2.2.2.2.2, (v594.2.2.1.1, (v594.2.2.1.2.1, (v594.2.2.1.2.2.1, v594.2.2.1.2.2.2))))))) v592) v590) r588) r578
 else none
def law20ImageOwn_B0 (n : Nat) (e_8 : Int) (i_10 : Int) (m0 : DE) (m0_1 : DE) (m0_2 : DB) (m0_3 : Int) (m0_4 : Int) (m0_5 : Int) (m0_6 : Int) (m1 : DA) (m2 : DE) (m2_1 : DE) (m2_2 : DB) (m2_3 : Int) (m2_4 : Int) (m2_5 : Int) (m2_6 : Int) (m3 : DE) (m3_1 : DE) (m3_2 : DB) (m3_3 : Int) (m3_4 : Int) (m3_5 : Int) (m3_6 : Int) : Option (((Int × Int) × (DE × DE × DB × Int × Int × Int × Int) × DA × (DE × DE × DB × Int × Int × Int × Int) × DE × DE × DB × Int × Int × Int × Int) ⊕ (Int × (DE × DE × DB × Int × Int × Int × Int) × DA × (DE × DE × DB × Int × Int × Int × Int) × DE × DE × DB × Int × Int × Int × Int)) :=
 bif (decide (i_10 < (lenI m1))) then
 bif ((decide (0 ≤ i_10)) && (decide (i_10 < (((List.length m1) : Nat) : Int)))) then
 (m1[(Int.toNat i_10)]?).bind fun x603 =>
 bif ((decide (0 ≤ i_10)) && (decide (i_10 < (((List.length m1) : Nat) : Int)))) then
 bif (Nat.ble ((Int.toNat i_10) + 1) (List.length m1)) then
 some (Sum.inl ((e_8, (addI .i64 i_10 1)), ((m0, (m0_1, (m0_2, (m0_3, (m0_4, (m0_5, m0_6)))))), ((List.set m1 (Int.toNat i_10) (addI .u8 x603 1)), ((m2, (m2_1, (m2_2, (m2_3, (m2_4, (m2_5, m2_6)))))), (m3, (m3_1, (m3_2, (m3_3, (m3_4, (m3_5, m3_6)))))))))))
 else none
 else none
 else none
 else
 some (Sum.inr (e_8, ((m0, (m0_1, (m0_2, (m0_3, (m0_4, (m0_5, m0_6)))))), (m1, ((m2, (m2_1, (m2_2, (m2_3, (m2_4, (m2_5, m2_6)))))), (m3, (m3_1, (m3_2, (m3_3, (m3_4, (m3_5, m3_6)))))))))))
def law20ImageOwn_W0 (n : Nat) (s : (Int × Int) × (DE × DE × DB × Int × Int × Int × Int) × DA × (DE × DE × DB × Int × Int × Int × Int) × DE × DE × DB × Int × Int × Int × Int) : Option (Int × (DE × DE × DB × Int × Int × Int × Int) × DA × (DE × DE × DB × Int × Int × Int × Int) × DE × DE × DB × Int × Int × Int × Int) := loopS (fun s => law20ImageOwn_B0 n s.1.1 s.1.2 s.2.1.1 s.2.1.2.1 s.2.1.2.2.1 s.2.1.2.2.2.1 s.2.1.2.2.2.2.1 s.2.1.2.2.2.2.2.1 s.2.1.2.2.2.2.2.2 s.2.2.1 s.2.2.2.1.1 s.2.2.2.1.2.1 s.2.2.2.1.2.2.1 s.2.2.2.1.2.2.2.1 s.2.2.2.1.2.2.2.2.1 s.2.2.2.1.2.2.2.2.2.1 s.2.2.2.1.2.2.2.2.2.2 s.2.2.2.2.1 s.2.2.2.2.2.1 s.2.2.2.2.2.2.1 s.2.2.2.2.2.2.2.1 s.2.2.2.2.2.2.2.2.1 s.2.2.2.2.2.2.2.2.2.1 s.2.2.2.2.2.2.2.2.2.2) n s
def law20ImageOwn (n : Nat) (s_0 : DE) (s_0_1 : DE) (s_0_2 : DB) (s_0_3 : Int) (s_0_4 : Int) (s_0_5 : Int) (s_0_6 : Int) (print_1 : Int) : Option (Bool) :=
 (qak n s_0 s_0_1 s_0_2 s_0_3 s_0_4 s_0_5 s_0_6).bind fun r614 =>
 bif (!r614) then
 (qy n).bind fun r615 =>
 some r615
 else
 (qai n s_0 s_0_1 s_0_2 s_0_3 s_0_4 s_0_5 s_0_6).bind fun r616 =>
 bif (!r616) then
 (qy n).bind fun r617 =>
 some r617
 else
 (qah n s_0 s_0_1 s_0_2 s_0_3 s_0_4 s_0_5 s_0_6 print_1 Bool.false).bind fun r618 =>
 bif (decide ((lenI r618) > 65536)) then
 (qy n).bind fun r619 =>
 some r619
 else
 (qag n r618).bind fun r620 =>
 (qas n r620.1.1 r620.1.2.1 r620.1.2.2.1 r620.1.2.2.2.1 r620.1.2.2.2.2.1 r620.1.2.2.2.2.2.1 r620.1.2.2.2.2.2.2).bind fun r621 =>
 (law20ImageOwn_W0 n ((r620.2.2, 0), ((s_0, (s_0_1, (s_0_2, (s_0_3, (s_0_4, (s_0_5, s_0_6)))))), (r618, ((r620.1.1, (r620.1.2.1, (r620.1.2.2.1, (r620.1.2.2.2.1, (r620.1.2.2.2.2.1, (r620.1.2.2.2.2.2.1, r620.1.2.2.2.2.2.2)))))), (r621.1, (r621.2.1, (r621.2.2.1, (r621.2.2.2.1, (r621.2.2.2.2.1, (r621.2.2.2.2.2.1, r621.2.2.2.2.2.2))))))))))).bind fun r622 =>
 (qy n).bind fun r623 =>
 bif r623 then
 bif (r622.1 == 0) then
 (qac n r622.2.2.2.1.1 r622.2.2.2.1.2.1 r622.2.2.2.1.2.2.1 r622.2.2.2.1.2.2.2.1 r622.2.2.2.1.2.2.2.2.1 r622.2.2.2.1.2.2.2.2.2.1 r622.2.2.2.1.2.2.2.2.2.2 r622.2.2.2.2.1 r622.2.2.2.2.2.1 r622.2.2.2.2.2.2.1 r622.2.2.2.2.2.2.2.1 r622.2.2.2.2.2.2.2.2.1 r622.2.2.2.2.2.2.2.2.2.1 r622.2.2.2.2.2.2.2.2.2.2).bind fun r624 =>
 bif r624 then
 (qac n r622.2.2.2.1.1 r622.2.2.2.1.2.1 r622.2.2.2.1.2.2.1 r622.2.2.2.1.2.2.2.1 r622.2.2.2.1.2.2.2.2.1 r622.2.2.2.1.2.2.2.2.2.1 r622.2.2.2.1.2.2.2.2.2.2 r622.2.1.1 r622.2.1.2.1 r622.2.1.2.2.1 r622.2.1.2.2.2.1 r622.2.1.2.2.2.2.1 r622.2.1.2.2.2.2.2.1 r622.2.1.2.2.2.2.2.2).bind fun r625 =>
 some r625
 else
 some false
 else
 some false
 else
 some false
end
end Sx
