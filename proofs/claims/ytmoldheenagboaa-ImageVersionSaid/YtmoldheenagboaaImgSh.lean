import Derived.Test.YtmoldheenagboaaLib5
import Derived.KernelRfl
open Go Go.Ab
set_option linter.unusedVariables false
set_option maxRecDepth 20000
namespace Sx
noncomputable section
abbrev DA := List Int
abbrev DB := List (Int × Int × Bool)
abbrev DC := List (Int)
abbrev DD := List (Nat × Int × Int)
abbrev DE := List (Int × Int × DA × DA)
def qan_B0 (n : Nat) (v_0 : Int) (t9 : Int) (t10 : Int) (m0 : DA) : Option (((Int × Int × Int) × DA) ⊕ DA) :=
 bif (decide (t10 < t9)) then
 bif (decide (0 ≤ (mulI .i64 8 t10))) then
 bif (Nat.ble (List.length (m0 ++ ((cvtI .u8 (shrI .u64 v_0 (mulI .i64 8 t10))) :: ([] : DC)))) 4294967296) then
 some (Sum.inl ((v_0, (t9, (addI .i64 t10 1))), (m0 ++ ((cvtI .u8 (shrI .u64 v_0 (mulI .i64 8 t10))) :: ([] : DC)))))
 else none
 else none
 else
 some (Sum.inr m0)
def qan_W0 (n : Nat) (s : (Int × Int × Int) × DA) : Option DA := loopS (fun s => qan_B0 n s.1.1 s.1.2.1 s.1.2.2 s.2) n s
def qan (n : Nat) (v_0 : Int) (n_1 : Int) : Option DA :=
 (qan_W0 n ((v_0, ((minI (maxI n_1 0) 8), 0)), ([] : DC))).bind fun r8 =>
 some r8
def qaq_B0 (n : Nat) (v_0 : Int) (m0 : DA) : Option ((Int × DA) ⊕ (Int × DA)) :=
 bif (decide (v_0 ≥ 128)) then
 bif (Nat.ble (List.length (m0 ++ ((orI .u8 (cvtI .u8 v_0) 128) :: ([] : DC)))) 4294967296) then
 some (Sum.inl ((shrI .u64 v_0 7), (m0 ++ ((orI .u8 (cvtI .u8 v_0) 128) :: ([] : DC)))))
 else none
 else
 some (Sum.inr (v_0, m0))
def qaq_W0 (n : Nat) (s : Int × DA) : Option (Int × DA) := loopS (fun s => qaq_B0 n s.1 s.2) n s
def qaq (n : Nat) (v_0 : Int) : Option DA :=
 (qaq_W0 n (v_0, ([] : DC))).bind fun r10 =>
 bif (Nat.ble (List.length (r10.2 ++ ((cvtI .u8 r10.1) :: ([] : DC)))) 4294967296) then
 some (r10.2 ++ ((cvtI .u8 r10.1) :: ([] : DC)))
 else none
def qm (n : Nat) (v_1 : Int) (m1 : DA) : Option DA :=
 (qaq n v_1).bind fun r11 =>
 bif (Nat.ble (List.length (m1 ++ r11)) 4294967296) then
 some (m1 ++ r11)
 else none
def qr (n : Nat) (n_1 : Int) (m1 : DA) : Option DA :=
 (qm n (cvtI .u64 (maxI n_1 0)) m1).bind fun r12 =>
 some r12
def qac_B0 (n : Nat) (t27 : Int) (t27_1 : Int) (t27_2 : Int) (t28 : Int) (m0 : DE) (m0_1 : DE) (m0_2 : DB) (m0_3 : Int) (m0_4 : Int) (m0_5 : Int) (m0_6 : Int) (m2 : DA) : Option ((((Int × Int × Int) × Int) × (DE × DE × DB × Int × Int × Int × Int) × DA) ⊕ ((DE × DE × DB × Int × Int × Int × Int) × DA)) :=
 bif (decide (t28 < 3)) then
 bif ((decide (0 ≤ t28)) && (decide (t28 < 3))) then
 bif (Nat.beq (Int.toNat t28) 0) then
 (qr n t27 m2).bind fun r13 =>
 some (Sum.inl (((t27, (t27_1, t27_2)), (addI .i64 t28 1)), ((m0, (m0_1, (m0_2, (m0_3, (m0_4, (m0_5, m0_6)))))), r13)))
 else
 bif (Nat.beq (Int.toNat t28) 1) then
 (qr n t27_1 m2).bind fun r14 =>
 some (Sum.inl (((t27, (t27_1, t27_2)), (addI .i64 t28 1)), ((m0, (m0_1, (m0_2, (m0_3, (m0_4, (m0_5, m0_6)))))), r14)))
 else
 bif (Nat.beq (Int.toNat t28) 2) then
 (qr n t27_2 m2).bind fun r15 =>
 some (Sum.inl (((t27, (t27_1, t27_2)), (addI .i64 t28 1)), ((m0, (m0_1, (m0_2, (m0_3, (m0_4, (m0_5, m0_6)))))), r15)))
 else none
 else none
 else
 some (Sum.inr ((m0, (m0_1, (m0_2, (m0_3, (m0_4, (m0_5, m0_6)))))), m2))
def qac_W0 (n : Nat) (s : ((Int × Int × Int) × Int) × (DE × DE × DB × Int × Int × Int × Int) × DA) : Option ((DE × DE × DB × Int × Int × Int × Int) × DA) := loopS (fun s => qac_B0 n s.1.1.1 s.1.1.2.1 s.1.1.2.2 s.1.2 s.2.1.1 s.2.1.2.1 s.2.1.2.2.1 s.2.1.2.2.2.1 s.2.1.2.2.2.2.1 s.2.1.2.2.2.2.2.1 s.2.1.2.2.2.2.2.2 s.2.2) n s
def ql_B0 (n : Nat) (t10 : DA) (t11 : Int) (t12 : Int) (m1 : DA) : Option (((DA × Int × Int) × DA) ⊕ DA) :=
 bif (decide (t12 < t11)) then
 (getI t10 t12).bind fun x27 =>
 (qm n x27 m1).bind fun r28 =>
 some (Sum.inl ((t10, (t11, (addI .i64 t12 1))), r28))
 else
 some (Sum.inr m1)
def ql_W0 (n : Nat) (s : (DA × Int × Int) × DA) : Option DA := loopS (fun s => ql_B0 n s.1.1 s.1.2.1 s.1.2.2 s.2) n s
def ql (n : Nat) (list_1 : DA) (m1 : DA) : Option DA :=
 (qr n (lenI list_1) m1).bind fun r29 =>
 (ql_W0 n ((list_1, ((lenI list_1), 0)), r29)).bind fun r30 =>
 some r30
def qd (n : Nat) (f_1 : Int) (f_1_1 : Int) (f_1_2 : DA) (f_1_3 : DA) (m1 : DA) : Option DA :=
 (qr n f_1 m1).bind fun r31 =>
 (qr n f_1_1 r31).bind fun r32 =>
 (ql n f_1_2 r32).bind fun r33 =>
 (ql n f_1_3 r33).bind fun r34 =>
 some r34
def qac_B2 (n : Nat) (t45 : DE) (t46 : Int) (t47 : Int) (m0 : DE) (m0_1 : DE) (m0_2 : DB) (m0_3 : Int) (m0_4 : Int) (m0_5 : Int) (m0_6 : Int) (m2 : DA) : Option (((DE × Int × Int) × (DE × DE × DB × Int × Int × Int × Int) × DA) ⊕ ((DE × DE × DB × Int × Int × Int × Int) × DA)) :=
 bif (decide (t47 < t46)) then
 (getI t45 t47).bind fun x35 =>
 (qd n x35.1 x35.2.1 x35.2.2.1 x35.2.2.2 m2).bind fun r36 =>
 some (Sum.inl ((t45, (t46, (addI .i64 t47 1))), ((m0, (m0_1, (m0_2, (m0_3, (m0_4, (m0_5, m0_6)))))), r36)))
 else
 some (Sum.inr ((m0, (m0_1, (m0_2, (m0_3, (m0_4, (m0_5, m0_6)))))), m2))
def qac_W2 (n : Nat) (s : (DE × Int × Int) × (DE × DE × DB × Int × Int × Int × Int) × DA) : Option ((DE × DE × DB × Int × Int × Int × Int) × DA) := loopS (fun s => qac_B2 n s.1.1 s.1.2.1 s.1.2.2 s.2.1.1 s.2.1.2.1 s.2.1.2.2.1 s.2.1.2.2.2.1 s.2.1.2.2.2.2.1 s.2.1.2.2.2.2.2.1 s.2.1.2.2.2.2.2.2 s.2.2) n s
def qj (n : Nat) (o_1 : Int) (o_1_1 : Int) (o_1_2 : DA) (o_1_3 : DA) (m1 : DA) : Option DA :=
 (qr n o_1 m1).bind fun r46 =>
 (qr n o_1_1 r46).bind fun r47 =>
 (ql n o_1_2 r47).bind fun r48 =>
 (qr n (lenI o_1_3) r48).bind fun r49 =>
 bif (Nat.ble (List.length (r49 ++ o_1_3)) 4294967296) then
 some (r49 ++ o_1_3)
 else none
def qac_B4 (n : Nat) (t61 : DE) (t62 : Int) (t63 : Int) (m0 : DE) (m0_1 : DE) (m0_2 : DB) (m0_3 : Int) (m0_4 : Int) (m0_5 : Int) (m0_6 : Int) (m2 : DA) : Option (((DE × Int × Int) × (DE × DE × DB × Int × Int × Int × Int) × DA) ⊕ ((DE × DE × DB × Int × Int × Int × Int) × DA)) :=
 bif (decide (t63 < t62)) then
 (getI t61 t63).bind fun x50 =>
 (qj n x50.1 x50.2.1 x50.2.2.1 x50.2.2.2 m2).bind fun r51 =>
 some (Sum.inl ((t61, (t62, (addI .i64 t63 1))), ((m0, (m0_1, (m0_2, (m0_3, (m0_4, (m0_5, m0_6)))))), r51)))
 else
 some (Sum.inr ((m0, (m0_1, (m0_2, (m0_3, (m0_4, (m0_5, m0_6)))))), m2))
def qac_W4 (n : Nat) (s : (DE × Int × Int) × (DE × DE × DB × Int × Int × Int × Int) × DA) : Option ((DE × DE × DB × Int × Int × Int × Int) × DA) := loopS (fun s => qac_B4 n s.1.1 s.1.2.1 s.1.2.2 s.2.1.1 s.2.1.2.1 s.2.1.2.2.1 s.2.1.2.2.2.1 s.2.1.2.2.2.2.1 s.2.1.2.2.2.2.2.1 s.2.1.2.2.2.2.2.2 s.2.2) n s
def qq (n : Nat) (h_1 : Int) (h_1_1 : Int) (h_1_2 : Bool) (m1 : DA) : Option DA :=
 (qr n h_1 m1).bind fun r62 =>
 (qm n h_1_1 r62).bind fun r63 =>
 bif h_1_2 then
 (qm n 1 r63).bind fun r64 =>
 some r64
 else
 (qm n 0 r63).bind fun r65 =>
 some r65
def qac_B6 (n : Nat) (t77 : DB) (t78 : Int) (t79 : Int) (m1 : DA) : Option (((DB × Int × Int) × DA) ⊕ DA) :=
 bif (decide (t79 < t78)) then
 (getI t77 t79).bind fun x66 =>
 (qq n x66.1 x66.2.1 x66.2.2 m1).bind fun r67 =>
 some (Sum.inl ((t77, (t78, (addI .i64 t79 1))), r67))
 else
 some (Sum.inr m1)
def qac_W6 (n : Nat) (s : (DB × Int × Int) × DA) : Option DA := loopS (fun s => qac_B6 n s.1.1 s.1.2.1 s.1.2.2 s.2) n s
def qar_B2 (n : Nat) (n_3 : Int) (t7 : DA) (t8 : Int) (t9 : Int) (t17 : Int) : Option ((Int × DA × Int × Int × Int) ⊕ (Int × DA × Int × Int)) :=
 bif (decide (t17 < 8)) then
 some (Sum.inl ((xorI .u32 (shrI .u32 n_3 1) (mulI .u32 3988292384 (andI .u32 n_3 1))), (t7, (t8, (t9, (addI .i64 t17 1))))))
 else
 some (Sum.inr (n_3, (t7, (t8, t9))))
def qar_W2 (n : Nat) (s : Int × DA × Int × Int × Int) : Option (Int × DA × Int × Int) := loopS (fun s => qar_B2 n s.1 s.2.1 s.2.2.1 s.2.2.2.1 s.2.2.2.2) n s
def qar_B0 (n : Nat) (n_3 : Int) (t7 : DA) (t8 : Int) (t9 : Int) : Option ((Int × DA × Int × Int) ⊕ (Int)) :=
 bif (decide (t9 < t8)) then
 (getI t7 t9).bind fun x78 =>
 (qar_W2 n ((xorI .u32 n_3 (cvtI .u32 x78)), (t7, (t8, (t9, 0))))).bind fun r79 =>
 some (Sum.inl (r79.1, (r79.2.1, (r79.2.2.1, (addI .i64 r79.2.2.2 1)))))
 else
 some (Sum.inr n_3)
def qar_W0 (n : Nat) (s : Int × DA × Int × Int) : Option (Int) := loopS (fun s => qar_B0 n s.1 s.2.1 s.2.2.1 s.2.2.2) n s
def qar (n : Nat) (b_0 : DA) : Option (Int) :=
 (qar_W0 n (4294967295, (b_0, ((lenI b_0), 0)))).bind fun r80 =>
 some (notI .u32 r80)
def qap (n : Nat) (b_0 : DA) : Option DA :=
 bif (Nat.ble (List.length b_0) 4294967296) then
 (qar n b_0).bind fun r82 =>
 (qan n (cvtI .u64 r82) 4).bind fun r83 =>
 bif (Nat.ble (List.length (b_0 ++ r83)) 4294967296) then
 some (b_0 ++ r83)
 else none
 else none
def qac (n : Nat) (t0 : DE) (t0_1 : DE) (t0_2 : DB) (t0_3 : Int) (t0_4 : Int) (t0_5 : Int) (t0_6 : Int) (t1 : Int) : Option DA :=
 (qan n (cvtI .u64 t1) 4).bind fun r84 =>
 bif (Nat.ble (List.length ((2 :: ([] : DC)) ++ r84)) 4294967296) then
 (qac_W0 n (((t0_5, (t0_3, t0_4)), 0), ((t0, (t0_1, (t0_2, (t0_3, (t0_4, (t0_5, t0_6)))))), ((2 :: ([] : DC)) ++ r84)))).bind fun r85 =>
 (qm n r85.1.2.2.2.2.2.2 r85.2).bind fun r86 =>
 (qr n (lenI r85.1.1) r86).bind fun r87 =>
 (qac_W2 n ((r85.1.1, ((lenI r85.1.1), 0)), ((r85.1.1, (r85.1.2.1, (r85.1.2.2.1, (r85.1.2.2.2.1, (r85.1.2.2.2.2.1, (r85.1.2.2.2.2.2.1, r85.1.2.2.2.2.2.2)))))), r87))).bind fun r88 =>
 (qr n (lenI r88.1.2.1) r88.2).bind fun r89 =>
 (qac_W4 n ((r88.1.2.1, ((lenI r88.1.2.1), 0)), ((r88.1.1, (r88.1.2.1, (r88.1.2.2.1, (r88.1.2.2.2.1, (r88.1.2.2.2.2.1, (r88.1.2.2.2.2.2.1, r88.1.2.2.2.2.2.2)))))), r89))).bind fun r90 =>
 (qr n (lenI r90.1.2.2.1) r90.2).bind fun r91 =>
 (qac_W6 n ((r90.1.2.2.1, ((lenI r90.1.2.2.1), 0)), r91)).bind fun r92 =>
 (qap n r92).bind fun r93 =>
 some r93
 else none
def qao (n : Nat) (b_0 : DA) : Option (DA × Int) :=
 bif (decide ((lenI b_0) < 4)) then
 some (([] : DC), 3)
 else
 bif ((decide (0 ≤ (subI .i64 (lenI b_0) 4))) && (decide ((subI .i64 (lenI b_0) 4) ≤ (((List.length b_0) : Nat) : Int)))) then
 (qap n (List.take (Int.toNat (subI .i64 (lenI b_0) 4)) b_0)).bind fun r95 =>
 bif (!(eqS (intsBytes r95) (intsBytes b_0))) then
 some (([] : DC), 3)
 else
 bif (Nat.ble (List.length (List.take (Int.toNat (subI .i64 (lenI b_0) 4)) b_0)) 4294967296) then
 some ((List.take (Int.toNat (subI .i64 (lenI b_0) 4)) b_0), 0)
 else none
 else none
def qz (n : Nat) (b_0 : DA) : Option (DA × Bool) :=
 bif (Nat.ble (List.length b_0) 4294967296) then
 some (b_0, false)
 else none
def qab (n : Nat) (m0 : DA) (m0_1 : Bool) : Option (Bool × DA × Bool) :=
 some (m0_1, (m0, m0_1))
def qv (n : Nat) (m0 : DA) (m0_1 : Bool) : Option (DA × Bool) :=
 some (m0, true)
def qw (n : Nat) (n_1 : Int) (m0 : DA) (m0_1 : Bool) : Option (DA × DA × Bool) :=
 (qab n m0 m0_1).bind fun r100 =>
 bif r100.1 then
 (qv n r100.2.1 r100.2.2).bind fun r101 =>
 some (([] : DC), (r101.1, r101.2))
 else
 bif (decide (n_1 < 0)) then
 (qv n r100.2.1 r100.2.2).bind fun r102 =>
 some (([] : DC), (r102.1, r102.2))
 else
 bif (decide (n_1 > (lenI r100.2.1))) then
 (qv n r100.2.1 r100.2.2).bind fun r103 =>
 some (([] : DC), (r103.1, r103.2))
 else
 bif ((decide (0 ≤ n_1)) && (decide (n_1 ≤ (((List.length r100.2.1) : Nat) : Int)))) then
 bif (Nat.ble (List.length (List.take (Int.toNat n_1) r100.2.1)) 4294967296) then
 bif ((decide (0 ≤ n_1)) && (decide (n_1 ≤ (((List.length r100.2.1) : Nat) : Int)))) then
 some ((List.take (Int.toNat n_1) r100.2.1), ((List.drop (Int.toNat n_1) (List.take (List.length r100.2.1) r100.2.1)), r100.2.2))
 else none
 else none
 else none
def qy (n : Nat) (s_0 : DA) : Option DA :=
 some s_0
def fixV (xs : DA) : Int := xs.foldr (fun c v => orI .u64 (IntKind.u64.wrap (v * 256)) (IntKind.u64.wrap c)) 0
def qp (n : Nat) (n_1 : Int) (m0 : DA) (m0_1 : Bool) : Option (Int × DA × Bool) :=
 (qw n (minI (maxI n_1 0) 8) m0 m0_1).bind fun r => some (fixV r.1, r.2)
def qae (n : Nat) (b_0 : DA) (first_1 : Int) : Option ((Int × Int) ⊕ ((Int × Int) × DA × Bool)) :=
 bif (decide ((lenI b_0) > 65536)) then
 some (Sum.inl (0, 2))
 else
 (qao n b_0).bind fun r110 =>
 bif (r110.2 != 0) then
 some (Sum.inl (0, r110.2))
 else
 (qz n r110.1).bind fun r111 =>
 (qp n 1 r111.1 r111.2).bind fun r112 =>
 bif (r112.1 != (cvtI .u64 first_1)) then
 some (Sum.inl (0, 2))
 else
 (qab n r112.2.1 r112.2.2).bind fun r113 =>
 bif r113.1 then
 some (Sum.inl (0, 2))
 else
 (qp n 4 r113.2.1 r113.2.2).bind fun r114 =>
 (qab n r114.2.1 r114.2.2).bind fun r115 =>
 bif r115.1 then
 some (Sum.inl (0, 2))
 else
 some (Sum.inr (((cvtI .u32 r114.1), 0), (r115.2.1, r115.2.2)))
def qn (n : Nat) : Option (Empty) :=
 none
def qg (n : Nat) (n_1 : Int) : Option (Empty) :=
 (qn n).bind fun r119 =>
 none
def qaa_B0 (n : Nat) (v_3 : Int) (k_4 : Int) : Option ((Int × Int) ⊕ (Empty)) :=
 (qg n 1).bind fun r120 =>
 none
def qaa_W0 (n : Nat) (s : Int × Int) : Option (Empty) := loopS (fun s => qaa_B0 n s.1 s.2) n s
def qaa (n : Nat) : Option (Empty) :=
 (qaa_W0 n (0, 0)).bind fun r121 =>
 none
def qk (n : Nat) (m0 : Bool) : Option (Empty) :=
 (qaa n).bind fun r122 =>
 none
def qs_B0 (n : Nat) (v_3 : Int) (k_4 : Int) (m0 : DA) (m0_1 : Bool) : Option (((Int × Int) × DA × Bool) ⊕ (Int × DA × Bool)) :=
 (qw n 1 m0 m0_1).bind fun r129 =>
 bif ((lenI r129.1) == 0) then
 some (Sum.inr (0, (r129.2.1, r129.2.2)))
 else
 (getI r129.1 0).bind fun x130 =>
 bif (k_4 == 9) then
 bif (decide (x130 > 1)) then
 (qv n r129.2.1 r129.2.2).bind fun r131 =>
 some (Sum.inr (0, (r131.1, r131.2)))
 else
 bif (decide (k_4 > 0)) then
 bif (x130 == 0) then
 (qv n r129.2.1 r129.2.2).bind fun r132 =>
 some (Sum.inr (0, (r132.1, r132.2)))
 else
 bif (decide (0 ≤ (mulI .i64 7 k_4))) then
 bif (decide (x130 < 128)) then
 some (Sum.inr ((orI .u64 v_3 (shlI .u64 (cvtI .u64 (andNotI .u8 x130 128)) (mulI .i64 7 k_4))), (r129.2.1, r129.2.2)))
 else
 some (Sum.inl (((orI .u64 v_3 (shlI .u64 (cvtI .u64 (andNotI .u8 x130 128)) (mulI .i64 7 k_4))), (addI .i64 k_4 1)), (r129.2.1, r129.2.2)))
 else none
 else
 bif (decide (0 ≤ (mulI .i64 7 k_4))) then
 bif (decide (x130 < 128)) then
 some (Sum.inr ((orI .u64 v_3 (shlI .u64 (cvtI .u64 (andNotI .u8 x130 128)) (mulI .i64 7 k_4))), (r129.2.1, r129.2.2)))
 else
 some (Sum.inl (((orI .u64 v_3 (shlI .u64 (cvtI .u64 (andNotI .u8 x130 128)) (mulI .i64 7 k_4))), (addI .i64 k_4 1)), (r129.2.1, r129.2.2)))
 else none
 else
 bif (decide (k_4 > 0)) then
 bif (x130 == 0) then
 (qv n r129.2.1 r129.2.2).bind fun r133 =>
 some (Sum.inr (0, (r133.1, r133.2)))
 else
 bif (decide (0 ≤ (mulI .i64 7 k_4))) then
 bif (decide (x130 < 128)) then
 some (Sum.inr ((orI .u64 v_3 (shlI .u64 (cvtI .u64 (andNotI .u8 x130 128)) (mulI .i64 7 k_4))), (r129.2.1, r129.2.2)))
 else
 some (Sum.inl (((orI .u64 v_3 (shlI .u64 (cvtI .u64 (andNotI .u8 x130 128)) (mulI .i64 7 k_4))), (addI .i64 k_4 1)), (r129.2.1, r129.2.2)))
 else none
 else
 bif (decide (0 ≤ (mulI .i64 7 k_4))) then
 bif (decide (x130 < 128)) then
 some (Sum.inr ((orI .u64 v_3 (shlI .u64 (cvtI .u64 (andNotI .u8 x130 128)) (mulI .i64 7 k_4))), (r129.2.1, r129.2.2)))
 else
 some (Sum.inl (((orI .u64 v_3 (shlI .u64 (cvtI .u64 (andNotI .u8 x130 128)) (mulI .i64 7 k_4))), (addI .i64 k_4 1)), (r129.2.1, r129.2.2)))
 else none
def qs_W0 (n : Nat) (s : (Int × Int) × DA × Bool) : Option (Int × DA × Bool) := loopS (fun s => qs_B0 n s.1.1 s.1.2 s.2.1 s.2.2) n s
def qs (n : Nat) (m0 : DA) (m0_1 : Bool) : Option (Int × DA × Bool) :=
 (qs_W0 n ((0, 0), (m0, m0_1))).bind fun r134 =>
 some (r134.1, (r134.2.1, r134.2.2))
def qe (n : Nat) (m0 : Bool) (m1 : DA) (m1_1 : Bool) : Option (Int × Bool × DA × Bool) :=
 (qs n m1 m1_1).bind fun r135 =>
 bif (decide (r135.1 > 2147483647)) then
 some (0, (true, (r135.2.1, r135.2.2)))
 else
 some ((cvtI .i64 r135.1), (m0, (r135.2.1, r135.2.2)))
def qc (n : Nat) (m0 : Bool) (m1 : DA) (m1_1 : Bool) : Option (Bool × Bool × DA × Bool) :=
 bif m0 then
 some (true, (m0, (m1, m1_1)))
 else
 (qab n m1 m1_1).bind fun r152 =>
 some (r152.1, (m0, (r152.2.1, r152.2.2)))
def qh_B0 (n : Nat) (n_6 : Int) (m0 : Bool) (m1 : DA) (m1_1 : Bool) (m2 : DA) : Option ((Int × Bool × (DA × Bool) × DA) ⊕ (Bool × (DA × Bool) × DA)) :=
 bif (decide (n_6 > 0)) then
 (qc n m0 m1 m1_1).bind fun r158 =>
 bif (!r158.1) then
 (qs n r158.2.2.1 r158.2.2.2).bind fun r159 =>
 bif (Nat.ble (List.length (m2 ++ (r159.1 :: ([] : DC)))) 4294967296) then
 some (Sum.inl ((subI .i64 n_6 1), (r158.2.1, ((r159.2.1, r159.2.2), (m2 ++ (r159.1 :: ([] : DC)))))))
 else none
 else
 some (Sum.inr (r158.2.1, ((r158.2.2.1, r158.2.2.2), m2)))
 else
 some (Sum.inr (m0, ((m1, m1_1), m2)))
def qh_W0 (n : Nat) (s : Int × Bool × (DA × Bool) × DA) : Option (Bool × (DA × Bool) × DA) := loopS (fun s => qh_B0 n s.1 s.2.1 s.2.2.1.1 s.2.2.1.2 s.2.2.2) n s
def qh (n : Nat) (m0 : Bool) (m1 : DA) (m1_1 : Bool) : Option (DA × Bool × DA × Bool) :=
 (qe n m0 m1 m1_1).bind fun r160 =>
 (qh_W0 n (r160.1, (r160.2.1, ((r160.2.2.1, r160.2.2.2), ([] : DC))))).bind fun r161 =>
 some (r161.2.2, (r161.1, (r161.2.1.1, r161.2.1.2)))
def qf (n : Nat) (m0 : Bool) (m1 : DA) (m1_1 : Bool) : Option ((Int × Int × DA × DA) × Bool × DA × Bool) :=
 (qe n m0 m1 m1_1).bind fun r162 =>
 (qe n r162.2.1 r162.2.2.1 r162.2.2.2).bind fun r163 =>
 (qh n r163.2.1 r163.2.2.1 r163.2.2.2).bind fun r164 =>
 (qh n r164.2.1 r164.2.2.1 r164.2.2.2).bind fun r165 =>
 some ((r162.1, (r163.1, (r164.1, r165.1))), (r165.2.1, (r165.2.2.1, r165.2.2.2)))
def qb_B0 (n : Nat) (n_6 : Int) (m0 : Bool) (m1 : DA) (m1_1 : Bool) (m2 : DE) : Option ((Int × Bool × (DA × Bool) × DE) ⊕ (Bool × (DA × Bool) × DE)) :=
 bif (decide (n_6 > 0)) then
 (qc n m0 m1 m1_1).bind fun r166 =>
 bif (!r166.1) then
 (qf n r166.2.1 r166.2.2.1 r166.2.2.2).bind fun r167 =>
 bif (Nat.ble (List.length (m2 ++ ((r167.1.1, (r167.1.2.1, (r167.1.2.2.1, r167.1.2.2.2))) :: ([] : List ((Int) × (Int) × DA × DA))))) 4294967296) then
 some (Sum.inl ((subI .i64 n_6 1), (r167.2.1, ((r167.2.2.1, r167.2.2.2), (m2 ++ ((r167.1.1, (r167.1.2.1, (r167.1.2.2.1, r167.1.2.2.2))) :: ([] : List ((Int) × (Int) × DA × DA))))))))
 else none
 else
 some (Sum.inr (r166.2.1, ((r166.2.2.1, r166.2.2.2), m2)))
 else
 some (Sum.inr (m0, ((m1, m1_1), m2)))
def qb_W0 (n : Nat) (s : Int × Bool × (DA × Bool) × DE) : Option (Bool × (DA × Bool) × DE) := loopS (fun s => qb_B0 n s.1 s.2.1 s.2.2.1.1 s.2.2.1.2 s.2.2.2) n s
def qb (n : Nat) (m0 : Bool) (m1 : DA) (m1_1 : Bool) : Option (DE × Bool × DA × Bool) :=
 (qe n m0 m1 m1_1).bind fun r168 =>
 (qb_W0 n (r168.1, (r168.2.1, ((r168.2.2.1, r168.2.2.2), ([] : List ((Int) × (Int) × DA × DA)))))).bind fun r169 =>
 some (r169.2.2, (r169.1, (r169.2.1.1, r169.2.1.2)))
def qt (n : Nat) (m0 : Bool) (m1 : DA) (m1_1 : Bool) : Option ((Int × Int × DA × DA) × Bool × DA × Bool) :=
 (qe n m0 m1 m1_1).bind fun r187 =>
 (qe n r187.2.1 r187.2.2.1 r187.2.2.2).bind fun r188 =>
 (qh n r188.2.1 r188.2.2.1 r188.2.2.2).bind fun r189 =>
 (qe n r189.2.1 r189.2.2.1 r189.2.2.2).bind fun r190 =>
 (qw n r190.1 r190.2.2.1 r190.2.2.2).bind fun r191 =>
 some ((r187.1, (r188.1, (r189.1, r191.1))), (r190.2.1, (r191.2.1, r191.2.2)))
def qi_B0 (n : Nat) (n_6 : Int) (m0 : Bool) (m1 : DA) (m1_1 : Bool) (m2 : DE) : Option ((Int × Bool × (DA × Bool) × DE) ⊕ (Bool × (DA × Bool) × DE)) :=
 bif (decide (n_6 > 0)) then
 (qc n m0 m1 m1_1).bind fun r192 =>
 bif (!r192.1) then
 (qt n r192.2.1 r192.2.2.1 r192.2.2.2).bind fun r193 =>
 bif (Nat.ble (List.length (m2 ++ ((r193.1.1, (r193.1.2.1, (r193.1.2.2.1, r193.1.2.2.2))) :: ([] : List ((Int) × (Int) × DA × DA))))) 4294967296) then
 some (Sum.inl ((subI .i64 n_6 1), (r193.2.1, ((r193.2.2.1, r193.2.2.2), (m2 ++ ((r193.1.1, (r193.1.2.1, (r193.1.2.2.1, r193.1.2.2.2))) :: ([] : List ((Int) × (Int) × DA × DA))))))))
 else none
 else
 some (Sum.inr (r192.2.1, ((r192.2.2.1, r192.2.2.2), m2)))
 else
 some (Sum.inr (m0, ((m1, m1_1), m2)))
def qi_W0 (n : Nat) (s : Int × Bool × (DA × Bool) × DE) : Option (Bool × (DA × Bool) × DE) := loopS (fun s => qi_B0 n s.1 s.2.1 s.2.2.1.1 s.2.2.1.2 s.2.2.2) n s
def qi (n : Nat) (m0 : Bool) (m1 : DA) (m1_1 : Bool) : Option (DE × Bool × DA × Bool) :=
 (qe n m0 m1 m1_1).bind fun r194 =>
 (qi_W0 n (r194.1, (r194.2.1, ((r194.2.2.1, r194.2.2.2), ([] : List ((Int) × (Int) × DA × DA)))))).bind fun r195 =>
 some (r195.2.2, (r195.1, (r195.2.1.1, r195.2.1.2)))
def qo (n : Nat) (m0 : Bool) (m1 : DA) (m1_1 : Bool) : Option ((Int × Int × Bool) × Bool × DA × Bool) :=
 (qe n m0 m1 m1_1).bind fun r209 =>
 (qs n r209.2.2.1 r209.2.2.2).bind fun r210 =>
 (qe n r209.2.1 r210.2.1 r210.2.2).bind fun r211 =>
 bif r211.2.1 then
 some ((r209.1, (r210.1, (r211.1 == 1))), (true, (r211.2.2.1, r211.2.2.2)))
 else
 some ((r209.1, (r210.1, (r211.1 == 1))), ((decide (r211.1 > 1)), (r211.2.2.1, r211.2.2.2)))
def qa_B0 (n : Nat) (n_6 : Int) (m0 : Bool) (m1 : DA) (m1_1 : Bool) (m2 : DB) : Option ((Int × Bool × (DA × Bool) × DB) ⊕ (Bool × (DA × Bool) × DB)) :=
 bif (decide (n_6 > 0)) then
 (qc n m0 m1 m1_1).bind fun r212 =>
 bif (!r212.1) then
 (qo n r212.2.1 r212.2.2.1 r212.2.2.2).bind fun r213 =>
 bif (Nat.ble (List.length (m2 ++ ((r213.1.1, (r213.1.2.1, r213.1.2.2)) :: ([] : List ((Int) × (Int) × Bool))))) 4294967296) then
 some (Sum.inl ((subI .i64 n_6 1), (r213.2.1, ((r213.2.2.1, r213.2.2.2), (m2 ++ ((r213.1.1, (r213.1.2.1, r213.1.2.2)) :: ([] : List ((Int) × (Int) × Bool))))))))
 else none
 else
 some (Sum.inr (r212.2.1, ((r212.2.2.1, r212.2.2.2), m2)))
 else
 some (Sum.inr (m0, ((m1, m1_1), m2)))
def qa_W0 (n : Nat) (s : Int × Bool × (DA × Bool) × DB) : Option (Bool × (DA × Bool) × DB) := loopS (fun s => qa_B0 n s.1 s.2.1 s.2.2.1.1 s.2.2.1.2 s.2.2.2) n s
def qa (n : Nat) (m0 : Bool) (m1 : DA) (m1_1 : Bool) : Option (DB × Bool × DA × Bool) :=
 (qe n m0 m1 m1_1).bind fun r214 =>
 (qa_W0 n (r214.1, (r214.2.1, ((r214.2.2.1, r214.2.2.2), ([] : List ((Int) × (Int) × Bool)))))).bind fun r215 =>
 some (r215.2.2, (r215.1, (r215.2.1.1, r215.2.1.2)))
def qu (n : Nat) (m0 : DA) (m0_1 : Bool) : Option (Int × DA × Bool) :=
 (qab n m0 m0_1).bind fun r239 =>
 bif r239.1 then
 some (0, (r239.2.1, r239.2.2))
 else
 some ((lenI r239.2.1), (r239.2.1, r239.2.2))
def qaf (n : Nat) (b_0 : DA) : Option ((DE × DE × DB × Int × Int × Int × Int) × Int × Int) :=
 (qae n b_0 2).bind fun r240 =>
 Sum.rec (fun u241 =>
 bif (u241.2 != 0) then
 some (([], ([], ([], (0, (0, (0, 0)))))), (0, u241.2))
 else
 (qk n Bool.false).bind fun r243 =>
 none) (fun v242 =>
 bif (v242.1.2 != 0) then
 some (([], ([], ([], (0, (0, (0, 0)))))), (0, v242.1.2))
 else
 (qe n Bool.false v242.2.1 v242.2.2).bind fun r244 =>
 (qe n r244.2.1 r244.2.2.1 r244.2.2.2).bind fun r245 =>
 (qe n r245.2.1 r245.2.2.1 r245.2.2.2).bind fun r246 =>
 (qs n r246.2.2.1 r246.2.2.2).bind fun r247 =>
 (qb n r246.2.1 r247.2.1 r247.2.2).bind fun r248 =>
 (qi n r248.2.1 r248.2.2.1 r248.2.2.2).bind fun r249 =>
 (qa n r249.2.1 r249.2.2.1 r249.2.2.2).bind fun r250 =>
 (qc n r250.2.1 r250.2.2.1 r250.2.2.2).bind fun r251 =>
 bif r251.1 then
 some (([], ([], ([], (0, (0, (0, 0)))))), (0, 2))
 else
 (qu n r251.2.2.1 r251.2.2.2).bind fun r252 =>
 bif (decide (r252.1 > 0)) then
 some (([], ([], ([], (0, (0, (0, 0)))))), (0, 2))
 else
 some ((r248.1, (r249.1, (r250.1, (r245.1, (r246.1, (r244.1, r247.1)))))), (v242.1.1, 0))) r240
def qx (n : Nat) : Option (Bool) :=
 (qac n ([] : List ((Int) × (Int) × DA × DA)) ([] : List ((Int) × (Int) × DA × DA)) ([] : List ((Int) × (Int) × Bool)) 5 0 0 0 9).bind fun r253 =>
 (qaf n r253).bind fun r254 =>
 bif (r254.2.2 == 0) then
 bif (r254.2.1 == 9) then
 some (r254.1.2.2.2.1 == 5)
 else
 some false
 else
 some false
def qag_B0 (n : Nat) (v_0 : Int) (n_1 : Int) (k_6 : Int) (m0 : DA) : Option (((Int × Int × Int) × DA) ⊕ DA) :=
 bif (decide (k_6 < n_1)) then
 bif (decide (k_6 < 8)) then
 bif (Nat.ble (List.length (m0 ++ ((cvtI .u8 (remI v_0 256)) :: ([] : DC)))) 4294967296) then
 some (Sum.inl (((quoI .u64 v_0 256), (n_1, (addI .i64 k_6 1))), (m0 ++ ((cvtI .u8 (remI v_0 256)) :: ([] : DC)))))
 else none
 else
 some (Sum.inr m0)
 else
 some (Sum.inr m0)
def qag_W0 (n : Nat) (s : (Int × Int × Int) × DA) : Option DA := loopS (fun s => qag_B0 n s.1.1 s.1.2.1 s.1.2.2 s.2) n s
def qag (n : Nat) (v_0 : Int) (n_1 : Int) : Option DA :=
 (qag_W0 n ((v_0, (n_1, 0)), ([] : DC))).bind fun r260 =>
 some r260
def qam_B2 (n : Nat) (b_0 : DA) (n_3 : Int) (i_4 : Int) (k_5 : Int) : Option ((DA × Int × Int × Int) ⊕ (DA × Int × Int)) :=
 bif (decide (k_5 < 8)) then
 bif ((remI n_3 2) == 1) then
 some (Sum.inl (b_0, ((xorI .u32 (quoI .u32 n_3 2) 3988292384), (i_4, (addI .i64 k_5 1)))))
 else
 some (Sum.inl (b_0, ((quoI .u32 n_3 2), (i_4, (addI .i64 k_5 1)))))
 else
 some (Sum.inr (b_0, (n_3, i_4)))
def qam_W2 (n : Nat) (s : DA × Int × Int × Int) : Option (DA × Int × Int) := loopS (fun s => qam_B2 n s.1 s.2.1 s.2.2.1 s.2.2.2) n s
def qam_B0 (n : Nat) (b_0 : DA) (n_3 : Int) (i_4 : Int) : Option ((DA × Int × Int) ⊕ (Int)) :=
 bif (decide (i_4 < (lenI b_0))) then
 (getI b_0 i_4).bind fun x328 =>
 (qam_W2 n (b_0, ((xorI .u32 n_3 (cvtI .u32 x328)), (i_4, 0)))).bind fun r329 =>
 some (Sum.inl (r329.1, (r329.2.1, (addI .i64 r329.2.2 1))))
 else
 some (Sum.inr n_3)
def qam_W0 (n : Nat) (s : DA × Int × Int) : Option (Int) := loopS (fun s => qam_B0 n s.1 s.2.1 s.2.2) n s
def qam (n : Nat) (b_0 : DA) : Option (Int) :=
 (qam_W0 n (b_0, (4294967295, 0))).bind fun r330 =>
 some (notI .u32 r330)
def qak (n : Nat) (b_0 : DA) : Option DA :=
 bif (Nat.ble (List.length b_0) 4294967296) then
 (qam n b_0).bind fun r332 =>
 (qag n (cvtI .u64 r332) 4).bind fun r333 =>
 bif (Nat.ble (List.length (b_0 ++ r333)) 4294967296) then
 some (b_0 ++ r333)
 else none
 else none
def qai_B0 (n : Nat) (a_0 : DA) (b_1 : DA) (i_5 : Int) : Option ((DA × DA × Int) ⊕ ((Bool) ⊕ (Unit))) :=
 bif (decide (i_5 < (lenI a_0))) then
 (getI a_0 i_5).bind fun x364 =>
 (getI b_1 i_5).bind fun x365 =>
 bif (x364 != x365) then
 some (Sum.inr (Sum.inl false))
 else
 some (Sum.inl (a_0, (b_1, (addI .i64 i_5 1))))
 else
 some (Sum.inr (Sum.inr ()))
def qai_W0 (n : Nat) (s : DA × DA × Int) : Option ((Bool) ⊕ (Unit)) := loopS (fun s => qai_B0 n s.1 s.2.1 s.2.2) n s
def qai (n : Nat) (a_0 : DA) (b_1 : DA) : Option (Bool) :=
 bif ((lenI a_0) != (lenI b_1)) then
 some false
 else
 (qai_W0 n (a_0, (b_1, 0))).bind fun r366 =>
 Sum.rec (fun u367 =>
 some u367) (fun v368 =>
 some true) r366
def qah_B0 (n : Nat) (a_0 : DA) (b_1 : DA) (i_5 : Int) : Option ((DA × DA × Int) ⊕ ((Bool) ⊕ (Unit))) :=
 bif (decide (i_5 < (lenI a_0))) then
 (getI a_0 i_5).bind fun x411 =>
 (getI b_1 i_5).bind fun x412 =>
 bif (x411 != x412) then
 some (Sum.inr (Sum.inl false))
 else
 some (Sum.inl (a_0, (b_1, (addI .i64 i_5 1))))
 else
 some (Sum.inr (Sum.inr ()))
def qah_W0 (n : Nat) (s : DA × DA × Int) : Option ((Bool) ⊕ (Unit)) := loopS (fun s => qah_B0 n s.1 s.2.1 s.2.2) n s
def qah (n : Nat) (a_0 : DA) (b_1 : DA) : Option (Bool) :=
 bif ((lenI a_0) != (lenI b_1)) then
 some false
 else
 (qah_W0 n (a_0, (b_1, 0))).bind fun r413 =>
 Sum.rec (fun u414 =>
 some u414) (fun v415 =>
 some true) r413
def qad_B0 (n : Nat) (t5 : Int) (m0 : DE) (m0_1 : DE) (m0_2 : DB) (m0_3 : Int) (m0_4 : Int) (m0_5 : Int) (m0_6 : Int) (m1 : DE) (m1_1 : DE) (m1_2 : DB) (m1_3 : Int) (m1_4 : Int) (m1_5 : Int) (m1_6 : Int) : Option ((Int × (DE × DE × DB × Int × Int × Int × Int) × DE × DE × DB × Int × Int × Int × Int) ⊕ ((Bool × (DE × DE × DB × Int × Int × Int × Int) × (DE × DE × DB × Int × Int × Int × Int) × (Int × Int × DA × DA) × Int × Int × DA × DA) ⊕ ((DE × DE × DB × Int × Int × Int × Int) × DE × DE × DB × Int × Int × Int × Int))) :=
 bif (decide (t5 < (lenI m0))) then
 (getI m0 t5).bind fun x416 =>
 (getI m1 t5).bind fun x417 =>
 bif (x416.1 != x417.1) then
 some (Sum.inr (Sum.inl (false, ((m0, (m0_1, (m0_2, (m0_3, (m0_4, (m0_5, m0_6)))))), ((m1, (m1_1, (m1_2, (m1_3, (m1_4, (m1_5, m1_6)))))), ((x416.1, (x416.2.1, (x416.2.2.1, x416.2.2.2))), (x417.1, (x417.2.1, (x417.2.2.1, x417.2.2.2)))))))))
 else
 bif (x416.2.1 != x417.2.1) then
 some (Sum.inr (Sum.inl (false, ((m0, (m0_1, (m0_2, (m0_3, (m0_4, (m0_5, m0_6)))))), ((m1, (m1_1, (m1_2, (m1_3, (m1_4, (m1_5, m1_6)))))), ((x416.1, (x416.2.1, (x416.2.2.1, x416.2.2.2))), (x417.1, (x417.2.1, (x417.2.2.1, x417.2.2.2)))))))))
 else
 (qah n x416.2.2.1 x417.2.2.1).bind fun r418 =>
 bif (!r418) then
 some (Sum.inr (Sum.inl (false, ((m0, (m0_1, (m0_2, (m0_3, (m0_4, (m0_5, m0_6)))))), ((m1, (m1_1, (m1_2, (m1_3, (m1_4, (m1_5, m1_6)))))), ((x416.1, (x416.2.1, (x416.2.2.1, x416.2.2.2))), (x417.1, (x417.2.1, (x417.2.2.1, x417.2.2.2)))))))))
 else
 (qah n x416.2.2.2 x417.2.2.2).bind fun r419 =>
 bif (!r419) then
 some (Sum.inr (Sum.inl (false, ((m0, (m0_1, (m0_2, (m0_3, (m0_4, (m0_5, m0_6)))))), ((m1, (m1_1, (m1_2, (m1_3, (m1_4, (m1_5, m1_6)))))), ((x416.1, (x416.2.1, (x416.2.2.1, x416.2.2.2))), (x417.1, (x417.2.1, (x417.2.2.1, x417.2.2.2)))))))))
 else
 some (Sum.inl ((addI .i64 t5 1), ((m0, (m0_1, (m0_2, (m0_3, (m0_4, (m0_5, m0_6)))))), (m1, (m1_1, (m1_2, (m1_3, (m1_4, (m1_5, m1_6)))))))))
 else
 some (Sum.inr (Sum.inr ((m0, (m0_1, (m0_2, (m0_3, (m0_4, (m0_5, m0_6)))))), (m1, (m1_1, (m1_2, (m1_3, (m1_4, (m1_5, m1_6)))))))))
def qad_W0 (n : Nat) (s : Int × (DE × DE × DB × Int × Int × Int × Int) × DE × DE × DB × Int × Int × Int × Int) : Option ((Bool × (DE × DE × DB × Int × Int × Int × Int) × (DE × DE × DB × Int × Int × Int × Int) × (Int × Int × DA × DA) × Int × Int × DA × DA) ⊕ ((DE × DE × DB × Int × Int × Int × Int) × DE × DE × DB × Int × Int × Int × Int)) := loopS (fun s => qad_B0 n s.1 s.2.1.1 s.2.1.2.1 s.2.1.2.2.1 s.2.1.2.2.2.1 s.2.1.2.2.2.2.1 s.2.1.2.2.2.2.2.1 s.2.1.2.2.2.2.2.2 s.2.2.1 s.2.2.2.1 s.2.2.2.2.1 s.2.2.2.2.2.1 s.2.2.2.2.2.2.1 s.2.2.2.2.2.2.2.1 s.2.2.2.2.2.2.2.2) n s
def qaj_B0 (n : Nat) (t0 : DE) (t1 : DE) (t5 : Int) : Option ((DE × DE × Int) ⊕ ((Bool) ⊕ (Unit))) :=
 bif (decide (t5 < (lenI t0))) then
 (getI t0 t5).bind fun x438 =>
 (getI t1 t5).bind fun x439 =>
 bif (x438.1 != x439.1) then
 some (Sum.inr (Sum.inl false))
 else
 (getI t0 t5).bind fun x440 =>
 (getI t1 t5).bind fun x441 =>
 bif (x440.2.1 != x441.2.1) then
 some (Sum.inr (Sum.inl false))
 else
 (getI t0 t5).bind fun x442 =>
 (getI t1 t5).bind fun x443 =>
 (qah n x442.2.2.1 x443.2.2.1).bind fun r444 =>
 bif (!r444) then
 some (Sum.inr (Sum.inl false))
 else
 (getI t0 t5).bind fun x445 =>
 (getI t1 t5).bind fun x446 =>
 (qai n x445.2.2.2 x446.2.2.2).bind fun r447 =>
 bif (!r447) then
 some (Sum.inr (Sum.inl false))
 else
 some (Sum.inl (t0, (t1, (addI .i64 t5 1))))
 else
 some (Sum.inr (Sum.inr ()))
def qaj_W0 (n : Nat) (s : DE × DE × Int) : Option ((Bool) ⊕ (Unit)) := loopS (fun s => qaj_B0 n s.1 s.2.1 s.2.2) n s
def qaj (n : Nat) (t0 : DE) (t1 : DE) : Option (Bool) :=
 bif ((lenI t0) != (lenI t1)) then
 some false
 else
 (qaj_W0 n (t0, (t1, 0))).bind fun r448 =>
 Sum.rec (fun u449 =>
 some u449) (fun v450 =>
 some true) r448
def qal_B0 (n : Nat) (a_0 : DB) (b_1 : DB) (i_5 : Int) : Option ((DB × DB × Int) ⊕ ((Bool) ⊕ (Unit))) :=
 bif (decide (i_5 < (lenI a_0))) then
 (getI a_0 i_5).bind fun x455 =>
 (getI b_1 i_5).bind fun x456 =>
 bif (!((x455.1 == x456.1) && ((x455.2.1 == x456.2.1) && (x455.2.2 == x456.2.2)))) then
 some (Sum.inr (Sum.inl false))
 else
 some (Sum.inl (a_0, (b_1, (addI .i64 i_5 1))))
 else
 some (Sum.inr (Sum.inr ()))
def qal_W0 (n : Nat) (s : DB × DB × Int) : Option ((Bool) ⊕ (Unit)) := loopS (fun s => qal_B0 n s.1 s.2.1 s.2.2) n s
def qal (n : Nat) (a_0 : DB) (b_1 : DB) : Option (Bool) :=
 bif ((lenI a_0) != (lenI b_1)) then
 some false
 else
 (qal_W0 n (a_0, (b_1, 0))).bind fun r457 =>
 Sum.rec (fun u458 =>
 some u458) (fun v459 =>
 some true) r457
def qad (n : Nat) (t0 : DE) (t0_1 : DE) (t0_2 : DB) (t0_3 : Int) (t0_4 : Int) (t0_5 : Int) (t0_6 : Int) (t1 : DE) (t1_1 : DE) (t1_2 : DB) (t1_3 : Int) (t1_4 : Int) (t1_5 : Int) (t1_6 : Int) : Option (Bool) :=
 bif ((lenI t0) != (lenI t1)) then
 some false
 else
 bif (t0_3 != t1_3) then
 some false
 else
 bif (t0_4 != t1_4) then
 some false
 else
 bif (t0_5 != t1_5) then
 some false
 else
 bif (t0_6 != t1_6) then
 some false
 else
 (qad_W0 n (0, ((t0, (t0_1, (t0_2, (t0_3, (t0_4, (t0_5, t0_6)))))), (t1, (t1_1, (t1_2, (t1_3, (t1_4, (t1_5, t1_6))))))))).bind fun r460 =>
 Sum.rec (fun u461 =>
 some u461.1) (fun v462 =>
 (qaj n v462.1.2.1 v462.2.2.1).bind fun r463 =>
 bif r463 then
 (qal n v462.1.2.2.1 v462.2.2.2.1).bind fun r464 =>
 some r464
 else
 some false) r460
def law20ImageVersion (n : Nat) (t0 : DA) : Option (Bool) :=
 bif (decide ((lenI t0) > 1000)) then
 (qx n).bind fun r528 =>
 some r528
 else
 (qak n t0).bind fun r529 =>
 (qaf n r529).bind fun r530 =>
 bif (decide ((lenI t0) < 5)) then
 (qx n).bind fun r531 =>
 bif r531 then
 bif (r530.2.2 == 2) then
 bif (r530.2.1 == 0) then
 (qad n r530.1.1 r530.1.2.1 r530.1.2.2.1 r530.1.2.2.2.1 r530.1.2.2.2.2.1 r530.1.2.2.2.2.2.1 r530.1.2.2.2.2.2.2 ([] : List ((Int) × (Int) × DA × DA)) ([] : List ((Int) × (Int) × DA × DA)) ([] : List ((Int) × (Int) × Bool)) 0 0 0 0).bind fun r532 =>
 some r532
 else
 some false
 else
 some false
 else
 some false
 else
 (getI t0 0).bind fun x533 =>
 bif (x533 != 2) then
 (qx n).bind fun r534 =>
 bif r534 then
 bif (r530.2.2 == 2) then
 bif (r530.2.1 == 0) then
 (qad n r530.1.1 r530.1.2.1 r530.1.2.2.1 r530.1.2.2.2.1 r530.1.2.2.2.2.1 r530.1.2.2.2.2.2.1 r530.1.2.2.2.2.2.2 ([] : List ((Int) × (Int) × DA × DA)) ([] : List ((Int) × (Int) × DA × DA)) ([] : List ((Int) × (Int) × Bool)) 0 0 0 0).bind fun r535 =>
 some r535
 else
 some false
 else
 some false
 else
 some false
 else
 (qx n).bind fun r536 =>
 bif r536 then
 bif (r530.2.2 == 0) then
 (getI t0 1).bind fun x537 =>
 (getI t0 2).bind fun x538 =>
 (getI t0 3).bind fun x539 =>
 (getI t0 4).bind fun x540 =>
 bif (r530.2.1 == (addI .u32 (addI .u32 (addI .u32 (cvtI .u32 x537) (shlI .u32 (cvtI .u32 x538) 8)) (shlI .u32 (cvtI .u32 x539) 16)) (shlI .u32 (cvtI .u32 x540) 24))) then
 some true
 else
 bif (r530.2.2 == 2) then
 some (r530.2.1 == 0)
 else
 some false
 else
 bif (r530.2.2 == 2) then
 some (r530.2.1 == 0)
 else
 some false
 else
 some false
end
end Sx
