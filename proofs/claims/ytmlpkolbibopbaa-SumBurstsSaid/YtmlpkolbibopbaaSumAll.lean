import Derived.Test.YtmlpkolbibopbaaProg
import Derived.Test.YtmlpkolbibopbaaLib24
import Derived.KernelRfl
open Go Go.Ab Go.Proofs
set_option linter.unusedVariables false
set_option maxRecDepth 20000
namespace Sx
noncomputable def sumOf_B2 (n : Nat) (n_3 : Int) (t7 : List Int) (t8 : Int) (t9 : Int) (t17 : Int) : Option ((Int × List Int × Int × Int × Int) ⊕ (Int × List Int × Int × Int)) :=
  bif (decide (t17 < 8)) then
    some (Sum.inl ((xorI .u32 (shrI .u32 n_3 1) (mulI .u32 3988292384 (andI .u32 n_3 1))), (t7, (t8, (t9, (addI .i64 t17 1))))))
  else
    some (Sum.inr (n_3, (t7, (t8, t9))))
noncomputable def sumOf_W2 (n : Nat) (s : Int × List Int × Int × Int × Int) : Option (Int × List Int × Int × Int) := loopS (fun s => sumOf_B2 n s.1 s.2.1 s.2.2.1 s.2.2.2.1 s.2.2.2.2) n s
noncomputable def sumOf_B0 (n : Nat) (n_3 : Int) (t7 : List Int) (t8 : Int) (t9 : Int) : Option ((Int × List Int × Int × Int) ⊕ (Int)) :=
  bif (decide (t9 < t8)) then
    (getI t7 t9).bind fun x1 =>
    (sumOf_W2 n ((xorI .u32 n_3 (cvtI .u32 x1)), (t7, (t8, (t9, 0))))).bind fun r2 =>
    some (Sum.inl (r2.1, (r2.2.1, (r2.2.2.1, (addI .i64 r2.2.2.2 1)))))
  else
    some (Sum.inr n_3)
noncomputable def sumOf_W0 (n : Nat) (s : Int × List Int × Int × Int) : Option (Int) := loopS (fun s => sumOf_B0 n s.1 s.2.1 s.2.2.1 s.2.2.2) n s
noncomputable def sumOf (n : Nat) (b_0 : List Int) : Option (Int) :=
  (sumOf_W0 n (4294967295, (b_0, ((lenI b_0), 0)))).bind fun r3 =>
  some (notI .u32 r3)
noncomputable def numFixed_B0 (n : Nat) (v_0 : Int) (t9 : Int) (t10 : Int) (m0 : List Int) : Option (((Int × Int × Int) × List Int) ⊕ (List Int)) :=
  bif (decide (t10 < t9)) then
    bif (decide (0 ≤ (mulI .i64 8 t10))) then
      bif (Nat.ble (List.length (m0 ++ ((cvtI .u8 (shrI .u64 v_0 (mulI .i64 8 t10))) :: ([] : List (Int))))) 4294967296) then
        some (Sum.inl ((v_0, (t9, (addI .i64 t10 1))), (m0 ++ ((cvtI .u8 (shrI .u64 v_0 (mulI .i64 8 t10))) :: ([] : List (Int))))))
      else none
    else none
  else
    some (Sum.inr m0)
noncomputable def numFixed_W0 (n : Nat) (s : (Int × Int × Int) × List Int) : Option (List Int) := loopS (fun s => numFixed_B0 n s.1.1 s.1.2.1 s.1.2.2 s.2) n s
noncomputable def numFixed (n : Nat) (v_0 : Int) (n_1 : Int) : Option (List Int) :=
  (numFixed_W0 n ((v_0, ((minI (maxI n_1 0) 8), 0)), ([] : List (Int)))).bind fun r6 =>
  some r6
noncomputable def sumSeal (n : Nat) (b_0 : List Int) : Option (List Int) :=
  bif (Nat.ble (List.length b_0) 4294967296) then
    (sumOf n b_0).bind fun r7 =>
    (numFixed n (cvtI .u64 r7) 4).bind fun r8 =>
    bif (Nat.ble (List.length (b_0 ++ r8)) 4294967296) then
      some (b_0 ++ r8)
    else none
  else none
noncomputable def law02Answers (n : Nat) : Option (Bool) :=
  (sumOf n (49 :: (50 :: (51 :: (52 :: (53 :: (54 :: (55 :: (56 :: (57 :: ([] : List (Int)))))))))))).bind fun r9 =>
  bif (r9 == 3421780262) then
    (sumSeal n ([] : List (Int))).bind fun r10 =>
    some ((lenI r10) == 4)
  else
    some false
noncomputable def law02SumOne (n : Nat) (b_0 : List Int) (at_1 : Int) (turn_2 : Int) : Option (Bool) :=
  bif ((lenI b_0) == 0) then
    (law02Answers n).bind fun r16 =>
    some r16
  else
    bif (decide ((lenI b_0) > 1000)) then
      (law02Answers n).bind fun r17 =>
      some r17
    else
      bif (turn_2 == 0) then
        (law02Answers n).bind fun r18 =>
        some r18
      else
        bif (Nat.ble (List.length b_0) 4294967296) then
          bif (!((lenI b_0) == 0)) then
            bif ((decide (0 ≤ (remI (cvtI .i64 at_1) (lenI b_0)))) && (decide ((remI (cvtI .i64 at_1) (lenI b_0)) < (((List.length b_0) : Nat) : Int)))) then
              (b_0[(Int.toNat (remI (cvtI .i64 at_1) (lenI b_0)))]?).bind fun x19 =>
              bif ((decide (0 ≤ (remI (cvtI .i64 at_1) (lenI b_0)))) && (decide ((remI (cvtI .i64 at_1) (lenI b_0)) < (((List.length b_0) : Nat) : Int)))) then
                bif (Nat.ble ((Int.toNat (remI (cvtI .i64 at_1) (lenI b_0))) + 1) (List.length b_0)) then
                  (law02Answers n).bind fun r20 =>
                  bif r20 then
                    (sumOf n b_0).bind fun r21 =>
                    (sumOf n (List.set b_0 (Int.toNat (remI (cvtI .i64 at_1) (lenI b_0))) (xorI .u8 x19 turn_2))).bind fun r22 =>
                    some (r21 != r22)
                  else
                    some false
                else none
              else none
            else none
          else none
        else none
noncomputable def sumOpen (n : Nat) (b_0 : List Int) : Option (List Int × Int) :=
  bif (decide ((lenI b_0) < 4)) then
    some (([] : List (Int)), 3)
  else
    bif ((decide (0 ≤ (subI .i64 (lenI b_0) 4))) && (decide ((subI .i64 (lenI b_0) 4) ≤ (((List.length b_0) : Nat) : Int)))) then
      (sumSeal n (List.take (Int.toNat (subI .i64 (lenI b_0) 4)) b_0)).bind fun r26 =>
      bif (!(eqS (intsBytes r26) (intsBytes b_0))) then
        some (([] : List (Int)), 3)
      else
        bif (Nat.ble (List.length (List.take (Int.toNat (subI .i64 (lenI b_0) 4)) b_0)) 4294967296) then
          some ((List.take (Int.toNat (subI .i64 (lenI b_0) 4)) b_0), 0)
        else none
    else none
noncomputable def ref01Sum_B2 (n : Nat) (b_0 : List Int) (n_3 : Int) (i_4 : Int) (k_5 : Int) : Option ((List Int × Int × Int × Int) ⊕ (List Int × Int × Int)) :=
  bif (decide (k_5 < 8)) then
    bif ((remI n_3 2) == 1) then
      some (Sum.inl (b_0, ((xorI .u32 (quoI .u32 n_3 2) 3988292384), (i_4, (addI .i64 k_5 1)))))
    else
      some (Sum.inl (b_0, ((quoI .u32 n_3 2), (i_4, (addI .i64 k_5 1)))))
  else
    some (Sum.inr (b_0, (n_3, i_4)))
noncomputable def ref01Sum_W2 (n : Nat) (s : List Int × Int × Int × Int) : Option (List Int × Int × Int) := loopS (fun s => ref01Sum_B2 n s.1 s.2.1 s.2.2.1 s.2.2.2) n s
noncomputable def ref01Sum_B0 (n : Nat) (b_0 : List Int) (n_3 : Int) (i_4 : Int) : Option ((List Int × Int × Int) ⊕ (Int)) :=
  bif (decide (i_4 < (lenI b_0))) then
    (getI b_0 i_4).bind fun x37 =>
    (ref01Sum_W2 n (b_0, ((xorI .u32 n_3 (cvtI .u32 x37)), (i_4, 0)))).bind fun r38 =>
    some (Sum.inl (r38.1, (r38.2.1, (addI .i64 r38.2.2 1))))
  else
    some (Sum.inr n_3)
noncomputable def ref01Sum_W0 (n : Nat) (s : List Int × Int × Int) : Option (Int) := loopS (fun s => ref01Sum_B0 n s.1 s.2.1 s.2.2) n s
noncomputable def ref01Sum (n : Nat) (b_0 : List Int) : Option (Int) :=
  (ref01Sum_W0 n (b_0, (4294967295, 0))).bind fun r39 =>
  some (notI .u32 r39)
noncomputable def ref01Fixed_B0 (n : Nat) (v_0 : Int) (n_1 : Int) (k_6 : Int) (m0 : List Int) : Option (((Int × Int × Int) × List Int) ⊕ (List Int)) :=
  bif (decide (k_6 < n_1)) then
    bif (decide (k_6 < 8)) then
      bif (Nat.ble (List.length (m0 ++ ((cvtI .u8 (remI v_0 256)) :: ([] : List (Int))))) 4294967296) then
        some (Sum.inl (((quoI .u64 v_0 256), (n_1, (addI .i64 k_6 1))), (m0 ++ ((cvtI .u8 (remI v_0 256)) :: ([] : List (Int))))))
      else none
    else
      some (Sum.inr m0)
  else
    some (Sum.inr m0)
noncomputable def ref01Fixed_W0 (n : Nat) (s : (Int × Int × Int) × List Int) : Option (List Int) := loopS (fun s => ref01Fixed_B0 n s.1.1 s.1.2.1 s.1.2.2 s.2) n s
noncomputable def ref01Fixed (n : Nat) (v_0 : Int) (n_1 : Int) : Option (List Int) :=
  (ref01Fixed_W0 n ((v_0, (n_1, 0)), ([] : List (Int)))).bind fun r47 =>
  some r47
noncomputable def ref01Seal (n : Nat) (b_0 : List Int) : Option (List Int) :=
  bif (Nat.ble (List.length b_0) 4294967296) then
    (ref01Sum n b_0).bind fun r48 =>
    (ref01Fixed n (cvtI .u64 r48) 4).bind fun r49 =>
    bif (Nat.ble (List.length (b_0 ++ r49)) 4294967296) then
      some (b_0 ++ r49)
    else none
  else none
noncomputable def ref01Same_B0 (n : Nat) (a_0 : List Int) (b_1 : List Int) (i_5 : Int) : Option ((List Int × List Int × Int) ⊕ ((Bool) ⊕ (Unit))) :=
  bif (decide (i_5 < (lenI a_0))) then
    (getI a_0 i_5).bind fun x57 =>
    (getI b_1 i_5).bind fun x58 =>
    bif (x57 != x58) then
      some (Sum.inr (Sum.inl false))
    else
      some (Sum.inl (a_0, (b_1, (addI .i64 i_5 1))))
  else
    some (Sum.inr (Sum.inr ()))
noncomputable def ref01Same_W0 (n : Nat) (s : List Int × List Int × Int) : Option ((Bool) ⊕ (Unit)) := loopS (fun s => ref01Same_B0 n s.1 s.2.1 s.2.2) n s
noncomputable def ref01Same (n : Nat) (a_0 : List Int) (b_1 : List Int) : Option (Bool) :=
  bif ((lenI a_0) != (lenI b_1)) then
    some false
  else
    (ref01Same_W0 n (a_0, (b_1, 0))).bind fun r59 =>
    Sum.rec (fun u60 =>
      some u60) (fun v61 =>
      some true) r59
noncomputable def law02SumSeals (n : Nat) (b_0 : List Int) : Option (Bool) :=
  bif (decide ((lenI b_0) > 3000)) then
    (law02Answers n).bind fun r62 =>
    some r62
  else
    bif (Nat.ble (List.length b_0) 4294967296) then
      (sumSeal n b_0).bind fun r63 =>
      (sumOpen n r63).bind fun r64 =>
      (law02Answers n).bind fun r65 =>
      bif r65 then
        (sumOf n b_0).bind fun r66 =>
        (ref01Sum n b_0).bind fun r67 =>
        bif (r66 == r67) then
          (ref01Seal n b_0).bind fun r68 =>
          (ref01Same n r63 r68).bind fun r69 =>
          bif r69 then
            bif (r64.2 == 0) then
              (ref01Same n r64.1 b_0).bind fun r70 =>
              some r70
            else
              some false
          else
            some false
        else
          some false
      else
        some false
    else none
noncomputable def law02SumOpens (n : Nat) (b_0 : List Int) : Option (Bool) :=
  bif (decide ((lenI b_0) > 3000)) then
    (law02Answers n).bind fun r79 =>
    some r79
  else
    (sumOpen n b_0).bind fun r80 =>
    bif (decide ((lenI b_0) < 4)) then
      (law02Answers n).bind fun r81 =>
      bif r81 then
        bif (r80.2 == 3) then
          some ((lenI r80.1) == 0)
        else
          some false
      else
        some false
    else
      bif ((decide (0 ≤ (subI .i64 (lenI b_0) 4))) && (decide ((subI .i64 (lenI b_0) 4) ≤ (((List.length b_0) : Nat) : Int)))) then
        (ref01Seal n (List.take (Int.toNat (subI .i64 (lenI b_0) 4)) b_0)).bind fun r82 =>
        (ref01Same n r82 b_0).bind fun r83 =>
        bif (!r83) then
          (law02Answers n).bind fun r84 =>
          bif r84 then
            bif (r80.2 == 3) then
              some ((lenI r80.1) == 0)
            else
              some false
          else
            some false
        else
          (law02Answers n).bind fun r85 =>
          bif r85 then
            bif (r80.2 == 0) then
              bif ((decide (0 ≤ (subI .i64 (lenI b_0) 4))) && (decide ((subI .i64 (lenI b_0) 4) ≤ (((List.length b_0) : Nat) : Int)))) then
                (ref01Same n r80.1 (List.take (Int.toNat (subI .i64 (lenI b_0) 4)) b_0)).bind fun r86 =>
                some r86
              else none
            else
              some false
          else
            some false
      else none
noncomputable def law02SumBursts_B0 (n : Nat) (t0 : List Int) (t2 : Int) (t8 : Int) (t9 : Int) (m0 : List Int) : Option (((List Int × Int × Int × Int) × List Int) ⊕ (List Int × List Int)) :=
  bif (decide (t9 < 32)) then
    bif (decide (0 ≤ (cvtI .u64 t9))) then
      bif ((remI (shrI .u32 t2 (cvtI .u64 t9)) 2) == 1) then
        bif (decide ((addI .i64 t8 t9) < (mulI .i64 8 (lenI m0)))) then
          bif ((decide (0 ≤ (quoI .i64 (addI .i64 t8 t9) 8))) && (decide ((quoI .i64 (addI .i64 t8 t9) 8) < (((List.length m0) : Nat) : Int)))) then
            (m0[(Int.toNat (quoI .i64 (addI .i64 t8 t9) 8))]?).bind fun x92 =>
            bif (decide (0 ≤ (cvtI .u64 (remI (addI .i64 t8 t9) 8)))) then
              bif ((decide (0 ≤ (quoI .i64 (addI .i64 t8 t9) 8))) && (decide ((quoI .i64 (addI .i64 t8 t9) 8) < (((List.length m0) : Nat) : Int)))) then
                bif (Nat.ble ((Int.toNat (quoI .i64 (addI .i64 t8 t9) 8)) + 1) (List.length m0)) then
                  some (Sum.inl ((t0, (t2, (t8, (addI .i64 t9 1)))), (List.set m0 (Int.toNat (quoI .i64 (addI .i64 t8 t9) 8)) (xorI .u8 x92 (shlI .u8 1 (cvtI .u64 (remI (addI .i64 t8 t9) 8)))))))
                else none
              else none
            else none
          else none
        else
          some (Sum.inl ((t0, (t2, (t8, (addI .i64 t9 1)))), m0))
      else
        some (Sum.inl ((t0, (t2, (t8, (addI .i64 t9 1)))), m0))
    else none
  else
    some (Sum.inr (t0, m0))
noncomputable def law02SumBursts_W0 (n : Nat) (s : (List Int × Int × Int × Int) × List Int) : Option (List Int × List Int) := loopS (fun s => law02SumBursts_B0 n s.1.1 s.1.2.1 s.1.2.2.1 s.1.2.2.2 s.2) n s
noncomputable def law02SumBursts (n : Nat) (t0 : List Int) (t1 : Int) (t2 : Int) : Option (Bool) :=
  bif (decide ((lenI t0) > 500)) then
    (law02Answers n).bind fun r103 =>
    some r103
  else
    bif (t2 == 0) then
      (law02Answers n).bind fun r104 =>
      some r104
    else
      (ref01Seal n t0).bind fun r105 =>
      bif (!((mulI .i64 8 (lenI r105)) == 0)) then
        (law02SumBursts_W0 n ((t0, (t2, ((remI (cvtI .i64 t1) (mulI .i64 8 (lenI r105))), 0))), r105)).bind fun r106 =>
        (sumOpen n r106.2).bind fun r107 =>
        (ref01Seal n r106.1).bind fun r108 =>
        (ref01Same n r106.2 r108).bind fun r109 =>
        bif r109 then
          (law02Answers n).bind fun r110 =>
          bif r110 then
            some (r107.2 == 0)
          else
            some false
        else
          (law02Answers n).bind fun r111 =>
          bif r111 then
            bif (r107.2 == 3) then
              some ((lenI r107.1) == 0)
            else
              some false
          else
            some false
      else none
noncomputable def law02Short (n : Nat) (b_0 : List Int) : Option (Int) :=
  bif (decide ((lenI b_0) < 4)) then
    some (lenI b_0)
  else
    some (remI (lenI b_0) 4)
noncomputable def law02SumShort (n : Nat) (b_0 : List Int) : Option (Bool) :=
  bif (decide ((lenI b_0) > 1000)) then
    (law02Answers n).bind fun r126 =>
    some r126
  else
    (law02Short n b_0).bind fun r127 =>
    bif ((decide (0 ≤ r127)) && (decide (r127 ≤ (((List.length b_0) : Nat) : Int)))) then
      (sumOpen n (List.take (Int.toNat r127) b_0)).bind fun r128 =>
      (sumSeal n b_0).bind fun r129 =>
      (sumSeal n r129).bind fun r130 =>
      (sumOpen n r130).bind fun r131 =>
      (sumOpen n r131.1).bind fun r132 =>
      (law02Answers n).bind fun r133 =>
      bif r133 then
        bif (r128.2 == 3) then
          bif ((lenI r128.1) == 0) then
            bif (r131.2 == 0) then
              bif (r132.2 == 0) then
                (ref01Same n r132.1 b_0).bind fun r134 =>
                some r134
              else
                some false
            else
              some false
          else
            some false
        else
          some false
      else
        some false
    else none
noncomputable def ti2 : TI := ⟨.int .i64, 1, 8, false, some (.int .i64), false, [.int .i64 0]⟩
noncomputable def ti3 : TI := ⟨.int .i64, 1, 8, false, some (.int .i64), false, [.int .i64 0]⟩
noncomputable def ti4 : TI := ⟨.bool, 1, 1, false, some .bool, false, [.bool false]⟩
noncomputable def ti5 : TI := ⟨.int .u8, 1, 1, false, some (.int .u8), false, [.int .u8 0]⟩
noncomputable def ti6 : TI := ⟨.int .u8, 1, 1, false, some (.int .u8), false, [.int .u8 0]⟩
noncomputable def ti7 : TI := ⟨.st [(0, 1, 2), (1, 1, 3), (2, 1, 4), (3, 1, 6)], 4, 24, true, some (.cons (.int .i64) (.cons (.int .i64) (.cons .bool (.int .u8)))), true, [.int .i64 0, .int .i64 0, .bool false, .int .u8 0]⟩
noncomputable def ti8 : TI := ⟨.st [(0, 1, 2), (1, 1, 3), (2, 1, 4), (3, 1, 6)], 4, 24, true, some (.cons (.int .i64) (.cons (.int .i64) (.cons .bool (.int .u8)))), true, [.int .i64 0, .int .i64 0, .bool false, .int .u8 0]⟩
noncomputable def ti9 : TI := ⟨.str, 1, 16, false, some .str, false, [.string (ByteArray.mk (List.toArray []))]⟩
noncomputable def ti10 : TI := ⟨.str, 1, 16, false, some .str, false, [.string (ByteArray.mk (List.toArray []))]⟩
noncomputable def ti11 : TI := ⟨.str, 1, 16, false, some .str, false, [.string (ByteArray.mk (List.toArray []))]⟩
noncomputable def ti12 : TI := ⟨.int .u64, 1, 8, false, some (.int .u64), false, [.int .u64 0]⟩
noncomputable def ti13 : TI := ⟨.st [(0, 1, 9), (1, 1, 12)], 2, 24, true, some (.cons .str (.int .u64)), false, [.string (ByteArray.mk (List.toArray [])), .int .u64 0]⟩
noncomputable def ti14 : TI := ⟨.st [(0, 1, 9), (1, 1, 12)], 2, 24, true, some (.cons .str (.int .u64)), false, [.string (ByteArray.mk (List.toArray [])), .int .u64 0]⟩
noncomputable def ti15 : TI := ⟨.ptr, 1, 8, false, none, false, [.pointer none]⟩
noncomputable def ti16 : TI := ⟨.ptr, 1, 8, false, none, false, [.pointer none]⟩
noncomputable def ti17 : TI := ⟨.ptr, 1, 8, false, none, false, [.pointer none]⟩
noncomputable def ti18 : TI := ⟨.st [(0, 1, 17)], 1, 8, true, none, false, [.pointer none]⟩
noncomputable def ti19 : TI := ⟨.st [(0, 1, 17)], 1, 8, true, none, false, [.pointer none]⟩
noncomputable def ti21 : TI := ⟨.int .i32, 1, 4, false, some (.int .i32), false, [.int .i32 0]⟩
noncomputable def ti22 : TI := ⟨.sl 5, 1, 24, false, some (.sl false (.int .u8)), false, [.slice none 0 0]⟩
noncomputable def ti23 : TI := ⟨.int .u16, 1, 2, false, some (.int .u16), false, [.int .u16 0]⟩
noncomputable def ti25 : TI := ⟨.int .u32, 1, 4, false, some (.int .u32), false, [.int .u32 0]⟩
noncomputable def ti29 : TI := ⟨.int .i64, 1, 8, false, some (.int .i64), false, [.int .i64 0]⟩
noncomputable def ti34 : TI := ⟨.int .u64, 1, 8, false, some (.int .u64), false, [.int .u64 0]⟩
noncomputable def ti38 : TI := ⟨.int .u64, 1, 8, false, some (.int .u64), false, [.int .u64 0]⟩
noncomputable def ti40 : TI := ⟨.st [(0, 1, 17), (1, 1, 17), (2, 1, 17), (3, 1, 9)], 4, 40, true, none, false, [.pointer none, .pointer none, .pointer none, .string (ByteArray.mk (List.toArray []))]⟩
noncomputable def ti41 : TI := ⟨.st [(0, 1, 17), (1, 1, 17), (2, 1, 17), (3, 1, 9)], 4, 40, true, none, false, [.pointer none, .pointer none, .pointer none, .string (ByteArray.mk (List.toArray []))]⟩
noncomputable def ti42 : TI := ⟨.arr 0 16, 0, 0, true, none, false, []⟩
noncomputable def ti43 : TI := ⟨.st [(0, 0, 42)], 0, 0, true, none, false, []⟩
noncomputable def ti44 : TI := ⟨.st [(0, 0, 42)], 0, 0, true, none, false, []⟩
noncomputable def ti46 : TI := ⟨.int .u8, 1, 1, false, some (.int .u8), false, [.int .u8 0]⟩
noncomputable def ti47 : TI := ⟨.int .u8, 1, 1, false, some (.int .u8), false, [.int .u8 0]⟩
noncomputable def ti49 : TI := ⟨.ptr, 1, 8, false, none, false, [.pointer none]⟩
noncomputable def ti50 : TI := ⟨.int .i32, 1, 4, false, some (.int .i32), false, [.int .i32 0]⟩
noncomputable def ti51 : TI := ⟨.int .i32, 1, 4, false, some (.int .i32), false, [.int .i32 0]⟩
noncomputable def ti54 : TI := ⟨.other, 1, 8, false, none, false, [.pointer none]⟩
noncomputable def tabL : List (Nat × TI) := [(2, ti2), (3, ti3), (4, ti4), (5, ti5), (6, ti6), (7, ti7), (8, ti8), (9, ti9), (10, ti10), (11, ti11), (12, ti12), (13, ti13), (14, ti14), (15, ti15), (16, ti16), (17, ti17), (18, ti18), (19, ti19), (21, ti21), (22, ti22), (23, ti23), (25, ti25), (29, ti29), (34, ti34), (38, ti38), (40, ti40), (41, ti41), (42, ti42), (43, ti43), (44, ti44), (46, ti46), (47, ti47), (49, ti49), (50, ti50), (51, ti51), (54, ti54)]
noncomputable def tab : TypeId → Option TI := fun t => assoc t tabL
theorem tab_ok : TabOK Try.prog tab := (show TabOK Try.prog (fun t => assoc t tabL) from TabOK.of_list _ (by kernel_rfl))
theorem prog_names : namesOK Try.prog = true := by kernel_rfl
theorem prog_mixed : Try.prog.follows .mixedOrders = true := by kernel_rfl
noncomputable def law02SumOne_an : Ann := { boxed := [(3, 0), (3, 2)] }
noncomputable def law02SumOne_c : Code := (match Try.f3.body with | some c => c | none => .skip)
noncomputable def law02SumOne_a : StSh := ⟨.normal, [0, 1, 2], (.cons (.sl true false (.int .u8)) (.cons (.int .u16) (.cons (.int .u8) .nil))), .nil⟩
noncomputable def law02Answers_an : Ann := { boxed := [(1, 0)] }
noncomputable def law02Answers_c : Code := (match Try.f8.body with | some c => c | none => .skip)
noncomputable def law02Answers_a : StSh := ⟨.normal, [], .nil, .nil⟩
noncomputable def sumOf_an : Ann := { live := [(0, [3, 7, 8, 9]), (2, [3, 7, 8, 9, 17])] }
noncomputable def sumOf_c : Code := (match Try.f9.body with | some c => c | none => .skip)
noncomputable def sumOf_l0 : Code := (match assoc 0 (loopsIn sumOf_c 0) with | some c => c | none => .skip)
noncomputable def sumOf_l2 : Code := (match assoc 2 (loopsIn sumOf_c 0) with | some c => c | none => .skip)
noncomputable def sumOf_a : StSh := ⟨.normal, [0], (.cons (.sl true false (.int .u8)) .nil), .nil⟩
noncomputable def sumOf_h2 : List StSh := [⟨.normal, [3, 7, 8, 9, 17], (.cons (.int .u32) (.cons (.sl true false (.int .u8)) (.cons (.int .i64) (.cons (.int .i64) (.cons (.int .i64) .nil))))), .nil⟩]
noncomputable def sumOf_o2 : List StSh := [⟨.exit 2, [3, 7, 8, 9], (.cons (.int .u32) (.cons (.sl true false (.int .u8)) (.cons (.int .i64) (.cons (.int .i64) .nil)))), .nil⟩]
noncomputable def sumOf_L2 (n : Nat) : LEntry := ⟨sumOf_h2, sumOf_o2, sumOf_W2 n⟩
noncomputable def sumOf_h0 : List StSh := [⟨.normal, [3, 7, 8, 9], (.cons (.int .u32) (.cons (.sl true false (.int .u8)) (.cons (.int .i64) (.cons (.int .i64) .nil)))), .nil⟩]
noncomputable def sumOf_o0 : List StSh := [⟨.exit 0, [3], (.cons (.int .u32) .nil), .nil⟩]
noncomputable def sumOf_L0 (n : Nat) : LEntry := ⟨sumOf_h0, sumOf_o0, sumOf_W0 n⟩
noncomputable def sumOf_res : List StSh := [⟨.ret, [0], (.cons (.int .u32) .nil), .nil⟩]
noncomputable def sumOf_tbl (n : Nat) : FuncId → List Entry := fun f => []
noncomputable def sumOf_loops (n : Nat) : Nat → Option LEntry := fun f => bif Nat.beq f 2 then some (sumOf_L2 n) else bif Nat.beq f 0 then some (sumOf_L0 n) else none
theorem sumOf_r2 (n : Nat) (n_3 : Int) (t7 : List Int) (t8 : Int) (t9 : Int) (t17 : Int) : roundK (real _) tab (sumOf_tbl n) (sumOf_loops n) sumOf_an [] sumOf_l2 2 [3, 7, 8, 9, 17] sumOf_h2 sumOf_o2 (n_3, (t7, (t8, (t9, t17)))) some = sumOf_B2 n n_3 t7 t8 t9 t17 := by kernel_rfl
theorem sumOf_f2 (n : Nat) : LoopFact tab (sumOf_tbl n) (sumOf_loops n) sumOf_an [] n 2 sumOf_l2 (sumOf_L2 n) := ⟨[3, 7, 8, 9, 17], fun s => sumOf_B2 n s.1 s.2.1 s.2.2.1 s.2.2.2.1 s.2.2.2.2, by kernel_rfl, by kernel_rfl, fun s => rfl, fun s => sumOf_r2 n s.1 s.2.1 s.2.2.1 s.2.2.2.1 s.2.2.2.2⟩
theorem sumOf_r0 (n : Nat) (n_3 : Int) (t7 : List Int) (t8 : Int) (t9 : Int) : roundK (real _) tab (sumOf_tbl n) (sumOf_loops n) sumOf_an [] sumOf_l0 0 [3, 7, 8, 9] sumOf_h0 sumOf_o0 (n_3, (t7, (t8, t9))) some = sumOf_B0 n n_3 t7 t8 t9 := by kernel_rfl
theorem sumOf_f0 (n : Nat) : LoopFact tab (sumOf_tbl n) (sumOf_loops n) sumOf_an [] n 0 sumOf_l0 (sumOf_L0 n) := ⟨[3, 7, 8, 9], fun s => sumOf_B0 n s.1 s.2.1 s.2.2.1 s.2.2.2, by kernel_rfl, by kernel_rfl, fun s => rfl, fun s => sumOf_r0 n s.1 s.2.1 s.2.2.1 s.2.2.2⟩
theorem sumOf_run (n : Nat) (b_0 : List Int) : funD (real _) tab (sumOf_tbl n) (sumOf_loops n) sumOf_an Try.f9 sumOf_a sumOf_res b_0 some = sumOf n b_0 := by kernel_rfl
noncomputable def sumOf_E (n : Nat) : Entry := ⟨sumOf_a, sumOf_res, fun d => sumOf n d⟩
theorem sumOf_ok (n : Nat) : EOK Try.prog 9 (sumOf_E n) :=
  EOK.of prog_names prog_mixed tab_ok (tbl := sumOf_tbl n) (loops := sumOf_loops n) (an := sumOf_an) (old := []) (n := n) (c := sumOf_c) (fn := Try.f9) TblOK.nil (by kernel_rfl) (by kernel_rfl) (by kernel_rfl) (by kernel_rfl) (fun d => by kernel_rfl) (LT.cons (by kernel_rfl) (sumOf_f2 n) (LT.cons (by kernel_rfl) (sumOf_f0 n) LT.nil)) (fun a => sumOf_run n a)
noncomputable def sumSeal_an : Ann := { boxed := [(1, 1)] }
noncomputable def sumSeal_c : Code := (match Try.f10.body with | some c => c | none => .skip)
noncomputable def sumSeal_a : StSh := ⟨.normal, [0], (.cons (.sl true false (.int .u8)) .nil), .nil⟩
noncomputable def numFixed_an : Ann := { live := [(0, [0, 5, 9, 10])], boxed := [(1, 0), (5, 7)] }
noncomputable def numFixed_c : Code := (match Try.f16.body with | some c => c | none => .skip)
noncomputable def numFixed_l0 : Code := (match assoc 0 (loopsIn numFixed_c 0) with | some c => c | none => .skip)
noncomputable def numFixed_a : StSh := ⟨.normal, [0, 1], (.cons (.int .u64) (.cons (.int .i64) .nil)), .nil⟩
noncomputable def numFixed_h0 : List StSh := [⟨.normal, [0, 5, 9, 10], (.cons (.int .u64) (.cons (.msw 0 0) (.cons (.int .i64) (.cons (.int .i64) .nil)))), (.cons (.bts 0 false false false (.int .u8)) .nil)⟩]
noncomputable def numFixed_o0 : List StSh := [⟨.exit 0, [5], (.cons (.msw 0 0) .nil), (.cons (.bts 0 false false false (.int .u8)) .nil)⟩]
noncomputable def numFixed_L0 (n : Nat) : LEntry := ⟨numFixed_h0, numFixed_o0, numFixed_W0 n⟩
noncomputable def numFixed_res : List StSh := [⟨.ret, [0], (.cons (.msw 0 0) .nil), (.cons (.bts 0 false false false (.int .u8)) .nil)⟩]
noncomputable def numFixed_tbl (n : Nat) : FuncId → List Entry := fun f => []
noncomputable def numFixed_loops (n : Nat) : Nat → Option LEntry := fun f => bif Nat.beq f 0 then some (numFixed_L0 n) else none
theorem numFixed_r0 (n : Nat) (v_0 : Int) (t9 : Int) (t10 : Int) (m0 : List Int) : roundK (real _) tab (numFixed_tbl n) (numFixed_loops n) numFixed_an [] numFixed_l0 0 [0, 5, 9, 10] numFixed_h0 numFixed_o0 ((v_0, (t9, t10)), m0) some = numFixed_B0 n v_0 t9 t10 m0 := by kernel_rfl
theorem numFixed_f0 (n : Nat) : LoopFact tab (numFixed_tbl n) (numFixed_loops n) numFixed_an [] n 0 numFixed_l0 (numFixed_L0 n) := ⟨[0, 5, 9, 10], fun s => numFixed_B0 n s.1.1 s.1.2.1 s.1.2.2 s.2, by kernel_rfl, by kernel_rfl, fun s => rfl, fun s => numFixed_r0 n s.1.1 s.1.2.1 s.1.2.2 s.2⟩
theorem numFixed_run (n : Nat) (v_0 : Int) (n_1 : Int) : funD (real _) tab (numFixed_tbl n) (numFixed_loops n) numFixed_an Try.f16 numFixed_a numFixed_res (v_0, n_1) some = numFixed n v_0 n_1 := by kernel_rfl
noncomputable def numFixed_E (n : Nat) : Entry := ⟨numFixed_a, numFixed_res, fun d => numFixed n d.1 d.2⟩
theorem numFixed_ok (n : Nat) : EOK Try.prog 16 (numFixed_E n) :=
  EOK.of prog_names prog_mixed tab_ok (tbl := numFixed_tbl n) (loops := numFixed_loops n) (an := numFixed_an) (old := []) (n := n) (c := numFixed_c) (fn := Try.f16) TblOK.nil (by kernel_rfl) (by kernel_rfl) (by kernel_rfl) (by kernel_rfl) (fun d => by kernel_rfl) (LT.cons (by kernel_rfl) (numFixed_f0 n) LT.nil) (fun a => numFixed_run n a.1 a.2)
noncomputable def sumSeal_res : List StSh := [⟨.ret, [0], (.cons (.msw 0 0) .nil), (.cons (.bts 0 false false false (.int .u8)) .nil)⟩]
noncomputable def sumSeal_tbl (n : Nat) : FuncId → List Entry := fun f => bif Nat.beq f 9 then [sumOf_E n] else bif Nat.beq f 16 then [numFixed_E n] else []
noncomputable def sumSeal_loops (n : Nat) : Nat → Option LEntry := fun f => none
theorem sumSeal_run (n : Nat) (b_0 : List Int) : funD (real _) tab (sumSeal_tbl n) (sumSeal_loops n) sumSeal_an Try.f10 sumSeal_a sumSeal_res b_0 some = sumSeal n b_0 := by kernel_rfl
noncomputable def sumSeal_E (n : Nat) : Entry := ⟨sumSeal_a, sumSeal_res, fun d => sumSeal n d⟩
theorem sumSeal_ok (n : Nat) : EOK Try.prog 10 (sumSeal_E n) :=
  EOK.of prog_names prog_mixed tab_ok (tbl := sumSeal_tbl n) (loops := sumSeal_loops n) (an := sumSeal_an) (old := []) (n := n) (c := sumSeal_c) (fn := Try.f10) (TblOK.cons (AllE.cons (sumOf_ok n) AllE.nil) (TblOK.cons (AllE.cons (numFixed_ok n) AllE.nil) TblOK.nil)) (by kernel_rfl) (by kernel_rfl) (by kernel_rfl) (by kernel_rfl) (fun d => by kernel_rfl) LT.nil (fun a => sumSeal_run n a)
noncomputable def law02Answers_res : List StSh := [⟨.ret, [0], (.cons .bool .nil), .nil⟩]
noncomputable def law02Answers_tbl (n : Nat) : FuncId → List Entry := fun f => bif Nat.beq f 9 then [sumOf_E n] else bif Nat.beq f 10 then [sumSeal_E n] else []
noncomputable def law02Answers_loops (n : Nat) : Nat → Option LEntry := fun f => none
theorem law02Answers_run (n : Nat) : funD (real _) tab (law02Answers_tbl n) (law02Answers_loops n) law02Answers_an Try.f8 law02Answers_a law02Answers_res () some = law02Answers n := by kernel_rfl
noncomputable def law02Answers_E (n : Nat) : Entry := ⟨law02Answers_a, law02Answers_res, fun d => law02Answers n⟩
theorem law02Answers_ok (n : Nat) : EOK Try.prog 8 (law02Answers_E n) :=
  EOK.of prog_names prog_mixed tab_ok (tbl := law02Answers_tbl n) (loops := law02Answers_loops n) (an := law02Answers_an) (old := []) (n := n) (c := law02Answers_c) (fn := Try.f8) (TblOK.cons (AllE.cons (sumOf_ok n) AllE.nil) (TblOK.cons (AllE.cons (sumSeal_ok n) AllE.nil) TblOK.nil)) (by kernel_rfl) (by kernel_rfl) (by kernel_rfl) (by kernel_rfl) (fun d => by kernel_rfl) LT.nil (fun a => law02Answers_run n)
noncomputable def law02SumOne_res : List StSh := [⟨.ret, [0], (.cons .bool .nil), .nil⟩]
noncomputable def law02SumOne_tbl (n : Nat) : FuncId → List Entry := fun f => bif Nat.beq f 8 then [law02Answers_E n] else bif Nat.beq f 9 then [sumOf_E n] else []
noncomputable def law02SumOne_loops (n : Nat) : Nat → Option LEntry := fun f => none
theorem law02SumOne_run (n : Nat) (b_0 : List Int) (at_1 : Int) (turn_2 : Int) : funD (real _) tab (law02SumOne_tbl n) (law02SumOne_loops n) law02SumOne_an Try.f3 law02SumOne_a law02SumOne_res (b_0, (at_1, turn_2)) some = law02SumOne n b_0 at_1 turn_2 := by kernel_rfl
noncomputable def law02SumOne_E (n : Nat) : Entry := ⟨law02SumOne_a, law02SumOne_res, fun d => law02SumOne n d.1 d.2.1 d.2.2⟩
theorem law02SumOne_ok (n : Nat) : EOK Try.prog 3 (law02SumOne_E n) :=
  EOK.of prog_names prog_mixed tab_ok (tbl := law02SumOne_tbl n) (loops := law02SumOne_loops n) (an := law02SumOne_an) (old := []) (n := n) (c := law02SumOne_c) (fn := Try.f3) (TblOK.cons (AllE.cons (law02Answers_ok n) AllE.nil) (TblOK.cons (AllE.cons (sumOf_ok n) AllE.nil) TblOK.nil)) (by kernel_rfl) (by kernel_rfl) (by kernel_rfl) (by kernel_rfl) (fun d => by kernel_rfl) LT.nil (fun a => law02SumOne_run n a.1 a.2.1 a.2.2)
noncomputable def law02SumSeals_an : Ann := { boxed := [(3, 0)] }
noncomputable def law02SumSeals_c : Code := (match Try.f4.body with | some c => c | none => .skip)
noncomputable def law02SumSeals_a : StSh := ⟨.normal, [0], (.cons (.sl true false (.int .u8)) .nil), .nil⟩
noncomputable def sumOpen_an : Ann := {}
noncomputable def sumOpen_c : Code := (match Try.f11.body with | some c => c | none => .skip)
noncomputable def sumOpen_a : StSh := ⟨.normal, [0], (.cons (.sl true false (.int .u8)) .nil), .nil⟩
noncomputable def sumOpen_res : List StSh := [⟨.ret, [0], (.cons (.tup (.cons (.sl false false (.int .u8)) (.cons (.int .i64) .nil))) .nil), .nil⟩]
noncomputable def sumOpen_tbl (n : Nat) : FuncId → List Entry := fun f => bif Nat.beq f 10 then [sumSeal_E n] else []
noncomputable def sumOpen_loops (n : Nat) : Nat → Option LEntry := fun f => none
theorem sumOpen_run (n : Nat) (b_0 : List Int) : funD (real _) tab (sumOpen_tbl n) (sumOpen_loops n) sumOpen_an Try.f11 sumOpen_a sumOpen_res b_0 some = sumOpen n b_0 := by kernel_rfl
noncomputable def sumOpen_E (n : Nat) : Entry := ⟨sumOpen_a, sumOpen_res, fun d => sumOpen n d⟩
theorem sumOpen_ok (n : Nat) : EOK Try.prog 11 (sumOpen_E n) :=
  EOK.of prog_names prog_mixed tab_ok (tbl := sumOpen_tbl n) (loops := sumOpen_loops n) (an := sumOpen_an) (old := []) (n := n) (c := sumOpen_c) (fn := Try.f11) (TblOK.cons (AllE.cons (sumSeal_ok n) AllE.nil) TblOK.nil) (by kernel_rfl) (by kernel_rfl) (by kernel_rfl) (by kernel_rfl) (fun d => by kernel_rfl) LT.nil (fun a => sumOpen_run n a)
noncomputable def ref01Sum_an : Ann := { live := [(0, [0, 3, 4]), (2, [0, 3, 4, 5])] }
noncomputable def ref01Sum_c : Code := (match Try.f12.body with | some c => c | none => .skip)
noncomputable def ref01Sum_l0 : Code := (match assoc 0 (loopsIn ref01Sum_c 0) with | some c => c | none => .skip)
noncomputable def ref01Sum_l2 : Code := (match assoc 2 (loopsIn ref01Sum_c 0) with | some c => c | none => .skip)
noncomputable def ref01Sum_a : StSh := ⟨.normal, [0], (.cons (.sl true false (.int .u8)) .nil), .nil⟩
noncomputable def ref01Sum_h2 : List StSh := [⟨.normal, [0, 3, 4, 5], (.cons (.sl true false (.int .u8)) (.cons (.int .u32) (.cons (.int .i64) (.cons (.int .i64) .nil)))), .nil⟩]
noncomputable def ref01Sum_o2 : List StSh := [⟨.exit 2, [0, 3, 4], (.cons (.sl true false (.int .u8)) (.cons (.int .u32) (.cons (.int .i64) .nil))), .nil⟩]
noncomputable def ref01Sum_L2 (n : Nat) : LEntry := ⟨ref01Sum_h2, ref01Sum_o2, ref01Sum_W2 n⟩
noncomputable def ref01Sum_h0 : List StSh := [⟨.normal, [0, 3, 4], (.cons (.sl true false (.int .u8)) (.cons (.int .u32) (.cons (.int .i64) .nil))), .nil⟩]
noncomputable def ref01Sum_o0 : List StSh := [⟨.exit 0, [3], (.cons (.int .u32) .nil), .nil⟩]
noncomputable def ref01Sum_L0 (n : Nat) : LEntry := ⟨ref01Sum_h0, ref01Sum_o0, ref01Sum_W0 n⟩
noncomputable def ref01Sum_res : List StSh := [⟨.ret, [0], (.cons (.int .u32) .nil), .nil⟩]
noncomputable def ref01Sum_tbl (n : Nat) : FuncId → List Entry := fun f => []
noncomputable def ref01Sum_loops (n : Nat) : Nat → Option LEntry := fun f => bif Nat.beq f 2 then some (ref01Sum_L2 n) else bif Nat.beq f 0 then some (ref01Sum_L0 n) else none
theorem ref01Sum_r2 (n : Nat) (b_0 : List Int) (n_3 : Int) (i_4 : Int) (k_5 : Int) : roundK (real _) tab (ref01Sum_tbl n) (ref01Sum_loops n) ref01Sum_an [] ref01Sum_l2 2 [0, 3, 4, 5] ref01Sum_h2 ref01Sum_o2 (b_0, (n_3, (i_4, k_5))) some = ref01Sum_B2 n b_0 n_3 i_4 k_5 := by kernel_rfl
theorem ref01Sum_f2 (n : Nat) : LoopFact tab (ref01Sum_tbl n) (ref01Sum_loops n) ref01Sum_an [] n 2 ref01Sum_l2 (ref01Sum_L2 n) := ⟨[0, 3, 4, 5], fun s => ref01Sum_B2 n s.1 s.2.1 s.2.2.1 s.2.2.2, by kernel_rfl, by kernel_rfl, fun s => rfl, fun s => ref01Sum_r2 n s.1 s.2.1 s.2.2.1 s.2.2.2⟩
theorem ref01Sum_r0 (n : Nat) (b_0 : List Int) (n_3 : Int) (i_4 : Int) : roundK (real _) tab (ref01Sum_tbl n) (ref01Sum_loops n) ref01Sum_an [] ref01Sum_l0 0 [0, 3, 4] ref01Sum_h0 ref01Sum_o0 (b_0, (n_3, i_4)) some = ref01Sum_B0 n b_0 n_3 i_4 := by kernel_rfl
theorem ref01Sum_f0 (n : Nat) : LoopFact tab (ref01Sum_tbl n) (ref01Sum_loops n) ref01Sum_an [] n 0 ref01Sum_l0 (ref01Sum_L0 n) := ⟨[0, 3, 4], fun s => ref01Sum_B0 n s.1 s.2.1 s.2.2, by kernel_rfl, by kernel_rfl, fun s => rfl, fun s => ref01Sum_r0 n s.1 s.2.1 s.2.2⟩
theorem ref01Sum_run (n : Nat) (b_0 : List Int) : funD (real _) tab (ref01Sum_tbl n) (ref01Sum_loops n) ref01Sum_an Try.f12 ref01Sum_a ref01Sum_res b_0 some = ref01Sum n b_0 := by kernel_rfl
noncomputable def ref01Sum_E (n : Nat) : Entry := ⟨ref01Sum_a, ref01Sum_res, fun d => ref01Sum n d⟩
theorem ref01Sum_ok (n : Nat) : EOK Try.prog 12 (ref01Sum_E n) :=
  EOK.of prog_names prog_mixed tab_ok (tbl := ref01Sum_tbl n) (loops := ref01Sum_loops n) (an := ref01Sum_an) (old := []) (n := n) (c := ref01Sum_c) (fn := Try.f12) TblOK.nil (by kernel_rfl) (by kernel_rfl) (by kernel_rfl) (by kernel_rfl) (fun d => by kernel_rfl) (LT.cons (by kernel_rfl) (ref01Sum_f2 n) (LT.cons (by kernel_rfl) (ref01Sum_f0 n) LT.nil)) (fun a => ref01Sum_run n a)
noncomputable def ref01Seal_an : Ann := { boxed := [(1, 0), (1, 2)] }
noncomputable def ref01Seal_c : Code := (match Try.f14.body with | some c => c | none => .skip)
noncomputable def ref01Seal_a : StSh := ⟨.normal, [0], (.cons (.sl true false (.int .u8)) .nil), .nil⟩
noncomputable def ref01Fixed_an : Ann := { live := [(0, [0, 1, 5, 6])], boxed := [(1, 0), (5, 5)] }
noncomputable def ref01Fixed_c : Code := (match Try.f17.body with | some c => c | none => .skip)
noncomputable def ref01Fixed_l0 : Code := (match assoc 0 (loopsIn ref01Fixed_c 0) with | some c => c | none => .skip)
noncomputable def ref01Fixed_a : StSh := ⟨.normal, [0, 1], (.cons (.int .u64) (.cons (.int .i64) .nil)), .nil⟩
noncomputable def ref01Fixed_h0 : List StSh := [⟨.normal, [0, 1, 5, 6], (.cons (.int .u64) (.cons (.int .i64) (.cons (.msw 0 0) (.cons (.int .i64) .nil)))), (.cons (.bts 0 false false false (.int .u8)) .nil)⟩]
noncomputable def ref01Fixed_o0 : List StSh := [⟨.exit 0, [5], (.cons (.msw 0 0) .nil), (.cons (.bts 0 false false false (.int .u8)) .nil)⟩]
noncomputable def ref01Fixed_L0 (n : Nat) : LEntry := ⟨ref01Fixed_h0, ref01Fixed_o0, ref01Fixed_W0 n⟩
noncomputable def ref01Fixed_res : List StSh := [⟨.ret, [0], (.cons (.msw 0 0) .nil), (.cons (.bts 0 false false false (.int .u8)) .nil)⟩]
noncomputable def ref01Fixed_tbl (n : Nat) : FuncId → List Entry := fun f => []
noncomputable def ref01Fixed_loops (n : Nat) : Nat → Option LEntry := fun f => bif Nat.beq f 0 then some (ref01Fixed_L0 n) else none
theorem ref01Fixed_r0 (n : Nat) (v_0 : Int) (n_1 : Int) (k_6 : Int) (m0 : List Int) : roundK (real _) tab (ref01Fixed_tbl n) (ref01Fixed_loops n) ref01Fixed_an [] ref01Fixed_l0 0 [0, 1, 5, 6] ref01Fixed_h0 ref01Fixed_o0 ((v_0, (n_1, k_6)), m0) some = ref01Fixed_B0 n v_0 n_1 k_6 m0 := by kernel_rfl
theorem ref01Fixed_f0 (n : Nat) : LoopFact tab (ref01Fixed_tbl n) (ref01Fixed_loops n) ref01Fixed_an [] n 0 ref01Fixed_l0 (ref01Fixed_L0 n) := ⟨[0, 1, 5, 6], fun s => ref01Fixed_B0 n s.1.1 s.1.2.1 s.1.2.2 s.2, by kernel_rfl, by kernel_rfl, fun s => rfl, fun s => ref01Fixed_r0 n s.1.1 s.1.2.1 s.1.2.2 s.2⟩
theorem ref01Fixed_run (n : Nat) (v_0 : Int) (n_1 : Int) : funD (real _) tab (ref01Fixed_tbl n) (ref01Fixed_loops n) ref01Fixed_an Try.f17 ref01Fixed_a ref01Fixed_res (v_0, n_1) some = ref01Fixed n v_0 n_1 := by kernel_rfl
noncomputable def ref01Fixed_E (n : Nat) : Entry := ⟨ref01Fixed_a, ref01Fixed_res, fun d => ref01Fixed n d.1 d.2⟩
theorem ref01Fixed_ok (n : Nat) : EOK Try.prog 17 (ref01Fixed_E n) :=
  EOK.of prog_names prog_mixed tab_ok (tbl := ref01Fixed_tbl n) (loops := ref01Fixed_loops n) (an := ref01Fixed_an) (old := []) (n := n) (c := ref01Fixed_c) (fn := Try.f17) TblOK.nil (by kernel_rfl) (by kernel_rfl) (by kernel_rfl) (by kernel_rfl) (fun d => by kernel_rfl) (LT.cons (by kernel_rfl) (ref01Fixed_f0 n) LT.nil) (fun a => ref01Fixed_run n a.1 a.2)
noncomputable def ref01Seal_res : List StSh := [⟨.ret, [0], (.cons (.msw 0 0) .nil), (.cons (.bts 0 false false false (.int .u8)) .nil)⟩]
noncomputable def ref01Seal_tbl (n : Nat) : FuncId → List Entry := fun f => bif Nat.beq f 12 then [ref01Sum_E n] else bif Nat.beq f 17 then [ref01Fixed_E n] else []
noncomputable def ref01Seal_loops (n : Nat) : Nat → Option LEntry := fun f => none
theorem ref01Seal_run (n : Nat) (b_0 : List Int) : funD (real _) tab (ref01Seal_tbl n) (ref01Seal_loops n) ref01Seal_an Try.f14 ref01Seal_a ref01Seal_res b_0 some = ref01Seal n b_0 := by kernel_rfl
noncomputable def ref01Seal_E (n : Nat) : Entry := ⟨ref01Seal_a, ref01Seal_res, fun d => ref01Seal n d⟩
theorem ref01Seal_ok (n : Nat) : EOK Try.prog 14 (ref01Seal_E n) :=
  EOK.of prog_names prog_mixed tab_ok (tbl := ref01Seal_tbl n) (loops := ref01Seal_loops n) (an := ref01Seal_an) (old := []) (n := n) (c := ref01Seal_c) (fn := Try.f14) (TblOK.cons (AllE.cons (ref01Sum_ok n) AllE.nil) (TblOK.cons (AllE.cons (ref01Fixed_ok n) AllE.nil) TblOK.nil)) (by kernel_rfl) (by kernel_rfl) (by kernel_rfl) (by kernel_rfl) (fun d => by kernel_rfl) LT.nil (fun a => ref01Seal_run n a)
noncomputable def ref01Same_an : Ann := { live := [(0, [0, 1, 5])] }
noncomputable def ref01Same_c : Code := (match Try.f13.body with | some c => c | none => .skip)
noncomputable def ref01Same_l0 : Code := (match assoc 0 (loopsIn ref01Same_c 0) with | some c => c | none => .skip)
noncomputable def ref01Same_a : StSh := ⟨.normal, [0, 1], (.cons (.sl true false (.int .u8)) (.cons (.sl true false (.int .u8)) .nil)), .nil⟩
noncomputable def ref01Same_h0 : List StSh := [⟨.normal, [0, 1, 5], (.cons (.sl true false (.int .u8)) (.cons (.sl true false (.int .u8)) (.cons (.int .i64) .nil))), .nil⟩]
noncomputable def ref01Same_o0 : List StSh := [⟨.ret, [4], (.cons .bool .nil), .nil⟩, ⟨.exit 0, [], .nil, .nil⟩]
noncomputable def ref01Same_L0 (n : Nat) : LEntry := ⟨ref01Same_h0, ref01Same_o0, ref01Same_W0 n⟩
noncomputable def ref01Same_res : List StSh := [⟨.ret, [0], (.cons .bool .nil), .nil⟩]
noncomputable def ref01Same_tbl (n : Nat) : FuncId → List Entry := fun f => []
noncomputable def ref01Same_loops (n : Nat) : Nat → Option LEntry := fun f => bif Nat.beq f 0 then some (ref01Same_L0 n) else none
theorem ref01Same_r0 (n : Nat) (a_0 : List Int) (b_1 : List Int) (i_5 : Int) : roundK (real _) tab (ref01Same_tbl n) (ref01Same_loops n) ref01Same_an [] ref01Same_l0 0 [0, 1, 5] ref01Same_h0 ref01Same_o0 (a_0, (b_1, i_5)) some = ref01Same_B0 n a_0 b_1 i_5 := by kernel_rfl
theorem ref01Same_f0 (n : Nat) : LoopFact tab (ref01Same_tbl n) (ref01Same_loops n) ref01Same_an [] n 0 ref01Same_l0 (ref01Same_L0 n) := ⟨[0, 1, 5], fun s => ref01Same_B0 n s.1 s.2.1 s.2.2, by kernel_rfl, by kernel_rfl, fun s => rfl, fun s => ref01Same_r0 n s.1 s.2.1 s.2.2⟩
theorem ref01Same_run (n : Nat) (a_0 : List Int) (b_1 : List Int) : funD (real _) tab (ref01Same_tbl n) (ref01Same_loops n) ref01Same_an Try.f13 ref01Same_a ref01Same_res (a_0, b_1) some = ref01Same n a_0 b_1 := by kernel_rfl
noncomputable def ref01Same_E (n : Nat) : Entry := ⟨ref01Same_a, ref01Same_res, fun d => ref01Same n d.1 d.2⟩
theorem ref01Same_ok (n : Nat) : EOK Try.prog 13 (ref01Same_E n) :=
  EOK.of prog_names prog_mixed tab_ok (tbl := ref01Same_tbl n) (loops := ref01Same_loops n) (an := ref01Same_an) (old := []) (n := n) (c := ref01Same_c) (fn := Try.f13) TblOK.nil (by kernel_rfl) (by kernel_rfl) (by kernel_rfl) (by kernel_rfl) (fun d => by kernel_rfl) (LT.cons (by kernel_rfl) (ref01Same_f0 n) LT.nil) (fun a => ref01Same_run n a.1 a.2)
noncomputable def law02SumSeals_res : List StSh := [⟨.ret, [0], (.cons .bool .nil), .nil⟩]
noncomputable def law02SumSeals_tbl (n : Nat) : FuncId → List Entry := fun f => bif Nat.beq f 8 then [law02Answers_E n] else bif Nat.beq f 10 then [sumSeal_E n] else bif Nat.beq f 11 then [sumOpen_E n] else bif Nat.beq f 9 then [sumOf_E n] else bif Nat.beq f 12 then [ref01Sum_E n] else bif Nat.beq f 14 then [ref01Seal_E n] else bif Nat.beq f 13 then [ref01Same_E n] else []
noncomputable def law02SumSeals_loops (n : Nat) : Nat → Option LEntry := fun f => none
theorem law02SumSeals_run (n : Nat) (b_0 : List Int) : funD (real _) tab (law02SumSeals_tbl n) (law02SumSeals_loops n) law02SumSeals_an Try.f4 law02SumSeals_a law02SumSeals_res b_0 some = law02SumSeals n b_0 := by kernel_rfl
noncomputable def law02SumSeals_E (n : Nat) : Entry := ⟨law02SumSeals_a, law02SumSeals_res, fun d => law02SumSeals n d⟩
theorem law02SumSeals_ok (n : Nat) : EOK Try.prog 4 (law02SumSeals_E n) :=
  EOK.of prog_names prog_mixed tab_ok (tbl := law02SumSeals_tbl n) (loops := law02SumSeals_loops n) (an := law02SumSeals_an) (old := []) (n := n) (c := law02SumSeals_c) (fn := Try.f4) (TblOK.cons (AllE.cons (law02Answers_ok n) AllE.nil) (TblOK.cons (AllE.cons (sumSeal_ok n) AllE.nil) (TblOK.cons (AllE.cons (sumOpen_ok n) AllE.nil) (TblOK.cons (AllE.cons (sumOf_ok n) AllE.nil) (TblOK.cons (AllE.cons (ref01Sum_ok n) AllE.nil) (TblOK.cons (AllE.cons (ref01Seal_ok n) AllE.nil) (TblOK.cons (AllE.cons (ref01Same_ok n) AllE.nil) TblOK.nil))))))) (by kernel_rfl) (by kernel_rfl) (by kernel_rfl) (by kernel_rfl) (fun d => by kernel_rfl) LT.nil (fun a => law02SumSeals_run n a)
noncomputable def law02SumOpens_an : Ann := {}
noncomputable def law02SumOpens_c : Code := (match Try.f5.body with | some c => c | none => .skip)
noncomputable def law02SumOpens_a : StSh := ⟨.normal, [0], (.cons (.sl true false (.int .u8)) .nil), .nil⟩
noncomputable def law02SumOpens_res : List StSh := [⟨.ret, [0], (.cons .bool .nil), .nil⟩]
noncomputable def law02SumOpens_tbl (n : Nat) : FuncId → List Entry := fun f => bif Nat.beq f 8 then [law02Answers_E n] else bif Nat.beq f 11 then [sumOpen_E n] else bif Nat.beq f 14 then [ref01Seal_E n] else bif Nat.beq f 13 then [ref01Same_E n] else []
noncomputable def law02SumOpens_loops (n : Nat) : Nat → Option LEntry := fun f => none
theorem law02SumOpens_run (n : Nat) (b_0 : List Int) : funD (real _) tab (law02SumOpens_tbl n) (law02SumOpens_loops n) law02SumOpens_an Try.f5 law02SumOpens_a law02SumOpens_res b_0 some = law02SumOpens n b_0 := by kernel_rfl
noncomputable def law02SumOpens_E (n : Nat) : Entry := ⟨law02SumOpens_a, law02SumOpens_res, fun d => law02SumOpens n d⟩
theorem law02SumOpens_ok (n : Nat) : EOK Try.prog 5 (law02SumOpens_E n) :=
  EOK.of prog_names prog_mixed tab_ok (tbl := law02SumOpens_tbl n) (loops := law02SumOpens_loops n) (an := law02SumOpens_an) (old := []) (n := n) (c := law02SumOpens_c) (fn := Try.f5) (TblOK.cons (AllE.cons (law02Answers_ok n) AllE.nil) (TblOK.cons (AllE.cons (sumOpen_ok n) AllE.nil) (TblOK.cons (AllE.cons (ref01Seal_ok n) AllE.nil) (TblOK.cons (AllE.cons (ref01Same_ok n) AllE.nil) TblOK.nil)))) (by kernel_rfl) (by kernel_rfl) (by kernel_rfl) (by kernel_rfl) (fun d => by kernel_rfl) LT.nil (fun a => law02SumOpens_run n a)
noncomputable def law02SumBursts_an : Ann := { live := [(0, [0, 2, 7, 8, 9])], raw := [(3, 1)] }
noncomputable def law02SumBursts_c : Code := (match Try.f6.body with | some c => c | none => .skip)
noncomputable def law02SumBursts_l0 : Code := (match assoc 0 (loopsIn law02SumBursts_c 0) with | some c => c | none => .skip)
noncomputable def law02SumBursts_a : StSh := ⟨.normal, [0, 1, 2], (.cons (.sl true false (.int .u8)) (.cons (.int .u16) (.cons (.int .u32) .nil))), .nil⟩
noncomputable def law02SumBursts_h0 : List StSh := [⟨.normal, [0, 2, 7, 8, 9], (.cons (.sl true false (.int .u8)) (.cons (.int .u32) (.cons (.msw 0 0) (.cons (.int .i64) (.cons (.int .i64) .nil))))), (.cons (.bts 0 false false false (.int .u8)) .nil)⟩]
noncomputable def law02SumBursts_o0 : List StSh := [⟨.exit 0, [0, 7], (.cons (.sl true false (.int .u8)) (.cons (.msw 0 0) .nil)), (.cons (.bts 0 false false false (.int .u8)) .nil)⟩]
noncomputable def law02SumBursts_L0 (n : Nat) : LEntry := ⟨law02SumBursts_h0, law02SumBursts_o0, law02SumBursts_W0 n⟩
noncomputable def law02SumBursts_res : List StSh := [⟨.ret, [0], (.cons .bool .nil), .nil⟩]
noncomputable def law02SumBursts_tbl (n : Nat) : FuncId → List Entry := fun f => bif Nat.beq f 8 then [law02Answers_E n] else bif Nat.beq f 14 then [ref01Seal_E n] else bif Nat.beq f 11 then [sumOpen_E n] else bif Nat.beq f 13 then [ref01Same_E n] else []
noncomputable def law02SumBursts_loops (n : Nat) : Nat → Option LEntry := fun f => bif Nat.beq f 0 then some (law02SumBursts_L0 n) else none
theorem law02SumBursts_r0 (n : Nat) (t0 : List Int) (t2 : Int) (t8 : Int) (t9 : Int) (m0 : List Int) : roundK (real _) tab (law02SumBursts_tbl n) (law02SumBursts_loops n) law02SumBursts_an [] law02SumBursts_l0 0 [0, 2, 7, 8, 9] law02SumBursts_h0 law02SumBursts_o0 ((t0, (t2, (t8, t9))), m0) some = law02SumBursts_B0 n t0 t2 t8 t9 m0 := by kernel_rfl
theorem law02SumBursts_f0 (n : Nat) : LoopFact tab (law02SumBursts_tbl n) (law02SumBursts_loops n) law02SumBursts_an [] n 0 law02SumBursts_l0 (law02SumBursts_L0 n) := ⟨[0, 2, 7, 8, 9], fun s => law02SumBursts_B0 n s.1.1 s.1.2.1 s.1.2.2.1 s.1.2.2.2 s.2, by kernel_rfl, by kernel_rfl, fun s => rfl, fun s => law02SumBursts_r0 n s.1.1 s.1.2.1 s.1.2.2.1 s.1.2.2.2 s.2⟩
theorem law02SumBursts_run (n : Nat) (t0 : List Int) (t1 : Int) (t2 : Int) : funD (real _) tab (law02SumBursts_tbl n) (law02SumBursts_loops n) law02SumBursts_an Try.f6 law02SumBursts_a law02SumBursts_res (t0, (t1, t2)) some = law02SumBursts n t0 t1 t2 := by kernel_rfl
noncomputable def law02SumBursts_E (n : Nat) : Entry := ⟨law02SumBursts_a, law02SumBursts_res, fun d => law02SumBursts n d.1 d.2.1 d.2.2⟩
theorem law02SumBursts_ok (n : Nat) : EOK Try.prog 6 (law02SumBursts_E n) :=
  EOK.of prog_names prog_mixed tab_ok (tbl := law02SumBursts_tbl n) (loops := law02SumBursts_loops n) (an := law02SumBursts_an) (old := []) (n := n) (c := law02SumBursts_c) (fn := Try.f6) (TblOK.cons (AllE.cons (law02Answers_ok n) AllE.nil) (TblOK.cons (AllE.cons (ref01Seal_ok n) AllE.nil) (TblOK.cons (AllE.cons (sumOpen_ok n) AllE.nil) (TblOK.cons (AllE.cons (ref01Same_ok n) AllE.nil) TblOK.nil)))) (by kernel_rfl) (by kernel_rfl) (by kernel_rfl) (by kernel_rfl) (fun d => by kernel_rfl) (LT.cons (by kernel_rfl) (law02SumBursts_f0 n) LT.nil) (fun a => law02SumBursts_run n a.1 a.2.1 a.2.2)
noncomputable def law02SumShort_an : Ann := {}
noncomputable def law02SumShort_c : Code := (match Try.f7.body with | some c => c | none => .skip)
noncomputable def law02SumShort_a : StSh := ⟨.normal, [0], (.cons (.sl true false (.int .u8)) .nil), .nil⟩
noncomputable def law02Short_an : Ann := {}
noncomputable def law02Short_c : Code := (match Try.f15.body with | some c => c | none => .skip)
noncomputable def law02Short_a : StSh := ⟨.normal, [0], (.cons (.sl true false (.int .u8)) .nil), .nil⟩
noncomputable def law02Short_res : List StSh := [⟨.ret, [0], (.cons (.int .i64) .nil), .nil⟩]
noncomputable def law02Short_tbl (n : Nat) : FuncId → List Entry := fun f => []
noncomputable def law02Short_loops (n : Nat) : Nat → Option LEntry := fun f => none
theorem law02Short_run (n : Nat) (b_0 : List Int) : funD (real _) tab (law02Short_tbl n) (law02Short_loops n) law02Short_an Try.f15 law02Short_a law02Short_res b_0 some = law02Short n b_0 := by kernel_rfl
noncomputable def law02Short_E (n : Nat) : Entry := ⟨law02Short_a, law02Short_res, fun d => law02Short n d⟩
theorem law02Short_ok (n : Nat) : EOK Try.prog 15 (law02Short_E n) :=
  EOK.of prog_names prog_mixed tab_ok (tbl := law02Short_tbl n) (loops := law02Short_loops n) (an := law02Short_an) (old := []) (n := n) (c := law02Short_c) (fn := Try.f15) TblOK.nil (by kernel_rfl) (by kernel_rfl) (by kernel_rfl) (by kernel_rfl) (fun d => by kernel_rfl) LT.nil (fun a => law02Short_run n a)
noncomputable def law02SumShort_res : List StSh := [⟨.ret, [0], (.cons .bool .nil), .nil⟩]
noncomputable def law02SumShort_tbl (n : Nat) : FuncId → List Entry := fun f => bif Nat.beq f 8 then [law02Answers_E n] else bif Nat.beq f 15 then [law02Short_E n] else bif Nat.beq f 11 then [sumOpen_E n] else bif Nat.beq f 10 then [sumSeal_E n] else bif Nat.beq f 13 then [ref01Same_E n] else []
noncomputable def law02SumShort_loops (n : Nat) : Nat → Option LEntry := fun f => none
theorem law02SumShort_run (n : Nat) (b_0 : List Int) : funD (real _) tab (law02SumShort_tbl n) (law02SumShort_loops n) law02SumShort_an Try.f7 law02SumShort_a law02SumShort_res b_0 some = law02SumShort n b_0 := by kernel_rfl
noncomputable def law02SumShort_E (n : Nat) : Entry := ⟨law02SumShort_a, law02SumShort_res, fun d => law02SumShort n d⟩
theorem law02SumShort_ok (n : Nat) : EOK Try.prog 7 (law02SumShort_E n) :=
  EOK.of prog_names prog_mixed tab_ok (tbl := law02SumShort_tbl n) (loops := law02SumShort_loops n) (an := law02SumShort_an) (old := []) (n := n) (c := law02SumShort_c) (fn := Try.f7) (TblOK.cons (AllE.cons (law02Answers_ok n) AllE.nil) (TblOK.cons (AllE.cons (law02Short_ok n) AllE.nil) (TblOK.cons (AllE.cons (sumOpen_ok n) AllE.nil) (TblOK.cons (AllE.cons (sumSeal_ok n) AllE.nil) (TblOK.cons (AllE.cons (ref01Same_ok n) AllE.nil) TblOK.nil))))) (by kernel_rfl) (by kernel_rfl) (by kernel_rfl) (by kernel_rfl) (fun d => by kernel_rfl) LT.nil (fun a => law02SumShort_run n a)
end Sx
