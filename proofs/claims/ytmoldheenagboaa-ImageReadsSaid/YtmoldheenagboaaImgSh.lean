import Derived.Test.YtmoldheenagboaaLib5
import Derived.KernelRfl
open Go Go.Ab
set_option linter.unusedVariables false
set_option maxRecDepth 20000
namespace Sx
noncomputable section
abbrev DA := List Int
abbrev EAB := Int × Int × DA × DA
abbrev DE := List EAB
abbrev EAD := Int × Int × Bool
abbrev DB := List EAD
abbrev EAA := DE × DE × DB × Int × Int × Int × Int
abbrev EAC := DA × Bool
abbrev EAE := Bool ⊕ Unit
abbrev EAF := Int × Int × Int
abbrev EAG := Int × DA × Bool
abbrev EAH := DA × Int × Int
abbrev EAI := Bool × Int
abbrev EAJ := Bool × EAA × DA × DA × DA × DA
abbrev EAK := EAA × DA
abbrev EAL := EAI × EAA × DA × DA × DA × DA
abbrev DC := List Int
abbrev DD := List (Nat × Int × Int)
def qas_B0 (n : Nat) (b d a : Int) (c : DA) : Option ((EAF × DA) ⊕ DA) :=
 bif (decide (a < d)) then
 bif (decide (0 ≤ (mX .i64 8 a))) then
 bif (Nat.ble (List.length (c ++ ((bY .u8 (Ar .u64 b (mX .i64 8 a))) :: ([] : DC)))) 4294967296) then
 some (Sum.inl ((b, (d, (dQ .i64 a 1))), (c ++ ((bY .u8 (Ar .u64 b (mX .i64 8 a))) :: ([] : DC)))))
 else none
 else none
 else
 some (Sum.inr c)
def qas_W0 (n : Nat) (s : EAF × DA) : Option DA := bI (fun s => qas_B0 n s.1.1 s.1.2.1 s.1.2.2 s.2) n s
def qas (n : Nat) (a b : Int) : Option DA :=
 (qas_W0 n ((a, ((Ey (CY b 0) 8), 0)), ([] : DC))).bind fun c =>
 some c
def qaw_B0 (n : Nat) (a : Int) (b : DA) : Option ((Int × DA) ⊕ (Int × DA)) :=
 bif (decide (a ≥ 128)) then
 bif (Nat.ble (List.length (b ++ ((At .u8 (bY .u8 a) 128) :: ([] : DC)))) 4294967296) then
 some (Sum.inl ((Ar .u64 a 7), (b ++ ((At .u8 (bY .u8 a) 128) :: ([] : DC)))))
 else none
 else
 some (Sum.inr (a, b))
def qaw_W0 (n : Nat) (s : Int × DA) : Option (Int × DA) := bI (fun s => qaw_B0 n s.1 s.2) n s
def qaw (n : Nat) (b : Int) : Option DA :=
 (qaw_W0 n (b, ([] : DC))).bind fun a =>
 bif (Nat.ble (List.length (a.2 ++ ((bY .u8 a.1) :: ([] : DC)))) 4294967296) then
 some (a.2 ++ ((bY .u8 a.1) :: ([] : DC)))
 else none
def qs (n : Nat) (c : Int) (a : DA) : Option DA :=
 (qaw n c).bind fun b =>
 bif (Nat.ble (List.length (a ++ b)) 4294967296) then
 some (a ++ b)
 else none
def ql (n : Nat) (a : Int) (b : DA) : Option DA :=
 (qs n (bY .u64 (CY a 0)) b).bind fun c =>
 some c
def qae_B0 (n : Nat) (b c d a : Int) (e f : DE) (g : DB) (h i j k : Int) (l : DA) : Option (((EAF × Int) × EAA × DA) ⊕ EAK) :=
 bif (decide (a < 3)) then
 bif ((decide (0 ≤ a)) && (decide (a < 3))) then
 bif (Nat.beq (Int.toNat a) 0) then
 (ql n b l).bind fun m =>
 some (Sum.inl (((b, (c, d)), (dQ .i64 a 1)), ((e, (f, (g, (h, (i, (j, k)))))), m)))
 else
 bif (Nat.beq (Int.toNat a) 1) then
 (ql n c l).bind fun o =>
 some (Sum.inl (((b, (c, d)), (dQ .i64 a 1)), ((e, (f, (g, (h, (i, (j, k)))))), o)))
 else
 bif (Nat.beq (Int.toNat a) 2) then
 (ql n d l).bind fun p =>
 some (Sum.inl (((b, (c, d)), (dQ .i64 a 1)), ((e, (f, (g, (h, (i, (j, k)))))), p)))
 else none
 else none
 else
 some (Sum.inr ((e, (f, (g, (h, (i, (j, k)))))), l))
def qae_W0 (n : Nat) (s : (EAF × Int) × EAA × DA) : Option EAK := bI (fun s => qae_B0 n s.1.1.1 s.1.1.2.1 s.1.1.2.2 s.1.2 s.2.1.1 s.2.1.2.1 s.2.1.2.2.1 s.2.1.2.2.2.1 s.2.1.2.2.2.2.1 s.2.1.2.2.2.2.2.1 s.2.1.2.2.2.2.2.2 s.2.2) n s
def qn_B0 (n : Nat) (b : DA) (c a : Int) (d : DA) : Option ((EAH × DA) ⊕ DA) :=
 bif (decide (a < c)) then
 (c0 b a).bind fun e =>
 (qs n e d).bind fun f =>
 some (Sum.inl ((b, (c, (dQ .i64 a 1))), f))
 else
 some (Sum.inr d)
def qn_W0 (n : Nat) (s : EAH × DA) : Option DA := bI (fun s => qn_B0 n s.1.1 s.1.2.1 s.1.2.2 s.2) n s
def qn (n : Nat) (a b : DA) : Option DA :=
 (ql n (bV a) b).bind fun c =>
 (qn_W0 n ((a, ((bV a), 0)), c)).bind fun d =>
 some d
def qd (n : Nat) (a b : Int) (c d e : DA) : Option DA :=
 (ql n a e).bind fun f =>
 (ql n b f).bind fun g =>
 (qn n c g).bind fun h =>
 (qn n d h).bind fun i =>
 some i
def qae_B2 (n : Nat) (c : DE) (d b : Int) (e f : DE) (g : DB) (h i j k : Int) (l : DA) : Option (((DE × Int × Int) × EAA × DA) ⊕ EAK) :=
 bif (decide (b < d)) then
 (c0 c b).bind fun a =>
 (qd n a.1 a.2.1 a.2.2.1 a.2.2.2 l).bind fun m =>
 some (Sum.inl ((c, (d, (dQ .i64 b 1))), ((e, (f, (g, (h, (i, (j, k)))))), m)))
 else
 some (Sum.inr ((e, (f, (g, (h, (i, (j, k)))))), l))
def qae_W2 (n : Nat) (s : (DE × Int × Int) × EAA × DA) : Option EAK := bI (fun s => qae_B2 n s.1.1 s.1.2.1 s.1.2.2 s.2.1.1 s.2.1.2.1 s.2.1.2.2.1 s.2.1.2.2.2.1 s.2.1.2.2.2.2.1 s.2.1.2.2.2.2.2.1 s.2.1.2.2.2.2.2.2 s.2.2) n s
def qr (n : Nat) (c d : Int) (e a f : DA) : Option DA :=
 (ql n c f).bind fun g =>
 (ql n d g).bind fun h =>
 (qn n e h).bind fun i =>
 (ql n (bV a) i).bind fun b =>
 bif (Nat.ble (List.length (b ++ a)) 4294967296) then
 some (b ++ a)
 else none
def qae_B4 (n : Nat) (c : DE) (d b : Int) (e f : DE) (g : DB) (h i j k : Int) (l : DA) : Option (((DE × Int × Int) × EAA × DA) ⊕ EAK) :=
 bif (decide (b < d)) then
 (c0 c b).bind fun a =>
 (qr n a.1 a.2.1 a.2.2.1 a.2.2.2 l).bind fun m =>
 some (Sum.inl ((c, (d, (dQ .i64 b 1))), ((e, (f, (g, (h, (i, (j, k)))))), m)))
 else
 some (Sum.inr ((e, (f, (g, (h, (i, (j, k)))))), l))
def qae_W4 (n : Nat) (s : (DE × Int × Int) × EAA × DA) : Option EAK := bI (fun s => qae_B4 n s.1.1 s.1.2.1 s.1.2.2 s.2.1.1 s.2.1.2.1 s.2.1.2.2.1 s.2.1.2.2.2.1 s.2.1.2.2.2.2.1 s.2.1.2.2.2.2.2.1 s.2.1.2.2.2.2.2.2 s.2.2) n s
def qk (n : Nat) (b c : Int) (d : Bool) (e : DA) : Option DA :=
 (ql n b e).bind fun f =>
 (qs n c f).bind fun a =>
 bif d then
 (qs n 1 a).bind fun g =>
 some g
 else
 (qs n 0 a).bind fun h =>
 some h
def qae_B6 (n : Nat) (c : DB) (d a : Int) (e : DA) : Option (((DB × Int × Int) × DA) ⊕ DA) :=
 bif (decide (a < d)) then
 (c0 c a).bind fun b =>
 (qk n b.1 b.2.1 b.2.2 e).bind fun f =>
 some (Sum.inl ((c, (d, (dQ .i64 a 1))), f))
 else
 some (Sum.inr e)
def qae_W6 (n : Nat) (s : (DB × Int × Int) × DA) : Option DA := bI (fun s => qae_B6 n s.1.1 s.1.2.1 s.1.2.2 s.2) n s
def qax_B2 (n : Nat) (a : Int) (b : DA) (c d e : Int) : Option ((Int × DA × Int × Int × Int) ⊕ (Int × DA × Int × Int)) :=
 bif (decide (e < 8)) then
 some (Sum.inl ((CB .u32 (Ar .u32 a 1) (mX .u32 3988292384 (K3 .u32 a 1))), (b, (c, (d, (dQ .i64 e 1))))))
 else
 some (Sum.inr (a, (b, (c, d))))
def qax_W2 (n : Nat) (s : Int × DA × Int × Int × Int) : Option (Int × DA × Int × Int) := bI (fun s => qax_B2 n s.1 s.2.1 s.2.2.1 s.2.2.2.1 s.2.2.2.2) n s
def qax_B0 (n : Nat) (c : Int) (d : DA) (e b : Int) : Option ((Int × DA × Int × Int) ⊕ Int) :=
 bif (decide (b < e)) then
 (c0 d b).bind fun f =>
 (qax_W2 n ((CB .u32 c (bY .u32 f)), (d, (e, (b, 0))))).bind fun a =>
 some (Sum.inl (a.1, (a.2.1, (a.2.2.1, (dQ .i64 a.2.2.2 1)))))
 else
 some (Sum.inr c)
def qax_W0 (n : Nat) (s : Int × DA × Int × Int) : Option Int := bI (fun s => qax_B0 n s.1 s.2.1 s.2.2.1 s.2.2.2) n s
def qax (n : Nat) (a : DA) : Option Int :=
 (qax_W0 n (4294967295, (a, ((bV a), 0)))).bind fun b =>
 some (HU .u32 b)
def qau (n : Nat) (a : DA) : Option DA :=
 bif (Nat.ble (List.length a) 4294967296) then
 (qax n a).bind fun c =>
 (qas n (bY .u64 c) 4).bind fun b =>
 bif (Nat.ble (List.length (a ++ b)) 4294967296) then
 some (a ++ b)
 else none
 else none
def qae (n : Nat) (h i : DE) (j : DB) (d e f k l : Int) : Option DA :=
 (qas n (bY .u64 l) 4).bind fun g =>
 bif (Nat.ble (List.length ((2 :: ([] : DC)) ++ g)) 4294967296) then
 (qae_W0 n (((f, (d, e)), 0), ((h, (i, (j, (d, (e, (f, k)))))), ((2 :: ([] : DC)) ++ g)))).bind fun a =>
 (qs n a.1.2.2.2.2.2.2 a.2).bind fun m =>
 (ql n (bV a.1.1) m).bind fun o =>
 (qae_W2 n ((a.1.1, ((bV a.1.1), 0)), ((a.1.1, (a.1.2.1, (a.1.2.2.1, (a.1.2.2.2.1, (a.1.2.2.2.2.1, (a.1.2.2.2.2.2.1, a.1.2.2.2.2.2.2)))))), o))).bind fun b =>
 (ql n (bV b.1.2.1) b.2).bind fun p =>
 (qae_W4 n ((b.1.2.1, ((bV b.1.2.1), 0)), ((b.1.1, (b.1.2.1, (b.1.2.2.1, (b.1.2.2.2.1, (b.1.2.2.2.2.1, (b.1.2.2.2.2.2.1, b.1.2.2.2.2.2.2)))))), p))).bind fun c =>
 (ql n (bV c.1.2.2.1) c.2).bind fun q =>
 (qae_W6 n ((c.1.2.2.1, ((bV c.1.2.2.1), 0)), q)).bind fun r =>
 (qau n r).bind fun s =>
 some s
 else none
def qav (n : Nat) (a : DA) : Option (DA × Int) :=
 bif (decide ((bV a) < 4)) then
 some (([] : DC), 3)
 else
 bif ((decide (0 ≤ (oY .i64 (bV a) 4))) && (decide ((oY .i64 (bV a) 4) ≤ (((List.length a) : Nat) : Int)))) then
 (qau n (List.take (Int.toNat (oY .i64 (bV a) 4)) a)).bind fun b =>
 bif (!(L4 (c4 b) (c4 a))) then
 some (([] : DC), 3)
 else
 bif (Nat.ble (List.length (List.take (Int.toNat (oY .i64 (bV a) 4)) a)) 4294967296) then
 some ((List.take (Int.toNat (oY .i64 (bV a) 4)) a), 0)
 else none
 else none
def qaa (n : Nat) (a : DA) : Option EAC :=
 bif (Nat.ble (List.length a) 4294967296) then
 some (a, false)
 else none
def qz (n : Nat) (b : DA) (a : Bool) : Option (Bool × DA × Bool) :=
 some (a, (b, a))
def qu (n : Nat) (a : DA) (b : Bool) : Option EAC :=
 some (a, true)
def qv (n : Nat) (b : Int) (f : DA) (g : Bool) : Option (DA × DA × Bool) :=
 (qz n f g).bind fun a =>
 bif a.1 then
 (qu n a.2.1 a.2.2).bind fun c =>
 some (([] : DC), (c.1, c.2))
 else
 bif (decide (b < 0)) then
 (qu n a.2.1 a.2.2).bind fun d =>
 some (([] : DC), (d.1, d.2))
 else
 bif (decide (b > (bV a.2.1))) then
 (qu n a.2.1 a.2.2).bind fun e =>
 some (([] : DC), (e.1, e.2))
 else
 bif ((decide (0 ≤ b)) && (decide (b ≤ (((List.length a.2.1) : Nat) : Int)))) then
 bif (Nat.ble (List.length (List.take (Int.toNat b) a.2.1)) 4294967296) then
 bif ((decide (0 ≤ b)) && (decide (b ≤ (((List.length a.2.1) : Nat) : Int)))) then
 some ((List.take (Int.toNat b) a.2.1), ((List.drop (Int.toNat b) (List.take (List.length a.2.1) a.2.1)), a.2.2))
 else none
 else none
 else none
def qy (n : Nat) (a : DA) : Option DA :=
 some a
def mL (a : DA) : Int := a.foldr (fun c v => At .u64 (IntKind.u64.wrap (v * 256)) (IntKind.u64.wrap c)) 0
def qo (n : Nat) (a : Int) (b : DA) (c : Bool) : Option EAG :=
 (qv n (Ey (CY a 0) 8) b c).bind fun r => some (mL r.1, r.2)
def qad (n : Nat) (f : DA) (h : Int) : Option ((Int × Int) ⊕ ((Int × Int) × DA × Bool)) :=
 bif (decide ((bV f) > 65536)) then
 some (Sum.inl (0, 2))
 else
 (qav n f).bind fun a =>
 bif (a.2 != 0) then
 some (Sum.inl (0, a.2))
 else
 (qaa n a.1).bind fun g =>
 (qo n 1 g.1 g.2).bind fun b =>
 bif (b.1 != (bY .u64 h)) then
 some (Sum.inl (0, 2))
 else
 (qz n b.2.1 b.2.2).bind fun c =>
 bif c.1 then
 some (Sum.inl (0, 2))
 else
 (qo n 4 c.2.1 c.2.2).bind fun d =>
 (qz n d.2.1 d.2.2).bind fun e =>
 bif e.1 then
 some (Sum.inl (0, 2))
 else
 some (Sum.inr (((bY .u32 d.1), 0), (e.2.1, e.2.2)))
def qm (n : Nat) : Option Empty :=
 none
def qg (n : Nat) (a : Int) : Option Empty :=
 (qm n).bind fun b =>
 none
def qab_B0 (n : Nat) (a b : Int) : Option ((Int × Int) ⊕ Empty) :=
 (qg n 1).bind fun c =>
 none
def qab_W0 (n : Nat) (s : Int × Int) : Option Empty := bI (fun s => qab_B0 n s.1 s.2) n s
def qab (n : Nat) : Option Empty :=
 (qab_W0 n (0, 0)).bind fun a =>
 none
def qq (n : Nat) (a : Bool) : Option Empty :=
 (qab n).bind fun b =>
 none
def qt_B0 (n : Nat) (d b : Int) (h : DA) (i : Bool) : Option (((Int × Int) × DA × Bool) ⊕ EAG) :=
 (qv n 1 h i).bind fun a =>
 bif ((bV a.1) == 0) then
 some (Sum.inr (0, (a.2.1, a.2.2)))
 else
 (c0 a.1 0).bind fun c =>
 bif (b == 9) then
 bif (decide (c > 1)) then
 (qu n a.2.1 a.2.2).bind fun e =>
 some (Sum.inr (0, (e.1, e.2)))
 else
 bif (decide (b > 0)) then
 bif (c == 0) then
 (qu n a.2.1 a.2.2).bind fun f =>
 some (Sum.inr (0, (f.1, f.2)))
 else
 bif (decide (0 ≤ (mX .i64 7 b))) then
 bif (decide (c < 128)) then
 some (Sum.inr ((At .u64 d (Av .u64 (bY .u64 (gA .u8 c 128)) (mX .i64 7 b))), (a.2.1, a.2.2)))
 else
 some (Sum.inl (((At .u64 d (Av .u64 (bY .u64 (gA .u8 c 128)) (mX .i64 7 b))), (dQ .i64 b 1)), (a.2.1, a.2.2)))
 else none
 else
 bif (decide (0 ≤ (mX .i64 7 b))) then
 bif (decide (c < 128)) then
 some (Sum.inr ((At .u64 d (Av .u64 (bY .u64 (gA .u8 c 128)) (mX .i64 7 b))), (a.2.1, a.2.2)))
 else
 some (Sum.inl (((At .u64 d (Av .u64 (bY .u64 (gA .u8 c 128)) (mX .i64 7 b))), (dQ .i64 b 1)), (a.2.1, a.2.2)))
 else none
 else
 bif (decide (b > 0)) then
 bif (c == 0) then
 (qu n a.2.1 a.2.2).bind fun g =>
 some (Sum.inr (0, (g.1, g.2)))
 else
 bif (decide (0 ≤ (mX .i64 7 b))) then
 bif (decide (c < 128)) then
 some (Sum.inr ((At .u64 d (Av .u64 (bY .u64 (gA .u8 c 128)) (mX .i64 7 b))), (a.2.1, a.2.2)))
 else
 some (Sum.inl (((At .u64 d (Av .u64 (bY .u64 (gA .u8 c 128)) (mX .i64 7 b))), (dQ .i64 b 1)), (a.2.1, a.2.2)))
 else none
 else
 bif (decide (0 ≤ (mX .i64 7 b))) then
 bif (decide (c < 128)) then
 some (Sum.inr ((At .u64 d (Av .u64 (bY .u64 (gA .u8 c 128)) (mX .i64 7 b))), (a.2.1, a.2.2)))
 else
 some (Sum.inl (((At .u64 d (Av .u64 (bY .u64 (gA .u8 c 128)) (mX .i64 7 b))), (dQ .i64 b 1)), (a.2.1, a.2.2)))
 else none
def qt_W0 (n : Nat) (s : (Int × Int) × DA × Bool) : Option EAG := bI (fun s => qt_B0 n s.1.1 s.1.2 s.2.1 s.2.2) n s
def qt (n : Nat) (b : DA) (c : Bool) : Option EAG :=
 (qt_W0 n ((0, 0), (b, c))).bind fun a =>
 some (a.1, (a.2.1, a.2.2))
def qc (n : Nat) (b : Bool) (c : DA) (d : Bool) : Option (Int × Bool × DA × Bool) :=
 (qt n c d).bind fun a =>
 bif (decide (a.1 > 2147483647)) then
 some (0, (true, (a.2.1, a.2.2)))
 else
 some ((bY .i64 a.1), (b, (a.2.1, a.2.2)))
def qe (n : Nat) (a : Bool) (c : DA) (d : Bool) : Option (Bool × Bool × DA × Bool) :=
 bif a then
 some (true, (a, (c, d)))
 else
 (qz n c d).bind fun b =>
 some (b.1, (a, (b.2.1, b.2.2)))
def qh_B0 (n : Nat) (d : Int) (e : Bool) (f : DA) (g : Bool) (b : DA) : Option ((Int × Bool × EAC × DA) ⊕ (Bool × EAC × DA)) :=
 bif (decide (d > 0)) then
 (qe n e f g).bind fun a =>
 bif (!a.1) then
 (qt n a.2.2.1 a.2.2.2).bind fun c =>
 bif (Nat.ble (List.length (b ++ (c.1 :: ([] : DC)))) 4294967296) then
 some (Sum.inl ((oY .i64 d 1), (a.2.1, ((c.2.1, c.2.2), (b ++ (c.1 :: ([] : DC)))))))
 else none
 else
 some (Sum.inr (a.2.1, ((a.2.2.1, a.2.2.2), b)))
 else
 some (Sum.inr (e, ((f, g), b)))
def qh_W0 (n : Nat) (s : Int × Bool × EAC × DA) : Option (Bool × EAC × DA) := bI (fun s => qh_B0 n s.1 s.2.1 s.2.2.1.1 s.2.2.1.2 s.2.2.2) n s
def qh (n : Nat) (c : Bool) (d : DA) (e : Bool) : Option (DA × Bool × DA × Bool) :=
 (qc n c d e).bind fun a =>
 (qh_W0 n (a.1, (a.2.1, ((a.2.2.1, a.2.2.2), ([] : DC))))).bind fun b =>
 some (b.2.2, (b.1, (b.2.1.1, b.2.1.2)))
def qf (n : Nat) (e : Bool) (f : DA) (g : Bool) : Option (EAB × Bool × DA × Bool) :=
 (qc n e f g).bind fun a =>
 (qc n a.2.1 a.2.2.1 a.2.2.2).bind fun b =>
 (qh n b.2.1 b.2.2.1 b.2.2.2).bind fun c =>
 (qh n c.2.1 c.2.2.1 c.2.2.2).bind fun d =>
 some ((a.1, (b.1, (c.1, d.1))), (d.2.1, (d.2.2.1, d.2.2.2)))
def qb_B0 (n : Nat) (d : Int) (e : Bool) (f : DA) (g : Bool) (c : DE) : Option ((Int × Bool × EAC × DE) ⊕ (Bool × EAC × DE)) :=
 bif (decide (d > 0)) then
 (qe n e f g).bind fun b =>
 bif (!b.1) then
 (qf n b.2.1 b.2.2.1 b.2.2.2).bind fun a =>
 bif (Nat.ble (List.length (c ++ ((a.1.1, (a.1.2.1, (a.1.2.2.1, a.1.2.2.2))) :: ([] : List EAB)))) 4294967296) then
 some (Sum.inl ((oY .i64 d 1), (a.2.1, ((a.2.2.1, a.2.2.2), (c ++ ((a.1.1, (a.1.2.1, (a.1.2.2.1, a.1.2.2.2))) :: ([] : List EAB)))))))
 else none
 else
 some (Sum.inr (b.2.1, ((b.2.2.1, b.2.2.2), c)))
 else
 some (Sum.inr (e, ((f, g), c)))
def qb_W0 (n : Nat) (s : Int × Bool × EAC × DE) : Option (Bool × EAC × DE) := bI (fun s => qb_B0 n s.1 s.2.1 s.2.2.1.1 s.2.2.1.2 s.2.2.2) n s
def qb (n : Nat) (c : Bool) (d : DA) (e : Bool) : Option (DE × Bool × DA × Bool) :=
 (qc n c d e).bind fun a =>
 (qb_W0 n (a.1, (a.2.1, ((a.2.2.1, a.2.2.2), ([] : List EAB))))).bind fun b =>
 some (b.2.2, (b.1, (b.2.1.1, b.2.1.2)))
def qj (n : Nat) (f : Bool) (g : DA) (h : Bool) : Option (EAB × Bool × DA × Bool) :=
 (qc n f g h).bind fun a =>
 (qc n a.2.1 a.2.2.1 a.2.2.2).bind fun b =>
 (qh n b.2.1 b.2.2.1 b.2.2.2).bind fun c =>
 (qc n c.2.1 c.2.2.1 c.2.2.2).bind fun d =>
 (qv n d.1 d.2.2.1 d.2.2.2).bind fun e =>
 some ((a.1, (b.1, (c.1, e.1))), (d.2.1, (e.2.1, e.2.2)))
def qi_B0 (n : Nat) (d : Int) (e : Bool) (f : DA) (g : Bool) (c : DE) : Option ((Int × Bool × EAC × DE) ⊕ (Bool × EAC × DE)) :=
 bif (decide (d > 0)) then
 (qe n e f g).bind fun b =>
 bif (!b.1) then
 (qj n b.2.1 b.2.2.1 b.2.2.2).bind fun a =>
 bif (Nat.ble (List.length (c ++ ((a.1.1, (a.1.2.1, (a.1.2.2.1, a.1.2.2.2))) :: ([] : List EAB)))) 4294967296) then
 some (Sum.inl ((oY .i64 d 1), (a.2.1, ((a.2.2.1, a.2.2.2), (c ++ ((a.1.1, (a.1.2.1, (a.1.2.2.1, a.1.2.2.2))) :: ([] : List EAB)))))))
 else none
 else
 some (Sum.inr (b.2.1, ((b.2.2.1, b.2.2.2), c)))
 else
 some (Sum.inr (e, ((f, g), c)))
def qi_W0 (n : Nat) (s : Int × Bool × EAC × DE) : Option (Bool × EAC × DE) := bI (fun s => qi_B0 n s.1 s.2.1 s.2.2.1.1 s.2.2.1.2 s.2.2.2) n s
def qi (n : Nat) (c : Bool) (d : DA) (e : Bool) : Option (DE × Bool × DA × Bool) :=
 (qc n c d e).bind fun a =>
 (qi_W0 n (a.1, (a.2.1, ((a.2.2.1, a.2.2.2), ([] : List EAB))))).bind fun b =>
 some (b.2.2, (b.1, (b.2.1.1, b.2.1.2)))
def qp (n : Nat) (d : Bool) (e : DA) (f : Bool) : Option (EAD × Bool × DA × Bool) :=
 (qc n d e f).bind fun b =>
 (qt n b.2.2.1 b.2.2.2).bind fun c =>
 (qc n b.2.1 c.2.1 c.2.2).bind fun a =>
 bif a.2.1 then
 some ((b.1, (c.1, (a.1 == 1))), (true, (a.2.2.1, a.2.2.2)))
 else
 some ((b.1, (c.1, (a.1 == 1))), ((decide (a.1 > 1)), (a.2.2.1, a.2.2.2)))
def qa_B0 (n : Nat) (d : Int) (e : Bool) (f : DA) (g : Bool) (c : DB) : Option ((Int × Bool × EAC × DB) ⊕ (Bool × EAC × DB)) :=
 bif (decide (d > 0)) then
 (qe n e f g).bind fun b =>
 bif (!b.1) then
 (qp n b.2.1 b.2.2.1 b.2.2.2).bind fun a =>
 bif (Nat.ble (List.length (c ++ ((a.1.1, (a.1.2.1, a.1.2.2)) :: ([] : List EAD)))) 4294967296) then
 some (Sum.inl ((oY .i64 d 1), (a.2.1, ((a.2.2.1, a.2.2.2), (c ++ ((a.1.1, (a.1.2.1, a.1.2.2)) :: ([] : List EAD)))))))
 else none
 else
 some (Sum.inr (b.2.1, ((b.2.2.1, b.2.2.2), c)))
 else
 some (Sum.inr (e, ((f, g), c)))
def qa_W0 (n : Nat) (s : Int × Bool × EAC × DB) : Option (Bool × EAC × DB) := bI (fun s => qa_B0 n s.1 s.2.1 s.2.2.1.1 s.2.2.1.2 s.2.2.2) n s
def qa (n : Nat) (c : Bool) (d : DA) (e : Bool) : Option (DB × Bool × DA × Bool) :=
 (qc n c d e).bind fun a =>
 (qa_W0 n (a.1, (a.2.1, ((a.2.2.1, a.2.2.2), ([] : List EAD))))).bind fun b =>
 some (b.2.2, (b.1, (b.2.1.1, b.2.1.2)))
def qw (n : Nat) (b : DA) (c : Bool) : Option EAG :=
 (qz n b c).bind fun a =>
 bif a.1 then
 some (0, (a.2.1, a.2.2))
 else
 some ((bV a.2.1), (a.2.1, a.2.2))
def qaf (n : Nat) (k : DA) : Option (EAA × Int × Int) :=
 (qad n k 2).bind fun l =>
 Sum.rec (fun j =>
 bif (j.2 != 0) then
 some (([], ([], ([], (0, (0, (0, 0)))))), (0, j.2))
 else
 (qq n Bool.false).bind fun o =>
 none) (fun a =>
 bif (a.1.2 != 0) then
 some (([], ([], ([], (0, (0, (0, 0)))))), (0, a.1.2))
 else
 (qc n Bool.false a.2.1 a.2.2).bind fun b =>
 (qc n b.2.1 b.2.2.1 b.2.2.2).bind fun c =>
 (qc n c.2.1 c.2.2.1 c.2.2.2).bind fun d =>
 (qt n d.2.2.1 d.2.2.2).bind fun h =>
 (qb n d.2.1 h.2.1 h.2.2).bind fun e =>
 (qi n e.2.1 e.2.2.1 e.2.2.2).bind fun f =>
 (qa n f.2.1 f.2.2.1 f.2.2.2).bind fun g =>
 (qe n g.2.1 g.2.2.1 g.2.2.2).bind fun i =>
 bif i.1 then
 some (([], ([], ([], (0, (0, (0, 0)))))), (0, 2))
 else
 (qw n i.2.2.1 i.2.2.2).bind fun m =>
 bif (decide (m.1 > 0)) then
 some (([], ([], ([], (0, (0, (0, 0)))))), (0, 2))
 else
 some ((e.1, (f.1, (g.1, (c.1, (d.1, (b.1, h.1)))))), (a.1.1, 0))) l
def qx (n : Nat) : Option Bool :=
 (qae n ([] : List EAB) ([] : List EAB) ([] : List EAD) 5 0 0 0 9).bind fun b =>
 (qaf n b).bind fun a =>
 bif (a.2.2 == 0) then
 bif (a.2.1 == 9) then
 some (a.1.2.2.2.1 == 5)
 else
 some false
 else
 some false
def qah_B0 (n : Nat) (b d c : Int) (a : DA) : Option ((EAF × DA) ⊕ DA) :=
 bif (decide (c < d)) then
 bif (decide (c < 8)) then
 bif (Nat.ble (List.length (a ++ ((bY .u8 (y5 b 256)) :: ([] : DC)))) 4294967296) then
 some (Sum.inl (((p6 .u64 b 256), (d, (dQ .i64 c 1))), (a ++ ((bY .u8 (y5 b 256)) :: ([] : DC)))))
 else none
 else
 some (Sum.inr a)
 else
 some (Sum.inr a)
def qah_W0 (n : Nat) (s : EAF × DA) : Option DA := bI (fun s => qah_B0 n s.1.1 s.1.2.1 s.1.2.2 s.2) n s
def qah (n : Nat) (a b : Int) : Option DA :=
 (qah_W0 n ((a, (b, 0)), ([] : DC))).bind fun c =>
 some c
def qag (n : Nat) (a : Int) : Option Int :=
 bif (decide (a < 0)) then
 some 0
 else
 some (bY .u64 a)
def qar_S (n : Nat) (c : Int → Option DA) (a : Int) : Option DA :=
 bif (decide (a < 128)) then
 some ((bY .u8 a) :: ([] : DC))
 else
 (c (p6 .u64 a 128)).bind fun b =>
 bif (Nat.ble (List.length (((bY .u8 (dQ .u64 128 (y5 a 128))) :: ([] : DC)) ++ b)) 4294967296) then
 some (((bY .u8 (dQ .u64 128 (y5 a 128))) :: ([] : DC)) ++ b)
 else none
def qar_D (n d : Nat) : Int → Option DA := Nat.rec (fun _ => none) (fun _ ih a => qar_S n ih a) d
def qar (n : Nat) (a : Int) : Option DA := qar_D n n a
def qap_B0 (n : Nat) (d : Bool) (a : DA) (b : Int) (c : DA) : Option (((Bool × DA × Int) × DA) ⊕ DA) :=
 bif (decide (b < (bV a))) then
 bif d then
 (c0 a b).bind fun g =>
 (qah n g 8).bind fun e =>
 bif (Nat.ble (List.length (c ++ e)) 4294967296) then
 some (Sum.inl ((d, (a, (dQ .i64 b 1))), (c ++ e)))
 else none
 else
 (c0 a b).bind fun h =>
 (qar n h).bind fun f =>
 bif (Nat.ble (List.length (c ++ f)) 4294967296) then
 some (Sum.inl ((d, (a, (dQ .i64 b 1))), (c ++ f)))
 else none
 else
 some (Sum.inr c)
def qap_W0 (n : Nat) (s : (Bool × DA × Int) × DA) : Option DA := bI (fun s => qap_B0 n s.1.1 s.1.2.1 s.1.2.2 s.2) n s
def qap (n : Nat) (a : Bool) (b : DA) : Option DA :=
 (qap_W0 n ((a, (b, 0)), ([] : DC))).bind fun c =>
 some c
def qan (n : Nat) (b : Bool) (a : DA) : Option DA :=
 bif (Nat.ble (List.length (((bY .u64 (bV a)) :: ([] : DC)) ++ a)) 4294967296) then
 (qap n b (((bY .u64 (bV a)) :: ([] : DC)) ++ a)).bind fun c =>
 some c
 else none
def qak_B0 (n : Nat) (a : Bool) (f : Int) (c h : DE) (i : DB) (j k l m : Int) (o b p q : DA) : Option (EAL ⊕ EAJ) :=
 bif (decide (f < (bV c))) then
 (c0 c f).bind fun d =>
 (qag n d.1).bind fun s =>
 (qag n d.2.1).bind fun t =>
 (qap n a (s :: (t :: ([] : DC)))).bind fun e =>
 bif (Nat.ble (List.length (b ++ e)) 4294967296) then
 (qan n a d.2.2.1).bind fun g =>
 bif (Nat.ble (List.length ((b ++ e) ++ g)) 4294967296) then
 (qan n a d.2.2.2).bind fun r =>
 bif (Nat.ble (List.length (((b ++ e) ++ g) ++ r)) 4294967296) then
 some (Sum.inl ((a, (dQ .i64 f 1)), ((c, (h, (i, (j, (k, (l, m)))))), (o, ((((b ++ e) ++ g) ++ r), (p, q))))))
 else none
 else none
 else none
 else
 some (Sum.inr (a, ((c, (h, (i, (j, (k, (l, m)))))), (o, (b, (p, q))))))
def qak_W0 (n : Nat) (s : EAI × EAA × DA × DA × DA × DA) : Option EAJ := bI (fun s => qak_B0 n s.1.1 s.1.2 s.2.1.1 s.2.1.2.1 s.2.1.2.2.1 s.2.1.2.2.2.1 s.2.1.2.2.2.2.1 s.2.1.2.2.2.2.2.1 s.2.1.2.2.2.2.2.2 s.2.2.1 s.2.2.2.1 s.2.2.2.2.1 s.2.2.2.2.2) n s
def qak_B2 (n : Nat) (c : Bool) (g : Int) (i e : DE) (j : DB) (k l m o : Int) (p q a r : DA) : Option (EAL ⊕ EAJ) :=
 bif (decide (g < (bV e))) then
 (c0 e g).bind fun b =>
 (qag n b.1).bind fun s =>
 (qag n b.2.1).bind fun t =>
 (qap n c (s :: (t :: ([] : DC)))).bind fun d =>
 bif (Nat.ble (List.length (a ++ d)) 4294967296) then
 (qan n c b.2.2.1).bind fun f =>
 bif (Nat.ble (List.length ((a ++ d) ++ f)) 4294967296) then
 (qap n c ((bY .u64 (bV b.2.2.2)) :: ([] : DC))).bind fun h =>
 bif (Nat.ble (List.length (((a ++ d) ++ f) ++ h)) 4294967296) then
 bif (Nat.ble (List.length ((((a ++ d) ++ f) ++ h) ++ b.2.2.2)) 4294967296) then
 some (Sum.inl ((c, (dQ .i64 g 1)), ((i, (e, (j, (k, (l, (m, o)))))), (p, (q, (((((a ++ d) ++ f) ++ h) ++ b.2.2.2), r))))))
 else none
 else none
 else none
 else none
 else
 some (Sum.inr (c, ((i, (e, (j, (k, (l, (m, o)))))), (p, (q, (a, r))))))
def qak_W2 (n : Nat) (s : EAI × EAA × DA × DA × DA × DA) : Option EAJ := bI (fun s => qak_B2 n s.1.1 s.1.2 s.2.1.1 s.2.1.2.1 s.2.1.2.2.1 s.2.1.2.2.2.1 s.2.1.2.2.2.2.1 s.2.1.2.2.2.2.2.1 s.2.1.2.2.2.2.2.2 s.2.2.1 s.2.2.2.1 s.2.2.2.2.1 s.2.2.2.2.2) n s
def qak_B4 (n : Nat) (a : Bool) (e : Int) (f g : DE) (b : DB) (h i j k : Int) (l m o c : DA) : Option (EAL ⊕ EAJ) :=
 bif (decide (e < (bV b))) then
 (c0 b e).bind fun d =>
 bif d.2.2 then
 (qag n d.1).bind fun r =>
 (qap n a (r :: (d.2.1 :: (1 :: ([] : DC))))).bind fun p =>
 bif (Nat.ble (List.length (c ++ p)) 4294967296) then
 some (Sum.inl ((a, (dQ .i64 e 1)), ((f, (g, (b, (h, (i, (j, k)))))), (l, (m, (o, (c ++ p)))))))
 else none
 else
 (qag n d.1).bind fun s =>
 (qap n a (s :: (d.2.1 :: (0 :: ([] : DC))))).bind fun q =>
 bif (Nat.ble (List.length (c ++ q)) 4294967296) then
 some (Sum.inl ((a, (dQ .i64 e 1)), ((f, (g, (b, (h, (i, (j, k)))))), (l, (m, (o, (c ++ q)))))))
 else none
 else
 some (Sum.inr (a, ((f, (g, (b, (h, (i, (j, k)))))), (l, (m, (o, c))))))
def qak_W4 (n : Nat) (s : EAI × EAA × DA × DA × DA × DA) : Option EAJ := bI (fun s => qak_B4 n s.1.1 s.1.2 s.2.1.1 s.2.1.2.1 s.2.1.2.2.1 s.2.1.2.2.2.1 s.2.1.2.2.2.2.1 s.2.1.2.2.2.2.2.1 s.2.1.2.2.2.2.2.2 s.2.2.1 s.2.2.2.1 s.2.2.2.2.1 s.2.2.2.2.2) n s
def qat_B2 (n : Nat) (b : DA) (a c d : Int) : Option ((DA × Int × Int × Int) ⊕ EAH) :=
 bif (decide (d < 8)) then
 bif ((y5 a 2) == 1) then
 some (Sum.inl (b, ((CB .u32 (p6 .u32 a 2) 3988292384), (c, (dQ .i64 d 1)))))
 else
 some (Sum.inl (b, ((p6 .u32 a 2), (c, (dQ .i64 d 1)))))
 else
 some (Sum.inr (b, (a, c)))
def qat_W2 (n : Nat) (s : DA × Int × Int × Int) : Option EAH := bI (fun s => qat_B2 n s.1 s.2.1 s.2.2.1 s.2.2.2) n s
def qat_B0 (n : Nat) (a : DA) (d b : Int) : Option (EAH ⊕ Int) :=
 bif (decide (b < (bV a))) then
 (c0 a b).bind fun e =>
 (qat_W2 n (a, ((CB .u32 d (bY .u32 e)), (b, 0)))).bind fun c =>
 some (Sum.inl (c.1, (c.2.1, (dQ .i64 c.2.2 1))))
 else
 some (Sum.inr d)
def qat_W0 (n : Nat) (s : DA × Int × Int) : Option Int := bI (fun s => qat_B0 n s.1 s.2.1 s.2.2) n s
def qat (n : Nat) (a : DA) : Option Int :=
 (qat_W0 n (a, (4294967295, 0))).bind fun b =>
 some (HU .u32 b)
def qal (n : Nat) (a : DA) : Option DA :=
 bif (Nat.ble (List.length a) 4294967296) then
 (qat n a).bind fun c =>
 (qah n (bY .u64 c) 4).bind fun b =>
 bif (Nat.ble (List.length (a ++ b)) 4294967296) then
 some (a ++ b)
 else none
 else none
def qak (n : Nat) (u v : DE) (w : DB) (o p q r x : Int) (m : Bool) : Option DA :=
 bif m then
 (qah n (bY .u64 x) 4).bind fun s =>
 bif (Nat.ble (List.length ((List.set (2 :: ([] : DC)) 0 1) ++ s)) 4294967296) then
 (qag n q).bind fun aa =>
 (qag n o).bind fun ab =>
 (qag n p).bind fun ac =>
 (qap n m (aa :: (ab :: (ac :: (r :: ([] : DC)))))).bind fun y =>
 bif (Nat.ble (List.length (((List.set (2 :: ([] : DC)) 0 1) ++ s) ++ y)) 4294967296) then
 (qak_W0 n ((m, 0), ((u, (v, (w, (o, (p, (q, r)))))), ((((List.set (2 :: ([] : DC)) 0 1) ++ s) ++ y), (([] : DC), (([] : DC), ([] : DC))))))).bind fun c =>
 (qak_W2 n ((c.1, 0), ((c.2.1.1, (c.2.1.2.1, (c.2.1.2.2.1, (c.2.1.2.2.2.1, (c.2.1.2.2.2.2.1, (c.2.1.2.2.2.2.2.1, c.2.1.2.2.2.2.2.2)))))), (c.2.2.1, (c.2.2.2.1, (c.2.2.2.2.1, c.2.2.2.2.2)))))).bind fun d =>
 (qak_W4 n ((d.1, 0), ((d.2.1.1, (d.2.1.2.1, (d.2.1.2.2.1, (d.2.1.2.2.2.1, (d.2.1.2.2.2.2.1, (d.2.1.2.2.2.2.2.1, d.2.1.2.2.2.2.2.2)))))), (d.2.2.1, (d.2.2.2.1, (d.2.2.2.2.1, d.2.2.2.2.2)))))).bind fun a =>
 (qap n a.1 ((bY .u64 (bV a.2.1.1)) :: ([] : DC))).bind fun g =>
 bif (Nat.ble (List.length (g ++ a.2.2.2.1)) 4294967296) then
 (qap n a.1 ((bY .u64 (bV a.2.1.2.1)) :: ([] : DC))).bind fun k =>
 bif (Nat.ble (List.length (k ++ a.2.2.2.2.1)) 4294967296) then
 (qap n a.1 ((bY .u64 (bV a.2.1.2.2.1)) :: ([] : DC))).bind fun i =>
 bif (Nat.ble (List.length (i ++ a.2.2.2.2.2)) 4294967296) then
 bif a.1 then
 bif (Nat.ble (List.length (a.2.2.1 ++ (i ++ a.2.2.2.2.2))) 4294967296) then
 bif (Nat.ble (List.length ((a.2.2.1 ++ (i ++ a.2.2.2.2.2)) ++ (g ++ a.2.2.2.1))) 4294967296) then
 bif (Nat.ble (List.length (((a.2.2.1 ++ (i ++ a.2.2.2.2.2)) ++ (g ++ a.2.2.2.1)) ++ (k ++ a.2.2.2.2.1))) 4294967296) then
 (qal n (((a.2.2.1 ++ (i ++ a.2.2.2.2.2)) ++ (g ++ a.2.2.2.1)) ++ (k ++ a.2.2.2.2.1))).bind fun ad =>
 some ad
 else none
 else none
 else none
 else
 bif (Nat.ble (List.length (a.2.2.1 ++ (g ++ a.2.2.2.1))) 4294967296) then
 bif (Nat.ble (List.length ((a.2.2.1 ++ (g ++ a.2.2.2.1)) ++ (k ++ a.2.2.2.2.1))) 4294967296) then
 bif (Nat.ble (List.length (((a.2.2.1 ++ (g ++ a.2.2.2.1)) ++ (k ++ a.2.2.2.2.1)) ++ (i ++ a.2.2.2.2.2))) 4294967296) then
 (qal n (((a.2.2.1 ++ (g ++ a.2.2.2.1)) ++ (k ++ a.2.2.2.2.1)) ++ (i ++ a.2.2.2.2.2))).bind fun ae =>
 some ae
 else none
 else none
 else none
 else none
 else none
 else none
 else none
 else none
 else
 (qah n (bY .u64 x) 4).bind fun t =>
 bif (Nat.ble (List.length ((2 :: ([] : DC)) ++ t)) 4294967296) then
 (qag n q).bind fun af =>
 (qag n o).bind fun ag =>
 (qag n p).bind fun ah =>
 (qap n m (af :: (ag :: (ah :: (r :: ([] : DC)))))).bind fun z =>
 bif (Nat.ble (List.length (((2 :: ([] : DC)) ++ t) ++ z)) 4294967296) then
 (qak_W0 n ((m, 0), ((u, (v, (w, (o, (p, (q, r)))))), ((((2 :: ([] : DC)) ++ t) ++ z), (([] : DC), (([] : DC), ([] : DC))))))).bind fun e =>
 (qak_W2 n ((e.1, 0), ((e.2.1.1, (e.2.1.2.1, (e.2.1.2.2.1, (e.2.1.2.2.2.1, (e.2.1.2.2.2.2.1, (e.2.1.2.2.2.2.2.1, e.2.1.2.2.2.2.2.2)))))), (e.2.2.1, (e.2.2.2.1, (e.2.2.2.2.1, e.2.2.2.2.2)))))).bind fun f =>
 (qak_W4 n ((f.1, 0), ((f.2.1.1, (f.2.1.2.1, (f.2.1.2.2.1, (f.2.1.2.2.2.1, (f.2.1.2.2.2.2.1, (f.2.1.2.2.2.2.2.1, f.2.1.2.2.2.2.2.2)))))), (f.2.2.1, (f.2.2.2.1, (f.2.2.2.2.1, f.2.2.2.2.2)))))).bind fun b =>
 (qap n b.1 ((bY .u64 (bV b.2.1.1)) :: ([] : DC))).bind fun h =>
 bif (Nat.ble (List.length (h ++ b.2.2.2.1)) 4294967296) then
 (qap n b.1 ((bY .u64 (bV b.2.1.2.1)) :: ([] : DC))).bind fun l =>
 bif (Nat.ble (List.length (l ++ b.2.2.2.2.1)) 4294967296) then
 (qap n b.1 ((bY .u64 (bV b.2.1.2.2.1)) :: ([] : DC))).bind fun j =>
 bif (Nat.ble (List.length (j ++ b.2.2.2.2.2)) 4294967296) then
 bif b.1 then
 bif (Nat.ble (List.length (b.2.2.1 ++ (j ++ b.2.2.2.2.2))) 4294967296) then
 bif (Nat.ble (List.length ((b.2.2.1 ++ (j ++ b.2.2.2.2.2)) ++ (h ++ b.2.2.2.1))) 4294967296) then
 bif (Nat.ble (List.length (((b.2.2.1 ++ (j ++ b.2.2.2.2.2)) ++ (h ++ b.2.2.2.1)) ++ (l ++ b.2.2.2.2.1))) 4294967296) then
 (qal n (((b.2.2.1 ++ (j ++ b.2.2.2.2.2)) ++ (h ++ b.2.2.2.1)) ++ (l ++ b.2.2.2.2.1))).bind fun ai =>
 some ai
 else none
 else none
 else none
 else
 bif (Nat.ble (List.length (b.2.2.1 ++ (h ++ b.2.2.2.1))) 4294967296) then
 bif (Nat.ble (List.length ((b.2.2.1 ++ (h ++ b.2.2.2.1)) ++ (l ++ b.2.2.2.2.1))) 4294967296) then
 bif (Nat.ble (List.length (((b.2.2.1 ++ (h ++ b.2.2.2.1)) ++ (l ++ b.2.2.2.2.1)) ++ (j ++ b.2.2.2.2.2))) 4294967296) then
 (qal n (((b.2.2.1 ++ (h ++ b.2.2.2.1)) ++ (l ++ b.2.2.2.2.1)) ++ (j ++ b.2.2.2.2.2))).bind fun aj =>
 some aj
 else none
 else none
 else none
 else none
 else none
 else none
 else none
 else none
def qaq_B0 (n : Nat) (b c : DA) (a : Int) : Option ((DA × DA × Int) ⊕ EAE) :=
 bif (decide (a < (bV b))) then
 (c0 b a).bind fun d =>
 (c0 c a).bind fun e =>
 bif (d != e) then
 some (Sum.inr (Sum.inl false))
 else
 some (Sum.inl (b, (c, (dQ .i64 a 1))))
 else
 some (Sum.inr (Sum.inr ()))
def qaq_W0 (n : Nat) (s : DA × DA × Int) : Option EAE := bI (fun s => qaq_B0 n s.1 s.2.1 s.2.2) n s
def qaq (n : Nat) (a b : DA) : Option Bool :=
 bif ((bV a) != (bV b)) then
 some false
 else
 (qaq_W0 n (a, (b, 0))).bind fun c =>
 Sum.rec (fun d =>
 some d) (fun e =>
 some true) c
def qai_B0 (n : Nat) (b : Int) (a d : DE) (e : DB) (f g h i : Int) (c : DA) : Option ((Int × EAA × DA) ⊕ EAK) :=
 bif (decide (b < (bV a))) then
 (c0 a b).bind fun j =>
 (c0 a b).bind fun k =>
 bif (Nat.ble (List.length (c ++ (j.1 :: (k.2.1 :: ([] : DC))))) 4294967296) then
 some (Sum.inl ((dQ .i64 b 1), ((a, (d, (e, (f, (g, (h, i)))))), (c ++ (j.1 :: (k.2.1 :: ([] : DC)))))))
 else none
 else
 some (Sum.inr ((a, (d, (e, (f, (g, (h, i)))))), c))
def qai_W0 (n : Nat) (s : Int × EAA × DA) : Option EAK := bI (fun s => qai_B0 n s.1 s.2.1.1 s.2.1.2.1 s.2.1.2.2.1 s.2.1.2.2.2.1 s.2.1.2.2.2.2.1 s.2.1.2.2.2.2.2.1 s.2.1.2.2.2.2.2.2 s.2.2) n s
def qai_B2 (n : Nat) (b : Int) (d a : DE) (e : DB) (f g h i : Int) (c : DA) : Option ((Int × EAA × DA) ⊕ EAK) :=
 bif (decide (b < (bV a))) then
 (c0 a b).bind fun j =>
 (c0 a b).bind fun k =>
 bif (Nat.ble (List.length (c ++ (j.1 :: (k.2.1 :: ([] : DC))))) 4294967296) then
 some (Sum.inl ((dQ .i64 b 1), ((d, (a, (e, (f, (g, (h, i)))))), (c ++ (j.1 :: (k.2.1 :: ([] : DC)))))))
 else none
 else
 some (Sum.inr ((d, (a, (e, (f, (g, (h, i)))))), c))
def qai_W2 (n : Nat) (s : Int × EAA × DA) : Option EAK := bI (fun s => qai_B2 n s.1 s.2.1.1 s.2.1.2.1 s.2.1.2.2.1 s.2.1.2.2.2.1 s.2.1.2.2.2.2.1 s.2.1.2.2.2.2.2.1 s.2.1.2.2.2.2.2.2 s.2.2) n s
def qai_B4 (n : Nat) (b : Int) (d e : DE) (a : DB) (f g h i : Int) (c : DA) : Option ((Int × EAA × DA) ⊕ EAK) :=
 bif (decide (b < (bV a))) then
 (c0 a b).bind fun j =>
 bif (Nat.ble (List.length (c ++ (j.1 :: ([] : DC)))) 4294967296) then
 some (Sum.inl ((dQ .i64 b 1), ((d, (e, (a, (f, (g, (h, i)))))), (c ++ (j.1 :: ([] : DC))))))
 else none
 else
 some (Sum.inr ((d, (e, (a, (f, (g, (h, i)))))), c))
def qai_W4 (n : Nat) (s : Int × EAA × DA) : Option EAK := bI (fun s => qai_B4 n s.1 s.2.1.1 s.2.1.2.1 s.2.1.2.2.1 s.2.1.2.2.2.1 s.2.1.2.2.2.2.1 s.2.1.2.2.2.2.2.1 s.2.1.2.2.2.2.2.2 s.2.2) n s
def qai_B6 (n : Nat) (b : Int) (a : DA) : Option ((Int × DA) ⊕ ((Bool × DA) ⊕ DA)) :=
 bif (decide (b < (bV a))) then
 bif ((decide (0 ≤ b)) && (decide (b < (((List.length a) : Nat) : Int)))) then
 (a[(Int.toNat b)]?).bind fun c =>
 bif (decide (c < 0)) then
 some (Sum.inr (Sum.inl (false, a)))
 else
 bif ((decide (0 ≤ b)) && (decide (b < (((List.length a) : Nat) : Int)))) then
 (a[(Int.toNat b)]?).bind fun d =>
 bif (decide (d > 2147483647)) then
 some (Sum.inr (Sum.inl (false, a)))
 else
 some (Sum.inl ((dQ .i64 b 1), a))
 else none
 else none
 else
 some (Sum.inr (Sum.inr a))
def qai_W6 (n : Nat) (s : Int × DA) : Option ((Bool × DA) ⊕ DA) := bI (fun s => qai_B6 n s.1 s.2) n s
def qai (n : Nat) (f g : DE) (h : DB) (c d e i : Int) : Option Bool :=
 (qai_W0 n (0, ((f, (g, (h, (c, (d, (e, i)))))), (e :: (c :: (d :: ([] : DC))))))).bind fun a =>
 (qai_W2 n (0, ((a.1.1, (a.1.2.1, (a.1.2.2.1, (a.1.2.2.2.1, (a.1.2.2.2.2.1, (a.1.2.2.2.2.2.1, a.1.2.2.2.2.2.2)))))), a.2))).bind fun b =>
 (qai_W4 n (0, ((b.1.1, (b.1.2.1, (b.1.2.2.1, (b.1.2.2.2.1, (b.1.2.2.2.2.1, (b.1.2.2.2.2.2.1, b.1.2.2.2.2.2.2)))))), b.2))).bind fun j =>
 (qai_W6 n (0, j.2)).bind fun k =>
 Sum.rec (fun l =>
 some l.1) (fun m =>
 some true) k
def qaj_B0 (n : Nat) (b c : DA) (a : Int) : Option ((DA × DA × Int) ⊕ EAE) :=
 bif (decide (a < (bV b))) then
 (c0 b a).bind fun d =>
 (c0 c a).bind fun e =>
 bif (d != e) then
 some (Sum.inr (Sum.inl false))
 else
 some (Sum.inl (b, (c, (dQ .i64 a 1))))
 else
 some (Sum.inr (Sum.inr ()))
def qaj_W0 (n : Nat) (s : DA × DA × Int) : Option EAE := bI (fun s => qaj_B0 n s.1 s.2.1 s.2.2) n s
def qaj (n : Nat) (a b : DA) : Option Bool :=
 bif ((bV a) != (bV b)) then
 some false
 else
 (qaj_W0 n (a, (b, 0))).bind fun c =>
 Sum.rec (fun d =>
 some d) (fun e =>
 some true) c
def qac_B0 (n : Nat) (r : Int) (c e : DE) (f : DB) (g h i j : Int) (d k : DE) (l : DB) (m o p q : Int) : Option ((Int × EAA × DE × DE × DB × Int × Int × Int × Int) ⊕ ((Bool × EAA × EAA × EAB × Int × Int × DA × DA) ⊕ (EAA × DE × DE × DB × Int × Int × Int × Int))) :=
 bif (decide (r < (bV c))) then
 (c0 c r).bind fun a =>
 (c0 d r).bind fun b =>
 bif (a.1 != b.1) then
 some (Sum.inr (Sum.inl (false, ((c, (e, (f, (g, (h, (i, j)))))), ((d, (k, (l, (m, (o, (p, q)))))), ((a.1, (a.2.1, (a.2.2.1, a.2.2.2))), (b.1, (b.2.1, (b.2.2.1, b.2.2.2)))))))))
 else
 bif (a.2.1 != b.2.1) then
 some (Sum.inr (Sum.inl (false, ((c, (e, (f, (g, (h, (i, j)))))), ((d, (k, (l, (m, (o, (p, q)))))), ((a.1, (a.2.1, (a.2.2.1, a.2.2.2))), (b.1, (b.2.1, (b.2.2.1, b.2.2.2)))))))))
 else
 (qaj n a.2.2.1 b.2.2.1).bind fun s =>
 bif (!s) then
 some (Sum.inr (Sum.inl (false, ((c, (e, (f, (g, (h, (i, j)))))), ((d, (k, (l, (m, (o, (p, q)))))), ((a.1, (a.2.1, (a.2.2.1, a.2.2.2))), (b.1, (b.2.1, (b.2.2.1, b.2.2.2)))))))))
 else
 (qaj n a.2.2.2 b.2.2.2).bind fun t =>
 bif (!t) then
 some (Sum.inr (Sum.inl (false, ((c, (e, (f, (g, (h, (i, j)))))), ((d, (k, (l, (m, (o, (p, q)))))), ((a.1, (a.2.1, (a.2.2.1, a.2.2.2))), (b.1, (b.2.1, (b.2.2.1, b.2.2.2)))))))))
 else
 some (Sum.inl ((dQ .i64 r 1), ((c, (e, (f, (g, (h, (i, j)))))), (d, (k, (l, (m, (o, (p, q)))))))))
 else
 some (Sum.inr (Sum.inr ((c, (e, (f, (g, (h, (i, j)))))), (d, (k, (l, (m, (o, (p, q)))))))))
def qac_W0 (n : Nat) (s : Int × EAA × DE × DE × DB × Int × Int × Int × Int) : Option ((Bool × EAA × EAA × EAB × Int × Int × DA × DA) ⊕ (EAA × DE × DE × DB × Int × Int × Int × Int)) := bI (fun s => qac_B0 n s.1 s.2.1.1 s.2.1.2.1 s.2.1.2.2.1 s.2.1.2.2.2.1 s.2.1.2.2.2.2.1 s.2.1.2.2.2.2.2.1 s.2.1.2.2.2.2.2.2 s.2.2.1 s.2.2.2.1 s.2.2.2.2.1 s.2.2.2.2.2.1 s.2.2.2.2.2.2.1 s.2.2.2.2.2.2.2.1 s.2.2.2.2.2.2.2.2) n s
def qao_B0 (n : Nat) (b c : DE) (a : Int) : Option ((DE × DE × Int) ⊕ EAE) :=
 bif (decide (a < (bV b))) then
 (c0 b a).bind fun d =>
 (c0 c a).bind fun e =>
 bif (d.1 != e.1) then
 some (Sum.inr (Sum.inl false))
 else
 (c0 b a).bind fun f =>
 (c0 c a).bind fun g =>
 bif (f.2.1 != g.2.1) then
 some (Sum.inr (Sum.inl false))
 else
 (c0 b a).bind fun h =>
 (c0 c a).bind fun i =>
 (qaj n h.2.2.1 i.2.2.1).bind fun j =>
 bif (!j) then
 some (Sum.inr (Sum.inl false))
 else
 (c0 b a).bind fun k =>
 (c0 c a).bind fun l =>
 (qaq n k.2.2.2 l.2.2.2).bind fun m =>
 bif (!m) then
 some (Sum.inr (Sum.inl false))
 else
 some (Sum.inl (b, (c, (dQ .i64 a 1))))
 else
 some (Sum.inr (Sum.inr ()))
def qao_W0 (n : Nat) (s : DE × DE × Int) : Option EAE := bI (fun s => qao_B0 n s.1 s.2.1 s.2.2) n s
def qao (n : Nat) (a b : DE) : Option Bool :=
 bif ((bV a) != (bV b)) then
 some false
 else
 (qao_W0 n (a, (b, 0))).bind fun c =>
 Sum.rec (fun d =>
 some d) (fun e =>
 some true) c
def qam_B0 (n : Nat) (b e : DB) (a : Int) : Option ((DB × DB × Int) ⊕ EAE) :=
 bif (decide (a < (bV b))) then
 (c0 b a).bind fun c =>
 (c0 e a).bind fun d =>
 bif (!((c.1 == d.1) && ((c.2.1 == d.2.1) && (c.2.2 == d.2.2)))) then
 some (Sum.inr (Sum.inl false))
 else
 some (Sum.inl (b, (e, (dQ .i64 a 1))))
 else
 some (Sum.inr (Sum.inr ()))
def qam_W0 (n : Nat) (s : DB × DB × Int) : Option EAE := bI (fun s => qam_B0 n s.1 s.2.1 s.2.2) n s
def qam (n : Nat) (a b : DB) : Option Bool :=
 bif ((bV a) != (bV b)) then
 some false
 else
 (qam_W0 n (a, (b, 0))).bind fun c =>
 Sum.rec (fun d =>
 some d) (fun e =>
 some true) c
def qac (n : Nat) (b l : DE) (m : DB) (c d e f : Int) (g o : DE) (p : DB) (h i j k : Int) : Option Bool :=
 bif ((bV b) != (bV g)) then
 some false
 else
 bif (c != h) then
 some false
 else
 bif (d != i) then
 some false
 else
 bif (e != j) then
 some false
 else
 bif (f != k) then
 some false
 else
 (qac_W0 n (0, ((b, (l, (m, (c, (d, (e, f)))))), (g, (o, (p, (h, (i, (j, k))))))))).bind fun q =>
 Sum.rec (fun r =>
 some r.1) (fun a =>
 (qao n a.1.2.1 a.2.2.1).bind fun s =>
 bif s then
 (qam n a.1.2.2.1 a.2.2.2.1).bind fun t =>
 some t
 else
 some false) q
def eJ (n : Nat) (b : DA) : Option Bool :=
 bif (decide ((bV b) > 5000)) then
 (qx n).bind fun c =>
 some c
 else
 (qaf n b).bind fun a =>
 bif (a.2.2 != 0) then
 (qx n).bind fun d =>
 bif d then
 bif (a.2.2 == 2) then
 (qac n a.1.1 a.1.2.1 a.1.2.2.1 a.1.2.2.2.1 a.1.2.2.2.2.1 a.1.2.2.2.2.2.1 a.1.2.2.2.2.2.2 ([] : List EAB) ([] : List EAB) ([] : List EAD) 0 0 0 0).bind fun e =>
 bif e then
 some (a.2.1 == 0)
 else
 some false
 else
 bif (a.2.2 == 3) then
 (qac n a.1.1 a.1.2.1 a.1.2.2.1 a.1.2.2.2.1 a.1.2.2.2.2.1 a.1.2.2.2.2.2.1 a.1.2.2.2.2.2.2 ([] : List EAB) ([] : List EAB) ([] : List EAD) 0 0 0 0).bind fun f =>
 bif f then
 some (a.2.1 == 0)
 else
 some false
 else
 some false
 else
 some false
 else
 (qx n).bind fun g =>
 bif g then
 (qai n a.1.1 a.1.2.1 a.1.2.2.1 a.1.2.2.2.1 a.1.2.2.2.2.1 a.1.2.2.2.2.2.1 a.1.2.2.2.2.2.2).bind fun h =>
 bif h then
 bif (decide ((oY .i64 (bV b) 4) ≥ 0)) then
 bif ((decide (0 ≤ (oY .i64 (bV b) 4))) && (decide ((oY .i64 (bV b) 4) ≤ (((List.length b) : Nat) : Int)))) then
 (qal n (List.take (Int.toNat (oY .i64 (bV b) 4)) b)).bind fun i =>
 (qaq n i b).bind fun j =>
 bif j then
 (qak n a.1.1 a.1.2.1 a.1.2.2.1 a.1.2.2.2.1 a.1.2.2.2.2.1 a.1.2.2.2.2.2.1 a.1.2.2.2.2.2.2 a.2.1 Bool.false).bind fun k =>
 (qaq n k b).bind fun l =>
 some l
 else
 some false
 else none
 else
 some false
 else
 some false
 else
 some false
end
end Sx
