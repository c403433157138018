import Derived.Test.YtdlbbdbbpoggfaaLib6
import Derived.KernelRfl
open Go Go.Ab
set_option linter.unusedVariables false
set_option maxRecDepth 20000
namespace Sx
noncomputable section
abbrev DA := List Int
abbrev EAD := Int × Int × DA × DA
abbrev DI := List EAD
abbrev EAP := Int × Int × Bool
abbrev DB := List EAP
abbrev EAA := DI × DI × DB × Int × Int × Int × Int
abbrev EAB := Int × Int × Int × Int
abbrev EAC := Nat × Nat
abbrev EAE := Int × Int
abbrev DC := List EAE
abbrev DJ := List DC
abbrev EAM := Int × Int × Int
abbrev DE := List EAM
abbrev DK := List (DC × Int × Int × DC × DE)
abbrev EAK := DC × Int × Int
abbrev DL := List EAK
abbrev DF := List ByteArray
abbrev EAF := DJ × DK × DL × DA × DF
abbrev EAG := Bool ⊕ Unit
abbrev EAH := Int × DI × DI × DB × Int × Int × Int × Int
abbrev EAI := DK × Int × Int
abbrev EAJ := Int ⊕ Unit
abbrev EAL := Bool × Int
abbrev EAN := DL × Int × Int
abbrev EAO := DI × Nat
abbrev EAQ := EAC × EAC × EAC × Int × Int × Int × Int
abbrev EAR := Int × EAA × EAB × EAB × DI × DB
abbrev EAS := EAA × EAB × EAB × DI × DB
abbrev EAT := Int × EAA × EAB × EAB × DB
abbrev EAU := Int × EAA × EAB × EAB × DI × DI × DB
abbrev EAV := EAA × EAB × EAB × DB
abbrev EAW := EAA × EAB × EAB × DI × DI × DB
abbrev EAX := Int × EAF × DC × Int × Int × DC × DE
abbrev EAY := Bool × EAD × Int × Int × DA × DA
abbrev EAZ := EAE ⊕ Int
abbrev EBA := EAA × EAA × EAQ × DI × DI × DB
abbrev EBB := Int × EAA × EAA × EAQ × EAO × DI × DB × DA
abbrev EBC := Int × EAA × EAA × EAQ × DI × EAO × DB × DA
abbrev EBD := EAE × EAA × EAA × EAQ × DI × DI × DB
abbrev EBE := Int × EAA × EAA × EAQ × DI × DI × DB
abbrev EBF := EAR ⊕ EAU
abbrev EBG := EAR ⊕ EBF
abbrev DD := List Int
abbrev DG := List ByteArray
abbrev DH := List (Nat × Int × Int)
abbrev DM := List DA
def qba_B0 (n : Nat) (c b : Int) (d a : DI) (e : DB) (f g h i : Int) : Option ((EAE × DI × DI × DB × Int × Int × Int × Int) ⊕ EAH) :=
 bif (decide (b < (lenI a))) then
 (getI a b).bind fun j =>
 (getI a b).bind fun k =>
 some (Sum.inl (((addI .i64 (addI .i64 c (lenI j.2.2.1)) (lenI k.2.2.2)), (addI .i64 b 1)), (d, (a, (e, (f, (g, (h, i))))))))
 else
 some (Sum.inr (c, (d, (a, (e, (f, (g, (h, i))))))))
def qba_W0 (n : Nat) (s : EAE × DI × DI × DB × Int × Int × Int × Int) : Option EAH := loopS (fun s => qba_B0 n s.1.1 s.1.2 s.2.1 s.2.2.1 s.2.2.2.1 s.2.2.2.2.1 s.2.2.2.2.2.1 s.2.2.2.2.2.2.1 s.2.2.2.2.2.2.2) n s
def qba_B2 (n : Nat) (c b : Int) (a d : DI) (e : DB) (f g h i : Int) : Option ((EAE × DI × DI × DB × Int × Int × Int × Int) ⊕ EAH) :=
 bif (decide (b < (lenI a))) then
 (getI a b).bind fun j =>
 (getI a b).bind fun k =>
 some (Sum.inl (((addI .i64 (addI .i64 c (lenI j.2.2.1)) (lenI k.2.2.2)), (addI .i64 b 1)), (a, (d, (e, (f, (g, (h, i))))))))
 else
 some (Sum.inr (c, (a, (d, (e, (f, (g, (h, i))))))))
def qba_W2 (n : Nat) (s : EAE × DI × DI × DB × Int × Int × Int × Int) : Option EAH := loopS (fun s => qba_B2 n s.1.1 s.1.2 s.2.1 s.2.2.1 s.2.2.2.1 s.2.2.2.2.1 s.2.2.2.2.2.1 s.2.2.2.2.2.2.1 s.2.2.2.2.2.2.2) n s
def qba (n : Nat) (b c : DI) (d : DB) (e f g h : Int) : Option Bool :=
 bif (decide ((addI .i64 (addI .i64 (lenI c) (lenI d)) (lenI b)) > 300)) then
 some false
 else
 (qba_W0 n (((addI .i64 (addI .i64 (lenI c) (lenI d)) (lenI b)), 0), (b, (c, (d, (e, (f, (g, h)))))))).bind fun a =>
 (qba_W2 n ((a.1, 0), (a.2.1, (a.2.2.1, (a.2.2.2.1, (a.2.2.2.2.1, (a.2.2.2.2.2.1, (a.2.2.2.2.2.2.1, a.2.2.2.2.2.2.2)))))))).bind fun i =>
 some (decide (i.1 < 3000))
def qbx (n : Nat) (b a c : Int) : Option Bool :=
 bif (b == 1) then
 some (a == 0)
 else
 bif (b == 2) then
 some (a == 0)
 else
 bif (b == 3) then
 some (a == 0)
 else
 bif (b == 7) then
 some (a == 0)
 else
 bif (b == 4) then
 bif (decide (a ≥ 0)) then
 some (decide (a < c))
 else
 some false
 else
 bif (b == 5) then
 bif (decide (a ≥ 0)) then
 some (decide (a < 4))
 else
 some false
 else
 some false
def qao (n : Nat) (b c a : Int) : Option EAL :=
 (qbx n b c a).bind fun d =>
 some ((!d), a)
def qac_B0 (n : Nat) (c : DC) (d a e : Int) : Option ((EAK × Int) ⊕ EAZ) :=
 bif (decide (a < d)) then
 (getI c a).bind fun f =>
 (qao n f.1 f.2 e).bind fun b =>
 bif b.1 then
 some (Sum.inr (Sum.inl (a, b.2)))
 else
 some (Sum.inl ((c, (d, (addI .i64 a 1))), b.2))
 else
 some (Sum.inr (Sum.inr e))
def qac_W0 (n : Nat) (s : EAK × Int) : Option EAZ := loopS (fun s => qac_B0 n s.1.1 s.1.2.1 s.1.2.2 s.2) n s
def qac (n : Nat) (a : DC) (c : Int) : Option EAE :=
 (qac_W0 n ((a, ((lenI a), 0)), c)).bind fun d =>
 Sum.rec (fun b =>
 some (b.1, b.2)) (fun e =>
 some ((-1), e)) d
def qm (n : Nat) (b : DC) (c : Int) : Option EAL :=
 (qac n b c).bind fun a =>
 some ((decide (a.1 ≥ 0)), a.2)
def qbc (n : Nat) (a : DC) (b c : Int) : Option Bool :=
 bif (decide ((lenI a) ≤ c)) then
 (qm n a b).bind fun d =>
 some (!d.1)
 else
 some false
def qat (n : Nat) (b : DC) (a : Int) : Option EAL :=
 (qbc n b a 6).bind fun c =>
 some ((!c), a)
def qq_B0 (n : Nat) (c : DJ) (d a e : Int) : Option (((DJ × Int × Int) × Int) ⊕ EAZ) :=
 bif (decide (a < d)) then
 (getI c a).bind fun f =>
 (qat n f e).bind fun b =>
 bif b.1 then
 some (Sum.inr (Sum.inl (a, b.2)))
 else
 some (Sum.inl ((c, (d, (addI .i64 a 1))), b.2))
 else
 some (Sum.inr (Sum.inr e))
def qq_W0 (n : Nat) (s : (DJ × Int × Int) × Int) : Option EAZ := loopS (fun s => qq_B0 n s.1.1 s.1.2.1 s.1.2.2 s.2) n s
def qq (n : Nat) (a : DJ) (c : Int) : Option EAE :=
 (qq_W0 n ((a, ((lenI a), 0)), c)).bind fun d =>
 Sum.rec (fun b =>
 some (b.1, b.2)) (fun e =>
 some ((-1), e)) d
def qg (n : Nat) (b : DJ) (c : Int) : Option EAL :=
 (qq n b c).bind fun a =>
 some ((decide (a.1 ≥ 0)), a.2)
def qbu (n : Nat) (a : Int) : Option Int :=
 bif (a == 29) then
 some 2
 else
 bif (a == 30) then
 some 2
 else
 bif (a == 0) then
 some 1
 else
 bif (a == 1) then
 some 1
 else
 bif (a == 3) then
 some 1
 else
 bif (a == 4) then
 some 1
 else
 bif (a == 23) then
 some 1
 else
 bif (a == 24) then
 some 1
 else
 bif (a == 25) then
 some 1
 else
 bif (a == 27) then
 some 1
 else
 bif (a == 28) then
 some 1
 else
 bif (decide (a < 0)) then
 some (-1)
 else
 bif (decide (a ≥ 42)) then
 some (-1)
 else
 some 0
def qcc (n : Nat) (a : Int) (b : Bool) : Option Bool :=
 bif (decide (a ≥ 0)) then
 bif (decide (a ≤ 255)) then
 bif b then
 some true
 else
 some (a == 0)
 else
 some false
 else
 some false
def qcf_B0 (n : Nat) (a : Int) (b : DA) : Option ((Int × DA) ⊕ (Int × DA)) :=
 bif (decide (a ≥ 128)) then
 bif (Nat.ble (List.length (b ++ ((orI .u8 (cvtI .u8 a) 128) :: ([] : DD)))) 4294967296) then
 some (Sum.inl ((shrI .u64 a 7), (b ++ ((orI .u8 (cvtI .u8 a) 128) :: ([] : DD)))))
 else none
 else
 some (Sum.inr (a, b))
def qcf_W0 (n : Nat) (s : Int × DA) : Option (Int × DA) := loopS (fun s => qcf_B0 n s.1 s.2) n s
def qcf (n : Nat) (b : Int) : Option DA :=
 (qcf_W0 n (b, ([] : DD))).bind fun a =>
 bif (Nat.ble (List.length (a.2 ++ ((cvtI .u8 a.1) :: ([] : DD)))) 4294967296) then
 some (a.2 ++ ((cvtI .u8 a.1) :: ([] : DD)))
 else none
def qcd_B0 (n : Nat) (a : Nat × Nat) (f b : Int) (c : DA) (d e : Int) : Option (((EAC × Int × Int) × DA × Int × Int) ⊕ (DA × Int × Int)) :=
 bif (decide (b < f)) then
 bif ((decide (0 ≤ b)) && (decide (b < ((a.2 : Nat) : Int)))) then
 bif (Nat.beq (((a.1 + (Int.toNat b)) * 1) + 0) 0) then
 (qcf n (cvtI .u64 d)).bind fun g =>
 bif (Nat.ble (List.length (c ++ g)) 4294967296) then
 some (Sum.inl (((a.1, a.2), (f, (addI .i64 b 1))), ((c ++ g), (d, e))))
 else none
 else
 bif (Nat.beq (((a.1 + (Int.toNat b)) * 1) + 0) 1) then
 (qcf n (cvtI .u64 e)).bind fun h =>
 bif (Nat.ble (List.length (c ++ h)) 4294967296) then
 some (Sum.inl (((a.1, a.2), (f, (addI .i64 b 1))), ((c ++ h), (d, e))))
 else none
 else none
 else none
 else
 some (Sum.inr (c, (d, e)))
def qcd_W0 (n : Nat) (s : (EAC × Int × Int) × DA × Int × Int) : Option (DA × Int × Int) := loopS (fun s => qcd_B0 n s.1.1 s.1.2.1 s.1.2.2 s.2.1 s.2.2.1 s.2.2.2) n s
def qcd (n : Nat) (b c d : Int) : Option DA :=
 (qbu n b).bind fun a =>
 bif (decide (a < 0)) then
 some ([] : DD)
 else
 (qcc n c (decide (a > 0))).bind fun e =>
 bif (!e) then
 some ([] : DD)
 else
 (qcc n d (decide (a > 1))).bind fun f =>
 bif (!f) then
 some ([] : DD)
 else
 bif ((decide (0 ≤ a)) && (decide (a ≤ 2))) then
 (qcd_W0 n (((0, ((Int.toNat a) - 0)), (((((Int.toNat a) - 0) : Nat) : Int), 0)), (((cvtI .u8 b) :: ([] : DD)), (c, d)))).bind fun g =>
 some g.1
 else none
def qx (n : Nat) (a b c : Int) : Option Bool :=
 (qcd n a b c).bind fun d =>
 some ((lenI d) == 0)
def qw_B0 (n : Nat) (c : DE) (d a : Int) : Option ((DE × Int × Int) ⊕ EAJ) :=
 bif (decide (a < d)) then
 (getI c a).bind fun b =>
 (qx n b.1 b.2.1 b.2.2).bind fun e =>
 bif e then
 some (Sum.inr (Sum.inl a))
 else
 some (Sum.inl (c, (d, (addI .i64 a 1))))
 else
 some (Sum.inr (Sum.inr ()))
def qw_W0 (n : Nat) (s : DE × Int × Int) : Option EAJ := loopS (fun s => qw_B0 n s.1 s.2.1 s.2.2) n s
def qw (n : Nat) (a : DE) : Option Int :=
 (qw_W0 n (a, ((lenI a), 0))).bind fun b =>
 Sum.rec (fun c =>
 some c) (fun d =>
 some (-1)) b
def ql (n : Nat) (a : DE) : Option Bool :=
 (qw n a).bind fun b =>
 some (decide (b ≥ 0))
def qad (n : Nat) (c : DC) (d e : Int) (f : DC) (a : DE) (b : Int) : Option Bool :=
 (qbc n c b 4).bind fun g =>
 bif g then
 (qbx n d e b).bind fun h =>
 bif h then
 (qbc n f b (subI .i64 8 (lenI c))).bind fun i =>
 bif i then
 bif (decide ((lenI a) ≥ 1)) then
 bif (decide ((lenI a) ≤ 64)) then
 (ql n a).bind fun j =>
 some (!j)
 else
 some false
 else
 some false
 else
 some false
 else
 some false
 else
 some false
def qar (n : Nat) (b : DC) (c d : Int) (e : DC) (f : DE) (a : Int) : Option EAL :=
 (qad n b c d e f a).bind fun g =>
 some ((!g), a)
def qaa_B0 (n : Nat) (d : DK) (e b f : Int) : Option ((EAI × Int) ⊕ EAZ) :=
 bif (decide (b < e)) then
 (getI d b).bind fun a =>
 (qar n a.1 a.2.1 a.2.2.1 a.2.2.2.1 a.2.2.2.2 f).bind fun c =>
 bif c.1 then
 some (Sum.inr (Sum.inl (b, c.2)))
 else
 some (Sum.inl ((d, (e, (addI .i64 b 1))), c.2))
 else
 some (Sum.inr (Sum.inr f))
def qaa_W0 (n : Nat) (s : EAI × Int) : Option EAZ := loopS (fun s => qaa_B0 n s.1.1 s.1.2.1 s.1.2.2 s.2) n s
def qaa (n : Nat) (a : DK) (c : Int) : Option EAE :=
 (qaa_W0 n ((a, ((lenI a), 0)), c)).bind fun d =>
 Sum.rec (fun b =>
 some (b.1, b.2)) (fun e =>
 some ((-1), e)) d
def qn (n : Nat) (b : DK) (c : Int) : Option EAL :=
 (qaa n b c).bind fun a =>
 some ((decide (a.1 ≥ 0)), a.2)
def qan (n : Nat) (b : DC) (c d a : Int) : Option EAL :=
 (qbc n b a 4).bind fun e =>
 bif (!e) then
 some (true, a)
 else
 (qbx n c d a).bind fun f =>
 some ((!f), a)
def qp_B0 (n : Nat) (d : DL) (e a f : Int) : Option ((EAN × Int) ⊕ EAZ) :=
 bif (decide (a < e)) then
 (getI d a).bind fun b =>
 (qan n b.1 b.2.1 b.2.2 f).bind fun c =>
 bif c.1 then
 some (Sum.inr (Sum.inl (a, c.2)))
 else
 some (Sum.inl ((d, (e, (addI .i64 a 1))), c.2))
 else
 some (Sum.inr (Sum.inr f))
def qp_W0 (n : Nat) (s : EAN × Int) : Option EAZ := loopS (fun s => qp_B0 n s.1.1 s.1.2.1 s.1.2.2 s.2) n s
def qp (n : Nat) (a : DL) (c : Int) : Option EAE :=
 (qp_W0 n ((a, ((lenI a), 0)), c)).bind fun d =>
 Sum.rec (fun b =>
 some (b.1, b.2)) (fun e =>
 some ((-1), e)) d
def qd (n : Nat) (b : DL) (c : Int) : Option EAL :=
 (qp n b c).bind fun a =>
 some ((decide (a.1 ≥ 0)), a.2)
def qal (n : Nat) (a : ByteArray) : Option Bool :=
 some (decide ((lenS a) > 32))
def qs_B0 (n : Nat) (b : DF) (c a : Int) : Option ((DF × Int × Int) ⊕ EAJ) :=
 bif (decide (a < c)) then
 (getI b a).bind fun d =>
 (qal n d).bind fun e =>
 bif e then
 some (Sum.inr (Sum.inl a))
 else
 some (Sum.inl (b, (c, (addI .i64 a 1))))
 else
 some (Sum.inr (Sum.inr ()))
def qs_W0 (n : Nat) (s : DF × Int × Int) : Option EAJ := loopS (fun s => qs_B0 n s.1 s.2.1 s.2.2) n s
def qs (n : Nat) (a : DF) : Option Int :=
 (qs_W0 n (a, ((lenI a), 0))).bind fun b =>
 Sum.rec (fun c =>
 some c) (fun d =>
 some (-1)) b
def qf (n : Nat) (a : DF) : Option Bool :=
 (qs n a).bind fun b =>
 some (decide (b ≥ 0))
def qaz (n : Nat) (a : DJ) (b : DK) (c : DL) (g : DA) (d : DF) : Option Bool :=
 bif (decide ((lenI a) ≤ 8)) then
 (qg n a (lenI a)).bind fun e =>
 bif (!e.1) then
 bif (decide ((lenI b) ≥ 1)) then
 bif (decide ((lenI b) ≤ 8)) then
 (qn n b e.2).bind fun f =>
 bif (!f.1) then
 bif (decide ((lenI c) ≤ 8)) then
 (qd n c f.2).bind fun h =>
 bif (!h.1) then
 bif (decide ((lenI g) ≤ 16)) then
 bif (decide ((lenI d) ≤ 16)) then
 (qf n d).bind fun i =>
 some (!i)
 else
 some false
 else
 some false
 else
 some false
 else
 some false
 else
 some false
 else
 some false
 else
 some false
 else
 some false
 else
 some false
def qk (n : Nat) (b : Int) : Option DA :=
 (qcf n (cvtI .u64 b)).bind fun a =>
 bif (Nat.ble (List.length a) 4294967296) then
 some a
 else none
def qb (n : Nat) (c : Int) (a : DA) : Option DA :=
 (qcf n (cvtI .u64 c)).bind fun b =>
 bif (Nat.ble (List.length (a ++ b)) 4294967296) then
 some (a ++ b)
 else none
def qcb (n : Nat) (c d : Int) : Option DA :=
 (qcf n (cvtI .u64 (maxI c 0))).bind fun a =>
 (qcf n (cvtI .u64 (maxI d 0))).bind fun b =>
 bif (Nat.ble (List.length (a ++ b)) 4294967296) then
 some (a ++ b)
 else none
def qj_B0 (n : Nat) (c : DC) (d a : Int) (b : DA) : Option ((EAK × DA) ⊕ DA) :=
 bif (decide (a < d)) then
 (getI c a).bind fun e =>
 (qcb n e.1 e.2).bind fun f =>
 bif (Nat.ble (List.length (b ++ f)) 4294967296) then
 some (Sum.inl ((c, (d, (addI .i64 a 1))), (b ++ f)))
 else none
 else
 some (Sum.inr b)
def qj_W0 (n : Nat) (s : EAK × DA) : Option DA := loopS (fun s => qj_B0 n s.1.1 s.1.2.1 s.1.2.2 s.2) n s
def qj (n : Nat) (a : DC) (b : DA) : Option DA :=
 (qb n (lenI a) b).bind fun c =>
 (qj_W0 n ((a, ((lenI a), 0)), c)).bind fun d =>
 some d
def qae_B0 (n : Nat) (b : DJ) (c a : Int) (d : DA) : Option (((DJ × Int × Int) × DA) ⊕ DA) :=
 bif (decide (a < c)) then
 (getI b a).bind fun e =>
 (qj n e d).bind fun f =>
 some (Sum.inl ((b, (c, (addI .i64 a 1))), f))
 else
 some (Sum.inr d)
def qae_W0 (n : Nat) (s : (DJ × Int × Int) × DA) : Option DA := loopS (fun s => qae_B0 n s.1.1 s.1.2.1 s.1.2.2 s.2) n s
def qae (n : Nat) (a : DJ) (d : DK) (e : DL) (f : DA) (g : DF) : Option DA :=
 (qk n (lenI a)).bind fun b =>
 (qae_W0 n ((a, ((lenI a), 0)), b)).bind fun c =>
 some c
def qt_B2 (n : Nat) (d : DK) (e f : Int) (g : DE) (h a : Int) (b : DA) : Option (((DK × Int × Int × DE × Int × Int) × DA) ⊕ (EAI × DA)) :=
 bif (decide (a < h)) then
 (getI g a).bind fun c =>
 (qcd n c.1 c.2.1 c.2.2).bind fun i =>
 bif (Nat.ble (List.length (b ++ i)) 4294967296) then
 some (Sum.inl ((d, (e, (f, (g, (h, (addI .i64 a 1)))))), (b ++ i)))
 else none
 else
 some (Sum.inr ((d, (e, f)), b))
def qt_W2 (n : Nat) (s : (DK × Int × Int × DE × Int × Int) × DA) : Option (EAI × DA) := loopS (fun s => qt_B2 n s.1.1 s.1.2.1 s.1.2.2.1 s.1.2.2.2.1 s.1.2.2.2.2.1 s.1.2.2.2.2.2 s.2) n s
def qt_B0 (n : Nat) (d : DK) (e c : Int) (f : DA) : Option ((EAI × DA) ⊕ DA) :=
 bif (decide (c < e)) then
 (getI d c).bind fun a =>
 (qj n a.1 f).bind fun g =>
 (qcb n a.2.1 a.2.2.1).bind fun h =>
 bif (Nat.ble (List.length (g ++ h)) 4294967296) then
 (qj n a.2.2.2.1 (g ++ h)).bind fun i =>
 (qb n (lenI a.2.2.2.2) i).bind fun j =>
 (qt_W2 n ((d, (e, (c, (a.2.2.2.2, ((lenI a.2.2.2.2), 0))))), j)).bind fun b =>
 some (Sum.inl ((b.1.1, (b.1.2.1, (addI .i64 b.1.2.2 1))), b.2))
 else none
 else
 some (Sum.inr f)
def qt_W0 (n : Nat) (s : EAI × DA) : Option DA := loopS (fun s => qt_B0 n s.1.1 s.1.2.1 s.1.2.2 s.2) n s
def qt (n : Nat) (d : DJ) (a : DK) (e : DL) (f : DA) (g : DF) : Option DA :=
 (qk n (lenI a)).bind fun b =>
 (qt_W0 n ((a, ((lenI a), 0)), b)).bind fun c =>
 some c
def qab_B0 (n : Nat) (c : DL) (d a : Int) (e : DA) : Option ((EAN × DA) ⊕ DA) :=
 bif (decide (a < d)) then
 (getI c a).bind fun b =>
 (qj n b.1 e).bind fun f =>
 (qcb n b.2.1 b.2.2).bind fun g =>
 bif (Nat.ble (List.length (f ++ g)) 4294967296) then
 some (Sum.inl ((c, (d, (addI .i64 a 1))), (f ++ g)))
 else none
 else
 some (Sum.inr e)
def qab_W0 (n : Nat) (s : EAN × DA) : Option DA := loopS (fun s => qab_B0 n s.1.1 s.1.2.1 s.1.2.2 s.2) n s
def qab (n : Nat) (d : DJ) (e : DK) (a : DL) (f : DA) (g : DF) : Option DA :=
 (qk n (lenI a)).bind fun b =>
 (qab_W0 n ((a, ((lenI a), 0)), b)).bind fun c =>
 some c
def qbw_B0 (n : Nat) (b d a : Int) (c : DA) : Option ((EAM × DA) ⊕ DA) :=
 bif (decide (a < d)) then
 bif (decide (0 ≤ (mulI .i64 8 a))) then
 bif (Nat.ble (List.length (c ++ ((cvtI .u8 (shrI .u64 b (mulI .i64 8 a))) :: ([] : DD)))) 4294967296) then
 some (Sum.inl ((b, (d, (addI .i64 a 1))), (c ++ ((cvtI .u8 (shrI .u64 b (mulI .i64 8 a))) :: ([] : DD)))))
 else none
 else none
 else
 some (Sum.inr c)
def qbw_W0 (n : Nat) (s : EAM × DA) : Option DA := loopS (fun s => qbw_B0 n s.1.1 s.1.2.1 s.1.2.2 s.2) n s
def qbw (n : Nat) (a b : Int) : Option DA :=
 (qbw_W0 n ((a, ((minI (maxI b 0) 8), 0)), ([] : DD))).bind fun c =>
 some c
def qy_B0 (n : Nat) (c : DA) (d a : Int) (b : DA) : Option (((DA × Int × Int) × DA) ⊕ DA) :=
 bif (decide (a < d)) then
 (getI c a).bind fun f =>
 (qbw n f 8).bind fun e =>
 bif (Nat.ble (List.length (b ++ e)) 4294967296) then
 some (Sum.inl ((c, (d, (addI .i64 a 1))), (b ++ e)))
 else none
 else
 some (Sum.inr b)
def qy_W0 (n : Nat) (s : (DA × Int × Int) × DA) : Option DA := loopS (fun s => qy_B0 n s.1.1 s.1.2.1 s.1.2.2 s.2) n s
def qy (n : Nat) (d : DJ) (e : DK) (f : DL) (a : DA) (g : DF) : Option DA :=
 (qk n (lenI a)).bind fun b =>
 (qy_W0 n ((a, ((lenI a), 0)), b)).bind fun c =>
 some c
def qau_B0 (n : Nat) (c : DF) (d a : Int) (e : DA) : Option (((DF × Int × Int) × DA) ⊕ DA) :=
 bif (decide (a < d)) then
 (getI c a).bind fun b =>
 (qb n (lenS b) e).bind fun f =>
 bif (Nat.ble (List.length (f ++ (bytesInts b))) 4294967296) then
 some (Sum.inl ((c, (d, (addI .i64 a 1))), (f ++ (bytesInts b))))
 else none
 else
 some (Sum.inr e)
def qau_W0 (n : Nat) (s : (DF × Int × Int) × DA) : Option DA := loopS (fun s => qau_B0 n s.1.1 s.1.2.1 s.1.2.2 s.2) n s
def qau (n : Nat) (d : DJ) (e : DK) (f : DL) (g : DA) (a : DF) : Option DA :=
 (qk n (lenI a)).bind fun b =>
 (qau_W0 n ((a, ((lenI a), 0)), b)).bind fun c =>
 some c
def qca_B0 (n : Nat) (e : DM) (f b : Int) (a : DA) : Option (((DM × Int × Int) × DA) ⊕ DA) :=
 bif (decide (b < f)) then
 (getI e b).bind fun c =>
 (qcf n (cvtI .u64 (lenI c))).bind fun d =>
 bif (Nat.ble (List.length (a ++ d)) 4294967296) then
 bif (Nat.ble (List.length ((a ++ d) ++ c)) 4294967296) then
 some (Sum.inl ((e, (f, (addI .i64 b 1))), ((a ++ d) ++ c)))
 else none
 else none
 else
 some (Sum.inr a)
def qca_W0 (n : Nat) (s : (DM × Int × Int) × DA) : Option DA := loopS (fun s => qca_B0 n s.1.1 s.1.2.1 s.1.2.2 s.2) n s
def qca (n : Nat) (a : DM) : Option DA :=
 (qcf n (cvtI .u64 (lenI a))).bind fun b =>
 (qca_W0 n ((a, ((lenI a), 0)), b)).bind fun c =>
 some c
def qag (n : Nat) (a : DJ) (b : DK) (c : DL) (d : DA) (e : DF) : Option (DA × Int) :=
 (qaz n a b c d e).bind fun f =>
 bif (!f) then
 some (([] : DD), 2)
 else
 (qae n a b c d e).bind fun g =>
 (qt n a b c d e).bind fun h =>
 (qab n a b c d e).bind fun i =>
 (qy n a b c d e).bind fun j =>
 (qau n a b c d e).bind fun k =>
 (qca n (g :: (h :: (i :: (j :: (k :: ([] : DM))))))).bind fun l =>
 some (l, 0)
def qbq (n : Nat) (a b : Int) : Option Bool :=
 some (decide (a < b))
def qbh (n : Nat) (c : DJ) (h : DK) (i : DL) (j : DA) (k : DF) (d : DC) (ab ac : Int) (e : DC) (f : DE) (b a g : Int) : Option Bool :=
 bif (b == 0) then
 (qbq n a (lenI j)).bind fun l =>
 some l
 else
 bif (b == 1) then
 (qbq n a (lenI k)).bind fun m =>
 some m
 else
 bif (b == 3) then
 (qbq n a (addI .i64 (lenI d) (lenI e))).bind fun o =>
 some o
 else
 bif (b == 4) then
 (qbq n a (addI .i64 (lenI d) (lenI e))).bind fun p =>
 some p
 else
 bif (b == 23) then
 (qbq n a (lenI f)).bind fun q =>
 some q
 else
 bif (b == 24) then
 (qbq n a (lenI f)).bind fun r =>
 some r
 else
 bif (b == 25) then
 (qbq n a (lenI h)).bind fun s =>
 some s
 else
 bif (b == 27) then
 (qbq n a (lenI i)).bind fun t =>
 some t
 else
 bif (b == 28) then
 (qbq n a (lenI c)).bind fun u =>
 some u
 else
 bif (b == 29) then
 (qbq n a (lenI c)).bind fun v =>
 bif v then
 (getI c a).bind fun w =>
 (qbq n g (lenI w)).bind fun x =>
 some x
 else
 some false
 else
 bif (b == 30) then
 (qbq n a (lenI c)).bind fun y =>
 bif y then
 (getI c a).bind fun z =>
 (qbq n g (lenI z)).bind fun aa =>
 some aa
 else
 some false
 else
 some true
def qay (n : Nat) (k l m : Int) (a : DJ) (b : DK) (c : DL) (d : DA) (e : DF) (f : DC) (g h : Int) (i : DC) (j : DE) : Option (Bool × EAF × DC × Int × Int × DC × DE) :=
 (qbh n a b c d e f g h i j k l m).bind fun o =>
 some ((!o), ((a, (b, (c, (d, e)))), (f, (g, (h, (i, j))))))
def qo_B0 (n : Nat) (d : DE) (e b : Int) (f : DJ) (g : DK) (h : DL) (i : DA) (j : DF) (k : DC) (l m : Int) (o : DC) (p : DE) : Option (((DE × Int × Int) × EAF × DC × Int × Int × DC × DE) ⊕ (EAX ⊕ (EAF × DC × Int × Int × DC × DE))) :=
 bif (decide (b < e)) then
 (getI d b).bind fun c =>
 (qay n c.1 c.2.1 c.2.2 f g h i j k l m o p).bind fun a =>
 bif a.1 then
 some (Sum.inr (Sum.inl (b, ((a.2.1.1, (a.2.1.2.1, (a.2.1.2.2.1, (a.2.1.2.2.2.1, a.2.1.2.2.2.2)))), (a.2.2.1, (a.2.2.2.1, (a.2.2.2.2.1, (a.2.2.2.2.2.1, a.2.2.2.2.2.2))))))))
 else
 some (Sum.inl ((d, (e, (addI .i64 b 1))), ((a.2.1.1, (a.2.1.2.1, (a.2.1.2.2.1, (a.2.1.2.2.2.1, a.2.1.2.2.2.2)))), (a.2.2.1, (a.2.2.2.1, (a.2.2.2.2.1, (a.2.2.2.2.2.1, a.2.2.2.2.2.2)))))))
 else
 some (Sum.inr (Sum.inr ((f, (g, (h, (i, j)))), (k, (l, (m, (o, p)))))))
def qo_W0 (n : Nat) (s : (DE × Int × Int) × EAF × DC × Int × Int × DC × DE) : Option (EAX ⊕ (EAF × DC × Int × Int × DC × DE)) := loopS (fun s => qo_B0 n s.1.1 s.1.2.1 s.1.2.2 s.2.1.1 s.2.1.2.1 s.2.1.2.2.1 s.2.1.2.2.2.1 s.2.1.2.2.2.2 s.2.2.1 s.2.2.2.1 s.2.2.2.2.1 s.2.2.2.2.2.1 s.2.2.2.2.2.2) n s
def qo (n : Nat) (c : DE) (d : DJ) (e : DK) (f : DL) (g : DA) (h : DF) (i : DC) (j k : Int) (l : DC) (m : DE) : Option EAX :=
 (qo_W0 n ((c, ((lenI c), 0)), ((d, (e, (f, (g, h)))), (i, (j, (k, (l, m))))))).bind fun o =>
 Sum.rec (fun a =>
 some (a.1, ((a.2.1.1, (a.2.1.2.1, (a.2.1.2.2.1, (a.2.1.2.2.2.1, a.2.1.2.2.2.2)))), (a.2.2.1, (a.2.2.2.1, (a.2.2.2.2.1, (a.2.2.2.2.2.1, a.2.2.2.2.2.2))))))) (fun b =>
 some ((-1), ((b.1.1, (b.1.2.1, (b.1.2.2.1, (b.1.2.2.2.1, b.1.2.2.2.2)))), (b.2.1, (b.2.2.1, (b.2.2.2.1, (b.2.2.2.2.1, b.2.2.2.2.2))))))) o
def qc (n : Nat) (b : DE) (c : DJ) (d : DK) (e : DL) (f : DA) (g : DF) (h : DC) (i j : Int) (k : DC) (l : DE) : Option (Bool × EAF × DC × Int × Int × DC × DE) :=
 (qo n b c d e f g h i j k l).bind fun a =>
 some ((decide (a.1 ≥ 0)), ((a.2.1.1, (a.2.1.2.1, (a.2.1.2.2.1, (a.2.1.2.2.2.1, a.2.1.2.2.2.2)))), (a.2.2.1, (a.2.2.2.1, (a.2.2.2.2.1, (a.2.2.2.2.2.1, a.2.2.2.2.2.2))))))
def qbd (n : Nat) (a b : Int) : Option Bool :=
 some (a == 5)
def qu_B0 (n : Nat) (b : DC) (c a : Int) : Option (EAK ⊕ EAJ) :=
 bif (decide (a < c)) then
 (getI b a).bind fun d =>
 (qbd n d.1 d.2).bind fun e =>
 bif e then
 some (Sum.inr (Sum.inl a))
 else
 some (Sum.inl (b, (c, (addI .i64 a 1))))
 else
 some (Sum.inr (Sum.inr ()))
def qu_W0 (n : Nat) (s : DC × Int × Int) : Option EAJ := loopS (fun s => qu_B0 n s.1 s.2.1 s.2.2) n s
def qu (n : Nat) (a : DC) : Option Int :=
 (qu_W0 n (a, ((lenI a), 0))).bind fun b =>
 Sum.rec (fun c =>
 some c) (fun d =>
 some (-1)) b
def qe (n : Nat) (a : DC) : Option Bool :=
 (qu n a).bind fun b =>
 some (decide (b ≥ 0))
def qbn_B0 (n : Nat) (d : DK) (e c : Int) (f : DJ) (g : DK) (h : DL) (i : DA) (j : DF) : Option ((EAI × DJ × DK × DL × DA × DF) ⊕ (EAX ⊕ EAF)) :=
 bif (decide (c < e)) then
 (getI d c).bind fun b =>
 (qc n b.2.2.2.2 f g h i j b.1 b.2.1 b.2.2.1 b.2.2.2.1 b.2.2.2.2).bind fun a =>
 bif a.1 then
 some (Sum.inr (Sum.inl (1, ((a.2.1.1, (a.2.1.2.1, (a.2.1.2.2.1, (a.2.1.2.2.2.1, a.2.1.2.2.2.2)))), (a.2.2.1, (a.2.2.2.1, (a.2.2.2.2.1, (a.2.2.2.2.2.1, a.2.2.2.2.2.2))))))))
 else
 (qe n a.2.2.2.2.2.1).bind fun k =>
 bif k then
 some (Sum.inr (Sum.inl (1, ((a.2.1.1, (a.2.1.2.1, (a.2.1.2.2.1, (a.2.1.2.2.2.1, a.2.1.2.2.2.2)))), (a.2.2.1, (a.2.2.2.1, (a.2.2.2.2.1, (a.2.2.2.2.2.1, a.2.2.2.2.2.2))))))))
 else
 some (Sum.inl ((d, (e, (addI .i64 c 1))), (a.2.1.1, (a.2.1.2.1, (a.2.1.2.2.1, (a.2.1.2.2.2.1, a.2.1.2.2.2.2))))))
 else
 some (Sum.inr (Sum.inr (f, (g, (h, (i, j))))))
def qbn_W0 (n : Nat) (s : EAI × DJ × DK × DL × DA × DF) : Option (EAX ⊕ EAF) := loopS (fun s => qbn_B0 n s.1.1 s.1.2.1 s.1.2.2 s.2.1 s.2.2.1 s.2.2.2.1 s.2.2.2.2.1 s.2.2.2.2.2) n s
def qby (n : Nat) (a b : Int) : Option Bool :=
 bif (a == 1) then
 some true
 else
 some (a == 5)
def qai (n : Nat) (a b : Int) : Option Bool :=
 (qby n a b).bind fun c =>
 some (!c)
def qr_B0 (n : Nat) (b : DC) (c a : Int) : Option (EAK ⊕ EAJ) :=
 bif (decide (a < c)) then
 (getI b a).bind fun d =>
 (qai n d.1 d.2).bind fun e =>
 bif e then
 some (Sum.inr (Sum.inl a))
 else
 some (Sum.inl (b, (c, (addI .i64 a 1))))
 else
 some (Sum.inr (Sum.inr ()))
def qr_W0 (n : Nat) (s : DC × Int × Int) : Option EAJ := loopS (fun s => qr_B0 n s.1 s.2.1 s.2.2) n s
def qr (n : Nat) (a : DC) : Option Int :=
 (qr_W0 n (a, ((lenI a), 0))).bind fun b =>
 Sum.rec (fun c =>
 some c) (fun d =>
 some (-1)) b
def qh (n : Nat) (a : DC) : Option Bool :=
 (qr n a).bind fun b =>
 some (decide (b ≥ 0))
def qax (n : Nat) (a : DC) (b c : Int) : Option Bool :=
 (qby n b c).bind fun d =>
 bif (!d) then
 some true
 else
 (qh n a).bind fun e =>
 some e
def qi_B0 (n : Nat) (c : DL) (d a : Int) : Option (EAN ⊕ EAJ) :=
 bif (decide (a < d)) then
 (getI c a).bind fun b =>
 (qax n b.1 b.2.1 b.2.2).bind fun e =>
 bif e then
 some (Sum.inr (Sum.inl a))
 else
 some (Sum.inl (c, (d, (addI .i64 a 1))))
 else
 some (Sum.inr (Sum.inr ()))
def qi_W0 (n : Nat) (s : DL × Int × Int) : Option EAJ := loopS (fun s => qi_B0 n s.1 s.2.1 s.2.2) n s
def qi (n : Nat) (a : DL) : Option Int :=
 (qi_W0 n (a, ((lenI a), 0))).bind fun b =>
 Sum.rec (fun c =>
 some c) (fun d =>
 some (-1)) b
def qa (n : Nat) (a : DL) : Option Bool :=
 (qi n a).bind fun b =>
 some (decide (b ≥ 0))
def qbn (n : Nat) (b : DJ) (a : DK) (c : DL) (d : DA) (e : DF) : Option Int :=
 (qag n b a c d e).bind fun f =>
 bif (f.2 != 0) then
 some f.2
 else
 (qbn_W0 n ((a, ((lenI a), 0)), (b, (a, (c, (d, e)))))).bind fun g =>
 Sum.rec (fun h =>
 some h.1) (fun i =>
 (qa n i.2.2.1).bind fun j =>
 bif j then
 some 1
 else
 some 0) g
def qbz (n : Nat) (b : DJ) (a : DK) (c : DL) (d : DA) (e : DF) : Option Bool :=
 (qbn n b a c d e).bind fun f =>
 bif (f == 0) then
 (getI a 0).bind fun g =>
 bif ((lenI g.1) == 0) then
 (getI a 0).bind fun h =>
 some (h.2.1 == 1)
 else
 some false
 else
 some false
def qbb (n : Nat) (d : DJ) (c : DK) (e : DL) (f : DA) (g : DF) (b : Int) : Option ((DI × Int × Int × Int × Int) × Int) :=
 (qbz n d c e f g).bind fun h =>
 bif (!h) then
 some (([], (0, (0, (0, 0)))), 1)
 else
 bif (decide (b < 0)) then
 some (([], (0, (0, (0, 0)))), 1)
 else
 bif (decide (b > 65536)) then
 some (([], (0, (0, (0, 0)))), 1)
 else
 (getI c 0).bind fun a =>
 bif ((((lenI a.2.2.2.1) == (lenI a.2.2.2.1)) && (decide (0 ≤ (lenI a.2.2.2.1)))) && (Nat.ble (Int.toNat (lenI a.2.2.2.1)) 4294967296)) then
 some ((((0, (0, ((List.replicate (Int.toNat (lenI a.2.2.2.1)) 0), ([] : DD)))) :: ([] : List EAD)), (b, (0, (0, 0)))), 0)
 else none
def qaq (n : Nat) (a : DA) : Option DA :=
 bif (List.isEmpty a) then
 Go.Ab.amb (
 some ([] : DD)) (
 bif (Nat.ble (List.length a) 4294967296) then
 some a
 else none)
 else
 bif (Nat.ble (List.length a) 4294967296) then
 some a
 else none
def qav (n : Nat) (a : DA) : Option (EAC × DA) :=
 bif ((decide (0 ≤ (lenI a))) && (decide ((lenI a) ≤ (((List.length a) : Nat) : Int)))) then
 bif ((decide (0 ≤ (lenI a))) && (decide ((lenI a) ≤ (((Int.toNat (lenI a)) : Nat) : Int)))) then
 some ((0, ((Int.toNat (lenI a)) - 0)), a)
 else none
 else none
def qaj_B0 (n : Nat) (h : DI) (i f : Int) (a : DI) : Option (((DI × Int × Int) × DI) ⊕ DI) :=
 bif (decide (f < i)) then
 (getI h f).bind fun b =>
 (qaq n b.2.2.1).bind fun j =>
 (qav n j).bind fun c =>
 (qaq n b.2.2.2).bind fun k =>
 (qav n k).bind fun e =>
 bif (Nat.ble (List.length (a ++ ((b.1, (b.2.1, (([] : DD), ([] : DD)))) :: ([] : List EAD)))) 4294967296) then
 bif (Nat.beq c.1.1 0) then
 bif (Nat.ble c.1.2 (List.length c.2)) then
 ((a ++ ((b.1, (b.2.1, (([] : DD), ([] : DD)))) :: ([] : List EAD)))[(List.length a)]?).bind fun d =>
 bif (Nat.beq e.1.1 0) then
 bif (Nat.ble e.1.2 (List.length e.2)) then
 ((List.set (a ++ ((b.1, (b.2.1, (([] : DD), ([] : DD)))) :: ([] : List EAD))) (List.length a) (d.1, (d.2.1, ((List.take c.1.2 c.2), d.2.2.2))))[(List.length a)]?).bind fun g =>
 some (Sum.inl ((h, (i, (addI .i64 f 1))), (List.set (List.set (a ++ ((b.1, (b.2.1, (([] : DD), ([] : DD)))) :: ([] : List EAD))) (List.length a) (d.1, (d.2.1, ((List.take c.1.2 c.2), d.2.2.2)))) (List.length a) (g.1, (g.2.1, (g.2.2.1, (List.take e.1.2 e.2)))))))
 else none
 else none
 else none
 else none
 else none
 else
 some (Sum.inr a)
def qaj_W0 (n : Nat) (s : (DI × Int × Int) × DI) : Option DI := loopS (fun s => qaj_B0 n s.1.1 s.1.2.1 s.1.2.2 s.2) n s
def qaj (n : Nat) (a : DI) : Option DI :=
 (qaj_W0 n ((a, ((lenI a), 0)), ([] : List EAD))).bind fun b =>
 some b
def qbp (n : Nat) (a : DI) : Option (EAC × DI) :=
 bif ((decide (0 ≤ (lenI a))) && (decide ((lenI a) ≤ (((List.length a) : Nat) : Int)))) then
 bif ((decide (0 ≤ (lenI a))) && (decide ((lenI a) ≤ (((Int.toNat (lenI a)) : Nat) : Int)))) then
 some ((0, ((Int.toNat (lenI a)) - 0)), a)
 else none
 else none
def qbo (n : Nat) (a : DA) : Option DA :=
 bif (List.isEmpty a) then
 Go.Ab.amb (
 some ([] : DD)) (
 bif (Nat.ble (List.length a) 4294967296) then
 some a
 else none)
 else
 bif (Nat.ble (List.length a) 4294967296) then
 some a
 else none
def qbt (n : Nat) (a : DA) : Option (EAC × DA) :=
 bif ((decide (0 ≤ (lenI a))) && (decide ((lenI a) ≤ (((List.length a) : Nat) : Int)))) then
 bif ((decide (0 ≤ (lenI a))) && (decide ((lenI a) ≤ (((Int.toNat (lenI a)) : Nat) : Int)))) then
 some ((0, ((Int.toNat (lenI a)) - 0)), a)
 else none
 else none
def qbf (n : Nat) (c d : Int) (e f : DA) : Option ((Int × Int × EAC × Nat × Nat) × DA × DA) :=
 (qaq n e).bind fun g =>
 (qav n g).bind fun a =>
 (qbo n f).bind fun h =>
 (qbt n h).bind fun b =>
 some ((c, (d, ((a.1.1, a.1.2), (b.1.1, b.1.2)))), (a.2, b.2))
def qbv_B0 (n : Nat) (g : DI) (h e : Int) (b : DI) : Option (((DI × Int × Int) × DI) ⊕ DI) :=
 bif (decide (e < h)) then
 (getI g e).bind fun d =>
 (qbf n d.1 d.2.1 d.2.2.1 d.2.2.2).bind fun a =>
 bif (Nat.ble (List.length (b ++ ((a.1.1, (a.1.2.1, (([] : DD), ([] : DD)))) :: ([] : List EAD)))) 4294967296) then
 bif (Nat.beq a.1.2.2.1.1 0) then
 bif (Nat.ble a.1.2.2.1.2 (List.length a.2.1)) then
 ((b ++ ((a.1.1, (a.1.2.1, (([] : DD), ([] : DD)))) :: ([] : List EAD)))[(List.length b)]?).bind fun c =>
 bif (Nat.beq a.1.2.2.2.1 0) then
 bif (Nat.ble a.1.2.2.2.2 (List.length a.2.2)) then
 ((List.set (b ++ ((a.1.1, (a.1.2.1, (([] : DD), ([] : DD)))) :: ([] : List EAD))) (List.length b) (c.1, (c.2.1, ((List.take a.1.2.2.1.2 a.2.1), c.2.2.2))))[(List.length b)]?).bind fun f =>
 some (Sum.inl ((g, (h, (addI .i64 e 1))), (List.set (List.set (b ++ ((a.1.1, (a.1.2.1, (([] : DD), ([] : DD)))) :: ([] : List EAD))) (List.length b) (c.1, (c.2.1, ((List.take a.1.2.2.1.2 a.2.1), c.2.2.2)))) (List.length b) (f.1, (f.2.1, (f.2.2.1, (List.take a.1.2.2.2.2 a.2.2)))))))
 else none
 else none
 else none
 else none
 else none
 else
 some (Sum.inr b)
def qbv_W0 (n : Nat) (s : (DI × Int × Int) × DI) : Option DI := loopS (fun s => qbv_B0 n s.1.1 s.1.2.1 s.1.2.2 s.2) n s
def qbv (n : Nat) (a : DI) : Option DI :=
 (qbv_W0 n ((a, ((lenI a), 0)), ([] : List EAD))).bind fun b =>
 some b
def qce (n : Nat) (a : DI) : Option (EAC × DI) :=
 bif ((decide (0 ≤ (lenI a))) && (decide ((lenI a) ≤ (((List.length a) : Nat) : Int)))) then
 bif ((decide (0 ≤ (lenI a))) && (decide ((lenI a) ≤ (((Int.toNat (lenI a)) : Nat) : Int)))) then
 some ((0, ((Int.toNat (lenI a)) - 0)), a)
 else none
 else none
def qas (n : Nat) (a : DB) : Option DB :=
 bif (List.isEmpty a) then
 Go.Ab.amb (
 some ([] : List EAP)) (
 bif (Nat.ble (List.length a) 4294967296) then
 some a
 else none)
 else
 bif (Nat.ble (List.length a) 4294967296) then
 some a
 else none
def qbg (n : Nat) (a : DB) : Option (EAC × DB) :=
 bif ((decide (0 ≤ (lenI a))) && (decide ((lenI a) ≤ (((List.length a) : Nat) : Int)))) then
 bif ((decide (0 ≤ (lenI a))) && (decide ((lenI a) ≤ (((Int.toNat (lenI a)) : Nat) : Int)))) then
 some ((0, ((Int.toNat (lenI a)) - 0)), a)
 else none
 else none
def qbe (n : Nat) (d e : DI) (f : DB) (g h i j : Int) : Option (EAQ × DI × DI × DB) :=
 (qaj n d).bind fun k =>
 (qbp n k).bind fun a =>
 (qbv n e).bind fun l =>
 (qce n l).bind fun b =>
 (qas n f).bind fun m =>
 (qbg n m).bind fun c =>
 some (((a.1.1, a.1.2), ((b.1.1, b.1.2), ((c.1.1, c.1.2), (g, (h, (i, j)))))), (a.2, (b.2, c.2)))
def qap_B0 (n : Nat) (b c : DA) (d a : Int) : Option ((DA × DA × Int × Int) ⊕ EAG) :=
 bif (decide (a < d)) then
 (getI b a).bind fun e =>
 (getI c a).bind fun f =>
 bif (e != f) then
 some (Sum.inr (Sum.inl false))
 else
 some (Sum.inl (b, (c, (d, (addI .i64 a 1)))))
 else
 some (Sum.inr (Sum.inr ()))
def qap_W0 (n : Nat) (s : DA × DA × Int × Int) : Option EAG := loopS (fun s => qap_B0 n s.1 s.2.1 s.2.2.1 s.2.2.2) n s
def qap (n : Nat) (a b : DA) : Option Bool :=
 bif ((lenI a) != (lenI b)) then
 some false
 else
 (qap_W0 n (a, (b, ((lenI a), 0)))).bind fun c =>
 Sum.rec (fun d =>
 some d) (fun e =>
 some true) c
def qz (n : Nat) (a b : Int) (c d : DA) (e f : Int) (g h : DA) : Option Bool :=
 bif (a == e) then
 bif (b == f) then
 (qap n c g).bind fun i =>
 bif i then
 (qap n d h).bind fun j =>
 some j
 else
 some false
 else
 some false
 else
 some false
def qv_B0 (n : Nat) (d e : DI) (f c : Int) : Option ((DI × DI × Int × Int) ⊕ (EAY ⊕ Unit)) :=
 bif (decide (c < f)) then
 (getI e c).bind fun a =>
 (getI d c).bind fun b =>
 (qz n a.1 a.2.1 a.2.2.1 a.2.2.2 b.1 b.2.1 b.2.2.1 b.2.2.2).bind fun g =>
 bif (!g) then
 some (Sum.inr (Sum.inl (false, ((a.1, (a.2.1, (a.2.2.1, a.2.2.2))), (b.1, (b.2.1, (b.2.2.1, b.2.2.2)))))))
 else
 some (Sum.inl (d, (e, (f, (addI .i64 c 1)))))
 else
 some (Sum.inr (Sum.inr ()))
def qv_W0 (n : Nat) (s : DI × DI × Int × Int) : Option (EAY ⊕ Unit) := loopS (fun s => qv_B0 n s.1 s.2.1 s.2.2.1 s.2.2.2) n s
def qv (n : Nat) (a b : DI) : Option Bool :=
 bif ((lenI a) != (lenI b)) then
 some false
 else
 (qv_W0 n (b, (a, ((lenI a), 0)))).bind fun c =>
 Sum.rec (fun d =>
 some d.1) (fun e =>
 some true) c
def qbl_B0 (n : Nat) (b c : DA) (d a : Int) : Option ((DA × DA × Int × Int) ⊕ EAG) :=
 bif (decide (a < d)) then
 (getI b a).bind fun e =>
 (getI c a).bind fun f =>
 bif (e != f) then
 some (Sum.inr (Sum.inl false))
 else
 some (Sum.inl (b, (c, (d, (addI .i64 a 1)))))
 else
 some (Sum.inr (Sum.inr ()))
def qbl_W0 (n : Nat) (s : DA × DA × Int × Int) : Option EAG := loopS (fun s => qbl_B0 n s.1 s.2.1 s.2.2.1 s.2.2.2) n s
def qbl (n : Nat) (a b : DA) : Option Bool :=
 bif ((lenI a) != (lenI b)) then
 some false
 else
 (qbl_W0 n (a, (b, ((lenI a), 0)))).bind fun c =>
 Sum.rec (fun d =>
 some d) (fun e =>
 some true) c
def qbi (n : Nat) (a b : Int) (c d : DA) (e f : Int) (g h : DA) : Option Bool :=
 bif (a == e) then
 bif (b == f) then
 (qap n c g).bind fun i =>
 bif i then
 (qbl n d h).bind fun j =>
 some j
 else
 some false
 else
 some false
 else
 some false
def qaf_B0 (n : Nat) (d e : DI) (f c : Int) : Option ((DI × DI × Int × Int) ⊕ (EAY ⊕ Unit)) :=
 bif (decide (c < f)) then
 (getI e c).bind fun a =>
 (getI d c).bind fun b =>
 (qbi n a.1 a.2.1 a.2.2.1 a.2.2.2 b.1 b.2.1 b.2.2.1 b.2.2.2).bind fun g =>
 bif (!g) then
 some (Sum.inr (Sum.inl (false, ((a.1, (a.2.1, (a.2.2.1, a.2.2.2))), (b.1, (b.2.1, (b.2.2.1, b.2.2.2)))))))
 else
 some (Sum.inl (d, (e, (f, (addI .i64 c 1)))))
 else
 some (Sum.inr (Sum.inr ()))
def qaf_W0 (n : Nat) (s : DI × DI × Int × Int) : Option (EAY ⊕ Unit) := loopS (fun s => qaf_B0 n s.1 s.2.1 s.2.2.1 s.2.2.2) n s
def qaf (n : Nat) (a b : DI) : Option Bool :=
 bif ((lenI a) != (lenI b)) then
 some false
 else
 (qaf_W0 n (b, (a, ((lenI a), 0)))).bind fun c =>
 Sum.rec (fun d =>
 some d.1) (fun e =>
 some true) c
def qak_B0 (n : Nat) (d e : DB) (f a : Int) : Option ((DB × DB × Int × Int) ⊕ EAG) :=
 bif (decide (a < f)) then
 (getI d a).bind fun b =>
 (getI e a).bind fun c =>
 bif (!((b.1 == c.1) && ((b.2.1 == c.2.1) && (b.2.2 == c.2.2)))) then
 some (Sum.inr (Sum.inl false))
 else
 some (Sum.inl (d, (e, (f, (addI .i64 a 1)))))
 else
 some (Sum.inr (Sum.inr ()))
def qak_W0 (n : Nat) (s : DB × DB × Int × Int) : Option EAG := loopS (fun s => qak_B0 n s.1 s.2.1 s.2.2.1 s.2.2.2) n s
def qak (n : Nat) (a b : DB) : Option Bool :=
 bif ((lenI a) != (lenI b)) then
 some false
 else
 (qak_W0 n (a, (b, ((lenI a), 0)))).bind fun c =>
 Sum.rec (fun d =>
 some d) (fun e =>
 some true) c
def qbs (n : Nat) (a b : DI) (c : DB) (d e f g : Int) (h i : DI) (j : DB) (k l m o : Int) : Option Bool :=
 bif (d == k) then
 bif (e == l) then
 bif (f == m) then
 bif (g == o) then
 (qv n a h).bind fun p =>
 bif p then
 (qaf n b i).bind fun q =>
 bif q then
 (qak n c j).bind fun r =>
 some r
 else
 some false
 else
 some false
 else
 some false
 else
 some false
 else
 some false
 else
 some false
def qah (n : Nat) : Option Bool :=
 (qbb n ([] : List (List EAE)) ((([] : List EAE), (1, (0, (((1, 0) :: ([] : List EAE)), ((0, (0, 0)) :: ((26, (0, 0)) :: ([] : List EAM))))))) :: ([] : List ((List EAE) × Int × Int × (List EAE) × List EAM))) ([] : List ((List EAE) × Int × Int)) (7 :: ([] : DD)) ([] : DG) 100).bind fun b =>
 bif (b.2 == 0) then
 bif ((lenI b.1.1) == 1) then
 (getI b.1.1 0).bind fun c =>
 bif ((lenI c.2.2.1) == 1) then
 bif (b.1.2.1 == 100) then
 (qbe n b.1.1 ([] : List EAD) ([] : List EAP) b.1.2.1 b.1.2.2.1 b.1.2.2.2.1 b.1.2.2.2.2).bind fun a =>
 bif (Nat.beq a.1.1.1 0) then
 bif (Nat.ble a.1.1.2 (List.length a.2.1)) then
 bif (Nat.beq a.1.2.1.1 0) then
 bif (Nat.ble a.1.2.1.2 (List.length a.2.2.1)) then
 bif (Nat.ble (a.1.2.2.1.1 + a.1.2.2.1.2) (List.length a.2.2.2)) then
 (qbs n b.1.1 ([] : List EAD) ([] : List EAP) b.1.2.1 b.1.2.2.1 b.1.2.2.2.1 b.1.2.2.2.2 (List.take a.1.1.2 a.2.1) (List.take a.1.2.1.2 a.2.2.1) (List.take a.1.2.2.1.2 (List.drop a.1.2.2.1.1 a.2.2.2)) a.1.2.2.2.1 a.1.2.2.2.2.1 a.1.2.2.2.2.2.1 a.1.2.2.2.2.2.2).bind fun d =>
 some d
 else none
 else none
 else none
 else none
 else none
 else
 some false
 else
 some false
 else
 some false
 else
 some false
def qbr_B0q0 (n : Nat) (c : Int) (b d : DI) (e : DB) (f g h i j k l m o p q r : Int) (s : DB) : Option ((EAT ⊕ EAR) ⊕ (EAV ⊕ EAS)) :=
 bif (decide (c < (lenI b))) then
 (getI b c).bind fun a =>
 bif (Nat.ble (List.length a.2.2.1) 4294967296) then
 bif (Nat.ble (List.length a.2.2.2) 4294967296) then
 bif (Nat.ble (List.length ((a.1, (a.2.1, (a.2.2.1, a.2.2.2))) :: ([] : List EAD))) 4294967296) then
 some (Sum.inl (Sum.inr ((addI .i64 c 1), ((b, (d, (e, (f, (g, (h, i)))))), ((j, (k, (l, m))), ((o, (p, (q, r))), (((a.1, (a.2.1, (a.2.2.1, a.2.2.2))) :: ([] : List EAD)), s)))))))
 else none
 else none
 else none
 else
 some (Sum.inr (Sum.inl ((b, (d, (e, (f, (g, (h, i)))))), ((j, (k, (l, m))), ((o, (p, (q, r))), s)))))
def qbr_B0q1 (n : Nat) (c : Int) (b e : DI) (f : DB) (g h i j k l m o p q r s : Int) (d : DI) (t : DB) : Option ((EAT ⊕ EAR) ⊕ (EAV ⊕ EAS)) :=
 bif (decide (c < (lenI b))) then
 (getI b c).bind fun a =>
 bif (Nat.ble (List.length a.2.2.1) 4294967296) then
 bif (Nat.ble (List.length a.2.2.2) 4294967296) then
 bif (Nat.ble (List.length (d ++ ((a.1, (a.2.1, (a.2.2.1, a.2.2.2))) :: ([] : List EAD)))) 4294967296) then
 some (Sum.inl (Sum.inr ((addI .i64 c 1), ((b, (e, (f, (g, (h, (i, j)))))), ((k, (l, (m, o))), ((p, (q, (r, s))), ((d ++ ((a.1, (a.2.1, (a.2.2.1, a.2.2.2))) :: ([] : List EAD))), t)))))))
 else none
 else none
 else none
 else
 some (Sum.inr (Sum.inr ((b, (e, (f, (g, (h, (i, j)))))), ((k, (l, (m, o))), ((p, (q, (r, s))), (d, t))))))
def qbr_M0 (n : Nat) (s : EAT ⊕ EAR) : Option ((EAT ⊕ EAR) ⊕ (EAV ⊕ EAS)) := Sum.rec (fun b => qbr_B0q0 n b.1 b.2.1.1 b.2.1.2.1 b.2.1.2.2.1 b.2.1.2.2.2.1 b.2.1.2.2.2.2.1 b.2.1.2.2.2.2.2.1 b.2.1.2.2.2.2.2.2 b.2.2.1.1 b.2.2.1.2.1 b.2.2.1.2.2.1 b.2.2.1.2.2.2 b.2.2.2.1.1 b.2.2.2.1.2.1 b.2.2.2.1.2.2.1 b.2.2.2.1.2.2.2 b.2.2.2.2) (fun a => qbr_B0q1 n a.1 a.2.1.1 a.2.1.2.1 a.2.1.2.2.1 a.2.1.2.2.2.1 a.2.1.2.2.2.2.1 a.2.1.2.2.2.2.2.1 a.2.1.2.2.2.2.2.2 a.2.2.1.1 a.2.2.1.2.1 a.2.2.1.2.2.1 a.2.2.1.2.2.2 a.2.2.2.1.1 a.2.2.2.1.2.1 a.2.2.2.1.2.2.1 a.2.2.2.1.2.2.2 a.2.2.2.2.1 a.2.2.2.2.2) s
def qbr_W0 (n : Nat) (s : EAT ⊕ EAR) : Option (EAV ⊕ EAS) := loopS (qbr_M0 n) n s
def qbr_B2x1q0 (n : Nat) (c : Int) (d b : DI) (e : DB) (f g h i j k l m o p q r : Int) (s : DB) : Option ((EAT ⊕ EBG) ⊕ (EAV ⊕ (EAS ⊕ (EAS ⊕ EAW)))) :=
 bif (decide (c < (lenI b))) then
 (getI b c).bind fun a =>
 bif (Nat.ble (List.length a.2.2.1) 4294967296) then
 bif (Nat.ble (List.length a.2.2.2) 4294967296) then
 bif (Nat.ble (List.length ((a.1, (a.2.1, (a.2.2.1, a.2.2.2))) :: ([] : List EAD))) 4294967296) then
 some (Sum.inl (Sum.inr (Sum.inl ((addI .i64 c 1), ((d, (b, (e, (f, (g, (h, i)))))), ((j, (k, (l, m))), ((o, (p, (q, r))), (((a.1, (a.2.1, (a.2.2.1, a.2.2.2))) :: ([] : List EAD)), s))))))))
 else none
 else none
 else none
 else
 some (Sum.inr (Sum.inl ((d, (b, (e, (f, (g, (h, i)))))), ((j, (k, (l, m))), ((o, (p, (q, r))), s)))))
def qbr_B2x1q1 (n : Nat) (c : Int) (e b : DI) (f : DB) (g h i j k l m o p q r s : Int) (d : DI) (t : DB) : Option ((EAT ⊕ EBG) ⊕ (EAV ⊕ (EAS ⊕ (EAS ⊕ EAW)))) :=
 bif (decide (c < (lenI b))) then
 (getI b c).bind fun a =>
 bif (Nat.ble (List.length a.2.2.1) 4294967296) then
 bif (Nat.ble (List.length a.2.2.2) 4294967296) then
 bif (Nat.ble (List.length (d ++ ((a.1, (a.2.1, (a.2.2.1, a.2.2.2))) :: ([] : List EAD)))) 4294967296) then
 some (Sum.inl (Sum.inr (Sum.inl ((addI .i64 c 1), ((e, (b, (f, (g, (h, (i, j)))))), ((k, (l, (m, o))), ((p, (q, (r, s))), ((d ++ ((a.1, (a.2.1, (a.2.2.1, a.2.2.2))) :: ([] : List EAD))), t))))))))
 else none
 else none
 else none
 else
 some (Sum.inr (Sum.inr (Sum.inl ((e, (b, (f, (g, (h, (i, j)))))), ((k, (l, (m, o))), ((p, (q, (r, s))), (d, t)))))))
def qbr_B2x1q2 (n : Nat) (c : Int) (d b : DI) (e : DB) (f g h i j k l m o p q r : Int) (s : DI) (t : DB) : Option ((EAT ⊕ EBG) ⊕ (EAV ⊕ (EAS ⊕ (EAS ⊕ EAW)))) :=
 bif (decide (c < (lenI b))) then
 (getI b c).bind fun a =>
 bif (Nat.ble (List.length a.2.2.1) 4294967296) then
 bif (Nat.ble (List.length a.2.2.2) 4294967296) then
 bif (Nat.ble (List.length ((a.1, (a.2.1, (a.2.2.1, a.2.2.2))) :: ([] : List EAD))) 4294967296) then
 some (Sum.inl (Sum.inr (Sum.inr (Sum.inr ((addI .i64 c 1), ((d, (b, (e, (f, (g, (h, i)))))), ((j, (k, (l, m))), ((o, (p, (q, r))), (s, (((a.1, (a.2.1, (a.2.2.1, a.2.2.2))) :: ([] : List EAD)), t))))))))))
 else none
 else none
 else none
 else
 some (Sum.inr (Sum.inr (Sum.inr (Sum.inl ((d, (b, (e, (f, (g, (h, i)))))), ((j, (k, (l, m))), ((o, (p, (q, r))), (s, t))))))))
def qbr_B2x1q3 (n : Nat) (c : Int) (e b : DI) (f : DB) (g h i j k l m o p q r s : Int) (t d : DI) (u : DB) : Option ((EAT ⊕ EBG) ⊕ (EAV ⊕ (EAS ⊕ (EAS ⊕ EAW)))) :=
 bif (decide (c < (lenI b))) then
 (getI b c).bind fun a =>
 bif (Nat.ble (List.length a.2.2.1) 4294967296) then
 bif (Nat.ble (List.length a.2.2.2) 4294967296) then
 bif (Nat.ble (List.length (d ++ ((a.1, (a.2.1, (a.2.2.1, a.2.2.2))) :: ([] : List EAD)))) 4294967296) then
 some (Sum.inl (Sum.inr (Sum.inr (Sum.inr ((addI .i64 c 1), ((e, (b, (f, (g, (h, (i, j)))))), ((k, (l, (m, o))), ((p, (q, (r, s))), (t, ((d ++ ((a.1, (a.2.1, (a.2.2.1, a.2.2.2))) :: ([] : List EAD))), u))))))))))
 else none
 else none
 else none
 else
 some (Sum.inr (Sum.inr (Sum.inr (Sum.inr ((e, (b, (f, (g, (h, (i, j)))))), ((k, (l, (m, o))), ((p, (q, (r, s))), (t, (d, u)))))))))
def qbr_M2x1 (n : Nat) (s : EAT ⊕ EBG) : Option ((EAT ⊕ EBG) ⊕ (EAV ⊕ (EAS ⊕ (EAS ⊕ EAW)))) := Sum.rec (fun d => qbr_B2x1q0 n d.1 d.2.1.1 d.2.1.2.1 d.2.1.2.2.1 d.2.1.2.2.2.1 d.2.1.2.2.2.2.1 d.2.1.2.2.2.2.2.1 d.2.1.2.2.2.2.2.2 d.2.2.1.1 d.2.2.1.2.1 d.2.2.1.2.2.1 d.2.2.1.2.2.2 d.2.2.2.1.1 d.2.2.2.1.2.1 d.2.2.2.1.2.2.1 d.2.2.2.1.2.2.2 d.2.2.2.2) (fun e => Sum.rec (fun b => qbr_B2x1q1 n b.1 b.2.1.1 b.2.1.2.1 b.2.1.2.2.1 b.2.1.2.2.2.1 b.2.1.2.2.2.2.1 b.2.1.2.2.2.2.2.1 b.2.1.2.2.2.2.2.2 b.2.2.1.1 b.2.2.1.2.1 b.2.2.1.2.2.1 b.2.2.1.2.2.2 b.2.2.2.1.1 b.2.2.2.1.2.1 b.2.2.2.1.2.2.1 b.2.2.2.1.2.2.2 b.2.2.2.2.1 b.2.2.2.2.2) (fun f => Sum.rec (fun c => qbr_B2x1q2 n c.1 c.2.1.1 c.2.1.2.1 c.2.1.2.2.1 c.2.1.2.2.2.1 c.2.1.2.2.2.2.1 c.2.1.2.2.2.2.2.1 c.2.1.2.2.2.2.2.2 c.2.2.1.1 c.2.2.1.2.1 c.2.2.1.2.2.1 c.2.2.1.2.2.2 c.2.2.2.1.1 c.2.2.2.1.2.1 c.2.2.2.1.2.2.1 c.2.2.2.1.2.2.2 c.2.2.2.2.1 c.2.2.2.2.2) (fun a => qbr_B2x1q3 n a.1 a.2.1.1 a.2.1.2.1 a.2.1.2.2.1 a.2.1.2.2.2.1 a.2.1.2.2.2.2.1 a.2.1.2.2.2.2.2.1 a.2.1.2.2.2.2.2.2 a.2.2.1.1 a.2.2.1.2.1 a.2.2.1.2.2.1 a.2.2.1.2.2.2 a.2.2.2.1.1 a.2.2.2.1.2.1 a.2.2.2.1.2.2.1 a.2.2.2.1.2.2.2 a.2.2.2.2.1 a.2.2.2.2.2.1 a.2.2.2.2.2.2) f) e) s
def qbr_W2x1 (n : Nat) (s : EAT ⊕ EBG) : Option (EAV ⊕ (EAS ⊕ (EAS ⊕ EAW))) := loopS (qbr_M2x1 n) n s
def qbr (n : Nat) (q r : DI) (k : DB) (l m o p : Int) : Option EAA :=
 bif (Nat.ble (List.length k) 4294967296) then
 (qbr_W0 n (Sum.inl (0, ((q, (r, (k, (l, (m, (o, p)))))), ((0, (0, (0, 0))), ((l, (m, (o, p))), k)))))).bind fun s =>
 Sum.rec (fun b =>
 (qbr_W2x1 n (Sum.inl (0, ((b.1.1, (b.1.2.1, (b.1.2.2.1, (b.1.2.2.2.1, (b.1.2.2.2.2.1, (b.1.2.2.2.2.2.1, b.1.2.2.2.2.2.2)))))), ((b.2.1.1, (b.2.1.2.1, (b.2.1.2.2.1, b.2.1.2.2.2))), ((b.2.2.1.1, (b.2.2.1.2.1, (b.2.2.1.2.2.1, b.2.2.1.2.2.2))), b.2.2.2)))))).bind fun t =>
 Sum.rec (fun i =>
 some ([], ([], (i.2.2.2, (i.2.2.1.1, (i.2.2.1.2.1, (i.2.2.1.2.2.1, i.2.2.1.2.2.2))))))) (fun u =>
 Sum.rec (fun e =>
 some ([], (e.2.2.2.1, (e.2.2.2.2, (e.2.2.1.1, (e.2.2.1.2.1, (e.2.2.1.2.2.1, e.2.2.1.2.2.2))))))) (fun v =>
 Sum.rec (fun f =>
 some (f.2.2.2.1, ([], (f.2.2.2.2, (f.2.2.1.1, (f.2.2.1.2.1, (f.2.2.1.2.2.1, f.2.2.1.2.2.2))))))) (fun c =>
 some (c.2.2.2.1, (c.2.2.2.2.1, (c.2.2.2.2.2, (c.2.2.1.1, (c.2.2.1.2.1, (c.2.2.1.2.2.1, c.2.2.1.2.2.2))))))) v) u) t) (fun a =>
 (qbr_W2x1 n (Sum.inr (Sum.inr (Sum.inl (0, ((a.1.1, (a.1.2.1, (a.1.2.2.1, (a.1.2.2.2.1, (a.1.2.2.2.2.1, (a.1.2.2.2.2.2.1, a.1.2.2.2.2.2.2)))))), ((a.2.1.1, (a.2.1.2.1, (a.2.1.2.2.1, a.2.1.2.2.2))), ((a.2.2.1.1, (a.2.2.1.2.1, (a.2.2.1.2.2.1, a.2.2.1.2.2.2))), (a.2.2.2.1, a.2.2.2.2))))))))).bind fun w =>
 Sum.rec (fun j =>
 some ([], ([], (j.2.2.2, (j.2.2.1.1, (j.2.2.1.2.1, (j.2.2.1.2.2.1, j.2.2.1.2.2.2))))))) (fun x =>
 Sum.rec (fun g =>
 some ([], (g.2.2.2.1, (g.2.2.2.2, (g.2.2.1.1, (g.2.2.1.2.1, (g.2.2.1.2.2.1, g.2.2.1.2.2.2))))))) (fun y =>
 Sum.rec (fun h =>
 some (h.2.2.2.1, ([], (h.2.2.2.2, (h.2.2.1.1, (h.2.2.1.2.1, (h.2.2.1.2.2.1, h.2.2.1.2.2.2))))))) (fun d =>
 some (d.2.2.2.1, (d.2.2.2.2.1, (d.2.2.2.2.2, (d.2.2.1.1, (d.2.2.1.2.1, (d.2.2.1.2.2.1, d.2.2.1.2.2.2))))))) y) x) w) s
 else none
def qaw_B0 (n : Nat) (b c : DA) (a : Int) : Option ((DA × DA × Int) ⊕ EAG) :=
 bif (decide (a < (lenI b))) then
 (getI b a).bind fun d =>
 (getI c a).bind fun e =>
 bif (d != e) then
 some (Sum.inr (Sum.inl false))
 else
 some (Sum.inl (b, (c, (addI .i64 a 1))))
 else
 some (Sum.inr (Sum.inr ()))
def qaw_W0 (n : Nat) (s : DA × DA × Int) : Option EAG := loopS (fun s => qaw_B0 n s.1 s.2.1 s.2.2) n s
def qaw (n : Nat) (a b : DA) : Option Bool :=
 bif ((lenI a) != (lenI b)) then
 some false
 else
 (qaw_W0 n (a, (b, 0))).bind fun c =>
 Sum.rec (fun d =>
 some d) (fun e =>
 some true) c
def qam_B0 (n : Nat) (r : Int) (c e : DI) (f : DB) (g h i j : Int) (d k : DI) (l : DB) (m o p q : Int) : Option ((Int × EAA × DI × DI × DB × Int × Int × Int × Int) ⊕ ((Bool × EAA × EAA × EAD × Int × Int × DA × DA) ⊕ (EAA × DI × DI × DB × Int × Int × Int × Int))) :=
 bif (decide (r < (lenI c))) then
 (getI c r).bind fun a =>
 (getI d r).bind fun b =>
 bif (a.1 != b.1) then
 some (Sum.inr (Sum.inl (false, ((c, (e, (f, (g, (h, (i, j)))))), ((d, (k, (l, (m, (o, (p, q)))))), ((a.1, (a.2.1, (a.2.2.1, a.2.2.2))), (b.1, (b.2.1, (b.2.2.1, b.2.2.2)))))))))
 else
 bif (a.2.1 != b.2.1) then
 some (Sum.inr (Sum.inl (false, ((c, (e, (f, (g, (h, (i, j)))))), ((d, (k, (l, (m, (o, (p, q)))))), ((a.1, (a.2.1, (a.2.2.1, a.2.2.2))), (b.1, (b.2.1, (b.2.2.1, b.2.2.2)))))))))
 else
 (qaw n a.2.2.1 b.2.2.1).bind fun s =>
 bif (!s) then
 some (Sum.inr (Sum.inl (false, ((c, (e, (f, (g, (h, (i, j)))))), ((d, (k, (l, (m, (o, (p, q)))))), ((a.1, (a.2.1, (a.2.2.1, a.2.2.2))), (b.1, (b.2.1, (b.2.2.1, b.2.2.2)))))))))
 else
 (qaw n a.2.2.2 b.2.2.2).bind fun t =>
 bif (!t) then
 some (Sum.inr (Sum.inl (false, ((c, (e, (f, (g, (h, (i, j)))))), ((d, (k, (l, (m, (o, (p, q)))))), ((a.1, (a.2.1, (a.2.2.1, a.2.2.2))), (b.1, (b.2.1, (b.2.2.1, b.2.2.2)))))))))
 else
 some (Sum.inl ((addI .i64 r 1), ((c, (e, (f, (g, (h, (i, j)))))), (d, (k, (l, (m, (o, (p, q)))))))))
 else
 some (Sum.inr (Sum.inr ((c, (e, (f, (g, (h, (i, j)))))), (d, (k, (l, (m, (o, (p, q)))))))))
def qam_W0 (n : Nat) (s : Int × EAA × DI × DI × DB × Int × Int × Int × Int) : Option ((Bool × EAA × EAA × EAD × Int × Int × DA × DA) ⊕ (EAA × DI × DI × DB × Int × Int × Int × Int)) := loopS (fun s => qam_B0 n s.1 s.2.1.1 s.2.1.2.1 s.2.1.2.2.1 s.2.1.2.2.2.1 s.2.1.2.2.2.2.1 s.2.1.2.2.2.2.2.1 s.2.1.2.2.2.2.2.2 s.2.2.1 s.2.2.2.1 s.2.2.2.2.1 s.2.2.2.2.2.1 s.2.2.2.2.2.2.1 s.2.2.2.2.2.2.2.1 s.2.2.2.2.2.2.2.2) n s
def qbk_B0 (n : Nat) (b c : DA) (a : Int) : Option ((DA × DA × Int) ⊕ EAG) :=
 bif (decide (a < (lenI b))) then
 (getI b a).bind fun d =>
 (getI c a).bind fun e =>
 bif (d != e) then
 some (Sum.inr (Sum.inl false))
 else
 some (Sum.inl (b, (c, (addI .i64 a 1))))
 else
 some (Sum.inr (Sum.inr ()))
def qbk_W0 (n : Nat) (s : DA × DA × Int) : Option EAG := loopS (fun s => qbk_B0 n s.1 s.2.1 s.2.2) n s
def qbk (n : Nat) (a b : DA) : Option Bool :=
 bif ((lenI a) != (lenI b)) then
 some false
 else
 (qbk_W0 n (a, (b, 0))).bind fun c =>
 Sum.rec (fun d =>
 some d) (fun e =>
 some true) c
def qbm_B0 (n : Nat) (b c : DI) (a : Int) : Option ((DI × DI × Int) ⊕ EAG) :=
 bif (decide (a < (lenI b))) then
 (getI b a).bind fun d =>
 (getI c a).bind fun e =>
 bif (d.1 != e.1) then
 some (Sum.inr (Sum.inl false))
 else
 (getI b a).bind fun f =>
 (getI c a).bind fun g =>
 bif (f.2.1 != g.2.1) then
 some (Sum.inr (Sum.inl false))
 else
 (getI b a).bind fun h =>
 (getI c a).bind fun i =>
 (qaw n h.2.2.1 i.2.2.1).bind fun j =>
 bif (!j) then
 some (Sum.inr (Sum.inl false))
 else
 (getI b a).bind fun k =>
 (getI c a).bind fun l =>
 (qbk n k.2.2.2 l.2.2.2).bind fun m =>
 bif (!m) then
 some (Sum.inr (Sum.inl false))
 else
 some (Sum.inl (b, (c, (addI .i64 a 1))))
 else
 some (Sum.inr (Sum.inr ()))
def qbm_W0 (n : Nat) (s : DI × DI × Int) : Option EAG := loopS (fun s => qbm_B0 n s.1 s.2.1 s.2.2) n s
def qbm (n : Nat) (a b : DI) : Option Bool :=
 bif ((lenI a) != (lenI b)) then
 some false
 else
 (qbm_W0 n (a, (b, 0))).bind fun c =>
 Sum.rec (fun d =>
 some d) (fun e =>
 some true) c
def qbj_B0 (n : Nat) (b e : DB) (a : Int) : Option ((DB × DB × Int) ⊕ EAG) :=
 bif (decide (a < (lenI b))) then
 (getI b a).bind fun c =>
 (getI e a).bind fun d =>
 bif (!((c.1 == d.1) && ((c.2.1 == d.2.1) && (c.2.2 == d.2.2)))) then
 some (Sum.inr (Sum.inl false))
 else
 some (Sum.inl (b, (e, (addI .i64 a 1))))
 else
 some (Sum.inr (Sum.inr ()))
def qbj_W0 (n : Nat) (s : DB × DB × Int) : Option EAG := loopS (fun s => qbj_B0 n s.1 s.2.1 s.2.2) n s
def qbj (n : Nat) (a b : DB) : Option Bool :=
 bif ((lenI a) != (lenI b)) then
 some false
 else
 (qbj_W0 n (a, (b, 0))).bind fun c =>
 Sum.rec (fun d =>
 some d) (fun e =>
 some true) c
def qam (n : Nat) (b l : DI) (m : DB) (c d e f : Int) (g o : DI) (p : DB) (h i j k : Int) : Option Bool :=
 bif ((lenI b) != (lenI g)) then
 some false
 else
 bif (c != h) then
 some false
 else
 bif (d != i) then
 some false
 else
 bif (e != j) then
 some false
 else
 bif (f != k) then
 some false
 else
 (qam_W0 n (0, ((b, (l, (m, (c, (d, (e, f)))))), (g, (o, (p, (h, (i, (j, k))))))))).bind fun q =>
 Sum.rec (fun r =>
 some r.1) (fun a =>
 (qbm n a.1.2.1 a.2.2.1).bind fun s =>
 bif s then
 (qbj n a.1.2.2.1 a.2.2.2.1).bind fun t =>
 some t
 else
 some false) q
def law14StateCopies_B2 (n : Nat) (a c : Int) (i j : DI) (k : DB) (l m o p : Int) (q r : DI) (s : DB) (t u v w : Int) (b f g : Nat × Nat) (x y z aa : Int) (e m4 : DI) (m5 : DB) : Option (EBD ⊕ EBB) :=
 bif ((decide (0 ≤ a)) && (decide (a < ((b.2 : Nat) : Int)))) then
 (e[(b.1 + (Int.toNat a))]?).bind fun d =>
 bif (decide (c < (lenI d.2.2.1))) then
 bif ((decide (0 ≤ a)) && (decide (a < ((b.2 : Nat) : Int)))) then
 (e[(b.1 + (Int.toNat a))]?).bind fun ae =>
 bif (Nat.beq (b.1 + (Int.toNat a)) (b.1 + (Int.toNat a))) then
 bif ((decide (0 ≤ c)) && (decide (c < (((List.length d.2.2.1) : Nat) : Int)))) then
 (d.2.2.1[(Int.toNat c)]?).bind fun ad =>
 bif ((decide (0 ≤ c)) && (decide (c < (((List.length d.2.2.1) : Nat) : Int)))) then
 bif (Nat.ble ((Int.toNat c) + 1) (List.length d.2.2.1)) then
 (e[(b.1 + (Int.toNat a))]?).bind fun h =>
 some (Sum.inl ((a, (addI .i64 c 1)), ((i, (j, (k, (l, (m, (o, p)))))), ((q, (r, (s, (t, (u, (v, w)))))), (((b.1, b.2), ((f.1, f.2), ((g.1, g.2), (x, (y, (z, aa)))))), ((List.set e (b.1 + (Int.toNat a)) (h.1, (h.2.1, ((List.set d.2.2.1 (Int.toNat c) (addI .u64 ad 1)), h.2.2.2)))), (m4, m5)))))))
 else none
 else none
 else none
 else none
 else none
 else
 some (Sum.inr (a, ((i, (j, (k, (l, (m, (o, p)))))), ((q, (r, (s, (t, (u, (v, w)))))), (((b.1, b.2), ((f.1, f.2), ((g.1, g.2), (x, (y, (z, aa)))))), ((e, (b.1 + (Int.toNat a))), (m4, (m5, d.2.2.1))))))))
 else none
def law14StateCopies_W2 (n : Nat) (s : EAE × EAA × EAA × EAQ × DI × DI × DB) : Option EBB := loopS (fun s => law14StateCopies_B2 n s.1.1 s.1.2 s.2.1.1 s.2.1.2.1 s.2.1.2.2.1 s.2.1.2.2.2.1 s.2.1.2.2.2.2.1 s.2.1.2.2.2.2.2.1 s.2.1.2.2.2.2.2.2 s.2.2.1.1 s.2.2.1.2.1 s.2.2.1.2.2.1 s.2.2.1.2.2.2.1 s.2.2.1.2.2.2.2.1 s.2.2.1.2.2.2.2.2.1 s.2.2.1.2.2.2.2.2.2 s.2.2.2.1.1 s.2.2.2.1.2.1 s.2.2.2.1.2.2.1 s.2.2.2.1.2.2.2.1 s.2.2.2.1.2.2.2.2.1 s.2.2.2.1.2.2.2.2.2.1 s.2.2.2.1.2.2.2.2.2.2 s.2.2.2.2.1 s.2.2.2.2.2.1 s.2.2.2.2.2.2) n s
def law14StateCopies_B4 (n : Nat) (a c : Int) (i j : DI) (k : DB) (l m o p : Int) (q r : DI) (s : DB) (t u v w : Int) (b f g : Nat × Nat) (x y z aa : Int) (e m4 : DI) (m5 : DB) : Option (EBD ⊕ EBB) :=
 bif ((decide (0 ≤ a)) && (decide (a < ((b.2 : Nat) : Int)))) then
 (e[(b.1 + (Int.toNat a))]?).bind fun d =>
 bif (decide (c < (lenI d.2.2.2))) then
 bif ((decide (0 ≤ a)) && (decide (a < ((b.2 : Nat) : Int)))) then
 (e[(b.1 + (Int.toNat a))]?).bind fun ae =>
 bif (Nat.beq (b.1 + (Int.toNat a)) (b.1 + (Int.toNat a))) then
 bif ((decide (0 ≤ c)) && (decide (c < (((List.length d.2.2.2) : Nat) : Int)))) then
 (d.2.2.2[(Int.toNat c)]?).bind fun ad =>
 bif ((decide (0 ≤ c)) && (decide (c < (((List.length d.2.2.2) : Nat) : Int)))) then
 bif (Nat.ble ((Int.toNat c) + 1) (List.length d.2.2.2)) then
 (e[(b.1 + (Int.toNat a))]?).bind fun h =>
 some (Sum.inl ((a, (addI .i64 c 1)), ((i, (j, (k, (l, (m, (o, p)))))), ((q, (r, (s, (t, (u, (v, w)))))), (((b.1, b.2), ((f.1, f.2), ((g.1, g.2), (x, (y, (z, aa)))))), ((List.set e (b.1 + (Int.toNat a)) (h.1, (h.2.1, (h.2.2.1, (List.set d.2.2.2 (Int.toNat c) (addI .u64 ad 1)))))), (m4, m5)))))))
 else none
 else none
 else none
 else none
 else none
 else
 some (Sum.inr (a, ((i, (j, (k, (l, (m, (o, p)))))), ((q, (r, (s, (t, (u, (v, w)))))), (((b.1, b.2), ((f.1, f.2), ((g.1, g.2), (x, (y, (z, aa)))))), ((e, (b.1 + (Int.toNat a))), (m4, (m5, d.2.2.2))))))))
 else none
def law14StateCopies_W4 (n : Nat) (s : EAE × EAA × EAA × EAQ × DI × DI × DB) : Option EBB := loopS (fun s => law14StateCopies_B4 n s.1.1 s.1.2 s.2.1.1 s.2.1.2.1 s.2.1.2.2.1 s.2.1.2.2.2.1 s.2.1.2.2.2.2.1 s.2.1.2.2.2.2.2.1 s.2.1.2.2.2.2.2.2 s.2.2.1.1 s.2.2.1.2.1 s.2.2.1.2.2.1 s.2.2.1.2.2.2.1 s.2.2.1.2.2.2.2.1 s.2.2.1.2.2.2.2.2.1 s.2.2.1.2.2.2.2.2.2 s.2.2.2.1.1 s.2.2.2.1.2.1 s.2.2.2.1.2.2.1 s.2.2.2.1.2.2.2.1 s.2.2.2.1.2.2.2.2.1 s.2.2.2.1.2.2.2.2.2.1 s.2.2.2.1.2.2.2.2.2.2 s.2.2.2.2.1 s.2.2.2.2.2.1 s.2.2.2.2.2.2) n s
def law14StateCopies_B0 (n : Nat) (i : Int) (j k : DI) (l : DB) (m o p q : Int) (r s : DI) (t : DB) (u v w x : Int) (d e f : Nat × Nat) (y z aa ab : Int) (m3 m4 : DI) (m5 : DB) : Option (EBE ⊕ EBA) :=
 bif (decide (i < ((d.2 : Nat) : Int))) then
 (law14StateCopies_W2 n ((i, 0), ((j, (k, (l, (m, (o, (p, q)))))), ((r, (s, (t, (u, (v, (w, x)))))), (((d.1, d.2), ((e.1, e.2), ((f.1, f.2), (y, (z, (aa, ab)))))), (m3, (m4, m5))))))).bind fun b =>
 (b.2.2.2.2.1.1[b.2.2.2.2.1.2]?).bind fun g =>
 (law14StateCopies_W4 n ((b.1, 0), ((b.2.1.1, (b.2.1.2.1, (b.2.1.2.2.1, (b.2.1.2.2.2.1, (b.2.1.2.2.2.2.1, (b.2.1.2.2.2.2.2.1, b.2.1.2.2.2.2.2.2)))))), ((b.2.2.1.1, (b.2.2.1.2.1, (b.2.2.1.2.2.1, (b.2.2.1.2.2.2.1, (b.2.2.1.2.2.2.2.1, (b.2.2.1.2.2.2.2.2.1, b.2.2.1.2.2.2.2.2.2)))))), (((b.2.2.2.1.1.1, b.2.2.2.1.1.2), ((b.2.2.2.1.2.1.1, b.2.2.2.1.2.1.2), ((b.2.2.2.1.2.2.1.1, b.2.2.2.1.2.2.1.2), (b.2.2.2.1.2.2.2.1, (b.2.2.2.1.2.2.2.2.1, (b.2.2.2.1.2.2.2.2.2.1, b.2.2.2.1.2.2.2.2.2.2)))))), ((List.set b.2.2.2.2.1.1 b.2.2.2.2.1.2 (g.1, (g.2.1, (b.2.2.2.2.2.2.2, g.2.2.2)))), (b.2.2.2.2.2.1, b.2.2.2.2.2.2.1))))))).bind fun a =>
 bif ((decide (0 ≤ a.1)) && (decide (a.1 < ((a.2.2.2.1.1.2 : Nat) : Int)))) then
 (a.2.2.2.2.1.1[(a.2.2.2.1.1.1 + (Int.toNat a.1))]?).bind fun af =>
 bif ((decide (0 ≤ a.1)) && (decide (a.1 < ((a.2.2.2.1.1.2 : Nat) : Int)))) then
 (a.2.2.2.2.1.1[(a.2.2.2.1.1.1 + (Int.toNat a.1))]?).bind fun c =>
 ((List.set a.2.2.2.2.1.1 (a.2.2.2.1.1.1 + (Int.toNat a.1)) (c.1, ((addI .i64 af.2.1 1), (c.2.2.1, c.2.2.2))))[a.2.2.2.2.1.2]?).bind fun h =>
 some (Sum.inl ((addI .i64 a.1 1), ((a.2.1.1, (a.2.1.2.1, (a.2.1.2.2.1, (a.2.1.2.2.2.1, (a.2.1.2.2.2.2.1, (a.2.1.2.2.2.2.2.1, a.2.1.2.2.2.2.2.2)))))), ((a.2.2.1.1, (a.2.2.1.2.1, (a.2.2.1.2.2.1, (a.2.2.1.2.2.2.1, (a.2.2.1.2.2.2.2.1, (a.2.2.1.2.2.2.2.2.1, a.2.2.1.2.2.2.2.2.2)))))), (((a.2.2.2.1.1.1, a.2.2.2.1.1.2), ((a.2.2.2.1.2.1.1, a.2.2.2.1.2.1.2), ((a.2.2.2.1.2.2.1.1, a.2.2.2.1.2.2.1.2), (a.2.2.2.1.2.2.2.1, (a.2.2.2.1.2.2.2.2.1, (a.2.2.2.1.2.2.2.2.2.1, a.2.2.2.1.2.2.2.2.2.2)))))), ((List.set (List.set a.2.2.2.2.1.1 (a.2.2.2.1.1.1 + (Int.toNat a.1)) (c.1, ((addI .i64 af.2.1 1), (c.2.2.1, c.2.2.2)))) a.2.2.2.2.1.2 (h.1, (h.2.1, (h.2.2.1, a.2.2.2.2.2.2.2)))), (a.2.2.2.2.2.1, a.2.2.2.2.2.2.1)))))))
 else none
 else none
 else
 some (Sum.inr ((j, (k, (l, (m, (o, (p, q)))))), ((r, (s, (t, (u, (v, (w, x)))))), (((d.1, d.2), ((e.1, e.2), ((f.1, f.2), (y, (z, (aa, ab)))))), (m3, (m4, m5))))))
def law14StateCopies_W0 (n : Nat) (s : Int × EAA × EAA × EAQ × DI × DI × DB) : Option EBA := loopS (fun s => law14StateCopies_B0 n s.1 s.2.1.1 s.2.1.2.1 s.2.1.2.2.1 s.2.1.2.2.2.1 s.2.1.2.2.2.2.1 s.2.1.2.2.2.2.2.1 s.2.1.2.2.2.2.2.2 s.2.2.1.1 s.2.2.1.2.1 s.2.2.1.2.2.1 s.2.2.1.2.2.2.1 s.2.2.1.2.2.2.2.1 s.2.2.1.2.2.2.2.2.1 s.2.2.1.2.2.2.2.2.2 s.2.2.2.1.1 s.2.2.2.1.2.1 s.2.2.2.1.2.2.1 s.2.2.2.1.2.2.2.1 s.2.2.2.1.2.2.2.2.1 s.2.2.2.1.2.2.2.2.2.1 s.2.2.2.1.2.2.2.2.2.2 s.2.2.2.2.1 s.2.2.2.2.2.1 s.2.2.2.2.2.2) n s
def law14StateCopies_B8 (n : Nat) (a c : Int) (i j : DI) (k : DB) (l m o p : Int) (q r : DI) (s : DB) (t u v w : Int) (f b g : Nat × Nat) (x y z aa : Int) (m3 e : DI) (m5 : DB) : Option (EBD ⊕ EBC) :=
 bif ((decide (0 ≤ a)) && (decide (a < ((b.2 : Nat) : Int)))) then
 (e[(b.1 + (Int.toNat a))]?).bind fun d =>
 bif (decide (c < (lenI d.2.2.1))) then
 bif ((decide (0 ≤ a)) && (decide (a < ((b.2 : Nat) : Int)))) then
 (e[(b.1 + (Int.toNat a))]?).bind fun ae =>
 bif (Nat.beq (b.1 + (Int.toNat a)) (b.1 + (Int.toNat a))) then
 bif ((decide (0 ≤ c)) && (decide (c < (((List.length d.2.2.1) : Nat) : Int)))) then
 (d.2.2.1[(Int.toNat c)]?).bind fun ad =>
 bif ((decide (0 ≤ c)) && (decide (c < (((List.length d.2.2.1) : Nat) : Int)))) then
 bif (Nat.ble ((Int.toNat c) + 1) (List.length d.2.2.1)) then
 (e[(b.1 + (Int.toNat a))]?).bind fun h =>
 some (Sum.inl ((a, (addI .i64 c 1)), ((i, (j, (k, (l, (m, (o, p)))))), ((q, (r, (s, (t, (u, (v, w)))))), (((f.1, f.2), ((b.1, b.2), ((g.1, g.2), (x, (y, (z, aa)))))), (m3, ((List.set e (b.1 + (Int.toNat a)) (h.1, (h.2.1, ((List.set d.2.2.1 (Int.toNat c) (addI .u64 ad 1)), h.2.2.2)))), m5)))))))
 else none
 else none
 else none
 else none
 else none
 else
 some (Sum.inr (a, ((i, (j, (k, (l, (m, (o, p)))))), ((q, (r, (s, (t, (u, (v, w)))))), (((f.1, f.2), ((b.1, b.2), ((g.1, g.2), (x, (y, (z, aa)))))), (m3, ((e, (b.1 + (Int.toNat a))), (m5, d.2.2.1))))))))
 else none
def law14StateCopies_W8 (n : Nat) (s : EAE × EAA × EAA × EAQ × DI × DI × DB) : Option EBC := loopS (fun s => law14StateCopies_B8 n s.1.1 s.1.2 s.2.1.1 s.2.1.2.1 s.2.1.2.2.1 s.2.1.2.2.2.1 s.2.1.2.2.2.2.1 s.2.1.2.2.2.2.2.1 s.2.1.2.2.2.2.2.2 s.2.2.1.1 s.2.2.1.2.1 s.2.2.1.2.2.1 s.2.2.1.2.2.2.1 s.2.2.1.2.2.2.2.1 s.2.2.1.2.2.2.2.2.1 s.2.2.1.2.2.2.2.2.2 s.2.2.2.1.1 s.2.2.2.1.2.1 s.2.2.2.1.2.2.1 s.2.2.2.1.2.2.2.1 s.2.2.2.1.2.2.2.2.1 s.2.2.2.1.2.2.2.2.2.1 s.2.2.2.1.2.2.2.2.2.2 s.2.2.2.2.1 s.2.2.2.2.2.1 s.2.2.2.2.2.2) n s
def law14StateCopies_B10 (n : Nat) (a c : Int) (i j : DI) (k : DB) (l m o p : Int) (q r : DI) (s : DB) (t u v w : Int) (f b g : Nat × Nat) (x y z aa : Int) (m3 e : DI) (m5 : DB) : Option (EBD ⊕ EBC) :=
 bif ((decide (0 ≤ a)) && (decide (a < ((b.2 : Nat) : Int)))) then
 (e[(b.1 + (Int.toNat a))]?).bind fun d =>
 bif (decide (c < (lenI d.2.2.2))) then
 bif ((decide (0 ≤ a)) && (decide (a < ((b.2 : Nat) : Int)))) then
 (e[(b.1 + (Int.toNat a))]?).bind fun ae =>
 bif (Nat.beq (b.1 + (Int.toNat a)) (b.1 + (Int.toNat a))) then
 bif ((decide (0 ≤ c)) && (decide (c < (((List.length d.2.2.2) : Nat) : Int)))) then
 (d.2.2.2[(Int.toNat c)]?).bind fun ad =>
 bif ((decide (0 ≤ c)) && (decide (c < (((List.length d.2.2.2) : Nat) : Int)))) then
 bif (Nat.ble ((Int.toNat c) + 1) (List.length d.2.2.2)) then
 (e[(b.1 + (Int.toNat a))]?).bind fun h =>
 some (Sum.inl ((a, (addI .i64 c 1)), ((i, (j, (k, (l, (m, (o, p)))))), ((q, (r, (s, (t, (u, (v, w)))))), (((f.1, f.2), ((b.1, b.2), ((g.1, g.2), (x, (y, (z, aa)))))), (m3, ((List.set e (b.1 + (Int.toNat a)) (h.1, (h.2.1, (h.2.2.1, (List.set d.2.2.2 (Int.toNat c) (addI .u8 ad 1)))))), m5)))))))
 else none
 else none
 else none
 else none
 else none
 else
 some (Sum.inr (a, ((i, (j, (k, (l, (m, (o, p)))))), ((q, (r, (s, (t, (u, (v, w)))))), (((f.1, f.2), ((b.1, b.2), ((g.1, g.2), (x, (y, (z, aa)))))), (m3, ((e, (b.1 + (Int.toNat a))), (m5, d.2.2.2))))))))
 else none
def law14StateCopies_W10 (n : Nat) (s : EAE × EAA × EAA × EAQ × DI × DI × DB) : Option EBC := loopS (fun s => law14StateCopies_B10 n s.1.1 s.1.2 s.2.1.1 s.2.1.2.1 s.2.1.2.2.1 s.2.1.2.2.2.1 s.2.1.2.2.2.2.1 s.2.1.2.2.2.2.2.1 s.2.1.2.2.2.2.2.2 s.2.2.1.1 s.2.2.1.2.1 s.2.2.1.2.2.1 s.2.2.1.2.2.2.1 s.2.2.1.2.2.2.2.1 s.2.2.1.2.2.2.2.2.1 s.2.2.1.2.2.2.2.2.2 s.2.2.2.1.1 s.2.2.2.1.2.1 s.2.2.2.1.2.2.1 s.2.2.2.1.2.2.2.1 s.2.2.2.1.2.2.2.2.1 s.2.2.2.1.2.2.2.2.2.1 s.2.2.2.1.2.2.2.2.2.2 s.2.2.2.2.1 s.2.2.2.2.2.1 s.2.2.2.2.2.2) n s
def law14StateCopies_B6 (n : Nat) (i : Int) (j k : DI) (l : DB) (m o p q : Int) (r s : DI) (t : DB) (u v w x : Int) (e d f : Nat × Nat) (y z aa ab : Int) (m3 m4 : DI) (m5 : DB) : Option (EBE ⊕ EBA) :=
 bif (decide (i < ((d.2 : Nat) : Int))) then
 (law14StateCopies_W8 n ((i, 0), ((j, (k, (l, (m, (o, (p, q)))))), ((r, (s, (t, (u, (v, (w, x)))))), (((e.1, e.2), ((d.1, d.2), ((f.1, f.2), (y, (z, (aa, ab)))))), (m3, (m4, m5))))))).bind fun b =>
 (b.2.2.2.2.2.1.1[b.2.2.2.2.2.1.2]?).bind fun g =>
 (law14StateCopies_W10 n ((b.1, 0), ((b.2.1.1, (b.2.1.2.1, (b.2.1.2.2.1, (b.2.1.2.2.2.1, (b.2.1.2.2.2.2.1, (b.2.1.2.2.2.2.2.1, b.2.1.2.2.2.2.2.2)))))), ((b.2.2.1.1, (b.2.2.1.2.1, (b.2.2.1.2.2.1, (b.2.2.1.2.2.2.1, (b.2.2.1.2.2.2.2.1, (b.2.2.1.2.2.2.2.2.1, b.2.2.1.2.2.2.2.2.2)))))), (((b.2.2.2.1.1.1, b.2.2.2.1.1.2), ((b.2.2.2.1.2.1.1, b.2.2.2.1.2.1.2), ((b.2.2.2.1.2.2.1.1, b.2.2.2.1.2.2.1.2), (b.2.2.2.1.2.2.2.1, (b.2.2.2.1.2.2.2.2.1, (b.2.2.2.1.2.2.2.2.2.1, b.2.2.2.1.2.2.2.2.2.2)))))), (b.2.2.2.2.1, ((List.set b.2.2.2.2.2.1.1 b.2.2.2.2.2.1.2 (g.1, (g.2.1, (b.2.2.2.2.2.2.2, g.2.2.2)))), b.2.2.2.2.2.2.1))))))).bind fun a =>
 bif ((decide (0 ≤ a.1)) && (decide (a.1 < ((a.2.2.2.1.2.1.2 : Nat) : Int)))) then
 (a.2.2.2.2.2.1.1[(a.2.2.2.1.2.1.1 + (Int.toNat a.1))]?).bind fun af =>
 bif ((decide (0 ≤ a.1)) && (decide (a.1 < ((a.2.2.2.1.2.1.2 : Nat) : Int)))) then
 (a.2.2.2.2.2.1.1[(a.2.2.2.1.2.1.1 + (Int.toNat a.1))]?).bind fun c =>
 ((List.set a.2.2.2.2.2.1.1 (a.2.2.2.1.2.1.1 + (Int.toNat a.1)) ((addI .i64 af.1 1), (c.2.1, (c.2.2.1, c.2.2.2))))[a.2.2.2.2.2.1.2]?).bind fun h =>
 some (Sum.inl ((addI .i64 a.1 1), ((a.2.1.1, (a.2.1.2.1, (a.2.1.2.2.1, (a.2.1.2.2.2.1, (a.2.1.2.2.2.2.1, (a.2.1.2.2.2.2.2.1, a.2.1.2.2.2.2.2.2)))))), ((a.2.2.1.1, (a.2.2.1.2.1, (a.2.2.1.2.2.1, (a.2.2.1.2.2.2.1, (a.2.2.1.2.2.2.2.1, (a.2.2.1.2.2.2.2.2.1, a.2.2.1.2.2.2.2.2.2)))))), (((a.2.2.2.1.1.1, a.2.2.2.1.1.2), ((a.2.2.2.1.2.1.1, a.2.2.2.1.2.1.2), ((a.2.2.2.1.2.2.1.1, a.2.2.2.1.2.2.1.2), (a.2.2.2.1.2.2.2.1, (a.2.2.2.1.2.2.2.2.1, (a.2.2.2.1.2.2.2.2.2.1, a.2.2.2.1.2.2.2.2.2.2)))))), (a.2.2.2.2.1, ((List.set (List.set a.2.2.2.2.2.1.1 (a.2.2.2.1.2.1.1 + (Int.toNat a.1)) ((addI .i64 af.1 1), (c.2.1, (c.2.2.1, c.2.2.2)))) a.2.2.2.2.2.1.2 (h.1, (h.2.1, (h.2.2.1, a.2.2.2.2.2.2.2)))), a.2.2.2.2.2.2.1)))))))
 else none
 else none
 else
 some (Sum.inr ((j, (k, (l, (m, (o, (p, q)))))), ((r, (s, (t, (u, (v, (w, x)))))), (((e.1, e.2), ((d.1, d.2), ((f.1, f.2), (y, (z, (aa, ab)))))), (m3, (m4, m5))))))
def law14StateCopies_W6 (n : Nat) (s : Int × EAA × EAA × EAQ × DI × DI × DB) : Option EBA := loopS (fun s => law14StateCopies_B6 n s.1 s.2.1.1 s.2.1.2.1 s.2.1.2.2.1 s.2.1.2.2.2.1 s.2.1.2.2.2.2.1 s.2.1.2.2.2.2.2.1 s.2.1.2.2.2.2.2.2 s.2.2.1.1 s.2.2.1.2.1 s.2.2.1.2.2.1 s.2.2.1.2.2.2.1 s.2.2.1.2.2.2.2.1 s.2.2.1.2.2.2.2.2.1 s.2.2.1.2.2.2.2.2.2 s.2.2.2.1.1 s.2.2.2.1.2.1 s.2.2.2.1.2.2.1 s.2.2.2.1.2.2.2.1 s.2.2.2.1.2.2.2.2.1 s.2.2.2.1.2.2.2.2.2.1 s.2.2.2.1.2.2.2.2.2.2 s.2.2.2.2.1 s.2.2.2.2.2.1 s.2.2.2.2.2.2) n s
def law14StateCopies_B12 (n : Nat) (b : Int) (f g : DI) (h : DB) (i j k l : Int) (m o : DI) (p : DB) (q r s t : Int) (c d a : Nat × Nat) (u v w x : Int) (y z : DI) (e : DB) : Option (EBE ⊕ EBA) :=
 bif (decide (b < ((a.2 : Nat) : Int))) then
 bif ((decide (0 ≤ b)) && (decide (b < ((a.2 : Nat) : Int)))) then
 (e[(a.1 + (Int.toNat b))]?).bind fun ab =>
 bif ((decide (0 ≤ b)) && (decide (b < ((a.2 : Nat) : Int)))) then
 (e[(a.1 + (Int.toNat b))]?).bind fun aa =>
 some (Sum.inl ((addI .i64 b 1), ((f, (g, (h, (i, (j, (k, l)))))), ((m, (o, (p, (q, (r, (s, t)))))), (((c.1, c.2), ((d.1, d.2), ((a.1, a.2), (u, (v, (w, x)))))), (y, (z, (List.set e (a.1 + (Int.toNat b)) (aa.1, ((addI .u64 ab.2.1 1), aa.2.2))))))))))
 else none
 else none
 else
 some (Sum.inr ((f, (g, (h, (i, (j, (k, l)))))), ((m, (o, (p, (q, (r, (s, t)))))), (((c.1, c.2), ((d.1, d.2), ((a.1, a.2), (u, (v, (w, x)))))), (y, (z, e))))))
def law14StateCopies_W12 (n : Nat) (s : Int × EAA × EAA × EAQ × DI × DI × DB) : Option EBA := loopS (fun s => law14StateCopies_B12 n s.1 s.2.1.1 s.2.1.2.1 s.2.1.2.2.1 s.2.1.2.2.2.1 s.2.1.2.2.2.2.1 s.2.1.2.2.2.2.2.1 s.2.1.2.2.2.2.2.2 s.2.2.1.1 s.2.2.1.2.1 s.2.2.1.2.2.1 s.2.2.1.2.2.2.1 s.2.2.1.2.2.2.2.1 s.2.2.1.2.2.2.2.2.1 s.2.2.1.2.2.2.2.2.2 s.2.2.2.1.1 s.2.2.2.1.2.1 s.2.2.2.1.2.2.1 s.2.2.2.1.2.2.2.1 s.2.2.2.1.2.2.2.2.1 s.2.2.2.1.2.2.2.2.2.1 s.2.2.2.1.2.2.2.2.2.2 s.2.2.2.2.1 s.2.2.2.2.2.1 s.2.2.2.2.2.2) n s
def law14StateCopies (n : Nat) (e f : DI) (g : DB) (h i j k : Int) (m o : DI) (p : DB) (q r s t : Int) : Option Bool :=
 (qba n e f g h i j k).bind fun u =>
 bif (!u) then
 (qah n).bind fun v =>
 some v
 else
 (qba n m o p q r s t).bind fun w =>
 bif (!w) then
 (qah n).bind fun x =>
 some x
 else
 (qbr n e f g h i j k).bind fun l =>
 (qbe n e f g h i j k).bind fun a =>
 bif (Nat.beq a.1.1.1 0) then
 bif (Nat.ble a.1.1.2 (List.length a.2.1)) then
 bif (Nat.beq a.1.2.1.1 0) then
 bif (Nat.ble a.1.2.1.2 (List.length a.2.2.1)) then
 bif (Nat.ble (a.1.2.2.1.1 + a.1.2.2.1.2) (List.length a.2.2.2)) then
 (qbs n e f g h i j k (List.take a.1.1.2 a.2.1) (List.take a.1.2.1.2 a.2.2.1) (List.take a.1.2.2.1.2 (List.drop a.1.2.2.1.1 a.2.2.2)) a.1.2.2.2.1 a.1.2.2.2.2.1 a.1.2.2.2.2.2.1 a.1.2.2.2.2.2.2).bind fun y =>
 bif (!y) then
 some false
 else
 bif (Nat.beq a.1.1.1 0) then
 bif (Nat.ble a.1.1.2 (List.length a.2.1)) then
 bif (Nat.beq a.1.2.1.1 0) then
 bif (Nat.ble a.1.2.1.2 (List.length a.2.2.1)) then
 bif (Nat.ble (a.1.2.2.1.1 + a.1.2.2.1.2) (List.length a.2.2.2)) then
 (qam n e f g h i j k (List.take a.1.1.2 a.2.1) (List.take a.1.2.1.2 a.2.2.1) (List.take a.1.2.2.1.2 (List.drop a.1.2.2.1.1 a.2.2.2)) a.1.2.2.2.1 a.1.2.2.2.2.1 a.1.2.2.2.2.2.1 a.1.2.2.2.2.2.2).bind fun z =>
 bif (!z) then
 some false
 else
 (qbs n e f g h i j k m o p q r s t).bind fun aa =>
 (qam n e f g h i j k m o p q r s t).bind fun ab =>
 bif (!(aa == ab)) then
 some false
 else
 (law14StateCopies_W0 n (0, ((e, (f, (g, (h, (i, (j, k)))))), ((l.1, (l.2.1, (l.2.2.1, (l.2.2.2.1, (l.2.2.2.2.1, (l.2.2.2.2.2.1, l.2.2.2.2.2.2)))))), (((a.1.1.1, a.1.1.2), ((a.1.2.1.1, a.1.2.1.2), ((a.1.2.2.1.1, a.1.2.2.1.2), (a.1.2.2.2.1, (a.1.2.2.2.2.1, (a.1.2.2.2.2.2.1, a.1.2.2.2.2.2.2)))))), (a.2.1, (a.2.2.1, a.2.2.2))))))).bind fun b =>
 (law14StateCopies_W6 n (0, ((b.1.1, (b.1.2.1, (b.1.2.2.1, (b.1.2.2.2.1, (b.1.2.2.2.2.1, (b.1.2.2.2.2.2.1, b.1.2.2.2.2.2.2)))))), ((b.2.1.1, (b.2.1.2.1, (b.2.1.2.2.1, (b.2.1.2.2.2.1, (b.2.1.2.2.2.2.1, (b.2.1.2.2.2.2.2.1, b.2.1.2.2.2.2.2.2)))))), (((b.2.2.1.1.1, b.2.2.1.1.2), ((b.2.2.1.2.1.1, b.2.2.1.2.1.2), ((b.2.2.1.2.2.1.1, b.2.2.1.2.2.1.2), (b.2.2.1.2.2.2.1, (b.2.2.1.2.2.2.2.1, (b.2.2.1.2.2.2.2.2.1, b.2.2.1.2.2.2.2.2.2)))))), (b.2.2.2.1, (b.2.2.2.2.1, b.2.2.2.2.2))))))).bind fun c =>
 (law14StateCopies_W12 n (0, ((c.1.1, (c.1.2.1, (c.1.2.2.1, (c.1.2.2.2.1, (c.1.2.2.2.2.1, (c.1.2.2.2.2.2.1, c.1.2.2.2.2.2.2)))))), ((c.2.1.1, (c.2.1.2.1, (c.2.1.2.2.1, (c.2.1.2.2.2.1, (c.2.1.2.2.2.2.1, (c.2.1.2.2.2.2.2.1, c.2.1.2.2.2.2.2.2)))))), (((c.2.2.1.1.1, c.2.2.1.1.2), ((c.2.2.1.2.1.1, c.2.2.1.2.1.2), ((c.2.2.1.2.2.1.1, c.2.2.1.2.2.1.2), (c.2.2.1.2.2.2.1, (c.2.2.1.2.2.2.2.1, (c.2.2.1.2.2.2.2.2.1, c.2.2.1.2.2.2.2.2.2)))))), (c.2.2.2.1, (c.2.2.2.2.1, c.2.2.2.2.2))))))).bind fun d =>
 (qah n).bind fun ac =>
 bif ac then
 (qam n d.1.1 d.1.2.1 d.1.2.2.1 d.1.2.2.2.1 d.1.2.2.2.2.1 d.1.2.2.2.2.2.1 d.1.2.2.2.2.2.2 d.2.1.1 d.2.1.2.1 d.2.1.2.2.1 d.2.1.2.2.2.1 d.2.1.2.2.2.2.1 d.2.1.2.2.2.2.2.1 d.2.1.2.2.2.2.2.2).bind fun ad =>
 some ad
 else
 some false
 else none
 else none
 else none
 else none
 else none
 else none
 else none
 else none
 else none
 else none
end
end Sx
