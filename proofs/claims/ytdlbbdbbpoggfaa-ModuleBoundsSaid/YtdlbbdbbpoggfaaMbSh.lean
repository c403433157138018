import Derived.Test.YtdlbbdbbpoggfaaLib6
import Derived.KernelRfl
open Go Go.Ab
set_option linter.unusedVariables false
set_option maxRecDepth 20000
namespace Sx
noncomputable section
abbrev EAA := Int × Int
abbrev EAB := Int × Int × Int × Int
abbrev EAC := Int × Int × Int
abbrev EAD := Int × Bool
abbrev DC := List Int
abbrev EAE := DC × Bool
abbrev EAF := Bool ⊕ Unit
abbrev DA := List EAA
abbrev EAG := DA × Int × Int
abbrev DB := List EAC
abbrev EAH := DA × Int × Int × DA × DB
abbrev EAI := Bool × Int
abbrev DH := List EAH
abbrev EAJ := DH × Int × Int
abbrev EAK := Int × DC × Bool
abbrev EAL := EAB × EAA × DH
abbrev EAM := EAA × EAA × DH
abbrev DI := List DA
abbrev EAN := EAB × EAA × DI × DH
abbrev DJ := List EAG
abbrev EAO := EAB × EAA × DH × DJ
abbrev EAP := EAB × EAA × DH × DC
abbrev DE := List ByteArray
abbrev EAQ := EAB × EAA × DH × DE
abbrev EAR := EAA ⊕ Int
abbrev EAS := EAA × EAA × DI × DH
abbrev EAT := EAA × EAA × DH × DJ
abbrev EAU := EAA × EAA × DH × DC
abbrev EAV := EAA × EAA × DH × DE
abbrev DD := List Int
abbrev DF := List ByteArray
abbrev DG := List (Nat × Int × Int)
abbrev DK := List DC
def iC (n : Nat) (b a g c d e : Int) (f : DH) : Option ((EAL ⊕ EAN) ⊕ (EAM ⊕ EAS)) :=
 bif (decide (c < a)) then
 bif (decide ((b5 b 7) = 0)) then
 some (Sum.inl (Sum.inr ((b, (a, (8, (dO .i64 c 1)))), ((d, e), ((([] : List EAA) :: ([] : List (List EAA))), f)))))
 else none
 else
 some (Sum.inr (Sum.inl ((a, g), ((d, e), f))))
def gZ (n : Nat) (c a h d e f : Int) (b : DI) (g : DH) : Option ((EAL ⊕ EAN) ⊕ (EAM ⊕ EAS)) :=
 bif (decide (d < a)) then
 bif (decide ((b5 c 7) = 0)) then
 bif (Nat.ble (List.length (b ++ (([] : List EAA) :: ([] : List (List EAA))))) 4294967296) then
 some (Sum.inl (Sum.inr ((c, (a, (8, (dO .i64 d 1)))), ((e, f), ((b ++ (([] : List EAA) :: ([] : List (List EAA)))), g)))))
 else none
 else none
 else
 some (Sum.inr (Sum.inr ((a, h), ((e, f), (b, g)))))
def bC (n : Nat) (s : EAL ⊕ EAN) : Option ((EAL ⊕ EAN) ⊕ (EAM ⊕ EAS)) := Sum.rec (fun b => iC n b.1.1 b.1.2.1 b.1.2.2.1 b.1.2.2.2 b.2.1.1 b.2.1.2 b.2.2) (fun a => gZ n a.1.1 a.1.2.1 a.1.2.2.1 a.1.2.2.2 a.2.1.1 a.2.1.2 a.2.2.1 a.2.2.2) s
def cE (n : Nat) (s : EAL ⊕ EAN) : Option (EAM ⊕ EAS) := bL (bC n) n s
def qbw (n : Nat) (b a c : Int) : Option Bool :=
 bif (b == 1) then
 some (a == 0)
 else
 bif (b == 2) then
 some (a == 0)
 else
 bif (b == 3) then
 some (a == 0)
 else
 bif (b == 7) then
 some (a == 0)
 else
 bif (b == 4) then
 bif (decide (a ≥ 0)) then
 some (decide (a < c))
 else
 some false
 else
 bif (b == 5) then
 bif (decide (a ≥ 0)) then
 some (decide (a < 4))
 else
 some false
 else
 some false
def qbn (n : Nat) (b c a : Int) : Option EAI :=
 (qbw n b c a).bind fun d =>
 some ((!d), a)
def qat_B0 (n : Nat) (c : DA) (d a e : Int) : Option ((EAG × Int) ⊕ EAR) :=
 bif (decide (a < d)) then
 (eC c a).bind fun f =>
 (qbn n f.1 f.2 e).bind fun b =>
 bif b.1 then
 some (Sum.inr (Sum.inl (a, b.2)))
 else
 some (Sum.inl ((c, (d, (dO .i64 a 1))), b.2))
 else
 some (Sum.inr (Sum.inr e))
def qat_W0 (n : Nat) (s : EAG × Int) : Option EAR := bL (fun s => qat_B0 n s.1.1 s.1.2.1 s.1.2.2 s.2) n s
def qat (n : Nat) (a : DA) (c : Int) : Option EAA :=
 (qat_W0 n ((a, ((bK a), 0)), c)).bind fun d =>
 Sum.rec (fun b =>
 some (b.1, b.2)) (fun e =>
 some ((-1), e)) d
def qt (n : Nat) (b : DA) (c : Int) : Option EAI :=
 (qat n b c).bind fun a =>
 some ((decide (a.1 ≥ 0)), a.2)
def qbo (n : Nat) (a : DA) (b c : Int) : Option Bool :=
 bif (decide ((bK a) ≤ c)) then
 (qt n a b).bind fun d =>
 some (!d.1)
 else
 some false
def qbg (n : Nat) (b : DA) (a : Int) : Option EAI :=
 (qbo n b a 6).bind fun c =>
 some ((!c), a)
def qv_B0 (n : Nat) (c : DI) (d a e : Int) : Option (((DI × Int × Int) × Int) ⊕ EAR) :=
 bif (decide (a < d)) then
 (eC c a).bind fun f =>
 (qbg n f e).bind fun b =>
 bif b.1 then
 some (Sum.inr (Sum.inl (a, b.2)))
 else
 some (Sum.inl ((c, (d, (dO .i64 a 1))), b.2))
 else
 some (Sum.inr (Sum.inr e))
def qv_W0 (n : Nat) (s : (DI × Int × Int) × Int) : Option EAR := bL (fun s => qv_B0 n s.1.1 s.1.2.1 s.1.2.2 s.2) n s
def qv (n : Nat) (a : DI) (c : Int) : Option EAA :=
 (qv_W0 n ((a, ((bK a), 0)), c)).bind fun d =>
 Sum.rec (fun b =>
 some (b.1, b.2)) (fun e =>
 some ((-1), e)) d
def qg (n : Nat) (b : DI) (c : Int) : Option EAI :=
 (qv n b c).bind fun a =>
 some ((decide (a.1 ≥ 0)), a.2)
def qbv (n : Nat) (a : Int) : Option Int :=
 bif (a == 29) then
 some 2
 else
 bif (a == 30) then
 some 2
 else
 bif (a == 0) then
 some 1
 else
 bif (a == 1) then
 some 1
 else
 bif (a == 3) then
 some 1
 else
 bif (a == 4) then
 some 1
 else
 bif (a == 23) then
 some 1
 else
 bif (a == 24) then
 some 1
 else
 bif (a == 25) then
 some 1
 else
 bif (a == 27) then
 some 1
 else
 bif (a == 28) then
 some 1
 else
 bif (decide (a < 0)) then
 some (-1)
 else
 bif (decide (a ≥ 42)) then
 some (-1)
 else
 some 0
def qcb (n : Nat) (a : Int) (b : Bool) : Option Bool :=
 bif (decide (a ≥ 0)) then
 bif (decide (a ≤ 255)) then
 bif b then
 some true
 else
 some (a == 0)
 else
 some false
 else
 some false
def qce_B0 (n : Nat) (a : Int) (b : DC) : Option ((Int × DC) ⊕ (Int × DC)) :=
 bif (decide (a ≥ 128)) then
 bif (Nat.ble (List.length (b ++ ((JP .u8 (dL .u8 a) 128) :: ([] : DD)))) 4294967296) then
 some (Sum.inl ((NT .u64 a 7), (b ++ ((JP .u8 (dL .u8 a) 128) :: ([] : DD)))))
 else none
 else
 some (Sum.inr (a, b))
def qce_W0 (n : Nat) (s : Int × DC) : Option (Int × DC) := bL (fun s => qce_B0 n s.1 s.2) n s
def qce (n : Nat) (b : Int) : Option DC :=
 (qce_W0 n (b, ([] : DD))).bind fun a =>
 bif (Nat.ble (List.length (a.2 ++ ((dL .u8 a.1) :: ([] : DD)))) 4294967296) then
 some (a.2 ++ ((dL .u8 a.1) :: ([] : DD)))
 else none
def qcc_B0 (n : Nat) (a : Nat × Nat) (f b : Int) (c : DC) (d e : Int) : Option ((((Nat × Nat) × Int × Int) × DC × Int × Int) ⊕ (DC × Int × Int)) :=
 bif (decide (b < f)) then
 bif ((decide (0 ≤ b)) && (decide (b < ((a.2 : Nat) : Int)))) then
 bif (Nat.beq (((a.1 + (Int.toNat b)) * 1) + 0) 0) then
 (qce n (dL .u64 d)).bind fun g =>
 bif (Nat.ble (List.length (c ++ g)) 4294967296) then
 some (Sum.inl (((a.1, a.2), (f, (dO .i64 b 1))), ((c ++ g), (d, e))))
 else none
 else
 bif (Nat.beq (((a.1 + (Int.toNat b)) * 1) + 0) 1) then
 (qce n (dL .u64 e)).bind fun h =>
 bif (Nat.ble (List.length (c ++ h)) 4294967296) then
 some (Sum.inl (((a.1, a.2), (f, (dO .i64 b 1))), ((c ++ h), (d, e))))
 else none
 else none
 else none
 else
 some (Sum.inr (c, (d, e)))
def qcc_W0 (n : Nat) (s : ((Nat × Nat) × Int × Int) × DC × Int × Int) : Option (DC × Int × Int) := bL (fun s => qcc_B0 n s.1.1 s.1.2.1 s.1.2.2 s.2.1 s.2.2.1 s.2.2.2) n s
def qcc (n : Nat) (b c d : Int) : Option DC :=
 (qbv n b).bind fun a =>
 bif (decide (a < 0)) then
 some ([] : DD)
 else
 (qcb n c (decide (a > 0))).bind fun e =>
 bif (!e) then
 some ([] : DD)
 else
 (qcb n d (decide (a > 1))).bind fun f =>
 bif (!f) then
 some ([] : DD)
 else
 bif ((decide (0 ≤ a)) && (decide (a ≤ 2))) then
 (qcc_W0 n (((0, ((Int.toNat a) - 0)), (((((Int.toNat a) - 0) : Nat) : Int), 0)), (((dL .u8 b) :: ([] : DD)), (c, d)))).bind fun g =>
 some g.1
 else none
def qai (n : Nat) (a b c : Int) : Option Bool :=
 (qcc n a b c).bind fun d =>
 some ((bK d) == 0)
def qah_B0 (n : Nat) (c : DB) (d a : Int) : Option ((DB × Int × Int) ⊕ (Int ⊕ Unit)) :=
 bif (decide (a < d)) then
 (eC c a).bind fun b =>
 (qai n b.1 b.2.1 b.2.2).bind fun e =>
 bif e then
 some (Sum.inr (Sum.inl a))
 else
 some (Sum.inl (c, (d, (dO .i64 a 1))))
 else
 some (Sum.inr (Sum.inr ()))
def qah_W0 (n : Nat) (s : DB × Int × Int) : Option (Int ⊕ Unit) := bL (fun s => qah_B0 n s.1 s.2.1 s.2.2) n s
def qah (n : Nat) (a : DB) : Option Int :=
 (qah_W0 n (a, ((bK a), 0))).bind fun b =>
 Sum.rec (fun c =>
 some c) (fun d =>
 some (-1)) b
def ql (n : Nat) (a : DB) : Option Bool :=
 (qah n a).bind fun b =>
 some (decide (b ≥ 0))
def qan (n : Nat) (c : DA) (d e : Int) (f : DA) (a : DB) (b : Int) : Option Bool :=
 (qbo n c b 4).bind fun g =>
 bif g then
 (qbw n d e b).bind fun h =>
 bif h then
 (qbo n f b (Pr .i64 8 (bK c))).bind fun i =>
 bif i then
 bif (decide ((bK a) ≥ 1)) then
 bif (decide ((bK a) ≤ 64)) then
 (ql n a).bind fun j =>
 some (!j)
 else
 some false
 else
 some false
 else
 some false
 else
 some false
 else
 some false
def qbf (n : Nat) (b : DA) (c d : Int) (e : DA) (f : DB) (a : Int) : Option EAI :=
 (qan n b c d e f a).bind fun g =>
 some ((!g), a)
def qar_B0 (n : Nat) (d : DH) (e b f : Int) : Option ((EAJ × Int) ⊕ EAR) :=
 bif (decide (b < e)) then
 (eC d b).bind fun a =>
 (qbf n a.1 a.2.1 a.2.2.1 a.2.2.2.1 a.2.2.2.2 f).bind fun c =>
 bif c.1 then
 some (Sum.inr (Sum.inl (b, c.2)))
 else
 some (Sum.inl ((d, (e, (dO .i64 b 1))), c.2))
 else
 some (Sum.inr (Sum.inr f))
def qar_W0 (n : Nat) (s : EAJ × Int) : Option EAR := bL (fun s => qar_B0 n s.1.1 s.1.2.1 s.1.2.2 s.2) n s
def qar (n : Nat) (a : DH) (c : Int) : Option EAA :=
 (qar_W0 n ((a, ((bK a), 0)), c)).bind fun d =>
 Sum.rec (fun b =>
 some (b.1, b.2)) (fun e =>
 some ((-1), e)) d
def qu (n : Nat) (b : DH) (c : Int) : Option EAI :=
 (qar n b c).bind fun a =>
 some ((decide (a.1 ≥ 0)), a.2)
def qbi (n : Nat) (b : DA) (c d a : Int) : Option EAI :=
 (qbo n b a 4).bind fun e =>
 bif (!e) then
 some (true, a)
 else
 (qbw n c d a).bind fun f =>
 some ((!f), a)
def qac_B0 (n : Nat) (d : DJ) (e a f : Int) : Option (((DJ × Int × Int) × Int) ⊕ EAR) :=
 bif (decide (a < e)) then
 (eC d a).bind fun b =>
 (qbi n b.1 b.2.1 b.2.2 f).bind fun c =>
 bif c.1 then
 some (Sum.inr (Sum.inl (a, c.2)))
 else
 some (Sum.inl ((d, (e, (dO .i64 a 1))), c.2))
 else
 some (Sum.inr (Sum.inr f))
def qac_W0 (n : Nat) (s : (DJ × Int × Int) × Int) : Option EAR := bL (fun s => qac_B0 n s.1.1 s.1.2.1 s.1.2.2 s.2) n s
def qac (n : Nat) (a : DJ) (c : Int) : Option EAA :=
 (qac_W0 n ((a, ((bK a), 0)), c)).bind fun d =>
 Sum.rec (fun b =>
 some (b.1, b.2)) (fun e =>
 some ((-1), e)) d
def qf (n : Nat) (b : DJ) (c : Int) : Option EAI :=
 (qac n b c).bind fun a =>
 some ((decide (a.1 ≥ 0)), a.2)
def qbm (n : Nat) (a : ByteArray) : Option Bool :=
 some (decide ((Pv a) > 32))
def qw_B0 (n : Nat) (b : DE) (c a : Int) : Option ((DE × Int × Int) ⊕ (Int ⊕ Unit)) :=
 bif (decide (a < c)) then
 (eC b a).bind fun d =>
 (qbm n d).bind fun e =>
 bif e then
 some (Sum.inr (Sum.inl a))
 else
 some (Sum.inl (b, (c, (dO .i64 a 1))))
 else
 some (Sum.inr (Sum.inr ()))
def qw_W0 (n : Nat) (s : DE × Int × Int) : Option (Int ⊕ Unit) := bL (fun s => qw_B0 n s.1 s.2.1 s.2.2) n s
def qw (n : Nat) (a : DE) : Option Int :=
 (qw_W0 n (a, ((bK a), 0))).bind fun b =>
 Sum.rec (fun c =>
 some c) (fun d =>
 some (-1)) b
def qh (n : Nat) (a : DE) : Option Bool :=
 (qw n a).bind fun b =>
 some (decide (b ≥ 0))
def qbq (n : Nat) (a : DI) (b : DH) (c : DJ) (g : DC) (d : DE) : Option Bool :=
 bif (decide ((bK a) ≤ 8)) then
 (qg n a (bK a)).bind fun e =>
 bif (!e.1) then
 bif (decide ((bK b) ≥ 1)) then
 bif (decide ((bK b) ≤ 8)) then
 (qu n b e.2).bind fun f =>
 bif (!f.1) then
 bif (decide ((bK c) ≤ 8)) then
 (qf n c f.2).bind fun h =>
 bif (!h.1) then
 bif (decide ((bK g) ≤ 16)) then
 bif (decide ((bK d) ≤ 16)) then
 (qh n d).bind fun i =>
 some (!i)
 else
 some false
 else
 some false
 else
 some false
 else
 some false
 else
 some false
 else
 some false
 else
 some false
 else
 some false
 else
 some false
def qp (n : Nat) (b : Int) : Option DC :=
 (qce n (dL .u64 b)).bind fun a =>
 bif (Nat.ble (List.length a) 4294967296) then
 some a
 else none
def qb (n : Nat) (c : Int) (a : DC) : Option DC :=
 (qce n (dL .u64 c)).bind fun b =>
 bif (Nat.ble (List.length (a ++ b)) 4294967296) then
 some (a ++ b)
 else none
def qca (n : Nat) (c d : Int) : Option DC :=
 (qce n (dL .u64 (CP c 0))).bind fun a =>
 (qce n (dL .u64 (CP d 0))).bind fun b =>
 bif (Nat.ble (List.length (a ++ b)) 4294967296) then
 some (a ++ b)
 else none
def qn_B0 (n : Nat) (c : DA) (d a : Int) (b : DC) : Option ((EAG × DC) ⊕ DC) :=
 bif (decide (a < d)) then
 (eC c a).bind fun e =>
 (qca n e.1 e.2).bind fun f =>
 bif (Nat.ble (List.length (b ++ f)) 4294967296) then
 some (Sum.inl ((c, (d, (dO .i64 a 1))), (b ++ f)))
 else none
 else
 some (Sum.inr b)
def qn_W0 (n : Nat) (s : EAG × DC) : Option DC := bL (fun s => qn_B0 n s.1.1 s.1.2.1 s.1.2.2 s.2) n s
def qn (n : Nat) (a : DA) (b : DC) : Option DC :=
 (qb n (bK a) b).bind fun c =>
 (qn_W0 n ((a, ((bK a), 0)), c)).bind fun d =>
 some d
def qav_B0 (n : Nat) (b : DI) (c a : Int) (d : DC) : Option (((DI × Int × Int) × DC) ⊕ DC) :=
 bif (decide (a < c)) then
 (eC b a).bind fun e =>
 (qn n e d).bind fun f =>
 some (Sum.inl ((b, (c, (dO .i64 a 1))), f))
 else
 some (Sum.inr d)
def qav_W0 (n : Nat) (s : (DI × Int × Int) × DC) : Option DC := bL (fun s => qav_B0 n s.1.1 s.1.2.1 s.1.2.2 s.2) n s
def qav (n : Nat) (a : DI) (d : DH) (e : DJ) (f : DC) (g : DE) : Option DC :=
 (qp n (bK a)).bind fun b =>
 (qav_W0 n ((a, ((bK a), 0)), b)).bind fun c =>
 some c
def qz_B2 (n : Nat) (d : DH) (e f : Int) (g : DB) (h a : Int) (b : DC) : Option (((DH × Int × Int × DB × Int × Int) × DC) ⊕ (EAJ × DC)) :=
 bif (decide (a < h)) then
 (eC g a).bind fun c =>
 (qcc n c.1 c.2.1 c.2.2).bind fun i =>
 bif (Nat.ble (List.length (b ++ i)) 4294967296) then
 some (Sum.inl ((d, (e, (f, (g, (h, (dO .i64 a 1)))))), (b ++ i)))
 else none
 else
 some (Sum.inr ((d, (e, f)), b))
def qz_W2 (n : Nat) (s : (DH × Int × Int × DB × Int × Int) × DC) : Option (EAJ × DC) := bL (fun s => qz_B2 n s.1.1 s.1.2.1 s.1.2.2.1 s.1.2.2.2.1 s.1.2.2.2.2.1 s.1.2.2.2.2.2 s.2) n s
def qz_B0 (n : Nat) (d : DH) (e c : Int) (f : DC) : Option ((EAJ × DC) ⊕ DC) :=
 bif (decide (c < e)) then
 (eC d c).bind fun a =>
 (qn n a.1 f).bind fun g =>
 (qca n a.2.1 a.2.2.1).bind fun h =>
 bif (Nat.ble (List.length (g ++ h)) 4294967296) then
 (qn n a.2.2.2.1 (g ++ h)).bind fun i =>
 (qb n (bK a.2.2.2.2) i).bind fun j =>
 (qz_W2 n ((d, (e, (c, (a.2.2.2.2, ((bK a.2.2.2.2), 0))))), j)).bind fun b =>
 some (Sum.inl ((b.1.1, (b.1.2.1, (dO .i64 b.1.2.2 1))), b.2))
 else none
 else
 some (Sum.inr f)
def qz_W0 (n : Nat) (s : EAJ × DC) : Option DC := bL (fun s => qz_B0 n s.1.1 s.1.2.1 s.1.2.2 s.2) n s
def qz (n : Nat) (d : DI) (a : DH) (e : DJ) (f : DC) (g : DE) : Option DC :=
 (qp n (bK a)).bind fun b =>
 (qz_W0 n ((a, ((bK a), 0)), b)).bind fun c =>
 some c
def qam_B0 (n : Nat) (c : DJ) (d a : Int) (e : DC) : Option (((DJ × Int × Int) × DC) ⊕ DC) :=
 bif (decide (a < d)) then
 (eC c a).bind fun b =>
 (qn n b.1 e).bind fun f =>
 (qca n b.2.1 b.2.2).bind fun g =>
 bif (Nat.ble (List.length (f ++ g)) 4294967296) then
 some (Sum.inl ((c, (d, (dO .i64 a 1))), (f ++ g)))
 else none
 else
 some (Sum.inr e)
def qam_W0 (n : Nat) (s : (DJ × Int × Int) × DC) : Option DC := bL (fun s => qam_B0 n s.1.1 s.1.2.1 s.1.2.2 s.2) n s
def qam (n : Nat) (d : DI) (e : DH) (a : DJ) (f : DC) (g : DE) : Option DC :=
 (qp n (bK a)).bind fun b =>
 (qam_W0 n ((a, ((bK a), 0)), b)).bind fun c =>
 some c
def qby_B0 (n : Nat) (b d a : Int) (c : DC) : Option ((EAC × DC) ⊕ DC) :=
 bif (decide (a < d)) then
 bif (decide (0 ≤ (sL .i64 8 a))) then
 bif (Nat.ble (List.length (c ++ ((dL .u8 (NT .u64 b (sL .i64 8 a))) :: ([] : DD)))) 4294967296) then
 some (Sum.inl ((b, (d, (dO .i64 a 1))), (c ++ ((dL .u8 (NT .u64 b (sL .i64 8 a))) :: ([] : DD)))))
 else none
 else none
 else
 some (Sum.inr c)
def qby_W0 (n : Nat) (s : EAC × DC) : Option DC := bL (fun s => qby_B0 n s.1.1 s.1.2.1 s.1.2.2 s.2) n s
def qby (n : Nat) (a b : Int) : Option DC :=
 (qby_W0 n ((a, ((Fp (CP b 0) 8), 0)), ([] : DD))).bind fun c =>
 some c
def qap_B0 (n : Nat) (c : DC) (d a : Int) (b : DC) : Option (((DC × Int × Int) × DC) ⊕ DC) :=
 bif (decide (a < d)) then
 (eC c a).bind fun f =>
 (qby n f 8).bind fun e =>
 bif (Nat.ble (List.length (b ++ e)) 4294967296) then
 some (Sum.inl ((c, (d, (dO .i64 a 1))), (b ++ e)))
 else none
 else
 some (Sum.inr b)
def qap_W0 (n : Nat) (s : (DC × Int × Int) × DC) : Option DC := bL (fun s => qap_B0 n s.1.1 s.1.2.1 s.1.2.2 s.2) n s
def qap (n : Nat) (d : DI) (e : DH) (f : DJ) (a : DC) (g : DE) : Option DC :=
 (qp n (bK a)).bind fun b =>
 (qap_W0 n ((a, ((bK a), 0)), b)).bind fun c =>
 some c
def qbl_B0 (n : Nat) (c : DE) (d a : Int) (e : DC) : Option (((DE × Int × Int) × DC) ⊕ DC) :=
 bif (decide (a < d)) then
 (eC c a).bind fun b =>
 (qb n (Pv b) e).bind fun f =>
 bif (Nat.ble (List.length (f ++ (e4 b))) 4294967296) then
 some (Sum.inl ((c, (d, (dO .i64 a 1))), (f ++ (e4 b))))
 else none
 else
 some (Sum.inr e)
def qbl_W0 (n : Nat) (s : (DE × Int × Int) × DC) : Option DC := bL (fun s => qbl_B0 n s.1.1 s.1.2.1 s.1.2.2 s.2) n s
def qbl (n : Nat) (d : DI) (e : DH) (f : DJ) (g : DC) (a : DE) : Option DC :=
 (qp n (bK a)).bind fun b =>
 (qbl_W0 n ((a, ((bK a), 0)), b)).bind fun c =>
 some c
def qbx_B0 (n : Nat) (e : DK) (f b : Int) (a : DC) : Option (((DK × Int × Int) × DC) ⊕ DC) :=
 bif (decide (b < f)) then
 (eC e b).bind fun c =>
 (qce n (dL .u64 (bK c))).bind fun d =>
 bif (Nat.ble (List.length (a ++ d)) 4294967296) then
 bif (Nat.ble (List.length ((a ++ d) ++ c)) 4294967296) then
 some (Sum.inl ((e, (f, (dO .i64 b 1))), ((a ++ d) ++ c)))
 else none
 else none
 else
 some (Sum.inr a)
def qbx_W0 (n : Nat) (s : (DK × Int × Int) × DC) : Option DC := bL (fun s => qbx_B0 n s.1.1 s.1.2.1 s.1.2.2 s.2) n s
def qbx (n : Nat) (a : DK) : Option DC :=
 (qce n (dL .u64 (bK a))).bind fun b =>
 (qbx_W0 n ((a, ((bK a), 0)), b)).bind fun c =>
 some c
def qay (n : Nat) (a : DI) (b : DH) (c : DJ) (d : DC) (e : DE) : Option (DC × Int) :=
 (qbq n a b c d e).bind fun f =>
 bif (!f) then
 some (([] : DD), 2)
 else
 (qav n a b c d e).bind fun g =>
 (qz n a b c d e).bind fun h =>
 (qam n a b c d e).bind fun i =>
 (qap n a b c d e).bind fun j =>
 (qbl n a b c d e).bind fun k =>
 (qbx n (g :: (h :: (i :: (j :: (k :: ([] : DK))))))).bind fun l =>
 some (l, 0)
def qba (n : Nat) (a : DC) : Option EAE :=
 bif (Nat.ble (List.length a) 4294967296) then
 some (a, false)
 else none
def qbc (n : Nat) (b : DC) (a : Bool) : Option (Bool × DC × Bool) :=
 some (a, (b, a))
def qaj (n : Nat) (a : DC) (b : Bool) : Option EAE :=
 some (a, true)
def qaw (n : Nat) (b : Int) (f : DC) (g : Bool) : Option (DC × DC × Bool) :=
 (qbc n f g).bind fun a =>
 bif a.1 then
 (qaj n a.2.1 a.2.2).bind fun c =>
 some (([] : DD), (c.1, c.2))
 else
 bif (decide (b < 0)) then
 (qaj n a.2.1 a.2.2).bind fun d =>
 some (([] : DD), (d.1, d.2))
 else
 bif (decide (b > (bK a.2.1))) then
 (qaj n a.2.1 a.2.2).bind fun e =>
 some (([] : DD), (e.1, e.2))
 else
 bif ((decide (0 ≤ b)) && (decide (b ≤ (((List.length a.2.1) : Nat) : Int)))) then
 bif (Nat.ble (List.length (List.take (Int.toNat b) a.2.1)) 4294967296) then
 bif ((decide (0 ≤ b)) && (decide (b ≤ (((List.length a.2.1) : Nat) : Int)))) then
 some ((List.take (Int.toNat b) a.2.1), ((List.drop (Int.toNat b) (List.take (List.length a.2.1) a.2.1)), a.2.2))
 else none
 else none
 else none
def qaz_B0 (n : Nat) (d b : Int) (h : DC) (i : Bool) : Option ((EAA × DC × Bool) ⊕ EAK) :=
 (qaw n 1 h i).bind fun a =>
 bif ((bK a.1) == 0) then
 some (Sum.inr (0, (a.2.1, a.2.2)))
 else
 (eC a.1 0).bind fun c =>
 bif (b == 9) then
 bif (decide (c > 1)) then
 (qaj n a.2.1 a.2.2).bind fun e =>
 some (Sum.inr (0, (e.1, e.2)))
 else
 bif (decide (b > 0)) then
 bif (c == 0) then
 (qaj n a.2.1 a.2.2).bind fun f =>
 some (Sum.inr (0, (f.1, f.2)))
 else
 bif (decide (0 ≤ (sL .i64 7 b))) then
 bif (decide (c < 128)) then
 some (Sum.inr ((JP .u64 d (Hf .u64 (dL .u64 (l5 .u8 c 128)) (sL .i64 7 b))), (a.2.1, a.2.2)))
 else
 some (Sum.inl (((JP .u64 d (Hf .u64 (dL .u64 (l5 .u8 c 128)) (sL .i64 7 b))), (dO .i64 b 1)), (a.2.1, a.2.2)))
 else none
 else
 bif (decide (0 ≤ (sL .i64 7 b))) then
 bif (decide (c < 128)) then
 some (Sum.inr ((JP .u64 d (Hf .u64 (dL .u64 (l5 .u8 c 128)) (sL .i64 7 b))), (a.2.1, a.2.2)))
 else
 some (Sum.inl (((JP .u64 d (Hf .u64 (dL .u64 (l5 .u8 c 128)) (sL .i64 7 b))), (dO .i64 b 1)), (a.2.1, a.2.2)))
 else none
 else
 bif (decide (b > 0)) then
 bif (c == 0) then
 (qaj n a.2.1 a.2.2).bind fun g =>
 some (Sum.inr (0, (g.1, g.2)))
 else
 bif (decide (0 ≤ (sL .i64 7 b))) then
 bif (decide (c < 128)) then
 some (Sum.inr ((JP .u64 d (Hf .u64 (dL .u64 (l5 .u8 c 128)) (sL .i64 7 b))), (a.2.1, a.2.2)))
 else
 some (Sum.inl (((JP .u64 d (Hf .u64 (dL .u64 (l5 .u8 c 128)) (sL .i64 7 b))), (dO .i64 b 1)), (a.2.1, a.2.2)))
 else none
 else
 bif (decide (0 ≤ (sL .i64 7 b))) then
 bif (decide (c < 128)) then
 some (Sum.inr ((JP .u64 d (Hf .u64 (dL .u64 (l5 .u8 c 128)) (sL .i64 7 b))), (a.2.1, a.2.2)))
 else
 some (Sum.inl (((JP .u64 d (Hf .u64 (dL .u64 (l5 .u8 c 128)) (sL .i64 7 b))), (dO .i64 b 1)), (a.2.1, a.2.2)))
 else none
def qaz_W0 (n : Nat) (s : EAA × DC × Bool) : Option EAK := bL (fun s => qaz_B0 n s.1.1 s.1.2 s.2.1 s.2.2) n s
def qaz (n : Nat) (b : DC) (c : Bool) : Option EAK :=
 (qaz_W0 n ((0, 0), (b, c))).bind fun a =>
 some (a.1, (a.2.1, a.2.2))
def qbu (n : Nat) (c : Int) (d : DC) (e : Bool) : Option (EAD × DC × Bool) :=
 (qaz n d e).bind fun b =>
 (qbc n b.2.1 b.2.2).bind fun a =>
 bif (!a.1) then
 bif (decide (c ≥ 0)) then
 some (((dL .i64 (Fp b.1 (dL .u64 (CP c 0)))), (decide (b.1 ≤ (dL .u64 c)))), (a.2.1, a.2.2))
 else
 some (((dL .i64 (Fp b.1 (dL .u64 (CP c 0)))), false), (a.2.1, a.2.2))
 else
 some (((dL .i64 (Fp b.1 (dL .u64 (CP c 0)))), false), (a.2.1, a.2.2))
def qas (n : Nat) (b : DC) (c : Bool) : Option EAK :=
 (qbc n b c).bind fun a =>
 bif a.1 then
 some (0, (a.2.1, a.2.2))
 else
 some ((bK a.2.1), (a.2.1, a.2.2))
def qbt_B0 (n : Nat) (f g : Int) (h : DC) (i : Bool) (b : DK) : Option ((EAA × EAE × DK) ⊕ (((DK × Int) × EAE × DK) ⊕ (((DK × Int) × EAE × DK) ⊕ (EAE × DK)))) :=
 bif (decide (g < f)) then
 (qas n h i).bind fun e =>
 (qbu n e.1 e.2.1 e.2.2).bind fun a =>
 bif (!a.1.2) then
 some (Sum.inr (Sum.inl ((([] : DK), 2), ((a.2.1, a.2.2), b))))
 else
 (qaw n a.1.1 a.2.1 a.2.2).bind fun c =>
 bif (Nat.ble (List.length (b ++ (c.1 :: ([] : DK)))) 4294967296) then
 (qbc n c.2.1 c.2.2).bind fun d =>
 bif d.1 then
 some (Sum.inr (Sum.inr (Sum.inl ((([] : DK), 2), ((d.2.1, d.2.2), (b ++ (c.1 :: ([] : DK))))))))
 else
 some (Sum.inl ((f, (dO .i64 g 1)), ((d.2.1, d.2.2), (b ++ (c.1 :: ([] : DK))))))
 else none
 else
 some (Sum.inr (Sum.inr (Sum.inr ((h, i), b))))
def qbt_W0 (n : Nat) (s : EAA × EAE × DK) : Option (((DK × Int) × EAE × DK) ⊕ (((DK × Int) × EAE × DK) ⊕ (EAE × DK))) := bL (fun s => qbt_B0 n s.1.1 s.1.2 s.2.1.1 s.2.1.2 s.2.2) n s
def qbt (n : Nat) (f : DC) (g : Int) : Option (DK × Int) :=
 (qba n f).bind fun c =>
 (qbu n g c.1 c.2).bind fun a =>
 bif (!a.1.2) then
 some (([] : DK), 2)
 else
 (qbt_W0 n ((a.1.1, 0), ((a.2.1, a.2.2), ([] : DK)))).bind fun h =>
 Sum.rec (fun d =>
 some (d.1.1, d.1.2)) (fun i =>
 Sum.rec (fun e =>
 some (e.1.1, e.1.2)) (fun b =>
 (qas n b.1.1 b.1.2).bind fun j =>
 bif (decide (j.1 > 0)) then
 some (([] : DK), 2)
 else
 some (b.2, 0)) i) h
def qal (n : Nat) (c : Int) (a : DK) : Option (DK × EAD × DC × Bool) :=
 (eC a c).bind fun d =>
 (qba n d).bind fun b =>
 some (a, ((0, false), (b.1, b.2)))
def qo (n : Nat) (d c : Int) (e : Bool) (f : DC) (g : Bool) : Option (Int × EAD × DC × Bool) :=
 (qaz n f g).bind fun b =>
 (qbc n b.2.1 b.2.2).bind fun a =>
 bif a.1 then
 some (0, ((c, true), (a.2.1, a.2.2)))
 else
 bif (decide (b.1 > (dL .u64 d))) then
 some (0, ((c, true), (a.2.1, a.2.2)))
 else
 some ((dL .i64 b.1), ((c, e), (a.2.1, a.2.2)))
def qbz (n : Nat) (d : Int) (e : DC) (f : Bool) : Option ((EAA × Bool) × DC × Bool) :=
 (qaz n e f).bind fun b =>
 (qaz n b.2.1 b.2.2).bind fun c =>
 (qbc n c.2.1 c.2.2).bind fun a =>
 bif a.1 then
 some (((0, 0), false), (a.2.1, a.2.2))
 else
 bif (decide (b.1 > 8)) then
 some (((0, 0), false), (a.2.1, a.2.2))
 else
 bif (decide (c.1 > 255)) then
 some (((0, 0), false), (a.2.1, a.2.2))
 else
 (qbw n (dL .i64 b.1) (dL .i64 c.1) d).bind fun g =>
 bif (!g) then
 some (((0, 0), false), (a.2.1, a.2.2))
 else
 some ((((dL .i64 b.1), (dL .i64 c.1)), true), (a.2.1, a.2.2))
def qaa (n : Nat) (b : Int) (c : Bool) (d : DC) (e : Bool) : Option (EAA × EAD × DC × Bool) :=
 (qbz n b d e).bind fun a =>
 bif c then
 some ((a.1.1.1, a.1.1.2), ((b, true), (a.2.1, a.2.2)))
 else
 some ((a.1.1.1, a.1.1.2), ((b, (!a.1.2)), (a.2.1, a.2.2)))
def qd_B0 (n : Nat) (g h d : Int) (b : Bool) (e : DC) (f : Bool) (c : DA) : Option ((EAA × EAD × EAE × DA) ⊕ (EAD × EAE × DA)) :=
 bif (decide (h < g)) then
 bif b then
 some (Sum.inr ((d, b), ((e, f), c)))
 else
 (qaa n d b e f).bind fun a =>
 bif (Nat.ble (List.length (c ++ ((a.1.1, a.1.2) :: ([] : List EAA)))) 4294967296) then
 some (Sum.inl ((g, (dO .i64 h 1)), ((a.2.1.1, a.2.1.2), ((a.2.2.1, a.2.2.2), (c ++ ((a.1.1, a.1.2) :: ([] : List EAA)))))))
 else none
 else
 some (Sum.inr ((d, b), ((e, f), c)))
def qd_W0 (n : Nat) (s : EAA × EAD × EAE × DA) : Option (EAD × EAE × DA) := bL (fun s => qd_B0 n s.1.1 s.1.2 s.2.1.1 s.2.1.2 s.2.2.1.1 s.2.2.1.2 s.2.2.2) n s
def qd (n : Nat) (c d : Int) (e : Bool) (f : DC) (g : Bool) : Option (DA × EAD × DC × Bool) :=
 (qo n c d e f g).bind fun a =>
 (qd_W0 n ((a.1, 0), ((a.2.1.1, a.2.1.2), ((a.2.2.1, a.2.2.2), ([] : List EAA))))).bind fun b =>
 some (b.2.2, ((b.1.1, b.1.2), (b.2.1.1, b.2.1.2)))
def qau (n : Nat) (b : Int) (c : Bool) (d : DC) (e : Bool) : Option (DA × EAD × DC × Bool) :=
 (qd n 6 b c d e).bind fun a =>
 some (a.1, ((a.2.1.1, a.2.1.2), (a.2.2.1, a.2.2.2)))
def qk_B0 (n : Nat) (g h d : Int) (b : Bool) (e : DC) (f : Bool) (c : DI) : Option ((EAA × EAD × EAE × DI) ⊕ (EAD × EAE × DI)) :=
 bif (decide (h < g)) then
 bif b then
 some (Sum.inr ((d, b), ((e, f), c)))
 else
 (qau n d b e f).bind fun a =>
 bif (Nat.ble (List.length (c ++ (a.1 :: ([] : List (List EAA))))) 4294967296) then
 some (Sum.inl ((g, (dO .i64 h 1)), ((a.2.1.1, a.2.1.2), ((a.2.2.1, a.2.2.2), (c ++ (a.1 :: ([] : List (List EAA))))))))
 else none
 else
 some (Sum.inr ((d, b), ((e, f), c)))
def qk_W0 (n : Nat) (s : EAA × EAD × EAE × DI) : Option (EAD × EAE × DI) := bL (fun s => qk_B0 n s.1.1 s.1.2 s.2.1.1 s.2.1.2 s.2.2.1.1 s.2.2.1.2 s.2.2.2) n s
def qk (n : Nat) (c d : Int) (e : Bool) (f : DC) (g : Bool) : Option (DI × EAD × DC × Bool) :=
 (qo n c d e f g).bind fun a =>
 (qk_W0 n ((a.1, 0), ((a.2.1.1, a.2.1.2), ((a.2.2.1, a.2.2.2), ([] : List (List EAA)))))).bind fun b =>
 some (b.2.2, ((b.1.1, b.1.2), (b.2.1.1, b.2.1.2)))
def qx (n : Nat) (d : Int) (a : DK) (b : DI) : Option (DK × DI × EAD × DC × Bool) :=
 (eC a d).bind fun e =>
 (qba n e).bind fun c =>
 some (a, (b, (((bK b), false), (c.1, c.2))))
def qbd (n : Nat) (a : DC) : Option DC :=
 some a
def KK (a : DC) : Int := a.foldr (fun c v => JP .u64 (IntKind.u64.wrap (v * 256)) (IntKind.u64.wrap c)) 0
def qag (n : Nat) (a : Int) (b : DC) (c : Bool) : Option EAK :=
 (qaw n (Fp (CP a 0) 8) b c).bind fun r => some (KK r.1, r.2)
def qcd_B0 (n : Nat) (g h a : Int) (l : DC) (m : Bool) (i j k e f : Int) : Option ((EAC × EAE × EAC × Int × Int) ⊕ ((Bool × EAE × EAC × Int × Int) ⊕ (Int × EAE × EAC × Int × Int))) :=
 bif (decide (a < h)) then
 (qaz n l m).bind fun b =>
 bif ((decide (0 ≤ a)) && (decide (a < 2))) then
 bif (Nat.beq (0 + (0 + ((Int.toNat a) * 1))) 0) then
 (qbc n b.2.1 b.2.2).bind fun c =>
 bif c.1 then
 some (Sum.inr (Sum.inl (false, ((c.2.1, c.2.2), ((0, (0, 0)), (b.1, f))))))
 else
 bif ((decide (0 ≤ a)) && (decide (a < 2))) then
 bif (Nat.beq (0 + (0 + ((Int.toNat a) * 1))) 0) then
 bif (decide (b.1 > 255)) then
 some (Sum.inr (Sum.inl (false, ((c.2.1, c.2.2), ((0, (0, 0)), (b.1, f))))))
 else
 some (Sum.inl ((g, (h, (dO .i64 a 1))), ((c.2.1, c.2.2), ((i, (j, k)), (b.1, f)))))
 else
 bif (Nat.beq (0 + (0 + ((Int.toNat a) * 1))) 1) then
 bif (decide (f > 255)) then
 some (Sum.inr (Sum.inl (false, ((c.2.1, c.2.2), ((0, (0, 0)), (b.1, f))))))
 else
 some (Sum.inl ((g, (h, (dO .i64 a 1))), ((c.2.1, c.2.2), ((i, (j, k)), (b.1, f)))))
 else none
 else none
 else
 bif (Nat.beq (0 + (0 + ((Int.toNat a) * 1))) 1) then
 (qbc n b.2.1 b.2.2).bind fun d =>
 bif d.1 then
 some (Sum.inr (Sum.inl (false, ((d.2.1, d.2.2), ((0, (0, 0)), (e, b.1))))))
 else
 bif ((decide (0 ≤ a)) && (decide (a < 2))) then
 bif (Nat.beq (0 + (0 + ((Int.toNat a) * 1))) 0) then
 bif (decide (e > 255)) then
 some (Sum.inr (Sum.inl (false, ((d.2.1, d.2.2), ((0, (0, 0)), (e, b.1))))))
 else
 some (Sum.inl ((g, (h, (dO .i64 a 1))), ((d.2.1, d.2.2), ((i, (j, k)), (e, b.1)))))
 else
 bif (Nat.beq (0 + (0 + ((Int.toNat a) * 1))) 1) then
 bif (decide (b.1 > 255)) then
 some (Sum.inr (Sum.inl (false, ((d.2.1, d.2.2), ((0, (0, 0)), (e, b.1))))))
 else
 some (Sum.inl ((g, (h, (dO .i64 a 1))), ((d.2.1, d.2.2), ((i, (j, k)), (e, b.1)))))
 else none
 else none
 else none
 else none
 else
 some (Sum.inr (Sum.inr (g, ((l, m), ((i, (j, k)), (e, f))))))
def qcd_W0 (n : Nat) (s : EAC × EAE × EAC × Int × Int) : Option ((Bool × EAE × EAC × Int × Int) ⊕ (Int × EAE × EAC × Int × Int)) := bL (fun s => qcd_B0 n s.1.1 s.1.2.1 s.1.2.2 s.2.1.1 s.2.1.2 s.2.2.1.1 s.2.2.1.2.1 s.2.2.1.2.2 s.2.2.2.1 s.2.2.2.2) n s
def qcd (n : Nat) (f : DC) (g : Bool) : Option ((EAC × Bool) × DC × Bool) :=
 (qag n 1 f g).bind fun d =>
 (qbv n (dL .i64 d.1)).bind fun e =>
 (qbc n d.2.1 d.2.2).bind fun a =>
 bif a.1 then
 some (((0, (0, 0)), false), (a.2.1, a.2.2))
 else
 bif (decide (e < 0)) then
 some (((0, (0, 0)), false), (a.2.1, a.2.2))
 else
 (qcd_W0 n (((dL .i64 d.1), (e, 0)), ((a.2.1, a.2.2), ((0, (0, 0)), (0, 0))))).bind fun h =>
 Sum.rec (fun b =>
 some (((b.2.2.1.1, (b.2.2.1.2.1, b.2.2.1.2.2)), b.1), (b.2.1.1, b.2.1.2))) (fun c =>
 some (((c.1, ((dL .i64 c.2.2.2.1), (dL .i64 c.2.2.2.2))), true), (c.2.1.1, c.2.1.2))) h
def qj (n : Nat) (b : Int) (c : Bool) (d : DC) (e : Bool) : Option (EAC × EAD × DC × Bool) :=
 (qcd n d e).bind fun a =>
 bif c then
 some ((a.1.1.1, (a.1.1.2.1, a.1.1.2.2)), ((b, true), (a.2.1, a.2.2)))
 else
 some ((a.1.1.1, (a.1.1.2.1, a.1.1.2.2)), ((b, (!a.1.2)), (a.2.1, a.2.2)))
def qe_B0 (n : Nat) (g h d : Int) (b : Bool) (e : DC) (f : Bool) (c : DB) : Option ((EAA × EAD × EAE × DB) ⊕ (EAD × EAE × DB)) :=
 bif (decide (h < g)) then
 bif b then
 some (Sum.inr ((d, b), ((e, f), c)))
 else
 (qj n d b e f).bind fun a =>
 bif (Nat.ble (List.length (c ++ ((a.1.1, (a.1.2.1, a.1.2.2)) :: ([] : List EAC)))) 4294967296) then
 some (Sum.inl ((g, (dO .i64 h 1)), ((a.2.1.1, a.2.1.2), ((a.2.2.1, a.2.2.2), (c ++ ((a.1.1, (a.1.2.1, a.1.2.2)) :: ([] : List EAC)))))))
 else none
 else
 some (Sum.inr ((d, b), ((e, f), c)))
def qe_W0 (n : Nat) (s : EAA × EAD × EAE × DB) : Option (EAD × EAE × DB) := bL (fun s => qe_B0 n s.1.1 s.1.2 s.2.1.1 s.2.1.2 s.2.2.1.1 s.2.2.1.2 s.2.2.2) n s
def qe (n : Nat) (c d : Int) (e : Bool) (f : DC) (g : Bool) : Option (DB × EAD × DC × Bool) :=
 (qo n c d e f g).bind fun a =>
 (qe_W0 n ((a.1, 0), ((a.2.1.1, a.2.1.2), ((a.2.2.1, a.2.2.2), ([] : List EAC))))).bind fun b =>
 some (b.2.2, ((b.1.1, b.1.2), (b.2.1.1, b.2.1.2)))
def qa (n : Nat) (e : Int) (f : Bool) (g : DC) (h : Bool) : Option (EAH × EAD × DC × Bool) :=
 (qd n 4 e f g h).bind fun b =>
 (qaa n b.2.1.1 b.2.1.2 b.2.2.1 b.2.2.2).bind fun a =>
 (qd n 8 a.2.1.1 a.2.1.2 a.2.2.1 a.2.2.2).bind fun c =>
 (qe n 64 c.2.1.1 c.2.1.2 c.2.2.1 c.2.2.2).bind fun d =>
 some ((b.1, (a.1.1, (a.1.2, (c.1, d.1)))), ((d.2.1.1, d.2.1.2), (d.2.2.1, d.2.2.2)))
def qm_B0 (n : Nat) (g h d : Int) (b : Bool) (e : DC) (f : Bool) (c : DH) : Option ((EAA × EAD × EAE × DH) ⊕ (EAD × EAE × DH)) :=
 bif (decide (h < g)) then
 bif b then
 some (Sum.inr ((d, b), ((e, f), c)))
 else
 (qa n d b e f).bind fun a =>
 bif (Nat.ble (List.length (c ++ ((a.1.1, (a.1.2.1, (a.1.2.2.1, (a.1.2.2.2.1, a.1.2.2.2.2)))) :: ([] : List ((List EAA) × Int × Int × (List EAA) × List EAC))))) 4294967296) then
 some (Sum.inl ((g, (dO .i64 h 1)), ((a.2.1.1, a.2.1.2), ((a.2.2.1, a.2.2.2), (c ++ ((a.1.1, (a.1.2.1, (a.1.2.2.1, (a.1.2.2.2.1, a.1.2.2.2.2)))) :: ([] : List ((List EAA) × Int × Int × (List EAA) × List EAC))))))))
 else none
 else
 some (Sum.inr ((d, b), ((e, f), c)))
def qm_W0 (n : Nat) (s : EAA × EAD × EAE × DH) : Option (EAD × EAE × DH) := bL (fun s => qm_B0 n s.1.1 s.1.2 s.2.1.1 s.2.1.2 s.2.2.1.1 s.2.2.1.2 s.2.2.2) n s
def qm (n : Nat) (c d : Int) (e : Bool) (f : DC) (g : Bool) : Option (DH × EAD × DC × Bool) :=
 (qo n c d e f g).bind fun a =>
 (qm_W0 n ((a.1, 0), ((a.2.1.1, a.2.1.2), ((a.2.2.1, a.2.2.2), ([] : List ((List EAA) × Int × Int × (List EAA) × List EAC)))))).bind fun b =>
 some (b.2.2, ((b.1.1, b.1.2), (b.2.1.1, b.2.1.2)))
def qad (n : Nat) (d : Int) (a : DK) (b : DI) (e : DH) : Option (DK × (DI × DH) × EAD × DC × Bool) :=
 (eC a d).bind fun f =>
 (qba n f).bind fun c =>
 some (a, ((b, e), (((bK b), false), (c.1, c.2))))
def qs (n : Nat) (c : Int) (d : Bool) (e : DC) (f : Bool) : Option (EAG × EAD × DC × Bool) :=
 (qd n 4 c d e f).bind fun b =>
 (qaa n b.2.1.1 b.2.1.2 b.2.2.1 b.2.2.2).bind fun a =>
 some ((b.1, (a.1.1, a.1.2)), ((a.2.1.1, a.2.1.2), (a.2.2.1, a.2.2.2)))
def qc_B0 (n : Nat) (g h d : Int) (b : Bool) (e : DC) (f : Bool) (c : DJ) : Option ((EAA × EAD × EAE × DJ) ⊕ (EAD × EAE × DJ)) :=
 bif (decide (h < g)) then
 bif b then
 some (Sum.inr ((d, b), ((e, f), c)))
 else
 (qs n d b e f).bind fun a =>
 bif (Nat.ble (List.length (c ++ ((a.1.1, (a.1.2.1, a.1.2.2)) :: ([] : List ((List EAA) × Int × Int))))) 4294967296) then
 some (Sum.inl ((g, (dO .i64 h 1)), ((a.2.1.1, a.2.1.2), ((a.2.2.1, a.2.2.2), (c ++ ((a.1.1, (a.1.2.1, a.1.2.2)) :: ([] : List ((List EAA) × Int × Int))))))))
 else none
 else
 some (Sum.inr ((d, b), ((e, f), c)))
def qc_W0 (n : Nat) (s : EAA × EAD × EAE × DJ) : Option (EAD × EAE × DJ) := bL (fun s => qc_B0 n s.1.1 s.1.2 s.2.1.1 s.2.1.2 s.2.2.1.1 s.2.2.1.2 s.2.2.2) n s
def qc (n : Nat) (c d : Int) (e : Bool) (f : DC) (g : Bool) : Option (DJ × EAD × DC × Bool) :=
 (qo n c d e f g).bind fun a =>
 (qc_W0 n ((a.1, 0), ((a.2.1.1, a.2.1.2), ((a.2.2.1, a.2.2.2), ([] : List ((List EAA) × Int × Int)))))).bind fun b =>
 some (b.2.2, ((b.1.1, b.1.2), (b.2.1.1, b.2.1.2)))
def qab (n : Nat) (d : Int) (a : DK) (b : DI) (e : DH) (f : DJ) : Option (DK × (DI × DH × DJ) × EAD × DC × Bool) :=
 (eC a d).bind fun g =>
 (qba n g).bind fun c =>
 some (a, ((b, (e, f)), (((bK b), false), (c.1, c.2))))
def qax (n : Nat) (b : Int) (c : Bool) (d : DC) (e : Bool) : Option (Int × EAD × DC × Bool) :=
 (qag n 8 d e).bind fun a =>
 some (a.1, ((b, c), (a.2.1, a.2.2)))
def qq_B0 (n : Nat) (g h d : Int) (b : Bool) (e : DC) (f : Bool) (c : DC) : Option ((EAA × EAD × EAE × DC) ⊕ (EAD × EAE × DC)) :=
 bif (decide (h < g)) then
 bif b then
 some (Sum.inr ((d, b), ((e, f), c)))
 else
 (qax n d b e f).bind fun a =>
 bif (Nat.ble (List.length (c ++ (a.1 :: ([] : DD)))) 4294967296) then
 some (Sum.inl ((g, (dO .i64 h 1)), ((a.2.1.1, a.2.1.2), ((a.2.2.1, a.2.2.2), (c ++ (a.1 :: ([] : DD)))))))
 else none
 else
 some (Sum.inr ((d, b), ((e, f), c)))
def qq_W0 (n : Nat) (s : EAA × EAD × EAE × DC) : Option (EAD × EAE × DC) := bL (fun s => qq_B0 n s.1.1 s.1.2 s.2.1.1 s.2.1.2 s.2.2.1.1 s.2.2.1.2 s.2.2.2) n s
def qq (n : Nat) (c d : Int) (e : Bool) (f : DC) (g : Bool) : Option (DC × EAD × DC × Bool) :=
 (qo n c d e f g).bind fun a =>
 (qq_W0 n ((a.1, 0), ((a.2.1.1, a.2.1.2), ((a.2.2.1, a.2.2.2), ([] : DD))))).bind fun b =>
 some (b.2.2, ((b.1.1, b.1.2), (b.2.1.1, b.2.1.2)))
def qy (n : Nat) (d : Int) (a : DK) (b : DI) (e : DH) (f : DJ) (g : DC) : Option (DK × (DI × DH × DJ × DC) × EAD × DC × Bool) :=
 (eC a d).bind fun h =>
 (qba n h).bind fun c =>
 some (a, ((b, (e, (f, g))), (((bK b), false), (c.1, c.2))))
def qak (n : Nat) (c : Int) (d : Bool) (e : DC) (f : Bool) : Option (ByteArray × EAD × DC × Bool) :=
 (qo n 32 c d e f).bind fun a =>
 (qaw n a.1 a.2.2.1 a.2.2.2).bind fun b =>
 some ((i6 b.1), ((a.2.1.1, a.2.1.2), (b.2.1, b.2.2)))
def qr_B0 (n : Nat) (g h d : Int) (b : Bool) (e : DC) (f : Bool) (c : DE) : Option ((EAA × EAD × EAE × DE) ⊕ (EAD × EAE × DE)) :=
 bif (decide (h < g)) then
 bif b then
 some (Sum.inr ((d, b), ((e, f), c)))
 else
 (qak n d b e f).bind fun a =>
 bif (Nat.ble (List.length (c ++ (a.1 :: ([] : DF)))) 4294967296) then
 some (Sum.inl ((g, (dO .i64 h 1)), ((a.2.1.1, a.2.1.2), ((a.2.2.1, a.2.2.2), (c ++ (a.1 :: ([] : DF)))))))
 else none
 else
 some (Sum.inr ((d, b), ((e, f), c)))
def qr_W0 (n : Nat) (s : EAA × EAD × EAE × DE) : Option (EAD × EAE × DE) := bL (fun s => qr_B0 n s.1.1 s.1.2 s.2.1.1 s.2.1.2 s.2.2.1.1 s.2.2.1.2 s.2.2.2) n s
def qr (n : Nat) (c d : Int) (e : Bool) (f : DC) (g : Bool) : Option (DE × EAD × DC × Bool) :=
 (qo n c d e f g).bind fun a =>
 (qr_W0 n ((a.1, 0), ((a.2.1.1, a.2.1.2), ((a.2.2.1, a.2.2.2), ([] : DF))))).bind fun b =>
 some (b.2.2, ((b.1.1, b.1.2), (b.2.1.1, b.2.1.2)))
def qbb (n : Nat) (g : DC) : Option ((DI × DH × DJ × DC × DE) × Int) :=
 (qbt n g 5).bind fun f =>
 bif (f.2 != 0) then
 some (([], ([], ([], ([], [])))), 2)
 else
 bif ((bK f.1) != 5) then
 some (([], ([], ([], ([], [])))), 2)
 else
 (qal n 0 f.1).bind fun e =>
 (eC e.1 0).bind fun k =>
 (qba n k).bind fun h =>
 (qaz n h.1 h.2).bind fun l =>
 (qk n 8 (dL .i64 (Fp l.1 8)) e.2.1.2 e.2.2.1 e.2.2.2).bind fun m =>
 (qx n 1 e.1 m.1).bind fun d =>
 (qm n 8 d.2.2.1.1 d.2.2.1.2 d.2.2.2.1 d.2.2.2.2).bind fun o =>
 (qad n 2 d.1 d.2.1 o.1).bind fun c =>
 (qc n 8 c.2.2.1.1 c.2.2.1.2 c.2.2.2.1 c.2.2.2.2).bind fun p =>
 (qab n 3 c.1 c.2.1.1 c.2.1.2 p.1).bind fun b =>
 (qq n 16 b.2.2.1.1 b.2.2.1.2 b.2.2.2.1 b.2.2.2.2).bind fun q =>
 (qy n 4 b.1 b.2.1.1 b.2.1.2.1 b.2.1.2.2 q.1).bind fun a =>
 (qr n 16 a.2.2.1.1 a.2.2.1.2 a.2.2.2.1 a.2.2.2.2).bind fun i =>
 (qay n a.2.1.1 a.2.1.2.1 a.2.1.2.2.1 a.2.1.2.2.2 i.1).bind fun j =>
 bif (j.2 != 0) then
 some (([], ([], ([], ([], [])))), 2)
 else
 bif (!(PK (i6 j.1) (i6 g))) then
 some (([], ([], ([], ([], [])))), 2)
 else
 some ((a.2.1.1, (a.2.1.2.1, (a.2.1.2.2.1, (a.2.1.2.2.2, i.1)))), 0)
def qbs_B0 (n : Nat) (b c : DA) (d a : Int) : Option ((DA × DA × Int × Int) ⊕ EAF) :=
 bif (decide (a < d)) then
 (eC b a).bind fun e =>
 (eC c a).bind fun f =>
 bif (!((e.1 == f.1) && (e.2 == f.2))) then
 some (Sum.inr (Sum.inl false))
 else
 some (Sum.inl (b, (c, (d, (dO .i64 a 1)))))
 else
 some (Sum.inr (Sum.inr ()))
def qbs_W0 (n : Nat) (s : DA × DA × Int × Int) : Option EAF := bL (fun s => qbs_B0 n s.1 s.2.1 s.2.2.1 s.2.2.2) n s
def qbs (n : Nat) (a b : DA) : Option Bool :=
 bif ((bK a) != (bK b)) then
 some false
 else
 (qbs_W0 n (a, (b, ((bK a), 0)))).bind fun c =>
 Sum.rec (fun d =>
 some d) (fun e =>
 some true) c
def qao_B0 (n : Nat) (b c : DI) (d a : Int) : Option ((DI × DI × Int × Int) ⊕ EAF) :=
 bif (decide (a < d)) then
 (eC c a).bind fun e =>
 (eC b a).bind fun f =>
 (qbs n e f).bind fun g =>
 bif (!g) then
 some (Sum.inr (Sum.inl false))
 else
 some (Sum.inl (b, (c, (d, (dO .i64 a 1)))))
 else
 some (Sum.inr (Sum.inr ()))
def qao_W0 (n : Nat) (s : DI × DI × Int × Int) : Option EAF := bL (fun s => qao_B0 n s.1 s.2.1 s.2.2.1 s.2.2.2) n s
def qao (n : Nat) (a b : DI) : Option Bool :=
 bif ((bK a) != (bK b)) then
 some false
 else
 (qao_W0 n (b, (a, ((bK a), 0)))).bind fun c =>
 Sum.rec (fun d =>
 some d) (fun e =>
 some true) c
def qbr_B0 (n : Nat) (d e : DB) (f a : Int) : Option ((DB × DB × Int × Int) ⊕ EAF) :=
 bif (decide (a < f)) then
 (eC d a).bind fun b =>
 (eC e a).bind fun c =>
 bif (!((b.1 == c.1) && ((b.2.1 == c.2.1) && (b.2.2 == c.2.2)))) then
 some (Sum.inr (Sum.inl false))
 else
 some (Sum.inl (d, (e, (f, (dO .i64 a 1)))))
 else
 some (Sum.inr (Sum.inr ()))
def qbr_W0 (n : Nat) (s : DB × DB × Int × Int) : Option EAF := bL (fun s => qbr_B0 n s.1 s.2.1 s.2.2.1 s.2.2.2) n s
def qbr (n : Nat) (a b : DB) : Option Bool :=
 bif ((bK a) != (bK b)) then
 some false
 else
 (qbr_W0 n (a, (b, ((bK a), 0)))).bind fun c =>
 Sum.rec (fun d =>
 some d) (fun e =>
 some true) c
def qaf (n : Nat) (a : DA) (b c : Int) (d : DA) (e : DB) (f : DA) (g h : Int) (i : DA) (j : DB) : Option Bool :=
 bif ((b == g) && (c == h)) then
 (qbs n a f).bind fun k =>
 bif k then
 (qbs n d i).bind fun l =>
 bif l then
 (qbr n e j).bind fun m =>
 some m
 else
 some false
 else
 some false
 else
 some false
def qaq_B0 (n : Nat) (d e : DH) (f c : Int) : Option ((DH × DH × Int × Int) ⊕ ((Bool × EAH × DA × Int × Int × DA × DB) ⊕ Unit)) :=
 bif (decide (c < f)) then
 (eC e c).bind fun a =>
 (eC d c).bind fun b =>
 (qaf n a.1 a.2.1 a.2.2.1 a.2.2.2.1 a.2.2.2.2 b.1 b.2.1 b.2.2.1 b.2.2.2.1 b.2.2.2.2).bind fun g =>
 bif (!g) then
 some (Sum.inr (Sum.inl (false, ((a.1, (a.2.1, (a.2.2.1, (a.2.2.2.1, a.2.2.2.2)))), (b.1, (b.2.1, (b.2.2.1, (b.2.2.2.1, b.2.2.2.2))))))))
 else
 some (Sum.inl (d, (e, (f, (dO .i64 c 1)))))
 else
 some (Sum.inr (Sum.inr ()))
def qaq_W0 (n : Nat) (s : DH × DH × Int × Int) : Option ((Bool × EAH × DA × Int × Int × DA × DB) ⊕ Unit) := bL (fun s => qaq_B0 n s.1 s.2.1 s.2.2.1 s.2.2.2) n s
def qaq (n : Nat) (a b : DH) : Option Bool :=
 bif ((bK a) != (bK b)) then
 some false
 else
 (qaq_W0 n (b, (a, ((bK a), 0)))).bind fun c =>
 Sum.rec (fun d =>
 some d.1) (fun e =>
 some true) c
def qi (n : Nat) (a : DA) (b c : Int) (d : DA) (e f : Int) : Option Bool :=
 bif ((b == e) && (c == f)) then
 (qbs n a d).bind fun g =>
 some g
 else
 some false
def qae_B0 (n : Nat) (d e : DJ) (f c : Int) : Option ((DJ × DJ × Int × Int) ⊕ ((Bool × EAG × DA × Int × Int) ⊕ Unit)) :=
 bif (decide (c < f)) then
 (eC e c).bind fun a =>
 (eC d c).bind fun b =>
 (qi n a.1 a.2.1 a.2.2 b.1 b.2.1 b.2.2).bind fun g =>
 bif (!g) then
 some (Sum.inr (Sum.inl (false, ((a.1, (a.2.1, a.2.2)), (b.1, (b.2.1, b.2.2))))))
 else
 some (Sum.inl (d, (e, (f, (dO .i64 c 1)))))
 else
 some (Sum.inr (Sum.inr ()))
def qae_W0 (n : Nat) (s : DJ × DJ × Int × Int) : Option ((Bool × EAG × DA × Int × Int) ⊕ Unit) := bL (fun s => qae_B0 n s.1 s.2.1 s.2.2.1 s.2.2.2) n s
def qae (n : Nat) (a b : DJ) : Option Bool :=
 bif ((bK a) != (bK b)) then
 some false
 else
 (qae_W0 n (b, (a, ((bK a), 0)))).bind fun c =>
 Sum.rec (fun d =>
 some d.1) (fun e =>
 some true) c
def qbk_B0 (n : Nat) (b c : DC) (d a : Int) : Option ((DC × DC × Int × Int) ⊕ EAF) :=
 bif (decide (a < d)) then
 (eC b a).bind fun e =>
 (eC c a).bind fun f =>
 bif (e != f) then
 some (Sum.inr (Sum.inl false))
 else
 some (Sum.inl (b, (c, (d, (dO .i64 a 1)))))
 else
 some (Sum.inr (Sum.inr ()))
def qbk_W0 (n : Nat) (s : DC × DC × Int × Int) : Option EAF := bL (fun s => qbk_B0 n s.1 s.2.1 s.2.2.1 s.2.2.2) n s
def qbk (n : Nat) (a b : DC) : Option Bool :=
 bif ((bK a) != (bK b)) then
 some false
 else
 (qbk_W0 n (a, (b, ((bK a), 0)))).bind fun c =>
 Sum.rec (fun d =>
 some d) (fun e =>
 some true) c
def qbh_B0 (n : Nat) (b c : DE) (d a : Int) : Option ((DE × DE × Int × Int) ⊕ EAF) :=
 bif (decide (a < d)) then
 (eC b a).bind fun e =>
 (eC c a).bind fun f =>
 bif (!(PK e f)) then
 some (Sum.inr (Sum.inl false))
 else
 some (Sum.inl (b, (c, (d, (dO .i64 a 1)))))
 else
 some (Sum.inr (Sum.inr ()))
def qbh_W0 (n : Nat) (s : DE × DE × Int × Int) : Option EAF := bL (fun s => qbh_B0 n s.1 s.2.1 s.2.2.1 s.2.2.2) n s
def qbh (n : Nat) (a b : DE) : Option Bool :=
 bif ((bK a) != (bK b)) then
 some false
 else
 (qbh_W0 n (a, (b, ((bK a), 0)))).bind fun c =>
 Sum.rec (fun d =>
 some d) (fun e =>
 some true) c
def qbp (n : Nat) (a : DI) (b : DH) (c : DJ) (d : DC) (e : DE) (f : DI) (g : DH) (h : DJ) (i : DC) (j : DE) : Option Bool :=
 (qao n a f).bind fun k =>
 bif k then
 (qaq n b g).bind fun l =>
 bif l then
 (qae n c h).bind fun m =>
 bif m then
 (qbk n d i).bind fun o =>
 bif o then
 (qbh n e j).bind fun p =>
 some p
 else
 some false
 else
 some false
 else
 some false
 else
 some false
def qcf_B2 (n : Nat) (a : Int) (b : DC) (c d e : Int) : Option ((Int × DC × Int × Int × Int) ⊕ (Int × DC × Int × Int)) :=
 bif (decide (e < 8)) then
 some (Sum.inl ((Pa .u32 (NT .u32 a 1) (sL .u32 3988292384 (PJ .u32 a 1))), (b, (c, (d, (dO .i64 e 1))))))
 else
 some (Sum.inr (a, (b, (c, d))))
def qcf_W2 (n : Nat) (s : Int × DC × Int × Int × Int) : Option (Int × DC × Int × Int) := bL (fun s => qcf_B2 n s.1 s.2.1 s.2.2.1 s.2.2.2.1 s.2.2.2.2) n s
def qcf_B0 (n : Nat) (c : Int) (d : DC) (e b : Int) : Option ((Int × DC × Int × Int) ⊕ Int) :=
 bif (decide (b < e)) then
 (eC d b).bind fun f =>
 (qcf_W2 n ((Pa .u32 c (dL .u32 f)), (d, (e, (b, 0))))).bind fun a =>
 some (Sum.inl (a.1, (a.2.1, (a.2.2.1, (dO .i64 a.2.2.2 1)))))
 else
 some (Sum.inr c)
def qcf_W0 (n : Nat) (s : Int × DC × Int × Int) : Option Int := bL (fun s => qcf_B0 n s.1 s.2.1 s.2.2.1 s.2.2.2) n s
def qcf (n : Nat) (a : DC) : Option Int :=
 (qcf_W0 n (4294967295, (a, ((bK a), 0)))).bind fun b =>
 some (PS .u32 b)
def qbj (n : Nat) (b : DI) (c : DH) (d : DJ) (e : DC) (f : DE) : Option Int :=
 (qay n b c d e f).bind fun a =>
 bif (a.2 != 0) then
 some 0
 else
 (qcf n a.1).bind fun g =>
 some g
def qbe (n : Nat) : Option Bool :=
 (qay n ([] : List (List EAA)) ((([] : List EAA), (1, (0, (([] : List EAA), ((26, (0, 0)) :: ([] : List EAC)))))) :: ([] : List ((List EAA) × Int × Int × (List EAA) × List EAC))) ([] : List ((List EAA) × Int × Int)) ([] : DD) ([] : DF)).bind fun b =>
 (qbb n b.1).bind fun a =>
 bif (b.2 == 0) then
 bif (a.2 == 0) then
 bif ((bK a.1.2.1) == 1) then
 (qbp n a.1.1 a.1.2.1 a.1.2.2.1 a.1.2.2.2.1 a.1.2.2.2.2 ([] : List (List EAA)) ((([] : List EAA), (1, (0, (([] : List EAA), ((26, (0, 0)) :: ([] : List EAC)))))) :: ([] : List ((List EAA) × Int × Int × (List EAA) × List EAC))) ([] : List ((List EAA) × Int × Int)) ([] : DD) ([] : DF)).bind fun c =>
 bif c then
 (qbj n ([] : List (List EAA)) ((([] : List EAA), (1, (0, (([] : List EAA), ((26, (0, 0)) :: ([] : List EAC)))))) :: ([] : List ((List EAA) × Int × Int × (List EAA) × List EAC))) ([] : List ((List EAA) × Int × Int)) ([] : DD) ([] : DF)).bind fun d =>
 some (d != 0)
 else
 some false
 else
 some false
 else
 some false
 else
 some false
def cN (n : Nat) (e f : Int) : Option Bool :=
 (cE n (Sum.inl ((e, ((dL .i64 (b5 f 70)), (0, 0))), ((1, 0), ((([] : List EAA), (1, (0, (([] : List EAA), ((26, (0, 0)) :: ([] : List EAC)))))) :: ([] : List ((List EAA) × Int × Int × (List EAA) × List EAC))))))).bind fun g =>
 Sum.rec (fun b =>
 (qay n ([] : List (List EAA)) b.2.2 ([] : List ((List EAA) × Int × Int)) ([] : DD) ([] : DF)).bind fun c =>
 (qbe n).bind fun h =>
 bif h then
 bif ((c.2 == 0) == (decide (b.1.1 ≤ b.1.2))) then
 some ((decide ((bK c.1) > 0)) == (c.2 == 0))
 else
 some false
 else
 some false) (fun a =>
 (qay n a.2.2.1 a.2.2.2 ([] : List ((List EAA) × Int × Int)) ([] : DD) ([] : DF)).bind fun d =>
 (qbe n).bind fun i =>
 bif i then
 bif ((d.2 == 0) == (decide (a.1.1 ≤ a.1.2))) then
 some ((decide ((bK d.1) > 0)) == (d.2 == 0))
 else
 some false
 else
 some false) g
def bM (n : Nat) (d c h e f g : Int) (b : DH) : Option (EAL ⊕ EAM) :=
 bif (decide (e < c)) then
 bif (decide ((b5 d 7) = 1)) then
 bif (decide (0 < (((List.length b) : Nat) : Int))) then
 (b[0]?).bind fun a =>
 bif (Nat.ble (List.length (b ++ ((a.1, (a.2.1, (a.2.2.1, (a.2.2.2.1, a.2.2.2.2)))) :: ([] : List ((List EAA) × Int × Int × (List EAA) × List EAC))))) 4294967296) then
 some (Sum.inl ((d, (c, (7, (dO .i64 e 1)))), ((f, g), (b ++ ((a.1, (a.2.1, (a.2.2.1, (a.2.2.2.1, a.2.2.2.2)))) :: ([] : List ((List EAA) × Int × Int × (List EAA) × List EAC)))))))
 else none
 else none
 else none
 else
 some (Sum.inr ((c, h), ((f, g), b)))
def cC (n : Nat) (s : EAB × EAA × DH) : Option EAM := bL (fun s => bM n s.1.1 s.1.2.1 s.1.2.2.1 s.1.2.2.2 s.2.1.1 s.2.1.2 s.2.2) n s
def cH (n : Nat) (c d : Int) : Option Bool :=
 (cC n ((c, ((dL .i64 (b5 d 70)), (0, 0))), ((1, 0), ((([] : List EAA), (1, (0, (([] : List EAA), ((26, (0, 0)) :: ([] : List EAC)))))) :: ([] : List ((List EAA) × Int × Int × (List EAA) × List EAC)))))).bind fun a =>
 (qay n ([] : List (List EAA)) a.2.2 ([] : List ((List EAA) × Int × Int)) ([] : DD) ([] : DF)).bind fun b =>
 (qbe n).bind fun e =>
 bif e then
 bif ((b.2 == 0) == (decide (a.1.1 ≤ a.1.2))) then
 some ((decide ((bK b.1) > 0)) == (b.2 == 0))
 else
 some false
 else
 some false
def iG (n : Nat) (d c g e a b : Int) (f : DH) : Option ((EAL ⊕ EAO) ⊕ (EAM ⊕ EAT)) :=
 bif (decide (e < c)) then
 bif (decide ((b5 d 7) = 2)) then
 bif (Nat.ble (List.length ((([] : List EAA), (a, b)) :: ([] : List ((List EAA) × Int × Int)))) 4294967296) then
 some (Sum.inl (Sum.inr ((d, (c, (8, (dO .i64 e 1)))), ((a, b), (f, ((([] : List EAA), (a, b)) :: ([] : List ((List EAA) × Int × Int))))))))
 else none
 else none
 else
 some (Sum.inr (Sum.inl ((c, g), ((a, b), f))))
def iB (n : Nat) (e c h f a b : Int) (g : DH) (d : DJ) : Option ((EAL ⊕ EAO) ⊕ (EAM ⊕ EAT)) :=
 bif (decide (f < c)) then
 bif (decide ((b5 e 7) = 2)) then
 bif (Nat.ble (List.length (d ++ ((([] : List EAA), (a, b)) :: ([] : List ((List EAA) × Int × Int))))) 4294967296) then
 some (Sum.inl (Sum.inr ((e, (c, (8, (dO .i64 f 1)))), ((a, b), (g, (d ++ ((([] : List EAA), (a, b)) :: ([] : List ((List EAA) × Int × Int)))))))))
 else none
 else none
 else
 some (Sum.inr (Sum.inr ((c, h), ((a, b), (g, d)))))
def bB (n : Nat) (s : EAL ⊕ EAO) : Option ((EAL ⊕ EAO) ⊕ (EAM ⊕ EAT)) := Sum.rec (fun b => iG n b.1.1 b.1.2.1 b.1.2.2.1 b.1.2.2.2 b.2.1.1 b.2.1.2 b.2.2) (fun a => iB n a.1.1 a.1.2.1 a.1.2.2.1 a.1.2.2.2 a.2.1.1 a.2.1.2 a.2.2.1 a.2.2.2) s
def cB (n : Nat) (s : EAL ⊕ EAO) : Option (EAM ⊕ EAT) := bL (bB n) n s
def cG (n : Nat) (e f : Int) : Option Bool :=
 (cB n (Sum.inl ((e, ((dL .i64 (b5 f 70)), (0, 0))), ((1, 0), ((([] : List EAA), (1, (0, (([] : List EAA), ((26, (0, 0)) :: ([] : List EAC)))))) :: ([] : List ((List EAA) × Int × Int × (List EAA) × List EAC))))))).bind fun g =>
 Sum.rec (fun b =>
 (qay n ([] : List (List EAA)) b.2.2 ([] : List ((List EAA) × Int × Int)) ([] : DD) ([] : DF)).bind fun c =>
 (qbe n).bind fun h =>
 bif h then
 bif ((c.2 == 0) == (decide (b.1.1 ≤ b.1.2))) then
 some ((decide ((bK c.1) > 0)) == (c.2 == 0))
 else
 some false
 else
 some false) (fun a =>
 (qay n ([] : List (List EAA)) a.2.2.1 a.2.2.2 ([] : DD) ([] : DF)).bind fun d =>
 (qbe n).bind fun i =>
 bif i then
 bif ((d.2 == 0) == (decide (a.1.1 ≤ a.1.2))) then
 some ((decide ((bK d.1) > 0)) == (d.2 == 0))
 else
 some false
 else
 some false) g
def iE (n : Nat) (c b g a d e : Int) (f : DH) : Option ((EAL ⊕ EAP) ⊕ (EAM ⊕ EAU)) :=
 bif (decide (a < b)) then
 bif (decide ((b5 c 7) = 3)) then
 bif (Nat.ble (List.length ((dL .u64 a) :: ([] : DD))) 4294967296) then
 some (Sum.inl (Sum.inr ((c, (b, (16, (dO .i64 a 1)))), ((d, e), (f, ((dL .u64 a) :: ([] : DD)))))))
 else none
 else none
 else
 some (Sum.inr (Sum.inl ((b, g), ((d, e), f))))
def iA (n : Nat) (d b h a e f : Int) (g : DH) (c : DC) : Option ((EAL ⊕ EAP) ⊕ (EAM ⊕ EAU)) :=
 bif (decide (a < b)) then
 bif (decide ((b5 d 7) = 3)) then
 bif (Nat.ble (List.length (c ++ ((dL .u64 a) :: ([] : DD)))) 4294967296) then
 some (Sum.inl (Sum.inr ((d, (b, (16, (dO .i64 a 1)))), ((e, f), (g, (c ++ ((dL .u64 a) :: ([] : DD))))))))
 else none
 else none
 else
 some (Sum.inr (Sum.inr ((b, h), ((e, f), (g, c)))))
def bA (n : Nat) (s : EAL ⊕ EAP) : Option ((EAL ⊕ EAP) ⊕ (EAM ⊕ EAU)) := Sum.rec (fun b => iE n b.1.1 b.1.2.1 b.1.2.2.1 b.1.2.2.2 b.2.1.1 b.2.1.2 b.2.2) (fun a => iA n a.1.1 a.1.2.1 a.1.2.2.1 a.1.2.2.2 a.2.1.1 a.2.1.2 a.2.2.1 a.2.2.2) s
def cF (n : Nat) (s : EAL ⊕ EAP) : Option (EAM ⊕ EAU) := bL (bA n) n s
def cJ (n : Nat) (e f : Int) : Option Bool :=
 (cF n (Sum.inl ((e, ((dL .i64 (b5 f 70)), (0, 0))), ((1, 0), ((([] : List EAA), (1, (0, (([] : List EAA), ((26, (0, 0)) :: ([] : List EAC)))))) :: ([] : List ((List EAA) × Int × Int × (List EAA) × List EAC))))))).bind fun g =>
 Sum.rec (fun b =>
 (qay n ([] : List (List EAA)) b.2.2 ([] : List ((List EAA) × Int × Int)) ([] : DD) ([] : DF)).bind fun c =>
 (qbe n).bind fun h =>
 bif h then
 bif ((c.2 == 0) == (decide (b.1.1 ≤ b.1.2))) then
 some ((decide ((bK c.1) > 0)) == (c.2 == 0))
 else
 some false
 else
 some false) (fun a =>
 (qay n ([] : List (List EAA)) a.2.2.1 ([] : List ((List EAA) × Int × Int)) a.2.2.2 ([] : DF)).bind fun d =>
 (qbe n).bind fun i =>
 bif i then
 bif ((d.2 == 0) == (decide (a.1.1 ≤ a.1.2))) then
 some ((decide ((bK d.1) > 0)) == (d.2 == 0))
 else
 some false
 else
 some false) g
def iD (n : Nat) (b a g c d e : Int) (f : DH) : Option ((EAL ⊕ EAQ) ⊕ (EAM ⊕ EAV)) :=
 bif (decide (c < a)) then
 bif (decide ((b5 b 7) = 4)) then
 some (Sum.inl (Sum.inr ((b, (a, (16, (dO .i64 c 1)))), ((d, e), (f, ((ByteArray.mk (List.toArray [97])) :: ([] : DF)))))))
 else none
 else
 some (Sum.inr (Sum.inl ((a, g), ((d, e), f))))
def h9 (n : Nat) (c a h d e f : Int) (g : DH) (b : DE) : Option ((EAL ⊕ EAQ) ⊕ (EAM ⊕ EAV)) :=
 bif (decide (d < a)) then
 bif (decide ((b5 c 7) = 4)) then
 bif (Nat.ble (List.length (b ++ ((ByteArray.mk (List.toArray [97])) :: ([] : DF)))) 4294967296) then
 some (Sum.inl (Sum.inr ((c, (a, (16, (dO .i64 d 1)))), ((e, f), (g, (b ++ ((ByteArray.mk (List.toArray [97])) :: ([] : DF))))))))
 else none
 else none
 else
 some (Sum.inr (Sum.inr ((a, h), ((e, f), (g, b)))))
def bE (n : Nat) (s : EAL ⊕ EAQ) : Option ((EAL ⊕ EAQ) ⊕ (EAM ⊕ EAV)) := Sum.rec (fun b => iD n b.1.1 b.1.2.1 b.1.2.2.1 b.1.2.2.2 b.2.1.1 b.2.1.2 b.2.2) (fun a => h9 n a.1.1 a.1.2.1 a.1.2.2.1 a.1.2.2.2 a.2.1.1 a.2.1.2 a.2.2.1 a.2.2.2) s
def cA (n : Nat) (s : EAL ⊕ EAQ) : Option (EAM ⊕ EAV) := bL (bE n) n s
def cK (n : Nat) (e f : Int) : Option Bool :=
 (cA n (Sum.inl ((e, ((dL .i64 (b5 f 70)), (0, 0))), ((1, 0), ((([] : List EAA), (1, (0, (([] : List EAA), ((26, (0, 0)) :: ([] : List EAC)))))) :: ([] : List ((List EAA) × Int × Int × (List EAA) × List EAC))))))).bind fun g =>
 Sum.rec (fun b =>
 (qay n ([] : List (List EAA)) b.2.2 ([] : List ((List EAA) × Int × Int)) ([] : DD) ([] : DF)).bind fun c =>
 (qbe n).bind fun h =>
 bif h then
 bif ((c.2 == 0) == (decide (b.1.1 ≤ b.1.2))) then
 some ((decide ((bK c.1) > 0)) == (c.2 == 0))
 else
 some false
 else
 some false) (fun a =>
 (qay n ([] : List (List EAA)) a.2.2.1 ([] : List ((List EAA) × Int × Int)) ([] : DD) a.2.2.2).bind fun d =>
 (qbe n).bind fun i =>
 bif i then
 bif ((d.2 == 0) == (decide (a.1.1 ≤ a.1.2))) then
 some ((decide ((bK d.1) > 0)) == (d.2 == 0))
 else
 some false
 else
 some false) g
def bN (n : Nat) (f e i g b c : Int) (a : DH) : Option (EAL ⊕ EAM) :=
 bif (decide (g < e)) then
 bif (decide ((b5 f 7) = 5)) then
 (a[0]?).bind fun h =>
 bif (decide (0 < (((List.length a) : Nat) : Int))) then
 (a[0]?).bind fun j =>
 bif (Nat.beq 0 (Int.toNat 0)) then
 bif (Nat.ble (List.length (h.2.2.2.1 ++ ((b, c) :: ([] : List EAA)))) 4294967296) then
 bif (decide (0 < (((List.length a) : Nat) : Int))) then
 (a[0]?).bind fun k =>
 bif (Nat.beq 0 (Int.toNat 0)) then
 (a[(Int.toNat 0)]?).bind fun d =>
 some (Sum.inl ((f, (e, (8, (dO .i64 g 1)))), ((b, c), (List.set a (Int.toNat 0) (d.1, (d.2.1, (d.2.2.1, ((h.2.2.2.1 ++ ((b, c) :: ([] : List EAA))), d.2.2.2.2))))))))
 else none
 else none
 else none
 else none
 else none
 else none
 else
 some (Sum.inr ((e, i), ((b, c), a)))
def b8 (n : Nat) (s : EAB × EAA × DH) : Option EAM := bL (fun s => bN n s.1.1 s.1.2.1 s.1.2.2.1 s.1.2.2.2 s.2.1.1 s.2.1.2 s.2.2) n s
def cM (n : Nat) (d e : Int) : Option Bool :=
 (((([] : List EAA), (1, (0, (([] : List EAA), ([] : List EAC))))) :: ([] : List ((List EAA) × Int × Int × (List EAA) × List EAC)))[0]?).bind fun a =>
 (b8 n ((d, ((dL .i64 (b5 e 70)), (0, 0))), ((1, 0), (List.set ((([] : List EAA), (1, (0, (([] : List EAA), ([] : List EAC))))) :: ([] : List ((List EAA) × Int × Int × (List EAA) × List EAC))) 0 (a.1, (a.2.1, (a.2.2.1, (a.2.2.2.1, ((26, (0, 0)) :: ([] : List EAC)))))))))).bind fun b =>
 (qay n ([] : List (List EAA)) b.2.2 ([] : List ((List EAA) × Int × Int)) ([] : DD) ([] : DF)).bind fun c =>
 (qbe n).bind fun f =>
 bif f then
 bif ((c.2 == 0) == (decide (b.1.1 ≤ b.1.2))) then
 some ((decide ((bK c.1) > 0)) == (c.2 == 0))
 else
 some false
 else
 some false
def bO (n : Nat) (d c i e f g : Int) (a : DH) : Option (EAL ⊕ EAM) :=
 bif (decide (e < c)) then
 bif (decide ((b5 d 7) = 6)) then
 (a[0]?).bind fun h =>
 bif (decide (0 < (((List.length a) : Nat) : Int))) then
 (a[0]?).bind fun j =>
 bif (Nat.beq 0 (Int.toNat 0)) then
 bif (Nat.ble (List.length (h.2.2.2.2 ++ ((5, (0, 0)) :: ([] : List EAC)))) 4294967296) then
 bif (decide (0 < (((List.length a) : Nat) : Int))) then
 (a[0]?).bind fun k =>
 bif (Nat.beq 0 (Int.toNat 0)) then
 (a[(Int.toNat 0)]?).bind fun b =>
 some (Sum.inl ((d, (c, (63, (dO .i64 e 1)))), ((f, g), (List.set a (Int.toNat 0) (b.1, (b.2.1, (b.2.2.1, (b.2.2.2.1, (h.2.2.2.2 ++ ((5, (0, 0)) :: ([] : List EAC)))))))))))
 else none
 else none
 else none
 else none
 else none
 else none
 else
 some (Sum.inr ((c, i), ((f, g), a)))
def cD (n : Nat) (s : EAB × EAA × DH) : Option EAM := bL (fun s => bO n s.1.1 s.1.2.1 s.1.2.2.1 s.1.2.2.2 s.2.1.1 s.2.1.2 s.2.2) n s
def cL (n : Nat) (d e : Int) : Option Bool :=
 (((([] : List EAA), (1, (0, (([] : List EAA), ([] : List EAC))))) :: ([] : List ((List EAA) × Int × Int × (List EAA) × List EAC)))[0]?).bind fun a =>
 (cD n ((d, ((dL .i64 (b5 e 70)), (0, 0))), ((1, 0), (List.set ((([] : List EAA), (1, (0, (([] : List EAA), ([] : List EAC))))) :: ([] : List ((List EAA) × Int × Int × (List EAA) × List EAC))) 0 (a.1, (a.2.1, (a.2.2.1, (a.2.2.2.1, ((26, (0, 0)) :: ([] : List EAC)))))))))).bind fun b =>
 (qay n ([] : List (List EAA)) b.2.2 ([] : List ((List EAA) × Int × Int)) ([] : DD) ([] : DF)).bind fun c =>
 (qbe n).bind fun f =>
 bif f then
 bif ((c.2 == 0) == (decide (b.1.1 ≤ b.1.2))) then
 some ((decide ((bK c.1) > 0)) == (c.2 == 0))
 else
 some false
 else
 some false
end
end Sx
