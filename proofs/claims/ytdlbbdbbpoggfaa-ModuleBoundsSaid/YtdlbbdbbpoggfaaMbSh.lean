import Derived.Test.YtdlbbdbbpoggfaaLib6
import Derived.KernelRfl
open Go Go.Ab
set_option linter.unusedVariables false
set_option maxRecDepth 20000
namespace Sx
noncomputable section
abbrev EAA := Int × Int
abbrev EAB := Int × Int × Int × Int
abbrev EAC := Int × Int × Int
abbrev EAD := Int × Bool
abbrev DC := List Int
abbrev EAE := DC × Bool
abbrev EAF := Bool ⊕ Unit
abbrev DA := List EAA
abbrev EAG := DA × Int × Int
abbrev DB := List EAC
abbrev EAH := DA × Int × Int × DA × DB
abbrev EAI := Bool × Int
abbrev DH := List EAH
abbrev EAJ := DH × Int × Int
abbrev EAK := Int × DC × Bool
abbrev EAL := EAB × EAA × DH
abbrev EAM := EAA × EAA × DH
abbrev DI := List DA
abbrev EAN := EAB × EAA × DI × DH
abbrev DJ := List EAG
abbrev EAO := EAB × EAA × DH × DJ
abbrev EAP := EAB × EAA × DH × DC
abbrev DE := List ByteArray
abbrev EAQ := EAB × EAA × DH × DE
abbrev EAR := EAA ⊕ Int
abbrev EAS := EAA × EAA × DI × DH
abbrev EAT := EAA × EAA × DH × DJ
abbrev EAU := EAA × EAA × DH × DC
abbrev EAV := EAA × EAA × DH × DE
abbrev DD := List Int
abbrev DF := List ByteArray
abbrev DG := List (Nat × Int × Int)
abbrev DK := List DC
def h9 (n : Nat) (b a g c d e : Int) (f : DH) : Option ((EAL ⊕ EAN) ⊕ (EAM ⊕ EAS)) :=
 bif (decide (c < a)) then
 bif (decide ((b5 b 7) = 0)) then
 some (Sum.inl (Sum.inr ((b, (a, (8, (dN .i64 c 1)))), ((d, e), ((([] : List EAA) :: ([] : List (List EAA))), f)))))
 else none
 else
 some (Sum.inr (Sum.inl ((a, g), ((d, e), f))))
def iD (n : Nat) (c a h d e f : Int) (b : DI) (g : DH) : Option ((EAL ⊕ EAN) ⊕ (EAM ⊕ EAS)) :=
 bif (decide (d < a)) then
 bif (decide ((b5 c 7) = 0)) then
 bif (Nat.ble (List.length (b ++ (([] : List EAA) :: ([] : List (List EAA))))) 4294967296) then
 some (Sum.inl (Sum.inr ((c, (a, (8, (dN .i64 d 1)))), ((e, f), ((b ++ (([] : List EAA) :: ([] : List (List EAA)))), g)))))
 else none
 else none
 else
 some (Sum.inr (Sum.inr ((a, h), ((e, f), (b, g)))))
def bD (n : Nat) (s : EAL ⊕ EAN) : Option ((EAL ⊕ EAN) ⊕ (EAM ⊕ EAS)) := Sum.rec (fun b => h9 n b.1.1 b.1.2.1 b.1.2.2.1 b.1.2.2.2 b.2.1.1 b.2.1.2 b.2.2) (fun a => iD n a.1.1 a.1.2.1 a.1.2.2.1 a.1.2.2.2 a.2.1.1 a.2.1.2 a.2.2.1 a.2.2.2) s
def cA (n : Nat) (s : EAL ⊕ EAN) : Option (EAM ⊕ EAS) := bL (bD n) n s
def qbx (n : Nat) (b a c : Int) : Option Bool :=
 bif (b == 1) then
 some (a == 0)
 else
 bif (b == 2) then
 some (a == 0)
 else
 bif (b == 3) then
 some (a == 0)
 else
 bif (b == 7) then
 some (a == 0)
 else
 bif (b == 4) then
 bif (decide (a ≥ 0)) then
 some (decide (a < c))
 else
 some false
 else
 bif (b == 5) then
 bif (decide (a ≥ 0)) then
 some (decide (a < 4))
 else
 some false
 else
 some false
def qbf (n : Nat) (b c a : Int) : Option EAI :=
 (qbx n b c a).bind fun d =>
 some ((!d), a)
def qaj_B0 (n : Nat) (c : DA) (d a e : Int) : Option ((EAG × Int) ⊕ EAR) :=
 bif (decide (a < d)) then
 (eC c a).bind fun f =>
 (qbf n f.1 f.2 e).bind fun b =>
 bif b.1 then
 some (Sum.inr (Sum.inl (a, b.2)))
 else
 some (Sum.inl ((c, (d, (dN .i64 a 1))), b.2))
 else
 some (Sum.inr (Sum.inr e))
def qaj_W0 (n : Nat) (s : EAG × Int) : Option EAR := bL (fun s => qaj_B0 n s.1.1 s.1.2.1 s.1.2.2 s.2) n s
def qaj (n : Nat) (a : DA) (c : Int) : Option EAA :=
 (qaj_W0 n ((a, ((bK a), 0)), c)).bind fun d =>
 Sum.rec (fun b =>
 some (b.1, b.2)) (fun e =>
 some ((-1), e)) d
def qu (n : Nat) (b : DA) (c : Int) : Option EAI :=
 (qaj n b c).bind fun a =>
 some ((decide (a.1 ≥ 0)), a.2)
def qbp (n : Nat) (a : DA) (b c : Int) : Option Bool :=
 bif (decide ((bK a) ≤ c)) then
 (qu n a b).bind fun d =>
 some (!d.1)
 else
 some false
def qbk (n : Nat) (b : DA) (a : Int) : Option EAI :=
 (qbp n b a 6).bind fun c =>
 some ((!c), a)
def qaf_B0 (n : Nat) (c : DI) (d a e : Int) : Option (((DI × Int × Int) × Int) ⊕ EAR) :=
 bif (decide (a < d)) then
 (eC c a).bind fun f =>
 (qbk n f e).bind fun b =>
 bif b.1 then
 some (Sum.inr (Sum.inl (a, b.2)))
 else
 some (Sum.inl ((c, (d, (dN .i64 a 1))), b.2))
 else
 some (Sum.inr (Sum.inr e))
def qaf_W0 (n : Nat) (s : (DI × Int × Int) × Int) : Option EAR := bL (fun s => qaf_B0 n s.1.1 s.1.2.1 s.1.2.2 s.2) n s
def qaf (n : Nat) (a : DI) (c : Int) : Option EAA :=
 (qaf_W0 n ((a, ((bK a), 0)), c)).bind fun d =>
 Sum.rec (fun b =>
 some (b.1, b.2)) (fun e =>
 some ((-1), e)) d
def qh (n : Nat) (b : DI) (c : Int) : Option EAI :=
 (qaf n b c).bind fun a =>
 some ((decide (a.1 ≥ 0)), a.2)
def qby (n : Nat) (a : Int) : Option Int :=
 bif (a == 29) then
 some 2
 else
 bif (a == 30) then
 some 2
 else
 bif (a == 0) then
 some 1
 else
 bif (a == 1) then
 some 1
 else
 bif (a == 3) then
 some 1
 else
 bif (a == 4) then
 some 1
 else
 bif (a == 23) then
 some 1
 else
 bif (a == 24) then
 some 1
 else
 bif (a == 25) then
 some 1
 else
 bif (a == 27) then
 some 1
 else
 bif (a == 28) then
 some 1
 else
 bif (decide (a < 0)) then
 some (-1)
 else
 bif (decide (a ≥ 42)) then
 some (-1)
 else
 some 0
def qca (n : Nat) (a : Int) (b : Bool) : Option Bool :=
 bif (decide (a ≥ 0)) then
 bif (decide (a ≤ 255)) then
 bif b then
 some true
 else
 some (a == 0)
 else
 some false
 else
 some false
def qce_B0 (n : Nat) (a : Int) (b : DC) : Option ((Int × DC) ⊕ (Int × DC)) :=
 bif (decide (a ≥ 128)) then
 bif (Nat.ble (List.length (b ++ ((JL .u8 (dO .u8 a) 128) :: ([] : DD)))) 4294967296) then
 some (Sum.inl ((NF .u64 a 7), (b ++ ((JL .u8 (dO .u8 a) 128) :: ([] : DD)))))
 else none
 else
 some (Sum.inr (a, b))
def qce_W0 (n : Nat) (s : Int × DC) : Option (Int × DC) := bL (fun s => qce_B0 n s.1 s.2) n s
def qce (n : Nat) (b : Int) : Option DC :=
 (qce_W0 n (b, ([] : DD))).bind fun a =>
 bif (Nat.ble (List.length (a.2 ++ ((dO .u8 a.1) :: ([] : DD)))) 4294967296) then
 some (a.2 ++ ((dO .u8 a.1) :: ([] : DD)))
 else none
def qcc_B0 (n : Nat) (a : Nat × Nat) (f b : Int) (c : DC) (d e : Int) : Option ((((Nat × Nat) × Int × Int) × DC × Int × Int) ⊕ (DC × Int × Int)) :=
 bif (decide (b < f)) then
 bif ((decide (0 ≤ b)) && (decide (b < ((a.2 : Nat) : Int)))) then
 bif (Nat.beq (((a.1 + (Int.toNat b)) * 1) + 0) 0) then
 (qce n (dO .u64 d)).bind fun g =>
 bif (Nat.ble (List.length (c ++ g)) 4294967296) then
 some (Sum.inl (((a.1, a.2), (f, (dN .i64 b 1))), ((c ++ g), (d, e))))
 else none
 else
 bif (Nat.beq (((a.1 + (Int.toNat b)) * 1) + 0) 1) then
 (qce n (dO .u64 e)).bind fun h =>
 bif (Nat.ble (List.length (c ++ h)) 4294967296) then
 some (Sum.inl (((a.1, a.2), (f, (dN .i64 b 1))), ((c ++ h), (d, e))))
 else none
 else none
 else none
 else
 some (Sum.inr (c, (d, e)))
def qcc_W0 (n : Nat) (s : ((Nat × Nat) × Int × Int) × DC × Int × Int) : Option (DC × Int × Int) := bL (fun s => qcc_B0 n s.1.1 s.1.2.1 s.1.2.2 s.2.1 s.2.2.1 s.2.2.2) n s
def qcc (n : Nat) (b c d : Int) : Option DC :=
 (qby n b).bind fun a =>
 bif (decide (a < 0)) then
 some ([] : DD)
 else
 (qca n c (decide (a > 0))).bind fun e =>
 bif (!e) then
 some ([] : DD)
 else
 (qca n d (decide (a > 1))).bind fun f =>
 bif (!f) then
 some ([] : DD)
 else
 bif ((decide (0 ≤ a)) && (decide (a ≤ 2))) then
 (qcc_W0 n (((0, ((Int.toNat a) - 0)), (((((Int.toNat a) - 0) : Nat) : Int), 0)), (((dO .u8 b) :: ([] : DD)), (c, d)))).bind fun g =>
 some g.1
 else none
def qai (n : Nat) (a b c : Int) : Option Bool :=
 (qcc n a b c).bind fun d =>
 some ((bK d) == 0)
def qag_B0 (n : Nat) (c : DB) (d a : Int) : Option ((DB × Int × Int) ⊕ (Int ⊕ Unit)) :=
 bif (decide (a < d)) then
 (eC c a).bind fun b =>
 (qai n b.1 b.2.1 b.2.2).bind fun e =>
 bif e then
 some (Sum.inr (Sum.inl a))
 else
 some (Sum.inl (c, (d, (dN .i64 a 1))))
 else
 some (Sum.inr (Sum.inr ()))
def qag_W0 (n : Nat) (s : DB × Int × Int) : Option (Int ⊕ Unit) := bL (fun s => qag_B0 n s.1 s.2.1 s.2.2) n s
def qag (n : Nat) (a : DB) : Option Int :=
 (qag_W0 n (a, ((bK a), 0))).bind fun b =>
 Sum.rec (fun c =>
 some c) (fun d =>
 some (-1)) b
def qm (n : Nat) (a : DB) : Option Bool :=
 (qag n a).bind fun b =>
 some (decide (b ≥ 0))
def qak (n : Nat) (c : DA) (d e : Int) (f : DA) (a : DB) (b : Int) : Option Bool :=
 (qbp n c b 4).bind fun g =>
 bif g then
 (qbx n d e b).bind fun h =>
 bif h then
 (qbp n f b (Pb .i64 8 (bK c))).bind fun i =>
 bif i then
 bif (decide ((bK a) ≥ 1)) then
 bif (decide ((bK a) ≤ 64)) then
 (qm n a).bind fun j =>
 some (!j)
 else
 some false
 else
 some false
 else
 some false
 else
 some false
 else
 some false
def qbl (n : Nat) (b : DA) (c d : Int) (e : DA) (f : DB) (a : Int) : Option EAI :=
 (qak n b c d e f a).bind fun g =>
 some ((!g), a)
def qao_B0 (n : Nat) (d : DH) (e b f : Int) : Option ((EAJ × Int) ⊕ EAR) :=
 bif (decide (b < e)) then
 (eC d b).bind fun a =>
 (qbl n a.1 a.2.1 a.2.2.1 a.2.2.2.1 a.2.2.2.2 f).bind fun c =>
 bif c.1 then
 some (Sum.inr (Sum.inl (b, c.2)))
 else
 some (Sum.inl ((d, (e, (dN .i64 b 1))), c.2))
 else
 some (Sum.inr (Sum.inr f))
def qao_W0 (n : Nat) (s : EAJ × Int) : Option EAR := bL (fun s => qao_B0 n s.1.1 s.1.2.1 s.1.2.2 s.2) n s
def qao (n : Nat) (a : DH) (c : Int) : Option EAA :=
 (qao_W0 n ((a, ((bK a), 0)), c)).bind fun d =>
 Sum.rec (fun b =>
 some (b.1, b.2)) (fun e =>
 some ((-1), e)) d
def qq (n : Nat) (b : DH) (c : Int) : Option EAI :=
 (qao n b c).bind fun a =>
 some ((decide (a.1 ≥ 0)), a.2)
def qbj (n : Nat) (b : DA) (c d a : Int) : Option EAI :=
 (qbp n b a 4).bind fun e =>
 bif (!e) then
 some (true, a)
 else
 (qbx n c d a).bind fun f =>
 some ((!f), a)
def qac_B0 (n : Nat) (d : DJ) (e a f : Int) : Option (((DJ × Int × Int) × Int) ⊕ EAR) :=
 bif (decide (a < e)) then
 (eC d a).bind fun b =>
 (qbj n b.1 b.2.1 b.2.2 f).bind fun c =>
 bif c.1 then
 some (Sum.inr (Sum.inl (a, c.2)))
 else
 some (Sum.inl ((d, (e, (dN .i64 a 1))), c.2))
 else
 some (Sum.inr (Sum.inr f))
def qac_W0 (n : Nat) (s : (DJ × Int × Int) × Int) : Option EAR := bL (fun s => qac_B0 n s.1.1 s.1.2.1 s.1.2.2 s.2) n s
def qac (n : Nat) (a : DJ) (c : Int) : Option EAA :=
 (qac_W0 n ((a, ((bK a), 0)), c)).bind fun d =>
 Sum.rec (fun b =>
 some (b.1, b.2)) (fun e =>
 some ((-1), e)) d
def qf (n : Nat) (b : DJ) (c : Int) : Option EAI :=
 (qac n b c).bind fun a =>
 some ((decide (a.1 ≥ 0)), a.2)
def qbm (n : Nat) (a : ByteArray) : Option Bool :=
 some (decide ((Pl a) > 32))
def qab_B0 (n : Nat) (b : DE) (c a : Int) : Option ((DE × Int × Int) ⊕ (Int ⊕ Unit)) :=
 bif (decide (a < c)) then
 (eC b a).bind fun d =>
 (qbm n d).bind fun e =>
 bif e then
 some (Sum.inr (Sum.inl a))
 else
 some (Sum.inl (b, (c, (dN .i64 a 1))))
 else
 some (Sum.inr (Sum.inr ()))
def qab_W0 (n : Nat) (s : DE × Int × Int) : Option (Int ⊕ Unit) := bL (fun s => qab_B0 n s.1 s.2.1 s.2.2) n s
def qab (n : Nat) (a : DE) : Option Int :=
 (qab_W0 n (a, ((bK a), 0))).bind fun b =>
 Sum.rec (fun c =>
 some c) (fun d =>
 some (-1)) b
def qg (n : Nat) (a : DE) : Option Bool :=
 (qab n a).bind fun b =>
 some (decide (b ≥ 0))
def qbo (n : Nat) (a : DI) (b : DH) (c : DJ) (g : DC) (d : DE) : Option Bool :=
 bif (decide ((bK a) ≤ 8)) then
 (qh n a (bK a)).bind fun e =>
 bif (!e.1) then
 bif (decide ((bK b) ≥ 1)) then
 bif (decide ((bK b) ≤ 8)) then
 (qq n b e.2).bind fun f =>
 bif (!f.1) then
 bif (decide ((bK c) ≤ 8)) then
 (qf n c f.2).bind fun h =>
 bif (!h.1) then
 bif (decide ((bK g) ≤ 16)) then
 bif (decide ((bK d) ≤ 16)) then
 (qg n d).bind fun i =>
 some (!i)
 else
 some false
 else
 some false
 else
 some false
 else
 some false
 else
 some false
 else
 some false
 else
 some false
 else
 some false
 else
 some false
def qo (n : Nat) (b : Int) : Option DC :=
 (qce n (dO .u64 b)).bind fun a =>
 bif (Nat.ble (List.length a) 4294967296) then
 some a
 else none
def qb (n : Nat) (c : Int) (a : DC) : Option DC :=
 (qce n (dO .u64 c)).bind fun b =>
 bif (Nat.ble (List.length (a ++ b)) 4294967296) then
 some (a ++ b)
 else none
def qbz (n : Nat) (c d : Int) : Option DC :=
 (qce n (dO .u64 (CN c 0))).bind fun a =>
 (qce n (dO .u64 (CN d 0))).bind fun b =>
 bif (Nat.ble (List.length (a ++ b)) 4294967296) then
 some (a ++ b)
 else none
def ql_B0 (n : Nat) (c : DA) (d a : Int) (b : DC) : Option ((EAG × DC) ⊕ DC) :=
 bif (decide (a < d)) then
 (eC c a).bind fun e =>
 (qbz n e.1 e.2).bind fun f =>
 bif (Nat.ble (List.length (b ++ f)) 4294967296) then
 some (Sum.inl ((c, (d, (dN .i64 a 1))), (b ++ f)))
 else none
 else
 some (Sum.inr b)
def ql_W0 (n : Nat) (s : EAG × DC) : Option DC := bL (fun s => ql_B0 n s.1.1 s.1.2.1 s.1.2.2 s.2) n s
def ql (n : Nat) (a : DA) (b : DC) : Option DC :=
 (qb n (bK a) b).bind fun c =>
 (ql_W0 n ((a, ((bK a), 0)), c)).bind fun d =>
 some d
def qaq_B0 (n : Nat) (b : DI) (c a : Int) (d : DC) : Option (((DI × Int × Int) × DC) ⊕ DC) :=
 bif (decide (a < c)) then
 (eC b a).bind fun e =>
 (ql n e d).bind fun f =>
 some (Sum.inl ((b, (c, (dN .i64 a 1))), f))
 else
 some (Sum.inr d)
def qaq_W0 (n : Nat) (s : (DI × Int × Int) × DC) : Option DC := bL (fun s => qaq_B0 n s.1.1 s.1.2.1 s.1.2.2 s.2) n s
def qaq (n : Nat) (a : DI) (d : DH) (e : DJ) (f : DC) (g : DE) : Option DC :=
 (qo n (bK a)).bind fun b =>
 (qaq_W0 n ((a, ((bK a), 0)), b)).bind fun c =>
 some c
def qad_B2 (n : Nat) (d : DH) (e f : Int) (g : DB) (h a : Int) (b : DC) : Option (((DH × Int × Int × DB × Int × Int) × DC) ⊕ (EAJ × DC)) :=
 bif (decide (a < h)) then
 (eC g a).bind fun c =>
 (qcc n c.1 c.2.1 c.2.2).bind fun i =>
 bif (Nat.ble (List.length (b ++ i)) 4294967296) then
 some (Sum.inl ((d, (e, (f, (g, (h, (dN .i64 a 1)))))), (b ++ i)))
 else none
 else
 some (Sum.inr ((d, (e, f)), b))
def qad_W2 (n : Nat) (s : (DH × Int × Int × DB × Int × Int) × DC) : Option (EAJ × DC) := bL (fun s => qad_B2 n s.1.1 s.1.2.1 s.1.2.2.1 s.1.2.2.2.1 s.1.2.2.2.2.1 s.1.2.2.2.2.2 s.2) n s
def qad_B0 (n : Nat) (d : DH) (e c : Int) (f : DC) : Option ((EAJ × DC) ⊕ DC) :=
 bif (decide (c < e)) then
 (eC d c).bind fun a =>
 (ql n a.1 f).bind fun g =>
 (qbz n a.2.1 a.2.2.1).bind fun h =>
 bif (Nat.ble (List.length (g ++ h)) 4294967296) then
 (ql n a.2.2.2.1 (g ++ h)).bind fun i =>
 (qb n (bK a.2.2.2.2) i).bind fun j =>
 (qad_W2 n ((d, (e, (c, (a.2.2.2.2, ((bK a.2.2.2.2), 0))))), j)).bind fun b =>
 some (Sum.inl ((b.1.1, (b.1.2.1, (dN .i64 b.1.2.2 1))), b.2))
 else none
 else
 some (Sum.inr f)
def qad_W0 (n : Nat) (s : EAJ × DC) : Option DC := bL (fun s => qad_B0 n s.1.1 s.1.2.1 s.1.2.2 s.2) n s
def qad (n : Nat) (d : DI) (a : DH) (e : DJ) (f : DC) (g : DE) : Option DC :=
 (qo n (bK a)).bind fun b =>
 (qad_W0 n ((a, ((bK a), 0)), b)).bind fun c =>
 some c
def qan_B0 (n : Nat) (c : DJ) (d a : Int) (e : DC) : Option (((DJ × Int × Int) × DC) ⊕ DC) :=
 bif (decide (a < d)) then
 (eC c a).bind fun b =>
 (ql n b.1 e).bind fun f =>
 (qbz n b.2.1 b.2.2).bind fun g =>
 bif (Nat.ble (List.length (f ++ g)) 4294967296) then
 some (Sum.inl ((c, (d, (dN .i64 a 1))), (f ++ g)))
 else none
 else
 some (Sum.inr e)
def qan_W0 (n : Nat) (s : (DJ × Int × Int) × DC) : Option DC := bL (fun s => qan_B0 n s.1.1 s.1.2.1 s.1.2.2 s.2) n s
def qan (n : Nat) (d : DI) (e : DH) (a : DJ) (f : DC) (g : DE) : Option DC :=
 (qo n (bK a)).bind fun b =>
 (qan_W0 n ((a, ((bK a), 0)), b)).bind fun c =>
 some c
def qbw_B0 (n : Nat) (b d a : Int) (c : DC) : Option ((EAC × DC) ⊕ DC) :=
 bif (decide (a < d)) then
 bif (decide (0 ≤ (r6 .i64 8 a))) then
 bif (Nat.ble (List.length (c ++ ((dO .u8 (NF .u64 b (r6 .i64 8 a))) :: ([] : DD)))) 4294967296) then
 some (Sum.inl ((b, (d, (dN .i64 a 1))), (c ++ ((dO .u8 (NF .u64 b (r6 .i64 8 a))) :: ([] : DD)))))
 else none
 else none
 else
 some (Sum.inr c)
def qbw_W0 (n : Nat) (s : EAC × DC) : Option DC := bL (fun s => qbw_B0 n s.1.1 s.1.2.1 s.1.2.2 s.2) n s
def qbw (n : Nat) (a b : Int) : Option DC :=
 (qbw_W0 n ((a, ((Fr (CN b 0) 8), 0)), ([] : DD))).bind fun c =>
 some c
def qap_B0 (n : Nat) (c : DC) (d a : Int) (b : DC) : Option (((DC × Int × Int) × DC) ⊕ DC) :=
 bif (decide (a < d)) then
 (eC c a).bind fun f =>
 (qbw n f 8).bind fun e =>
 bif (Nat.ble (List.length (b ++ e)) 4294967296) then
 some (Sum.inl ((c, (d, (dN .i64 a 1))), (b ++ e)))
 else none
 else
 some (Sum.inr b)
def qap_W0 (n : Nat) (s : (DC × Int × Int) × DC) : Option DC := bL (fun s => qap_B0 n s.1.1 s.1.2.1 s.1.2.2 s.2) n s
def qap (n : Nat) (d : DI) (e : DH) (f : DJ) (a : DC) (g : DE) : Option DC :=
 (qo n (bK a)).bind fun b =>
 (qap_W0 n ((a, ((bK a), 0)), b)).bind fun c =>
 some c
def qbi_B0 (n : Nat) (c : DE) (d a : Int) (e : DC) : Option (((DE × Int × Int) × DC) ⊕ DC) :=
 bif (decide (a < d)) then
 (eC c a).bind fun b =>
 (qb n (Pl b) e).bind fun f =>
 bif (Nat.ble (List.length (f ++ (e9 b))) 4294967296) then
 some (Sum.inl ((c, (d, (dN .i64 a 1))), (f ++ (e9 b))))
 else none
 else
 some (Sum.inr e)
def qbi_W0 (n : Nat) (s : (DE × Int × Int) × DC) : Option DC := bL (fun s => qbi_B0 n s.1.1 s.1.2.1 s.1.2.2 s.2) n s
def qbi (n : Nat) (d : DI) (e : DH) (f : DJ) (g : DC) (a : DE) : Option DC :=
 (qo n (bK a)).bind fun b =>
 (qbi_W0 n ((a, ((bK a), 0)), b)).bind fun c =>
 some c
def qbv_B0 (n : Nat) (e : DK) (f b : Int) (a : DC) : Option (((DK × Int × Int) × DC) ⊕ DC) :=
 bif (decide (b < f)) then
 (eC e b).bind fun c =>
 (qce n (dO .u64 (bK c))).bind fun d =>
 bif (Nat.ble (List.length (a ++ d)) 4294967296) then
 bif (Nat.ble (List.length ((a ++ d) ++ c)) 4294967296) then
 some (Sum.inl ((e, (f, (dN .i64 b 1))), ((a ++ d) ++ c)))
 else none
 else none
 else
 some (Sum.inr a)
def qbv_W0 (n : Nat) (s : (DK × Int × Int) × DC) : Option DC := bL (fun s => qbv_B0 n s.1.1 s.1.2.1 s.1.2.2 s.2) n s
def qbv (n : Nat) (a : DK) : Option DC :=
 (qce n (dO .u64 (bK a))).bind fun b =>
 (qbv_W0 n ((a, ((bK a), 0)), b)).bind fun c =>
 some c
def qbd (n : Nat) (a : DI) (b : DH) (c : DJ) (d : DC) (e : DE) : Option (DC × Int) :=
 (qbo n a b c d e).bind fun f =>
 bif (!f) then
 some (([] : DD), 2)
 else
 (qaq n a b c d e).bind fun g =>
 (qad n a b c d e).bind fun h =>
 (qan n a b c d e).bind fun i =>
 (qap n a b c d e).bind fun j =>
 (qbi n a b c d e).bind fun k =>
 (qbv n (g :: (h :: (i :: (j :: (k :: ([] : DK))))))).bind fun l =>
 some (l, 0)
def qay (n : Nat) (a : DC) : Option EAE :=
 bif (Nat.ble (List.length a) 4294967296) then
 some (a, false)
 else none
def qba (n : Nat) (b : DC) (a : Bool) : Option (Bool × DC × Bool) :=
 some (a, (b, a))
def qat (n : Nat) (a : DC) (b : Bool) : Option EAE :=
 some (a, true)
def qax (n : Nat) (b : Int) (f : DC) (g : Bool) : Option (DC × DC × Bool) :=
 (qba n f g).bind fun a =>
 bif a.1 then
 (qat n a.2.1 a.2.2).bind fun c =>
 some (([] : DD), (c.1, c.2))
 else
 bif (decide (b < 0)) then
 (qat n a.2.1 a.2.2).bind fun d =>
 some (([] : DD), (d.1, d.2))
 else
 bif (decide (b > (bK a.2.1))) then
 (qat n a.2.1 a.2.2).bind fun e =>
 some (([] : DD), (e.1, e.2))
 else
 bif ((decide (0 ≤ b)) && (decide (b ≤ (((List.length a.2.1) : Nat) : Int)))) then
 bif (Nat.ble (List.length (List.take (Int.toNat b) a.2.1)) 4294967296) then
 bif ((decide (0 ≤ b)) && (decide (b ≤ (((List.length a.2.1) : Nat) : Int)))) then
 some ((List.take (Int.toNat b) a.2.1), ((List.drop (Int.toNat b) (List.take (List.length a.2.1) a.2.1)), a.2.2))
 else none
 else none
 else none
def qbb_B0 (n : Nat) (d b : Int) (h : DC) (i : Bool) : Option ((EAA × DC × Bool) ⊕ EAK) :=
 (qax n 1 h i).bind fun a =>
 bif ((bK a.1) == 0) then
 some (Sum.inr (0, (a.2.1, a.2.2)))
 else
 (eC a.1 0).bind fun c =>
 bif (b == 9) then
 bif (decide (c > 1)) then
 (qat n a.2.1 a.2.2).bind fun e =>
 some (Sum.inr (0, (e.1, e.2)))
 else
 bif (decide (b > 0)) then
 bif (c == 0) then
 (qat n a.2.1 a.2.2).bind fun f =>
 some (Sum.inr (0, (f.1, f.2)))
 else
 bif (decide (0 ≤ (r6 .i64 7 b))) then
 bif (decide (c < 128)) then
 some (Sum.inr ((JL .u64 d (Hr .u64 (dO .u64 (l3 .u8 c 128)) (r6 .i64 7 b))), (a.2.1, a.2.2)))
 else
 some (Sum.inl (((JL .u64 d (Hr .u64 (dO .u64 (l3 .u8 c 128)) (r6 .i64 7 b))), (dN .i64 b 1)), (a.2.1, a.2.2)))
 else none
 else
 bif (decide (0 ≤ (r6 .i64 7 b))) then
 bif (decide (c < 128)) then
 some (Sum.inr ((JL .u64 d (Hr .u64 (dO .u64 (l3 .u8 c 128)) (r6 .i64 7 b))), (a.2.1, a.2.2)))
 else
 some (Sum.inl (((JL .u64 d (Hr .u64 (dO .u64 (l3 .u8 c 128)) (r6 .i64 7 b))), (dN .i64 b 1)), (a.2.1, a.2.2)))
 else none
 else
 bif (decide (b > 0)) then
 bif (c == 0) then
 (qat n a.2.1 a.2.2).bind fun g =>
 some (Sum.inr (0, (g.1, g.2)))
 else
 bif (decide (0 ≤ (r6 .i64 7 b))) then
 bif (decide (c < 128)) then
 some (Sum.inr ((JL .u64 d (Hr .u64 (dO .u64 (l3 .u8 c 128)) (r6 .i64 7 b))), (a.2.1, a.2.2)))
 else
 some (Sum.inl (((JL .u64 d (Hr .u64 (dO .u64 (l3 .u8 c 128)) (r6 .i64 7 b))), (dN .i64 b 1)), (a.2.1, a.2.2)))
 else none
 else
 bif (decide (0 ≤ (r6 .i64 7 b))) then
 bif (decide (c < 128)) then
 some (Sum.inr ((JL .u64 d (Hr .u64 (dO .u64 (l3 .u8 c 128)) (r6 .i64 7 b))), (a.2.1, a.2.2)))
 else
 some (Sum.inl (((JL .u64 d (Hr .u64 (dO .u64 (l3 .u8 c 128)) (r6 .i64 7 b))), (dN .i64 b 1)), (a.2.1, a.2.2)))
 else none
def qbb_W0 (n : Nat) (s : EAA × DC × Bool) : Option EAK := bL (fun s => qbb_B0 n s.1.1 s.1.2 s.2.1 s.2.2) n s
def qbb (n : Nat) (b : DC) (c : Bool) : Option EAK :=
 (qbb_W0 n ((0, 0), (b, c))).bind fun a =>
 some (a.1, (a.2.1, a.2.2))
def qbs (n : Nat) (c : Int) (d : DC) (e : Bool) : Option (EAD × DC × Bool) :=
 (qbb n d e).bind fun b =>
 (qba n b.2.1 b.2.2).bind fun a =>
 bif (!a.1) then
 bif (decide (c ≥ 0)) then
 some (((dO .i64 (Fr b.1 (dO .u64 (CN c 0)))), (decide (b.1 ≤ (dO .u64 c)))), (a.2.1, a.2.2))
 else
 some (((dO .i64 (Fr b.1 (dO .u64 (CN c 0)))), false), (a.2.1, a.2.2))
 else
 some (((dO .i64 (Fr b.1 (dO .u64 (CN c 0)))), false), (a.2.1, a.2.2))
def qam (n : Nat) (b : DC) (c : Bool) : Option EAK :=
 (qba n b c).bind fun a =>
 bif a.1 then
 some (0, (a.2.1, a.2.2))
 else
 some ((bK a.2.1), (a.2.1, a.2.2))
def qbu_B0 (n : Nat) (f g : Int) (h : DC) (i : Bool) (b : DK) : Option ((EAA × EAE × DK) ⊕ (((DK × Int) × EAE × DK) ⊕ (((DK × Int) × EAE × DK) ⊕ (EAE × DK)))) :=
 bif (decide (g < f)) then
 (qam n h i).bind fun e =>
 (qbs n e.1 e.2.1 e.2.2).bind fun a =>
 bif (!a.1.2) then
 some (Sum.inr (Sum.inl ((([] : DK), 2), ((a.2.1, a.2.2), b))))
 else
 (qax n a.1.1 a.2.1 a.2.2).bind fun c =>
 bif (Nat.ble (List.length (b ++ (c.1 :: ([] : DK)))) 4294967296) then
 (qba n c.2.1 c.2.2).bind fun d =>
 bif d.1 then
 some (Sum.inr (Sum.inr (Sum.inl ((([] : DK), 2), ((d.2.1, d.2.2), (b ++ (c.1 :: ([] : DK))))))))
 else
 some (Sum.inl ((f, (dN .i64 g 1)), ((d.2.1, d.2.2), (b ++ (c.1 :: ([] : DK))))))
 else none
 else
 some (Sum.inr (Sum.inr (Sum.inr ((h, i), b))))
def qbu_W0 (n : Nat) (s : EAA × EAE × DK) : Option (((DK × Int) × EAE × DK) ⊕ (((DK × Int) × EAE × DK) ⊕ (EAE × DK))) := bL (fun s => qbu_B0 n s.1.1 s.1.2 s.2.1.1 s.2.1.2 s.2.2) n s
def qbu (n : Nat) (f : DC) (g : Int) : Option (DK × Int) :=
 (qay n f).bind fun c =>
 (qbs n g c.1 c.2).bind fun a =>
 bif (!a.1.2) then
 some (([] : DK), 2)
 else
 (qbu_W0 n ((a.1.1, 0), ((a.2.1, a.2.2), ([] : DK)))).bind fun h =>
 Sum.rec (fun d =>
 some (d.1.1, d.1.2)) (fun i =>
 Sum.rec (fun e =>
 some (e.1.1, e.1.2)) (fun b =>
 (qam n b.1.1 b.1.2).bind fun j =>
 bif (decide (j.1 > 0)) then
 some (([] : DK), 2)
 else
 some (b.2, 0)) i) h
def qas (n : Nat) (c : Int) (a : DK) : Option (DK × EAD × DC × Bool) :=
 (eC a c).bind fun d =>
 (qay n d).bind fun b =>
 some (a, ((0, false), (b.1, b.2)))
def qj (n : Nat) (d c : Int) (e : Bool) (f : DC) (g : Bool) : Option (Int × EAD × DC × Bool) :=
 (qbb n f g).bind fun b =>
 (qba n b.2.1 b.2.2).bind fun a =>
 bif a.1 then
 some (0, ((c, true), (a.2.1, a.2.2)))
 else
 bif (decide (b.1 > (dO .u64 d))) then
 some (0, ((c, true), (a.2.1, a.2.2)))
 else
 some ((dO .i64 b.1), ((c, e), (a.2.1, a.2.2)))
def qcd (n : Nat) (d : Int) (e : DC) (f : Bool) : Option ((EAA × Bool) × DC × Bool) :=
 (qbb n e f).bind fun b =>
 (qbb n b.2.1 b.2.2).bind fun c =>
 (qba n c.2.1 c.2.2).bind fun a =>
 bif a.1 then
 some (((0, 0), false), (a.2.1, a.2.2))
 else
 bif (decide (b.1 > 8)) then
 some (((0, 0), false), (a.2.1, a.2.2))
 else
 bif (decide (c.1 > 255)) then
 some (((0, 0), false), (a.2.1, a.2.2))
 else
 (qbx n (dO .i64 b.1) (dO .i64 c.1) d).bind fun g =>
 bif (!g) then
 some (((0, 0), false), (a.2.1, a.2.2))
 else
 some ((((dO .i64 b.1), (dO .i64 c.1)), true), (a.2.1, a.2.2))
def qz (n : Nat) (b : Int) (c : Bool) (d : DC) (e : Bool) : Option (EAA × EAD × DC × Bool) :=
 (qcd n b d e).bind fun a =>
 bif c then
 some ((a.1.1.1, a.1.1.2), ((b, true), (a.2.1, a.2.2)))
 else
 some ((a.1.1.1, a.1.1.2), ((b, (!a.1.2)), (a.2.1, a.2.2)))
def qc_B0 (n : Nat) (g h d : Int) (b : Bool) (e : DC) (f : Bool) (c : DA) : Option ((EAA × EAD × EAE × DA) ⊕ (EAD × EAE × DA)) :=
 bif (decide (h < g)) then
 bif b then
 some (Sum.inr ((d, b), ((e, f), c)))
 else
 (qz n d b e f).bind fun a =>
 bif (Nat.ble (List.length (c ++ ((a.1.1, a.1.2) :: ([] : List EAA)))) 4294967296) then
 some (Sum.inl ((g, (dN .i64 h 1)), ((a.2.1.1, a.2.1.2), ((a.2.2.1, a.2.2.2), (c ++ ((a.1.1, a.1.2) :: ([] : List EAA)))))))
 else none
 else
 some (Sum.inr ((d, b), ((e, f), c)))
def qc_W0 (n : Nat) (s : EAA × EAD × EAE × DA) : Option (EAD × EAE × DA) := bL (fun s => qc_B0 n s.1.1 s.1.2 s.2.1.1 s.2.1.2 s.2.2.1.1 s.2.2.1.2 s.2.2.2) n s
def qc (n : Nat) (c d : Int) (e : Bool) (f : DC) (g : Bool) : Option (DA × EAD × DC × Bool) :=
 (qj n c d e f g).bind fun a =>
 (qc_W0 n ((a.1, 0), ((a.2.1.1, a.2.1.2), ((a.2.2.1, a.2.2.2), ([] : List EAA))))).bind fun b =>
 some (b.2.2, ((b.1.1, b.1.2), (b.2.1.1, b.2.1.2)))
def qaw (n : Nat) (b : Int) (c : Bool) (d : DC) (e : Bool) : Option (DA × EAD × DC × Bool) :=
 (qc n 6 b c d e).bind fun a =>
 some (a.1, ((a.2.1.1, a.2.1.2), (a.2.2.1, a.2.2.2)))
def qk_B0 (n : Nat) (g h d : Int) (b : Bool) (e : DC) (f : Bool) (c : DI) : Option ((EAA × EAD × EAE × DI) ⊕ (EAD × EAE × DI)) :=
 bif (decide (h < g)) then
 bif b then
 some (Sum.inr ((d, b), ((e, f), c)))
 else
 (qaw n d b e f).bind fun a =>
 bif (Nat.ble (List.length (c ++ (a.1 :: ([] : List (List EAA))))) 4294967296) then
 some (Sum.inl ((g, (dN .i64 h 1)), ((a.2.1.1, a.2.1.2), ((a.2.2.1, a.2.2.2), (c ++ (a.1 :: ([] : List (List EAA))))))))
 else none
 else
 some (Sum.inr ((d, b), ((e, f), c)))
def qk_W0 (n : Nat) (s : EAA × EAD × EAE × DI) : Option (EAD × EAE × DI) := bL (fun s => qk_B0 n s.1.1 s.1.2 s.2.1.1 s.2.1.2 s.2.2.1.1 s.2.2.1.2 s.2.2.2) n s
def qk (n : Nat) (c d : Int) (e : Bool) (f : DC) (g : Bool) : Option (DI × EAD × DC × Bool) :=
 (qj n c d e f g).bind fun a =>
 (qk_W0 n ((a.1, 0), ((a.2.1.1, a.2.1.2), ((a.2.2.1, a.2.2.2), ([] : List (List EAA)))))).bind fun b =>
 some (b.2.2, ((b.1.1, b.1.2), (b.2.1.1, b.2.1.2)))
def qae (n : Nat) (d : Int) (a : DK) (b : DI) : Option (DK × DI × EAD × DC × Bool) :=
 (eC a d).bind fun e =>
 (qay n e).bind fun c =>
 some (a, (b, (((bK b), false), (c.1, c.2))))
def qbc (n : Nat) (a : DC) : Option DC :=
 some a
def KR (a : DC) : Int := a.foldr (fun c v => JL .u64 (IntKind.u64.wrap (v * 256)) (IntKind.u64.wrap c)) 0
def qah (n : Nat) (a : Int) (b : DC) (c : Bool) : Option EAK :=
 (qax n (Fr (CN a 0) 8) b c).bind fun r => some (KR r.1, r.2)
def qcb_B0 (n : Nat) (g h a : Int) (l : DC) (m : Bool) (i j k e f : Int) : Option ((EAC × EAE × EAC × Int × Int) ⊕ ((Bool × EAE × EAC × Int × Int) ⊕ (Int × EAE × EAC × Int × Int))) :=
 bif (decide (a < h)) then
 (qbb n l m).bind fun b =>
 bif ((decide (0 ≤ a)) && (decide (a < 2))) then
 bif (Nat.beq (0 + (0 + ((Int.toNat a) * 1))) 0) then
 (qba n b.2.1 b.2.2).bind fun c =>
 bif c.1 then
 some (Sum.inr (Sum.inl (false, ((c.2.1, c.2.2), ((0, (0, 0)), (b.1, f))))))
 else
 bif ((decide (0 ≤ a)) && (decide (a < 2))) then
 bif (Nat.beq (0 + (0 + ((Int.toNat a) * 1))) 0) then
 bif (decide (b.1 > 255)) then
 some (Sum.inr (Sum.inl (false, ((c.2.1, c.2.2), ((0, (0, 0)), (b.1, f))))))
 else
 some (Sum.inl ((g, (h, (dN .i64 a 1))), ((c.2.1, c.2.2), ((i, (j, k)), (b.1, f)))))
 else
 bif (Nat.beq (0 + (0 + ((Int.toNat a) * 1))) 1) then
 bif (decide (f > 255)) then
 some (Sum.inr (Sum.inl (false, ((c.2.1, c.2.2), ((0, (0, 0)), (b.1, f))))))
 else
 some (Sum.inl ((g, (h, (dN .i64 a 1))), ((c.2.1, c.2.2), ((i, (j, k)), (b.1, f)))))
 else none
 else none
 else
 bif (Nat.beq (0 + (0 + ((Int.toNat a) * 1))) 1) then
 (qba n b.2.1 b.2.2).bind fun d =>
 bif d.1 then
 some (Sum.inr (Sum.inl (false, ((d.2.1, d.2.2), ((0, (0, 0)), (e, b.1))))))
 else
 bif ((decide (0 ≤ a)) && (decide (a < 2))) then
 bif (Nat.beq (0 + (0 + ((Int.toNat a) * 1))) 0) then
 bif (decide (e > 255)) then
 some (Sum.inr (Sum.inl (false, ((d.2.1, d.2.2), ((0, (0, 0)), (e, b.1))))))
 else
 some (Sum.inl ((g, (h, (dN .i64 a 1))), ((d.2.1, d.2.2), ((i, (j, k)), (e, b.1)))))
 else
 bif (Nat.beq (0 + (0 + ((Int.toNat a) * 1))) 1) then
 bif (decide (b.1 > 255)) then
 some (Sum.inr (Sum.inl (false, ((d.2.1, d.2.2), ((0, (0, 0)), (e, b.1))))))
 else
 some (Sum.inl ((g, (h, (dN .i64 a 1))), ((d.2.1, d.2.2), ((i, (j, k)), (e, b.1)))))
 else none
 else none
 else none
 else none
 else
 some (Sum.inr (Sum.inr (g, ((l, m), ((i, (j, k)), (e, f))))))
def qcb_W0 (n : Nat) (s : EAC × EAE × EAC × Int × Int) : Option ((Bool × EAE × EAC × Int × Int) ⊕ (Int × EAE × EAC × Int × Int)) := bL (fun s => qcb_B0 n s.1.1 s.1.2.1 s.1.2.2 s.2.1.1 s.2.1.2 s.2.2.1.1 s.2.2.1.2.1 s.2.2.1.2.2 s.2.2.2.1 s.2.2.2.2) n s
def qcb (n : Nat) (f : DC) (g : Bool) : Option ((EAC × Bool) × DC × Bool) :=
 (qah n 1 f g).bind fun d =>
 (qby n (dO .i64 d.1)).bind fun e =>
 (qba n d.2.1 d.2.2).bind fun a =>
 bif a.1 then
 some (((0, (0, 0)), false), (a.2.1, a.2.2))
 else
 bif (decide (e < 0)) then
 some (((0, (0, 0)), false), (a.2.1, a.2.2))
 else
 (qcb_W0 n (((dO .i64 d.1), (e, 0)), ((a.2.1, a.2.2), ((0, (0, 0)), (0, 0))))).bind fun h =>
 Sum.rec (fun b =>
 some (((b.2.2.1.1, (b.2.2.1.2.1, b.2.2.1.2.2)), b.1), (b.2.1.1, b.2.1.2))) (fun c =>
 some (((c.1, ((dO .i64 c.2.2.2.1), (dO .i64 c.2.2.2.2))), true), (c.2.1.1, c.2.1.2))) h
def qp (n : Nat) (b : Int) (c : Bool) (d : DC) (e : Bool) : Option (EAC × EAD × DC × Bool) :=
 (qcb n d e).bind fun a =>
 bif c then
 some ((a.1.1.1, (a.1.1.2.1, a.1.1.2.2)), ((b, true), (a.2.1, a.2.2)))
 else
 some ((a.1.1.1, (a.1.1.2.1, a.1.1.2.2)), ((b, (!a.1.2)), (a.2.1, a.2.2)))
def qe_B0 (n : Nat) (g h d : Int) (b : Bool) (e : DC) (f : Bool) (c : DB) : Option ((EAA × EAD × EAE × DB) ⊕ (EAD × EAE × DB)) :=
 bif (decide (h < g)) then
 bif b then
 some (Sum.inr ((d, b), ((e, f), c)))
 else
 (qp n d b e f).bind fun a =>
 bif (Nat.ble (List.length (c ++ ((a.1.1, (a.1.2.1, a.1.2.2)) :: ([] : List EAC)))) 4294967296) then
 some (Sum.inl ((g, (dN .i64 h 1)), ((a.2.1.1, a.2.1.2), ((a.2.2.1, a.2.2.2), (c ++ ((a.1.1, (a.1.2.1, a.1.2.2)) :: ([] : List EAC)))))))
 else none
 else
 some (Sum.inr ((d, b), ((e, f), c)))
def qe_W0 (n : Nat) (s : EAA × EAD × EAE × DB) : Option (EAD × EAE × DB) := bL (fun s => qe_B0 n s.1.1 s.1.2 s.2.1.1 s.2.1.2 s.2.2.1.1 s.2.2.1.2 s.2.2.2) n s
def qe (n : Nat) (c d : Int) (e : Bool) (f : DC) (g : Bool) : Option (DB × EAD × DC × Bool) :=
 (qj n c d e f g).bind fun a =>
 (qe_W0 n ((a.1, 0), ((a.2.1.1, a.2.1.2), ((a.2.2.1, a.2.2.2), ([] : List EAC))))).bind fun b =>
 some (b.2.2, ((b.1.1, b.1.2), (b.2.1.1, b.2.1.2)))
def qa (n : Nat) (e : Int) (f : Bool) (g : DC) (h : Bool) : Option (EAH × EAD × DC × Bool) :=
 (qc n 4 e f g h).bind fun b =>
 (qz n b.2.1.1 b.2.1.2 b.2.2.1 b.2.2.2).bind fun a =>
 (qc n 8 a.2.1.1 a.2.1.2 a.2.2.1 a.2.2.2).bind fun c =>
 (qe n 64 c.2.1.1 c.2.1.2 c.2.2.1 c.2.2.2).bind fun d =>
 some ((b.1, (a.1.1, (a.1.2, (c.1, d.1)))), ((d.2.1.1, d.2.1.2), (d.2.2.1, d.2.2.2)))
def qn_B0 (n : Nat) (g h d : Int) (b : Bool) (e : DC) (f : Bool) (c : DH) : Option ((EAA × EAD × EAE × DH) ⊕ (EAD × EAE × DH)) :=
 bif (decide (h < g)) then
 bif b then
 some (Sum.inr ((d, b), ((e, f), c)))
 else
 (qa n d b e f).bind fun a =>
 bif (Nat.ble (List.length (c ++ ((a.1.1, (a.1.2.1, (a.1.2.2.1, (a.1.2.2.2.1, a.1.2.2.2.2)))) :: ([] : List ((List EAA) × Int × Int × (List EAA) × List EAC))))) 4294967296) then
 some (Sum.inl ((g, (dN .i64 h 1)), ((a.2.1.1, a.2.1.2), ((a.2.2.1, a.2.2.2), (c ++ ((a.1.1, (a.1.2.1, (a.1.2.2.1, (a.1.2.2.2.1, a.1.2.2.2.2)))) :: ([] : List ((List EAA) × Int × Int × (List EAA) × List EAC))))))))
 else none
 else
 some (Sum.inr ((d, b), ((e, f), c)))
def qn_W0 (n : Nat) (s : EAA × EAD × EAE × DH) : Option (EAD × EAE × DH) := bL (fun s => qn_B0 n s.1.1 s.1.2 s.2.1.1 s.2.1.2 s.2.2.1.1 s.2.2.1.2 s.2.2.2) n s
def qn (n : Nat) (c d : Int) (e : Bool) (f : DC) (g : Bool) : Option (DH × EAD × DC × Bool) :=
 (qj n c d e f g).bind fun a =>
 (qn_W0 n ((a.1, 0), ((a.2.1.1, a.2.1.2), ((a.2.2.1, a.2.2.2), ([] : List ((List EAA) × Int × Int × (List EAA) × List EAC)))))).bind fun b =>
 some (b.2.2, ((b.1.1, b.1.2), (b.2.1.1, b.2.1.2)))
def qw (n : Nat) (d : Int) (a : DK) (b : DI) (e : DH) : Option (DK × (DI × DH) × EAD × DC × Bool) :=
 (eC a d).bind fun f =>
 (qay n f).bind fun c =>
 some (a, ((b, e), (((bK b), false), (c.1, c.2))))
def qt (n : Nat) (c : Int) (d : Bool) (e : DC) (f : Bool) : Option (EAG × EAD × DC × Bool) :=
 (qc n 4 c d e f).bind fun b =>
 (qz n b.2.1.1 b.2.1.2 b.2.2.1 b.2.2.2).bind fun a =>
 some ((b.1, (a.1.1, a.1.2)), ((a.2.1.1, a.2.1.2), (a.2.2.1, a.2.2.2)))
def qd_B0 (n : Nat) (g h d : Int) (b : Bool) (e : DC) (f : Bool) (c : DJ) : Option ((EAA × EAD × EAE × DJ) ⊕ (EAD × EAE × DJ)) :=
 bif (decide (h < g)) then
 bif b then
 some (Sum.inr ((d, b), ((e, f), c)))
 else
 (qt n d b e f).bind fun a =>
 bif (Nat.ble (List.length (c ++ ((a.1.1, (a.1.2.1, a.1.2.2)) :: ([] : List ((List EAA) × Int × Int))))) 4294967296) then
 some (Sum.inl ((g, (dN .i64 h 1)), ((a.2.1.1, a.2.1.2), ((a.2.2.1, a.2.2.2), (c ++ ((a.1.1, (a.1.2.1, a.1.2.2)) :: ([] : List ((List EAA) × Int × Int))))))))
 else none
 else
 some (Sum.inr ((d, b), ((e, f), c)))
def qd_W0 (n : Nat) (s : EAA × EAD × EAE × DJ) : Option (EAD × EAE × DJ) := bL (fun s => qd_B0 n s.1.1 s.1.2 s.2.1.1 s.2.1.2 s.2.2.1.1 s.2.2.1.2 s.2.2.2) n s
def qd (n : Nat) (c d : Int) (e : Bool) (f : DC) (g : Bool) : Option (DJ × EAD × DC × Bool) :=
 (qj n c d e f g).bind fun a =>
 (qd_W0 n ((a.1, 0), ((a.2.1.1, a.2.1.2), ((a.2.2.1, a.2.2.2), ([] : List ((List EAA) × Int × Int)))))).bind fun b =>
 some (b.2.2, ((b.1.1, b.1.2), (b.2.1.1, b.2.1.2)))
def qx (n : Nat) (d : Int) (a : DK) (b : DI) (e : DH) (f : DJ) : Option (DK × (DI × DH × DJ) × EAD × DC × Bool) :=
 (eC a d).bind fun g =>
 (qay n g).bind fun c =>
 some (a, ((b, (e, f)), (((bK b), false), (c.1, c.2))))
def qar (n : Nat) (b : Int) (c : Bool) (d : DC) (e : Bool) : Option (Int × EAD × DC × Bool) :=
 (qah n 8 d e).bind fun a =>
 some (a.1, ((b, c), (a.2.1, a.2.2)))
def qs_B0 (n : Nat) (g h d : Int) (b : Bool) (e : DC) (f : Bool) (c : DC) : Option ((EAA × EAD × EAE × DC) ⊕ (EAD × EAE × DC)) :=
 bif (decide (h < g)) then
 bif b then
 some (Sum.inr ((d, b), ((e, f), c)))
 else
 (qar n d b e f).bind fun a =>
 bif (Nat.ble (List.length (c ++ (a.1 :: ([] : DD)))) 4294967296) then
 some (Sum.inl ((g, (dN .i64 h 1)), ((a.2.1.1, a.2.1.2), ((a.2.2.1, a.2.2.2), (c ++ (a.1 :: ([] : DD)))))))
 else none
 else
 some (Sum.inr ((d, b), ((e, f), c)))
def qs_W0 (n : Nat) (s : EAA × EAD × EAE × DC) : Option (EAD × EAE × DC) := bL (fun s => qs_B0 n s.1.1 s.1.2 s.2.1.1 s.2.1.2 s.2.2.1.1 s.2.2.1.2 s.2.2.2) n s
def qs (n : Nat) (c d : Int) (e : Bool) (f : DC) (g : Bool) : Option (DC × EAD × DC × Bool) :=
 (qj n c d e f g).bind fun a =>
 (qs_W0 n ((a.1, 0), ((a.2.1.1, a.2.1.2), ((a.2.2.1, a.2.2.2), ([] : DD))))).bind fun b =>
 some (b.2.2, ((b.1.1, b.1.2), (b.2.1.1, b.2.1.2)))
def qaa (n : Nat) (d : Int) (a : DK) (b : DI) (e : DH) (f : DJ) (g : DC) : Option (DK × (DI × DH × DJ × DC) × EAD × DC × Bool) :=
 (eC a d).bind fun h =>
 (qay n h).bind fun c =>
 some (a, ((b, (e, (f, g))), (((bK b), false), (c.1, c.2))))
def qal (n : Nat) (c : Int) (d : Bool) (e : DC) (f : Bool) : Option (ByteArray × EAD × DC × Bool) :=
 (qj n 32 c d e f).bind fun a =>
 (qax n a.1 a.2.2.1 a.2.2.2).bind fun b =>
 some ((i7 b.1), ((a.2.1.1, a.2.1.2), (b.2.1, b.2.2)))
def qr_B0 (n : Nat) (g h d : Int) (b : Bool) (e : DC) (f : Bool) (c : DE) : Option ((EAA × EAD × EAE × DE) ⊕ (EAD × EAE × DE)) :=
 bif (decide (h < g)) then
 bif b then
 some (Sum.inr ((d, b), ((e, f), c)))
 else
 (qal n d b e f).bind fun a =>
 bif (Nat.ble (List.length (c ++ (a.1 :: ([] : DF)))) 4294967296) then
 some (Sum.inl ((g, (dN .i64 h 1)), ((a.2.1.1, a.2.1.2), ((a.2.2.1, a.2.2.2), (c ++ (a.1 :: ([] : DF)))))))
 else none
 else
 some (Sum.inr ((d, b), ((e, f), c)))
def qr_W0 (n : Nat) (s : EAA × EAD × EAE × DE) : Option (EAD × EAE × DE) := bL (fun s => qr_B0 n s.1.1 s.1.2 s.2.1.1 s.2.1.2 s.2.2.1.1 s.2.2.1.2 s.2.2.2) n s
def qr (n : Nat) (c d : Int) (e : Bool) (f : DC) (g : Bool) : Option (DE × EAD × DC × Bool) :=
 (qj n c d e f g).bind fun a =>
 (qr_W0 n ((a.1, 0), ((a.2.1.1, a.2.1.2), ((a.2.2.1, a.2.2.2), ([] : DF))))).bind fun b =>
 some (b.2.2, ((b.1.1, b.1.2), (b.2.1.1, b.2.1.2)))
def qaz (n : Nat) (g : DC) : Option ((DI × DH × DJ × DC × DE) × Int) :=
 (qbu n g 5).bind fun f =>
 bif (f.2 != 0) then
 some (([], ([], ([], ([], [])))), 2)
 else
 bif ((bK f.1) != 5) then
 some (([], ([], ([], ([], [])))), 2)
 else
 (qas n 0 f.1).bind fun e =>
 (eC e.1 0).bind fun k =>
 (qay n k).bind fun h =>
 (qbb n h.1 h.2).bind fun l =>
 (qk n 8 (dO .i64 (Fr l.1 8)) e.2.1.2 e.2.2.1 e.2.2.2).bind fun m =>
 (qae n 1 e.1 m.1).bind fun d =>
 (qn n 8 d.2.2.1.1 d.2.2.1.2 d.2.2.2.1 d.2.2.2.2).bind fun o =>
 (qw n 2 d.1 d.2.1 o.1).bind fun c =>
 (qd n 8 c.2.2.1.1 c.2.2.1.2 c.2.2.2.1 c.2.2.2.2).bind fun p =>
 (qx n 3 c.1 c.2.1.1 c.2.1.2 p.1).bind fun b =>
 (qs n 16 b.2.2.1.1 b.2.2.1.2 b.2.2.2.1 b.2.2.2.2).bind fun q =>
 (qaa n 4 b.1 b.2.1.1 b.2.1.2.1 b.2.1.2.2 q.1).bind fun a =>
 (qr n 16 a.2.2.1.1 a.2.2.1.2 a.2.2.2.1 a.2.2.2.2).bind fun i =>
 (qbd n a.2.1.1 a.2.1.2.1 a.2.1.2.2.1 a.2.1.2.2.2 i.1).bind fun j =>
 bif (j.2 != 0) then
 some (([], ([], ([], ([], [])))), 2)
 else
 bif (!(PO (i7 j.1) (i7 g))) then
 some (([], ([], ([], ([], [])))), 2)
 else
 some ((a.2.1.1, (a.2.1.2.1, (a.2.1.2.2.1, (a.2.1.2.2.2, i.1)))), 0)
def qbt_B0 (n : Nat) (b c : DA) (d a : Int) : Option ((DA × DA × Int × Int) ⊕ EAF) :=
 bif (decide (a < d)) then
 (eC b a).bind fun e =>
 (eC c a).bind fun f =>
 bif (!((e.1 == f.1) && (e.2 == f.2))) then
 some (Sum.inr (Sum.inl false))
 else
 some (Sum.inl (b, (c, (d, (dN .i64 a 1)))))
 else
 some (Sum.inr (Sum.inr ()))
def qbt_W0 (n : Nat) (s : DA × DA × Int × Int) : Option EAF := bL (fun s => qbt_B0 n s.1 s.2.1 s.2.2.1 s.2.2.2) n s
def qbt (n : Nat) (a b : DA) : Option Bool :=
 bif ((bK a) != (bK b)) then
 some false
 else
 (qbt_W0 n (a, (b, ((bK a), 0)))).bind fun c =>
 Sum.rec (fun d =>
 some d) (fun e =>
 some true) c
def qav_B0 (n : Nat) (b c : DI) (d a : Int) : Option ((DI × DI × Int × Int) ⊕ EAF) :=
 bif (decide (a < d)) then
 (eC c a).bind fun e =>
 (eC b a).bind fun f =>
 (qbt n e f).bind fun g =>
 bif (!g) then
 some (Sum.inr (Sum.inl false))
 else
 some (Sum.inl (b, (c, (d, (dN .i64 a 1)))))
 else
 some (Sum.inr (Sum.inr ()))
def qav_W0 (n : Nat) (s : DI × DI × Int × Int) : Option EAF := bL (fun s => qav_B0 n s.1 s.2.1 s.2.2.1 s.2.2.2) n s
def qav (n : Nat) (a b : DI) : Option Bool :=
 bif ((bK a) != (bK b)) then
 some false
 else
 (qav_W0 n (b, (a, ((bK a), 0)))).bind fun c =>
 Sum.rec (fun d =>
 some d) (fun e =>
 some true) c
def qbr_B0 (n : Nat) (d e : DB) (f a : Int) : Option ((DB × DB × Int × Int) ⊕ EAF) :=
 bif (decide (a < f)) then
 (eC d a).bind fun b =>
 (eC e a).bind fun c =>
 bif (!((b.1 == c.1) && ((b.2.1 == c.2.1) && (b.2.2 == c.2.2)))) then
 some (Sum.inr (Sum.inl false))
 else
 some (Sum.inl (d, (e, (f, (dN .i64 a 1)))))
 else
 some (Sum.inr (Sum.inr ()))
def qbr_W0 (n : Nat) (s : DB × DB × Int × Int) : Option EAF := bL (fun s => qbr_B0 n s.1 s.2.1 s.2.2.1 s.2.2.2) n s
def qbr (n : Nat) (a b : DB) : Option Bool :=
 bif ((bK a) != (bK b)) then
 some false
 else
 (qbr_W0 n (a, (b, ((bK a), 0)))).bind fun c =>
 Sum.rec (fun d =>
 some d) (fun e =>
 some true) c
def qv (n : Nat) (a : DA) (b c : Int) (d : DA) (e : DB) (f : DA) (g h : Int) (i : DA) (j : DB) : Option Bool :=
 bif ((b == g) && (c == h)) then
 (qbt n a f).bind fun k =>
 bif k then
 (qbt n d i).bind fun l =>
 bif l then
 (qbr n e j).bind fun m =>
 some m
 else
 some false
 else
 some false
 else
 some false
def qau_B0 (n : Nat) (d e : DH) (f c : Int) : Option ((DH × DH × Int × Int) ⊕ ((Bool × EAH × DA × Int × Int × DA × DB) ⊕ Unit)) :=
 bif (decide (c < f)) then
 (eC e c).bind fun a =>
 (eC d c).bind fun b =>
 (qv n a.1 a.2.1 a.2.2.1 a.2.2.2.1 a.2.2.2.2 b.1 b.2.1 b.2.2.1 b.2.2.2.1 b.2.2.2.2).bind fun g =>
 bif (!g) then
 some (Sum.inr (Sum.inl (false, ((a.1, (a.2.1, (a.2.2.1, (a.2.2.2.1, a.2.2.2.2)))), (b.1, (b.2.1, (b.2.2.1, (b.2.2.2.1, b.2.2.2.2))))))))
 else
 some (Sum.inl (d, (e, (f, (dN .i64 c 1)))))
 else
 some (Sum.inr (Sum.inr ()))
def qau_W0 (n : Nat) (s : DH × DH × Int × Int) : Option ((Bool × EAH × DA × Int × Int × DA × DB) ⊕ Unit) := bL (fun s => qau_B0 n s.1 s.2.1 s.2.2.1 s.2.2.2) n s
def qau (n : Nat) (a b : DH) : Option Bool :=
 bif ((bK a) != (bK b)) then
 some false
 else
 (qau_W0 n (b, (a, ((bK a), 0)))).bind fun c =>
 Sum.rec (fun d =>
 some d.1) (fun e =>
 some true) c
def qi (n : Nat) (a : DA) (b c : Int) (d : DA) (e f : Int) : Option Bool :=
 bif ((b == e) && (c == f)) then
 (qbt n a d).bind fun g =>
 some g
 else
 some false
def qy_B0 (n : Nat) (d e : DJ) (f c : Int) : Option ((DJ × DJ × Int × Int) ⊕ ((Bool × EAG × DA × Int × Int) ⊕ Unit)) :=
 bif (decide (c < f)) then
 (eC e c).bind fun a =>
 (eC d c).bind fun b =>
 (qi n a.1 a.2.1 a.2.2 b.1 b.2.1 b.2.2).bind fun g =>
 bif (!g) then
 some (Sum.inr (Sum.inl (false, ((a.1, (a.2.1, a.2.2)), (b.1, (b.2.1, b.2.2))))))
 else
 some (Sum.inl (d, (e, (f, (dN .i64 c 1)))))
 else
 some (Sum.inr (Sum.inr ()))
def qy_W0 (n : Nat) (s : DJ × DJ × Int × Int) : Option ((Bool × EAG × DA × Int × Int) ⊕ Unit) := bL (fun s => qy_B0 n s.1 s.2.1 s.2.2.1 s.2.2.2) n s
def qy (n : Nat) (a b : DJ) : Option Bool :=
 bif ((bK a) != (bK b)) then
 some false
 else
 (qy_W0 n (b, (a, ((bK a), 0)))).bind fun c =>
 Sum.rec (fun d =>
 some d.1) (fun e =>
 some true) c
def qbn_B0 (n : Nat) (b c : DC) (d a : Int) : Option ((DC × DC × Int × Int) ⊕ EAF) :=
 bif (decide (a < d)) then
 (eC b a).bind fun e =>
 (eC c a).bind fun f =>
 bif (e != f) then
 some (Sum.inr (Sum.inl false))
 else
 some (Sum.inl (b, (c, (d, (dN .i64 a 1)))))
 else
 some (Sum.inr (Sum.inr ()))
def qbn_W0 (n : Nat) (s : DC × DC × Int × Int) : Option EAF := bL (fun s => qbn_B0 n s.1 s.2.1 s.2.2.1 s.2.2.2) n s
def qbn (n : Nat) (a b : DC) : Option Bool :=
 bif ((bK a) != (bK b)) then
 some false
 else
 (qbn_W0 n (a, (b, ((bK a), 0)))).bind fun c =>
 Sum.rec (fun d =>
 some d) (fun e =>
 some true) c
def qbg_B0 (n : Nat) (b c : DE) (d a : Int) : Option ((DE × DE × Int × Int) ⊕ EAF) :=
 bif (decide (a < d)) then
 (eC b a).bind fun e =>
 (eC c a).bind fun f =>
 bif (!(PO e f)) then
 some (Sum.inr (Sum.inl false))
 else
 some (Sum.inl (b, (c, (d, (dN .i64 a 1)))))
 else
 some (Sum.inr (Sum.inr ()))
def qbg_W0 (n : Nat) (s : DE × DE × Int × Int) : Option EAF := bL (fun s => qbg_B0 n s.1 s.2.1 s.2.2.1 s.2.2.2) n s
def qbg (n : Nat) (a b : DE) : Option Bool :=
 bif ((bK a) != (bK b)) then
 some false
 else
 (qbg_W0 n (a, (b, ((bK a), 0)))).bind fun c =>
 Sum.rec (fun d =>
 some d) (fun e =>
 some true) c
def qbq (n : Nat) (a : DI) (b : DH) (c : DJ) (d : DC) (e : DE) (f : DI) (g : DH) (h : DJ) (i : DC) (j : DE) : Option Bool :=
 (qav n a f).bind fun k =>
 bif k then
 (qau n b g).bind fun l =>
 bif l then
 (qy n c h).bind fun m =>
 bif m then
 (qbn n d i).bind fun o =>
 bif o then
 (qbg n e j).bind fun p =>
 some p
 else
 some false
 else
 some false
 else
 some false
 else
 some false
def qcf_B2 (n : Nat) (a : Int) (b : DC) (c d e : Int) : Option ((Int × DC × Int × Int × Int) ⊕ (Int × DC × Int × Int)) :=
 bif (decide (e < 8)) then
 some (Sum.inl ((Pf .u32 (NF .u32 a 1) (r6 .u32 3988292384 (PH .u32 a 1))), (b, (c, (d, (dN .i64 e 1))))))
 else
 some (Sum.inr (a, (b, (c, d))))
def qcf_W2 (n : Nat) (s : Int × DC × Int × Int × Int) : Option (Int × DC × Int × Int) := bL (fun s => qcf_B2 n s.1 s.2.1 s.2.2.1 s.2.2.2.1 s.2.2.2.2) n s
def qcf_B0 (n : Nat) (c : Int) (d : DC) (e b : Int) : Option ((Int × DC × Int × Int) ⊕ Int) :=
 bif (decide (b < e)) then
 (eC d b).bind fun f =>
 (qcf_W2 n ((Pf .u32 c (dO .u32 f)), (d, (e, (b, 0))))).bind fun a =>
 some (Sum.inl (a.1, (a.2.1, (a.2.2.1, (dN .i64 a.2.2.2 1)))))
 else
 some (Sum.inr c)
def qcf_W0 (n : Nat) (s : Int × DC × Int × Int) : Option Int := bL (fun s => qcf_B0 n s.1 s.2.1 s.2.2.1 s.2.2.2) n s
def qcf (n : Nat) (a : DC) : Option Int :=
 (qcf_W0 n (4294967295, (a, ((bK a), 0)))).bind fun b =>
 some (PS .u32 b)
def qbh (n : Nat) (b : DI) (c : DH) (d : DJ) (e : DC) (f : DE) : Option Int :=
 (qbd n b c d e f).bind fun a =>
 bif (a.2 != 0) then
 some 0
 else
 (qcf n a.1).bind fun g =>
 some g
def qbe (n : Nat) : Option Bool :=
 (qbd n ([] : List (List EAA)) ((([] : List EAA), (1, (0, (([] : List EAA), ((26, (0, 0)) :: ([] : List EAC)))))) :: ([] : List ((List EAA) × Int × Int × (List EAA) × List EAC))) ([] : List ((List EAA) × Int × Int)) ([] : DD) ([] : DF)).bind fun b =>
 (qaz n b.1).bind fun a =>
 bif (b.2 == 0) then
 bif (a.2 == 0) then
 bif ((bK a.1.2.1) == 1) then
 (qbq n a.1.1 a.1.2.1 a.1.2.2.1 a.1.2.2.2.1 a.1.2.2.2.2 ([] : List (List EAA)) ((([] : List EAA), (1, (0, (([] : List EAA), ((26, (0, 0)) :: ([] : List EAC)))))) :: ([] : List ((List EAA) × Int × Int × (List EAA) × List EAC))) ([] : List ((List EAA) × Int × Int)) ([] : DD) ([] : DF)).bind fun c =>
 bif c then
 (qbh n ([] : List (List EAA)) ((([] : List EAA), (1, (0, (([] : List EAA), ((26, (0, 0)) :: ([] : List EAC)))))) :: ([] : List ((List EAA) × Int × Int × (List EAA) × List EAC))) ([] : List ((List EAA) × Int × Int)) ([] : DD) ([] : DF)).bind fun d =>
 some (d != 0)
 else
 some false
 else
 some false
 else
 some false
 else
 some false
def cM (n : Nat) (e f : Int) : Option Bool :=
 (cA n (Sum.inl ((e, ((dO .i64 (b5 f 70)), (0, 0))), ((1, 0), ((([] : List EAA), (1, (0, (([] : List EAA), ((26, (0, 0)) :: ([] : List EAC)))))) :: ([] : List ((List EAA) × Int × Int × (List EAA) × List EAC))))))).bind fun g =>
 Sum.rec (fun b =>
 (qbd n ([] : List (List EAA)) b.2.2 ([] : List ((List EAA) × Int × Int)) ([] : DD) ([] : DF)).bind fun c =>
 (qbe n).bind fun h =>
 bif h then
 bif ((c.2 == 0) == (decide (b.1.1 ≤ b.1.2))) then
 some ((decide ((bK c.1) > 0)) == (c.2 == 0))
 else
 some false
 else
 some false) (fun a =>
 (qbd n a.2.2.1 a.2.2.2 ([] : List ((List EAA) × Int × Int)) ([] : DD) ([] : DF)).bind fun d =>
 (qbe n).bind fun i =>
 bif i then
 bif ((d.2 == 0) == (decide (a.1.1 ≤ a.1.2))) then
 some ((decide ((bK d.1) > 0)) == (d.2 == 0))
 else
 some false
 else
 some false) g
def bO (n : Nat) (d c h e f g : Int) (b : DH) : Option (EAL ⊕ EAM) :=
 bif (decide (e < c)) then
 bif (decide ((b5 d 7) = 1)) then
 bif (decide (0 < (((List.length b) : Nat) : Int))) then
 (b[0]?).bind fun a =>
 bif (Nat.ble (List.length (b ++ ((a.1, (a.2.1, (a.2.2.1, (a.2.2.2.1, a.2.2.2.2)))) :: ([] : List ((List EAA) × Int × Int × (List EAA) × List EAC))))) 4294967296) then
 some (Sum.inl ((d, (c, (7, (dN .i64 e 1)))), ((f, g), (b ++ ((a.1, (a.2.1, (a.2.2.1, (a.2.2.2.1, a.2.2.2.2)))) :: ([] : List ((List EAA) × Int × Int × (List EAA) × List EAC)))))))
 else none
 else none
 else none
 else
 some (Sum.inr ((c, h), ((f, g), b)))
def b8 (n : Nat) (s : EAB × EAA × DH) : Option EAM := bL (fun s => bO n s.1.1 s.1.2.1 s.1.2.2.1 s.1.2.2.2 s.2.1.1 s.2.1.2 s.2.2) n s
def cJ (n : Nat) (c d : Int) : Option Bool :=
 (b8 n ((c, ((dO .i64 (b5 d 70)), (0, 0))), ((1, 0), ((([] : List EAA), (1, (0, (([] : List EAA), ((26, (0, 0)) :: ([] : List EAC)))))) :: ([] : List ((List EAA) × Int × Int × (List EAA) × List EAC)))))).bind fun a =>
 (qbd n ([] : List (List EAA)) a.2.2 ([] : List ((List EAA) × Int × Int)) ([] : DD) ([] : DF)).bind fun b =>
 (qbe n).bind fun e =>
 bif e then
 bif ((b.2 == 0) == (decide (a.1.1 ≤ a.1.2))) then
 some ((decide ((bK b.1) > 0)) == (b.2 == 0))
 else
 some false
 else
 some false
def iB (n : Nat) (d c g e a b : Int) (f : DH) : Option ((EAL ⊕ EAO) ⊕ (EAM ⊕ EAT)) :=
 bif (decide (e < c)) then
 bif (decide ((b5 d 7) = 2)) then
 bif (Nat.ble (List.length ((([] : List EAA), (a, b)) :: ([] : List ((List EAA) × Int × Int)))) 4294967296) then
 some (Sum.inl (Sum.inr ((d, (c, (8, (dN .i64 e 1)))), ((a, b), (f, ((([] : List EAA), (a, b)) :: ([] : List ((List EAA) × Int × Int))))))))
 else none
 else none
 else
 some (Sum.inr (Sum.inl ((c, g), ((a, b), f))))
def gY (n : Nat) (e c h f a b : Int) (g : DH) (d : DJ) : Option ((EAL ⊕ EAO) ⊕ (EAM ⊕ EAT)) :=
 bif (decide (f < c)) then
 bif (decide ((b5 e 7) = 2)) then
 bif (Nat.ble (List.length (d ++ ((([] : List EAA), (a, b)) :: ([] : List ((List EAA) × Int × Int))))) 4294967296) then
 some (Sum.inl (Sum.inr ((e, (c, (8, (dN .i64 f 1)))), ((a, b), (g, (d ++ ((([] : List EAA), (a, b)) :: ([] : List ((List EAA) × Int × Int)))))))))
 else none
 else none
 else
 some (Sum.inr (Sum.inr ((c, h), ((a, b), (g, d)))))
def bE (n : Nat) (s : EAL ⊕ EAO) : Option ((EAL ⊕ EAO) ⊕ (EAM ⊕ EAT)) := Sum.rec (fun b => iB n b.1.1 b.1.2.1 b.1.2.2.1 b.1.2.2.2 b.2.1.1 b.2.1.2 b.2.2) (fun a => gY n a.1.1 a.1.2.1 a.1.2.2.1 a.1.2.2.2 a.2.1.1 a.2.1.2 a.2.2.1 a.2.2.2) s
def b9 (n : Nat) (s : EAL ⊕ EAO) : Option (EAM ⊕ EAT) := bL (bE n) n s
def cI (n : Nat) (e f : Int) : Option Bool :=
 (b9 n (Sum.inl ((e, ((dO .i64 (b5 f 70)), (0, 0))), ((1, 0), ((([] : List EAA), (1, (0, (([] : List EAA), ((26, (0, 0)) :: ([] : List EAC)))))) :: ([] : List ((List EAA) × Int × Int × (List EAA) × List EAC))))))).bind fun g =>
 Sum.rec (fun b =>
 (qbd n ([] : List (List EAA)) b.2.2 ([] : List ((List EAA) × Int × Int)) ([] : DD) ([] : DF)).bind fun c =>
 (qbe n).bind fun h =>
 bif h then
 bif ((c.2 == 0) == (decide (b.1.1 ≤ b.1.2))) then
 some ((decide ((bK c.1) > 0)) == (c.2 == 0))
 else
 some false
 else
 some false) (fun a =>
 (qbd n ([] : List (List EAA)) a.2.2.1 a.2.2.2 ([] : DD) ([] : DF)).bind fun d =>
 (qbe n).bind fun i =>
 bif i then
 bif ((d.2 == 0) == (decide (a.1.1 ≤ a.1.2))) then
 some ((decide ((bK d.1) > 0)) == (d.2 == 0))
 else
 some false
 else
 some false) g
def iE (n : Nat) (c b g a d e : Int) (f : DH) : Option ((EAL ⊕ EAP) ⊕ (EAM ⊕ EAU)) :=
 bif (decide (a < b)) then
 bif (decide ((b5 c 7) = 3)) then
 bif (Nat.ble (List.length ((dO .u64 a) :: ([] : DD))) 4294967296) then
 some (Sum.inl (Sum.inr ((c, (b, (16, (dN .i64 a 1)))), ((d, e), (f, ((dO .u64 a) :: ([] : DD)))))))
 else none
 else none
 else
 some (Sum.inr (Sum.inl ((b, g), ((d, e), f))))
def h8 (n : Nat) (d b h a e f : Int) (g : DH) (c : DC) : Option ((EAL ⊕ EAP) ⊕ (EAM ⊕ EAU)) :=
 bif (decide (a < b)) then
 bif (decide ((b5 d 7) = 3)) then
 bif (Nat.ble (List.length (c ++ ((dO .u64 a) :: ([] : DD)))) 4294967296) then
 some (Sum.inl (Sum.inr ((d, (b, (16, (dN .i64 a 1)))), ((e, f), (g, (c ++ ((dO .u64 a) :: ([] : DD))))))))
 else none
 else none
 else
 some (Sum.inr (Sum.inr ((b, h), ((e, f), (g, c)))))
def bC (n : Nat) (s : EAL ⊕ EAP) : Option ((EAL ⊕ EAP) ⊕ (EAM ⊕ EAU)) := Sum.rec (fun b => iE n b.1.1 b.1.2.1 b.1.2.2.1 b.1.2.2.2 b.2.1.1 b.2.1.2 b.2.2) (fun a => h8 n a.1.1 a.1.2.1 a.1.2.2.1 a.1.2.2.2 a.2.1.1 a.2.1.2 a.2.2.1 a.2.2.2) s
def cB (n : Nat) (s : EAL ⊕ EAP) : Option (EAM ⊕ EAU) := bL (bC n) n s
def cL (n : Nat) (e f : Int) : Option Bool :=
 (cB n (Sum.inl ((e, ((dO .i64 (b5 f 70)), (0, 0))), ((1, 0), ((([] : List EAA), (1, (0, (([] : List EAA), ((26, (0, 0)) :: ([] : List EAC)))))) :: ([] : List ((List EAA) × Int × Int × (List EAA) × List EAC))))))).bind fun g =>
 Sum.rec (fun b =>
 (qbd n ([] : List (List EAA)) b.2.2 ([] : List ((List EAA) × Int × Int)) ([] : DD) ([] : DF)).bind fun c =>
 (qbe n).bind fun h =>
 bif h then
 bif ((c.2 == 0) == (decide (b.1.1 ≤ b.1.2))) then
 some ((decide ((bK c.1) > 0)) == (c.2 == 0))
 else
 some false
 else
 some false) (fun a =>
 (qbd n ([] : List (List EAA)) a.2.2.1 ([] : List ((List EAA) × Int × Int)) a.2.2.2 ([] : DF)).bind fun d =>
 (qbe n).bind fun i =>
 bif i then
 bif ((d.2 == 0) == (decide (a.1.1 ≤ a.1.2))) then
 some ((decide ((bK d.1) > 0)) == (d.2 == 0))
 else
 some false
 else
 some false) g
def iC (n : Nat) (b a g c d e : Int) (f : DH) : Option ((EAL ⊕ EAQ) ⊕ (EAM ⊕ EAV)) :=
 bif (decide (c < a)) then
 bif (decide ((b5 b 7) = 4)) then
 some (Sum.inl (Sum.inr ((b, (a, (16, (dN .i64 c 1)))), ((d, e), (f, ((ByteArray.mk (List.toArray [97])) :: ([] : DF)))))))
 else none
 else
 some (Sum.inr (Sum.inl ((a, g), ((d, e), f))))
def gZ (n : Nat) (c a h d e f : Int) (g : DH) (b : DE) : Option ((EAL ⊕ EAQ) ⊕ (EAM ⊕ EAV)) :=
 bif (decide (d < a)) then
 bif (decide ((b5 c 7) = 4)) then
 bif (Nat.ble (List.length (b ++ ((ByteArray.mk (List.toArray [97])) :: ([] : DF)))) 4294967296) then
 some (Sum.inl (Sum.inr ((c, (a, (16, (dN .i64 d 1)))), ((e, f), (g, (b ++ ((ByteArray.mk (List.toArray [97])) :: ([] : DF))))))))
 else none
 else none
 else
 some (Sum.inr (Sum.inr ((a, h), ((e, f), (g, b)))))
def bB (n : Nat) (s : EAL ⊕ EAQ) : Option ((EAL ⊕ EAQ) ⊕ (EAM ⊕ EAV)) := Sum.rec (fun b => iC n b.1.1 b.1.2.1 b.1.2.2.1 b.1.2.2.2 b.2.1.1 b.2.1.2 b.2.2) (fun a => gZ n a.1.1 a.1.2.1 a.1.2.2.1 a.1.2.2.2 a.2.1.1 a.2.1.2 a.2.2.1 a.2.2.2) s
def cF (n : Nat) (s : EAL ⊕ EAQ) : Option (EAM ⊕ EAV) := bL (bB n) n s
def cN (n : Nat) (e f : Int) : Option Bool :=
 (cF n (Sum.inl ((e, ((dO .i64 (b5 f 70)), (0, 0))), ((1, 0), ((([] : List EAA), (1, (0, (([] : List EAA), ((26, (0, 0)) :: ([] : List EAC)))))) :: ([] : List ((List EAA) × Int × Int × (List EAA) × List EAC))))))).bind fun g =>
 Sum.rec (fun b =>
 (qbd n ([] : List (List EAA)) b.2.2 ([] : List ((List EAA) × Int × Int)) ([] : DD) ([] : DF)).bind fun c =>
 (qbe n).bind fun h =>
 bif h then
 bif ((c.2 == 0) == (decide (b.1.1 ≤ b.1.2))) then
 some ((decide ((bK c.1) > 0)) == (c.2 == 0))
 else
 some false
 else
 some false) (fun a =>
 (qbd n ([] : List (List EAA)) a.2.2.1 ([] : List ((List EAA) × Int × Int)) ([] : DD) a.2.2.2).bind fun d =>
 (qbe n).bind fun i =>
 bif i then
 bif ((d.2 == 0) == (decide (a.1.1 ≤ a.1.2))) then
 some ((decide ((bK d.1) > 0)) == (d.2 == 0))
 else
 some false
 else
 some false) g
def bM (n : Nat) (f e i g b c : Int) (a : DH) : Option (EAL ⊕ EAM) :=
 bif (decide (g < e)) then
 bif (decide ((b5 f 7) = 5)) then
 (a[0]?).bind fun h =>
 bif (decide (0 < (((List.length a) : Nat) : Int))) then
 (a[0]?).bind fun j =>
 bif (Nat.beq 0 (Int.toNat 0)) then
 bif (Nat.ble (List.length (h.2.2.2.1 ++ ((b, c) :: ([] : List EAA)))) 4294967296) then
 bif (decide (0 < (((List.length a) : Nat) : Int))) then
 (a[0]?).bind fun k =>
 bif (Nat.beq 0 (Int.toNat 0)) then
 (a[(Int.toNat 0)]?).bind fun d =>
 some (Sum.inl ((f, (e, (8, (dN .i64 g 1)))), ((b, c), (List.set a (Int.toNat 0) (d.1, (d.2.1, (d.2.2.1, ((h.2.2.2.1 ++ ((b, c) :: ([] : List EAA))), d.2.2.2.2))))))))
 else none
 else none
 else none
 else none
 else none
 else none
 else
 some (Sum.inr ((e, i), ((b, c), a)))
def cD (n : Nat) (s : EAB × EAA × DH) : Option EAM := bL (fun s => bM n s.1.1 s.1.2.1 s.1.2.2.1 s.1.2.2.2 s.2.1.1 s.2.1.2 s.2.2) n s
def cH (n : Nat) (d e : Int) : Option Bool :=
 (((([] : List EAA), (1, (0, (([] : List EAA), ([] : List EAC))))) :: ([] : List ((List EAA) × Int × Int × (List EAA) × List EAC)))[0]?).bind fun a =>
 (cD n ((d, ((dO .i64 (b5 e 70)), (0, 0))), ((1, 0), (List.set ((([] : List EAA), (1, (0, (([] : List EAA), ([] : List EAC))))) :: ([] : List ((List EAA) × Int × Int × (List EAA) × List EAC))) 0 (a.1, (a.2.1, (a.2.2.1, (a.2.2.2.1, ((26, (0, 0)) :: ([] : List EAC)))))))))).bind fun b =>
 (qbd n ([] : List (List EAA)) b.2.2 ([] : List ((List EAA) × Int × Int)) ([] : DD) ([] : DF)).bind fun c =>
 (qbe n).bind fun f =>
 bif f then
 bif ((c.2 == 0) == (decide (b.1.1 ≤ b.1.2))) then
 some ((decide ((bK c.1) > 0)) == (c.2 == 0))
 else
 some false
 else
 some false
def bN (n : Nat) (d c i e f g : Int) (a : DH) : Option (EAL ⊕ EAM) :=
 bif (decide (e < c)) then
 bif (decide ((b5 d 7) = 6)) then
 (a[0]?).bind fun h =>
 bif (decide (0 < (((List.length a) : Nat) : Int))) then
 (a[0]?).bind fun j =>
 bif (Nat.beq 0 (Int.toNat 0)) then
 bif (Nat.ble (List.length (h.2.2.2.2 ++ ((5, (0, 0)) :: ([] : List EAC)))) 4294967296) then
 bif (decide (0 < (((List.length a) : Nat) : Int))) then
 (a[0]?).bind fun k =>
 bif (Nat.beq 0 (Int.toNat 0)) then
 (a[(Int.toNat 0)]?).bind fun b =>
 some (Sum.inl ((d, (c, (63, (dN .i64 e 1)))), ((f, g), (List.set a (Int.toNat 0) (b.1, (b.2.1, (b.2.2.1, (b.2.2.2.1, (h.2.2.2.2 ++ ((5, (0, 0)) :: ([] : List EAC)))))))))))
 else none
 else none
 else none
 else none
 else none
 else none
 else
 some (Sum.inr ((c, i), ((f, g), a)))
def cC (n : Nat) (s : EAB × EAA × DH) : Option EAM := bL (fun s => bN n s.1.1 s.1.2.1 s.1.2.2.1 s.1.2.2.2 s.2.1.1 s.2.1.2 s.2.2) n s
def cK (n : Nat) (d e : Int) : Option Bool :=
 (((([] : List EAA), (1, (0, (([] : List EAA), ([] : List EAC))))) :: ([] : List ((List EAA) × Int × Int × (List EAA) × List EAC)))[0]?).bind fun a =>
 (cC n ((d, ((dO .i64 (b5 e 70)), (0, 0))), ((1, 0), (List.set ((([] : List EAA), (1, (0, (([] : List EAA), ([] : List EAC))))) :: ([] : List ((List EAA) × Int × Int × (List EAA) × List EAC))) 0 (a.1, (a.2.1, (a.2.2.1, (a.2.2.2.1, ((26, (0, 0)) :: ([] : List EAC)))))))))).bind fun b =>
 (qbd n ([] : List (List EAA)) b.2.2 ([] : List ((List EAA) × Int × Int)) ([] : DD) ([] : DF)).bind fun c =>
 (qbe n).bind fun f =>
 bif f then
 bif ((c.2 == 0) == (decide (b.1.1 ≤ b.1.2))) then
 some ((decide ((bK c.1) > 0)) == (c.2 == 0))
 else
 some false
 else
 some false
end
end Sx
