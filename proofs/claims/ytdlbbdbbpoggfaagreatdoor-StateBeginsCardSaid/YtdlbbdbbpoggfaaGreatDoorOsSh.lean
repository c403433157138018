import Derived.Test.YtdlbbdbbpoggfaaGreatDoorLib5
import Derived.KernelRfl
open Go Go.Ab
set_option linter.unusedVariables false
set_option maxRecDepth 20000
namespace Sx
noncomputable section
abbrev EAB := Int × Int
abbrev DA := List EAB
abbrev DI := List DA
abbrev EAW := Int × Int × Int
abbrev DB := List EAW
abbrev EAG := DA × Int × Int × DA × DB
abbrev DJ := List EAG
abbrev EAX := DA × Int × Int
abbrev DK := List EAX
abbrev DC := List Int
abbrev DD := List ByteArray
abbrev EAA := DI × DJ × DK × DC × DD
abbrev EAC := Int × Int × DC × DC
abbrev DN := List (Bool × DA)
abbrev DO := List DN
abbrev DM := List EAC
abbrev EAM := Int × Int × Bool
abbrev DF := List EAM
abbrev EAD := Bool × DI × DJ × DK × DC × DD × DO × DM × DM × DF × Int × Int × Int × Int
abbrev EAE := DI × DJ × DK × DC × DD × DO × DM × DM × DF × Int × Int × Int × Int
abbrev EAF := DM × DM × DF × Int × Int × Int × Int
abbrev EAH := Int × DI × DJ × DK × DC × DD
abbrev EAI := DM × Int × Int
abbrev EAJ := Bool × DI × DJ × DK × DC × DD
abbrev EAK := DI × Int × Int
abbrev EAL := Int × Bool × Int
abbrev EAN := Bool ⊕ Unit
abbrev EAO := Int × DI × DJ × DK × DC × DD × DO × DM × DM × DF × Int × Int × Int × Int
abbrev EAP := Int × DM × DM × DF × Int × Int × Int × Int
abbrev EAQ := Int ⊕ Unit
abbrev EAR := Nat × Nat
abbrev EAS := Bool × Int
abbrev EAT := DJ × Int × Int
abbrev EAU := DO × Bool
abbrev EAV := Int × Bool
abbrev EAY := DO × Int
abbrev EAZ := DC × Int × Int
abbrev EBA := DA × DC × Int
abbrev EBB := DC × Bool
abbrev EBC := DM × DM × Int × Int
abbrev EBD := DO × Int × DN × Int
abbrev EBE := DK × Int × Int
abbrev EBF := Int × EAA × DA × Int × Int × DA × DB
abbrev EBG := Bool × EAA × DM × DM × DF × Int × Int × Int × Int
abbrev EBH := EAI × DM
abbrev EBI := DO × EAA × DM × DM × DF × Int × Int × Int × Int
abbrev EBJ := EBB × EAA × DC × DC × DA × Int × Int × DA × DB
abbrev EBK := EAU × EAA × DO × DN
abbrev EBL := EAY × EAA × DM × DM × DF × Int × Int × Int × Int
abbrev EBM := Bool × EAC × Int × Int × DC × DC
abbrev EBN := EAR × DI × Int × Int
abbrev EBO := EAB × DI × DJ × DK × DC × DD
abbrev EBP := EBD × DI × DJ × DK × DC × DD
abbrev EBQ := EAY × DI × DJ × DK × DC × DD
abbrev EBR := EAB ⊕ Int
abbrev DE := List Int
abbrev DG := List ByteArray
abbrev DH := List (Nat × Int × Int)
abbrev DL := List DC
def qbw_B0 (n : Nat) (c b : Int) (a : DI) (d : DJ) (e : DK) (f : DC) (g : DD) : Option (EBO ⊕ EAH) :=
 bif (decide (b < (aA a))) then
 (aD a b).bind fun h =>
 some (Sum.inl (((aI .i64 c (aA h)), (aI .i64 b 1)), (a, (d, (e, (f, g))))))
 else
 some (Sum.inr (c, (a, (d, (e, (f, g))))))
def qbw_W0 (n : Nat) (s : EAB × DI × DJ × DK × DC × DD) : Option EAH := aL (fun s => qbw_B0 n s.1.1 s.1.2 s.2.1 s.2.2.1 s.2.2.2.1 s.2.2.2.2.1 s.2.2.2.2.2) n s
def qbw_B2 (n : Nat) (c b : Int) (d : DI) (a : DJ) (e : DK) (f : DC) (g : DD) : Option (EBO ⊕ EAH) :=
 bif (decide (b < (aA a))) then
 (aD a b).bind fun h =>
 (aD a b).bind fun i =>
 (aD a b).bind fun j =>
 some (Sum.inl (((aI .i64 (aI .i64 (aI .i64 c (aA h.1)) (aA i.2.2.2.1)) (aA j.2.2.2.2)), (aI .i64 b 1)), (d, (a, (e, (f, g))))))
 else
 some (Sum.inr (c, (d, (a, (e, (f, g))))))
def qbw_W2 (n : Nat) (s : EAB × DI × DJ × DK × DC × DD) : Option EAH := aL (fun s => qbw_B2 n s.1.1 s.1.2 s.2.1 s.2.2.1 s.2.2.2.1 s.2.2.2.2.1 s.2.2.2.2.2) n s
def qbw_B4 (n : Nat) (c b : Int) (d : DI) (e : DJ) (a : DK) (f : DC) (g : DD) : Option (EBO ⊕ EAH) :=
 bif (decide (b < (aA a))) then
 (aD a b).bind fun h =>
 some (Sum.inl (((aI .i64 c (aA h.1)), (aI .i64 b 1)), (d, (e, (a, (f, g))))))
 else
 some (Sum.inr (c, (d, (e, (a, (f, g))))))
def qbw_W4 (n : Nat) (s : EAB × DI × DJ × DK × DC × DD) : Option EAH := aL (fun s => qbw_B4 n s.1.1 s.1.2 s.2.1 s.2.2.1 s.2.2.2.1 s.2.2.2.2.1 s.2.2.2.2.2) n s
def qbw_B6 (n : Nat) (c b : Int) (d : DI) (e : DJ) (f : DK) (g : DC) (a : DD) : Option (EBO ⊕ EAH) :=
 bif (decide (b < (aA a))) then
 (aD a b).bind fun h =>
 some (Sum.inl (((aI .i64 c (w6 h)), (aI .i64 b 1)), (d, (e, (f, (g, a))))))
 else
 some (Sum.inr (c, (d, (e, (f, (g, a))))))
def qbw_W6 (n : Nat) (s : EAB × DI × DJ × DK × DC × DD) : Option EAH := aL (fun s => qbw_B6 n s.1.1 s.1.2 s.2.1 s.2.2.1 s.2.2.2.1 s.2.2.2.2.1 s.2.2.2.2.2) n s
def qbw (n : Nat) (a : DI) (b : DJ) (c : DK) (d : DC) (e : DD) : Option Bool :=
 bif (decide ((aI .i64 (aI .i64 (aI .i64 (aI .i64 (aA a) (aA b)) (aA c)) (aA d)) (aA e)) > 200)) then
 some false
 else
 (qbw_W0 n (((aI .i64 (aI .i64 (aI .i64 (aI .i64 (aA a) (aA b)) (aA c)) (aA d)) (aA e)), 0), (a, (b, (c, (d, e)))))).bind fun f =>
 (qbw_W2 n ((f.1, 0), f.2)).bind fun g =>
 (qbw_W4 n ((g.1, 0), g.2)).bind fun h =>
 (qbw_W6 n ((h.1, 0), h.2)).bind fun i =>
 some (decide (i.1 < 3000))
def qed (n : Nat) (b a c : Int) : Option Bool :=
 bif (b == 1) then
 some (a == 0)
 else
 bif (b == 2) then
 some (a == 0)
 else
 bif (b == 3) then
 some (a == 0)
 else
 bif (b == 7) then
 some (a == 0)
 else
 bif (b == 4) then
 bif (decide (a ≥ 0)) then
 some (decide (a < c))
 else
 some false
 else
 bif (b == 5) then
 bif (decide (a ≥ 0)) then
 some (decide (a < 4))
 else
 some false
 else
 some false
def qbc (n : Nat) (b c a : Int) : Option EAS :=
 (qed n b c a).bind fun d =>
 some ((!d), a)
def qao_B0 (n : Nat) (c : DA) (d a e : Int) : Option ((EAX × Int) ⊕ EBR) :=
 bif (decide (a < d)) then
 (aD c a).bind fun f =>
 (qbc n f.1 f.2 e).bind fun b =>
 bif b.1 then
 some (Sum.inr (Sum.inl (a, b.2)))
 else
 some (Sum.inl ((c, (d, (aI .i64 a 1))), b.2))
 else
 some (Sum.inr (Sum.inr e))
def qao_W0 (n : Nat) (s : EAX × Int) : Option EBR := aL (fun s => qao_B0 n s.1.1 s.1.2.1 s.1.2.2 s.2) n s
def qao (n : Nat) (a : DA) (b : Int) : Option EAB :=
 (qao_W0 n ((a, ((aA a), 0)), b)).bind fun c =>
 Sum.rec (fun d =>
 some d) (fun e =>
 some ((-1), e)) c
def qr (n : Nat) (b : DA) (c : Int) : Option EAS :=
 (qao n b c).bind fun a =>
 some ((decide (a.1 ≥ 0)), a.2)
def qcj (n : Nat) (a : DA) (b c : Int) : Option Bool :=
 bif (decide ((aA a) ≤ c)) then
 (qr n a b).bind fun d =>
 some (!d.1)
 else
 some false
def qbo (n : Nat) (b : DA) (a : Int) : Option EAS :=
 (qcj n b a 6).bind fun c =>
 some ((!c), a)
def qae_B0 (n : Nat) (c : DI) (d a e : Int) : Option ((EAK × Int) ⊕ EBR) :=
 bif (decide (a < d)) then
 (aD c a).bind fun f =>
 (qbo n f e).bind fun b =>
 bif b.1 then
 some (Sum.inr (Sum.inl (a, b.2)))
 else
 some (Sum.inl ((c, (d, (aI .i64 a 1))), b.2))
 else
 some (Sum.inr (Sum.inr e))
def qae_W0 (n : Nat) (s : EAK × Int) : Option EBR := aL (fun s => qae_B0 n s.1.1 s.1.2.1 s.1.2.2 s.2) n s
def qae (n : Nat) (a : DI) (b : Int) : Option EAB :=
 (qae_W0 n ((a, ((aA a), 0)), b)).bind fun c =>
 Sum.rec (fun d =>
 some d) (fun e =>
 some ((-1), e)) c
def qd (n : Nat) (b : DI) (c : Int) : Option EAS :=
 (qae n b c).bind fun a =>
 some ((decide (a.1 ≥ 0)), a.2)
def qdy (n : Nat) (a : Int) : Option Int :=
 bif (a == 29) then
 some 2
 else
 bif (a == 30) then
 some 2
 else
 bif (a == 0) then
 some 1
 else
 bif (a == 1) then
 some 1
 else
 bif (a == 3) then
 some 1
 else
 bif (a == 4) then
 some 1
 else
 bif (a == 23) then
 some 1
 else
 bif (a == 24) then
 some 1
 else
 bif (a == 25) then
 some 1
 else
 bif (a == 27) then
 some 1
 else
 bif (a == 28) then
 some 1
 else
 bif (decide (a < 0)) then
 some (-1)
 else
 bif (decide (a ≥ 42)) then
 some (-1)
 else
 some 0
def qep (n : Nat) (a : Int) (b : Bool) : Option Bool :=
 bif (decide (a ≥ 0)) then
 bif (decide (a ≤ 255)) then
 bif b then
 some true
 else
 some (a == 0)
 else
 some false
 else
 some false
def qeq_B0 (n : Nat) (a : Int) (b : DC) : Option ((Int × DC) ⊕ (Int × DC)) :=
 bif (decide (a ≥ 128)) then
 bif (Nat.ble (List.length (b ++ ((P4 .u8 (aY .u8 a) 128) :: ([] : DE)))) 4294967296) then
 some (Sum.inl ((Mj .u64 a 7), (b ++ ((P4 .u8 (aY .u8 a) 128) :: ([] : DE)))))
 else none
 else
 some (Sum.inr (a, b))
def qeq_W0 (n : Nat) (s : Int × DC) : Option (Int × DC) := aL (fun s => qeq_B0 n s.1 s.2) n s
def qeq (n : Nat) (b : Int) : Option DC :=
 (qeq_W0 n (b, ([] : DE))).bind fun a =>
 bif (Nat.ble (List.length (a.2 ++ ((aY .u8 a.1) :: ([] : DE)))) 4294967296) then
 some (a.2 ++ ((aY .u8 a.1) :: ([] : DE)))
 else none
def qek_B0 (n : Nat) (b : Nat × Nat) (f a : Int) (c : DC) (d e : Int) : Option (((EAR × Int × Int) × DC × Int × Int) ⊕ EAZ) :=
 bif (decide (a < f)) then
 bif ((decide (0 ≤ a)) && (decide (a < ((b.2 : Nat) : Int)))) then
 bif (Nat.beq (((b.1 + (Int.toNat a)) * 1) + 0) 0) then
 (qeq n (aY .u64 d)).bind fun g =>
 bif (Nat.ble (List.length (c ++ g)) 4294967296) then
 some (Sum.inl ((b, (f, (aI .i64 a 1))), ((c ++ g), (d, e))))
 else none
 else
 bif (Nat.beq (((b.1 + (Int.toNat a)) * 1) + 0) 1) then
 (qeq n (aY .u64 e)).bind fun h =>
 bif (Nat.ble (List.length (c ++ h)) 4294967296) then
 some (Sum.inl ((b, (f, (aI .i64 a 1))), ((c ++ h), (d, e))))
 else none
 else none
 else none
 else
 some (Sum.inr (c, (d, e)))
def qek_W0 (n : Nat) (s : (EAR × Int × Int) × DC × Int × Int) : Option EAZ := aL (fun s => qek_B0 n s.1.1 s.1.2.1 s.1.2.2 s.2.1 s.2.2.1 s.2.2.2) n s
def qek (n : Nat) (b c d : Int) : Option DC :=
 (qdy n b).bind fun a =>
 bif (decide (a < 0)) then
 some ([] : DE)
 else
 (qep n c (decide (a > 0))).bind fun e =>
 bif (!e) then
 some ([] : DE)
 else
 (qep n d (decide (a > 1))).bind fun f =>
 bif (!f) then
 some ([] : DE)
 else
 bif ((decide (0 ≤ a)) && (decide (a ≤ 2))) then
 (qek_W0 n (((0, ((Int.toNat a) - 0)), (((((Int.toNat a) - 0) : Nat) : Int), 0)), (((aY .u8 b) :: ([] : DE)), (c, d)))).bind fun g =>
 some g.1
 else none
def qaj (n : Nat) (a b c : Int) : Option Bool :=
 (qek n a b c).bind fun d =>
 some ((aA d) == 0)
def qal_B0 (n : Nat) (c : DB) (d a : Int) : Option ((DB × Int × Int) ⊕ EAQ) :=
 bif (decide (a < d)) then
 (aD c a).bind fun b =>
 (qaj n b.1 b.2.1 b.2.2).bind fun e =>
 bif e then
 some (Sum.inr (Sum.inl a))
 else
 some (Sum.inl (c, (d, (aI .i64 a 1))))
 else
 some (Sum.inr (Sum.inr ()))
def qal_W0 (n : Nat) (s : DB × Int × Int) : Option EAQ := aL (fun s => qal_B0 n s.1 s.2.1 s.2.2) n s
def qal (n : Nat) (a : DB) : Option Int :=
 (qal_W0 n (a, ((aA a), 0))).bind fun b =>
 Sum.rec (fun c =>
 some c) (fun d =>
 some (-1)) b
def qk (n : Nat) (a : DB) : Option Bool :=
 (qal n a).bind fun b =>
 some (decide (b ≥ 0))
def qat (n : Nat) (c : DA) (d e : Int) (f : DA) (a : DB) (b : Int) : Option Bool :=
 (qcj n c b 4).bind fun g =>
 bif g then
 (qed n d e b).bind fun h =>
 bif h then
 (qcj n f b (a8 .i64 8 (aA c))).bind fun i =>
 bif i then
 bif (decide ((aA a) ≥ 1)) then
 bif (decide ((aA a) ≤ 64)) then
 (qk n a).bind fun j =>
 some (!j)
 else
 some false
 else
 some false
 else
 some false
 else
 some false
 else
 some false
def qbd (n : Nat) (b : DA) (c d : Int) (e : DA) (f : DB) (a : Int) : Option EAS :=
 (qat n b c d e f a).bind fun g =>
 some ((!g), a)
def qaq_B0 (n : Nat) (d : DJ) (e b f : Int) : Option ((EAT × Int) ⊕ EBR) :=
 bif (decide (b < e)) then
 (aD d b).bind fun a =>
 (qbd n a.1 a.2.1 a.2.2.1 a.2.2.2.1 a.2.2.2.2 f).bind fun c =>
 bif c.1 then
 some (Sum.inr (Sum.inl (b, c.2)))
 else
 some (Sum.inl ((d, (e, (aI .i64 b 1))), c.2))
 else
 some (Sum.inr (Sum.inr f))
def qaq_W0 (n : Nat) (s : EAT × Int) : Option EBR := aL (fun s => qaq_B0 n s.1.1 s.1.2.1 s.1.2.2 s.2) n s
def qaq (n : Nat) (a : DJ) (b : Int) : Option EAB :=
 (qaq_W0 n ((a, ((aA a), 0)), b)).bind fun c =>
 Sum.rec (fun d =>
 some d) (fun e =>
 some ((-1), e)) c
def qs (n : Nat) (b : DJ) (c : Int) : Option EAS :=
 (qaq n b c).bind fun a =>
 some ((decide (a.1 ≥ 0)), a.2)
def qbm (n : Nat) (b : DA) (c d a : Int) : Option EAS :=
 (qcj n b a 4).bind fun e =>
 bif (!e) then
 some (true, a)
 else
 (qed n c d a).bind fun f =>
 some ((!f), a)
def qad_B0 (n : Nat) (d : DK) (e a f : Int) : Option ((EBE × Int) ⊕ EBR) :=
 bif (decide (a < e)) then
 (aD d a).bind fun b =>
 (qbm n b.1 b.2.1 b.2.2 f).bind fun c =>
 bif c.1 then
 some (Sum.inr (Sum.inl (a, c.2)))
 else
 some (Sum.inl ((d, (e, (aI .i64 a 1))), c.2))
 else
 some (Sum.inr (Sum.inr f))
def qad_W0 (n : Nat) (s : EBE × Int) : Option EBR := aL (fun s => qad_B0 n s.1.1 s.1.2.1 s.1.2.2 s.2) n s
def qad (n : Nat) (a : DK) (b : Int) : Option EAB :=
 (qad_W0 n ((a, ((aA a), 0)), b)).bind fun c =>
 Sum.rec (fun d =>
 some d) (fun e =>
 some ((-1), e)) c
def qf (n : Nat) (b : DK) (c : Int) : Option EAS :=
 (qad n b c).bind fun a =>
 some ((decide (a.1 ≥ 0)), a.2)
def qbf (n : Nat) (a : ByteArray) : Option Bool :=
 some (decide ((w6 a) > 32))
def qac_B0 (n : Nat) (b : DD) (c a : Int) : Option ((DD × Int × Int) ⊕ EAQ) :=
 bif (decide (a < c)) then
 (aD b a).bind fun d =>
 (qbf n d).bind fun e =>
 bif e then
 some (Sum.inr (Sum.inl a))
 else
 some (Sum.inl (b, (c, (aI .i64 a 1))))
 else
 some (Sum.inr (Sum.inr ()))
def qac_W0 (n : Nat) (s : DD × Int × Int) : Option EAQ := aL (fun s => qac_B0 n s.1 s.2.1 s.2.2) n s
def qac (n : Nat) (a : DD) : Option Int :=
 (qac_W0 n (a, ((aA a), 0))).bind fun b =>
 Sum.rec (fun c =>
 some c) (fun d =>
 some (-1)) b
def qi (n : Nat) (a : DD) : Option Bool :=
 (qac n a).bind fun b =>
 some (decide (b ≥ 0))
def qcn (n : Nat) (a : DI) (b : DJ) (c : DK) (g : DC) (d : DD) : Option Bool :=
 bif (decide ((aA a) ≤ 8)) then
 (qd n a (aA a)).bind fun e =>
 bif (!e.1) then
 bif (decide ((aA b) ≥ 1)) then
 bif (decide ((aA b) ≤ 8)) then
 (qs n b e.2).bind fun f =>
 bif (!f.1) then
 bif (decide ((aA c) ≤ 8)) then
 (qf n c f.2).bind fun h =>
 bif (!h.1) then
 bif (decide ((aA g) ≤ 16)) then
 bif (decide ((aA d) ≤ 16)) then
 (qi n d).bind fun i =>
 some (!i)
 else
 some false
 else
 some false
 else
 some false
 else
 some false
 else
 some false
 else
 some false
 else
 some false
 else
 some false
 else
 some false
def ql (n : Nat) (b : Int) : Option DC :=
 (qeq n (aY .u64 b)).bind fun a =>
 bif (Nat.ble (List.length a) 4294967296) then
 some a
 else none
def qc (n : Nat) (c : Int) (a : DC) : Option DC :=
 (qeq n (aY .u64 c)).bind fun b =>
 bif (Nat.ble (List.length (a ++ b)) 4294967296) then
 some (a ++ b)
 else none
def qen (n : Nat) (c d : Int) : Option DC :=
 (qeq n (aY .u64 (Iz c 0))).bind fun a =>
 (qeq n (aY .u64 (Iz d 0))).bind fun b =>
 bif (Nat.ble (List.length (a ++ b)) 4294967296) then
 some (a ++ b)
 else none
def qm_B0 (n : Nat) (c : DA) (d a : Int) (b : DC) : Option ((EAX × DC) ⊕ DC) :=
 bif (decide (a < d)) then
 (aD c a).bind fun e =>
 (qen n e.1 e.2).bind fun f =>
 bif (Nat.ble (List.length (b ++ f)) 4294967296) then
 some (Sum.inl ((c, (d, (aI .i64 a 1))), (b ++ f)))
 else none
 else
 some (Sum.inr b)
def qm_W0 (n : Nat) (s : EAX × DC) : Option DC := aL (fun s => qm_B0 n s.1.1 s.1.2.1 s.1.2.2 s.2) n s
def qm (n : Nat) (a : DA) (b : DC) : Option DC :=
 (qc n (aA a) b).bind fun c =>
 (qm_W0 n ((a, ((aA a), 0)), c)).bind fun d =>
 some d
def qan_B0 (n : Nat) (b : DI) (c a : Int) (d : DC) : Option ((EAK × DC) ⊕ DC) :=
 bif (decide (a < c)) then
 (aD b a).bind fun e =>
 (qm n e d).bind fun f =>
 some (Sum.inl ((b, (c, (aI .i64 a 1))), f))
 else
 some (Sum.inr d)
def qan_W0 (n : Nat) (s : EAK × DC) : Option DC := aL (fun s => qan_B0 n s.1.1 s.1.2.1 s.1.2.2 s.2) n s
def qan (n : Nat) (a : DI) (d : DJ) (e : DK) (f : DC) (g : DD) : Option DC :=
 (ql n (aA a)).bind fun b =>
 (qan_W0 n ((a, ((aA a), 0)), b)).bind fun c =>
 some c
def qx_B2 (n : Nat) (d : DJ) (e f : Int) (g : DB) (h a : Int) (b : DC) : Option (((DJ × Int × Int × DB × Int × Int) × DC) ⊕ (EAT × DC)) :=
 bif (decide (a < h)) then
 (aD g a).bind fun c =>
 (qek n c.1 c.2.1 c.2.2).bind fun i =>
 bif (Nat.ble (List.length (b ++ i)) 4294967296) then
 some (Sum.inl ((d, (e, (f, (g, (h, (aI .i64 a 1)))))), (b ++ i)))
 else none
 else
 some (Sum.inr ((d, (e, f)), b))
def qx_W2 (n : Nat) (s : (DJ × Int × Int × DB × Int × Int) × DC) : Option (EAT × DC) := aL (fun s => qx_B2 n s.1.1 s.1.2.1 s.1.2.2.1 s.1.2.2.2.1 s.1.2.2.2.2.1 s.1.2.2.2.2.2 s.2) n s
def qx_B0 (n : Nat) (d : DJ) (e c : Int) (f : DC) : Option ((EAT × DC) ⊕ DC) :=
 bif (decide (c < e)) then
 (aD d c).bind fun a =>
 (qm n a.1 f).bind fun g =>
 (qen n a.2.1 a.2.2.1).bind fun h =>
 bif (Nat.ble (List.length (g ++ h)) 4294967296) then
 (qm n a.2.2.2.1 (g ++ h)).bind fun i =>
 (qc n (aA a.2.2.2.2) i).bind fun j =>
 (qx_W2 n ((d, (e, (c, (a.2.2.2.2, ((aA a.2.2.2.2), 0))))), j)).bind fun b =>
 some (Sum.inl ((b.1.1, (b.1.2.1, (aI .i64 b.1.2.2 1))), b.2))
 else none
 else
 some (Sum.inr f)
def qx_W0 (n : Nat) (s : EAT × DC) : Option DC := aL (fun s => qx_B0 n s.1.1 s.1.2.1 s.1.2.2 s.2) n s
def qx (n : Nat) (d : DI) (a : DJ) (e : DK) (f : DC) (g : DD) : Option DC :=
 (ql n (aA a)).bind fun b =>
 (qx_W0 n ((a, ((aA a), 0)), b)).bind fun c =>
 some c
def qar_B0 (n : Nat) (c : DK) (d a : Int) (e : DC) : Option ((EBE × DC) ⊕ DC) :=
 bif (decide (a < d)) then
 (aD c a).bind fun b =>
 (qm n b.1 e).bind fun f =>
 (qen n b.2.1 b.2.2).bind fun g =>
 bif (Nat.ble (List.length (f ++ g)) 4294967296) then
 some (Sum.inl ((c, (d, (aI .i64 a 1))), (f ++ g)))
 else none
 else
 some (Sum.inr e)
def qar_W0 (n : Nat) (s : EBE × DC) : Option DC := aL (fun s => qar_B0 n s.1.1 s.1.2.1 s.1.2.2 s.2) n s
def qar (n : Nat) (d : DI) (e : DJ) (a : DK) (f : DC) (g : DD) : Option DC :=
 (ql n (aA a)).bind fun b =>
 (qar_W0 n ((a, ((aA a), 0)), b)).bind fun c =>
 some c
def qdx_B0 (n : Nat) (b d a : Int) (c : DC) : Option ((EAW × DC) ⊕ DC) :=
 bif (decide (a < d)) then
 bif (decide (0 ≤ (Mk .i64 8 a))) then
 bif (Nat.ble (List.length (c ++ ((aY .u8 (Mj .u64 b (Mk .i64 8 a))) :: ([] : DE)))) 4294967296) then
 some (Sum.inl ((b, (d, (aI .i64 a 1))), (c ++ ((aY .u8 (Mj .u64 b (Mk .i64 8 a))) :: ([] : DE)))))
 else none
 else none
 else
 some (Sum.inr c)
def qdx_W0 (n : Nat) (s : EAW × DC) : Option DC := aL (fun s => qdx_B0 n s.1.1 s.1.2.1 s.1.2.2 s.2) n s
def qdx (n : Nat) (a b : Int) : Option DC :=
 (qdx_W0 n ((a, ((Ol (Iz b 0) 8), 0)), ([] : DE))).bind fun c =>
 some c
def qau_B0 (n : Nat) (c : DC) (d a : Int) (b : DC) : Option ((EAZ × DC) ⊕ DC) :=
 bif (decide (a < d)) then
 (aD c a).bind fun f =>
 (qdx n f 8).bind fun e =>
 bif (Nat.ble (List.length (b ++ e)) 4294967296) then
 some (Sum.inl ((c, (d, (aI .i64 a 1))), (b ++ e)))
 else none
 else
 some (Sum.inr b)
def qau_W0 (n : Nat) (s : EAZ × DC) : Option DC := aL (fun s => qau_B0 n s.1.1 s.1.2.1 s.1.2.2 s.2) n s
def qau (n : Nat) (d : DI) (e : DJ) (f : DK) (a : DC) (g : DD) : Option DC :=
 (ql n (aA a)).bind fun b =>
 (qau_W0 n ((a, ((aA a), 0)), b)).bind fun c =>
 some c
def qbh_B0 (n : Nat) (c : DD) (d a : Int) (e : DC) : Option (((DD × Int × Int) × DC) ⊕ DC) :=
 bif (decide (a < d)) then
 (aD c a).bind fun b =>
 (qc n (w6 b) e).bind fun f =>
 bif (Nat.ble (List.length (f ++ (cE b))) 4294967296) then
 some (Sum.inl ((c, (d, (aI .i64 a 1))), (f ++ (cE b))))
 else none
 else
 some (Sum.inr e)
def qbh_W0 (n : Nat) (s : (DD × Int × Int) × DC) : Option DC := aL (fun s => qbh_B0 n s.1.1 s.1.2.1 s.1.2.2 s.2) n s
def qbh (n : Nat) (d : DI) (e : DJ) (f : DK) (g : DC) (a : DD) : Option DC :=
 (ql n (aA a)).bind fun b =>
 (qbh_W0 n ((a, ((aA a), 0)), b)).bind fun c =>
 some c
def qdv_B0 (n : Nat) (e : DL) (f b : Int) (a : DC) : Option (((DL × Int × Int) × DC) ⊕ DC) :=
 bif (decide (b < f)) then
 (aD e b).bind fun c =>
 (qeq n (aY .u64 (aA c))).bind fun d =>
 bif (Nat.ble (List.length (a ++ d)) 4294967296) then
 bif (Nat.ble (List.length ((a ++ d) ++ c)) 4294967296) then
 some (Sum.inl ((e, (f, (aI .i64 b 1))), ((a ++ d) ++ c)))
 else none
 else none
 else
 some (Sum.inr a)
def qdv_W0 (n : Nat) (s : (DL × Int × Int) × DC) : Option DC := aL (fun s => qdv_B0 n s.1.1 s.1.2.1 s.1.2.2 s.2) n s
def qdv (n : Nat) (a : DL) : Option DC :=
 (qeq n (aY .u64 (aA a))).bind fun b =>
 (qdv_W0 n ((a, ((aA a), 0)), b)).bind fun c =>
 some c
def qax (n : Nat) (a : DI) (b : DJ) (c : DK) (d : DC) (e : DD) : Option (DC × Int) :=
 (qcn n a b c d e).bind fun f =>
 bif (!f) then
 some (([] : DE), 2)
 else
 (qan n a b c d e).bind fun g =>
 (qx n a b c d e).bind fun h =>
 (qar n a b c d e).bind fun i =>
 (qau n a b c d e).bind fun j =>
 (qbh n a b c d e).bind fun k =>
 (qdv n (g :: (h :: (i :: (j :: (k :: ([] : DL))))))).bind fun l =>
 some (l, 0)
def qdp (n : Nat) (a b : Int) : Option Bool :=
 some (decide (a < b))
def qdq (n : Nat) (c : DI) (h : DJ) (i : DK) (j : DC) (k : DD) (d : DA) (ab ac : Int) (e : DA) (f : DB) (b a g : Int) : Option Bool :=
 bif (b == 0) then
 (qdp n a (aA j)).bind fun l =>
 some l
 else
 bif (b == 1) then
 (qdp n a (aA k)).bind fun m =>
 some m
 else
 bif (b == 3) then
 (qdp n a (aI .i64 (aA d) (aA e))).bind fun o =>
 some o
 else
 bif (b == 4) then
 (qdp n a (aI .i64 (aA d) (aA e))).bind fun p =>
 some p
 else
 bif (b == 23) then
 (qdp n a (aA f)).bind fun q =>
 some q
 else
 bif (b == 24) then
 (qdp n a (aA f)).bind fun r =>
 some r
 else
 bif (b == 25) then
 (qdp n a (aA h)).bind fun s =>
 some s
 else
 bif (b == 27) then
 (qdp n a (aA i)).bind fun t =>
 some t
 else
 bif (b == 28) then
 (qdp n a (aA c)).bind fun u =>
 some u
 else
 bif (b == 29) then
 (qdp n a (aA c)).bind fun v =>
 bif v then
 (aD c a).bind fun w =>
 (qdp n g (aA w)).bind fun x =>
 some x
 else
 some false
 else
 bif (b == 30) then
 (qdp n a (aA c)).bind fun y =>
 bif y then
 (aD c a).bind fun z =>
 (qdp n g (aA z)).bind fun aa =>
 some aa
 else
 some false
 else
 some true
def qbu (n : Nat) (k l m : Int) (a : DI) (b : DJ) (c : DK) (d : DC) (e : DD) (f : DA) (g h : Int) (i : DA) (j : DB) : Option (Bool × EAA × DA × Int × Int × DA × DB) :=
 (qdq n a b c d e f g h i j k l m).bind fun o =>
 some ((!o), ((a, (b, (c, (d, e)))), (f, (g, (h, (i, j))))))
def qu_B0 (n : Nat) (d : DB) (e a : Int) (f : DI) (g : DJ) (h : DK) (i : DC) (j : DD) (k : DA) (l m : Int) (o : DA) (p : DB) : Option (((DB × Int × Int) × EAA × DA × Int × Int × DA × DB) ⊕ (EBF ⊕ (EAA × DA × Int × Int × DA × DB))) :=
 bif (decide (a < e)) then
 (aD d a).bind fun b =>
 (qbu n b.1 b.2.1 b.2.2 f g h i j k l m o p).bind fun c =>
 bif c.1 then
 some (Sum.inr (Sum.inl (a, c.2)))
 else
 some (Sum.inl ((d, (e, (aI .i64 a 1))), c.2))
 else
 some (Sum.inr (Sum.inr ((f, (g, (h, (i, j)))), (k, (l, (m, (o, p)))))))
def qu_W0 (n : Nat) (s : (DB × Int × Int) × EAA × DA × Int × Int × DA × DB) : Option (EBF ⊕ (EAA × DA × Int × Int × DA × DB)) := aL (fun s => qu_B0 n s.1.1 s.1.2.1 s.1.2.2 s.2.1.1 s.2.1.2.1 s.2.1.2.2.1 s.2.1.2.2.2.1 s.2.1.2.2.2.2 s.2.2.1 s.2.2.2.1 s.2.2.2.2.1 s.2.2.2.2.2.1 s.2.2.2.2.2.2) n s
def qu (n : Nat) (a : DB) (b : DI) (c : DJ) (d : DK) (e : DC) (f : DD) (g : DA) (h i : Int) (j : DA) (k : DB) : Option EBF :=
 (qu_W0 n ((a, ((aA a), 0)), ((b, (c, (d, (e, f)))), (g, (h, (i, (j, k))))))).bind fun l =>
 Sum.rec (fun m =>
 some m) (fun o =>
 some ((-1), o)) l
def qb (n : Nat) (b : DB) (c : DI) (d : DJ) (e : DK) (f : DC) (g : DD) (h : DA) (i j : Int) (k : DA) (l : DB) : Option (Bool × EAA × DA × Int × Int × DA × DB) :=
 (qu n b c d e f g h i j k l).bind fun a =>
 some ((decide (a.1 ≥ 0)), a.2)
def qco (n : Nat) (a b : Int) : Option Bool :=
 some (a == 5)
def qy_B0 (n : Nat) (b : DA) (c a : Int) : Option (EAX ⊕ EAQ) :=
 bif (decide (a < c)) then
 (aD b a).bind fun d =>
 (qco n d.1 d.2).bind fun e =>
 bif e then
 some (Sum.inr (Sum.inl a))
 else
 some (Sum.inl (b, (c, (aI .i64 a 1))))
 else
 some (Sum.inr (Sum.inr ()))
def qy_W0 (n : Nat) (s : DA × Int × Int) : Option EAQ := aL (fun s => qy_B0 n s.1 s.2.1 s.2.2) n s
def qy (n : Nat) (a : DA) : Option Int :=
 (qy_W0 n (a, ((aA a), 0))).bind fun b =>
 Sum.rec (fun c =>
 some c) (fun d =>
 some (-1)) b
def qg (n : Nat) (a : DA) : Option Bool :=
 (qy n a).bind fun b =>
 some (decide (b ≥ 0))
def qcv_B0 (n : Nat) (d : DJ) (e c : Int) (f : DI) (g : DJ) (h : DK) (i : DC) (j : DD) : Option ((EAT × DI × DJ × DK × DC × DD) ⊕ (EBF ⊕ EAA)) :=
 bif (decide (c < e)) then
 (aD d c).bind fun a =>
 (qb n a.2.2.2.2 f g h i j a.1 a.2.1 a.2.2.1 a.2.2.2.1 a.2.2.2.2).bind fun b =>
 bif b.1 then
 some (Sum.inr (Sum.inl (1, b.2)))
 else
 (qg n b.2.2.2.2.2.1).bind fun k =>
 bif k then
 some (Sum.inr (Sum.inl (1, b.2)))
 else
 some (Sum.inl ((d, (e, (aI .i64 c 1))), b.2.1))
 else
 some (Sum.inr (Sum.inr (f, (g, (h, (i, j))))))
def qcv_W0 (n : Nat) (s : EAT × DI × DJ × DK × DC × DD) : Option (EBF ⊕ EAA) := aL (fun s => qcv_B0 n s.1.1 s.1.2.1 s.1.2.2 s.2.1 s.2.2.1 s.2.2.2.1 s.2.2.2.2.1 s.2.2.2.2.2) n s
def qdr (n : Nat) (a b : Int) : Option Bool :=
 bif (a == 1) then
 some true
 else
 some (a == 5)
def qbi (n : Nat) (a b : Int) : Option Bool :=
 (qdr n a b).bind fun c =>
 some (!c)
def qaa_B0 (n : Nat) (b : DA) (c a : Int) : Option (EAX ⊕ EAQ) :=
 bif (decide (a < c)) then
 (aD b a).bind fun d =>
 (qbi n d.1 d.2).bind fun e =>
 bif e then
 some (Sum.inr (Sum.inl a))
 else
 some (Sum.inl (b, (c, (aI .i64 a 1))))
 else
 some (Sum.inr (Sum.inr ()))
def qaa_W0 (n : Nat) (s : DA × Int × Int) : Option EAQ := aL (fun s => qaa_B0 n s.1 s.2.1 s.2.2) n s
def qaa (n : Nat) (a : DA) : Option Int :=
 (qaa_W0 n (a, ((aA a), 0))).bind fun b =>
 Sum.rec (fun c =>
 some c) (fun d =>
 some (-1)) b
def qe (n : Nat) (a : DA) : Option Bool :=
 (qaa n a).bind fun b =>
 some (decide (b ≥ 0))
def qcd (n : Nat) (a : DA) (b c : Int) : Option Bool :=
 (qdr n b c).bind fun d =>
 bif (!d) then
 some true
 else
 (qe n a).bind fun e =>
 some e
def qq_B0 (n : Nat) (c : DK) (d a : Int) : Option (EBE ⊕ EAQ) :=
 bif (decide (a < d)) then
 (aD c a).bind fun b =>
 (qcd n b.1 b.2.1 b.2.2).bind fun e =>
 bif e then
 some (Sum.inr (Sum.inl a))
 else
 some (Sum.inl (c, (d, (aI .i64 a 1))))
 else
 some (Sum.inr (Sum.inr ()))
def qq_W0 (n : Nat) (s : DK × Int × Int) : Option EAQ := aL (fun s => qq_B0 n s.1 s.2.1 s.2.2) n s
def qq (n : Nat) (a : DK) : Option Int :=
 (qq_W0 n (a, ((aA a), 0))).bind fun b =>
 Sum.rec (fun c =>
 some c) (fun d =>
 some (-1)) b
def qa (n : Nat) (a : DK) : Option Bool :=
 (qq n a).bind fun b =>
 some (decide (b ≥ 0))
def qcv (n : Nat) (b : DI) (a : DJ) (c : DK) (d : DC) (e : DD) : Option Int :=
 (qax n b a c d e).bind fun f =>
 bif (f.2 != 0) then
 some f.2
 else
 (qcv_W0 n ((a, ((aA a), 0)), (b, (a, (c, (d, e)))))).bind fun g =>
 Sum.rec (fun h =>
 some h.1) (fun i =>
 (qa n i.2.2.1).bind fun j =>
 bif j then
 some 1
 else
 some 0) g
def qef (n : Nat) (b : DI) (a : DJ) (c : DK) (d : DC) (e : DD) : Option Bool :=
 (qcv n b a c d e).bind fun f =>
 bif (f == 0) then
 (aD a 0).bind fun g =>
 bif ((aA g.1) == 0) then
 (aD a 0).bind fun h =>
 some (h.2.1 == 1)
 else
 some false
 else
 some false
def qca (n : Nat) (d : DI) (c : DJ) (e : DK) (f : DC) (g : DD) (b : Int) : Option ((DM × Int × Int × Int × Int) × Int) :=
 (qef n d c e f g).bind fun h =>
 bif (!h) then
 some (([], (0, (0, (0, 0)))), 1)
 else
 bif (decide (b < 0)) then
 some (([], (0, (0, (0, 0)))), 1)
 else
 bif (decide (b > 65536)) then
 some (([], (0, (0, (0, 0)))), 1)
 else
 (aD c 0).bind fun a =>
 bif ((((aA a.2.2.2.1) == (aA a.2.2.2.1)) && (decide (0 ≤ (aA a.2.2.2.1)))) && (Nat.ble (Int.toNat (aA a.2.2.2.1)) 4294967296)) then
 some ((((0, (0, ((List.replicate (Int.toNat (aA a.2.2.2.1)) 0), ([] : DE)))) :: ([] : List EAC)), (b, (0, (0, 0)))), 0)
 else none
def qbg (n : Nat) (a : DC) : Option DC :=
 bif (List.isEmpty a) then
 Go.Ab.amb (
 some ([] : DE)) (
 bif (Nat.ble (List.length a) 4294967296) then
 some a
 else none)
 else
 bif (Nat.ble (List.length a) 4294967296) then
 some a
 else none
def qbp (n : Nat) (a : DC) : Option DC :=
 bif ((decide (0 ≤ (aA a))) && (decide ((aA a) ≤ (((List.length a) : Nat) : Int)))) then
 bif ((decide (0 ≤ (aA a))) && (decide ((aA a) ≤ (((Int.toNat (aA a)) : Nat) : Int)))) then
 some (List.take (Int.toNat (aA a)) a)
 else none
 else none
def qap_B0q0 (n : Nat) (d : DM) (e b : Int) (c : DM) : Option ((EBH ⊕ EBH) ⊕ (DM ⊕ DM)) :=
 bif (decide (b < e)) then
 (aD d b).bind fun a =>
 (qbg n a.2.2.1).bind fun h =>
 (qbp n h).bind fun f =>
 (qbg n a.2.2.2).bind fun i =>
 (qbp n i).bind fun g =>
 bif (Nat.ble (List.length (c ++ ((a.1, (a.2.1, (f, g))) :: ([] : List EAC)))) 4294967296) then
 some (Sum.inl (Sum.inr ((d, (e, (aI .i64 b 1))), (c ++ ((a.1, (a.2.1, (f, g))) :: ([] : List EAC))))))
 else none
 else
 some (Sum.inr (Sum.inl c))
def qap_B0q1 (n : Nat) (d : DM) (e b : Int) (c : DM) : Option ((EBH ⊕ EBH) ⊕ (DM ⊕ DM)) :=
 bif (decide (b < e)) then
 (aD d b).bind fun a =>
 (qbg n a.2.2.1).bind fun h =>
 (qbp n h).bind fun f =>
 (qbg n a.2.2.2).bind fun i =>
 (qbp n i).bind fun g =>
 bif (Nat.ble (List.length (c ++ ((a.1, (a.2.1, (f, g))) :: ([] : List EAC)))) 4294967296) then
 some (Sum.inl (Sum.inr ((d, (e, (aI .i64 b 1))), (c ++ ((a.1, (a.2.1, (f, g))) :: ([] : List EAC))))))
 else none
 else
 some (Sum.inr (Sum.inr c))
def qap_M0 (n : Nat) (s : EBH ⊕ EBH) : Option ((EBH ⊕ EBH) ⊕ (DM ⊕ DM)) := Sum.rec (fun a => qap_B0q0 n a.1.1 a.1.2.1 a.1.2.2 a.2) (fun b => qap_B0q1 n b.1.1 b.1.2.1 b.1.2.2 b.2) s
def qap_W0 (n : Nat) (s : EBH ⊕ EBH) : Option (DM ⊕ DM) := aL (qap_M0 n) n s
def qap (n : Nat) (a : DM) : Option DM :=
 (qap_W0 n (Sum.inl ((a, ((aA a), 0)), ([] : List EAC)))).bind fun b =>
 Sum.rec (fun c =>
 some c) (fun d =>
 some d) b
def qdj (n : Nat) (a : DM) : Option DM :=
 bif ((decide (0 ≤ (aA a))) && (decide ((aA a) ≤ (((List.length a) : Nat) : Int)))) then
 bif ((decide (0 ≤ (aA a))) && (decide ((aA a) ≤ (((Int.toNat (aA a)) : Nat) : Int)))) then
 some (List.take (Int.toNat (aA a)) a)
 else none
 else none
def qcz (n : Nat) (a : DC) : Option DC :=
 bif (List.isEmpty a) then
 Go.Ab.amb (
 some ([] : DE)) (
 bif (Nat.ble (List.length a) 4294967296) then
 some a
 else none)
 else
 bif (Nat.ble (List.length a) 4294967296) then
 some a
 else none
def qdt (n : Nat) (a : DC) : Option DC :=
 bif ((decide (0 ≤ (aA a))) && (decide ((aA a) ≤ (((List.length a) : Nat) : Int)))) then
 bif ((decide (0 ≤ (aA a))) && (decide ((aA a) ≤ (((Int.toNat (aA a)) : Nat) : Int)))) then
 some (List.take (Int.toNat (aA a)) a)
 else none
 else none
def qck (n : Nat) (a b : Int) (c d : DC) : Option EAC :=
 (qbg n c).bind fun e =>
 (qbp n e).bind fun f =>
 (qcz n d).bind fun g =>
 (qdt n g).bind fun h =>
 some (a, (b, (f, h)))
def qej_B0q0 (n : Nat) (d : DM) (e b : Int) (c : DM) : Option ((EBH ⊕ EBH) ⊕ (DM ⊕ DM)) :=
 bif (decide (b < e)) then
 (aD d b).bind fun a =>
 (qck n a.1 a.2.1 a.2.2.1 a.2.2.2).bind fun f =>
 bif (Nat.ble (List.length (c ++ (f :: ([] : List EAC)))) 4294967296) then
 some (Sum.inl (Sum.inr ((d, (e, (aI .i64 b 1))), (c ++ (f :: ([] : List EAC))))))
 else none
 else
 some (Sum.inr (Sum.inl c))
def qej_B0q1 (n : Nat) (d : DM) (e b : Int) (c : DM) : Option ((EBH ⊕ EBH) ⊕ (DM ⊕ DM)) :=
 bif (decide (b < e)) then
 (aD d b).bind fun a =>
 (qck n a.1 a.2.1 a.2.2.1 a.2.2.2).bind fun f =>
 bif (Nat.ble (List.length (c ++ (f :: ([] : List EAC)))) 4294967296) then
 some (Sum.inl (Sum.inr ((d, (e, (aI .i64 b 1))), (c ++ (f :: ([] : List EAC))))))
 else none
 else
 some (Sum.inr (Sum.inr c))
def qej_M0 (n : Nat) (s : EBH ⊕ EBH) : Option ((EBH ⊕ EBH) ⊕ (DM ⊕ DM)) := Sum.rec (fun a => qej_B0q0 n a.1.1 a.1.2.1 a.1.2.2 a.2) (fun b => qej_B0q1 n b.1.1 b.1.2.1 b.1.2.2 b.2) s
def qej_W0 (n : Nat) (s : EBH ⊕ EBH) : Option (DM ⊕ DM) := aL (qej_M0 n) n s
def qej (n : Nat) (a : DM) : Option DM :=
 (qej_W0 n (Sum.inl ((a, ((aA a), 0)), ([] : List EAC)))).bind fun b =>
 Sum.rec (fun c =>
 some c) (fun d =>
 some d) b
def qel (n : Nat) (a : DM) : Option DM :=
 bif ((decide (0 ≤ (aA a))) && (decide ((aA a) ≤ (((List.length a) : Nat) : Int)))) then
 bif ((decide (0 ≤ (aA a))) && (decide ((aA a) ≤ (((Int.toNat (aA a)) : Nat) : Int)))) then
 some (List.take (Int.toNat (aA a)) a)
 else none
 else none
def qbk (n : Nat) (a : DF) : Option DF :=
 bif (List.isEmpty a) then
 Go.Ab.amb (
 some ([] : List EAM)) (
 bif (Nat.ble (List.length a) 4294967296) then
 some a
 else none)
 else
 bif (Nat.ble (List.length a) 4294967296) then
 some a
 else none
def qcg (n : Nat) (a : DF) : Option DF :=
 bif ((decide (0 ≤ (aA a))) && (decide ((aA a) ≤ (((List.length a) : Nat) : Int)))) then
 bif ((decide (0 ≤ (aA a))) && (decide ((aA a) ≤ (((Int.toNat (aA a)) : Nat) : Int)))) then
 some (List.take (Int.toNat (aA a)) a)
 else none
 else none
def qcp (n : Nat) (a b : DM) (c : DF) (d e f g : Int) : Option EAF :=
 (qap n a).bind fun h =>
 (qdj n h).bind fun i =>
 (qej n b).bind fun j =>
 (qel n j).bind fun k =>
 (qbk n c).bind fun l =>
 (qcg n l).bind fun m =>
 some (i, (k, (m, (d, (e, (f, g))))))
def qbl_B0 (n : Nat) (b c : DC) (d a : Int) : Option ((DC × DC × Int × Int) ⊕ EAN) :=
 bif (decide (a < d)) then
 (aD b a).bind fun e =>
 (aD c a).bind fun f =>
 bif (e != f) then
 some (Sum.inr (Sum.inl false))
 else
 some (Sum.inl (b, (c, (d, (aI .i64 a 1)))))
 else
 some (Sum.inr (Sum.inr ()))
def qbl_W0 (n : Nat) (s : DC × DC × Int × Int) : Option EAN := aL (fun s => qbl_B0 n s.1 s.2.1 s.2.2.1 s.2.2.2) n s
def qbl (n : Nat) (a b : DC) : Option Bool :=
 bif ((aA a) != (aA b)) then
 some false
 else
 (qbl_W0 n (a, (b, ((aA a), 0)))).bind fun c =>
 Sum.rec (fun d =>
 some d) (fun e =>
 some true) c
def qbn (n : Nat) (a b : Int) (c d : DC) (e f : Int) (g h : DC) : Option Bool :=
 bif (a == e) then
 bif (b == f) then
 (qbl n c g).bind fun i =>
 bif i then
 (qbl n d h).bind fun j =>
 some j
 else
 some false
 else
 some false
 else
 some false
def qak_B0 (n : Nat) (d e : DM) (f c : Int) : Option (EBC ⊕ (EBM ⊕ Unit)) :=
 bif (decide (c < f)) then
 (aD e c).bind fun a =>
 (aD d c).bind fun b =>
 (qbn n a.1 a.2.1 a.2.2.1 a.2.2.2 b.1 b.2.1 b.2.2.1 b.2.2.2).bind fun g =>
 bif (!g) then
 some (Sum.inr (Sum.inl (false, (a, b))))
 else
 some (Sum.inl (d, (e, (f, (aI .i64 c 1)))))
 else
 some (Sum.inr (Sum.inr ()))
def qak_W0 (n : Nat) (s : DM × DM × Int × Int) : Option (EBM ⊕ Unit) := aL (fun s => qak_B0 n s.1 s.2.1 s.2.2.1 s.2.2.2) n s
def qak (n : Nat) (a b : DM) : Option Bool :=
 bif ((aA a) != (aA b)) then
 some false
 else
 (qak_W0 n (b, (a, ((aA a), 0)))).bind fun c =>
 Sum.rec (fun d =>
 some d.1) (fun e =>
 some true) c
def qdo_B0 (n : Nat) (b c : DC) (d a : Int) : Option ((DC × DC × Int × Int) ⊕ EAN) :=
 bif (decide (a < d)) then
 (aD b a).bind fun e =>
 (aD c a).bind fun f =>
 bif (e != f) then
 some (Sum.inr (Sum.inl false))
 else
 some (Sum.inl (b, (c, (d, (aI .i64 a 1)))))
 else
 some (Sum.inr (Sum.inr ()))
def qdo_W0 (n : Nat) (s : DC × DC × Int × Int) : Option EAN := aL (fun s => qdo_B0 n s.1 s.2.1 s.2.2.1 s.2.2.2) n s
def qdo (n : Nat) (a b : DC) : Option Bool :=
 bif ((aA a) != (aA b)) then
 some false
 else
 (qdo_W0 n (a, (b, ((aA a), 0)))).bind fun c =>
 Sum.rec (fun d =>
 some d) (fun e =>
 some true) c
def qcr (n : Nat) (a b : Int) (c d : DC) (e f : Int) (g h : DC) : Option Bool :=
 bif (a == e) then
 bif (b == f) then
 (qbl n c g).bind fun i =>
 bif i then
 (qdo n d h).bind fun j =>
 some j
 else
 some false
 else
 some false
 else
 some false
def qba_B0 (n : Nat) (d e : DM) (f c : Int) : Option (EBC ⊕ (EBM ⊕ Unit)) :=
 bif (decide (c < f)) then
 (aD e c).bind fun a =>
 (aD d c).bind fun b =>
 (qcr n a.1 a.2.1 a.2.2.1 a.2.2.2 b.1 b.2.1 b.2.2.1 b.2.2.2).bind fun g =>
 bif (!g) then
 some (Sum.inr (Sum.inl (false, (a, b))))
 else
 some (Sum.inl (d, (e, (f, (aI .i64 c 1)))))
 else
 some (Sum.inr (Sum.inr ()))
def qba_W0 (n : Nat) (s : DM × DM × Int × Int) : Option (EBM ⊕ Unit) := aL (fun s => qba_B0 n s.1 s.2.1 s.2.2.1 s.2.2.2) n s
def qba (n : Nat) (a b : DM) : Option Bool :=
 bif ((aA a) != (aA b)) then
 some false
 else
 (qba_W0 n (b, (a, ((aA a), 0)))).bind fun c =>
 Sum.rec (fun d =>
 some d.1) (fun e =>
 some true) c
def qbj_B0 (n : Nat) (d e : DF) (f a : Int) : Option ((DF × DF × Int × Int) ⊕ EAN) :=
 bif (decide (a < f)) then
 (aD d a).bind fun b =>
 (aD e a).bind fun c =>
 bif (!((b.1 == c.1) && ((b.2.1 == c.2.1) && (b.2.2 == c.2.2)))) then
 some (Sum.inr (Sum.inl false))
 else
 some (Sum.inl (d, (e, (f, (aI .i64 a 1)))))
 else
 some (Sum.inr (Sum.inr ()))
def qbj_W0 (n : Nat) (s : DF × DF × Int × Int) : Option EAN := aL (fun s => qbj_B0 n s.1 s.2.1 s.2.2.1 s.2.2.2) n s
def qbj (n : Nat) (a b : DF) : Option Bool :=
 bif ((aA a) != (aA b)) then
 some false
 else
 (qbj_W0 n (a, (b, ((aA a), 0)))).bind fun c =>
 Sum.rec (fun d =>
 some d) (fun e =>
 some true) c
def qdh (n : Nat) (a b : DM) (c : DF) (d e f g : Int) (h i : DM) (j : DF) (k l m o : Int) : Option Bool :=
 bif (d == k) then
 bif (e == l) then
 bif (f == m) then
 bif (g == o) then
 (qak n a h).bind fun p =>
 bif p then
 (qba n b i).bind fun q =>
 bif q then
 (qbj n c j).bind fun r =>
 some r
 else
 some false
 else
 some false
 else
 some false
 else
 some false
 else
 some false
 else
 some false
def qav (n : Nat) : Option Bool :=
 (qca n ([] : List (List EAB)) ((([] : List EAB), (1, (0, (((1, 0) :: ([] : List EAB)), ((0, (0, 0)) :: ((26, (0, 0)) :: ([] : List EAW))))))) :: ([] : List ((List EAB) × Int × Int × (List EAB) × List EAW))) ([] : List ((List EAB) × Int × Int)) (7 :: ([] : DE)) ([] : DG) 100).bind fun a =>
 bif (a.2 == 0) then
 bif ((aA a.1.1) == 1) then
 (aD a.1.1 0).bind fun c =>
 bif ((aA c.2.2.1) == 1) then
 bif (a.1.2.1 == 100) then
 (qcp n a.1.1 ([] : List EAC) ([] : List EAM) a.1.2.1 a.1.2.2.1 a.1.2.2.2.1 a.1.2.2.2.2).bind fun b =>
 (qdh n a.1.1 ([] : List EAC) ([] : List EAM) a.1.2.1 a.1.2.2.1 a.1.2.2.2.1 a.1.2.2.2.2 b.1 b.2.1 b.2.2.1 b.2.2.2.1 b.2.2.2.2.1 b.2.2.2.2.2.1 b.2.2.2.2.2.2).bind fun d =>
 some d
 else
 some false
 else
 some false
 else
 some false
 else
 some false
def qeh_S (n : Nat) (c : Int → Option DC) (a : Int) : Option DC :=
 bif (decide (a < 128)) then
 some ((aY .u8 a) :: ([] : DE))
 else
 (c (My .u64 a 128)).bind fun b =>
 bif (Nat.ble (List.length (((aY .u8 (aI .u64 128 (LU a 128))) :: ([] : DE)) ++ b)) 4294967296) then
 some (((aY .u8 (aI .u64 128 (LU a 128))) :: ([] : DE)) ++ b)
 else none
def qeh_D (n d : Nat) : Int → Option DC := Nat.rec (fun _ => none) (fun _ ih a => qeh_S n ih a) d
def qeh (n : Nat) (a : Int) : Option DC := qeh_D n n a
def qde (n : Nat) (b a c : Int) : Option Bool :=
 bif (b == 1) then
 some (a == 0)
 else
 bif (b == 2) then
 some (a == 0)
 else
 bif (b == 3) then
 some (a == 0)
 else
 bif (b == 7) then
 some (a == 0)
 else
 bif (b == 4) then
 bif (decide (a ≥ 0)) then
 some (decide (a < c))
 else
 some false
 else
 bif (b == 5) then
 bif (decide (a ≥ 0)) then
 some (decide (a < 4))
 else
 some false
 else
 some false
def qcu (n : Nat) (b a : Int) : Option DC :=
 bif (decide (b < 0)) then
 bif (decide (a < 0)) then
 (qeh n (aY .u64 0)).bind fun c =>
 (qeh n (aY .u64 0)).bind fun d =>
 bif (Nat.ble (List.length (c ++ d)) 4294967296) then
 some (c ++ d)
 else none
 else
 (qeh n (aY .u64 0)).bind fun e =>
 (qeh n (aY .u64 a)).bind fun f =>
 bif (Nat.ble (List.length (e ++ f)) 4294967296) then
 some (e ++ f)
 else none
 else
 bif (decide (a < 0)) then
 (qeh n (aY .u64 b)).bind fun g =>
 (qeh n (aY .u64 0)).bind fun h =>
 bif (Nat.ble (List.length (g ++ h)) 4294967296) then
 some (g ++ h)
 else none
 else
 (qeh n (aY .u64 b)).bind fun i =>
 (qeh n (aY .u64 a)).bind fun j =>
 bif (Nat.ble (List.length (i ++ j)) 4294967296) then
 some (i ++ j)
 else none
def qaw_B0 (n : Nat) (a : DA) (d e b : Int) (c : DC) : Option (((DA × Int × Int × Int) × DC) ⊕ ((EBB × DC) ⊕ ((DA × Int) × DC))) :=
 bif (decide (b < (aA a))) then
 (aD a b).bind fun f =>
 (qde n f.1 f.2 d).bind fun i =>
 bif (!i) then
 some (Sum.inr (Sum.inl ((([] : DE), false), c)))
 else
 (aD a b).bind fun g =>
 (qcu n g.1 g.2).bind fun h =>
 bif (Nat.ble (List.length (c ++ h)) 4294967296) then
 some (Sum.inl ((a, (d, (e, (aI .i64 b 1)))), (c ++ h)))
 else none
 else
 some (Sum.inr (Sum.inr ((a, e), c)))
def qaw_W0 (n : Nat) (s : (DA × Int × Int × Int) × DC) : Option ((EBB × DC) ⊕ ((DA × Int) × DC)) := aL (fun s => qaw_B0 n s.1.1 s.1.2.1 s.1.2.2.1 s.1.2.2.2 s.2) n s
def qaw (n : Nat) (b : DA) (c d : Int) : Option EBB :=
 (qeh n (aY .u64 (aA b))).bind fun e =>
 (qaw_W0 n ((b, (c, (d, 0))), e)).bind fun f =>
 Sum.rec (fun g =>
 some g.1) (fun a =>
 some (a.2, (decide ((aA a.1.1) ≤ a.1.2)))) f
def qbb_B0 (n : Nat) (a : Int) (j : Bool) (b : Int) (c : DI) (f : DJ) (g : DK) (h : DC) (i : DD) (d : DC) : Option ((EAL × EAA × DC) ⊕ (EAV × EAA × DC)) :=
 bif (decide (b < a)) then
 (aD c b).bind fun k =>
 (qaw n k a 6).bind fun e =>
 bif (Nat.ble (List.length (d ++ e.1)) 4294967296) then
 bif j then
 some (Sum.inl ((a, (e.2, (aI .i64 b 1))), ((c, (f, (g, (h, i)))), (d ++ e.1))))
 else
 some (Sum.inl ((a, (false, (aI .i64 b 1))), ((c, (f, (g, (h, i)))), (d ++ e.1))))
 else none
 else
 some (Sum.inr ((a, j), ((c, (f, (g, (h, i)))), d)))
def qbb_W0 (n : Nat) (s : EAL × EAA × DC) : Option (EAV × EAA × DC) := aL (fun s => qbb_B0 n s.1.1 s.1.2.1 s.1.2.2 s.2.1.1 s.2.1.2.1 s.2.1.2.2.1 s.2.1.2.2.2.1 s.2.1.2.2.2.2 s.2.2) n s
def qda_B0 (n : Nat) (c : Int) (a : DC) (b : Int) : Option ((Int × DC × Int) ⊕ EAQ) :=
 bif (decide (b < (aA a))) then
 (aD a b).bind fun d =>
 bif (d == c) then
 some (Sum.inr (Sum.inl 1))
 else
 some (Sum.inl (c, (a, (aI .i64 b 1))))
 else
 some (Sum.inr (Sum.inr ()))
def qda_W0 (n : Nat) (s : Int × DC × Int) : Option EAQ := aL (fun s => qda_B0 n s.1 s.2.1 s.2.2) n s
def qda (n : Nat) (a : Int) : Option Int :=
 bif (decide (a < 0)) then
 some (-1)
 else
 bif (decide (a ≥ 42)) then
 some (-1)
 else
 bif (a == 29) then
 some 2
 else
 bif (a == 30) then
 some 2
 else
 (qda_W0 n (a, ((0 :: (1 :: (3 :: (4 :: (23 :: (24 :: (25 :: (27 :: (28 :: ([] : DE)))))))))), 0))).bind fun b =>
 Sum.rec (fun c =>
 some c) (fun d =>
 some 0) b
def qbt (n : Nat) (a d c : Int) : Option DC :=
 (qda n a).bind fun b =>
 bif (decide (b < 0)) then
 some ([] : DE)
 else
 bif (decide (d < 0)) then
 some ([] : DE)
 else
 bif (decide (d > 255)) then
 some ([] : DE)
 else
 bif (decide (c < 0)) then
 some ([] : DE)
 else
 bif (decide (c > 255)) then
 some ([] : DE)
 else
 bif (decide (b < 1)) then
 bif (d != 0) then
 some ([] : DE)
 else
 bif (decide (b < 2)) then
 bif (c != 0) then
 some ([] : DE)
 else
 bif (decide (b > 0)) then
 (qeh n (aY .u64 d)).bind fun e =>
 bif (Nat.ble (List.length (((aY .u8 a) :: ([] : DE)) ++ e)) 4294967296) then
 bif (decide (b > 1)) then
 (qeh n (aY .u64 c)).bind fun i =>
 bif (Nat.ble (List.length ((((aY .u8 a) :: ([] : DE)) ++ e) ++ i)) 4294967296) then
 some ((((aY .u8 a) :: ([] : DE)) ++ e) ++ i)
 else none
 else
 some (((aY .u8 a) :: ([] : DE)) ++ e)
 else none
 else
 bif (decide (b > 1)) then
 (qeh n (aY .u64 c)).bind fun j =>
 bif (Nat.ble (List.length (((aY .u8 a) :: ([] : DE)) ++ j)) 4294967296) then
 some (((aY .u8 a) :: ([] : DE)) ++ j)
 else none
 else
 some ((aY .u8 a) :: ([] : DE))
 else
 bif (decide (b > 0)) then
 (qeh n (aY .u64 d)).bind fun f =>
 bif (Nat.ble (List.length (((aY .u8 a) :: ([] : DE)) ++ f)) 4294967296) then
 bif (decide (b > 1)) then
 (qeh n (aY .u64 c)).bind fun k =>
 bif (Nat.ble (List.length ((((aY .u8 a) :: ([] : DE)) ++ f) ++ k)) 4294967296) then
 some ((((aY .u8 a) :: ([] : DE)) ++ f) ++ k)
 else none
 else
 some (((aY .u8 a) :: ([] : DE)) ++ f)
 else none
 else
 bif (decide (b > 1)) then
 (qeh n (aY .u64 c)).bind fun l =>
 bif (Nat.ble (List.length (((aY .u8 a) :: ([] : DE)) ++ l)) 4294967296) then
 some (((aY .u8 a) :: ([] : DE)) ++ l)
 else none
 else
 some ((aY .u8 a) :: ([] : DE))
 else
 bif (decide (b < 2)) then
 bif (c != 0) then
 some ([] : DE)
 else
 bif (decide (b > 0)) then
 (qeh n (aY .u64 d)).bind fun g =>
 bif (Nat.ble (List.length (((aY .u8 a) :: ([] : DE)) ++ g)) 4294967296) then
 bif (decide (b > 1)) then
 (qeh n (aY .u64 c)).bind fun m =>
 bif (Nat.ble (List.length ((((aY .u8 a) :: ([] : DE)) ++ g) ++ m)) 4294967296) then
 some ((((aY .u8 a) :: ([] : DE)) ++ g) ++ m)
 else none
 else
 some (((aY .u8 a) :: ([] : DE)) ++ g)
 else none
 else
 bif (decide (b > 1)) then
 (qeh n (aY .u64 c)).bind fun o =>
 bif (Nat.ble (List.length (((aY .u8 a) :: ([] : DE)) ++ o)) 4294967296) then
 some (((aY .u8 a) :: ([] : DE)) ++ o)
 else none
 else
 some ((aY .u8 a) :: ([] : DE))
 else
 bif (decide (b > 0)) then
 (qeh n (aY .u64 d)).bind fun h =>
 bif (Nat.ble (List.length (((aY .u8 a) :: ([] : DE)) ++ h)) 4294967296) then
 bif (decide (b > 1)) then
 (qeh n (aY .u64 c)).bind fun p =>
 bif (Nat.ble (List.length ((((aY .u8 a) :: ([] : DE)) ++ h) ++ p)) 4294967296) then
 some ((((aY .u8 a) :: ([] : DE)) ++ h) ++ p)
 else none
 else
 some (((aY .u8 a) :: ([] : DE)) ++ h)
 else none
 else
 bif (decide (b > 1)) then
 (qeh n (aY .u64 c)).bind fun q =>
 bif (Nat.ble (List.length (((aY .u8 a) :: ([] : DE)) ++ q)) 4294967296) then
 some (((aY .u8 a) :: ([] : DE)) ++ q)
 else none
 else
 some ((aY .u8 a) :: ([] : DE))
def qbb_B4 (n : Nat) (q : Int) (r : Bool) (s c : Int) (d : DI) (e : DJ) (f : DK) (g : DC) (h : DD) (i b : DC) (j : DA) (k l : Int) (m : DA) (a : DB) : Option (((Int × Bool × Int × Int) × EAA × DC × DC × DA × Int × Int × DA × DB) ⊕ (EBJ ⊕ (EAL × EAA × DC × DC × DA × Int × Int × DA × DB))) :=
 bif (decide (c < (aA a))) then
 (aD a c).bind fun o =>
 (qbt n o.1 o.2.1 o.2.2).bind fun p =>
 bif ((aA p) == 0) then
 some (Sum.inr (Sum.inl ((([] : DE), false), ((d, (e, (f, (g, h)))), (i, (b, (j, (k, (l, (m, a))))))))))
 else
 bif (Nat.ble (List.length (b ++ p)) 4294967296) then
 some (Sum.inl ((q, (r, (s, (aI .i64 c 1)))), ((d, (e, (f, (g, h)))), (i, ((b ++ p), (j, (k, (l, (m, a)))))))))
 else none
 else
 some (Sum.inr (Sum.inr ((q, (r, s)), ((d, (e, (f, (g, h)))), (i, (b, (j, (k, (l, (m, a))))))))))
def qbb_W4 (n : Nat) (s : (Int × Bool × Int × Int) × EAA × DC × DC × DA × Int × Int × DA × DB) : Option (EBJ ⊕ (EAL × EAA × DC × DC × DA × Int × Int × DA × DB)) := aL (fun s => qbb_B4 n s.1.1 s.1.2.1 s.1.2.2.1 s.1.2.2.2 s.2.1.1 s.2.1.2.1 s.2.1.2.2.1 s.2.1.2.2.2.1 s.2.1.2.2.2.2 s.2.2.1 s.2.2.2.1 s.2.2.2.2.1 s.2.2.2.2.2.1 s.2.2.2.2.2.2.1 s.2.2.2.2.2.2.2.1 s.2.2.2.2.2.2.2.2) n s
def qbb_B2 (n : Nat) (k : Int) (p : Bool) (o : Int) (d : DI) (c : DJ) (e : DK) (f : DC) (g : DD) (h b : DC) : Option ((EAL × EAA × DC × DC) ⊕ (EBJ ⊕ (EAV × EAA × DC × DC))) :=
 bif (decide (o < (aA c))) then
 (aD c o).bind fun a =>
 (qaw n a.1 k 4).bind fun i =>
 (qaw n a.2.2.2.1 k (a8 .i64 8 (aA a.1))).bind fun l =>
 bif p then
 bif i.2 then
 bif l.2 then
 (qde n a.2.1 a.2.2.1 k).bind fun r =>
 bif r then
 bif (decide ((aA a.2.2.2.2) ≥ 1)) then
 bif (!(decide ((aA a.2.2.2.2) ≤ 64))) then
 some (Sum.inr (Sum.inl ((([] : DE), false), ((d, (c, (e, (f, g)))), (h, (b, a))))))
 else
 bif (Nat.ble (List.length (b ++ i.1)) 4294967296) then
 (qcu n a.2.1 a.2.2.1).bind fun m =>
 bif (Nat.ble (List.length ((b ++ i.1) ++ m)) 4294967296) then
 bif (Nat.ble (List.length (((b ++ i.1) ++ m) ++ l.1)) 4294967296) then
 (qeh n (aY .u64 (aA a.2.2.2.2))).bind fun q =>
 bif (Nat.ble (List.length ((((b ++ i.1) ++ m) ++ l.1) ++ q)) 4294967296) then
 (qbb_W4 n ((k, ((decide ((aA a.2.2.2.2) ≤ 64)), (o, 0))), ((d, (c, (e, (f, g)))), (h, (((((b ++ i.1) ++ m) ++ l.1) ++ q), a))))).bind fun s =>
 Sum.rec (fun t =>
 some (Sum.inr (Sum.inl t))) (fun j =>
 some (Sum.inl ((j.1.1, (j.1.2.1, (aI .i64 j.1.2.2 1))), (j.2.1, (j.2.2.1, j.2.2.2.1))))) s
 else none
 else none
 else none
 else none
 else
 some (Sum.inr (Sum.inl ((([] : DE), false), ((d, (c, (e, (f, g)))), (h, (b, a))))))
 else
 some (Sum.inr (Sum.inl ((([] : DE), false), ((d, (c, (e, (f, g)))), (h, (b, a))))))
 else
 some (Sum.inr (Sum.inl ((([] : DE), false), ((d, (c, (e, (f, g)))), (h, (b, a))))))
 else
 some (Sum.inr (Sum.inl ((([] : DE), false), ((d, (c, (e, (f, g)))), (h, (b, a))))))
 else
 some (Sum.inr (Sum.inl ((([] : DE), false), ((d, (c, (e, (f, g)))), (h, (b, a))))))
 else
 some (Sum.inr (Sum.inr ((k, p), ((d, (c, (e, (f, g)))), (h, b)))))
def qbb_W2 (n : Nat) (s : EAL × EAA × DC × DC) : Option (EBJ ⊕ (EAV × EAA × DC × DC)) := aL (fun s => qbb_B2 n s.1.1 s.1.2.1 s.1.2.2 s.2.1.1 s.2.1.2.1 s.2.1.2.2.1 s.2.1.2.2.2.1 s.2.1.2.2.2.2 s.2.2.1 s.2.2.2) n s
def qbb_B6 (n : Nat) (e : Int) (l : Bool) (d : Int) (f : DI) (g : DJ) (a : DK) (h : DC) (i : DD) (j k b : DC) : Option ((EAL × EAA × DC × DC × DC) ⊕ (Bool × EAA × DC × DC × DC)) :=
 bif (decide (d < (aA a))) then
 (aD a d).bind fun u =>
 (qaw n u.1 e 4).bind fun c =>
 bif l then
 bif c.2 then
 (aD a d).bind fun m =>
 (qde n m.2.1 m.2.2 e).bind fun v =>
 bif (Nat.ble (List.length (b ++ c.1)) 4294967296) then
 (aD a d).bind fun o =>
 (qcu n o.2.1 o.2.2).bind fun p =>
 bif (Nat.ble (List.length ((b ++ c.1) ++ p)) 4294967296) then
 some (Sum.inl ((e, (v, (aI .i64 d 1))), ((f, (g, (a, (h, i)))), (j, (k, ((b ++ c.1) ++ p))))))
 else none
 else none
 else
 bif (Nat.ble (List.length (b ++ c.1)) 4294967296) then
 (aD a d).bind fun q =>
 (qcu n q.2.1 q.2.2).bind fun r =>
 bif (Nat.ble (List.length ((b ++ c.1) ++ r)) 4294967296) then
 some (Sum.inl ((e, (false, (aI .i64 d 1))), ((f, (g, (a, (h, i)))), (j, (k, ((b ++ c.1) ++ r))))))
 else none
 else none
 else
 bif (Nat.ble (List.length (b ++ c.1)) 4294967296) then
 (aD a d).bind fun s =>
 (qcu n s.2.1 s.2.2).bind fun t =>
 bif (Nat.ble (List.length ((b ++ c.1) ++ t)) 4294967296) then
 some (Sum.inl ((e, (false, (aI .i64 d 1))), ((f, (g, (a, (h, i)))), (j, (k, ((b ++ c.1) ++ t))))))
 else none
 else none
 else
 some (Sum.inr (l, ((f, (g, (a, (h, i)))), (j, (k, b)))))
def qbb_W6 (n : Nat) (s : EAL × EAA × DC × DC × DC) : Option (Bool × EAA × DC × DC × DC) := aL (fun s => qbb_B6 n s.1.1 s.1.2.1 s.1.2.2 s.2.1.1 s.2.1.2.1 s.2.1.2.2.1 s.2.1.2.2.2.1 s.2.1.2.2.2.2 s.2.2.1 s.2.2.2.1 s.2.2.2.2) n s
def qcl_B0 (n : Nat) (b d c : Int) (a : DC) : Option ((EAW × DC) ⊕ DC) :=
 bif (decide (c < d)) then
 bif (decide (c < 8)) then
 bif (Nat.ble (List.length (a ++ ((aY .u8 (LU b 256)) :: ([] : DE)))) 4294967296) then
 some (Sum.inl (((My .u64 b 256), (d, (aI .i64 c 1))), (a ++ ((aY .u8 (LU b 256)) :: ([] : DE)))))
 else none
 else
 some (Sum.inr a)
 else
 some (Sum.inr a)
def qcl_W0 (n : Nat) (s : EAW × DC) : Option DC := aL (fun s => qcl_B0 n s.1.1 s.1.2.1 s.1.2.2 s.2) n s
def qcl (n : Nat) (a b : Int) : Option DC :=
 (qcl_W0 n ((a, (b, 0)), ([] : DE))).bind fun c =>
 some c
def qbb_B8 (n : Nat) (d : Bool) (b : Int) (e : DI) (f : DJ) (g : DK) (a : DC) (h : DD) (i j k c : DC) : Option ((EAS × EAA × DC × DC × DC × DC) ⊕ (Bool × EAA × DC × DC × DC × DC)) :=
 bif (decide (b < (aA a))) then
 (aD a b).bind fun m =>
 (qcl n m 8).bind fun l =>
 bif (Nat.ble (List.length (c ++ l)) 4294967296) then
 some (Sum.inl ((d, (aI .i64 b 1)), ((e, (f, (g, (a, h)))), (i, (j, (k, (c ++ l)))))))
 else none
 else
 some (Sum.inr (d, ((e, (f, (g, (a, h)))), (i, (j, (k, c))))))
def qbb_W8 (n : Nat) (s : EAS × EAA × DC × DC × DC × DC) : Option (Bool × EAA × DC × DC × DC × DC) := aL (fun s => qbb_B8 n s.1.1 s.1.2 s.2.1.1 s.2.1.2.1 s.2.1.2.2.1 s.2.1.2.2.2.1 s.2.1.2.2.2.2 s.2.2.1 s.2.2.2.1 s.2.2.2.2.1 s.2.2.2.2.2) n s
def qbb_B10 (n : Nat) (o : Bool) (b : Int) (d : DI) (e : DJ) (f : DK) (g : DC) (a : DD) (h i j k c : DC) : Option ((EAS × EAA × DC × DC × DC × DC × DC) ⊕ (Bool × EAA × DC × DC × DC × DC × DC)) :=
 bif (decide (b < (aA a))) then
 bif o then
 (aD a b).bind fun r =>
 (aD a b).bind fun s =>
 (qeh n (aY .u64 (w6 s))).bind fun l =>
 bif (Nat.ble (List.length (c ++ l)) 4294967296) then
 (aD a b).bind fun p =>
 bif (Nat.ble (List.length ((c ++ l) ++ (cE p))) 4294967296) then
 some (Sum.inl (((decide ((w6 r) ≤ 32)), (aI .i64 b 1)), ((d, (e, (f, (g, a)))), (h, (i, (j, (k, ((c ++ l) ++ (cE p)))))))))
 else none
 else none
 else
 (aD a b).bind fun t =>
 (qeh n (aY .u64 (w6 t))).bind fun m =>
 bif (Nat.ble (List.length (c ++ m)) 4294967296) then
 (aD a b).bind fun q =>
 bif (Nat.ble (List.length ((c ++ m) ++ (cE q))) 4294967296) then
 some (Sum.inl ((false, (aI .i64 b 1)), ((d, (e, (f, (g, a)))), (h, (i, (j, (k, ((c ++ m) ++ (cE q)))))))))
 else none
 else none
 else
 some (Sum.inr (o, ((d, (e, (f, (g, a)))), (h, (i, (j, (k, c)))))))
def qbb_W10 (n : Nat) (s : EAS × EAA × DC × DC × DC × DC × DC) : Option (Bool × EAA × DC × DC × DC × DC × DC) := aL (fun s => qbb_B10 n s.1.1 s.1.2 s.2.1.1 s.2.1.2.1 s.2.1.2.2.1 s.2.1.2.2.2.1 s.2.1.2.2.2.2 s.2.2.1 s.2.2.2.1 s.2.2.2.2.1 s.2.2.2.2.2.1 s.2.2.2.2.2.2) n s
def qdl_B0 (n : Nat) (a : DL) (b : Int) (c : DC) : Option (((DL × Int) × DC) ⊕ DC) :=
 bif (decide (b < (aA a))) then
 (aD a b).bind fun f =>
 (qeh n (aY .u64 (aA f))).bind fun d =>
 bif (Nat.ble (List.length (c ++ d)) 4294967296) then
 (aD a b).bind fun e =>
 bif (Nat.ble (List.length ((c ++ d) ++ e)) 4294967296) then
 some (Sum.inl ((a, (aI .i64 b 1)), ((c ++ d) ++ e)))
 else none
 else none
 else
 some (Sum.inr c)
def qdl_W0 (n : Nat) (s : (DL × Int) × DC) : Option DC := aL (fun s => qdl_B0 n s.1.1 s.1.2 s.2) n s
def qdl (n : Nat) (a : DL) : Option DC :=
 (qeh n (aY .u64 (aA a))).bind fun b =>
 (qdl_W0 n ((a, 0), b)).bind fun c =>
 some c
def qbb (n : Nat) (f : DI) (g : DJ) (h : DK) (i : DC) (j : DD) : Option EBB :=
 bif (decide ((aA f) > 8)) then
 some (([] : DE), false)
 else
 bif (decide ((aA g) < 1)) then
 some (([] : DE), false)
 else
 bif (decide ((aA g) > 8)) then
 some (([] : DE), false)
 else
 bif (decide ((aA h) > 8)) then
 some (([] : DE), false)
 else
 bif (decide ((aA i) > 16)) then
 some (([] : DE), false)
 else
 bif (decide ((aA j) > 16)) then
 some (([] : DE), false)
 else
 (qeh n (aY .u64 (aA f))).bind fun k =>
 (qbb_W0 n (((aA f), (true, 0)), ((f, (g, (h, (i, j)))), k))).bind fun e =>
 (qeh n (aY .u64 (aA e.2.1.2.1))).bind fun l =>
 (qbb_W2 n ((e.1.1, (e.1.2, 0)), (e.2.1, (e.2.2, l)))).bind fun m =>
 Sum.rec (fun o =>
 some o.1) (fun b =>
 (qeh n (aY .u64 (aA b.2.1.2.2.1))).bind fun p =>
 (qbb_W6 n ((b.1.1, (b.1.2, 0)), (b.2.1, (b.2.2.1, (b.2.2.2, p))))).bind fun c =>
 (qeh n (aY .u64 (aA c.2.1.2.2.2.1))).bind fun q =>
 (qbb_W8 n ((c.1, 0), (c.2.1, (c.2.2.1, (c.2.2.2.1, (c.2.2.2.2, q)))))).bind fun a =>
 (qeh n (aY .u64 (aA a.2.1.2.2.2.2))).bind fun r =>
 (qbb_W10 n ((a.1, 0), (a.2.1, (a.2.2.1, (a.2.2.2.1, (a.2.2.2.2.1, (a.2.2.2.2.2, r))))))).bind fun d =>
 (qdl n (d.2.2.1 :: (d.2.2.2.1 :: (d.2.2.2.2.1 :: (d.2.2.2.2.2.1 :: (d.2.2.2.2.2.2 :: ([] : DL))))))).bind fun s =>
 some (s, d.1)) m
def qcq (n : Nat) (c : DI) (h : DJ) (i : DK) (j : DC) (k : DD) (d : DA) (o p : Int) (e : DA) (f : DB) (b a g : Int) : Option Bool :=
 bif (b == 0) then
 some (decide (a < (aA j)))
 else
 bif (b == 1) then
 some (decide (a < (aA k)))
 else
 bif (b == 3) then
 some (decide (a < (aI .i64 (aA d) (aA e))))
 else
 bif (b == 4) then
 some (decide (a < (aI .i64 (aA d) (aA e))))
 else
 bif (b == 23) then
 some (decide (a < (aA f)))
 else
 bif (b == 24) then
 some (decide (a < (aA f)))
 else
 bif (b == 25) then
 some (decide (a < (aA h)))
 else
 bif (b == 27) then
 some (decide (a < (aA i)))
 else
 bif (b == 28) then
 some (decide (a < (aA c)))
 else
 bif (b == 29) then
 bif (decide (a < (aA c))) then
 (aD c a).bind fun l =>
 some (decide (g < (aA l)))
 else
 some false
 else
 bif (b == 30) then
 bif (decide (a < (aA c))) then
 (aD c a).bind fun m =>
 some (decide (g < (aA m)))
 else
 some false
 else
 some true
def qce_B2 (n : Nat) (m k : Int) (b : DI) (c : DJ) (d : DK) (e : DC) (f : DD) (g : DA) (h i : Int) (j : DA) (a : DB) : Option ((EAB × EAA × DA × Int × Int × DA × DB) ⊕ (EBF ⊕ EBF)) :=
 bif (decide (k < (aA a))) then
 (aD a k).bind fun l =>
 (qcq n b c d e f g h i j a l.1 l.2.1 l.2.2).bind fun o =>
 bif (!o) then
 some (Sum.inr (Sum.inl (1, ((b, (c, (d, (e, f)))), (g, (h, (i, (j, a))))))))
 else
 some (Sum.inl ((m, (aI .i64 k 1)), ((b, (c, (d, (e, f)))), (g, (h, (i, (j, a)))))))
 else
 some (Sum.inr (Sum.inr (m, ((b, (c, (d, (e, f)))), (g, (h, (i, (j, a))))))))
def qce_W2 (n : Nat) (s : EAB × EAA × DA × Int × Int × DA × DB) : Option (EBF ⊕ EBF) := aL (fun s => qce_B2 n s.1.1 s.1.2 s.2.1.1 s.2.1.2.1 s.2.1.2.2.1 s.2.1.2.2.2.1 s.2.1.2.2.2.2 s.2.2.1 s.2.2.2.1 s.2.2.2.2.1 s.2.2.2.2.2.1 s.2.2.2.2.2.2) n s
def qce_B4 (n : Nat) (l b : Int) (c : DI) (d : DJ) (e : DK) (f : DC) (g : DD) (h : DA) (i j : Int) (a : DA) (k : DB) : Option ((EAB × EAA × DA × Int × Int × DA × DB) ⊕ (EBF ⊕ EBF)) :=
 bif (decide (b < (aA a))) then
 (aD a b).bind fun m =>
 bif (m.1 == 5) then
 some (Sum.inr (Sum.inl (1, ((c, (d, (e, (f, g)))), (h, (i, (j, (a, k))))))))
 else
 some (Sum.inl ((l, (aI .i64 b 1)), ((c, (d, (e, (f, g)))), (h, (i, (j, (a, k)))))))
 else
 some (Sum.inr (Sum.inr (l, ((c, (d, (e, (f, g)))), (h, (i, (j, (a, k))))))))
def qce_W4 (n : Nat) (s : EAB × EAA × DA × Int × Int × DA × DB) : Option (EBF ⊕ EBF) := aL (fun s => qce_B4 n s.1.1 s.1.2 s.2.1.1 s.2.1.2.1 s.2.1.2.2.1 s.2.1.2.2.2.1 s.2.1.2.2.2.2 s.2.2.1 s.2.2.2.1 s.2.2.2.2.1 s.2.2.2.2.2.1 s.2.2.2.2.2.2) n s
def qce_B0 (n : Nat) (b : Int) (c : DI) (a : DJ) (d : DK) (e : DC) (f : DD) : Option (EAH ⊕ (EBF ⊕ EAA)) :=
 bif (decide (b < (aA a))) then
 (aD a b).bind fun i =>
 (qce_W2 n ((b, 0), ((c, (a, (d, (e, f)))), i))).bind fun j =>
 Sum.rec (fun k =>
 some (Sum.inr (Sum.inl k))) (fun g =>
 (qce_W4 n ((g.1, 0), g.2)).bind fun l =>
 Sum.rec (fun m =>
 some (Sum.inr (Sum.inl m))) (fun h =>
 some (Sum.inl ((aI .i64 h.1 1), h.2.1))) l) j
 else
 some (Sum.inr (Sum.inr (c, (a, (d, (e, f))))))
def qce_W0 (n : Nat) (s : Int × DI × DJ × DK × DC × DD) : Option (EBF ⊕ EAA) := aL (fun s => qce_B0 n s.1 s.2.1 s.2.2.1 s.2.2.2.1 s.2.2.2.2.1 s.2.2.2.2.2) n s
def qdb (n : Nat) (a b : Int) : Option Bool :=
 bif (a == 1) then
 some true
 else
 some (a == 5)
def qce_B8 (n : Nat) (a : Int) (h : Bool) (c : Int) (d : DI) (e : DJ) (b : DK) (f : DC) (g : DD) : Option ((EAL × DI × DJ × DK × DC × DD) ⊕ (EAV × DI × DJ × DK × DC × DD)) :=
 (aD b a).bind fun j =>
 bif (decide (c < (aA j.1))) then
 bif h then
 (aD b a).bind fun k =>
 (aD k.1 c).bind fun i =>
 (qdb n i.1 i.2).bind fun l =>
 some (Sum.inl ((a, (l, (aI .i64 c 1))), (d, (e, (b, (f, g))))))
 else
 some (Sum.inl ((a, (false, (aI .i64 c 1))), (d, (e, (b, (f, g))))))
 else
 some (Sum.inr ((a, h), (d, (e, (b, (f, g))))))
def qce_W8 (n : Nat) (s : EAL × DI × DJ × DK × DC × DD) : Option (EAV × DI × DJ × DK × DC × DD) := aL (fun s => qce_B8 n s.1.1 s.1.2.1 s.1.2.2 s.2.1 s.2.2.1 s.2.2.2.1 s.2.2.2.2.1 s.2.2.2.2.2) n s
def qce_B6 (n : Nat) (c : Int) (d : DI) (e : DJ) (a : DK) (f : DC) (g : DD) : Option (EAH ⊕ (EAH ⊕ EAA)) :=
 bif (decide (c < (aA a))) then
 (aD a c).bind fun h =>
 (qdb n h.2.1 h.2.2).bind fun i =>
 (qce_W8 n ((c, (i, 0)), (d, (e, (a, (f, g)))))).bind fun b =>
 bif (!b.1.2) then
 some (Sum.inr (Sum.inl (1, b.2)))
 else
 some (Sum.inl ((aI .i64 b.1.1 1), b.2))
 else
 some (Sum.inr (Sum.inr (d, (e, (a, (f, g))))))
def qce_W6 (n : Nat) (s : Int × DI × DJ × DK × DC × DD) : Option (EAH ⊕ EAA) := aL (fun s => qce_B6 n s.1 s.2.1 s.2.2.1 s.2.2.2.1 s.2.2.2.2.1 s.2.2.2.2.2) n s
def qce (n : Nat) (a : DI) (b : DJ) (c : DK) (d : DC) (e : DD) : Option Int :=
 (qbb n a b c d e).bind fun f =>
 bif (!f.2) then
 some 2
 else
 (qce_W0 n (0, (a, (b, (c, (d, e)))))).bind fun g =>
 Sum.rec (fun h =>
 some h.1) (fun i =>
 (qce_W6 n (0, i)).bind fun j =>
 Sum.rec (fun k =>
 some k.1) (fun l =>
 some 0) j) g
def qdk (n : Nat) (b : DI) (a : DJ) (c : DK) (d : DC) (e : DD) : Option Bool :=
 (qce n b a c d e).bind fun f =>
 bif (f == 0) then
 (aD a 0).bind fun g =>
 bif ((aA g.1) == 0) then
 (aD a 0).bind fun h =>
 some (h.2.1 == 1)
 else
 some false
 else
 some false
def qch_B0 (n : Nat) (b c : DC) (a : Int) : Option ((DC × DC × Int) ⊕ EAN) :=
 bif (decide (a < (aA b))) then
 (aD b a).bind fun d =>
 (aD c a).bind fun e =>
 bif (d != e) then
 some (Sum.inr (Sum.inl false))
 else
 some (Sum.inl (b, (c, (aI .i64 a 1))))
 else
 some (Sum.inr (Sum.inr ()))
def qch_W0 (n : Nat) (s : DC × DC × Int) : Option EAN := aL (fun s => qch_B0 n s.1 s.2.1 s.2.2) n s
def qch (n : Nat) (a b : DC) : Option Bool :=
 bif ((aA a) != (aA b)) then
 some false
 else
 (qch_W0 n (a, (b, 0))).bind fun c =>
 Sum.rec (fun d =>
 some d) (fun e =>
 some true) c
def qbe_B0 (n : Nat) (r : Int) (a e : DM) (f : DF) (g h i j : Int) (d k : DM) (l : DF) (m o p q : Int) : Option ((Int × EAF × DM × DM × DF × Int × Int × Int × Int) ⊕ ((Bool × EAF × EAF × EAC × Int × Int × DC × DC) ⊕ (EAF × DM × DM × DF × Int × Int × Int × Int))) :=
 bif (decide (r < (aA a))) then
 (aD a r).bind fun b =>
 (aD d r).bind fun c =>
 bif (b.1 != c.1) then
 some (Sum.inr (Sum.inl (false, ((a, (e, (f, (g, (h, (i, j)))))), ((d, (k, (l, (m, (o, (p, q)))))), (b, c))))))
 else
 bif (b.2.1 != c.2.1) then
 some (Sum.inr (Sum.inl (false, ((a, (e, (f, (g, (h, (i, j)))))), ((d, (k, (l, (m, (o, (p, q)))))), (b, c))))))
 else
 (qch n b.2.2.1 c.2.2.1).bind fun s =>
 bif (!s) then
 some (Sum.inr (Sum.inl (false, ((a, (e, (f, (g, (h, (i, j)))))), ((d, (k, (l, (m, (o, (p, q)))))), (b, c))))))
 else
 (qch n b.2.2.2 c.2.2.2).bind fun t =>
 bif (!t) then
 some (Sum.inr (Sum.inl (false, ((a, (e, (f, (g, (h, (i, j)))))), ((d, (k, (l, (m, (o, (p, q)))))), (b, c))))))
 else
 some (Sum.inl ((aI .i64 r 1), ((a, (e, (f, (g, (h, (i, j)))))), (d, (k, (l, (m, (o, (p, q)))))))))
 else
 some (Sum.inr (Sum.inr ((a, (e, (f, (g, (h, (i, j)))))), (d, (k, (l, (m, (o, (p, q)))))))))
def qbe_W0 (n : Nat) (s : Int × EAF × DM × DM × DF × Int × Int × Int × Int) : Option ((Bool × EAF × EAF × EAC × Int × Int × DC × DC) ⊕ (EAF × DM × DM × DF × Int × Int × Int × Int)) := aL (fun s => qbe_B0 n s.1 s.2.1.1 s.2.1.2.1 s.2.1.2.2.1 s.2.1.2.2.2.1 s.2.1.2.2.2.2.1 s.2.1.2.2.2.2.2.1 s.2.1.2.2.2.2.2.2 s.2.2.1 s.2.2.2.1 s.2.2.2.2.1 s.2.2.2.2.2.1 s.2.2.2.2.2.2.1 s.2.2.2.2.2.2.2.1 s.2.2.2.2.2.2.2.2) n s
def qcw_B0 (n : Nat) (b c : DC) (a : Int) : Option ((DC × DC × Int) ⊕ EAN) :=
 bif (decide (a < (aA b))) then
 (aD b a).bind fun d =>
 (aD c a).bind fun e =>
 bif (d != e) then
 some (Sum.inr (Sum.inl false))
 else
 some (Sum.inl (b, (c, (aI .i64 a 1))))
 else
 some (Sum.inr (Sum.inr ()))
def qcw_W0 (n : Nat) (s : DC × DC × Int) : Option EAN := aL (fun s => qcw_B0 n s.1 s.2.1 s.2.2) n s
def qcw (n : Nat) (a b : DC) : Option Bool :=
 bif ((aA a) != (aA b)) then
 some false
 else
 (qcw_W0 n (a, (b, 0))).bind fun c =>
 Sum.rec (fun d =>
 some d) (fun e =>
 some true) c
def qdf_B0 (n : Nat) (b c : DM) (a : Int) : Option ((DM × DM × Int) ⊕ EAN) :=
 bif (decide (a < (aA b))) then
 (aD b a).bind fun d =>
 (aD c a).bind fun e =>
 bif (d.1 != e.1) then
 some (Sum.inr (Sum.inl false))
 else
 (aD b a).bind fun f =>
 (aD c a).bind fun g =>
 bif (f.2.1 != g.2.1) then
 some (Sum.inr (Sum.inl false))
 else
 (aD b a).bind fun h =>
 (aD c a).bind fun i =>
 (qch n h.2.2.1 i.2.2.1).bind fun j =>
 bif (!j) then
 some (Sum.inr (Sum.inl false))
 else
 (aD b a).bind fun k =>
 (aD c a).bind fun l =>
 (qcw n k.2.2.2 l.2.2.2).bind fun m =>
 bif (!m) then
 some (Sum.inr (Sum.inl false))
 else
 some (Sum.inl (b, (c, (aI .i64 a 1))))
 else
 some (Sum.inr (Sum.inr ()))
def qdf_W0 (n : Nat) (s : DM × DM × Int) : Option EAN := aL (fun s => qdf_B0 n s.1 s.2.1 s.2.2) n s
def qdf (n : Nat) (a b : DM) : Option Bool :=
 bif ((aA a) != (aA b)) then
 some false
 else
 (qdf_W0 n (a, (b, 0))).bind fun c =>
 Sum.rec (fun d =>
 some d) (fun e =>
 some true) c
def qcy_B0 (n : Nat) (b e : DF) (a : Int) : Option ((DF × DF × Int) ⊕ EAN) :=
 bif (decide (a < (aA b))) then
 (aD b a).bind fun c =>
 (aD e a).bind fun d =>
 bif (!((c.1 == d.1) && ((c.2.1 == d.2.1) && (c.2.2 == d.2.2)))) then
 some (Sum.inr (Sum.inl false))
 else
 some (Sum.inl (b, (e, (aI .i64 a 1))))
 else
 some (Sum.inr (Sum.inr ()))
def qcy_W0 (n : Nat) (s : DF × DF × Int) : Option EAN := aL (fun s => qcy_B0 n s.1 s.2.1 s.2.2) n s
def qcy (n : Nat) (a b : DF) : Option Bool :=
 bif ((aA a) != (aA b)) then
 some false
 else
 (qcy_W0 n (a, (b, 0))).bind fun c =>
 Sum.rec (fun d =>
 some d) (fun e =>
 some true) c
def qbe (n : Nat) (b l : DM) (m : DF) (c d e f : Int) (g o : DM) (p : DF) (h i j k : Int) : Option Bool :=
 bif ((aA b) != (aA g)) then
 some false
 else
 bif (c != h) then
 some false
 else
 bif (d != i) then
 some false
 else
 bif (e != j) then
 some false
 else
 bif (f != k) then
 some false
 else
 (qbe_W0 n (0, ((b, (l, (m, (c, (d, (e, f)))))), (g, (o, (p, (h, (i, (j, k))))))))).bind fun q =>
 Sum.rec (fun r =>
 some r.1) (fun a =>
 (qdf n a.1.2.1 a.2.2.1).bind fun s =>
 bif s then
 (qcy n a.1.2.2.1 a.2.2.2.1).bind fun t =>
 some t
 else
 some false) q
def qcb (n : Nat) (a : DA) (e f : Int) (c : DA) (g : DB) (b : Int) : Option EAB :=
 bif (Nat.ble (List.length a) 4294967296) then
 bif (Nat.ble (List.length (a ++ c)) 4294967296) then
 bif (decide (b < 0)) then
 some (8, 0)
 else
 bif (decide (b ≥ (aA (a ++ c)))) then
 some (8, 0)
 else
 bif ((decide (0 ≤ b)) && (decide (b < (((List.length (a ++ c)) : Nat) : Int)))) then
 ((a ++ c)[(Int.toNat b)]?).bind fun d =>
 some d
 else none
 else none
 else none
def qcs (n : Nat) (d : DI) (g : DJ) (h : DK) (ad : DC) (ae : DD) (i : DA) (e f : Int) (j : DA) (k : DB) (b c l : Int) (a : DA) : Option (DA × DA × Bool) :=
 bif (b == 0) then
 some (([] : List EAB), (((1, 0) :: ([] : List EAB)), true))
 else
 bif (b == 1) then
 some (([] : List EAB), (((2, 0) :: ([] : List EAB)), true))
 else
 bif (b == 2) then
 some (([] : List EAB), (((6, 0) :: ([] : List EAB)), true))
 else
 bif (b == 3) then
 (qcb n i e f j k c).bind fun o =>
 some (([] : List EAB), ((o :: ([] : List EAB)), true))
 else
 bif (b == 4) then
 (qcb n i e f j k c).bind fun p =>
 some ((p :: ([] : List EAB)), (([] : List EAB), true))
 else
 bif (b == 5) then
 some (((8, 0) :: ([] : List EAB)), (([] : List EAB), true))
 else
 bif (b == 6) then
 bif (decide ((aA a) < 1)) then
 some (([] : List EAB), (([] : List EAB), false))
 else
 bif ((decide (0 ≤ (a8 .i64 (aA a) 1))) && (decide ((a8 .i64 (aA a) 1) ≤ (((List.length a) : Nat) : Int)))) then
 (aD a (a8 .i64 (aA a) 1)).bind fun q =>
 (aD a (a8 .i64 (aA a) 1)).bind fun r =>
 some ((List.drop (Int.toNat (a8 .i64 (aA a) 1)) (List.take (List.length a) a)), ((q :: (r :: ([] : List EAB))), true))
 else none
 else
 bif (b == 7) then
 bif (decide ((aA a) < 2)) then
 some (([] : List EAB), (([] : List EAB), false))
 else
 bif ((decide (0 ≤ (a8 .i64 (aA a) 2))) && (decide ((a8 .i64 (aA a) 2) ≤ (((List.length a) : Nat) : Int)))) then
 (aD a (a8 .i64 (aA a) 1)).bind fun s =>
 (aD a (a8 .i64 (aA a) 2)).bind fun t =>
 some ((List.drop (Int.toNat (a8 .i64 (aA a) 2)) (List.take (List.length a) a)), ((s :: (t :: ([] : List EAB))), true))
 else none
 else
 bif (b == 22) then
 some (((1, 0) :: ((1, 0) :: ([] : List EAB))), (((1, 0) :: ((1, 0) :: ([] : List EAB))), true))
 else
 bif (b == 23) then
 some (([] : List EAB), (([] : List EAB), true))
 else
 bif (b == 24) then
 some (((1, 0) :: ([] : List EAB)), (([] : List EAB), true))
 else
 bif (b == 25) then
 (aD g c).bind fun u =>
 (aD g c).bind fun m =>
 some (u.1, (((m.2.1, m.2.2.1) :: ([] : List EAB)), true))
 else
 bif (b == 26) then
 some (((e, f) :: ([] : List EAB)), (([] : List EAB), true))
 else
 bif (b == 27) then
 (aD h c).bind fun v =>
 (aD h c).bind fun w =>
 some (v.1, ((w.2 :: ([] : List EAB)), true))
 else
 bif (b == 28) then
 (aD d c).bind fun x =>
 some (x, (((4, c) :: ([] : List EAB)), true))
 else
 bif (b == 29) then
 (aD d c).bind fun y =>
 (aD y l).bind fun z =>
 some (((4, c) :: ([] : List EAB)), ((z :: ([] : List EAB)), true))
 else
 bif (b == 30) then
 (aD d c).bind fun aa =>
 (aD aa l).bind fun ab =>
 some (((4, c) :: (ab :: ([] : List EAB))), (([] : List EAB), true))
 else
 bif (b == 31) then
 some (((1, 0) :: ([] : List EAB)), (((3, 0) :: ([] : List EAB)), true))
 else
 bif (b == 32) then
 some (((3, 0) :: ((1, 0) :: ([] : List EAB))), (((1, 0) :: ([] : List EAB)), true))
 else
 bif (b == 33) then
 some (((3, 0) :: ((1, 0) :: ((1, 0) :: ([] : List EAB)))), (([] : List EAB), true))
 else
 bif (b == 34) then
 some (((3, 0) :: ([] : List EAB)), (((1, 0) :: ([] : List EAB)), true))
 else
 bif (b == 35) then
 some (((1, 0) :: ([] : List EAB)), (((2, 0) :: ([] : List EAB)), true))
 else
 bif (b == 36) then
 some (((2, 0) :: ((1, 0) :: ([] : List EAB))), (((1, 0) :: ([] : List EAB)), true))
 else
 bif (b == 37) then
 some (((2, 0) :: ((1, 0) :: ((1, 0) :: ([] : List EAB)))), (([] : List EAB), true))
 else
 bif (b == 38) then
 some (((2, 0) :: ([] : List EAB)), (((1, 0) :: ([] : List EAB)), true))
 else
 bif (b == 39) then
 some (((7, 0) :: ([] : List EAB)), (((1, 0) :: ([] : List EAB)), true))
 else
 bif (b == 40) then
 some (((7, 0) :: ((7, 0) :: ([] : List EAB))), (((1, 0) :: ([] : List EAB)), true))
 else
 bif (b == 41) then
 bif (decide ((aA a) < 1)) then
 some (([] : List EAB), (([] : List EAB), false))
 else
 (aD a (a8 .i64 (aA a) 1)).bind fun ac =>
 bif (ac.1 != 5) then
 some (([] : List EAB), (([] : List EAB), false))
 else
 bif ((decide (0 ≤ (a8 .i64 (aA a) 1))) && (decide ((a8 .i64 (aA a) 1) ≤ (((List.length a) : Nat) : Int)))) then
 some ((List.drop (Int.toNat (a8 .i64 (aA a) 1)) (List.take (List.length a) a)), (([] : List EAB), true))
 else none
 else
 some (((1, 0) :: ((1, 0) :: ([] : List EAB))), (((1, 0) :: ([] : List EAB)), true))
def qeb (n : Nat) (a b : Int) : Option Bool :=
 bif (a == 2) then
 some true
 else
 bif (a == 3) then
 some true
 else
 bif (a == 4) then
 some true
 else
 bif (a == 6) then
 some true
 else
 some (a == 7)
def qdw (n : Nat) (b c a d : Int) : Option Bool :=
 bif ((b == a) && (c == d)) then
 some true
 else
 bif (a == 8) then
 some true
 else
 (qeb n b c).bind fun e =>
 bif e then
 (qeb n a d).bind fun f =>
 bif f then
 bif (b == 6) then
 some true
 else
 some (a == 7)
 else
 some false
 else
 some false
def qct_B0 (n : Nat) (m : Int) (b c o : DA) (d a : Int) (e : DA) (f g : Int) (h : DA) (i : DB) (j k l : Int) : Option (((Int × DA × DA × DA × Int × Int) × EAG × Int × Int × Int) ⊕ ((EBA × EAG × Int × Int × Int) ⊕ ((Int × DA × DA × Int) × EAG × Int × Int × Int))) :=
 bif (decide (a < (aA c))) then
 (aD b (aI .i64 d a)).bind fun p =>
 (aD c a).bind fun q =>
 (qdw n p.1 p.2 q.1 q.2).bind fun r =>
 bif (!r) then
 some (Sum.inr (Sum.inl ((([] : List EAB), (([] : DE), 4)), ((e, (f, (g, (h, i)))), (j, (k, l))))))
 else
 some (Sum.inl ((m, (b, (c, (o, (d, (aI .i64 a 1)))))), ((e, (f, (g, (h, i)))), (j, (k, l)))))
 else
 some (Sum.inr (Sum.inr ((m, (b, (o, d))), ((e, (f, (g, (h, i)))), (j, (k, l))))))
def qct_W0 (n : Nat) (s : (Int × DA × DA × DA × Int × Int) × EAG × Int × Int × Int) : Option ((EBA × EAG × Int × Int × Int) ⊕ ((Int × DA × DA × Int) × EAG × Int × Int × Int)) := aL (fun s => qct_B0 n s.1.1 s.1.2.1 s.1.2.2.1 s.1.2.2.2.1 s.1.2.2.2.2.1 s.1.2.2.2.2.2 s.2.1.1 s.2.1.2.1 s.2.1.2.2.1 s.2.1.2.2.2.1 s.2.1.2.2.2.2 s.2.2.1 s.2.2.2.1 s.2.2.2.2) n s
def qct (n : Nat) (h : DI) (f : DJ) (i : DK) (j : DC) (k : DD) (l g : Int) (d : DA) : Option EBA :=
 (aD f l).bind fun b =>
 (aD b.2.2.2.2 g).bind fun e =>
 (qcs n h f i j k b.1 b.2.1 b.2.2.1 b.2.2.2.1 b.2.2.2.2 e.1 e.2.1 e.2.2 d).bind fun c =>
 bif (!c.2.2) then
 some (([] : List EAB), (([] : DE), 4))
 else
 bif (decide ((a8 .i64 (aA d) (aA c.1)) < 0)) then
 some (([] : List EAB), (([] : DE), 4))
 else
 bif (decide ((aI .i64 (a8 .i64 (aA d) (aA c.1)) (aA c.2.1)) > 8)) then
 some (([] : List EAB), (([] : DE), 4))
 else
 (qct_W0 n ((g, (d, (c.1, (c.2.1, ((a8 .i64 (aA d) (aA c.1)), 0))))), (b, e))).bind fun m =>
 Sum.rec (fun o =>
 some o.1) (fun a =>
 bif ((decide (0 ≤ a.1.2.2.2)) && (decide (a.1.2.2.2 ≤ (((List.length a.1.2.1) : Nat) : Int)))) then
 bif (Nat.ble (List.length (List.take (Int.toNat a.1.2.2.2) a.1.2.1)) 4294967296) then
 bif (Nat.ble (List.length ((List.take (Int.toNat a.1.2.2.2) a.1.2.1) ++ a.1.2.2.1)) 4294967296) then
 bif (a.2.2.1 == 26) then
 some (((List.take (Int.toNat a.1.2.2.2) a.1.2.1) ++ a.1.2.2.1), (([] : DE), 0))
 else
 bif (a.2.2.1 == 23) then
 some (((List.take (Int.toNat a.1.2.2.2) a.1.2.1) ++ a.1.2.2.1), ((a.2.2.2.1 :: ([] : DE)), 0))
 else
 bif (decide ((aI .i64 a.1.1 1) ≥ (aA a.2.1.2.2.2.2))) then
 some (([] : List EAB), (([] : DE), 1))
 else
 bif (a.2.2.1 == 24) then
 some (((List.take (Int.toNat a.1.2.2.2) a.1.2.1) ++ a.1.2.2.1), (((aI .i64 a.1.1 1) :: (a.2.2.2.1 :: ([] : DE))), 0))
 else
 some (((List.take (Int.toNat a.1.2.2.2) a.1.2.1) ++ a.1.2.2.1), (((aI .i64 a.1.1 1) :: ([] : DE)), 0))
 else none
 else none
 else none) m
def qbx (n : Nat) (a b c d : Int) : Option EAB :=
 (qdw n a b c d).bind fun e =>
 bif e then
 some (c, d)
 else
 (qdw n c d a b).bind fun f =>
 bif f then
 some (a, b)
 else
 (qeb n a b).bind fun g =>
 bif g then
 (qeb n c d).bind fun h =>
 bif h then
 some (7, 0)
 else
 some (8, 0)
 else
 some (8, 0)
def qdm_B8 (n : Nat) (d : Int) (e : Bool) (f : Int) (c : DA) (g : DC) (h : Int) (i : Nat) (a : Int) (j : DI) (k : DJ) (l : DK) (m : DC) (o : DD) (p : DO) (q : DN) (b : DA) : Option (((Int × Bool × Int × DA × DC × Int × Nat × Int) × EAA × DO × DN × DA) ⊕ ((Int × Bool × Int × DA × DC × Int × Nat) × EAA × DO × DN × DA)) :=
 bif (decide (a < (aA c))) then
 bif ((decide (0 ≤ a)) && (decide (a < (((List.length b) : Nat) : Int)))) then
 (b[(Int.toNat a)]?).bind fun r =>
 (aD c a).bind fun s =>
 (qbx n r.1 r.2 s.1 s.2).bind fun t =>
 bif ((decide (0 ≤ a)) && (decide (a < (((List.length b) : Nat) : Int)))) then
 bif (Nat.ble ((Int.toNat a) + 1) (List.length b)) then
 some (Sum.inl ((d, (e, (f, (c, (g, (h, (i, (aI .i64 a 1)))))))), ((j, (k, (l, (m, o)))), (p, (q, (List.set b (Int.toNat a) t))))))
 else none
 else none
 else none
 else
 some (Sum.inr ((d, (e, (f, (c, (g, (h, i)))))), ((j, (k, (l, (m, o)))), (p, (q, b)))))
def qdm_W8 (n : Nat) (s : (Int × Bool × Int × DA × DC × Int × Nat × Int) × EAA × DO × DN × DA) : Option ((Int × Bool × Int × DA × DC × Int × Nat) × EAA × DO × DN × DA) := aL (fun s => qdm_B8 n s.1.1 s.1.2.1 s.1.2.2.1 s.1.2.2.2.1 s.1.2.2.2.2.1 s.1.2.2.2.2.2.1 s.1.2.2.2.2.2.2.1 s.1.2.2.2.2.2.2.2 s.2.1.1 s.2.1.2.1 s.2.1.2.2.1 s.2.1.2.2.2.1 s.2.1.2.2.2.2 s.2.2.1 s.2.2.2.1 s.2.2.2.2) n s
def qbs_B0 (n : Nat) (b c : DA) (a : Int) : Option ((DA × DA × Int) ⊕ EAN) :=
 bif (decide (a < (aA b))) then
 (aD b a).bind fun d =>
 (aD c a).bind fun e =>
 bif (!((d.1 == e.1) && (d.2 == e.2))) then
 some (Sum.inr (Sum.inl false))
 else
 some (Sum.inl (b, (c, (aI .i64 a 1))))
 else
 some (Sum.inr (Sum.inr ()))
def qbs_W0 (n : Nat) (s : DA × DA × Int) : Option EAN := aL (fun s => qbs_B0 n s.1 s.2.1 s.2.2) n s
def qbs (n : Nat) (a b : DA) : Option Bool :=
 bif ((aA a) != (aA b)) then
 some false
 else
 (qbs_W0 n (a, (b, 0))).bind fun c =>
 Sum.rec (fun d =>
 some d) (fun e =>
 some true) c
def qdm_B6 (n : Nat) (m : Int) (p : Bool) (o : Int) (d : DA) (e : DC) (f : Int) (g : DI) (h : DJ) (i : DK) (j : DC) (k : DD) (l : DO) (c : DN) : Option (((Int × Bool × Int × DA × DC × Int) × EAA × DO × DN) ⊕ (EBK ⊕ (EAL × EAA × DO × DN))) :=
 bif (decide (f < (aA e))) then
 (aD e f).bind fun b =>
 bif ((decide (0 ≤ b)) && (decide (b < (((List.length c) : Nat) : Int)))) then
 (c[(Int.toNat b)]?).bind fun s =>
 bif (!s.1) then
 (c[(Int.toNat b)]?).bind fun q =>
 ((List.set c (Int.toNat b) (true, q.2))[(Int.toNat b)]?).bind fun t =>
 some (Sum.inl ((m, (true, (o, (d, (e, (aI .i64 f 1)))))), ((g, (h, (i, (j, k)))), (l, (List.set (List.set c (Int.toNat b) (true, q.2)) (Int.toNat b) (t.1, d))))))
 else
 (c[(Int.toNat b)]?).bind fun u =>
 bif ((aA u.2) != (aA d)) then
 some (Sum.inr (Sum.inl ((([] : List (List (Bool × List EAB))), false), ((g, (h, (i, (j, k)))), (l, c)))))
 else
 (c[(Int.toNat b)]?).bind fun r =>
 bif (Nat.ble (List.length r.2) 4294967296) then
 (qdm_W8 n ((m, (p, (o, (d, (e, (f, ((Int.toNat b), 0))))))), ((g, (h, (i, (j, k)))), (l, (c, r.2))))).bind fun a =>
 (a.2.2.2.1[a.1.2.2.2.2.2.2]?).bind fun v =>
 (qbs n a.2.2.2.2 v.2).bind fun w =>
 bif (!w) then
 (a.2.2.2.1[a.1.2.2.2.2.2.2]?).bind fun x =>
 some (Sum.inl ((a.1.1, (true, (a.1.2.2.1, (a.1.2.2.2.1, (a.1.2.2.2.2.1, (aI .i64 a.1.2.2.2.2.2.1 1)))))), (a.2.1, (a.2.2.1, (List.set a.2.2.2.1 a.1.2.2.2.2.2.2 (x.1, a.2.2.2.2))))))
 else
 some (Sum.inl ((a.1.1, (a.1.2.1, (a.1.2.2.1, (a.1.2.2.2.1, (a.1.2.2.2.2.1, (aI .i64 a.1.2.2.2.2.2.1 1)))))), (a.2.1, (a.2.2.1, a.2.2.2.1))))
 else none
 else none
 else
 some (Sum.inr (Sum.inr ((m, (p, o)), ((g, (h, (i, (j, k)))), (l, c)))))
def qdm_W6 (n : Nat) (s : (Int × Bool × Int × DA × DC × Int) × EAA × DO × DN) : Option (EBK ⊕ (EAL × EAA × DO × DN)) := aL (fun s => qdm_B6 n s.1.1 s.1.2.1 s.1.2.2.1 s.1.2.2.2.1 s.1.2.2.2.2.1 s.1.2.2.2.2.2 s.2.1.1 s.2.1.2.1 s.2.1.2.2.1 s.2.1.2.2.2.1 s.2.1.2.2.2.2 s.2.2.1 s.2.2.2) n s
def qdm_B4 (n : Nat) (h : Int) (k : Bool) (a : Int) (c : DI) (d : DJ) (e : DK) (f : DC) (g : DD) (i : DO) (b : DN) : Option ((EAL × EAA × DO × DN) ⊕ (EBK ⊕ (EAV × EAA × DO × DN))) :=
 bif (decide (a < (aA b))) then
 bif ((decide (0 ≤ a)) && (decide (a < (((List.length b) : Nat) : Int)))) then
 (b[(Int.toNat a)]?).bind fun m =>
 bif (!m.1) then
 some (Sum.inl ((h, (k, (aI .i64 a 1))), ((c, (d, (e, (f, g)))), (i, b))))
 else
 bif ((decide (0 ≤ a)) && (decide (a < (((List.length b) : Nat) : Int)))) then
 (b[(Int.toNat a)]?).bind fun o =>
 (qct n c d e f g h a o.2).bind fun l =>
 bif (l.2.2 != 0) then
 some (Sum.inr (Sum.inl ((([] : List (List (Bool × List EAB))), false), ((c, (d, (e, (f, g)))), (i, b)))))
 else
 (qdm_W6 n ((h, (k, (a, (l.1, (l.2.1, 0))))), ((c, (d, (e, (f, g)))), (i, b)))).bind fun p =>
 Sum.rec (fun q =>
 some (Sum.inr (Sum.inl q))) (fun j =>
 some (Sum.inl ((j.1.1, (j.1.2.1, (aI .i64 j.1.2.2 1))), j.2))) p
 else none
 else none
 else
 some (Sum.inr (Sum.inr ((h, k), ((c, (d, (e, (f, g)))), (i, b)))))
def qdm_W4 (n : Nat) (s : EAL × EAA × DO × DN) : Option (EBK ⊕ (EAV × EAA × DO × DN)) := aL (fun s => qdm_B4 n s.1.1 s.1.2.1 s.1.2.2 s.2.1.1 s.2.1.2.1 s.2.1.2.2.1 s.2.1.2.2.2.1 s.2.1.2.2.2.2 s.2.2.1 s.2.2.2) n s
def qdm_B2 (n : Nat) (a : Int) (i : Bool) (b : DI) (c : DJ) (d : DK) (e : DC) (f : DD) (g : DO) (h : DN) : Option ((EAV × EAA × DO × DN) ⊕ (EBK ⊕ (Int × EAA × DO × DN))) :=
 bif i then
 (qdm_W4 n ((a, (false, 0)), ((b, (c, (d, (e, f)))), (g, h)))).bind fun j =>
 Sum.rec (fun k =>
 some (Sum.inr (Sum.inl k))) (fun l =>
 some (Sum.inl l)) j
 else
 some (Sum.inr (Sum.inr (a, ((b, (c, (d, (e, f)))), (g, h)))))
def qdm_W2 (n : Nat) (s : EAV × EAA × DO × DN) : Option (EBK ⊕ (Int × EAA × DO × DN)) := aL (fun s => qdm_B2 n s.1.1 s.1.2 s.2.1.1 s.2.1.2.1 s.2.1.2.2.1 s.2.1.2.2.2.1 s.2.1.2.2.2.2 s.2.2.1 s.2.2.2) n s
def qdm_B0 (n : Nat) (d : Int) (e : DI) (c : DJ) (f : DK) (g : DC) (h : DD) (i : DO) : Option ((Int × EAA × DO) ⊕ (EBK ⊕ (EAA × DO))) :=
 bif (decide (d < (aA c))) then
 (aD c d).bind fun a =>
 bif ((((aA a.2.2.2.2) == (aA a.2.2.2.2)) && (decide (0 ≤ (aA a.2.2.2.2)))) && (Nat.ble (Int.toNat (aA a.2.2.2.2)) 4294967296)) then
 bif (decide (0 < (((List.length (List.replicate (Int.toNat (aA a.2.2.2.2)) (false, ([] : List EAB)))) : Nat) : Int))) then
 ((List.replicate (Int.toNat (aA a.2.2.2.2)) (false, ([] : List EAB)))[0]?).bind fun j =>
 (qdm_W2 n ((d, true), ((e, (c, (f, (g, h)))), (i, (List.set (List.replicate (Int.toNat (aA a.2.2.2.2)) (false, ([] : List EAB))) 0 (true, j.2)))))).bind fun k =>
 Sum.rec (fun l =>
 some (Sum.inr (Sum.inl l))) (fun b =>
 bif (Nat.ble (List.length (b.2.2.1 ++ (b.2.2.2 :: ([] : List (List (Bool × List EAB)))))) 4294967296) then
 some (Sum.inl ((aI .i64 b.1 1), (b.2.1, (b.2.2.1 ++ (b.2.2.2 :: ([] : List (List (Bool × List EAB))))))))
 else none) k
 else none
 else none
 else
 some (Sum.inr (Sum.inr ((e, (c, (f, (g, h)))), i)))
def qdm_W0 (n : Nat) (s : Int × EAA × DO) : Option (EBK ⊕ (EAA × DO)) := aL (fun s => qdm_B0 n s.1 s.2.1.1 s.2.1.2.1 s.2.1.2.2.1 s.2.1.2.2.2.1 s.2.1.2.2.2.2 s.2.2) n s
def qdm (n : Nat) (a : DI) (b : DJ) (c : DK) (d : DC) (e : DD) : Option EAU :=
 (qdm_W0 n (0, ((a, (b, (c, (d, e)))), ([] : List (List (Bool × List EAB)))))).bind fun f =>
 Sum.rec (fun g =>
 some g.1) (fun h =>
 some (h.2, true)) f
def qcm (n : Nat) (d : DI) (b : DJ) (e : DK) (f : DC) (g : DD) (c : Int) : Option (DM × Int × Int × Int × Int) :=
 (aD b 0).bind fun a =>
 bif ((((aA a.2.2.2.1) == (aA a.2.2.2.1)) && (decide (0 ≤ (aA a.2.2.2.1)))) && (Nat.ble (Int.toNat (aA a.2.2.2.1)) 4294967296)) then
 some (((0, (0, ((List.replicate (Int.toNat (aA a.2.2.2.1)) 0), ([] : DE)))) :: ([] : List EAC)), (c, (0, (0, 0))))
 else none
def qdg (n : Nat) (a : DA) : Option DA :=
 some a
def qeg (n : Nat) (b : Int) (a : DA) : Option ((DA × DA) × Bool) :=
 bif (b == 6) then
 bif (decide ((aA a) ≥ 1)) then
 (aD a (a8 .i64 (aA a) 1)).bind fun c =>
 (qdg n (c :: ([] : List EAB))).bind fun d =>
 (qdg n (c :: (c :: ([] : List EAB)))).bind fun e =>
 some ((d, e), true)
 else
 bif (b == 7) then
 bif (decide ((aA a) ≥ 2)) then
 (aD a (a8 .i64 (aA a) 2)).bind fun f =>
 (aD a (a8 .i64 (aA a) 1)).bind fun g =>
 (qdg n (f :: (g :: ([] : List EAB)))).bind fun h =>
 (aD a (a8 .i64 (aA a) 1)).bind fun i =>
 (aD a (a8 .i64 (aA a) 2)).bind fun j =>
 (qdg n (i :: (j :: ([] : List EAB)))).bind fun k =>
 some ((h, k), true)
 else
 bif (b == 41) then
 bif (decide ((aA a) ≥ 1)) then
 (aD a (a8 .i64 (aA a) 1)).bind fun l =>
 bif (l.1 == 5) then
 (aD a (a8 .i64 (aA a) 1)).bind fun m =>
 (qdg n (m :: ([] : List EAB))).bind fun o =>
 some ((o, []), true)
 else
 some (([], []), false)
 else
 some (([], []), false)
 else
 some (([], []), false)
 else
 bif (b == 41) then
 bif (decide ((aA a) ≥ 1)) then
 (aD a (a8 .i64 (aA a) 1)).bind fun p =>
 bif (p.1 == 5) then
 (aD a (a8 .i64 (aA a) 1)).bind fun q =>
 (qdg n (q :: ([] : List EAB))).bind fun r =>
 some ((r, []), true)
 else
 some (([], []), false)
 else
 some (([], []), false)
 else
 some (([], []), false)
 else
 bif (b == 7) then
 bif (decide ((aA a) ≥ 2)) then
 (aD a (a8 .i64 (aA a) 2)).bind fun s =>
 (aD a (a8 .i64 (aA a) 1)).bind fun t =>
 (qdg n (s :: (t :: ([] : List EAB)))).bind fun u =>
 (aD a (a8 .i64 (aA a) 1)).bind fun v =>
 (aD a (a8 .i64 (aA a) 2)).bind fun w =>
 (qdg n (v :: (w :: ([] : List EAB)))).bind fun x =>
 some ((u, x), true)
 else
 bif (b == 41) then
 bif (decide ((aA a) ≥ 1)) then
 (aD a (a8 .i64 (aA a) 1)).bind fun y =>
 bif (y.1 == 5) then
 (aD a (a8 .i64 (aA a) 1)).bind fun z =>
 (qdg n (z :: ([] : List EAB))).bind fun aa =>
 some ((aa, []), true)
 else
 some (([], []), false)
 else
 some (([], []), false)
 else
 some (([], []), false)
 else
 bif (b == 41) then
 bif (decide ((aA a) ≥ 1)) then
 (aD a (a8 .i64 (aA a) 1)).bind fun ab =>
 bif (ab.1 == 5) then
 (aD a (a8 .i64 (aA a) 1)).bind fun ac =>
 (qdg n (ac :: ([] : List EAB))).bind fun ad =>
 some ((ad, []), true)
 else
 some (([], []), false)
 else
 some (([], []), false)
 else
 some (([], []), false)
def qdc (n : Nat) (a : Int) : Option ((DA × DA) × Bool) :=
 bif (a == 2) then
 (qdg n ((6, 0) :: ([] : List EAB))).bind fun d =>
 some (([], d), true)
 else
 bif (a == 5) then
 (qdg n ((8, 0) :: ([] : List EAB))).bind fun e =>
 some ((e, []), true)
 else
 bif (a == 22) then
 (qdg n ((1, 0) :: ((1, 0) :: ([] : List EAB)))).bind fun f =>
 (qdg n ((1, 0) :: ((1, 0) :: ([] : List EAB)))).bind fun g =>
 some ((f, g), true)
 else
 bif (a == 23) then
 some (([], []), true)
 else
 bif (a == 24) then
 (qdg n ((1, 0) :: ([] : List EAB))).bind fun h =>
 some ((h, []), true)
 else
 bif (a == 31) then
 (qdg n ((1, 0) :: ([] : List EAB))).bind fun i =>
 (qdg n ((3, 0) :: ([] : List EAB))).bind fun j =>
 some ((i, j), true)
 else
 bif (a == 32) then
 (qdg n ((3, 0) :: ((1, 0) :: ([] : List EAB)))).bind fun k =>
 (qdg n ((1, 0) :: ([] : List EAB))).bind fun l =>
 some ((k, l), true)
 else
 bif (a == 33) then
 (qdg n ((3, 0) :: ((1, 0) :: ((1, 0) :: ([] : List EAB))))).bind fun m =>
 some ((m, []), true)
 else
 bif (a == 34) then
 (qdg n ((3, 0) :: ([] : List EAB))).bind fun o =>
 (qdg n ((1, 0) :: ([] : List EAB))).bind fun p =>
 some ((o, p), true)
 else
 bif (a == 35) then
 (qdg n ((1, 0) :: ([] : List EAB))).bind fun q =>
 (qdg n ((2, 0) :: ([] : List EAB))).bind fun r =>
 some ((q, r), true)
 else
 bif (a == 36) then
 (qdg n ((2, 0) :: ((1, 0) :: ([] : List EAB)))).bind fun s =>
 (qdg n ((1, 0) :: ([] : List EAB))).bind fun t =>
 some ((s, t), true)
 else
 bif (a == 37) then
 (qdg n ((2, 0) :: ((1, 0) :: ((1, 0) :: ([] : List EAB))))).bind fun u =>
 some ((u, []), true)
 else
 bif (a == 38) then
 (qdg n ((2, 0) :: ([] : List EAB))).bind fun v =>
 (qdg n ((1, 0) :: ([] : List EAB))).bind fun w =>
 some ((v, w), true)
 else
 bif (a == 39) then
 (qdg n ((7, 0) :: ([] : List EAB))).bind fun x =>
 (qdg n ((1, 0) :: ([] : List EAB))).bind fun y =>
 some ((x, y), true)
 else
 bif (a == 40) then
 (qdg n ((7, 0) :: ((7, 0) :: ([] : List EAB)))).bind fun z =>
 (qdg n ((1, 0) :: ([] : List EAB))).bind fun aa =>
 some ((z, aa), true)
 else
 (qdg n ((1, 0) :: ((1, 0) :: ([] : List EAB)))).bind fun b =>
 (qdg n ((1, 0) :: ([] : List EAB))).bind fun c =>
 bif (decide (a ≥ 8)) then
 some ((b, c), (decide (a ≤ 21)))
 else
 some ((b, c), false)
def qcx (n : Nat) (b : DA) (g h : Int) (c : DA) (i : DB) (a : Int) : Option EAB :=
 bif (decide (a ≥ 0)) then
 bif (decide (a < (aA b))) then
 (aD b a).bind fun d =>
 some d
 else
 bif (decide (a ≥ 0)) then
 bif (decide (a < (aI .i64 (aA b) (aA c)))) then
 (aD c (a8 .i64 a (aA b))).bind fun e =>
 some e
 else
 some (8, 0)
 else
 some (8, 0)
 else
 bif (decide (a ≥ 0)) then
 bif (decide (a < (aI .i64 (aA b) (aA c)))) then
 (aD c (a8 .i64 a (aA b))).bind fun f =>
 some f
 else
 some (8, 0)
 else
 some (8, 0)
def qdi (n : Nat) (c : DI) (f : DJ) (g : DK) (ai : DC) (aj : DD) (h : DA) (d e : Int) (i : DA) (j : DB) (b a k : Int) : Option (DA × DA) :=
 bif (b == 0) then
 (qdg n ((1, 0) :: ([] : List EAB))).bind fun m =>
 some ([], m)
 else
 bif (b == 1) then
 (qdg n ((2, 0) :: ([] : List EAB))).bind fun o =>
 some ([], o)
 else
 bif (b == 3) then
 (qcx n h d e i j a).bind fun p =>
 (qdg n (p :: ([] : List EAB))).bind fun q =>
 some ([], q)
 else
 bif (b == 4) then
 (qcx n h d e i j a).bind fun r =>
 (qdg n (r :: ([] : List EAB))).bind fun s =>
 some (s, [])
 else
 bif (b == 25) then
 (aD f a).bind fun t =>
 (aD f a).bind fun l =>
 (qdg n ((l.2.1, l.2.2.1) :: ([] : List EAB))).bind fun u =>
 some (t.1, u)
 else
 bif (b == 26) then
 (qdg n ((d, e) :: ([] : List EAB))).bind fun v =>
 some (v, [])
 else
 bif (b == 27) then
 (aD g a).bind fun w =>
 (aD g a).bind fun x =>
 (qdg n (x.2 :: ([] : List EAB))).bind fun y =>
 some (w.1, y)
 else
 bif (b == 28) then
 (aD c a).bind fun z =>
 (qdg n ((4, a) :: ([] : List EAB))).bind fun aa =>
 some (z, aa)
 else
 bif (b == 29) then
 (qdg n ((4, a) :: ([] : List EAB))).bind fun ab =>
 (aD c a).bind fun ac =>
 (aD ac k).bind fun ad =>
 (qdg n (ad :: ([] : List EAB))).bind fun ae =>
 some (ab, ae)
 else
 (aD c a).bind fun af =>
 (aD af k).bind fun ag =>
 (qdg n ((4, a) :: (ag :: ([] : List EAB)))).bind fun ah =>
 some (ah, [])
def qer (n : Nat) (d : DI) (e : DJ) (f : DK) (g : DC) (h : DD) (i : DA) (j k : Int) (l : DA) (m : DB) (a o p : Int) (b : DA) : Option ((DA × DA) × Bool) :=
 bif (a == 6) then
 (qeg n a b).bind fun q =>
 some q
 else
 bif (a == 7) then
 (qeg n a b).bind fun r =>
 some r
 else
 bif (a == 41) then
 (qeg n a b).bind fun s =>
 some s
 else
 (qdc n a).bind fun c =>
 bif c.2 then
 some (c.1, true)
 else
 (qdi n d e f g h i j k l m a o p).bind fun t =>
 some (t, true)
def qeo (n : Nat) (a b : Int) : Option Bool :=
 bif (a == 2) then
 some true
 else
 bif (a == 3) then
 some true
 else
 bif (a == 4) then
 some true
 else
 bif (a == 6) then
 some true
 else
 bif (a == 7) then
 some true
 else
 some false
def qem (n : Nat) (b c a d : Int) : Option Bool :=
 bif ((b == a) && (c == d)) then
 some true
 else
 bif (a == 8) then
 some true
 else
 (qeo n b c).bind fun e =>
 bif e then
 (qeo n a d).bind fun f =>
 bif f then
 bif (b == 6) then
 some true
 else
 some (a == 7)
 else
 some false
 else
 some false
def qei_B0 (n : Nat) (l : Int) (b : DA) (c : Int) (m : DA) (o a : Int) (d : DA) (e f : Int) (g : DA) (h : DB) (i j : DA) : Option (((Int × DA × Int × DA × Int × Int) × EAG × DA × DA) ⊕ ((EBA × EAG × (DA × DA) × Int × Int) ⊕ ((Int × DA × Int) × EAG × DA × DA))) :=
 bif (decide (a < o)) then
 (aD m a).bind fun k =>
 (aD b (aI .i64 c a)).bind fun p =>
 (qem n p.1 p.2 k.1 k.2).bind fun q =>
 bif (!q) then
 some (Sum.inr (Sum.inl ((([] : List EAB), (([] : DE), 4)), ((d, (e, (f, (g, h)))), ((i, j), k)))))
 else
 some (Sum.inl ((l, (b, (c, (m, (o, (aI .i64 a 1)))))), ((d, (e, (f, (g, h)))), (i, j))))
 else
 some (Sum.inr (Sum.inr ((l, (b, c)), ((d, (e, (f, (g, h)))), (i, j)))))
def qei_W0 (n : Nat) (s : (Int × DA × Int × DA × Int × Int) × EAG × DA × DA) : Option ((EBA × EAG × (DA × DA) × Int × Int) ⊕ ((Int × DA × Int) × EAG × DA × DA)) := aL (fun s => qei_B0 n s.1.1 s.1.2.1 s.1.2.2.1 s.1.2.2.2.1 s.1.2.2.2.2.1 s.1.2.2.2.2.2 s.2.1.1 s.2.1.2.1 s.2.1.2.2.1 s.2.1.2.2.2.1 s.2.1.2.2.2.2 s.2.2.1 s.2.2.2) n s
def qdu (n : Nat) (a b d c : Int) : Option DC :=
 bif (a == 26) then
 some ([] : DE)
 else
 bif (a == 23) then
 some (b :: ([] : DE))
 else
 bif (a == 24) then
 some ((aI .i64 c 1) :: (b :: ([] : DE)))
 else
 some ((aI .i64 c 1) :: ([] : DE))
def qby_B0 (n : Nat) (c : DI) (a : Int) (d : DI) (e b : Int) : Option ((DI × Int × DI × Int × Int) ⊕ (DI × Int)) :=
 bif (decide (b < e)) then
 (aD d b).bind fun f =>
 bif (decide ((aI .i64 a (aA f)) < 0)) then
 none
 else
 some (Sum.inl (c, ((aI .i64 a (aA f)), (d, (e, (aI .i64 b 1))))))
 else
 some (Sum.inr (c, a))
def qby_W0 (n : Nat) (s : DI × Int × DI × Int × Int) : Option (DI × Int) := aL (fun s => qby_B0 n s.1 s.2.1 s.2.2.1 s.2.2.2.1 s.2.2.2.2) n s
def qea (n : Nat) (a : Int) : Option ((EAR × DA) ⊕ Unit) :=
 bif (decide (a < 0)) then
 none
 else
 bif (decide ((a8 .i64 a 0) > 0)) then
 bif ((decide (1 ≤ (a8 .i64 a 0))) && (Nat.ble (Int.toNat (a8 .i64 a 0)) 4294967296)) then
 bif (decide (0 ≤ (((List.length (List.replicate (Int.toNat (a8 .i64 a 0)) (0, 0))) : Nat) : Int))) then
 some (Sum.inl ((0, 0), (List.replicate (Int.toNat (a8 .i64 a 0)) (0, 0))))
 else none
 else none
 else
 some (Sum.inr ())
def qby_B2x1q0 (n : Nat) (a : Nat × Nat) (d : DI) (e c : Int) (b : DA) : Option (((EBN × DA) ⊕ ((EAK × DA) ⊕ EAK)) ⊕ ((EAR × DA) ⊕ (DA ⊕ Unit))) :=
 bif (decide (c < e)) then
 (aD d c).bind fun f =>
 bif (Nat.beq a.1 0) then
 bif (Nat.ble (0 + a.2) (List.length b)) then
 bif (Nat.ble (List.length ((List.take a.2 b) ++ f)) 4294967296) then
 some (Sum.inl (Sum.inr (Sum.inl ((d, (e, (aI .i64 c 1))), ((List.take a.2 b) ++ f)))))
 else none
 else none
 else none
 else
 some (Sum.inr (Sum.inl (a, b)))
def qby_B2x1q1 (n : Nat) (c : DI) (d a : Int) (b : DA) : Option (((EBN × DA) ⊕ ((EAK × DA) ⊕ EAK)) ⊕ ((EAR × DA) ⊕ (DA ⊕ Unit))) :=
 bif (decide (a < d)) then
 (aD c a).bind fun e =>
 bif (Nat.ble (List.length (b ++ e)) 4294967296) then
 some (Sum.inl (Sum.inr (Sum.inl ((c, (d, (aI .i64 a 1))), (b ++ e)))))
 else none
 else
 some (Sum.inr (Sum.inr (Sum.inl b)))
def qby_B2x1q2 (n : Nat) (b : DI) (c a : Int) : Option (((EBN × DA) ⊕ ((EAK × DA) ⊕ EAK)) ⊕ ((EAR × DA) ⊕ (DA ⊕ Unit))) :=
 bif (decide (a < c)) then
 (aD b a).bind fun d =>
 bif (Nat.ble (List.length d) 4294967296) then
 some (Sum.inl (Sum.inr (Sum.inl ((b, (c, (aI .i64 a 1))), d))))
 else none
 else
 some (Sum.inr (Sum.inr (Sum.inr ())))
def qby_M2x1 (n : Nat) (s : (EBN × DA) ⊕ ((EAK × DA) ⊕ EAK)) : Option (((EBN × DA) ⊕ ((EAK × DA) ⊕ EAK)) ⊕ ((EAR × DA) ⊕ (DA ⊕ Unit))) := Sum.rec (fun a => qby_B2x1q0 n a.1.1 a.1.2.1 a.1.2.2.1 a.1.2.2.2 a.2) (fun d => Sum.rec (fun b => qby_B2x1q1 n b.1.1 b.1.2.1 b.1.2.2 b.2) (fun c => qby_B2x1q2 n c.1 c.2.1 c.2.2) d) s
def qby_W2x1 (n : Nat) (s : (EBN × DA) ⊕ ((EAK × DA) ⊕ EAK)) : Option ((EAR × DA) ⊕ (DA ⊕ Unit)) := aL (qby_M2x1 n) n s
def qby (n : Nat) (b : DI) : Option ((EAR × DA) ⊕ DA) :=
 (qby_W0 n (b, (0, (b, ((aA b), 0))))).bind fun a =>
 (qea n a.2).bind fun d =>
 Sum.rec (fun c =>
 (qby_W2x1 n (Sum.inl ((c.1, (a.1, ((aA a.1), 0))), c.2))).bind fun e =>
 Sum.rec (fun f =>
 some (Sum.inl f)) (fun g =>
 Sum.rec (fun h =>
 some (Sum.inr h)) (fun m =>
 some (Sum.inr [])) g) e) (fun o =>
 (qby_W2x1 n (Sum.inr (Sum.inr (a.1, ((aA a.1), 0))))).bind fun i =>
 Sum.rec (fun j =>
 some (Sum.inl j)) (fun k =>
 Sum.rec (fun l =>
 some (Sum.inr l)) (fun p =>
 some (Sum.inr [])) k) i) d
def qdz (n : Nat) (a : DA) : Option DA :=
 bif ((decide (0 ≤ (aA a))) && (decide ((aA a) ≤ (((List.length a) : Nat) : Int)))) then
 bif ((decide (0 ≤ (aA a))) && (decide ((aA a) ≤ (((Int.toNat (aA a)) : Nat) : Int)))) then
 some (List.take (Int.toNat (aA a)) a)
 else none
 else none
def qei (n : Nat) (l : DI) (j : DJ) (m : DK) (o : DC) (p : DD) (q k : Int) (f : DA) : Option EBA :=
 (aD j q).bind fun c =>
 (aD c.2.2.2.2 k).bind fun h =>
 (qer n l j m o p c.1 c.2.1 c.2.2.1 c.2.2.2.1 c.2.2.2.2 h.1 h.2.1 h.2.2 f).bind fun b =>
 bif (!b.2) then
 some (([] : List EAB), (([] : DE), 4))
 else
 bif (decide ((a8 .i64 (aA f) (aA b.1.1)) < 0)) then
 some (([] : List EAB), (([] : DE), 4))
 else
 bif (decide ((aI .i64 (a8 .i64 (aA f) (aA b.1.1)) (aA b.1.2)) > 8)) then
 some (([] : List EAB), (([] : DE), 4))
 else
 (qei_W0 n ((k, (f, ((a8 .i64 (aA f) (aA b.1.1)), (b.1.1, ((aA b.1.1), 0))))), (c, b.1))).bind fun r =>
 Sum.rec (fun s =>
 some s.1) (fun a =>
 (aD a.2.1.2.2.2.2 a.1.1).bind fun i =>
 (qdu n i.1 i.2.1 i.2.2 a.1.1).bind fun g =>
 bif (decide ((aA g) > 0)) then
 (aD g 0).bind fun t =>
 bif (decide (t ≥ (aA a.2.1.2.2.2.2))) then
 some (([] : List EAB), (([] : DE), 1))
 else
 bif ((decide (0 ≤ a.1.2.2)) && (decide (a.1.2.2 ≤ (((List.length a.1.2.1) : Nat) : Int)))) then
 (qby n ((List.take (Int.toNat a.1.2.2) a.1.2.1) :: (a.2.2.2 :: ([] : List (List EAB))))).bind fun u =>
 Sum.rec (fun d =>
 bif (Nat.ble (d.1.1 + d.1.2) (List.length d.2)) then
 (qdz n (List.take d.1.2 (List.drop d.1.1 d.2))).bind fun aa =>
 none
 else none) (fun v =>
 (qdz n v).bind fun w =>
 some (w, (g, 0))) u
 else none
 else
 bif ((decide (0 ≤ a.1.2.2)) && (decide (a.1.2.2 ≤ (((List.length a.1.2.1) : Nat) : Int)))) then
 (qby n ((List.take (Int.toNat a.1.2.2) a.1.2.1) :: (a.2.2.2 :: ([] : List (List EAB))))).bind fun x =>
 Sum.rec (fun e =>
 bif (Nat.ble (e.1.1 + e.1.2) (List.length e.2)) then
 (qdz n (List.take e.1.2 (List.drop e.1.1 e.2))).bind fun ab =>
 none
 else none) (fun y =>
 (qdz n y).bind fun z =>
 some (z, (g, 0))) x
 else none) r
def qam_B0 (n : Nat) (d e : DA) (f a : Int) : Option ((DA × DA × Int × Int) ⊕ ((Bool × EAB × Int × Int) ⊕ Unit)) :=
 bif (decide (a < f)) then
 (aD e a).bind fun b =>
 (aD d a).bind fun c =>
 (qem n b.1 b.2 c.1 c.2).bind fun g =>
 bif (!g) then
 some (Sum.inr (Sum.inl (false, (b, c))))
 else
 some (Sum.inl (d, (e, (f, (aI .i64 a 1)))))
 else
 some (Sum.inr (Sum.inr ()))
def qam_W0 (n : Nat) (s : DA × DA × Int × Int) : Option ((Bool × EAB × Int × Int) ⊕ Unit) := aL (fun s => qam_B0 n s.1 s.2.1 s.2.2.1 s.2.2.2) n s
def qam (n : Nat) (a b : DA) : Option Bool :=
 bif ((aA a) != (aA b)) then
 some false
 else
 (qam_W0 n (b, (a, ((aA a), 0)))).bind fun c =>
 Sum.rec (fun d =>
 some d.1) (fun e =>
 some true) c
def qbv (n : Nat) (a b : DA) : Option Bool :=
 (qam n a b).bind fun c =>
 some c
def qdd (n : Nat) (c : Int) (a : DN) (b : DA) : Option (Bool × DN × DA) :=
 (aD a c).bind fun d =>
 bif (!d.1) then
 some (true, (a, b))
 else
 (aD a c).bind fun e =>
 (qbv n b e.2).bind fun f =>
 some ((!f), (a, b))
def qay_B0 (n : Nat) (c : DC) (d a : Int) (e : DN) (f : DA) : Option ((EAZ × DN × DA) ⊕ ((Int × DN × DA) ⊕ (DN × DA))) :=
 bif (decide (a < d)) then
 (aD c a).bind fun g =>
 (qdd n g e f).bind fun b =>
 bif b.1 then
 some (Sum.inr (Sum.inl (a, b.2)))
 else
 some (Sum.inl ((c, (d, (aI .i64 a 1))), b.2))
 else
 some (Sum.inr (Sum.inr (e, f)))
def qay_W0 (n : Nat) (s : EAZ × DN × DA) : Option ((Int × DN × DA) ⊕ (DN × DA)) := aL (fun s => qay_B0 n s.1.1 s.1.2.1 s.1.2.2 s.2.1 s.2.2) n s
def qay (n : Nat) (a : DC) (b : DN) (c : DA) : Option (Int × DN × DA) :=
 (qay_W0 n ((a, ((aA a), 0)), (b, c))).bind fun d =>
 Sum.rec (fun e =>
 some e) (fun f =>
 some ((-1), f)) d
def qag (n : Nat) (b : DC) (c : DN) (d : DA) : Option (Bool × DN × DA) :=
 (qay n b c d).bind fun a =>
 some ((decide (a.1 ≥ 0)), a.2)
def qee (n : Nat) (e : DI) (f : DJ) (g : DK) (h : DC) (i : DD) (j c : Int) (d : DN) : Option Bool :=
 (aD d c).bind fun a =>
 bif (decide ((aA a.2) > 8)) then
 some false
 else
 bif (!a.1) then
 some true
 else
 (qei n e f g h i j c a.2).bind fun b =>
 bif (b.2.2 == 0) then
 (qag n b.2.1 d b.1).bind fun k =>
 some (!k.1)
 else
 some false
def qbq_B2 (n : Nat) (g : Int) (h : DN) (i : DO) (j k l f : Int) (a : DI) (b : DJ) (c : DK) (d : DC) (e : DD) : Option (((Int × DN × DO × Int × Int × Int × Int) × DI × DJ × DK × DC × DD) ⊕ (EAJ ⊕ ((DO × Int × Int) × DI × DJ × DK × DC × DD))) :=
 bif (decide (f < l)) then
 (qee n a b c d e g f h).bind fun m =>
 bif (!m) then
 some (Sum.inr (Sum.inl (false, (a, (b, (c, (d, e)))))))
 else
 some (Sum.inl ((g, (h, (i, (j, (k, (l, (aI .i64 f 1))))))), (a, (b, (c, (d, e))))))
 else
 some (Sum.inr (Sum.inr ((i, (j, k)), (a, (b, (c, (d, e)))))))
def qbq_W2 (n : Nat) (s : (Int × DN × DO × Int × Int × Int × Int) × DI × DJ × DK × DC × DD) : Option (EAJ ⊕ ((DO × Int × Int) × DI × DJ × DK × DC × DD)) := aL (fun s => qbq_B2 n s.1.1 s.1.2.1 s.1.2.2.1 s.1.2.2.2.1 s.1.2.2.2.2.1 s.1.2.2.2.2.2.1 s.1.2.2.2.2.2.2 s.2.1 s.2.2.1 s.2.2.2.1 s.2.2.2.2.1 s.2.2.2.2.2) n s
def qbq_B0 (n : Nat) (i : DO) (j b : Int) (c : DI) (a : DJ) (d : DK) (e : DC) (f : DD) : Option (((DO × Int × Int) × DI × DJ × DK × DC × DD) ⊕ (EAJ ⊕ EAA)) :=
 bif (decide (b < j)) then
 (aD i b).bind fun g =>
 (aD a b).bind fun k =>
 bif ((aA g) != (aA k.2.2.2.2)) then
 some (Sum.inr (Sum.inl (false, (c, (a, (d, (e, f)))))))
 else
 (aD g 0).bind fun l =>
 bif (!l.1) then
 some (Sum.inr (Sum.inl (false, (c, (a, (d, (e, f)))))))
 else
 (aD g 0).bind fun m =>
 bif (decide ((aA m.2) > 0)) then
 some (Sum.inr (Sum.inl (false, (c, (a, (d, (e, f)))))))
 else
 (qbq_W2 n ((b, (g, (i, (j, (b, ((aA g), 0)))))), (c, (a, (d, (e, f)))))).bind fun o =>
 Sum.rec (fun p =>
 some (Sum.inr (Sum.inl p))) (fun h =>
 some (Sum.inl ((h.1.1, (h.1.2.1, (aI .i64 h.1.2.2 1))), h.2))) o
 else
 some (Sum.inr (Sum.inr (c, (a, (d, (e, f))))))
def qbq_W0 (n : Nat) (s : (DO × Int × Int) × DI × DJ × DK × DC × DD) : Option (EAJ ⊕ EAA) := aL (fun s => qbq_B0 n s.1.1 s.1.2.1 s.1.2.2 s.2.1 s.2.2.1 s.2.2.2.1 s.2.2.2.2.1 s.2.2.2.2.2) n s
def qbq (n : Nat) (c : DI) (a : DJ) (d : DK) (e : DC) (f : DD) (b : DO) : Option Bool :=
 (qef n c a d e f).bind fun g =>
 bif (!g) then
 some false
 else
 bif ((aA b) != (aA a)) then
 some false
 else
 (qbq_W0 n ((b, ((aA b), 0)), (c, (a, (d, (e, f)))))).bind fun h =>
 Sum.rec (fun i =>
 some i.1) (fun j =>
 some true) h
def qn (n : Nat) (a b : Int) (c : Bool) : Option Bool :=
 bif (decide (a < 0)) then
 some true
 else
 some (decide (a ≥ 4))
def qw_B0 (n : Nat) (c : DF) (d a : Int) : Option ((DF × Int × Int) ⊕ EAQ) :=
 bif (decide (a < d)) then
 (aD c a).bind fun b =>
 (qn n b.1 b.2.1 b.2.2).bind fun e =>
 bif e then
 some (Sum.inr (Sum.inl a))
 else
 some (Sum.inl (c, (d, (aI .i64 a 1))))
 else
 some (Sum.inr (Sum.inr ()))
def qw_W0 (n : Nat) (s : DF × Int × Int) : Option EAQ := aL (fun s => qw_B0 n s.1 s.2.1 s.2.2) n s
def qw (n : Nat) (a : DF) : Option Int :=
 (qw_W0 n (a, ((aA a), 0))).bind fun b =>
 Sum.rec (fun c =>
 some c) (fun d =>
 some (-1)) b
def qh (n : Nat) (a : DF) : Option Bool :=
 (qw n a).bind fun b =>
 some (decide (b ≥ 0))
def qah (n : Nat) (c b d : Int) (a : DI × DJ × DK × DC × DD × DO × DM × DM × DF × Int × Int × Int × Int) : Option EAD :=
 bif (b == 1) then
 some (true, a)
 else
 bif (b == 8) then
 some (true, a)
 else
 bif (b == 5) then
 bif (decide (c < (aY .u64 (aA a.2.2.2.2.2.2.2.2.1)))) then
 (aD a.2.2.2.2.2.2.2.2.1 c).bind fun f =>
 some ((f.1 == d), a)
 else
 some (false, a)
 else
 bif (c == 0) then
 some (true, a)
 else
 bif (b == 6) then
 some (false, a)
 else
 bif (decide (c > (aY .u64 (aA a.2.2.2.2.2.2.2.1)))) then
 some (false, a)
 else
 (aD a.2.2.2.2.2.2.2.1 (a8 .u64 c 1)).bind fun e =>
 bif (b == 7) then
 some (true, a)
 else
 some (((b == e.1) && (d == e.2.1)), a)
def qv_B0 (n : Nat) (d : DA) (e : DC) (f a : Int) (g : DI × DJ × DK × DC × DD × DO × DM × DM × DF × Int × Int × Int × Int) : Option (((DA × DC × Int × Int) × DI × DJ × DK × DC × DD × DO × DM × DM × DF × Int × Int × Int × Int) ⊕ ((Bool × EAE × Int × Int) ⊕ EAE)) :=
 bif (decide (a < f)) then
 (aD e a).bind fun h =>
 (aD d a).bind fun b =>
 (qah n h b.1 b.2 g).bind fun c =>
 bif (!c.1) then
 some (Sum.inr (Sum.inl (false, (c.2, b))))
 else
 some (Sum.inl ((d, (e, (f, (aI .i64 a 1)))), c.2))
 else
 some (Sum.inr (Sum.inr g))
def qv_W0 (n : Nat) (s : (DA × DC × Int × Int) × DI × DJ × DK × DC × DD × DO × DM × DM × DF × Int × Int × Int × Int) : Option ((Bool × EAE × Int × Int) ⊕ EAE) := aL (fun s => qv_B0 n s.1.1 s.1.2.1 s.1.2.2.1 s.1.2.2.2 s.2) n s
def qv (n : Nat) (a : DC) (b : DA) (c : DI × DJ × DK × DC × DD × DO × DM × DM × DF × Int × Int × Int × Int) : Option EAD :=
 bif ((aA a) != (aA b)) then
 some (false, c)
 else
 (qv_W0 n ((b, (a, ((aA a), 0))), c)).bind fun e =>
 Sum.rec (fun d =>
 some (d.1, d.2.1)) (fun f =>
 some (true, f)) e
def qz (n : Nat) (a : DC) (b : DA) (c : DI × DJ × DK × DC × DD × DO × DM × DM × DF × Int × Int × Int × Int) : Option EAD :=
 (qv n a b c).bind fun d =>
 some d
def qai (n : Nat) (c b : Int) (d e : DC) (a : DI × DJ × DK × DC × DD × DO × DM × DM × DF × Int × Int × Int × Int) : Option EAD :=
 bif (c == 2) then
 bif (b == 0) then
 bif ((aA d) == 0) then
 some ((decide ((aA e) ≤ 64)), a)
 else
 some (false, a)
 else
 some (false, a)
 else
 bif (c == 3) then
 bif (b == 0) then
 bif ((aA e) == 0) then
 some ((decide ((aA d) ≤ 64)), a)
 else
 some (false, a)
 else
 some (false, a)
 else
 bif (c == 4) then
 bif (decide (b ≥ 0)) then
 bif (decide (b < (aA a.1))) then
 bif ((aA e) == 0) then
 (aD a.1 b).bind fun f =>
 (qz n d f a).bind fun g =>
 some g
 else
 some (false, a)
 else
 some (false, a)
 else
 some (false, a)
 else
 some (false, a)
def qj (n : Nat) (b c : Int) (d e : DC) (f : DI × DJ × DK × DC × DD × DO × DM × DM × DF × Int × Int × Int × Int) : Option EAD :=
 (qai n b c d e f).bind fun a =>
 some ((!a.1), a.2)
def qaz_B0 (n : Nat) (d : DM) (e a : Int) (f : DI × DJ × DK × DC × DD × DO × DM × DM × DF × Int × Int × Int × Int) : Option ((EAI × DI × DJ × DK × DC × DD × DO × DM × DM × DF × Int × Int × Int × Int) ⊕ (EAO ⊕ EAE)) :=
 bif (decide (a < e)) then
 (aD d a).bind fun b =>
 (qj n b.1 b.2.1 b.2.2.1 b.2.2.2 f).bind fun c =>
 bif c.1 then
 some (Sum.inr (Sum.inl (a, c.2)))
 else
 some (Sum.inl ((d, (e, (aI .i64 a 1))), c.2))
 else
 some (Sum.inr (Sum.inr f))
def qaz_W0 (n : Nat) (s : EAI × DI × DJ × DK × DC × DD × DO × DM × DM × DF × Int × Int × Int × Int) : Option (EAO ⊕ EAE) := aL (fun s => qaz_B0 n s.1.1 s.1.2.1 s.1.2.2 s.2) n s
def qaz (n : Nat) (a : DM) (b : DI × DJ × DK × DC × DD × DO × DM × DM × DF × Int × Int × Int × Int) : Option EAO :=
 (qaz_W0 n ((a, ((aA a), 0)), b)).bind fun c =>
 Sum.rec (fun d =>
 some d) (fun e =>
 some ((-1), e)) c
def qaf (n : Nat) (b : DM) (c : DI × DJ × DK × DC × DD × DO × DM × DM × DF × Int × Int × Int × Int) : Option EAD :=
 (qaz n b c).bind fun a =>
 some ((decide (a.1 ≥ 0)), a.2)
def qt (n : Nat) (a : DI × DJ × DK × DC × DD × DO × DM × DM × DF × Int × Int × Int × Int) : Option EAD :=
 bif (decide (a.2.2.2.2.2.2.2.2.2.1 ≥ 0)) then
 bif (decide (a.2.2.2.2.2.2.2.2.2.1 ≤ 65536)) then
 bif (decide (a.2.2.2.2.2.2.2.2.2.2.1 ≥ 0)) then
 bif (decide (a.2.2.2.2.2.2.2.2.2.2.1 ≤ a.2.2.2.2.2.2.2.2.2.1)) then
 bif (decide (a.2.2.2.2.2.2.2.2.2.2.2.1 ≥ 0)) then
 bif (decide (a.2.2.2.2.2.2.2.2.2.2.2.1 ≤ 7)) then
 bif (decide ((aA a.2.2.2.2.2.2.2.1) ≤ 4096)) then
 bif (decide ((aA a.2.2.2.2.2.2.2.2.1) ≤ 16)) then
 (qh n a.2.2.2.2.2.2.2.2.1).bind fun c =>
 bif (!c) then
 (qaf n a.2.2.2.2.2.2.2.1 a).bind fun b =>
 some ((!b.1), b.2)
 else
 some (false, a)
 else
 some (false, a)
 else
 some (false, a)
 else
 some (false, a)
 else
 some (false, a)
 else
 some (false, a)
 else
 some (false, a)
 else
 some (false, a)
 else
 some (false, a)
def qas (n : Nat) (c d : Int) (e m : DC) (a : DI × DJ × DK × DC × DD × DO × DM × DM × DF × Int × Int × Int × Int) : Option EAD :=
 bif (decide (c < 0)) then
 some (false, a)
 else
 bif (decide (c ≥ (aA a.2.1))) then
 some (false, a)
 else
 bif (decide (d < 0)) then
 some (false, a)
 else
 (aD a.2.1 c).bind fun g =>
 bif (decide (d ≥ (aA g.2.2.2.2))) then
 some (false, a)
 else
 (aD a.2.2.2.2.2.1 c).bind fun h =>
 (aD h d).bind fun i =>
 bif (!i.1) then
 some (false, a)
 else
 (aD a.2.1 c).bind fun f =>
 (qby n (f.1 :: (f.2.2.2.1 :: ([] : List (List EAB))))).bind fun j =>
 Sum.rec (fun b =>
 bif (Nat.ble (b.1.1 + b.1.2) (List.length b.2)) then
 (qz n e (List.take b.1.2 (List.drop b.1.1 b.2)) a).bind fun o =>
 none
 else none) (fun k =>
 (qz n e k a).bind fun l =>
 some l) j
def qp (n : Nat) (e c : Int) (l h : DC) (f : Int) (a : DI × DJ × DK × DC × DD × DO × DM × DM × DF × Int × Int × Int × Int) : Option EAD :=
 bif (c == 0) then
 some (false, a)
 else
 (aD a.2.1 e).bind fun i =>
 (aD i.2.2.2.2 (a8 .i64 c 1)).bind fun g =>
 (aD a.2.2.2.2.2.1 e).bind fun j =>
 (aD j (a8 .i64 c 1)).bind fun b =>
 bif (g.1 != 25) then
 some (false, a)
 else
 bif (g.2.1 != f) then
 some (false, a)
 else
 bif (!b.1) then
 some (false, a)
 else
 (aD a.2.1 f).bind fun d =>
 bif ((decide (0 ≤ (a8 .i64 (aA b.2) (aA d.1)))) && (decide ((a8 .i64 (aA b.2) (aA d.1)) ≤ (((List.length b.2) : Nat) : Int)))) then
 (qz n h (List.take (Int.toNat (a8 .i64 (aA b.2) (aA d.1))) b.2) a).bind fun k =>
 some k
 else none
def qab (n : Nat) (c d : Int) (e f : DC) (b h : Int) (i j : DC) (a : DI × DJ × DK × DC × DD × DO × DM × DM × DF × Int × Int × Int × Int) : Option EAD :=
 bif (decide (b ≥ 0)) then
 bif (decide (b < (aA a.2.1))) then
 (qp n c d e f b a).bind fun g =>
 some g
 else
 some (false, a)
 else
 some (false, a)
def qo_B0 (n : Nat) (d g : DM) (h b : Int) (k : DI × DJ × DK × DC × DD × DO × DM × DM × DF × Int × Int × Int × Int) : Option ((EBC × DI × DJ × DK × DC × DD × DO × DM × DM × DF × Int × Int × Int × Int) ⊕ ((Bool × EAE × Int × Int × DC × DC) ⊕ EAE)) :=
 bif (decide (b < h)) then
 (aD g b).bind fun a =>
 (qas n a.1 a.2.1 a.2.2.1 a.2.2.2 k).bind fun c =>
 bif (!c.1) then
 some (Sum.inr (Sum.inl (false, (c.2, a))))
 else
 bif (b == 0) then
 bif (a.1 != 0) then
 some (Sum.inr (Sum.inl (false, (c.2, a))))
 else
 bif (b == (a8 .i64 (aA d) 1)) then
 (aD c.2.2.2.2.2.2.1 a.1).bind fun o =>
 (aD o a.2.1).bind fun p =>
 (qz n a.2.2.2 p.2 c.2).bind fun l =>
 some (Sum.inr (Sum.inl (l.1, (l.2, a))))
 else
 (aD d (aI .i64 b 1)).bind fun e =>
 (qab n a.1 a.2.1 a.2.2.1 a.2.2.2 e.1 e.2.1 e.2.2.1 e.2.2.2 c.2).bind fun i =>
 bif (!i.1) then
 some (Sum.inr (Sum.inl (false, (i.2, a))))
 else
 some (Sum.inl ((d, (g, (h, (aI .i64 b 1)))), i.2))
 else
 bif (b == (a8 .i64 (aA d) 1)) then
 (aD c.2.2.2.2.2.2.1 a.1).bind fun q =>
 (aD q a.2.1).bind fun r =>
 (qz n a.2.2.2 r.2 c.2).bind fun m =>
 some (Sum.inr (Sum.inl (m.1, (m.2, a))))
 else
 (aD d (aI .i64 b 1)).bind fun f =>
 (qab n a.1 a.2.1 a.2.2.1 a.2.2.2 f.1 f.2.1 f.2.2.1 f.2.2.2 c.2).bind fun j =>
 bif (!j.1) then
 some (Sum.inr (Sum.inl (false, (j.2, a))))
 else
 some (Sum.inl ((d, (g, (h, (aI .i64 b 1)))), j.2))
 else
 some (Sum.inr (Sum.inr k))
def qo_W0 (n : Nat) (s : EBC × DI × DJ × DK × DC × DD × DO × DM × DM × DF × Int × Int × Int × Int) : Option ((Bool × EAE × Int × Int × DC × DC) ⊕ EAE) := aL (fun s => qo_B0 n s.1.1 s.1.2.1 s.1.2.2.1 s.1.2.2.2 s.2) n s
def qo (n : Nat) (a : DI × DJ × DK × DC × DD × DO × DM × DM × DF × Int × Int × Int × Int) : Option EAD :=
 (qo_W0 n ((a.2.2.2.2.2.2.1, (a.2.2.2.2.2.2.1, ((aA a.2.2.2.2.2.2.1), 0))), a)).bind fun c =>
 Sum.rec (fun b =>
 some (b.1, b.2.1)) (fun d =>
 some (false, d)) c
def qdn (n : Nat) (c : DI) (d : DJ) (e : DK) (f : DC) (g : DD) (h : DO) (a : DM × DM × DF × Int × Int × Int × Int) : Option Bool :=
 (qt n (c, (d, (e, (f, (g, (h, a))))))).bind fun b =>
 bif (!b.1) then
 some false
 else
 bif (decide ((aA a.1) > 8)) then
 some false
 else
 bif (a.2.2.2.2.2.1 != 0) then
 bif ((aI .i64 (aA a.1) (aA a.2.1)) == 0) then
 bif (a.2.2.2.2.2.2 == 0) then
 some true
 else
 some (a.2.2.2.2.2.1 == 1)
 else
 some false
 else
 bif (a.2.2.2.2.2.2 == 0) then
 (qo n b.2).bind fun i =>
 some i.1
 else
 some false
def stateTyped (n : Nat) (a : DI) (b : DJ) (c : DK) (d : DC) (e : DD) (f : DO) (g : DM × DM × DF × Int × Int × Int × Int) : Option Bool :=
 (qbq n a b c d e f).bind fun h =>
 bif (!h) then
 some false
 else
 (qdn n a b c d e f g).bind fun i =>
 some i
def gG (n : Nat) (b : DI) (c : DJ) (d : DK) (e : DC) (f : DD) (h : Int) : Option Bool :=
 (qbw n b c d e f).bind fun j =>
 bif (!j) then
 (qav n).bind fun k =>
 some k
 else
 (qca n b c d e f h).bind fun a =>
 (qdk n b c d e f).bind fun l =>
 bif (!l) then
 (qav n).bind fun m =>
 bif m then
 bif (a.2 == 1) then
 (qbe n a.1.1 ([] : List EAC) ([] : List EAM) a.1.2.1 a.1.2.2.1 a.1.2.2.2.1 a.1.2.2.2.2 ([] : List EAC) ([] : List EAC) ([] : List EAM) 0 0 0 0).bind fun o =>
 some o
 else
 some false
 else
 some false
 else
 bif (decide (h < 0)) then
 (qav n).bind fun p =>
 bif p then
 bif (a.2 == 1) then
 (qbe n a.1.1 ([] : List EAC) ([] : List EAM) a.1.2.1 a.1.2.2.1 a.1.2.2.2.1 a.1.2.2.2.2 ([] : List EAC) ([] : List EAC) ([] : List EAM) 0 0 0 0).bind fun q =>
 some q
 else
 some false
 else
 some false
 else
 bif (decide (h > 65536)) then
 (qav n).bind fun r =>
 bif r then
 bif (a.2 == 1) then
 (qbe n a.1.1 ([] : List EAC) ([] : List EAM) a.1.2.1 a.1.2.2.1 a.1.2.2.2.1 a.1.2.2.2.2 ([] : List EAC) ([] : List EAC) ([] : List EAM) 0 0 0 0).bind fun s =>
 some s
 else
 some false
 else
 some false
 else
 (qdm n b c d e f).bind fun i =>
 (qav n).bind fun t =>
 bif t then
 bif (a.2 == 0) then
 (qcm n b c d e f h).bind fun g =>
 (qbe n a.1.1 ([] : List EAC) ([] : List EAM) a.1.2.1 a.1.2.2.1 a.1.2.2.2.1 a.1.2.2.2.2 g.1 ([] : List EAC) ([] : List EAM) g.2.1 g.2.2.1 g.2.2.2.1 g.2.2.2.2).bind fun u =>
 bif u then
 bif (!i.2) then
 some true
 else
 (stateTyped n b c d e f i.1 (a.1.1, (([] : List EAC), (([] : List EAM), a.1.2)))).bind fun v =>
 some v
 else
 some false
 else
 some false
 else
 some false
def qci_B0 (n : Nat) (c b : Int) (d a : DM) (e : DF) (f g h i : Int) : Option ((EAB × DM × DM × DF × Int × Int × Int × Int) ⊕ EAP) :=
 bif (decide (b < (aA a))) then
 (aD a b).bind fun j =>
 (aD a b).bind fun k =>
 some (Sum.inl (((aI .i64 (aI .i64 c (aA j.2.2.1)) (aA k.2.2.2)), (aI .i64 b 1)), (d, (a, (e, (f, (g, (h, i))))))))
 else
 some (Sum.inr (c, (d, (a, (e, (f, (g, (h, i))))))))
def qci_W0 (n : Nat) (s : EAB × DM × DM × DF × Int × Int × Int × Int) : Option EAP := aL (fun s => qci_B0 n s.1.1 s.1.2 s.2.1 s.2.2.1 s.2.2.2.1 s.2.2.2.2.1 s.2.2.2.2.2.1 s.2.2.2.2.2.2.1 s.2.2.2.2.2.2.2) n s
def qci_B2 (n : Nat) (c b : Int) (a d : DM) (e : DF) (f g h i : Int) : Option ((EAB × DM × DM × DF × Int × Int × Int × Int) ⊕ EAP) :=
 bif (decide (b < (aA a))) then
 (aD a b).bind fun j =>
 (aD a b).bind fun k =>
 some (Sum.inl (((aI .i64 (aI .i64 c (aA j.2.2.1)) (aA k.2.2.2)), (aI .i64 b 1)), (a, (d, (e, (f, (g, (h, i))))))))
 else
 some (Sum.inr (c, (a, (d, (e, (f, (g, (h, i))))))))
def qci_W2 (n : Nat) (s : EAB × DM × DM × DF × Int × Int × Int × Int) : Option EAP := aL (fun s => qci_B2 n s.1.1 s.1.2 s.2.1 s.2.2.1 s.2.2.2.1 s.2.2.2.2.1 s.2.2.2.2.2.1 s.2.2.2.2.2.2.1 s.2.2.2.2.2.2.2) n s
def qci (n : Nat) (a b : DM) (c : DF) (e f g h : Int) : Option Bool :=
 bif (decide ((aI .i64 (aI .i64 (aA b) (aA c)) (aA a)) > 300)) then
 some false
 else
 (qci_W0 n (((aI .i64 (aI .i64 (aA b) (aA c)) (aA a)), 0), (a, (b, (c, (e, (f, (g, h)))))))).bind fun d =>
 (qci_W2 n ((d.1, 0), d.2)).bind fun i =>
 some (decide (i.1 < 3000))
def qbr_B0 (n : Nat) (b c : DA) (a : Int) : Option ((DA × DA × Int) ⊕ EAN) :=
 bif (decide (a < (aA b))) then
 (aD b a).bind fun d =>
 (aD c a).bind fun e =>
 (qdw n d.1 d.2 e.1 e.2).bind fun f =>
 bif (!f) then
 some (Sum.inr (Sum.inl false))
 else
 some (Sum.inl (b, (c, (aI .i64 a 1))))
 else
 some (Sum.inr (Sum.inr ()))
def qbr_W0 (n : Nat) (s : DA × DA × Int) : Option EAN := aL (fun s => qbr_B0 n s.1 s.2.1 s.2.2) n s
def qbr (n : Nat) (a b : DA) : Option Bool :=
 bif ((aA a) != (aA b)) then
 some false
 else
 (qbr_W0 n (a, (b, 0))).bind fun c =>
 Sum.rec (fun d =>
 some d) (fun e =>
 some true) c
def qcc_B4 (n : Nat) (i : DO) (j : Int) (a : DN) (k : Int) (l : DA) (b : DC) (c : Int) (d : DI) (e : DJ) (f : DK) (g : DC) (h : DD) : Option (((DO × Int × DN × Int × DA × DC × Int) × DI × DJ × DK × DC × DD) ⊕ (EAJ ⊕ EBP)) :=
 bif (decide (c < (aA b))) then
 (aD b c).bind fun m =>
 (aD a m).bind fun o =>
 bif (!o.1) then
 some (Sum.inr (Sum.inl (false, (d, (e, (f, (g, h)))))))
 else
 (aD b c).bind fun p =>
 (aD a p).bind fun q =>
 (qbr n l q.2).bind fun r =>
 bif (!r) then
 some (Sum.inr (Sum.inl (false, (d, (e, (f, (g, h)))))))
 else
 some (Sum.inl ((i, (j, (a, (k, (l, (b, (aI .i64 c 1))))))), (d, (e, (f, (g, h))))))
 else
 some (Sum.inr (Sum.inr ((i, (j, (a, k))), (d, (e, (f, (g, h)))))))
def qcc_W4 (n : Nat) (s : (DO × Int × DN × Int × DA × DC × Int) × DI × DJ × DK × DC × DD) : Option (EAJ ⊕ EBP) := aL (fun s => qcc_B4 n s.1.1 s.1.2.1 s.1.2.2.1 s.1.2.2.2.1 s.1.2.2.2.2.1 s.1.2.2.2.2.2.1 s.1.2.2.2.2.2.2 s.2.1 s.2.2.1 s.2.2.2.1 s.2.2.2.2.1 s.2.2.2.2.2) n s
def qcc_B2 (n : Nat) (j : DO) (i : Int) (b : DN) (a : Int) (c : DI) (d : DJ) (e : DK) (f : DC) (g : DD) : Option (EBP ⊕ (EAJ ⊕ EBQ)) :=
 bif (decide (a < (aA b))) then
 (aD b a).bind fun l =>
 bif (decide ((aA l.2) > 8)) then
 some (Sum.inr (Sum.inl (false, (c, (d, (e, (f, g)))))))
 else
 (aD b a).bind fun m =>
 bif (!m.1) then
 some (Sum.inl ((j, (i, (b, (aI .i64 a 1)))), (c, (d, (e, (f, g))))))
 else
 (aD b a).bind fun o =>
 (qct n c d e f g i a o.2).bind fun k =>
 bif (k.2.2 != 0) then
 some (Sum.inr (Sum.inl (false, (c, (d, (e, (f, g)))))))
 else
 (qcc_W4 n ((j, (i, (b, (a, (k.1, (k.2.1, 0)))))), (c, (d, (e, (f, g)))))).bind fun p =>
 Sum.rec (fun q =>
 some (Sum.inr (Sum.inl q))) (fun h =>
 some (Sum.inl ((h.1.1, (h.1.2.1, (h.1.2.2.1, (aI .i64 h.1.2.2.2 1)))), h.2))) p
 else
 some (Sum.inr (Sum.inr ((j, i), (c, (d, (e, (f, g)))))))
def qcc_W2 (n : Nat) (s : EBD × DI × DJ × DK × DC × DD) : Option (EAJ ⊕ EBQ) := aL (fun s => qcc_B2 n s.1.1 s.1.2.1 s.1.2.2.1 s.1.2.2.2 s.2.1 s.2.2.1 s.2.2.2.1 s.2.2.2.2.1 s.2.2.2.2.2) n s
def qcc_B0 (n : Nat) (h : DO) (f : Int) (b : DI) (a : DJ) (c : DK) (d : DC) (e : DD) : Option (EBQ ⊕ (EAJ ⊕ EAA)) :=
 bif (decide (f < (aA h))) then
 (aD h f).bind fun g =>
 (aD a f).bind fun j =>
 bif ((aA g) != (aA j.2.2.2.2)) then
 some (Sum.inr (Sum.inl (false, (b, (a, (c, (d, e)))))))
 else
 (aD g 0).bind fun k =>
 bif (!k.1) then
 some (Sum.inr (Sum.inl (false, (b, (a, (c, (d, e)))))))
 else
 (aD g 0).bind fun l =>
 bif (decide ((aA l.2) > 0)) then
 some (Sum.inr (Sum.inl (false, (b, (a, (c, (d, e)))))))
 else
 (qcc_W2 n ((h, (f, (g, 0))), (b, (a, (c, (d, e)))))).bind fun m =>
 Sum.rec (fun o =>
 some (Sum.inr (Sum.inl o))) (fun i =>
 some (Sum.inl ((i.1.1, (aI .i64 i.1.2 1)), i.2))) m
 else
 some (Sum.inr (Sum.inr (b, (a, (c, (d, e))))))
def qcc_W0 (n : Nat) (s : EAY × DI × DJ × DK × DC × DD) : Option (EAJ ⊕ EAA) := aL (fun s => qcc_B0 n s.1.1 s.1.2 s.2.1 s.2.2.1 s.2.2.2.1 s.2.2.2.2.1 s.2.2.2.2.2) n s
def qcc (n : Nat) (b : DI) (a : DJ) (c : DK) (d : DC) (e : DD) (f : DO) : Option Bool :=
 (qdk n b a c d e).bind fun g =>
 bif (!g) then
 some false
 else
 bif ((aA f) != (aA a)) then
 some false
 else
 (qcc_W0 n ((f, 0), (b, (a, (c, (d, e)))))).bind fun h =>
 Sum.rec (fun i =>
 some i.1) (fun j =>
 some true) h
def qcf_B0 (n : Nat) (h : DO) (b : Int) (c : DI) (d : DJ) (e : DK) (f : DC) (g : DD) (a : DM × DM × DF × Int × Int × Int × Int) : Option (EBL ⊕ (EBG ⊕ EBI)) :=
 bif (decide (b < (aA a.2.2.1))) then
 (aD a.2.2.1 b).bind fun i =>
 bif (decide (i.1 < 0)) then
 some (Sum.inr (Sum.inl (false, ((c, (d, (e, (f, g)))), a))))
 else
 (aD a.2.2.1 b).bind fun j =>
 bif (decide (j.1 > 3)) then
 some (Sum.inr (Sum.inl (false, ((c, (d, (e, (f, g)))), a))))
 else
 some (Sum.inl ((h, (aI .i64 b 1)), ((c, (d, (e, (f, g)))), a)))
 else
 some (Sum.inr (Sum.inr (h, ((c, (d, (e, (f, g)))), a))))
def qcf_W0 (n : Nat) (s : EAY × EAA × DM × DM × DF × Int × Int × Int × Int) : Option (EBG ⊕ EBI) := aL (fun s => qcf_B0 n s.1.1 s.1.2 s.2.1.1 s.2.1.2.1 s.2.1.2.2.1 s.2.1.2.2.2.1 s.2.1.2.2.2.2 s.2.2) n s
def qds (n : Nat) (c : DM × DM × DF × Int × Int × Int × Int) (b a d : Int) : Option Bool :=
 bif (a == 1) then
 some true
 else
 bif (a == 8) then
 some true
 else
 bif (a == 5) then
 bif (decide (b < (aY .u64 (aA c.2.2.1)))) then
 (aD c.2.2.1 b).bind fun f =>
 some (f.1 == d)
 else
 some false
 else
 bif (b == 0) then
 some true
 else
 bif (a == 6) then
 some false
 else
 bif (decide (b > (aY .u64 (aA c.2.1)))) then
 some false
 else
 (aD c.2.1 (a8 .u64 b 1)).bind fun e =>
 bif (a == 7) then
 some true
 else
 bif (a == e.1) then
 some (d == e.2.1)
 else
 some false
def qec_B0 (n : Nat) (c : DC) (d : DA) (a : Int) (b : DM × DM × DF × Int × Int × Int × Int) : Option (((DC × DA × Int) × DM × DM × DF × Int × Int × Int × Int) ⊕ ((Bool × DM × DM × DF × Int × Int × Int × Int) ⊕ EAF)) :=
 bif (decide (a < (aA c))) then
 (aD c a).bind fun f =>
 (aD d a).bind fun e =>
 (qds n b f e.1 e.2).bind fun g =>
 bif (!g) then
 some (Sum.inr (Sum.inl (false, b)))
 else
 some (Sum.inl ((c, (d, (aI .i64 a 1))), b))
 else
 some (Sum.inr (Sum.inr b))
def qec_W0 (n : Nat) (s : (DC × DA × Int) × DM × DM × DF × Int × Int × Int × Int) : Option ((Bool × DM × DM × DF × Int × Int × Int × Int) ⊕ EAF) := aL (fun s => qec_B0 n s.1.1 s.1.2.1 s.1.2.2 s.2) n s
def qec (n : Nat) (c : DM × DM × DF × Int × Int × Int × Int) (a : DC) (b : DA) : Option Bool :=
 bif ((aA a) != (aA b)) then
 some false
 else
 (qec_W0 n ((a, (b, 0)), c)).bind fun d =>
 Sum.rec (fun e =>
 some e.1) (fun f =>
 some true) d
def qcf_B2 (n : Nat) (i : DO) (h : Int) (b : DI) (d : DJ) (e : DK) (f : DC) (g : DD) (c : DM × DM × DF × Int × Int × Int × Int) : Option (EBL ⊕ ((Bool × EAA × EAF × Int × Int × DC × DC) ⊕ EBI)) :=
 bif (decide (h < (aA c.2.1))) then
 (aD c.2.1 h).bind fun a =>
 bif (a.1 == 2) then
 bif (a.2.1 == 0) then
 bif ((aA a.2.2.1) == 0) then
 bif (decide ((aA a.2.2.2) ≤ 64)) then
 some (Sum.inl ((i, (aI .i64 h 1)), ((b, (d, (e, (f, g)))), c)))
 else
 bif (a.1 == 3) then
 bif (a.2.1 == 0) then
 bif ((aA a.2.2.2) == 0) then
 bif (decide ((aA a.2.2.1) ≤ 64)) then
 some (Sum.inl ((i, (aI .i64 h 1)), ((b, (d, (e, (f, g)))), c)))
 else
 bif (a.1 == 4) then
 bif (decide (a.2.1 ≥ 0)) then
 bif (decide (a.2.1 < (aA b))) then
 bif ((aA a.2.2.2) == 0) then
 (aD b a.2.1).bind fun j =>
 (qec n c a.2.2.1 j).bind fun k =>
 bif k then
 some (Sum.inl ((i, (aI .i64 h 1)), ((b, (d, (e, (f, g)))), c)))
 else
 some (Sum.inr (Sum.inl (false, ((b, (d, (e, (f, g)))), (c, a)))))
 else
 some (Sum.inr (Sum.inl (false, ((b, (d, (e, (f, g)))), (c, a)))))
 else
 some (Sum.inr (Sum.inl (false, ((b, (d, (e, (f, g)))), (c, a)))))
 else
 some (Sum.inr (Sum.inl (false, ((b, (d, (e, (f, g)))), (c, a)))))
 else
 some (Sum.inr (Sum.inl (false, ((b, (d, (e, (f, g)))), (c, a)))))
 else
 bif (a.1 == 4) then
 bif (decide (a.2.1 ≥ 0)) then
 bif (decide (a.2.1 < (aA b))) then
 bif ((aA a.2.2.2) == 0) then
 (aD b a.2.1).bind fun l =>
 (qec n c a.2.2.1 l).bind fun m =>
 bif m then
 some (Sum.inl ((i, (aI .i64 h 1)), ((b, (d, (e, (f, g)))), c)))
 else
 some (Sum.inr (Sum.inl (false, ((b, (d, (e, (f, g)))), (c, a)))))
 else
 some (Sum.inr (Sum.inl (false, ((b, (d, (e, (f, g)))), (c, a)))))
 else
 some (Sum.inr (Sum.inl (false, ((b, (d, (e, (f, g)))), (c, a)))))
 else
 some (Sum.inr (Sum.inl (false, ((b, (d, (e, (f, g)))), (c, a)))))
 else
 some (Sum.inr (Sum.inl (false, ((b, (d, (e, (f, g)))), (c, a)))))
 else
 bif (a.1 == 4) then
 bif (decide (a.2.1 ≥ 0)) then
 bif (decide (a.2.1 < (aA b))) then
 bif ((aA a.2.2.2) == 0) then
 (aD b a.2.1).bind fun o =>
 (qec n c a.2.2.1 o).bind fun p =>
 bif p then
 some (Sum.inl ((i, (aI .i64 h 1)), ((b, (d, (e, (f, g)))), c)))
 else
 some (Sum.inr (Sum.inl (false, ((b, (d, (e, (f, g)))), (c, a)))))
 else
 some (Sum.inr (Sum.inl (false, ((b, (d, (e, (f, g)))), (c, a)))))
 else
 some (Sum.inr (Sum.inl (false, ((b, (d, (e, (f, g)))), (c, a)))))
 else
 some (Sum.inr (Sum.inl (false, ((b, (d, (e, (f, g)))), (c, a)))))
 else
 some (Sum.inr (Sum.inl (false, ((b, (d, (e, (f, g)))), (c, a)))))
 else
 bif (a.1 == 4) then
 bif (decide (a.2.1 ≥ 0)) then
 bif (decide (a.2.1 < (aA b))) then
 bif ((aA a.2.2.2) == 0) then
 (aD b a.2.1).bind fun q =>
 (qec n c a.2.2.1 q).bind fun r =>
 bif r then
 some (Sum.inl ((i, (aI .i64 h 1)), ((b, (d, (e, (f, g)))), c)))
 else
 some (Sum.inr (Sum.inl (false, ((b, (d, (e, (f, g)))), (c, a)))))
 else
 some (Sum.inr (Sum.inl (false, ((b, (d, (e, (f, g)))), (c, a)))))
 else
 some (Sum.inr (Sum.inl (false, ((b, (d, (e, (f, g)))), (c, a)))))
 else
 some (Sum.inr (Sum.inl (false, ((b, (d, (e, (f, g)))), (c, a)))))
 else
 some (Sum.inr (Sum.inl (false, ((b, (d, (e, (f, g)))), (c, a)))))
 else
 bif (a.1 == 3) then
 bif (a.2.1 == 0) then
 bif ((aA a.2.2.2) == 0) then
 bif (decide ((aA a.2.2.1) ≤ 64)) then
 some (Sum.inl ((i, (aI .i64 h 1)), ((b, (d, (e, (f, g)))), c)))
 else
 bif (a.1 == 4) then
 bif (decide (a.2.1 ≥ 0)) then
 bif (decide (a.2.1 < (aA b))) then
 bif ((aA a.2.2.2) == 0) then
 (aD b a.2.1).bind fun s =>
 (qec n c a.2.2.1 s).bind fun t =>
 bif t then
 some (Sum.inl ((i, (aI .i64 h 1)), ((b, (d, (e, (f, g)))), c)))
 else
 some (Sum.inr (Sum.inl (false, ((b, (d, (e, (f, g)))), (c, a)))))
 else
 some (Sum.inr (Sum.inl (false, ((b, (d, (e, (f, g)))), (c, a)))))
 else
 some (Sum.inr (Sum.inl (false, ((b, (d, (e, (f, g)))), (c, a)))))
 else
 some (Sum.inr (Sum.inl (false, ((b, (d, (e, (f, g)))), (c, a)))))
 else
 some (Sum.inr (Sum.inl (false, ((b, (d, (e, (f, g)))), (c, a)))))
 else
 bif (a.1 == 4) then
 bif (decide (a.2.1 ≥ 0)) then
 bif (decide (a.2.1 < (aA b))) then
 bif ((aA a.2.2.2) == 0) then
 (aD b a.2.1).bind fun u =>
 (qec n c a.2.2.1 u).bind fun v =>
 bif v then
 some (Sum.inl ((i, (aI .i64 h 1)), ((b, (d, (e, (f, g)))), c)))
 else
 some (Sum.inr (Sum.inl (false, ((b, (d, (e, (f, g)))), (c, a)))))
 else
 some (Sum.inr (Sum.inl (false, ((b, (d, (e, (f, g)))), (c, a)))))
 else
 some (Sum.inr (Sum.inl (false, ((b, (d, (e, (f, g)))), (c, a)))))
 else
 some (Sum.inr (Sum.inl (false, ((b, (d, (e, (f, g)))), (c, a)))))
 else
 some (Sum.inr (Sum.inl (false, ((b, (d, (e, (f, g)))), (c, a)))))
 else
 bif (a.1 == 4) then
 bif (decide (a.2.1 ≥ 0)) then
 bif (decide (a.2.1 < (aA b))) then
 bif ((aA a.2.2.2) == 0) then
 (aD b a.2.1).bind fun w =>
 (qec n c a.2.2.1 w).bind fun x =>
 bif x then
 some (Sum.inl ((i, (aI .i64 h 1)), ((b, (d, (e, (f, g)))), c)))
 else
 some (Sum.inr (Sum.inl (false, ((b, (d, (e, (f, g)))), (c, a)))))
 else
 some (Sum.inr (Sum.inl (false, ((b, (d, (e, (f, g)))), (c, a)))))
 else
 some (Sum.inr (Sum.inl (false, ((b, (d, (e, (f, g)))), (c, a)))))
 else
 some (Sum.inr (Sum.inl (false, ((b, (d, (e, (f, g)))), (c, a)))))
 else
 some (Sum.inr (Sum.inl (false, ((b, (d, (e, (f, g)))), (c, a)))))
 else
 bif (a.1 == 4) then
 bif (decide (a.2.1 ≥ 0)) then
 bif (decide (a.2.1 < (aA b))) then
 bif ((aA a.2.2.2) == 0) then
 (aD b a.2.1).bind fun y =>
 (qec n c a.2.2.1 y).bind fun z =>
 bif z then
 some (Sum.inl ((i, (aI .i64 h 1)), ((b, (d, (e, (f, g)))), c)))
 else
 some (Sum.inr (Sum.inl (false, ((b, (d, (e, (f, g)))), (c, a)))))
 else
 some (Sum.inr (Sum.inl (false, ((b, (d, (e, (f, g)))), (c, a)))))
 else
 some (Sum.inr (Sum.inl (false, ((b, (d, (e, (f, g)))), (c, a)))))
 else
 some (Sum.inr (Sum.inl (false, ((b, (d, (e, (f, g)))), (c, a)))))
 else
 some (Sum.inr (Sum.inl (false, ((b, (d, (e, (f, g)))), (c, a)))))
 else
 bif (a.1 == 3) then
 bif (a.2.1 == 0) then
 bif ((aA a.2.2.2) == 0) then
 bif (decide ((aA a.2.2.1) ≤ 64)) then
 some (Sum.inl ((i, (aI .i64 h 1)), ((b, (d, (e, (f, g)))), c)))
 else
 bif (a.1 == 4) then
 bif (decide (a.2.1 ≥ 0)) then
 bif (decide (a.2.1 < (aA b))) then
 bif ((aA a.2.2.2) == 0) then
 (aD b a.2.1).bind fun aa =>
 (qec n c a.2.2.1 aa).bind fun ab =>
 bif ab then
 some (Sum.inl ((i, (aI .i64 h 1)), ((b, (d, (e, (f, g)))), c)))
 else
 some (Sum.inr (Sum.inl (false, ((b, (d, (e, (f, g)))), (c, a)))))
 else
 some (Sum.inr (Sum.inl (false, ((b, (d, (e, (f, g)))), (c, a)))))
 else
 some (Sum.inr (Sum.inl (false, ((b, (d, (e, (f, g)))), (c, a)))))
 else
 some (Sum.inr (Sum.inl (false, ((b, (d, (e, (f, g)))), (c, a)))))
 else
 some (Sum.inr (Sum.inl (false, ((b, (d, (e, (f, g)))), (c, a)))))
 else
 bif (a.1 == 4) then
 bif (decide (a.2.1 ≥ 0)) then
 bif (decide (a.2.1 < (aA b))) then
 bif ((aA a.2.2.2) == 0) then
 (aD b a.2.1).bind fun ac =>
 (qec n c a.2.2.1 ac).bind fun ad =>
 bif ad then
 some (Sum.inl ((i, (aI .i64 h 1)), ((b, (d, (e, (f, g)))), c)))
 else
 some (Sum.inr (Sum.inl (false, ((b, (d, (e, (f, g)))), (c, a)))))
 else
 some (Sum.inr (Sum.inl (false, ((b, (d, (e, (f, g)))), (c, a)))))
 else
 some (Sum.inr (Sum.inl (false, ((b, (d, (e, (f, g)))), (c, a)))))
 else
 some (Sum.inr (Sum.inl (false, ((b, (d, (e, (f, g)))), (c, a)))))
 else
 some (Sum.inr (Sum.inl (false, ((b, (d, (e, (f, g)))), (c, a)))))
 else
 bif (a.1 == 4) then
 bif (decide (a.2.1 ≥ 0)) then
 bif (decide (a.2.1 < (aA b))) then
 bif ((aA a.2.2.2) == 0) then
 (aD b a.2.1).bind fun ae =>
 (qec n c a.2.2.1 ae).bind fun af =>
 bif af then
 some (Sum.inl ((i, (aI .i64 h 1)), ((b, (d, (e, (f, g)))), c)))
 else
 some (Sum.inr (Sum.inl (false, ((b, (d, (e, (f, g)))), (c, a)))))
 else
 some (Sum.inr (Sum.inl (false, ((b, (d, (e, (f, g)))), (c, a)))))
 else
 some (Sum.inr (Sum.inl (false, ((b, (d, (e, (f, g)))), (c, a)))))
 else
 some (Sum.inr (Sum.inl (false, ((b, (d, (e, (f, g)))), (c, a)))))
 else
 some (Sum.inr (Sum.inl (false, ((b, (d, (e, (f, g)))), (c, a)))))
 else
 bif (a.1 == 4) then
 bif (decide (a.2.1 ≥ 0)) then
 bif (decide (a.2.1 < (aA b))) then
 bif ((aA a.2.2.2) == 0) then
 (aD b a.2.1).bind fun ag =>
 (qec n c a.2.2.1 ag).bind fun ah =>
 bif ah then
 some (Sum.inl ((i, (aI .i64 h 1)), ((b, (d, (e, (f, g)))), c)))
 else
 some (Sum.inr (Sum.inl (false, ((b, (d, (e, (f, g)))), (c, a)))))
 else
 some (Sum.inr (Sum.inl (false, ((b, (d, (e, (f, g)))), (c, a)))))
 else
 some (Sum.inr (Sum.inl (false, ((b, (d, (e, (f, g)))), (c, a)))))
 else
 some (Sum.inr (Sum.inl (false, ((b, (d, (e, (f, g)))), (c, a)))))
 else
 some (Sum.inr (Sum.inl (false, ((b, (d, (e, (f, g)))), (c, a)))))
 else
 bif (a.1 == 3) then
 bif (a.2.1 == 0) then
 bif ((aA a.2.2.2) == 0) then
 bif (decide ((aA a.2.2.1) ≤ 64)) then
 some (Sum.inl ((i, (aI .i64 h 1)), ((b, (d, (e, (f, g)))), c)))
 else
 bif (a.1 == 4) then
 bif (decide (a.2.1 ≥ 0)) then
 bif (decide (a.2.1 < (aA b))) then
 bif ((aA a.2.2.2) == 0) then
 (aD b a.2.1).bind fun ai =>
 (qec n c a.2.2.1 ai).bind fun aj =>
 bif aj then
 some (Sum.inl ((i, (aI .i64 h 1)), ((b, (d, (e, (f, g)))), c)))
 else
 some (Sum.inr (Sum.inl (false, ((b, (d, (e, (f, g)))), (c, a)))))
 else
 some (Sum.inr (Sum.inl (false, ((b, (d, (e, (f, g)))), (c, a)))))
 else
 some (Sum.inr (Sum.inl (false, ((b, (d, (e, (f, g)))), (c, a)))))
 else
 some (Sum.inr (Sum.inl (false, ((b, (d, (e, (f, g)))), (c, a)))))
 else
 some (Sum.inr (Sum.inl (false, ((b, (d, (e, (f, g)))), (c, a)))))
 else
 bif (a.1 == 4) then
 bif (decide (a.2.1 ≥ 0)) then
 bif (decide (a.2.1 < (aA b))) then
 bif ((aA a.2.2.2) == 0) then
 (aD b a.2.1).bind fun ak =>
 (qec n c a.2.2.1 ak).bind fun al =>
 bif al then
 some (Sum.inl ((i, (aI .i64 h 1)), ((b, (d, (e, (f, g)))), c)))
 else
 some (Sum.inr (Sum.inl (false, ((b, (d, (e, (f, g)))), (c, a)))))
 else
 some (Sum.inr (Sum.inl (false, ((b, (d, (e, (f, g)))), (c, a)))))
 else
 some (Sum.inr (Sum.inl (false, ((b, (d, (e, (f, g)))), (c, a)))))
 else
 some (Sum.inr (Sum.inl (false, ((b, (d, (e, (f, g)))), (c, a)))))
 else
 some (Sum.inr (Sum.inl (false, ((b, (d, (e, (f, g)))), (c, a)))))
 else
 bif (a.1 == 4) then
 bif (decide (a.2.1 ≥ 0)) then
 bif (decide (a.2.1 < (aA b))) then
 bif ((aA a.2.2.2) == 0) then
 (aD b a.2.1).bind fun am =>
 (qec n c a.2.2.1 am).bind fun ao =>
 bif ao then
 some (Sum.inl ((i, (aI .i64 h 1)), ((b, (d, (e, (f, g)))), c)))
 else
 some (Sum.inr (Sum.inl (false, ((b, (d, (e, (f, g)))), (c, a)))))
 else
 some (Sum.inr (Sum.inl (false, ((b, (d, (e, (f, g)))), (c, a)))))
 else
 some (Sum.inr (Sum.inl (false, ((b, (d, (e, (f, g)))), (c, a)))))
 else
 some (Sum.inr (Sum.inl (false, ((b, (d, (e, (f, g)))), (c, a)))))
 else
 some (Sum.inr (Sum.inl (false, ((b, (d, (e, (f, g)))), (c, a)))))
 else
 bif (a.1 == 4) then
 bif (decide (a.2.1 ≥ 0)) then
 bif (decide (a.2.1 < (aA b))) then
 bif ((aA a.2.2.2) == 0) then
 (aD b a.2.1).bind fun ap =>
 (qec n c a.2.2.1 ap).bind fun aq =>
 bif aq then
 some (Sum.inl ((i, (aI .i64 h 1)), ((b, (d, (e, (f, g)))), c)))
 else
 some (Sum.inr (Sum.inl (false, ((b, (d, (e, (f, g)))), (c, a)))))
 else
 some (Sum.inr (Sum.inl (false, ((b, (d, (e, (f, g)))), (c, a)))))
 else
 some (Sum.inr (Sum.inl (false, ((b, (d, (e, (f, g)))), (c, a)))))
 else
 some (Sum.inr (Sum.inl (false, ((b, (d, (e, (f, g)))), (c, a)))))
 else
 some (Sum.inr (Sum.inl (false, ((b, (d, (e, (f, g)))), (c, a)))))
 else
 some (Sum.inr (Sum.inr (i, ((b, (d, (e, (f, g)))), c))))
def qcf_W2 (n : Nat) (s : EAY × EAA × DM × DM × DF × Int × Int × Int × Int) : Option ((Bool × EAA × EAF × Int × Int × DC × DC) ⊕ EBI) := aL (fun s => qcf_B2 n s.1.1 s.1.2 s.2.1.1 s.2.1.2.1 s.2.1.2.2.1 s.2.1.2.2.2.1 s.2.1.2.2.2.2 s.2.2) n s
def qbz (n : Nat) (t : DI) (c : DJ) (u : DK) (v : DC) (w : DD) (d : DO) (e : DM × DM × DF × Int × Int × Int × Int) (f : Int) : Option (DA × Bool) :=
 (aD e.1 f).bind fun a =>
 bif (decide (a.1 < 0)) then
 some (([] : List EAB), false)
 else
 bif (decide (a.1 ≥ (aA c))) then
 some (([] : List EAB), false)
 else
 bif (decide (a.2.1 < 0)) then
 some (([] : List EAB), false)
 else
 (aD c a.1).bind fun i =>
 bif (decide (a.2.1 ≥ (aA i.2.2.2.2))) then
 some (([] : List EAB), false)
 else
 (aD d a.1).bind fun j =>
 (aD j a.2.1).bind fun k =>
 bif (!k.1) then
 some (([] : List EAB), false)
 else
 bif (f == (a8 .i64 (aA e.1) 1)) then
 (aD d a.1).bind fun l =>
 (aD l a.2.1).bind fun m =>
 some (m.2, true)
 else
 bif (a.2.1 == 0) then
 some (([] : List EAB), false)
 else
 (aD d a.1).bind fun o =>
 (aD o (a8 .i64 a.2.1 1)).bind fun p =>
 bif (!p.1) then
 some (([] : List EAB), false)
 else
 (aD c a.1).bind fun q =>
 (aD q.2.2.2.2 (a8 .i64 a.2.1 1)).bind fun g =>
 bif (g.1 != 25) then
 some (([] : List EAB), false)
 else
 (aD e.1 (aI .i64 f 1)).bind fun r =>
 bif (g.2.1 != r.1) then
 some (([] : List EAB), false)
 else
 (aD d a.1).bind fun s =>
 (aD s (a8 .i64 a.2.1 1)).bind fun b =>
 (aD c g.2.1).bind fun h =>
 bif ((decide (0 ≤ (a8 .i64 (aA b.2) (aA h.1)))) && (decide ((a8 .i64 (aA b.2) (aA h.1)) ≤ (((List.length b.2) : Nat) : Int)))) then
 some ((List.take (Int.toNat (a8 .i64 (aA b.2) (aA h.1))) b.2), true)
 else none
def qcf_B5 (n : Nat) (i : DO) (d : Int) (e : DI) (c : DJ) (f : DK) (g : DC) (h : DD) (a : DM × DM × DF × Int × Int × Int × Int) : Option (EBL ⊕ (EBG ⊕ ((Bool × EAA × EAF × EAG × DA) ⊕ (EAA × DM × DM × DF × Int × Int × Int × Int)))) :=
 bif (decide (d < (aA a.1))) then
 (qbz n e c f g h i a d).bind fun j =>
 bif (!j.2) then
 some (Sum.inr (Sum.inl (false, ((e, (c, (f, (g, h)))), a))))
 else
 (aD a.1 d).bind fun k =>
 (qec n a k.2.2.2 j.1).bind fun l =>
 bif (!l) then
 some (Sum.inr (Sum.inl (false, ((e, (c, (f, (g, h)))), a))))
 else
 (aD a.1 d).bind fun m =>
 (aD c m.1).bind fun b =>
 (aD a.1 d).bind fun o =>
 bif (Nat.ble (List.length b.1) 4294967296) then
 bif (Nat.ble (List.length (b.1 ++ b.2.2.2.1)) 4294967296) then
 (qec n a o.2.2.1 (b.1 ++ b.2.2.2.1)).bind fun p =>
 bif (!p) then
 some (Sum.inr (Sum.inr (Sum.inl (false, ((e, (c, (f, (g, h)))), (a, (b, (b.1 ++ b.2.2.2.1))))))))
 else
 some (Sum.inl ((i, (aI .i64 d 1)), ((e, (c, (f, (g, h)))), a)))
 else none
 else none
 else
 some (Sum.inr (Sum.inr (Sum.inr ((e, (c, (f, (g, h)))), a))))
def qcf_W5 (n : Nat) (s : EAY × EAA × DM × DM × DF × Int × Int × Int × Int) : Option (EBG ⊕ ((Bool × EAA × EAF × EAG × DA) ⊕ (EAA × DM × DM × DF × Int × Int × Int × Int))) := aL (fun s => qcf_B5 n s.1.1 s.1.2 s.2.1.1 s.2.1.2.1 s.2.1.2.2.1 s.2.1.2.2.2.1 s.2.1.2.2.2.2 s.2.2) n s
def qcf (n : Nat) (d : DI) (e : DJ) (f : DK) (g : DC) (h : DD) (i : DO) (a : DM × DM × DF × Int × Int × Int × Int) : Option Bool :=
 bif (decide (a.2.2.2.1 < 0)) then
 some false
 else
 bif (decide (a.2.2.2.1 > 65536)) then
 some false
 else
 bif (decide (a.2.2.2.2.1 < 0)) then
 some false
 else
 bif (decide (a.2.2.2.2.1 > a.2.2.2.1)) then
 some false
 else
 bif (decide (a.2.2.2.2.2.1 < 0)) then
 some false
 else
 bif (decide (a.2.2.2.2.2.1 > 7)) then
 some false
 else
 bif (decide ((aA a.2.1) > 4096)) then
 some false
 else
 bif (decide ((aA a.2.2.1) > 16)) then
 some false
 else
 bif (decide ((aA a.1) > 8)) then
 some false
 else
 (qcf_W0 n ((i, 0), ((d, (e, (f, (g, h)))), a))).bind fun j =>
 Sum.rec (fun k =>
 some k.1) (fun c =>
 (qcf_W2 n ((c.1, 0), c.2)).bind fun l =>
 Sum.rec (fun m =>
 some m.1) (fun b =>
 bif (b.2.2.2.2.2.2.2.1 != 0) then
 bif ((aA b.2.2.1) == 0) then
 bif ((aA b.2.2.2.1) == 0) then
 bif (b.2.2.2.2.2.2.2.2 == 0) then
 some true
 else
 some (b.2.2.2.2.2.2.2.1 == 1)
 else
 some false
 else
 some false
 else
 bif (b.2.2.2.2.2.2.2.2 != 0) then
 some false
 else
 bif ((aA b.2.2.1) == 0) then
 some false
 else
 (aD b.2.2.1 0).bind fun o =>
 bif (o.1 != 0) then
 some false
 else
 (qcf_W5 n ((b.1, 0), b.2)).bind fun p =>
 Sum.rec (fun q =>
 some q.1) (fun r =>
 Sum.rec (fun s =>
 some s.1) (fun t =>
 some true) r) p) l) j
def g9 (n : Nat) (b : DI) (c : DJ) (d : DK) (e : DC) (f : DD) (g : DO) (a : DM × DM × DF × Int × Int × Int × Int) : Option Bool :=
 (qbw n b c d e f).bind fun h =>
 bif (!h) then
 (qav n).bind fun i =>
 some i
 else
 bif (decide ((aA g) > 10)) then
 (qav n).bind fun j =>
 some j
 else
 (qci n a.1 a.2.1 a.2.2.1 a.2.2.2.1 a.2.2.2.2.1 a.2.2.2.2.2.1 a.2.2.2.2.2.2).bind fun k =>
 bif (!k) then
 (qav n).bind fun l =>
 some l
 else
 (qcc n b c d e f g).bind fun m =>
 bif m then
 (qcf n b c d e f g a).bind fun o =>
 (qav n).bind fun p =>
 bif p then
 (stateTyped n b c d e f g a).bind fun q =>
 some (q == o)
 else
 some false
 else
 (qav n).bind fun r =>
 bif r then
 (stateTyped n b c d e f g a).bind fun s =>
 some (s == false)
 else
 some false
def dG (n : Nat) (a : DF) (c : DO) (o : Bool) (b : Int) (d : DI) (e : DJ) (f : DK) (g : DC) (h : DD) (i : DF) (j k l m : Int) : Option (((DF × DO × Bool × Int) × EAA × DF × Int × Int × Int × Int) ⊕ (EAU × EAA × DF × Int × Int × Int × Int)) :=
 bif (decide (b < (aA a))) then
 bif o then
 (aD a b).bind fun p =>
 bif (decide (p.1 ≥ 0)) then
 (aD a b).bind fun q =>
 some (Sum.inl ((a, (c, ((decide (q.1 < 4)), (aI .i64 b 1)))), ((d, (e, (f, (g, h)))), (i, (j, (k, (l, m)))))))
 else
 some (Sum.inl ((a, (c, (false, (aI .i64 b 1)))), ((d, (e, (f, (g, h)))), (i, (j, (k, (l, m)))))))
 else
 some (Sum.inl ((a, (c, (false, (aI .i64 b 1)))), ((d, (e, (f, (g, h)))), (i, (j, (k, (l, m)))))))
 else
 some (Sum.inr ((c, o), ((d, (e, (f, (g, h)))), (i, (j, (k, (l, m)))))))
def cC (n : Nat) (s : (DF × DO × Bool × Int) × EAA × DF × Int × Int × Int × Int) : Option (EAU × EAA × DF × Int × Int × Int × Int) := aL (fun s => dG n s.1.1 s.1.2.1 s.1.2.2.1 s.1.2.2.2 s.2.1.1 s.2.1.2.1 s.2.1.2.2.1 s.2.1.2.2.2.1 s.2.1.2.2.2.2 s.2.2.1 s.2.2.2.1 s.2.2.2.2.1 s.2.2.2.2.2.1 s.2.2.2.2.2.2) n s
def i7 (n : Nat) (g : DI) (h : DJ) (i : DK) (j : DC) (k : DD) (l m : Int) (f : DF) (p : Int) : Option Bool :=
 (qbw n g h i j k).bind fun q =>
 bif (!q) then
 (qav n).bind fun r =>
 some r
 else
 (qdk n g h i j k).bind fun s =>
 bif (!s) then
 (qav n).bind fun t =>
 some t
 else
 bif (decide ((aA f) > 30)) then
 (qav n).bind fun u =>
 some u
 else
 (qdm n g h i j k).bind fun o =>
 bif (!o.2) then
 (qav n).bind fun v =>
 some v
 else
 bif (decide (l ≥ 1)) then
 bif (decide (l ≤ 7)) then
 bif (m == 0) then
 (cC n ((f, (o.1, ((decide ((aA f) ≤ 16)), 0))), ((g, (h, (i, (j, k)))), (f, (65536, ((aY .i64 p), (l, m))))))).bind fun a =>
 (qav n).bind fun w =>
 bif w then
 (stateTyped n a.2.1.1 a.2.1.2.1 a.2.1.2.2.1 a.2.1.2.2.2.1 a.2.1.2.2.2.2 a.1.1 (([] : List EAC), (([] : List EAC), a.2.2))).bind fun x =>
 bif (x == a.1.2) then
 (stateTyped n a.2.1.1 a.2.1.2.1 a.2.1.2.2.1 a.2.1.2.2.2.1 a.2.1.2.2.2.2 a.1.1 (([] : List EAC), (((3, (0, (([] : DE), ([] : DE)))) :: ([] : List EAC)), a.2.2))).bind fun y =>
 some (!y)
 else
 some false
 else
 some false
 else
 bif (l == 1) then
 (cC n ((f, (o.1, ((decide ((aA f) ≤ 16)), 0))), ((g, (h, (i, (j, k)))), (f, (65536, ((aY .i64 p), (l, m))))))).bind fun b =>
 (qav n).bind fun z =>
 bif z then
 (stateTyped n b.2.1.1 b.2.1.2.1 b.2.1.2.2.1 b.2.1.2.2.2.1 b.2.1.2.2.2.2 b.1.1 (([] : List EAC), (([] : List EAC), b.2.2))).bind fun aa =>
 bif (aa == b.1.2) then
 (stateTyped n b.2.1.1 b.2.1.2.1 b.2.1.2.2.1 b.2.1.2.2.2.1 b.2.1.2.2.2.2 b.1.1 (([] : List EAC), (((3, (0, (([] : DE), ([] : DE)))) :: ([] : List EAC)), b.2.2))).bind fun ab =>
 some (!ab)
 else
 some false
 else
 some false
 else
 (cC n ((f, (o.1, (false, 0))), ((g, (h, (i, (j, k)))), (f, (65536, ((aY .i64 p), (l, m))))))).bind fun c =>
 (qav n).bind fun ac =>
 bif ac then
 (stateTyped n c.2.1.1 c.2.1.2.1 c.2.1.2.2.1 c.2.1.2.2.2.1 c.2.1.2.2.2.2 c.1.1 (([] : List EAC), (([] : List EAC), c.2.2))).bind fun ad =>
 bif (ad == c.1.2) then
 (stateTyped n c.2.1.1 c.2.1.2.1 c.2.1.2.2.1 c.2.1.2.2.2.1 c.2.1.2.2.2.2 c.1.1 (([] : List EAC), (((3, (0, (([] : DE), ([] : DE)))) :: ([] : List EAC)), c.2.2))).bind fun ae =>
 some (!ae)
 else
 some false
 else
 some false
 else
 (cC n ((f, (o.1, (false, 0))), ((g, (h, (i, (j, k)))), (f, (65536, ((aY .i64 p), (l, m))))))).bind fun d =>
 (qav n).bind fun af =>
 bif af then
 (stateTyped n d.2.1.1 d.2.1.2.1 d.2.1.2.2.1 d.2.1.2.2.2.1 d.2.1.2.2.2.2 d.1.1 (([] : List EAC), (([] : List EAC), d.2.2))).bind fun ag =>
 bif (ag == d.1.2) then
 (stateTyped n d.2.1.1 d.2.1.2.1 d.2.1.2.2.1 d.2.1.2.2.2.1 d.2.1.2.2.2.2 d.1.1 (([] : List EAC), (((3, (0, (([] : DE), ([] : DE)))) :: ([] : List EAC)), d.2.2))).bind fun ah =>
 some (!ah)
 else
 some false
 else
 some false
 else
 (cC n ((f, (o.1, (false, 0))), ((g, (h, (i, (j, k)))), (f, (65536, ((aY .i64 p), (l, m))))))).bind fun e =>
 (qav n).bind fun ai =>
 bif ai then
 (stateTyped n e.2.1.1 e.2.1.2.1 e.2.1.2.2.1 e.2.1.2.2.2.1 e.2.1.2.2.2.2 e.1.1 (([] : List EAC), (([] : List EAC), e.2.2))).bind fun aj =>
 bif (aj == e.1.2) then
 (stateTyped n e.2.1.1 e.2.1.2.1 e.2.1.2.2.1 e.2.1.2.2.2.1 e.2.1.2.2.2.2 e.1.1 (([] : List EAC), (((3, (0, (([] : DE), ([] : DE)))) :: ([] : List EAC)), e.2.2))).bind fun ak =>
 some (!ak)
 else
 some false
 else
 some false
end
end Sx
