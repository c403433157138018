import Derived.Test.YtdlbbdbbpoggfaaLib5
set_option linter.unusedVariables false
set_option linter.unusedSectionVars false
namespace Go.Ab
noncomputable section
inductive Sh where
 | int (k : IntKind) | bool | str
 | nilS | nilP | undef
 | sl (β ag : Bool) (T : Ty)
 | el (β ag : Bool) (T : Ty) (c : Nat)
 | ptr (b g i c : Nat)
 | ptrI (b g c : Nat)
 | ms (b g : Nat)
 | msw (b g : Nat)
 | fn (f : FuncId) (fi ca : Sh)
 | agg (l : Sh)
 | tup (l : Sh)
 | nil
 | cons (a b : Sh)
 | bnone
 | bts (gen : Nat) (frz β ag : Bool) (T : Ty)
 | bcells (gen : Nat) (frz : Bool) (e : Nat) (l : Sh)
 | bos (gen : Nat) (frz : Bool) (T : Ty) (l : Sh)
def P2 (ua ub : Bool) (A B : Type) : Type := Bool.rec (Bool.rec (A × B) A ub) B ua
def P2.mk {A B : Type} : (ua ub : Bool) → A → B → P2 ua ub A B
 | true, _, _, b => b
 | false, true, a, _ => a
 | false, false, a, b => (a, b)
def P2.fst {A B : Type} (da : A) : (ua ub : Bool) → P2 ua ub A B → A
 | true, _, _ => da
 | false, true, p => p
 | false, false, p => p.1
def P2.snd {A B : Type} (db : B) : (ua ub : Bool) → P2 ua ub A B → B
 | true, _, p => p
 | false, true, _ => db
 | false, false, p => p.2
def Sh.un (s : Sh) : Bool :=
 Sh.rec (fun _ => false) false false true true true (fun _ _ _ => false) (fun _ _ _ _ => false) (fun _ _ _ _ => true) (fun _ _ _ => false) (fun _ _ => false) (fun _ _ => true)
  (fun _ _ _ a b => FZ a b) (fun _ a => a) (fun _ a => a) true (fun _ _ a b => FZ a b) true (fun _ _ _ _ _ => false) (fun _ _ _ _ a => a) (fun _ _ _ _ _ => false) s
def Sh.den (s : Sh) : Type :=
 Sh.rec (fun _ => Int) Bool ByteArray Unit Unit Unit (fun _ _ T => List (Go.Ab.den T)) (fun _ _ T _ => Go.Ab.den T) (fun _ _ _ _ => Unit) (fun _ _ _ => Nat) (fun _ _ => Nat × Nat) (fun _ _ => Unit)
  (fun _ fi ca a b => P2 fi.un ca.un a b) (fun _ a => a) (fun _ a => a) Unit (fun a b x y => P2 a.un b.un x y) Unit (fun _ _ _ _ T => List (Go.Ab.den T)) (fun _ _ _ _ a => a) (fun _ _ T l a => P2 false l.un (List (Go.Ab.den T)) a) s
def Sh.dflt : (s : Sh) → s.den
 | .int _ => (0 : Int)
 | .bool => false
 | .str => ByteArray.empty
 | .nilS | .nilP | .undef | .ptr _ _ _ _ | .msw _ _ | .nil | .bnone => ()
 | .sl _ _ _ => ([] : List _)
 | .el _ _ T _ => dT T
 | .ptrI _ _ _ => (0 : Nat)
 | .ms _ _ => ((0, 0) : Nat × Nat)
 | .fn _ fi ca => P2.mk _ _ fi.dflt ca.dflt
 | .agg l => l.dflt
 | .tup l => l.dflt
 | .cons a b => P2.mk _ _ a.dflt b.dflt
 | .bts _ _ _ _ _ => ([] : List _)
 | .bcells _ _ _ l => l.dflt
 | .bos _ _ _ l => P2.mk false l.un [] l.dflt
 where
 dT : (T : Ty) → Go.Ab.den T
 | .int _ => (0 : Int)
 | .bool => false
 | .str => ByteArray.empty
 | .sl _ _ => ([] : List _)
 | .cons a b => (dT a, dT b)
def f6 (a b : Nat) : Bool := Nat.beq a b
def eJ (nz : Bool) : (s : Sh) → List KV → Option s.den
 | .int k, vs => (match vs with | [.lit (.int k' x)] => bif gK k k' then some x else none | _ => none)
 | .bool, vs => (match vs with | [.lit (.bool x)] => some x | _ => none)
 | .str, vs => (match vs with | [.lit (.string x)] => some x | _ => none)
 | .nilS, vs => (match vs with | [.lit (.slice none 0 0)] => some () | _ => none)
 | .nilP, vs => (match vs with | [.lit (.pointer none)] => some () | _ => none)
 | .undef, vs => (match vs with | [.lit (.tuple a)] => (match a.toList with | [] => some () | _ => none) | _ => none)
 | .sl β ag T, vs => (match vs with
  | [.tsl β' ag' T' xs] => bif (eE β β' || (nz && β)) && eE ag ag' then o6 T' T xs else none
  | [.lit (.slice none 0 0)] => bif nz then some [] else none
  | _ => none)
 | .el β ag T c, vs => (match vs with
  | [.el β' ag' T' x c'] => bif (eE β β' || (nz && β)) && eE ag ag' && f6 c c' then Gy (F := Go.Ab.den) (Ty.beq T' T) rfl x else none
  | _ => none)
 | .ptr b g i c, vs => (match vs with | [.ptr b' g' i' c'] => bif f6 b b' && f6 g g' && f6 i i' && f6 c c' then some () else none | _ => none)
 | .ptrI b g c, vs => (match vs with | [.ptr b' g' i c'] => bif f6 b b' && f6 g g' && f6 c c' then some i else none | _ => none)
 | .ms b g, vs => (match vs with | [.ms b' g' o n] => bif f6 b b' && f6 g g' then some (o, n) else none | _ => none)
 | .msw b g, vs => (match vs with | [.msw b' g'] => bif f6 b b' && f6 g g' then some () else none | _ => none)
 | .fn f fi ca, vs => (match vs with
  | [.fn (.func f') fi' ca'] => bif f6 f f' then
    (match eJ nz fi fi' with
    | some x => (match eJ nz ca ca' with | some y => some (P2.mk _ _ x y) | none => none)
    | none => none) else none
  | _ => none)
 | .agg l, vs => (match vs with | [.agg cs] => eJ nz l cs | _ => none)
 | .tup l, vs => (match vs with | [.tup cs] => eJ nz l cs | _ => none)
 | .nil, vs => (match vs with | [] => some () | _ => none)
 | .cons a b, vs => (match vs with
  | v :: r =>
   (match eJ nz a [v] with
   | some x => (match eJ nz b r with | some y => some (P2.mk _ _ x y) | none => none)
   | none => none)
  | [] => none)
 | .bnone, _ => none
 | .bts _ _ _ _ _, _ => none
 | .bcells _ _ _ _, _ => none
 | .bos _ _ _ _, _ => none
def c9 : (s : Sh) → s.den → List KV
 | .int k, x => [.lit (.int k x)]
 | .bool, x => [.lit (.bool x)]
 | .str, x => [.lit (.string x)]
 | .nilS, _ => [.lit (.slice none 0 0)]
 | .nilP, _ => [.lit (.pointer none)]
 | .undef, _ => [.lit (.tuple #[])]
 | .sl β ag T, xs => [.tsl β ag T xs]
 | .el β ag T c, x => [.el β ag T x c]
 | .ptr b g i c, _ => [.ptr b g i c]
 | .ptrI b g c, i => [.ptr b g i c]
 | .ms b g, p => [.ms b g (Prod.fst p) (Prod.snd p)]
 | .msw b g, _ => [.msw b g]
 | .fn f fi ca, p => [.fn (.func f) (c9 fi (P2.fst fi.dflt _ _ p)) (c9 ca (P2.snd ca.dflt _ _ p))]
 | .agg l, p => [.agg (c9 l p)]
 | .tup l, p => [.tup (c9 l p)]
 | .nil, _ => []
 | .cons a b, p => c9 a (P2.fst a.dflt _ _ p) ++ c9 b (P2.snd b.dflt _ _ p)
 | .bnone, _ => []
 | .bts _ _ _ _ _, _ => []
 | .bcells _ _ _ _, _ => []
 | .bos _ _ _ _, _ => []
def j6 : cY → List KV
 | [] => []
 | h :: r => .agg [.ptr 0 0 h.1 h.2.1, h.2.2] :: j6 r
def O9 : KV → Option (Nat × Nat × KV)
 | .agg cs => (match cs with
  | [a, v] => (match a with | .ptr _ _ i c => some (i, c, v) | _ => none)
  | _ => none)
 | _ => none
def iI : List KV → cY
 | [] => []
 | v :: r => (match O9 v with | some h => h :: iI r | none => iI r)
def Al (nz : Bool) : (s : Sh) → aD → Option s.den
 | .nil, m => (match m with | [] => some () | _ => none)
 | .cons a b, m => (match m with
  | x :: r =>
   (match Al nz a [x] with
   | some x => (match Al nz b r with | some y => some (P2.mk _ _ x y) | none => none)
   | none => none)
  | [] => none)
 | .bnone, m => (match m with | [none] => some () | _ => none)
 | .bts gen frz β ag T, m => (match m with
  | [some ⟨gen', frz', .ts β' ag' T' xs⟩] => bif f6 gen gen' && eE frz frz' && eE β β' && eE ag ag' then o6 T' T xs else none
  | _ => none)
 | .bcells gen frz e l, m => (match m with
  | [some ⟨gen', frz', .cells e' cs⟩] => bif f6 gen gen' && eE frz frz' && f6 e e' then eJ false l cs else none
  | _ => none)
 | .bos gen frz T l, m => (match m with
  | [some ⟨gen', frz', .os T' xs hs⟩] => bif f6 gen gen' && eE frz frz' then
    (match o6 T' T xs with
    | some ys => (match eJ false l (j6 hs) with | some p => some (P2.mk false l.un ys p) | none => none)
    | none => none) else none
  | _ => none)
 | _, _ => none
def e8 : (s : Sh) → s.den → aD
 | .nil, _ => []
 | .cons a b, p => e8 a (P2.fst a.dflt _ _ p) ++ e8 b (P2.snd b.dflt _ _ p)
 | .bnone, _ => [none]
 | .bts gen frz β ag T, xs => [some ⟨gen, frz, .ts β ag T xs⟩]
 | .bcells gen frz e l, p => [some ⟨gen, frz, .cells e (c9 l p)⟩]
 | .bos gen frz T l, p => [some ⟨gen, frz, .os T (P2.fst (A := List (Go.Ab.den T)) [] false l.un p) (iI (c9 l (P2.snd l.dflt false l.un p)))⟩]
 | _, _ => []
structure jD where
 ex : Jk
 slots : List Nat
 sh : Sh
 msh : Sh
def jD.den (s : jD) : Type := P2 s.sh.un s.msh.un s.sh.den s.msh.den
def dP : List Nat → List KV → Nat → KV
 | s :: ss, v :: vs => fun t => bif Nat.beq t s then v else dP ss vs t
 | _, _ => fun _ => .gone
def jE (env : Nat → KV) : List Nat → List KV
 | [] => []
 | s :: r => env s :: jE env r
def D0 : Jk → Jk → Bool
 | .normal, .normal => true
 | .exit a, .exit b => Nat.beq a b
 | .ret, .ret => true
 | _, _ => false
def nL (nz : Bool) (s : jD) (st : w9) : Option s.den :=
 match eJ nz s.sh (jE st.env s.slots) with
 | some x => (match Al nz s.msh st.mem with | some y => some (P2.mk _ _ x y) | none => none)
 | none => none
def dZ (s : jD) (d : s.den) : w9 := ⟨dP s.slots (c9 s.sh (P2.fst s.sh.dflt _ _ d)), e8 s.msh (P2.snd s.msh.dflt _ _ d)⟩
def eN : List jD → Type
 | [] => Empty
 | [a] => a.den
 | a :: b :: r => a.den ⊕ eN (b :: r)
def rX (nz : Bool) : (l : List jD) → Jk → w9 → Option (eN l)
 | [], _, _ => none
 | [a], e, st => bif D0 a.ex e then nL nz a st else none
 | a :: b :: r, e, st => match (bif D0 a.ex e then nL nz a st else none) with
  | some x => some (Sum.inl x)
  | none => (match rX nz (b :: r) e st with | some y => some (Sum.inr y) | none => none)
def JB {R : Type} (I : PM R) : (l : List jD) → eN l → (Jk → w9 → Option R) → Option R
 | [], _, _ => none
 | [a], d, k => k a.ex (dZ a d)
 | a :: b :: r, d, k => I.sum d (fun x => k a.ex (dZ a x)) (fun y => JB I (b :: r) y k)
structure aC where
 a : jD
 r : List jD
 sh : a.den → Option (eN r)
structure aL where
 heads : List jD
 outs : List jD
 run : eN heads → Option (eN outs)
def bL {S X : Type} (B : S → Option (S ⊕ X)) (n : Nat) : S → Option X :=
 Nat.rec (fun _ => none) (fun _ ih s => (B s).bind fun q => Sum.rec (fun s' => ih s') (fun x => some x) q) n
section
variable {R : Type} (I : PM R) (tab : TypeId → Option TI)
def dS : Nat → List Nat → Bool
 | _, [] => true
 | n, a :: r => Nat.ble n a && dS (a + 1) r
variable [b4]
def LL (boxed vars : Bool) (t : TypeId) (rs : Nat) (env : Nat → KV) (x : Operand) (k : aZ → Option R) : Option R :=
 bif jP x && boxed && !vars then
  (match tab t with
  | some ti => (match ti.tk with | .sl et => s8 tab et fun row => k ⟨.msw rs 0, [], [(rs, ⟨0, false, row⟩)], []⟩ | _ => none)
  | none => none)
 else eQ env x fun v =>
  match v with
  | .lit (.slice none 0 0) =>
   bif boxed then k (f8 v) else
   (match tab t with
   | some ti => (match ti.tk with | .sl et => s8 tab et fun row => (match row with | .ts β ag T xs => k (f8 (.tsl β ag T xs)) | _ => none) | _ => none)
   | none => none)
  | v => k (f8 v)
def Nr (c a b : KV) (k : KV → Option R) : Option R :=
 match c with
 | .lit (.bool t) =>
  match a, b with
  | .lit (.bool x), .lit (.bool y) => k (.lit (.bool (bif t then x else y)))
  | _, _ => I.ite t (k a) (k b)
 | _ => none
def FJ (boxed : Bool) (src dst : TypeId) (mem : aD) (rs : Nat) (x : KV) (k : aZ → Option R) : Option R :=
 match tab src, tab dst with
 | some s, some d =>
  match s.tk, d.tk with
  | .int _, .int kd => (match x with | .lit (.int _ n) => k (f8 (.lit (.int kd (dO kd n)))) | _ => none)
  | .str, .str => (match x with | .lit (.string b) => k (f8 (.lit (.string b))) | _ => none)
  | .sl e, .str =>
   (match tab e with
   | some te =>
    (match te.tk with
    | .int ke => bif gK ke .u8 && Nat.beq te.n 1 && Fq tab src x then IU I tab e mem x fun row rd =>
      (match row with
      | .ts _ ag (.int ke') xs => bif gK ke' .u8 && !ag then k ⟨.lit (.string (i7 xs)), rd, [], []⟩ else none
      | _ => none) else none
    | _ => none)
   | none => none)
  | .sl _, .sl e =>
   (match tab e, x with
   | some te, .msw b g =>
    (match te.tk with
    | .int ke => bif gK ke .u8 && Nat.beq src dst then oM mem b g fun x => I.guard (Nat.ble 1 (fS x.row)) (k ⟨.msw b g, [b], [], []⟩) else none
    | _ => none)
   | _, _ => none)
  | _, _ => none
 | _, _ => none
def o4 (mem : aD) (t : TypeId) (v : KV) (k : KV → List Nat → Option R) : Option R :=
 match v with
 | .msw _ _ | .ms _ _ _ _ =>
  (match tab t with
  | some ti => bif ti.ag then none else (match ti.ty with
   | some (.sl ag T) => wW I mem (.sl ag T) [v] fun xs _ l => k (.tsl true ag T xs) l
   | _ => none)
  | none => none)
 | .agg cs => bif hasMsK cs then
   (match tab t with
   | some ti => (match ti.ty with | some T => lendCellsK mem (c6 T) cs fun vs l => k (.agg vs) l | none => none)
   | none => none)
  else k (.agg cs) []
 | v => k v []
 where
 hasMsK : List KV → Bool
  | [] => false
  | .msw _ _ :: _ => true
  | .ms _ _ _ _ :: _ => true
  | _ :: r => hasMsK r
 lendCellsK (mem : aD) : List Ty → List KV → (List KV → List Nat → Option R) → Option R
  | [], [], k => k [] []
  | T :: Ts, v :: vs, k =>
   (match v with
   | .msw _ _ | .ms _ _ _ _ =>
    (match T with
    | .sl ag T => wW I mem (.sl ag T) [v] fun xs _ l => lendCellsK mem Ts vs fun ws l' => k (.tsl true ag T xs :: ws) (l ++ l')
    | _ => none)
   | v => lendCellsK mem Ts vs fun ws l' => k (v :: ws) l')
  | _, _, _ => none
def Ar (mem : aD) : List TypeId → List KV → (List KV → List Nat → Option R) → Option R
 | [], [], k => k [] []
 | t :: ts, v :: vs, k => o4 I tab mem t v fun w l => Ar mem ts vs fun ws l' => k (w :: ws) (l ++ l')
 | _, _, _ => none
def mH (mem sub : aD) (ids : List Nat) : jS := fun b g =>
  (match dX ids b with
  | some a => (match dX sub b, sM mem a with
   | some (some x), some h => bif Nat.beq x.gen g then some (a, h + x.gen) else none
   | _, _ => none)
  | none => bif Nat.beq g 0 && Nat.blt b sub.length then some (mem.length + (b - ids.length), 0) else none)
def iN (f : jS) (mem : aD) : List Nat → aD → List (Nat × dE)
 | a :: ids, some x :: r => (a, ⟨(match sM mem a with | some h => h + x.gen | none => 0), x.frz, x.row.ren f⟩) :: iN f mem ids r
 | _ :: ids, none :: r => iN f mem ids r
 | _, _ => []
def v6 (f : jS) : aD → aD
 | [] => []
 | some x :: r => some ⟨0, x.frz, x.row.ren f⟩ :: v6 f r
 | none :: r => none :: v6 f r
variable (tbl : FuncId → List aC)
def jR : Sh → List KV → Bool
 | .int _, vs => (match vs with | [.lit (.int _ _)] => true | _ => false)
 | .bool, vs => (match vs with | [.lit (.bool _)] => true | _ => false)
 | .str, vs => (match vs with | [.lit (.string _)] => true | _ => false)
 | .nilS, vs => (match vs with | [.lit (.slice none 0 0)] => true | _ => false)
 | .nilP, vs => (match vs with | [.lit (.pointer none)] => true | _ => false)
 | .undef, vs => (match vs with | [.lit (.tuple _)] => true | _ => false)
 | .sl _ _ _, vs => (match vs with | [.tsl _ _ _ _] => true | [.lit (.slice none 0 0)] => true | _ => false)
 | .el _ _ _ c, vs => (match vs with | [.el _ _ _ _ c'] => f6 c c' | _ => false)
 | .ptr b g i c, vs => (match vs with | [.ptr b' g' i' c'] => f6 b b' && f6 g g' && f6 i i' && f6 c c' | _ => false)
 | .ptrI b g c, vs => (match vs with | [.ptr b' g' _ c'] => f6 b b' && f6 g g' && f6 c c' | _ => false)
 | .ms b g, vs => (match vs with | [.ms b' g' _ _] => f6 b b' && f6 g g' | _ => false)
 | .msw b g, vs => (match vs with | [.msw b' g'] => f6 b b' && f6 g g' | _ => false)
 | .fn f fi ca, vs => (match vs with | [.fn (.func f') fi' ca'] => f6 f f' && jR fi fi' && jR ca ca' | _ => false)
 | .agg l, vs => (match vs with | [.agg cs] => jR l cs | _ => false)
 | .tup l, vs => (match vs with | [.tup cs] => jR l cs | _ => false)
 | .nil, vs => (match vs with | [] => true | _ => false)
 | .cons a b, vs => (match vs with | v :: r => jR a [v] && jR b r | [] => false)
 | .bnone, _ => false
 | .bts _ _ _ _ _, _ => false
 | .bcells _ _ _ _, _ => false
 | .bos _ _ _ _, _ => false
def B3 : Sh → aD → Bool
 | .nil, m => (match m with | [] => true | _ => false)
 | .cons a b, m => (match m with | x :: r => B3 a [x] && B3 b r | [] => false)
 | .bnone, m => (match m with | [none] => true | _ => false)
 | .bts gen frz _ _ _, m => (match m with | [some ⟨gen', frz', .ts _ _ _ _⟩] => f6 gen gen' && eE frz frz' | _ => false)
 | .bcells gen frz e l, m => (match m with | [some ⟨gen', frz', .cells e' cs⟩] => f6 gen gen' && eE frz frz' && f6 e e' && jR l cs | _ => false)
 | .bos gen frz _ l, m => (match m with | [some ⟨gen', frz', .os _ _ hs⟩] => f6 gen gen' && eE frz frz' && jR l (j6 hs) | _ => false)
 | _, _ => false
def OJ (g : FuncId) (args : List KV) (mem : aD) (k : KV → aD → Option R) : List aC → Option R
 | [] => I.ask g args mem k
 | E :: r => bif jR E.a.sh args && B3 E.a.msh mem then
   (match nL true E.a ⟨dP E.a.slots args, mem⟩ with
   | some a => bif Nat.beq args.length E.a.slots.length then I.bind (E.sh a) fun b => JB I E.r b fun _ st => k (st.env 0) st.mem else none
   | none => none)
  else OJ g args mem k r
def PN (g : FuncId) (args : List KV) (mem : aD) (k : KV → aD → Option R) : Option R := OJ I g args mem k (tbl g)
def Nh (keep : Bool) (mem : aD) (ts : List TypeId) (vs : List KV) (k : List KV → List Nat → Option R) : Option R := bif keep then k vs [] else Ar I tab mem ts vs k
def NA (raw keep : Bool) (g : FuncId) (ts : List TypeId) (fi args ca : List KV) (mem : aD) (k : aZ → Option R) : Option R :=
 Nh I tab keep mem ts args fun la lb =>
 let all := fi ++ la ++ ca
 let ids := vU mem (j3 mem (KV.refsAll all).length) (KV.refsAll all) []
 bif dR ids && sI lb ids then
  PN I tbl g (KV.renAll (mQ 0 true mem ids) all) (oN 0 true (mQ 0 true mem ids) mem 0 ids) fun v sub =>
  let m := ids.length
  let r := bif raw then v else v8 m sub v
  bif Nat.ble m sub.length && (fM lb || !(v.lent || rZ sub)) then
   bif fN m r.refs && fN m (iA (sub.take m)) then
    k ⟨r.ren (mH mem (sub.take m) ids), lb ++ ids, iN (mH mem (sub.take m) ids) mem ids sub, []⟩
   else
    k ⟨v.ren (mH mem sub ids), lb ++ ids, iN (mH mem sub ids) mem ids sub, v6 (mH mem sub ids) (sub.drop m)⟩
  else none
 else none
def Nq (mem : aD) (t tx : TypeId) (rs : Nat) (n : Int) (k : aZ → Option R) : Option R :=
 match tab tx with
 | some tix => (match tix.tk with
  | .int _ => rG tab t fun et te =>
   (match te.ty with
   | some T => bif Nat.ble 1 te.n && Nat.ble te.bytes 4096 && Nat.beq te.n T.size && Nat.beq te.zero.length te.n && !(aY te.ag T) then
     wW I mem T (te.zero.map .lit) fun z β l => bif !(fM l) then none else I.guard (decide (1 ≤ n) && Nat.ble n.toNat bA) (k ⟨.msw rs 0, [], [(rs, ⟨0, false, .ts β te.ag T (List.replicate n.toNat z)⟩)], []⟩)
    else none
   | none => none)
  | _ => none)
 | none => none
def Ax (boxed vars : Bool) (b : Builtin) (ts : List TypeId) (mem : aD) (rs : Nat) (args : List KV) (k : aZ → Option R) : Option R :=
 match b with
 | .len => (match ts, args with | [t], [x] => Pa tab t mem x fun n rd => k ⟨.lit (.int .i64 n), rd, [], []⟩ | _, _ => none)
 | .append => (match ts, args with | [t, tx], [x, y] => (match x, y with | .lit (.slice none 0 0), .lit (.int _ n) => Nq I tab mem t tx rs n k | _, _ => H3 I tab boxed vars t tx mem rs x y k) | _, _ => none)
 | .cap => (match ts, args with | [t], [.lit (.slice none 0 0)] => (match tab t with | some ti => (match ti.tk with | .sl _ => k (f8 (.lit (.int .i64 0))) | _ => none) | none => none) | _, _ => none)
 | .min => (match args with | .lit (.int kd a) :: r => (match sA Fr kd r a with | some v => k (f8 (.lit (.int kd v))) | none => none) | _ => none)
 | .max => (match args with | .lit (.int kd a) :: r => (match sA CN kd r a with | some v => k (f8 (.lit (.int kd v))) | none => none) | _ => none)
 | _ => none
def AU (k : IntKind) : List KV → Option (List Int)
 | [] => some []
 | .lit (.int k' x) :: r => bif gK k k' then (match AU k r with | some xs => some (x :: xs) | none => none) else none
 | _ :: _ => none
def r9 (boxed vars : Bool) (env : Nat → KV) (mem : aD) (rs : Nat) (t : TypeId) (len : Nat) (parts : Array (Nat × Operand)) (k : aZ → Option R) : Option R :=
 rG tab t fun et te => A6 env parts.toList fun ps =>
 let z := eP te
 let vs := qY (List.replicate len z) ps
 bif vG len ps && Nat.ble len 4096 && Nat.ble 1 te.n && Nat.ble te.n 4096 && oX te.n (z :: ps.map (·.2)) && oX te.n vs then
  match te.tk with
  | .int kd => bif Nat.beq te.n 1 then (match AU kd vs with | some xs => GP (boxed || Nat.beq len 0) rs (.ts false false (.int kd) xs) [] [] k | none => none) else none
  | _ => bif vars then (bif rD (kC vs) then GP (boxed || Nat.beq len 0) rs (.cells te.n (kC vs)) [] [] k else none)
   else (match te.ty with
    | some T => HG I mem te.ag T vs fun xs β l => GP (boxed || Nat.beq len 0) rs (.ts β te.ag T xs) l (l4 mem l) k
    | none => none)
 else none
def zK (boxed : Bool) (mem : aD) (t : TypeId) (rs : Nat) (l c : KV) (k : aZ → Option R) : Option R :=
 rG tab t fun et te =>
 match l, c with
 | .lit (.int _ n), .lit (.int _ n') =>
  (match te.ty with
  | some T => bif Nat.ble 1 te.n && Nat.ble te.bytes 4096 && Nat.beq te.n T.size && Nat.beq te.zero.length te.n then
    wW I mem T (te.zero.map .lit) fun z β l => bif !(fM l) then none else I.guard ((n == n') && decide (0 ≤ n) && Nat.ble n.toNat bA) (GP boxed rs (.ts β te.ag T (List.replicate n.toNat z)) [] [] k)
   else none
  | none => none)
 | _, _ => none
def HA (t : TypeId) (x ix : KV) (k : aZ → Option R) : Option R :=
 match x, ix with
 | .agg cs, .lit (.int _ i) =>
  (match tab t with
  | some ti => (match ti.tk with
   | .arr n e => (match tab e with
    | some te => bif !te.ag && Nat.beq te.n 1 then I.guard (decide (0 ≤ i) && decide (i < (n : Int))) (N9 I i.toNat cs 0 fun v => k (f8 v)) else none
    | none => none)
   | _ => none)
  | none => none)
 | .lit (.string s), .lit (.int _ i) =>
  (match tab t with
  | some ti => (match ti.tk with
   | .str => I.get (e9 s) i fun n => k (f8 (.lit (.int .u8 n)))
   | _ => none)
  | none => none)
 | _, _ => none
def IM (boxed raw vars : Bool) (o : Oper) (env : Nat → KV) (mem : aD) (rs : Nat) (k : aZ → Option R) : Option R :=
 match o.op with
 | .move x => LL tab boxed vars o.type rs env x k
 | .assign x => LL tab boxed vars o.type rs env x k
 | .pick c a b => eQ env c fun c => eQ env a fun a => eQ env b fun b => Nr I c a b fun v => k (f8 v)
 | .alloc t => (match tab t with | some ti => bif Nat.ble 1 ti.zero.length && rD (ti.zero.map .lit) then k ⟨.ptr rs 0 0 0, [], [(rs, ⟨0, false, .cells 1 (ti.zero.map .lit)⟩)], []⟩ else none | none => none)
 | .box t x => eQ env x fun v => (match tab t with | some ti => bif Nat.beq v.cells.length ti.n && Nat.ble 1 ti.n && rD v.cells then k ⟨.ptr rs 0 0 0, [], [(rs, ⟨0, false, .cells 1 v.cells⟩)], []⟩ else none | none => none)
 | .build t parts => A6 env parts.toList fun ps =>
  (match tab t with
  | some ti =>
   (match ti.tk with
   | .st fs => (match BW (fun i => match dX fs i with | some q => some (q.1, q.2.1) | none => none) (eP ti).cells ps with | some cs => k (f8 (.agg cs)) | none => none)
   | .arr _ e => (match tab e with | some te => (match BW (fun i => some (i * te.n, te.n)) (eP ti).cells ps with | some cs => k (f8 (.agg cs)) | none => none) | none => none)
   | _ => none)
  | none => none)
 | .buildSlice t len parts => r9 I tab boxed vars env mem rs t len parts k
 | .load t a => eQ env a fun a => L7 I tab t mem a k
 | .store t a x => eQ env a fun a => eQ env x fun x => K8 I tab t mem a x k
 | .nilCheck x => eQ env x fun v => (match v with | .ptr _ _ _ _ => k (f8 v) | .el _ _ _ _ _ => k (f8 v) | .fn (.func _) _ _ => k (f8 v) | _ => none)
 | .binOp op t x y _ => eQ env x fun x => eQ env y fun y => Pj I tab op t x y fun v => k (f8 v)
 | .unOp op _ x => eQ env x fun x => P7 op x fun v => k (f8 v)
 | .convert src dst x => eQ env x fun x => FJ I tab boxed src dst mem rs x k
 | .makeFunc fn first cap => q9 env first.toList fun fi => q9 env cap.toList fun ca => k (f8 (.fn fn fi ca))
 | .makeSlice t l c => eQ env l fun l => eQ env c fun c => zK I tab boxed mem t rs l c k
 | .slice t x lo hi mx => eQ env x fun x => IQ env lo fun lo => IQ env hi fun hi => IQ env mx fun mx => KQ I tab t mem x lo hi mx k
 | .fieldAddr s x f => eQ env x fun x => Hw tab s f fun off _ _ =>
  (match x with
  | .ptr b g i c => k (f8 (.ptr b g i (c + off)))
  | .el β ag T x c => k (f8 (.el β ag T x (c + off)))
  | _ => none)
 | .field s x f => eQ env x fun x => Hw tab s f fun off n ft =>
  (match x with
  | .agg cs => (match tab ft with
   | some tf => bif tf.ag then bif Nat.ble (off + n) cs.length then k (f8 (.agg ((cs.drop off).take n))) else none
     else (match dX cs off with | some v => k (f8 v) | none => none)
   | none => none)
  | _ => none)
 | .indexAddr t x ix => eQ env x fun x => eQ env ix fun ix => (match ix with | .lit (.int _ i) => KW I tab t mem x i k | _ => none)
 | .index t x ix => eQ env x fun x => eQ env ix fun ix => HA I tab t x ix k
 | .extract t ix => eQ env t fun t => (match t with | .tup vs => (match dX vs ix with | some v => k (f8 v) | none => none) | _ => none)
 | .call c => q9 env c.args.toList fun args =>
  (match c.callee with
  | .builtin b => Ax I tab boxed vars b c.argTypes.toList mem rs args k
  | .value f => eQ env f fun f => (match f with | .fn (.func g) fi ca => NA I tab tbl raw vars g c.argTypes.toList fi args ca mem k | _ => none)
  | .invoke _ _ => none)
 | _ => none
def Kk (rs : Nat) (t : TypeId) (l c : KV) (k : aZ → Option R) : Option R :=
 rG tab t fun et te =>
 match l, c with
 | .lit (.int _ n), .lit (.int _ n') =>
  (match te.ty with
  | some T => bif Nat.ble 1 te.n && Nat.ble te.bytes 4096 && Nat.beq te.zero.length te.n && rD (te.zero.map .lit) && eE te.ag (eW T) then
    (match NU (c6 T) (te.zero.map .lit) 0 0 with
    | some a => (match a.2 with
     | [] => eV I [] T a.1 fun z _ _ => I.guard ((n == n') && decide (0 ≤ n) && Nat.ble n.toNat bA) (k ⟨.msw rs 0, [], [(rs, ⟨0, false, .os T (List.replicate n.toNat z) []⟩)], []⟩)
     | _ => none)
    | none => none)
   else none
  | none => none)
 | _, _ => none
def p8 : List KV → List (List KV)
 | [] => []
 | v :: r => v.cells :: p8 r
def HY (env : Nat → KV) (rs : Nat) (t : TypeId) (len : Nat) (parts : Array (Nat × Operand)) (k : aZ → Option R) : Option R :=
 rG tab t fun et te => A6 env parts.toList fun ps =>
 let z := eP te
 let vs := qY (List.replicate len z) ps
 match te.ty with
 | some T => bif vG len ps && Nat.ble len 4096 && Nat.ble 1 te.n && Nat.ble te.n 4096 && oX te.n (z :: ps.map (·.2)) && Nat.ble 1 len && rD (kC vs) && eE te.ag (eW T) then
   E7 I T (p8 vs) 0 fun xs hs => k ⟨.msw rs 0, [], [(rs, ⟨0, false, .os T xs hs⟩)], []⟩
  else none
 | none => none
def Hf (t : TypeId) (rs : Nat) (k : aZ → Option R) : Option R :=
 rG tab t fun et te => match te.ty with
 | some T => bif eE te.ag (eW T) then k ⟨.msw rs 0, [], [(rs, ⟨0, false, .os T [] []⟩)], []⟩ else none
 | none => none
def OH (own tk boxed raw vars : Bool) (o : Oper) (env : Nat → KV) (mem : aD) (rs : Nat) (k : aZ → Option R) : Option R :=
 match o.op with
 | .move x => bif own && jP x then Hf tab o.type rs k else IM I tab tbl boxed raw vars o env mem rs k
 | .assign x => bif own && jP x then Hf tab o.type rs k else IM I tab tbl boxed raw vars o env mem rs k
 | .buildSlice t len parts => bif own then HY I tab env rs t len parts k else IM I tab tbl boxed raw vars o env mem rs k
 | .makeSlice t l c => bif own then eQ env l fun l => eQ env c fun c => Kk I tab rs t l c k else IM I tab tbl boxed raw vars o env mem rs k
 | .load t a => eQ env a fun v => bif Ez mem v then Lk I tab tk t mem v k else IM I tab tbl boxed raw vars o env mem rs k
 | .store t a x => eQ env a fun v => bif Ez mem v then eQ env x fun x => HB I tab t mem v x k else IM I tab tbl boxed raw vars o env mem rs k
 | .slice t x lo hi mx => eQ env x fun v => bif w6 mem v then IQ env lo fun lo => IQ env hi fun hi => IQ env mx fun mx => Hj I tab t mem v lo hi mx k else IM I tab tbl boxed raw vars o env mem rs k
 | .indexAddr t x ix => eQ env x fun v => bif w6 mem v then eQ env ix fun ix => (match ix with | .lit (.int _ i) => Ib I tab t mem v i k | _ => none) else IM I tab tbl boxed raw vars o env mem rs k
 | .call c =>
  (match c.callee with
  | .builtin .len => q9 env c.args.toList fun args => (match c.argTypes.toList, args with
   | [t], [x] => bif LB mem x then NB tab t mem x k else IM I tab tbl boxed raw vars o env mem rs k
   | _, _ => IM I tab tbl boxed raw vars o env mem rs k)
  | .builtin .append => q9 env c.args.toList fun args => (match c.argTypes.toList, args with
   | [t, tx], [x, y] => bif own || w6 mem x then Ew I tab own t tx mem rs x y k else IM I tab tbl boxed raw vars o env mem rs k
   | _, _ => none)
  | _ => IM I tab tbl boxed raw vars o env mem rs k)
 | _ => IM I tab tbl boxed raw vars o env mem rs k
def v7 (mem : aD) : List (Nat × dE) → aD
 | [] => mem
 | (b, x) :: r => v7 (sU (some x) mem b) r
def aZ.apply (o : aZ) (mem : aD) : aD := v7 mem o.wr ++ o.push
def Hb (mem : aD) (rs : Nat) : Bool :=
 match dX mem rs with
 | some none => true
 | _ => false
def GQ : aD → aD
 | [] => []
 | x :: r => match GQ r with
  | [] => (match x with | none => [] | some b => [some b])
  | y => x :: y
def G9 : KV → Option (Nat × Nat × Nat × Nat)
 | .ptr b g i c => some (b, g, i, c)
 | _ => none
def Af (x : dE) : Option (Nat × Nat × List (Option (Nat × Nat × Nat × Nat))) :=
 match x.row with
 | .cells e cs => some (x.gen, e, cs.map G9)
 | _ => none
def mV (mem : aD) (b : Nat) : Option (Nat × Nat × List (Option (Nat × Nat × Nat × Nat))) :=
 match dX mem b with
 | some (some x) => Af x
 | _ => none
def yR (mem : aD) (wr : List (Nat × dE)) (b : Nat) : Bool := wr.all fun q => !(Nat.beq q.1 b) || H8 (Af q.2) (mV mem b)
def NO (op : Op) (mem : aD) (v : KV) (rd : List Nat) : Bool :=
 Kq op && (match G9 v with | some _ => true | none => false) && (match rd with | [b] => (match mV mem b with | some _ => true | none => false) | _ => false)
def aZ.tr (mk : Bool) (rs : Nat) (o : aZ) (i : Nat) (op : Op) (mem : aD) : Tr := { i, rc := NO op mem o.v o.rd, wk := yR mem o.wr, rd := o.rd, wr := bif mk then rs :: o.wr.map (·.1) else o.wr.map (·.1), push := match o.push with | [] => false | _ => true }
def LV (h : Option Int) (v : KV) (k : KV → Option R) : Option R :=
 match h with
 | none => k v
 | some x => match v with
  | .lit (.int kd y) => I.guard (decide (y = x)) (k (.lit (.int kd x)))
  | _ => none
def K2 (an : lA) (tk : Bool) (rid : Nat) (ds : List (Option Tmp)) : List Oper → Nat → Nat → w9 → List Tr → (w9 → List Tr → Option R) → Option R
 | [], _, _, st, tr, k => k st tr
 | o :: rest, i, rs, st, tr, k =>
  let mk := dY o.op
  let rs' := bif mk then rs + 1 else rs
  let run (env : Nat → KV) : Option R := bif (bif mk then Hb st.mem rs else true) then OH I tab tbl (a7 rid i an.own) tk (a7 rid i an.boxed) (a7 rid i an.raw) (a7 rid i an.vars) o env st.mem rs fun out =>
   LV I (By rid i an.hint) out.v fun v => K2 an tk rid ds rest (i + 1) rs' ⟨yV env o.dst v, out.apply st.mem⟩ (out.tr mk rs i o.op st.mem :: tr) k else none
  let skip (env : Nat → KV) : Option R := K2 an tk rid ds rest (i + 1) rs' ⟨yV env o.dst (.lit undef), st.mem⟩ tr k
  match o.guard with
  | none => run st.env
  | some (j, want) =>
   match dX ds j with
   | some (some d) =>
    (match st.env d with
    | .lit (.bool b) =>
     I.ite b ((fun env => bif want then run env else skip env) (mT st.env d (.lit (.bool true)))) ((fun env => bif want then skip env else run env) (mT st.env d (.lit (.bool false))))
    | .lit (.tuple _) => skip st.env
    | _ => none)
   | _ => none
def Db (an : lA) (rid : Nat) (ops : Array Oper) (draw : Bool) (st : w9) (k : w9 → Option R) : Option R :=
 let n := nZ ops.toList
 K2 I tab tbl an (!draw) rid (ops.toList.map (·.dst)) ops.toList 0 st.mem.length ⟨st.env, st.mem ++ List.replicate n none⟩ [] fun st' tr =>
  bif !draw || H6 ops (st.mem.length + n) tr then k ⟨st'.env, GQ st'.mem⟩ else none
def nD (env : Nat → KV) (c : Operand) (b : Bool) : Nat → KV :=
 match c with
 | .tmp d => mT env d (.lit (.bool b))
 | _ => env
def Gv (keep : Bool) (old : List (Option Bool)) (live : List Nat) (st : w9) (k : w9 → Option R) : Option R :=
 q9 st.env (live.map .tmp) fun vs => A3 I keep old vs st.mem fun vs' mem' => k ⟨dP live vs', mem'⟩
def NS (mem : aD) (off : Nat) (v : KV) (k : KV → Option R) : Option R :=
 match v with
 | .ptr b g i c => oM mem b g fun x => (match x.row with
  | .cells e cs => (match dX cs (i * e + c + off) with | some v => k v | none => none)
  | _ => none)
 | v => k v
def HV (mem : aD) (s : KV) (n c : Nat) (k : aD → Option R) : Option R :=
 match s with
 | .msw b g => rJ mem b g fun bx => (match bx.row with
  | .os T xs hs => I.getN xs n fun x => (match dX (cellsOf true T x) c with
   | some (.tsl β ag T' ys) => Bm I true n c (.tsl β ag T' ys) hs mem.length fun _ hs' rows => k (sU (some ⟨bx.gen, bx.frz, .os T xs hs'⟩) mem b ++ oW rows)
   | _ => none)
  | _ => none)
 | _ => none
def Od (env : Nat → KV) (mem : aD) (q : Operand × Nat × Operand × Nat) (k : aD → Option R) : Option R :=
 eQ env q.1 fun p => NS mem q.2.1 p fun s => eQ env q.2.2.1 fun v =>
  match v with
  | .lit (.int _ n) => I.guard (decide (0 ≤ n)) (HV I mem s n.toNat q.2.2.2 k)
  | _ => none
def HO (env : Nat → KV) : List (Operand × Nat × Operand × Nat) → aD → (aD → Option R) → Option R
 | [], mem, k => k mem
 | q :: r, mem, k => Od I env mem q fun mem' => HO env r mem' k
def LH (an : lA) (rid : Nat) (old : List (Option Bool)) (st : w9) (k : w9 → Option R) : Option R :=
 match eF rid an.tidy with
 | none => k st
 | some q => bif dS 0 q.1 then q9 st.env (q.1.map .tmp) fun vs => Kw I old.length vs st.mem fun mem => HO I (dP q.1 vs) q.2 mem fun mem' => k ⟨dP q.1 vs, mem'⟩ else none
variable (loops : Nat → Option aL)
def iF (an : lA) (old : List (Option Bool)) : Code → Nat → w9 → (Jk → w9 → Option R) → Option R
 | .skip, _, st, k => k .normal st
 | .ret, _, st, k => k .ret st
 | .exit id, _, st, k => k (.exit id) st
 | .seq a b, bid, st, k => iF an old a bid st fun e st' =>
  match e with
  | .normal => iF an old b bid st' k
  | .exit id => k (.exit id) st'
  | .ret => k .ret st'
 | .cond c x y, bid, st, k => eQ st.env c fun v =>
  match v with
  | .lit (.bool t) => I.ite t (iF an old x bid ⟨nD st.env c true, st.mem⟩ k) (iF an old y bid ⟨nD st.env c false, st.mem⟩ k)
  | .unkB => I.amb (iF an old x bid st k) (iF an old y bid st k)
  | _ => none
 | .block id c, _, st, k => iF an old c id st fun e st' =>
  match e with
  | .normal => k .normal st'
  | .exit j => bif Nat.beq j id then k .normal st' else k (.exit j) st'
  | .ret => k .ret st'
 | .loop c, bid, st, k =>
  match eF bid an.live with
  | some live => Gv I (eZ bid an.keep) old live st fun st1 =>
   (match loops bid with
   | some L => (match rX false L.heads .normal st1 with
    | some s => I.bind (L.run s) fun x => JB I L.outs x k
    | none => I.loop bid st1 k)
   | none => I.loop bid st1 k)
  | none => none
 | .region rid ops draw, _, st, k => LH I an rid old st fun st => Db I tab tbl an rid ops draw st (fun st' => k .normal st')
 | _, _, _, _ => none
def Le (env : Nat → KV) (mem : aD) : List ResultVar → (List KV → Option R) → Option R
 | [], k => k []
 | .tmp t :: r, k => eQ env (.tmp t) fun v => Le env mem r fun vs => k (v :: vs)
 | .cell a t :: r, k => eQ env (.tmp a) fun a => L7 I tab t mem a fun o => Le env mem r fun vs => k (o.v :: vs)
def wU : List KV → KV
 | [v] => v
 | vs => .tup vs
def PI (fn : Func) (old : List (Option Bool)) (e : Jk) (st : w9) (k : KV → aD → Option R) : Option R :=
 match e with
 | .exit _ => none
 | _ => Le I tab st.env st.mem fn.results.toList fun vs => A3 I true old [wU vs] st.mem fun ws mem' => (match ws with | [v] => k v mem' | _ => none)
def As (args : List KV) (n : Nat) : Nat → KV := fun t =>
 match dX args t with
 | some v => v
 | none => bif Nat.blt t n then .lit undef else .gone
def Ot (an : lA) (fn : Func) (args : List KV) (mem : aD) (k : KV → aD → Option R) : Option R :=
 match fn.body with
 | some c => iF I tab tbl loops an (e7 mem) c 0 ⟨As args fn.ntmps, mem⟩ fun e st => PI I tab fn (e7 mem) e st k
 | none => none
def OG (an : lA) (fn : Func) (a : jD) (r : List jD) (d : a.den) (k : eN r → Option R) : Option R :=
 Ot I tab tbl loops an fn (c9 a.sh (P2.fst a.sh.dflt _ _ d)) (e8 a.msh (P2.snd a.msh.dflt _ _ d)) fun v mem =>
  match rX true r .ret ⟨dP [0] [v], mem⟩ with
  | some b => k b
  | none => none
def fK : Code → Nat → List (Nat × Code)
 | .seq a b, bid => fK a bid ++ fK b bid
 | .cond _ x y, bid => fK x bid ++ fK y bid
 | .block id c, _ => fK c id
 | .loop c, bid => (bid, c) :: fK c bid
 | _, _ => []
def FO (an : lA) (old : List (Option Bool)) (c : Code) (bid : Nat) (live : List Nat) (heads outs : List jD) (s : eN heads) (k : eN heads ⊕ eN outs → Option R) : Option R :=
 JB I heads s fun _ st0 => iF I tab tbl loops an old c bid st0 fun e st =>
  match e with
  | .normal => Gv I (eZ bid an.keep) old live st fun st1 => (match rX false heads .normal st1 with | some s' => k (.inl s') | none => none)
  | .exit id => (match rX false outs (.exit id) st with | some x => k (.inr x) | none => none)
  | .ret => (match rX false outs .ret st with | some x => k (.inr x) | none => none)
end
end
end Go.Ab
