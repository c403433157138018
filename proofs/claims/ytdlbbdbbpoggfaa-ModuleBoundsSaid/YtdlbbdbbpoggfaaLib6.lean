import Derived.Test.YtdlbbdbbpoggfaaLib5
set_option linter.unusedVariables false
set_option linter.unusedSectionVars false
namespace Go.Ab
noncomputable section
inductive Sh where
 | int (k : IntKind) | bool | str
 | nilS | nilP | undef
 | sl (β ag : Bool) (T : Ty)
 | el (β ag : Bool) (T : Ty) (c : Nat)
 | ptr (b g i c : Nat)
 | ptrI (b g c : Nat)
 | ms (b g : Nat)
 | msw (b g : Nat)
 | fn (f : FuncId) (fi ca : Sh)
 | agg (l : Sh)
 | tup (l : Sh)
 | nil
 | cons (a b : Sh)
 | bnone
 | bts (gen : Nat) (frz β ag : Bool) (T : Ty)
 | bcells (gen : Nat) (frz : Bool) (e : Nat) (l : Sh)
 | bos (gen : Nat) (frz : Bool) (T : Ty) (l : Sh)
def P2 (ua ub : Bool) (A B : Type) : Type := Bool.rec (Bool.rec (A × B) A ub) B ua
def P2.mk {A B : Type} : (ua ub : Bool) → A → B → P2 ua ub A B
 | true, _, _, b => b
 | false, true, a, _ => a
 | false, false, a, b => (a, b)
def P2.fst {A B : Type} (da : A) : (ua ub : Bool) → P2 ua ub A B → A
 | true, _, _ => da
 | false, true, p => p
 | false, false, p => p.1
def P2.snd {A B : Type} (db : B) : (ua ub : Bool) → P2 ua ub A B → B
 | true, _, p => p
 | false, true, _ => db
 | false, false, p => p.2
def Sh.un (s : Sh) : Bool :=
 Sh.rec (fun _ => false) false false true true true (fun _ _ _ => false) (fun _ _ _ _ => false) (fun _ _ _ _ => true) (fun _ _ _ => false) (fun _ _ => false) (fun _ _ => true)
  (fun _ _ _ a b => F0 a b) (fun _ a => a) (fun _ a => a) true (fun _ _ a b => F0 a b) true (fun _ _ _ _ _ => false) (fun _ _ _ _ a => a) (fun _ _ _ _ _ => false) s
def Sh.den (s : Sh) : Type :=
 Sh.rec (fun _ => Int) Bool ByteArray Unit Unit Unit (fun _ _ T => List (Go.Ab.den T)) (fun _ _ T _ => Go.Ab.den T) (fun _ _ _ _ => Unit) (fun _ _ _ => Nat) (fun _ _ => Nat × Nat) (fun _ _ => Unit)
  (fun _ fi ca a b => P2 fi.un ca.un a b) (fun _ a => a) (fun _ a => a) Unit (fun a b x y => P2 a.un b.un x y) Unit (fun _ _ _ _ T => List (Go.Ab.den T)) (fun _ _ _ _ a => a) (fun _ _ T l a => P2 false l.un (List (Go.Ab.den T)) a) s
def Sh.dflt : (s : Sh) → s.den
 | .int _ => (0 : Int)
 | .bool => false
 | .str => ByteArray.empty
 | .nilS | .nilP | .undef | .ptr _ _ _ _ | .msw _ _ | .nil | .bnone => ()
 | .sl _ _ _ => ([] : List _)
 | .el _ _ T _ => dT T
 | .ptrI _ _ _ => (0 : Nat)
 | .ms _ _ => ((0, 0) : Nat × Nat)
 | .fn _ fi ca => P2.mk _ _ fi.dflt ca.dflt
 | .agg l => l.dflt
 | .tup l => l.dflt
 | .cons a b => P2.mk _ _ a.dflt b.dflt
 | .bts _ _ _ _ _ => ([] : List _)
 | .bcells _ _ _ l => l.dflt
 | .bos _ _ _ l => P2.mk false l.un [] l.dflt
 where
 dT : (T : Ty) → Go.Ab.den T
 | .int _ => (0 : Int)
 | .bool => false
 | .str => ByteArray.empty
 | .sl _ _ => ([] : List _)
 | .cons a b => (dT a, dT b)
def f7 (a b : Nat) : Bool := Nat.beq a b
def eJ (nz : Bool) : (s : Sh) → List KV → Option s.den
 | .int k, vs => (match vs with | [.lit (.int k' x)] => bif gK k k' then some x else none | _ => none)
 | .bool, vs => (match vs with | [.lit (.bool x)] => some x | _ => none)
 | .str, vs => (match vs with | [.lit (.string x)] => some x | _ => none)
 | .nilS, vs => (match vs with | [.lit (.slice none 0 0)] => some () | _ => none)
 | .nilP, vs => (match vs with | [.lit (.pointer none)] => some () | _ => none)
 | .undef, vs => (match vs with | [.lit (.tuple a)] => (match a.toList with | [] => some () | _ => none) | _ => none)
 | .sl β ag T, vs => (match vs with
  | [.tsl β' ag' T' xs] => bif (eG β β' || (nz && β)) && eG ag ag' then o5 T' T xs else none
  | [.lit (.slice none 0 0)] => bif nz then some [] else none
  | _ => none)
 | .el β ag T c, vs => (match vs with
  | [.el β' ag' T' x c'] => bif (eG β β' || (nz && β)) && eG ag ag' && f7 c c' then GA (F := Go.Ab.den) (Ty.beq T' T) rfl x else none
  | _ => none)
 | .ptr b g i c, vs => (match vs with | [.ptr b' g' i' c'] => bif f7 b b' && f7 g g' && f7 i i' && f7 c c' then some () else none | _ => none)
 | .ptrI b g c, vs => (match vs with | [.ptr b' g' i c'] => bif f7 b b' && f7 g g' && f7 c c' then some i else none | _ => none)
 | .ms b g, vs => (match vs with | [.ms b' g' o n] => bif f7 b b' && f7 g g' then some (o, n) else none | _ => none)
 | .msw b g, vs => (match vs with | [.msw b' g'] => bif f7 b b' && f7 g g' then some () else none | _ => none)
 | .fn f fi ca, vs => (match vs with
  | [.fn (.func f') fi' ca'] => bif f7 f f' then
    (match eJ nz fi fi' with
    | some x => (match eJ nz ca ca' with | some y => some (P2.mk _ _ x y) | none => none)
    | none => none) else none
  | _ => none)
 | .agg l, vs => (match vs with | [.agg cs] => eJ nz l cs | _ => none)
 | .tup l, vs => (match vs with | [.tup cs] => eJ nz l cs | _ => none)
 | .nil, vs => (match vs with | [] => some () | _ => none)
 | .cons a b, vs => (match vs with
  | v :: r =>
   (match eJ nz a [v] with
   | some x => (match eJ nz b r with | some y => some (P2.mk _ _ x y) | none => none)
   | none => none)
  | [] => none)
 | .bnone, _ => none
 | .bts _ _ _ _ _, _ => none
 | .bcells _ _ _ _, _ => none
 | .bos _ _ _ _, _ => none
def c9 : (s : Sh) → s.den → List KV
 | .int k, x => [.lit (.int k x)]
 | .bool, x => [.lit (.bool x)]
 | .str, x => [.lit (.string x)]
 | .nilS, _ => [.lit (.slice none 0 0)]
 | .nilP, _ => [.lit (.pointer none)]
 | .undef, _ => [.lit (.tuple #[])]
 | .sl β ag T, xs => [.tsl β ag T xs]
 | .el β ag T c, x => [.el β ag T x c]
 | .ptr b g i c, _ => [.ptr b g i c]
 | .ptrI b g c, i => [.ptr b g i c]
 | .ms b g, p => [.ms b g (Prod.fst p) (Prod.snd p)]
 | .msw b g, _ => [.msw b g]
 | .fn f fi ca, p => [.fn (.func f) (c9 fi (P2.fst fi.dflt _ _ p)) (c9 ca (P2.snd ca.dflt _ _ p))]
 | .agg l, p => [.agg (c9 l p)]
 | .tup l, p => [.tup (c9 l p)]
 | .nil, _ => []
 | .cons a b, p => c9 a (P2.fst a.dflt _ _ p) ++ c9 b (P2.snd b.dflt _ _ p)
 | .bnone, _ => []
 | .bts _ _ _ _ _, _ => []
 | .bcells _ _ _ _, _ => []
 | .bos _ _ _ _, _ => []
def jS : c5 → List KV
 | [] => []
 | h :: r => .agg [.ptr 0 0 h.1 h.2.1, h.2.2] :: jS r
def Pk : KV → Option (Nat × Nat × KV)
 | .agg cs => (match cs with
  | [a, v] => (match a with | .ptr _ _ i c => some (i, c, v) | _ => none)
  | _ => none)
 | _ => none
def iJ : List KV → c5
 | [] => []
 | v :: r => (match Pk v with | some h => h :: iJ r | none => iJ r)
def Ap (nz : Bool) : (s : Sh) → aD → Option s.den
 | .nil, m => (match m with | [] => some () | _ => none)
 | .cons a b, m => (match m with
  | x :: r =>
   (match Ap nz a [x] with
   | some x => (match Ap nz b r with | some y => some (P2.mk _ _ x y) | none => none)
   | none => none)
  | [] => none)
 | .bnone, m => (match m with | [none] => some () | _ => none)
 | .bts gen frz β ag T, m => (match m with
  | [some ⟨gen', frz', .ts β' ag' T' xs⟩] => bif f7 gen gen' && eG frz frz' && eG β β' && eG ag ag' then o5 T' T xs else none
  | _ => none)
 | .bcells gen frz e l, m => (match m with
  | [some ⟨gen', frz', .cells e' cs⟩] => bif f7 gen gen' && eG frz frz' && f7 e e' then eJ false l cs else none
  | _ => none)
 | .bos gen frz T l, m => (match m with
  | [some ⟨gen', frz', .os T' xs hs⟩] => bif f7 gen gen' && eG frz frz' then
    (match o5 T' T xs with
    | some ys => (match eJ false l (jS hs) with | some p => some (P2.mk false l.un ys p) | none => none)
    | none => none) else none
  | _ => none)
 | _, _ => none
def e8 : (s : Sh) → s.den → aD
 | .nil, _ => []
 | .cons a b, p => e8 a (P2.fst a.dflt _ _ p) ++ e8 b (P2.snd b.dflt _ _ p)
 | .bnone, _ => [none]
 | .bts gen frz β ag T, xs => [some ⟨gen, frz, .ts β ag T xs⟩]
 | .bcells gen frz e l, p => [some ⟨gen, frz, .cells e (c9 l p)⟩]
 | .bos gen frz T l, p => [some ⟨gen, frz, .os T (P2.fst (A := List (Go.Ab.den T)) [] false l.un p) (iJ (c9 l (P2.snd l.dflt false l.un p)))⟩]
 | _, _ => []
structure jD where
 ex : Iu
 slots : List Nat
 sh : Sh
 msh : Sh
def jD.den (s : jD) : Type := P2 s.sh.un s.msh.un s.sh.den s.msh.den
def dR : List Nat → List KV → Nat → KV
 | s :: ss, v :: vs => fun t => bif Nat.beq t s then v else dR ss vs t
 | _, _ => fun _ => .gone
def jF (env : Nat → KV) : List Nat → List KV
 | [] => []
 | s :: r => env s :: jF env r
def FH : Iu → Iu → Bool
 | .normal, .normal => true
 | .exit a, .exit b => Nat.beq a b
 | .ret, .ret => true
 | _, _ => false
def nH (nz : Bool) (s : jD) (st : yP) : Option s.den :=
 match eJ nz s.sh (jF st.env s.slots) with
 | some x => (match Ap nz s.msh st.mem with | some y => some (P2.mk _ _ x y) | none => none)
 | none => none
def dY (s : jD) (d : s.den) : yP := ⟨dR s.slots (c9 s.sh (P2.fst s.sh.dflt _ _ d)), e8 s.msh (P2.snd s.msh.dflt _ _ d)⟩
def eO : List jD → Type
 | [] => Empty
 | [a] => a.den
 | a :: b :: r => a.den ⊕ eO (b :: r)
def sR (nz : Bool) : (l : List jD) → Iu → yP → Option (eO l)
 | [], _, _ => none
 | [a], e, st => bif FH a.ex e then nH nz a st else none
 | a :: b :: r, e, st => match (bif FH a.ex e then nH nz a st else none) with
  | some x => some (Sum.inl x)
  | none => (match sR nz (b :: r) e st with | some y => some (Sum.inr y) | none => none)
def IV {R : Type} (I : PP R) : (l : List jD) → eO l → (Iu → yP → Option R) → Option R
 | [], _, _ => none
 | [a], d, k => k a.ex (dY a d)
 | a :: b :: r, d, k => I.sum d (fun x => k a.ex (dY a x)) (fun y => IV I (b :: r) y k)
structure aC where
 a : jD
 r : List jD
 sh : a.den → Option (eO r)
structure aL where
 heads : List jD
 outs : List jD
 run : eO heads → Option (eO outs)
def bL {S X : Type} (B : S → Option (S ⊕ X)) (n : Nat) : S → Option X :=
 Nat.rec (fun _ => none) (fun _ ih s => (B s).bind fun q => Sum.rec (fun s' => ih s') (fun x => some x) q) n
section
variable {R : Type} (I : PP R) (tab : TypeId → Option TI)
def dU : Nat → List Nat → Bool
 | _, [] => true
 | n, a :: r => Nat.ble n a && dU (a + 1) r
variable [b4]
def Lr (boxed vars : Bool) (t : TypeId) (rs : Nat) (env : Nat → KV) (x : Operand) (k : aZ → Option R) : Option R :=
 bif jM x && boxed && !vars then
  (match tab t with
  | some ti => (match ti.tk with | .sl et => vQ tab et fun row => k ⟨.msw rs 0, [], [(rs, ⟨0, false, row⟩)], []⟩ | _ => none)
  | none => none)
 else eP env x fun v =>
  match v with
  | .lit (.slice none 0 0) =>
   bif boxed then k (f8 v) else
   (match tab t with
   | some ti => (match ti.tk with | .sl et => vQ tab et fun row => (match row with | .ts β ag T xs => k (f8 (.tsl β ag T xs)) | _ => none) | _ => none)
   | none => none)
  | v => k (f8 v)
def N2 (c a b : KV) (k : KV → Option R) : Option R :=
 match c with
 | .lit (.bool t) =>
  match a, b with
  | .lit (.bool x), .lit (.bool y) => k (.lit (.bool (bif t then x else y)))
  | _, _ => I.ite t (k a) (k b)
 | _ => none
def FR (boxed : Bool) (src dst : TypeId) (mem : aD) (rs : Nat) (x : KV) (k : aZ → Option R) : Option R :=
 match tab src, tab dst with
 | some s, some d =>
  match s.tk, d.tk with
  | .int _, .int kd => (match x with | .lit (.int _ n) => k (f8 (.lit (.int kd (dL kd n)))) | _ => none)
  | .str, .str => (match x with | .lit (.string b) => k (f8 (.lit (.string b))) | _ => none)
  | .sl e, .str =>
   (match tab e with
   | some te =>
    (match te.tk with
    | .int ke => bif gK ke .u8 && Nat.beq te.n 1 && Dw tab src x then I7 I tab e mem x fun row rd =>
      (match row with
      | .ts _ ag (.int ke') xs => bif gK ke' .u8 && !ag then k ⟨.lit (.string (i6 xs)), rd, [], []⟩ else none
      | _ => none) else none
    | _ => none)
   | none => none)
  | .sl _, .sl e =>
   (match tab e, x with
   | some te, .msw b g =>
    (match te.tk with
    | .int ke => bif gK ke .u8 && Nat.beq src dst then oJ mem b g fun x => I.guard (Nat.ble 1 (fV x.row)) (k ⟨.msw b g, [b], [], []⟩) else none
    | _ => none)
   | _, _ => none)
  | _, _ => none
 | _, _ => none
def pC (mem : aD) (t : TypeId) (v : KV) (k : KV → List Nat → Option R) : Option R :=
 match v with
 | .msw _ _ | .ms _ _ _ _ =>
  (match tab t with
  | some ti => bif ti.ag then none else (match ti.ty with
   | some (.sl ag T) => wX I mem (.sl ag T) [v] fun xs _ l => k (.tsl true ag T xs) l
   | _ => none)
  | none => none)
 | .agg cs => bif hasMsK cs then
   (match tab t with
   | some ti => (match ti.ty with | some T => lendCellsK mem (c7 T) cs fun vs l => k (.agg vs) l | none => none)
   | none => none)
  else k (.agg cs) []
 | v => k v []
 where
 hasMsK : List KV → Bool
  | [] => false
  | .msw _ _ :: _ => true
  | .ms _ _ _ _ :: _ => true
  | _ :: r => hasMsK r
 lendCellsK (mem : aD) : List Ty → List KV → (List KV → List Nat → Option R) → Option R
  | [], [], k => k [] []
  | T :: Ts, v :: vs, k =>
   (match v with
   | .msw _ _ | .ms _ _ _ _ =>
    (match T with
    | .sl ag T => wX I mem (.sl ag T) [v] fun xs _ l => lendCellsK mem Ts vs fun ws l' => k (.tsl true ag T xs :: ws) (l ++ l')
    | _ => none)
   | v => lendCellsK mem Ts vs fun ws l' => k (v :: ws) l')
  | _, _, _ => none
def z8 (mem : aD) : List TypeId → List KV → (List KV → List Nat → Option R) → Option R
 | [], [], k => k [] []
 | t :: ts, v :: vs, k => pC I tab mem t v fun w l => z8 mem ts vs fun ws l' => k (w :: ws) (l ++ l')
 | _, _, _ => none
def mQ (mem sub : aD) (ids : List Nat) : jV := fun b g =>
  (match dZ ids b with
  | some a => (match dZ sub b, sF mem a with
   | some (some x), some h => bif Nat.beq x.gen g then some (a, h + x.gen) else none
   | _, _ => none)
  | none => bif Nat.beq g 0 && Nat.blt b sub.length then some (mem.length + (b - ids.length), 0) else none)
def iO (f : jV) (mem : aD) : List Nat → aD → List (Nat × dD)
 | a :: ids, some x :: r => (a, ⟨(match sF mem a with | some h => h + x.gen | none => 0), x.frz, x.row.ren f⟩) :: iO f mem ids r
 | _ :: ids, none :: r => iO f mem ids r
 | _, _ => []
def wP (f : jV) : aD → aD
 | [] => []
 | some x :: r => some ⟨0, x.frz, x.row.ren f⟩ :: wP f r
 | none :: r => none :: wP f r
variable (tbl : FuncId → List aC)
def jQ : Sh → List KV → Bool
 | .int _, vs => (match vs with | [.lit (.int _ _)] => true | _ => false)
 | .bool, vs => (match vs with | [.lit (.bool _)] => true | _ => false)
 | .str, vs => (match vs with | [.lit (.string _)] => true | _ => false)
 | .nilS, vs => (match vs with | [.lit (.slice none 0 0)] => true | _ => false)
 | .nilP, vs => (match vs with | [.lit (.pointer none)] => true | _ => false)
 | .undef, vs => (match vs with | [.lit (.tuple _)] => true | _ => false)
 | .sl _ _ _, vs => (match vs with | [.tsl _ _ _ _] => true | [.lit (.slice none 0 0)] => true | _ => false)
 | .el _ _ _ c, vs => (match vs with | [.el _ _ _ _ c'] => f7 c c' | _ => false)
 | .ptr b g i c, vs => (match vs with | [.ptr b' g' i' c'] => f7 b b' && f7 g g' && f7 i i' && f7 c c' | _ => false)
 | .ptrI b g c, vs => (match vs with | [.ptr b' g' _ c'] => f7 b b' && f7 g g' && f7 c c' | _ => false)
 | .ms b g, vs => (match vs with | [.ms b' g' _ _] => f7 b b' && f7 g g' | _ => false)
 | .msw b g, vs => (match vs with | [.msw b' g'] => f7 b b' && f7 g g' | _ => false)
 | .fn f fi ca, vs => (match vs with | [.fn (.func f') fi' ca'] => f7 f f' && jQ fi fi' && jQ ca ca' | _ => false)
 | .agg l, vs => (match vs with | [.agg cs] => jQ l cs | _ => false)
 | .tup l, vs => (match vs with | [.tup cs] => jQ l cs | _ => false)
 | .nil, vs => (match vs with | [] => true | _ => false)
 | .cons a b, vs => (match vs with | v :: r => jQ a [v] && jQ b r | [] => false)
 | .bnone, _ => false
 | .bts _ _ _ _ _, _ => false
 | .bcells _ _ _ _, _ => false
 | .bos _ _ _ _, _ => false
def Ch : Sh → aD → Bool
 | .nil, m => (match m with | [] => true | _ => false)
 | .cons a b, m => (match m with | x :: r => Ch a [x] && Ch b r | [] => false)
 | .bnone, m => (match m with | [none] => true | _ => false)
 | .bts gen frz _ _ _, m => (match m with | [some ⟨gen', frz', .ts _ _ _ _⟩] => f7 gen gen' && eG frz frz' | _ => false)
 | .bcells gen frz e l, m => (match m with | [some ⟨gen', frz', .cells e' cs⟩] => f7 gen gen' && eG frz frz' && f7 e e' && jQ l cs | _ => false)
 | .bos gen frz _ l, m => (match m with | [some ⟨gen', frz', .os _ _ hs⟩] => f7 gen gen' && eG frz frz' && jQ l (jS hs) | _ => false)
 | _, _ => false
def OL (g : FuncId) (args : List KV) (mem : aD) (k : KV → aD → Option R) : List aC → Option R
 | [] => I.ask g args mem k
 | E :: r => bif jQ E.a.sh args && Ch E.a.msh mem then
   (match nH true E.a ⟨dR E.a.slots args, mem⟩ with
   | some a => bif Nat.beq args.length E.a.slots.length then I.bind (E.sh a) fun b => IV I E.r b fun _ st => k (st.env 0) st.mem else none
   | none => none)
  else OL g args mem k r
def PQ (g : FuncId) (args : List KV) (mem : aD) (k : KV → aD → Option R) : Option R := OL I g args mem k (tbl g)
def NE (keep : Bool) (mem : aD) (ts : List TypeId) (vs : List KV) (k : List KV → List Nat → Option R) : Option R := bif keep then k vs [] else z8 I tab mem ts vs k
def Nd (raw keep : Bool) (g : FuncId) (ts : List TypeId) (fi args ca : List KV) (mem : aD) (k : aZ → Option R) : Option R :=
 NE I tab keep mem ts args fun la lb =>
 let all := fi ++ la ++ ca
 let ids := sS mem (jU mem (KV.refsAll all).length) (KV.refsAll all) []
 bif dQ ids && vI lb ids then
  PQ I tbl g (KV.renAll (mM 0 true mem ids) all) (o8 0 true (mM 0 true mem ids) mem 0 ids) fun v sub =>
  let m := ids.length
  let r := bif raw then v else wH m sub v
  bif Nat.ble m sub.length && (fM lb || !(v.lent || sV sub)) then
   bif fN m r.refs && fN m (h8 (sub.take m)) then
    k ⟨r.ren (mQ mem (sub.take m) ids), lb ++ ids, iO (mQ mem (sub.take m) ids) mem ids sub, []⟩
   else
    k ⟨v.ren (mQ mem sub ids), lb ++ ids, iO (mQ mem sub ids) mem ids sub, wP (mQ mem sub ids) (sub.drop m)⟩
  else none
 else none
def NY (mem : aD) (t tx : TypeId) (rs : Nat) (n : Int) (k : aZ → Option R) : Option R :=
 match tab tx with
 | some tix => (match tix.tk with
  | .int _ => rK tab t fun et te =>
   (match te.ty with
   | some T => bif Nat.ble 1 te.n && Nat.ble te.bytes 4096 && Nat.beq te.n T.size && Nat.beq te.zero.length te.n && !(aY te.ag T) then
     wX I mem T (te.zero.map .lit) fun z β l => bif !(fM l) then none else I.guard (decide (1 ≤ n) && Nat.ble n.toNat bD) (k ⟨.msw rs 0, [], [(rs, ⟨0, false, .ts β te.ag T (List.replicate n.toNat z)⟩)], []⟩)
    else none
   | none => none)
  | _ => none)
 | none => none
def AI (boxed vars : Bool) (b : Builtin) (ts : List TypeId) (mem : aD) (rs : Nat) (args : List KV) (k : aZ → Option R) : Option R :=
 match b with
 | .len => (match ts, args with | [t], [x] => Pw tab t mem x fun n rd => k ⟨.lit (.int .i64 n), rd, [], []⟩ | _, _ => none)
 | .append => (match ts, args with | [t, tx], [x, y] => (match x, y with | .lit (.slice none 0 0), .lit (.int _ n) => NY I tab mem t tx rs n k | _, _ => HJ I tab boxed vars t tx mem rs x y k) | _, _ => none)
 | .cap => (match ts, args with | [t], [.lit (.slice none 0 0)] => (match tab t with | some ti => (match ti.tk with | .sl _ => k (f8 (.lit (.int .i64 0))) | _ => none) | none => none) | _, _ => none)
 | .min => (match args with | .lit (.int kd a) :: r => (match sY Fp kd r a with | some v => k (f8 (.lit (.int kd v))) | none => none) | _ => none)
 | .max => (match args with | .lit (.int kd a) :: r => (match sY CP kd r a with | some v => k (f8 (.lit (.int kd v))) | none => none) | _ => none)
 | _ => none
def Am (k : IntKind) : List KV → Option (List Int)
 | [] => some []
 | .lit (.int k' x) :: r => bif gK k k' then (match Am k r with | some xs => some (x :: xs) | none => none) else none
 | _ :: _ => none
def sC (boxed vars : Bool) (env : Nat → KV) (mem : aD) (rs : Nat) (t : TypeId) (len : Nat) (parts : Array (Nat × Operand)) (k : aZ → Option R) : Option R :=
 rK tab t fun et te => Bp env parts.toList fun ps =>
 let z := eN te
 let vs := pH (List.replicate len z) ps
 bif vL len ps && Nat.ble len 4096 && Nat.ble 1 te.n && Nat.ble te.n 4096 && pB te.n (z :: ps.map (·.2)) && pB te.n vs then
  match te.tk with
  | .int kd => bif Nat.beq te.n 1 then (match Am kd vs with | some xs => Gq (boxed || Nat.beq len 0) rs (.ts false false (.int kd) xs) [] [] k | none => none) else none
  | _ => bif vars then (bif rH (j0 vs) then Gq (boxed || Nat.beq len 0) rs (.cells te.n (j0 vs)) [] [] k else none)
   else (match te.ty with
    | some T => HZ I mem te.ag T vs fun xs β l => Gq (boxed || Nat.beq len 0) rs (.ts β te.ag T xs) l (lT mem l) k
    | none => none)
 else none
def yZ (boxed : Bool) (mem : aD) (t : TypeId) (rs : Nat) (l c : KV) (k : aZ → Option R) : Option R :=
 rK tab t fun et te =>
 match l, c with
 | .lit (.int _ n), .lit (.int _ n') =>
  (match te.ty with
  | some T => bif Nat.ble 1 te.n && Nat.ble te.bytes 4096 && Nat.beq te.n T.size && Nat.beq te.zero.length te.n then
    wX I mem T (te.zero.map .lit) fun z β l => bif !(fM l) then none else I.guard ((n == n') && decide (0 ≤ n) && Nat.ble n.toNat bD) (Gq boxed rs (.ts β te.ag T (List.replicate n.toNat z)) [] [] k)
   else none
  | none => none)
 | _, _ => none
def HL (t : TypeId) (x ix : KV) (k : aZ → Option R) : Option R :=
 match x, ix with
 | .agg cs, .lit (.int _ i) =>
  (match tab t with
  | some ti => (match ti.tk with
   | .arr n e => (match tab e with
    | some te => bif !te.ag && Nat.beq te.n 1 then I.guard (decide (0 ≤ i) && decide (i < (n : Int))) (N6 I i.toNat cs 0 fun v => k (f8 v)) else none
    | none => none)
   | _ => none)
  | none => none)
 | .lit (.string s), .lit (.int _ i) =>
  (match tab t with
  | some ti => (match ti.tk with
   | .str => I.get (e4 s) i fun n => k (f8 (.lit (.int .u8 n)))
   | _ => none)
  | none => none)
 | _, _ => none
def JS (boxed raw vars : Bool) (o : Oper) (env : Nat → KV) (mem : aD) (rs : Nat) (k : aZ → Option R) : Option R :=
 match o.op with
 | .move x => Lr tab boxed vars o.type rs env x k
 | .assign x => Lr tab boxed vars o.type rs env x k
 | .pick c a b => eP env c fun c => eP env a fun a => eP env b fun b => N2 I c a b fun v => k (f8 v)
 | .alloc t => (match tab t with | some ti => bif Nat.ble 1 ti.zero.length && rH (ti.zero.map .lit) then k ⟨.ptr rs 0 0 0, [], [(rs, ⟨0, false, .cells 1 (ti.zero.map .lit)⟩)], []⟩ else none | none => none)
 | .box t x => eP env x fun v => (match tab t with | some ti => bif Nat.beq v.cells.length ti.n && Nat.ble 1 ti.n && rH v.cells then k ⟨.ptr rs 0 0 0, [], [(rs, ⟨0, false, .cells 1 v.cells⟩)], []⟩ else none | none => none)
 | .build t parts => Bp env parts.toList fun ps =>
  (match tab t with
  | some ti =>
   (match ti.tk with
   | .st fs => (match Ce (fun i => match dZ fs i with | some q => some (q.1, q.2.1) | none => none) (eN ti).cells ps with | some cs => k (f8 (.agg cs)) | none => none)
   | .arr _ e => (match tab e with | some te => (match Ce (fun i => some (i * te.n, te.n)) (eN ti).cells ps with | some cs => k (f8 (.agg cs)) | none => none) | none => none)
   | _ => none)
  | none => none)
 | .buildSlice t len parts => sC I tab boxed vars env mem rs t len parts k
 | .load t a => eP env a fun a => Ls I tab t mem a k
 | .store t a x => eP env a fun a => eP env x fun x => Lk I tab t mem a x k
 | .nilCheck x => eP env x fun v => (match v with | .ptr _ _ _ _ => k (f8 v) | .el _ _ _ _ _ => k (f8 v) | .fn (.func _) _ _ => k (f8 v) | _ => none)
 | .binOp op t x y _ => eP env x fun x => eP env y fun y => Ph I tab op t x y fun v => k (f8 v)
 | .unOp op _ x => eP env x fun x => P9 op x fun v => k (f8 v)
 | .convert src dst x => eP env x fun x => FR I tab boxed src dst mem rs x k
 | .makeFunc fn first cap => rI env first.toList fun fi => rI env cap.toList fun ca => k (f8 (.fn fn fi ca))
 | .makeSlice t l c => eP env l fun l => eP env c fun c => yZ I tab boxed mem t rs l c k
 | .slice t x lo hi mx => eP env x fun x => IU env lo fun lo => IU env hi fun hi => IU env mx fun mx => K5 I tab t mem x lo hi mx k
 | .fieldAddr s x f => eP env x fun x => Ij tab s f fun off _ _ =>
  (match x with
  | .ptr b g i c => k (f8 (.ptr b g i (c + off)))
  | .el β ag T x c => k (f8 (.el β ag T x (c + off)))
  | _ => none)
 | .field s x f => eP env x fun x => Ij tab s f fun off n ft =>
  (match x with
  | .agg cs => (match tab ft with
   | some tf => bif tf.ag then bif Nat.ble (off + n) cs.length then k (f8 (.agg ((cs.drop off).take n))) else none
     else (match dZ cs off with | some v => k (f8 v) | none => none)
   | none => none)
  | _ => none)
 | .indexAddr t x ix => eP env x fun x => eP env ix fun ix => (match ix with | .lit (.int _ i) => Lc I tab t mem x i k | _ => none)
 | .index t x ix => eP env x fun x => eP env ix fun ix => HL I tab t x ix k
 | .extract t ix => eP env t fun t => (match t with | .tup vs => (match dZ vs ix with | some v => k (f8 v) | none => none) | _ => none)
 | .call c => rI env c.args.toList fun args =>
  (match c.callee with
  | .builtin b => AI I tab boxed vars b c.argTypes.toList mem rs args k
  | .value f => eP env f fun f => (match f with | .fn (.func g) fi ca => Nd I tab tbl raw vars g c.argTypes.toList fi args ca mem k | _ => none)
  | .invoke _ _ => none)
 | _ => none
def K8 (rs : Nat) (t : TypeId) (l c : KV) (k : aZ → Option R) : Option R :=
 rK tab t fun et te =>
 match l, c with
 | .lit (.int _ n), .lit (.int _ n') =>
  (match te.ty with
  | some T => bif Nat.ble 1 te.n && Nat.ble te.bytes 4096 && Nat.beq te.zero.length te.n && rH (te.zero.map .lit) && eG te.ag (eY T) then
    (match Nx (c7 T) (te.zero.map .lit) 0 0 with
    | some a => (match a.2 with
     | [] => eT I [] T a.1 fun z _ _ => I.guard ((n == n') && decide (0 ≤ n) && Nat.ble n.toNat bD) (k ⟨.msw rs 0, [], [(rs, ⟨0, false, .os T (List.replicate n.toNat z) []⟩)], []⟩)
     | _ => none)
    | none => none)
   else none
  | none => none)
 | _, _ => none
def q8 : List KV → List (List KV)
 | [] => []
 | v :: r => v.cells :: q8 r
def Ht (env : Nat → KV) (rs : Nat) (t : TypeId) (len : Nat) (parts : Array (Nat × Operand)) (k : aZ → Option R) : Option R :=
 rK tab t fun et te => Bp env parts.toList fun ps =>
 let z := eN te
 let vs := pH (List.replicate len z) ps
 match te.ty with
 | some T => bif vL len ps && Nat.ble len 4096 && Nat.ble 1 te.n && Nat.ble te.n 4096 && pB te.n (z :: ps.map (·.2)) && Nat.ble 1 len && rH (j0 vs) && eG te.ag (eY T) then
   Ff I T (q8 vs) 0 fun xs hs => k ⟨.msw rs 0, [], [(rs, ⟨0, false, .os T xs hs⟩)], []⟩
  else none
 | none => none
def Ii (t : TypeId) (rs : Nat) (k : aZ → Option R) : Option R :=
 rK tab t fun et te => match te.ty with
 | some T => bif eG te.ag (eY T) then k ⟨.msw rs 0, [], [(rs, ⟨0, false, .os T [] []⟩)], []⟩ else none
 | none => none
def ON (own tk boxed raw vars : Bool) (o : Oper) (env : Nat → KV) (mem : aD) (rs : Nat) (k : aZ → Option R) : Option R :=
 match o.op with
 | .move x => bif own && jM x then Ii tab o.type rs k else JS I tab tbl boxed raw vars o env mem rs k
 | .assign x => bif own && jM x then Ii tab o.type rs k else JS I tab tbl boxed raw vars o env mem rs k
 | .buildSlice t len parts => bif own then Ht I tab env rs t len parts k else JS I tab tbl boxed raw vars o env mem rs k
 | .makeSlice t l c => bif own then eP env l fun l => eP env c fun c => K8 I tab rs t l c k else JS I tab tbl boxed raw vars o env mem rs k
 | .load t a => eP env a fun v => bif Ey mem v then Kx I tab tk t mem v k else JS I tab tbl boxed raw vars o env mem rs k
 | .store t a x => eP env a fun v => bif Ey mem v then eP env x fun x => G8 I tab t mem v x k else JS I tab tbl boxed raw vars o env mem rs k
 | .slice t x lo hi mx => eP env x fun v => bif x9 mem v then IU env lo fun lo => IU env hi fun hi => IU env mx fun mx => Hv I tab t mem v lo hi mx k else JS I tab tbl boxed raw vars o env mem rs k
 | .indexAddr t x ix => eP env x fun v => bif x9 mem v then eP env ix fun ix => (match ix with | .lit (.int _ i) => He I tab t mem v i k | _ => none) else JS I tab tbl boxed raw vars o env mem rs k
 | .call c =>
  (match c.callee with
  | .builtin .len => rI env c.args.toList fun args => (match c.argTypes.toList, args with
   | [t], [x] => bif LI mem x then Nt tab t mem x k else JS I tab tbl boxed raw vars o env mem rs k
   | _, _ => JS I tab tbl boxed raw vars o env mem rs k)
  | .builtin .append => rI env c.args.toList fun args => (match c.argTypes.toList, args with
   | [t, tx], [x, y] => bif own || x9 mem x then FT I tab own t tx mem rs x y k else JS I tab tbl boxed raw vars o env mem rs k
   | _, _ => none)
  | _ => JS I tab tbl boxed raw vars o env mem rs k)
 | _ => JS I tab tbl boxed raw vars o env mem rs k
def wV (mem : aD) : List (Nat × dD) → aD
 | [] => mem
 | (b, x) :: r => wV (vW (some x) mem b) r
def aZ.apply (o : aZ) (mem : aD) : aD := wV mem o.wr ++ o.push
def Hp (mem : aD) (rs : Nat) : Bool :=
 match dZ mem rs with
 | some none => true
 | _ => false
def GP : aD → aD
 | [] => []
 | x :: r => match GP r with
  | [] => (match x with | none => [] | some b => [some b])
  | y => x :: y
def H6 : KV → Option (Nat × Nat × Nat × Nat)
 | .ptr b g i c => some (b, g, i, c)
 | _ => none
def AM (x : dD) : Option (Nat × Nat × List (Option (Nat × Nat × Nat × Nat))) :=
 match x.row with
 | .cells e cs => some (x.gen, e, cs.map H6)
 | _ => none
def mU (mem : aD) (b : Nat) : Option (Nat × Nat × List (Option (Nat × Nat × Nat × Nat))) :=
 match dZ mem b with
 | some (some x) => AM x
 | _ => none
def zM (mem : aD) (wr : List (Nat × dD)) (b : Nat) : Bool := wr.all fun q => !(Nat.beq q.1 b) || If (AM q.2) (mU mem b)
def Ni (op : Op) (mem : aD) (v : KV) (rd : List Nat) : Bool :=
 KE op && (match H6 v with | some _ => true | none => false) && (match rd with | [b] => (match mU mem b with | some _ => true | none => false) | _ => false)
def aZ.tr (mk : Bool) (rs : Nat) (o : aZ) (i : Nat) (op : Op) (mem : aD) : Tr := { i, rc := Ni op mem o.v o.rd, wk := zM mem o.wr, rd := o.rd, wr := bif mk then rs :: o.wr.map (·.1) else o.wr.map (·.1), push := match o.push with | [] => false | _ => true }
def L0 (h : Option Int) (v : KV) (k : KV → Option R) : Option R :=
 match h with
 | none => k v
 | some x => match v with
  | .lit (.int kd y) => I.guard (decide (y = x)) (k (.lit (.int kd x)))
  | _ => none
def Km (an : lC) (tk : Bool) (rid : Nat) (ds : List (Option Tmp)) : List Oper → Nat → Nat → yP → List Tr → (yP → List Tr → Option R) → Option R
 | [], _, _, st, tr, k => k st tr
 | o :: rest, i, rs, st, tr, k =>
  let mk := d4 o.op
  let rs' := bif mk then rs + 1 else rs
  let run (env : Nat → KV) : Option R := bif (bif mk then Hp st.mem rs else true) then ON I tab tbl (a7 rid i an.own) tk (a7 rid i an.boxed) (a7 rid i an.raw) (a7 rid i an.vars) o env st.mem rs fun out =>
   L0 I (Bu rid i an.hint) out.v fun v => Km an tk rid ds rest (i + 1) rs' ⟨y5 env o.dst v, out.apply st.mem⟩ (out.tr mk rs i o.op st.mem :: tr) k else none
  let skip (env : Nat → KV) : Option R := Km an tk rid ds rest (i + 1) rs' ⟨y5 env o.dst (.lit undef), st.mem⟩ tr k
  match o.guard with
  | none => run st.env
  | some (j, want) =>
   match dZ ds j with
   | some (some d) =>
    (match st.env d with
    | .lit (.bool b) =>
     I.ite b ((fun env => bif want then run env else skip env) (mD st.env d (.lit (.bool true)))) ((fun env => bif want then skip env else run env) (mD st.env d (.lit (.bool false))))
    | .lit (.tuple _) => skip st.env
    | _ => none)
   | _ => none
def C3 (an : lC) (rid : Nat) (ops : Array Oper) (draw : Bool) (st : yP) (k : yP → Option R) : Option R :=
 let n := oD ops.toList
 Km I tab tbl an (!draw) rid (ops.toList.map (·.dst)) ops.toList 0 st.mem.length ⟨st.env, st.mem ++ List.replicate n none⟩ [] fun st' tr =>
  bif !draw || HV ops (st.mem.length + n) tr then k ⟨st'.env, GP st'.mem⟩ else none
def nO (env : Nat → KV) (c : Operand) (b : Bool) : Nat → KV :=
 match c with
 | .tmp d => mD env d (.lit (.bool b))
 | _ => env
def Gr (keep : Bool) (old : List (Option Bool)) (live : List Nat) (st : yP) (k : yP → Option R) : Option R :=
 rI st.env (live.map .tmp) fun vs => BF I keep old vs st.mem fun vs' mem' => k ⟨dR live vs', mem'⟩
def Nq (mem : aD) (off : Nat) (v : KV) (k : KV → Option R) : Option R :=
 match v with
 | .ptr b g i c => oJ mem b g fun x => (match x.row with
  | .cells e cs => (match dZ cs (i * e + c + off) with | some v => k v | none => none)
  | _ => none)
 | v => k v
def Hr (mem : aD) (s : KV) (n c : Nat) (k : aD → Option R) : Option R :=
 match s with
 | .msw b g => rF mem b g fun bx => (match bx.row with
  | .os T xs hs => I.getN xs n fun x => (match dZ (cellsOf true T x) c with
   | some (.tsl β ag T' ys) => A1 I true n c (.tsl β ag T' ys) hs mem.length fun _ hs' rows => k (vW (some ⟨bx.gen, bx.frz, .os T xs hs'⟩) mem b ++ oO rows)
   | _ => none)
  | _ => none)
 | _ => none
def NV (env : Nat → KV) (mem : aD) (q : Operand × Nat × Operand × Nat) (k : aD → Option R) : Option R :=
 eP env q.1 fun p => Nq mem q.2.1 p fun s => eP env q.2.2.1 fun v =>
  match v with
  | .lit (.int _ n) => I.guard (decide (0 ≤ n)) (Hr I mem s n.toNat q.2.2.2 k)
  | _ => none
def Ig (env : Nat → KV) : List (Operand × Nat × Operand × Nat) → aD → (aD → Option R) → Option R
 | [], mem, k => k mem
 | q :: r, mem, k => NV I env mem q fun mem' => Ig env r mem' k
def LQ (an : lC) (rid : Nat) (old : List (Option Bool)) (st : yP) (k : yP → Option R) : Option R :=
 match eE rid an.tidy with
 | none => k st
 | some q => bif dU 0 q.1 then rI st.env (q.1.map .tmp) fun vs => Kq I old.length vs st.mem fun mem => Ig I (dR q.1 vs) q.2 mem fun mem' => k ⟨dR q.1 vs, mem'⟩ else none
variable (loops : Nat → Option aL)
def gY (an : lC) (old : List (Option Bool)) : Code → Nat → yP → (Iu → yP → Option R) → Option R
 | .skip, _, st, k => k .normal st
 | .ret, _, st, k => k .ret st
 | .exit id, _, st, k => k (.exit id) st
 | .seq a b, bid, st, k => gY an old a bid st fun e st' =>
  match e with
  | .normal => gY an old b bid st' k
  | .exit id => k (.exit id) st'
  | .ret => k .ret st'
 | .cond c x y, bid, st, k => eP st.env c fun v =>
  match v with
  | .lit (.bool t) => I.ite t (gY an old x bid ⟨nO st.env c true, st.mem⟩ k) (gY an old y bid ⟨nO st.env c false, st.mem⟩ k)
  | .unkB => I.amb (gY an old x bid st k) (gY an old y bid st k)
  | _ => none
 | .block id c, _, st, k => gY an old c id st fun e st' =>
  match e with
  | .normal => k .normal st'
  | .exit j => bif Nat.beq j id then k .normal st' else k (.exit j) st'
  | .ret => k .ret st'
 | .loop c, bid, st, k =>
  match eE bid an.live with
  | some live => Gr I (eZ bid an.keep) old live st fun st1 =>
   (match loops bid with
   | some L => (match sR false L.heads .normal st1 with
    | some s => I.bind (L.run s) fun x => IV I L.outs x k
    | none => I.loop bid st1 k)
   | none => I.loop bid st1 k)
  | none => none
 | .region rid ops draw, _, st, k => LQ I an rid old st fun st => C3 I tab tbl an rid ops draw st (fun st' => k .normal st')
 | _, _, _, _ => none
def Kj (env : Nat → KV) (mem : aD) : List ResultVar → (List KV → Option R) → Option R
 | [], k => k []
 | .tmp t :: r, k => eP env (.tmp t) fun v => Kj env mem r fun vs => k (v :: vs)
 | .cell a t :: r, k => eP env (.tmp a) fun a => Ls I tab t mem a fun o => Kj env mem r fun vs => k (o.v :: vs)
def vY : List KV → KV
 | [v] => v
 | vs => .tup vs
def PM (fn : Func) (old : List (Option Bool)) (e : Iu) (st : yP) (k : KV → aD → Option R) : Option R :=
 match e with
 | .exit _ => none
 | _ => Kj I tab st.env st.mem fn.results.toList fun vs => BF I true old [vY vs] st.mem fun ws mem' => (match ws with | [v] => k v mem' | _ => none)
def Ad (args : List KV) (n : Nat) : Nat → KV := fun t =>
 match dZ args t with
 | some v => v
 | none => bif Nat.blt t n then .lit undef else .gone
def OZ (an : lC) (fn : Func) (args : List KV) (mem : aD) (k : KV → aD → Option R) : Option R :=
 match fn.body with
 | some c => gY I tab tbl loops an (e9 mem) c 0 ⟨Ad args fn.ntmps, mem⟩ fun e st => PM I tab fn (e9 mem) e st k
 | none => none
def OP (an : lC) (fn : Func) (a : jD) (r : List jD) (d : a.den) (k : eO r → Option R) : Option R :=
 OZ I tab tbl loops an fn (c9 a.sh (P2.fst a.sh.dflt _ _ d)) (e8 a.msh (P2.snd a.msh.dflt _ _ d)) fun v mem =>
  match sR true r .ret ⟨dR [0] [v], mem⟩ with
  | some b => k b
  | none => none
def fH : Code → Nat → List (Nat × Code)
 | .seq a b, bid => fH a bid ++ fH b bid
 | .cond _ x y, bid => fH x bid ++ fH y bid
 | .block id c, _ => fH c id
 | .loop c, bid => (bid, c) :: fH c bid
 | _, _ => []
def Fg (an : lC) (old : List (Option Bool)) (c : Code) (bid : Nat) (live : List Nat) (heads outs : List jD) (s : eO heads) (k : eO heads ⊕ eO outs → Option R) : Option R :=
 IV I heads s fun _ st0 => gY I tab tbl loops an old c bid st0 fun e st =>
  match e with
  | .normal => Gr I (eZ bid an.keep) old live st fun st1 => (match sR false heads .normal st1 with | some s' => k (.inl s') | none => none)
  | .exit id => (match sR false outs (.exit id) st with | some x => k (.inr x) | none => none)
  | .ret => (match sR false outs .ret st with | some x => k (.inr x) | none => none)
end
end
end Go.Ab
