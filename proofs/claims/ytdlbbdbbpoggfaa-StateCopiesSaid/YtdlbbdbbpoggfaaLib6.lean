import Derived.Test.YtdlbbdbbpoggfaaLib5
set_option linter.unusedVariables false
set_option linter.unusedSectionVars false
namespace Go.Ab
noncomputable section
inductive Sh where
 | int (k : IntKind) | bool | str
 | nilS | nilP | undef
 | sl (β ag : Bool) (T : Ty)
 | el (β ag : Bool) (T : Ty) (c : Nat)
 | ptr (b g i c : Nat)
 | ptrI (b g c : Nat)
 | ms (b g : Nat)
 | msw (b g : Nat)
 | fn (f : FuncId) (fi ca : Sh)
 | agg (l : Sh)
 | tup (l : Sh)
 | nil
 | cons (a b : Sh)
 | bnone
 | bts (gen : Nat) (frz β ag : Bool) (T : Ty)
 | bcells (gen : Nat) (frz : Bool) (e : Nat) (l : Sh)
 | bos (gen : Nat) (frz : Bool) (T : Ty) (l : Sh)
def P2 (ua ub : Bool) (A B : Type) : Type := Bool.rec (Bool.rec (A × B) A ub) B ua
def P2.mk {A B : Type} : (ua ub : Bool) → A → B → P2 ua ub A B
 | true, _, _, b => b
 | false, true, a, _ => a
 | false, false, a, b => (a, b)
def P2.fst {A B : Type} (da : A) : (ua ub : Bool) → P2 ua ub A B → A
 | true, _, _ => da
 | false, true, p => p
 | false, false, p => p.1
def P2.snd {A B : Type} (db : B) : (ua ub : Bool) → P2 ua ub A B → B
 | true, _, p => p
 | false, true, _ => db
 | false, false, p => p.2
def Sh.un (s : Sh) : Bool :=
 Sh.rec (fun _ => false) false false true true true (fun _ _ _ => false) (fun _ _ _ _ => false) (fun _ _ _ _ => true) (fun _ _ _ => false) (fun _ _ => false) (fun _ _ => true)
  (fun _ _ _ a b => bAnd a b) (fun _ a => a) (fun _ a => a) true (fun _ _ a b => bAnd a b) true (fun _ _ _ _ _ => false) (fun _ _ _ _ a => a) (fun _ _ _ _ _ => false) s
def Sh.den (s : Sh) : Type :=
 Sh.rec (fun _ => Int) Bool ByteArray Unit Unit Unit (fun _ _ T => List (Go.Ab.den T)) (fun _ _ T _ => Go.Ab.den T) (fun _ _ _ _ => Unit) (fun _ _ _ => Nat) (fun _ _ => Nat × Nat) (fun _ _ => Unit)
  (fun _ fi ca a b => P2 fi.un ca.un a b) (fun _ a => a) (fun _ a => a) Unit (fun a b x y => P2 a.un b.un x y) Unit (fun _ _ _ _ T => List (Go.Ab.den T)) (fun _ _ _ _ a => a) (fun _ _ T l a => P2 false l.un (List (Go.Ab.den T)) a) s
def Sh.dflt : (s : Sh) → s.den
 | .int _ => (0 : Int)
 | .bool => false
 | .str => ByteArray.empty
 | .nilS | .nilP | .undef | .ptr _ _ _ _ | .msw _ _ | .nil | .bnone => ()
 | .sl _ _ _ => ([] : List _)
 | .el _ _ T _ => dT T
 | .ptrI _ _ _ => (0 : Nat)
 | .ms _ _ => ((0, 0) : Nat × Nat)
 | .fn _ fi ca => P2.mk _ _ fi.dflt ca.dflt
 | .agg l => l.dflt
 | .tup l => l.dflt
 | .cons a b => P2.mk _ _ a.dflt b.dflt
 | .bts _ _ _ _ _ => ([] : List _)
 | .bcells _ _ _ l => l.dflt
 | .bos _ _ _ l => P2.mk false l.un [] l.dflt
 where
 dT : (T : Ty) → Go.Ab.den T
 | .int _ => (0 : Int)
 | .bool => false
 | .str => ByteArray.empty
 | .sl _ _ => ([] : List _)
 | .cons a b => (dT a, dT b)
def eqN (a b : Nat) : Bool := Nat.beq a b
def decS (nz : Bool) : (s : Sh) → List KV → Option s.den
 | .int k, vs => (match vs with | [.lit (.int k' x)] => bif kEq k k' then some x else none | _ => none)
 | .bool, vs => (match vs with | [.lit (.bool x)] => some x | _ => none)
 | .str, vs => (match vs with | [.lit (.string x)] => some x | _ => none)
 | .nilS, vs => (match vs with | [.lit (.slice none 0 0)] => some () | _ => none)
 | .nilP, vs => (match vs with | [.lit (.pointer none)] => some () | _ => none)
 | .undef, vs => (match vs with | [.lit (.tuple a)] => (match a.toList with | [] => some () | _ => none) | _ => none)
 | .sl β ag T, vs => (match vs with
  | [.tsl β' ag' T' xs] => bif (beqB β β' || (nz && β)) && beqB ag ag' then castL T' T xs else none
  | [.lit (.slice none 0 0)] => bif nz then some [] else none
  | _ => none)
 | .el β ag T c, vs => (match vs with
  | [.el β' ag' T' x c'] => bif (beqB β β' || (nz && β)) && beqB ag ag' && eqN c c' then castB (F := Go.Ab.den) (Ty.beq T' T) rfl x else none
  | _ => none)
 | .ptr b g i c, vs => (match vs with | [.ptr b' g' i' c'] => bif eqN b b' && eqN g g' && eqN i i' && eqN c c' then some () else none | _ => none)
 | .ptrI b g c, vs => (match vs with | [.ptr b' g' i c'] => bif eqN b b' && eqN g g' && eqN c c' then some i else none | _ => none)
 | .ms b g, vs => (match vs with | [.ms b' g' o n] => bif eqN b b' && eqN g g' then some (o, n) else none | _ => none)
 | .msw b g, vs => (match vs with | [.msw b' g'] => bif eqN b b' && eqN g g' then some () else none | _ => none)
 | .fn f fi ca, vs => (match vs with
  | [.fn (.func f') fi' ca'] => bif eqN f f' then
    (match decS nz fi fi' with
    | some x => (match decS nz ca ca' with | some y => some (P2.mk _ _ x y) | none => none)
    | none => none) else none
  | _ => none)
 | .agg l, vs => (match vs with | [.agg cs] => decS nz l cs | _ => none)
 | .tup l, vs => (match vs with | [.tup cs] => decS nz l cs | _ => none)
 | .nil, vs => (match vs with | [] => some () | _ => none)
 | .cons a b, vs => (match vs with
  | v :: r =>
   (match decS nz a [v] with
   | some x => (match decS nz b r with | some y => some (P2.mk _ _ x y) | none => none)
   | none => none)
  | [] => none)
 | .bnone, _ => none
 | .bts _ _ _ _ _, _ => none
 | .bcells _ _ _ _, _ => none
 | .bos _ _ _ _, _ => none
def encS : (s : Sh) → s.den → List KV
 | .int k, x => [.lit (.int k x)]
 | .bool, x => [.lit (.bool x)]
 | .str, x => [.lit (.string x)]
 | .nilS, _ => [.lit (.slice none 0 0)]
 | .nilP, _ => [.lit (.pointer none)]
 | .undef, _ => [.lit (.tuple #[])]
 | .sl β ag T, xs => [.tsl β ag T xs]
 | .el β ag T c, x => [.el β ag T x c]
 | .ptr b g i c, _ => [.ptr b g i c]
 | .ptrI b g c, i => [.ptr b g i c]
 | .ms b g, p => [.ms b g (Prod.fst p) (Prod.snd p)]
 | .msw b g, _ => [.msw b g]
 | .fn f fi ca, p => [.fn (.func f) (encS fi (P2.fst fi.dflt _ _ p)) (encS ca (P2.snd ca.dflt _ _ p))]
 | .agg l, p => [.agg (encS l p)]
 | .tup l, p => [.tup (encS l p)]
 | .nil, _ => []
 | .cons a b, p => encS a (P2.fst a.dflt _ _ p) ++ encS b (P2.snd b.dflt _ _ p)
 | .bnone, _ => []
 | .bts _ _ _ _ _, _ => []
 | .bcells _ _ _ _, _ => []
 | .bos _ _ _ _, _ => []
def holesV : Holes → List KV
 | [] => []
 | h :: r => .agg [.ptr 0 0 h.1 h.2.1, h.2.2] :: holesV r
def holeOf : KV → Option (Nat × Nat × KV)
 | .agg cs => (match cs with
  | [a, v] => (match a with | .ptr _ _ i c => some (i, c, v) | _ => none)
  | _ => none)
 | _ => none
def holesOf : List KV → Holes
 | [] => []
 | v :: r => (match holeOf v with | some h => h :: holesOf r | none => holesOf r)
def decM (nz : Bool) : (s : Sh) → KMem → Option s.den
 | .nil, m => (match m with | [] => some () | _ => none)
 | .cons a b, m => (match m with
  | x :: r =>
   (match decM nz a [x] with
   | some x => (match decM nz b r with | some y => some (P2.mk _ _ x y) | none => none)
   | none => none)
  | [] => none)
 | .bnone, m => (match m with | [none] => some () | _ => none)
 | .bts gen frz β ag T, m => (match m with
  | [some ⟨gen', frz', .ts β' ag' T' xs⟩] => bif eqN gen gen' && beqB frz frz' && beqB β β' && beqB ag ag' then castL T' T xs else none
  | _ => none)
 | .bcells gen frz e l, m => (match m with
  | [some ⟨gen', frz', .cells e' cs⟩] => bif eqN gen gen' && beqB frz frz' && eqN e e' then decS false l cs else none
  | _ => none)
 | .bos gen frz T l, m => (match m with
  | [some ⟨gen', frz', .os T' xs hs⟩] => bif eqN gen gen' && beqB frz frz' then
    (match castL T' T xs with
    | some ys => (match decS false l (holesV hs) with | some p => some (P2.mk false l.un ys p) | none => none)
    | none => none) else none
  | _ => none)
 | _, _ => none
def encM : (s : Sh) → s.den → KMem
 | .nil, _ => []
 | .cons a b, p => encM a (P2.fst a.dflt _ _ p) ++ encM b (P2.snd b.dflt _ _ p)
 | .bnone, _ => [none]
 | .bts gen frz β ag T, xs => [some ⟨gen, frz, .ts β ag T xs⟩]
 | .bcells gen frz e l, p => [some ⟨gen, frz, .cells e (encS l p)⟩]
 | .bos gen frz T l, p => [some ⟨gen, frz, .os T (P2.fst (A := List (Go.Ab.den T)) [] false l.un p) (holesOf (encS l (P2.snd l.dflt false l.un p)))⟩]
 | _, _ => []
structure StSh where
 ex : ExK
 slots : List Nat
 sh : Sh
 msh : Sh
def StSh.den (s : StSh) : Type := P2 s.sh.un s.msh.un s.sh.den s.msh.den
def envOf : List Nat → List KV → Nat → KV
 | s :: ss, v :: vs => fun t => bif Nat.beq t s then v else envOf ss vs t
 | _, _ => fun _ => .gone
def envsAt (env : Nat → KV) : List Nat → List KV
 | [] => []
 | s :: r => env s :: envsAt env r
def beqEx : ExK → ExK → Bool
 | .normal, .normal => true
 | .exit a, .exit b => Nat.beq a b
 | .ret, .ret => true
 | _, _ => false
def decSt (nz : Bool) (s : StSh) (st : KSt) : Option s.den :=
 match decS nz s.sh (envsAt st.env s.slots) with
 | some x => (match decM nz s.msh st.mem with | some y => some (P2.mk _ _ x y) | none => none)
 | none => none
def encSt (s : StSh) (d : s.den) : KSt := ⟨envOf s.slots (encS s.sh (P2.fst s.sh.dflt _ _ d)), encM s.msh (P2.snd s.msh.dflt _ _ d)⟩
def VDen : List StSh → Type
 | [] => Empty
 | [a] => a.den
 | a :: b :: r => a.den ⊕ VDen (b :: r)
def decV (nz : Bool) : (l : List StSh) → ExK → KSt → Option (VDen l)
 | [], _, _ => none
 | [a], e, st => bif beqEx a.ex e then decSt nz a st else none
 | a :: b :: r, e, st => match (bif beqEx a.ex e then decSt nz a st else none) with
  | some x => some (Sum.inl x)
  | none => (match decV nz (b :: r) e st with | some y => some (Sum.inr y) | none => none)
def encV {R : Type} (I : Sym R) : (l : List StSh) → VDen l → (ExK → KSt → Option R) → Option R
 | [], _, _ => none
 | [a], d, k => k a.ex (encSt a d)
 | a :: b :: r, d, k => I.sum d (fun x => k a.ex (encSt a x)) (fun y => encV I (b :: r) y k)
structure Entry where
 a : StSh
 r : List StSh
 sh : a.den → Option (VDen r)
structure LEntry where
 heads : List StSh
 outs : List StSh
 run : VDen heads → Option (VDen outs)
def loopS {S X : Type} (B : S → Option (S ⊕ X)) (n : Nat) : S → Option X :=
 Nat.rec (fun _ => none) (fun _ ih s => (B s).bind fun q => Sum.rec (fun s' => ih s') (fun x => some x) q) n
section
variable {R : Type} (I : Sym R) (tab : TypeId → Option TI)
def incFrom : Nat → List Nat → Bool
 | _, [] => true
 | n, a :: r => Nat.ble n a && incFrom (a + 1) r
variable [GTab]
def moveK (boxed vars : Bool) (t : TypeId) (rs : Nat) (env : Nat → KV) (x : Operand) (k : KOut → Option R) : Option R :=
 bif isNilC x && boxed && !vars then
  (match tab t with
  | some ti => (match ti.tk with | .sl et => emptyRow tab et fun row => k ⟨.msw rs 0, [], [(rs, ⟨0, false, row⟩)], []⟩ | _ => none)
  | none => none)
 else getK env x fun v =>
  match v with
  | .lit (.slice none 0 0) =>
   bif boxed then k (outV v) else
   (match tab t with
   | some ti => (match ti.tk with | .sl et => emptyRow tab et fun row => (match row with | .ts β ag T xs => k (outV (.tsl β ag T xs)) | _ => none) | _ => none)
   | none => none)
  | v => k (outV v)
def pickK (c a b : KV) (k : KV → Option R) : Option R :=
 match c with
 | .lit (.bool t) =>
  match a, b with
  | .lit (.bool x), .lit (.bool y) => k (.lit (.bool (bif t then x else y)))
  | _, _ => I.ite t (k a) (k b)
 | _ => none
def convertK (boxed : Bool) (src dst : TypeId) (mem : KMem) (rs : Nat) (x : KV) (k : KOut → Option R) : Option R :=
 match tab src, tab dst with
 | some s, some d =>
  match s.tk, d.tk with
  | .int _, .int kd => (match x with | .lit (.int _ n) => k (outV (.lit (.int kd (cvtI kd n)))) | _ => none)
  | .str, .str => (match x with | .lit (.string b) => k (outV (.lit (.string b))) | _ => none)
  | .sl e, .str =>
   (match tab e with
   | some te =>
    (match te.tk with
    | .int ke => bif kEq ke .u8 && Nat.beq te.n 1 && srcOkK tab src x then viewK I tab e mem x fun row rd =>
      (match row with
      | .ts _ ag (.int ke') xs => bif kEq ke' .u8 && !ag then k ⟨.lit (.string (intsBytes xs)), rd, [], []⟩ else none
      | _ => none) else none
    | _ => none)
   | none => none)
  | .sl _, .sl e =>
   (match tab e, x with
   | some te, .msw b g =>
    (match te.tk with
    | .int ke => bif kEq ke .u8 && Nat.beq src dst then kbox mem b g fun x => I.guard (Nat.ble 1 (rowLen x.row)) (k ⟨.msw b g, [b], [], []⟩) else none
    | _ => none)
   | _, _ => none)
  | _, _ => none
 | _, _ => none
def lendK (mem : KMem) (t : TypeId) (v : KV) (k : KV → List Nat → Option R) : Option R :=
 match v with
 | .msw _ _ | .ms _ _ _ _ =>
  (match tab t with
  | some ti => bif ti.ag then none else (match ti.ty with
   | some (.sl ag T) => denX I mem (.sl ag T) [v] fun xs _ l => k (.tsl true ag T xs) l
   | _ => none)
  | none => none)
 | .agg cs => bif hasMsK cs then
   (match tab t with
   | some ti => (match ti.ty with | some T => lendCellsK mem (leavesT T) cs fun vs l => k (.agg vs) l | none => none)
   | none => none)
  else k (.agg cs) []
 | v => k v []
 where
 hasMsK : List KV → Bool
  | [] => false
  | .msw _ _ :: _ => true
  | .ms _ _ _ _ :: _ => true
  | _ :: r => hasMsK r
 lendCellsK (mem : KMem) : List Ty → List KV → (List KV → List Nat → Option R) → Option R
  | [], [], k => k [] []
  | T :: Ts, v :: vs, k =>
   (match v with
   | .msw _ _ | .ms _ _ _ _ =>
    (match T with
    | .sl ag T => denX I mem (.sl ag T) [v] fun xs _ l => lendCellsK mem Ts vs fun ws l' => k (.tsl true ag T xs :: ws) (l ++ l')
    | _ => none)
   | v => lendCellsK mem Ts vs fun ws l' => k (v :: ws) l')
  | _, _, _ => none
def lendAllK (mem : KMem) : List TypeId → List KV → (List KV → List Nat → Option R) → Option R
 | [], [], k => k [] []
 | t :: ts, v :: vs, k => lendK I tab mem t v fun w l => lendAllK mem ts vs fun ws l' => k (w :: ws) (l ++ l')
 | _, _, _ => none
def renBackK (mem sub : KMem) (ids : List Nat) : Ren := fun b g =>
  (match getR ids b with
  | some a => (match getR sub b, genOfK mem a with
   | some (some x), some h => bif Nat.beq x.gen g then some (a, h + x.gen) else none
   | _, _ => none)
  | none => bif Nat.beq g 0 && Nat.blt b sub.length then some (mem.length + (b - ids.length), 0) else none)
def backBoxesK (f : Ren) (mem : KMem) : List Nat → KMem → List (Nat × KBox)
 | a :: ids, some x :: r => (a, ⟨(match genOfK mem a with | some h => h + x.gen | none => 0), x.frz, x.row.ren f⟩) :: backBoxesK f mem ids r
 | _ :: ids, none :: r => backBoxesK f mem ids r
 | _, _ => []
def newBoxesK (f : Ren) : KMem → KMem
 | [] => []
 | some x :: r => some ⟨0, x.frz, x.row.ren f⟩ :: newBoxesK f r
 | none :: r => none :: newBoxesK f r
variable (tbl : FuncId → List Entry)
def fitsK : Sh → List KV → Bool
 | .int _, vs => (match vs with | [.lit (.int _ _)] => true | _ => false)
 | .bool, vs => (match vs with | [.lit (.bool _)] => true | _ => false)
 | .str, vs => (match vs with | [.lit (.string _)] => true | _ => false)
 | .nilS, vs => (match vs with | [.lit (.slice none 0 0)] => true | _ => false)
 | .nilP, vs => (match vs with | [.lit (.pointer none)] => true | _ => false)
 | .undef, vs => (match vs with | [.lit (.tuple _)] => true | _ => false)
 | .sl _ _ _, vs => (match vs with | [.tsl _ _ _ _] => true | [.lit (.slice none 0 0)] => true | _ => false)
 | .el _ _ _ c, vs => (match vs with | [.el _ _ _ _ c'] => eqN c c' | _ => false)
 | .ptr b g i c, vs => (match vs with | [.ptr b' g' i' c'] => eqN b b' && eqN g g' && eqN i i' && eqN c c' | _ => false)
 | .ptrI b g c, vs => (match vs with | [.ptr b' g' _ c'] => eqN b b' && eqN g g' && eqN c c' | _ => false)
 | .ms b g, vs => (match vs with | [.ms b' g' _ _] => eqN b b' && eqN g g' | _ => false)
 | .msw b g, vs => (match vs with | [.msw b' g'] => eqN b b' && eqN g g' | _ => false)
 | .fn f fi ca, vs => (match vs with | [.fn (.func f') fi' ca'] => eqN f f' && fitsK fi fi' && fitsK ca ca' | _ => false)
 | .agg l, vs => (match vs with | [.agg cs] => fitsK l cs | _ => false)
 | .tup l, vs => (match vs with | [.tup cs] => fitsK l cs | _ => false)
 | .nil, vs => (match vs with | [] => true | _ => false)
 | .cons a b, vs => (match vs with | v :: r => fitsK a [v] && fitsK b r | [] => false)
 | .bnone, _ => false
 | .bts _ _ _ _ _, _ => false
 | .bcells _ _ _ _, _ => false
 | .bos _ _ _ _, _ => false
def fitsM : Sh → KMem → Bool
 | .nil, m => (match m with | [] => true | _ => false)
 | .cons a b, m => (match m with | x :: r => fitsM a [x] && fitsM b r | [] => false)
 | .bnone, m => (match m with | [none] => true | _ => false)
 | .bts gen frz _ _ _, m => (match m with | [some ⟨gen', frz', .ts _ _ _ _⟩] => eqN gen gen' && beqB frz frz' | _ => false)
 | .bcells gen frz e l, m => (match m with | [some ⟨gen', frz', .cells e' cs⟩] => eqN gen gen' && beqB frz frz' && eqN e e' && fitsK l cs | _ => false)
 | .bos gen frz _ l, m => (match m with | [some ⟨gen', frz', .os _ _ hs⟩] => eqN gen gen' && beqB frz frz' && fitsK l (holesV hs) | _ => false)
 | _, _ => false
def askL (g : FuncId) (args : List KV) (mem : KMem) (k : KV → KMem → Option R) : List Entry → Option R
 | [] => I.ask g args mem k
 | E :: r => bif fitsK E.a.sh args && fitsM E.a.msh mem then
   (match decSt true E.a ⟨envOf E.a.slots args, mem⟩ with
   | some a => bif Nat.beq args.length E.a.slots.length then I.bind (E.sh a) fun b => encV I E.r b fun _ st => k (st.env 0) st.mem else none
   | none => none)
  else askL g args mem k r
def askK (g : FuncId) (args : List KV) (mem : KMem) (k : KV → KMem → Option R) : Option R := askL I g args mem k (tbl g)
def lendsK (keep : Bool) (mem : KMem) (ts : List TypeId) (vs : List KV) (k : List KV → List Nat → Option R) : Option R := bif keep then k vs [] else lendAllK I tab mem ts vs k
def callK (raw keep : Bool) (g : FuncId) (ts : List TypeId) (fi args ca : List KV) (mem : KMem) (k : KOut → Option R) : Option R :=
 lendsK I tab keep mem ts args fun la lb =>
 let all := fi ++ la ++ ca
 let ids := reachK mem (reachFuelK mem (KV.refsAll all).length) (KV.refsAll all) []
 bif nodupN ids && disjN lb ids then
  askK I tbl g (KV.renAll (renToK 0 true mem ids) all) (pickMemK 0 true (renToK 0 true mem ids) mem 0 ids) fun v sub =>
  let m := ids.length
  let r := bif raw then v else frzResK m sub v
  bif Nat.ble m sub.length && (emptyN lb || !(v.lent || memLentK sub)) then
   bif allLt m r.refs && allLt m (memRefsK (sub.take m)) then
    k ⟨r.ren (renBackK mem (sub.take m) ids), lb ++ ids, backBoxesK (renBackK mem (sub.take m) ids) mem ids sub, []⟩
   else
    k ⟨v.ren (renBackK mem sub ids), lb ++ ids, backBoxesK (renBackK mem sub ids) mem ids sub, newBoxesK (renBackK mem sub ids) (sub.drop m)⟩
  else none
 else none
def zappK (mem : KMem) (t tx : TypeId) (rs : Nat) (n : Int) (k : KOut → Option R) : Option R :=
 match tab tx with
 | some tix => (match tix.tk with
  | .int _ => elemK tab t fun et te =>
   (match te.ty with
   | some T => bif Nat.ble 1 te.n && Nat.ble te.bytes 4096 && Nat.beq te.n T.size && Nat.beq te.zero.length te.n && !(isIntsK te.ag T) then
     denX I mem T (te.zero.map .lit) fun z β l => bif !(emptyN l) then none else I.guard (decide (1 ≤ n) && Nat.ble n.toNat mostLen) (k ⟨.msw rs 0, [], [(rs, ⟨0, false, .ts β te.ag T (List.replicate n.toNat z)⟩)], []⟩)
    else none
   | none => none)
  | _ => none)
 | none => none
def builtinK (boxed vars : Bool) (b : Builtin) (ts : List TypeId) (mem : KMem) (rs : Nat) (args : List KV) (k : KOut → Option R) : Option R :=
 match b with
 | .len => (match ts, args with | [t], [x] => lenK tab t mem x fun n rd => k ⟨.lit (.int .i64 n), rd, [], []⟩ | _, _ => none)
 | .append => (match ts, args with | [t, tx], [x, y] => (match x, y with | .lit (.slice none 0 0), .lit (.int _ n) => zappK I tab mem t tx rs n k | _, _ => appendK I tab boxed vars t tx mem rs x y k) | _, _ => none)
 | .cap => (match ts, args with | [t], [.lit (.slice none 0 0)] => (match tab t with | some ti => (match ti.tk with | .sl _ => k (outV (.lit (.int .i64 0))) | _ => none) | none => none) | _, _ => none)
 | .min => (match args with | .lit (.int kd a) :: r => (match foldIntK minI kd r a with | some v => k (outV (.lit (.int kd v))) | none => none) | _ => none)
 | .max => (match args with | .lit (.int kd a) :: r => (match foldIntK maxI kd r a with | some v => k (outV (.lit (.int kd v))) | none => none) | _ => none)
 | _ => none
def intsOfK (k : IntKind) : List KV → Option (List Int)
 | [] => some []
 | .lit (.int k' x) :: r => bif kEq k k' then (match intsOfK k r with | some xs => some (x :: xs) | none => none) else none
 | _ :: _ => none
def buildSliceK (boxed vars : Bool) (env : Nat → KV) (mem : KMem) (rs : Nat) (t : TypeId) (len : Nat) (parts : Array (Nat × Operand)) (k : KOut → Option R) : Option R :=
 elemK tab t fun et te => partsK env parts.toList fun ps =>
 let z := zeroK te
 let vs := setElsK (List.replicate len z) ps
 bif partsLtK len ps && Nat.ble len 4096 && Nat.ble 1 te.n && Nat.ble te.n 4096 && sizesOkK te.n (z :: ps.map (·.2)) && sizesOkK te.n vs then
  match te.tk with
  | .int kd => bif Nat.beq te.n 1 then (match intsOfK kd vs with | some xs => madeK (boxed || Nat.beq len 0) rs (.ts false false (.int kd) xs) [] [] k | none => none) else none
  | _ => bif vars then (bif onesK (cellsAllK vs) then madeK (boxed || Nat.beq len 0) rs (.cells te.n (cellsAllK vs)) [] [] k else none)
   else (match te.ty with
    | some T => toDens I mem te.ag T vs fun xs β l => madeK (boxed || Nat.beq len 0) rs (.ts β te.ag T xs) l (frozenK mem l) k
    | none => none)
 else none
def makeSliceK (boxed : Bool) (mem : KMem) (t : TypeId) (rs : Nat) (l c : KV) (k : KOut → Option R) : Option R :=
 elemK tab t fun et te =>
 match l, c with
 | .lit (.int _ n), .lit (.int _ n') =>
  (match te.ty with
  | some T => bif Nat.ble 1 te.n && Nat.ble te.bytes 4096 && Nat.beq te.n T.size && Nat.beq te.zero.length te.n then
    denX I mem T (te.zero.map .lit) fun z β l => bif !(emptyN l) then none else I.guard ((n == n') && decide (0 ≤ n) && Nat.ble n.toNat mostLen) (madeK boxed rs (.ts β te.ag T (List.replicate n.toNat z)) [] [] k)
   else none
  | none => none)
 | _, _ => none
def indexVK (t : TypeId) (x ix : KV) (k : KOut → Option R) : Option R :=
 match x, ix with
 | .agg cs, .lit (.int _ i) =>
  (match tab t with
  | some ti => (match ti.tk with
   | .arr n e => (match tab e with
    | some te => bif !te.ag && Nat.beq te.n 1 then I.guard (decide (0 ≤ i) && decide (i < (n : Int))) (selK I i.toNat cs 0 fun v => k (outV v)) else none
    | none => none)
   | _ => none)
  | none => none)
 | .lit (.string s), .lit (.int _ i) =>
  (match tab t with
  | some ti => (match ti.tk with
   | .str => I.get (bytesInts s) i fun n => k (outV (.lit (.int .u8 n)))
   | _ => none)
  | none => none)
 | _, _ => none
def opK (boxed raw vars : Bool) (o : Oper) (env : Nat → KV) (mem : KMem) (rs : Nat) (k : KOut → Option R) : Option R :=
 match o.op with
 | .move x => moveK tab boxed vars o.type rs env x k
 | .assign x => moveK tab boxed vars o.type rs env x k
 | .pick c a b => getK env c fun c => getK env a fun a => getK env b fun b => pickK I c a b fun v => k (outV v)
 | .alloc t => (match tab t with | some ti => bif Nat.ble 1 ti.zero.length && onesK (ti.zero.map .lit) then k ⟨.ptr rs 0 0 0, [], [(rs, ⟨0, false, .cells 1 (ti.zero.map .lit)⟩)], []⟩ else none | none => none)
 | .box t x => getK env x fun v => (match tab t with | some ti => bif Nat.beq v.cells.length ti.n && Nat.ble 1 ti.n && onesK v.cells then k ⟨.ptr rs 0 0 0, [], [(rs, ⟨0, false, .cells 1 v.cells⟩)], []⟩ else none | none => none)
 | .build t parts => partsK env parts.toList fun ps =>
  (match tab t with
  | some ti =>
   (match ti.tk with
   | .st fs => (match fillK (fun i => match getR fs i with | some q => some (q.1, q.2.1) | none => none) (zeroK ti).cells ps with | some cs => k (outV (.agg cs)) | none => none)
   | .arr _ e => (match tab e with | some te => (match fillK (fun i => some (i * te.n, te.n)) (zeroK ti).cells ps with | some cs => k (outV (.agg cs)) | none => none) | none => none)
   | _ => none)
  | none => none)
 | .buildSlice t len parts => buildSliceK I tab boxed vars env mem rs t len parts k
 | .load t a => getK env a fun a => loadK I tab t mem a k
 | .store t a x => getK env a fun a => getK env x fun x => storeK I tab t mem a x k
 | .nilCheck x => getK env x fun v => (match v with | .ptr _ _ _ _ => k (outV v) | .el _ _ _ _ _ => k (outV v) | .fn (.func _) _ _ => k (outV v) | _ => none)
 | .binOp op t x y _ => getK env x fun x => getK env y fun y => binK I tab op t x y fun v => k (outV v)
 | .unOp op _ x => getK env x fun x => unK op x fun v => k (outV v)
 | .convert src dst x => getK env x fun x => convertK I tab boxed src dst mem rs x k
 | .makeFunc fn first cap => getsK env first.toList fun fi => getsK env cap.toList fun ca => k (outV (.fn fn fi ca))
 | .makeSlice t l c => getK env l fun l => getK env c fun c => makeSliceK I tab boxed mem t rs l c k
 | .slice t x lo hi mx => getK env x fun x => optK env lo fun lo => optK env hi fun hi => optK env mx fun mx => sliceK I tab t mem x lo hi mx k
 | .fieldAddr s x f => getK env x fun x => fieldK tab s f fun off _ _ =>
  (match x with
  | .ptr b g i c => k (outV (.ptr b g i (c + off)))
  | .el β ag T x c => k (outV (.el β ag T x (c + off)))
  | _ => none)
 | .field s x f => getK env x fun x => fieldK tab s f fun off n ft =>
  (match x with
  | .agg cs => (match tab ft with
   | some tf => bif tf.ag then bif Nat.ble (off + n) cs.length then k (outV (.agg ((cs.drop off).take n))) else none
     else (match getR cs off with | some v => k (outV v) | none => none)
   | none => none)
  | _ => none)
 | .indexAddr t x ix => getK env x fun x => getK env ix fun ix => (match ix with | .lit (.int _ i) => indexK I tab t mem x i k | _ => none)
 | .index t x ix => getK env x fun x => getK env ix fun ix => indexVK I tab t x ix k
 | .extract t ix => getK env t fun t => (match t with | .tup vs => (match getR vs ix with | some v => k (outV v) | none => none) | _ => none)
 | .call c => getsK env c.args.toList fun args =>
  (match c.callee with
  | .builtin b => builtinK I tab boxed vars b c.argTypes.toList mem rs args k
  | .value f => getK env f fun f => (match f with | .fn (.func g) fi ca => callK I tab tbl raw vars g c.argTypes.toList fi args ca mem k | _ => none)
  | .invoke _ _ => none)
 | _ => none
def makeOK (rs : Nat) (t : TypeId) (l c : KV) (k : KOut → Option R) : Option R :=
 elemK tab t fun et te =>
 match l, c with
 | .lit (.int _ n), .lit (.int _ n') =>
  (match te.ty with
  | some T => bif Nat.ble 1 te.n && Nat.ble te.bytes 4096 && Nat.beq te.zero.length te.n && onesK (te.zero.map .lit) && beqB te.ag (agOf T) then
    (match elOK (leavesT T) (te.zero.map .lit) 0 0 with
    | some a => (match a.2 with
     | [] => denK I [] T a.1 fun z _ _ => I.guard ((n == n') && decide (0 ≤ n) && Nat.ble n.toNat mostLen) (k ⟨.msw rs 0, [], [(rs, ⟨0, false, .os T (List.replicate n.toNat z) []⟩)], []⟩)
     | _ => none)
    | none => none)
   else none
  | none => none)
 | _, _ => none
def cellsEachK : List KV → List (List KV)
 | [] => []
 | v :: r => v.cells :: cellsEachK r
def buildOK (env : Nat → KV) (rs : Nat) (t : TypeId) (len : Nat) (parts : Array (Nat × Operand)) (k : KOut → Option R) : Option R :=
 elemK tab t fun et te => partsK env parts.toList fun ps =>
 let z := zeroK te
 let vs := setElsK (List.replicate len z) ps
 match te.ty with
 | some T => bif partsLtK len ps && Nat.ble len 4096 && Nat.ble 1 te.n && Nat.ble te.n 4096 && sizesOkK te.n (z :: ps.map (·.2)) && Nat.ble 1 len && onesK (cellsAllK vs) && beqB te.ag (agOf T) then
   elsOK I T (cellsEachK vs) 0 fun xs hs => k ⟨.msw rs 0, [], [(rs, ⟨0, false, .os T xs hs⟩)], []⟩
  else none
 | none => none
def moveOK (t : TypeId) (rs : Nat) (k : KOut → Option R) : Option R :=
 elemK tab t fun et te => match te.ty with
 | some T => bif beqB te.ag (agOf T) then k ⟨.msw rs 0, [], [(rs, ⟨0, false, .os T [] []⟩)], []⟩ else none
 | none => none
def opXK (own tk boxed raw vars : Bool) (o : Oper) (env : Nat → KV) (mem : KMem) (rs : Nat) (k : KOut → Option R) : Option R :=
 match o.op with
 | .move x => bif own && isNilC x then moveOK tab o.type rs k else opK I tab tbl boxed raw vars o env mem rs k
 | .assign x => bif own && isNilC x then moveOK tab o.type rs k else opK I tab tbl boxed raw vars o env mem rs k
 | .buildSlice t len parts => bif own then buildOK I tab env rs t len parts k else opK I tab tbl boxed raw vars o env mem rs k
 | .makeSlice t l c => bif own then getK env l fun l => getK env c fun c => makeOK I tab rs t l c k else opK I tab tbl boxed raw vars o env mem rs k
 | .load t a => getK env a fun v => bif ownPK mem v then loadOK I tab tk t mem v k else opK I tab tbl boxed raw vars o env mem rs k
 | .store t a x => getK env a fun v => bif ownPK mem v then getK env x fun x => storeOK I tab t mem v x k else opK I tab tbl boxed raw vars o env mem rs k
 | .slice t x lo hi mx => getK env x fun v => bif ownSK mem v then optK env lo fun lo => optK env hi fun hi => optK env mx fun mx => sliceOK I tab t mem v lo hi mx k else opK I tab tbl boxed raw vars o env mem rs k
 | .indexAddr t x ix => getK env x fun v => bif ownSK mem v then getK env ix fun ix => (match ix with | .lit (.int _ i) => indexOK I tab t mem v i k | _ => none) else opK I tab tbl boxed raw vars o env mem rs k
 | .call c =>
  (match c.callee with
  | .builtin .len => getsK env c.args.toList fun args => (match c.argTypes.toList, args with
   | [t], [x] => bif ownWK mem x then lenOK tab t mem x k else opK I tab tbl boxed raw vars o env mem rs k
   | _, _ => opK I tab tbl boxed raw vars o env mem rs k)
  | .builtin .append => getsK env c.args.toList fun args => (match c.argTypes.toList, args with
   | [t, tx], [x, y] => bif own || ownSK mem x then appendOK I tab own t tx mem rs x y k else opK I tab tbl boxed raw vars o env mem rs k
   | _, _ => none)
  | _ => opK I tab tbl boxed raw vars o env mem rs k)
 | _ => opK I tab tbl boxed raw vars o env mem rs k
def setMemK (mem : KMem) : List (Nat × KBox) → KMem
 | [] => mem
 | (b, x) :: r => setMemK (setR (some x) mem b) r
def KOut.apply (o : KOut) (mem : KMem) : KMem := setMemK mem o.wr ++ o.push
def isResK (mem : KMem) (rs : Nat) : Bool :=
 match getR mem rs with
 | some none => true
 | _ => false
def trimK : KMem → KMem
 | [] => []
 | x :: r => match trimK r with
  | [] => (match x with | none => [] | some b => [some b])
  | y => x :: y
def ptrOfK : KV → Option (Nat × Nat × Nat × Nat)
 | .ptr b g i c => some (b, g, i, c)
 | _ => none
def ptrCodeK (x : KBox) : Option (Nat × Nat × List (Option (Nat × Nat × Nat × Nat))) :=
 match x.row with
 | .cells e cs => some (x.gen, e, cs.map ptrOfK)
 | _ => none
def ptrCodeAtK (mem : KMem) (b : Nat) : Option (Nat × Nat × List (Option (Nat × Nat × Nat × Nat))) :=
 match getR mem b with
 | some (some x) => ptrCodeK x
 | _ => none
def keepsPtrsK (mem : KMem) (wr : List (Nat × KBox)) (b : Nat) : Bool := wr.all fun q => !(Nat.beq q.1 b) || eqCode (ptrCodeK q.2) (ptrCodeAtK mem b)
def rcOfK (op : Op) (mem : KMem) (v : KV) (rd : List Nat) : Bool :=
 isLoad op && (match ptrOfK v with | some _ => true | none => false) && (match rd with | [b] => (match ptrCodeAtK mem b with | some _ => true | none => false) | _ => false)
def KOut.tr (mk : Bool) (rs : Nat) (o : KOut) (i : Nat) (op : Op) (mem : KMem) : Tr := { i, rc := rcOfK op mem o.v o.rd, wk := keepsPtrsK mem o.wr, rd := o.rd, wr := bif mk then rs :: o.wr.map (·.1) else o.wr.map (·.1), push := match o.push with | [] => false | _ => true }
def hintK (h : Option Int) (v : KV) (k : KV → Option R) : Option R :=
 match h with
 | none => k v
 | some x => match v with
  | .lit (.int kd y) => I.guard (decide (y = x)) (k (.lit (.int kd x)))
  | _ => none
def opsK (an : Ann) (tk : Bool) (rid : Nat) (ds : List (Option Tmp)) : List Oper → Nat → Nat → KSt → List Tr → (KSt → List Tr → Option R) → Option R
 | [], _, _, st, tr, k => k st tr
 | o :: rest, i, rs, st, tr, k =>
  let mk := makes o.op
  let rs' := bif mk then rs + 1 else rs
  let run (env : Nat → KV) : Option R := bif (bif mk then isResK st.mem rs else true) then opXK I tab tbl (hasPair rid i an.own) tk (hasPair rid i an.boxed) (hasPair rid i an.raw) (hasPair rid i an.vars) o env st.mem rs fun out =>
   hintK I (hintAt rid i an.hint) out.v fun v => opsK an tk rid ds rest (i + 1) rs' ⟨envPut env o.dst v, out.apply st.mem⟩ (out.tr mk rs i o.op st.mem :: tr) k else none
  let skip (env : Nat → KV) : Option R := opsK an tk rid ds rest (i + 1) rs' ⟨envPut env o.dst (.lit undef), st.mem⟩ tr k
  match o.guard with
  | none => run st.env
  | some (j, want) =>
   match getR ds j with
   | some (some d) =>
    (match st.env d with
    | .lit (.bool b) =>
     I.ite b ((fun env => bif want then run env else skip env) (envSet st.env d (.lit (.bool true)))) ((fun env => bif want then skip env else run env) (envSet st.env d (.lit (.bool false))))
    | .lit (.tuple _) => skip st.env
    | _ => none)
   | _ => none
def regionK (an : Ann) (rid : Nat) (ops : Array Oper) (draw : Bool) (st : KSt) (k : KSt → Option R) : Option R :=
 let n := makesN ops.toList
 opsK I tab tbl an (!draw) rid (ops.toList.map (·.dst)) ops.toList 0 st.mem.length ⟨st.env, st.mem ++ List.replicate n none⟩ [] fun st' tr =>
  bif !draw || drawOk ops (st.mem.length + n) tr then k ⟨st'.env, trimK st'.mem⟩ else none
def envKnow (env : Nat → KV) (c : Operand) (b : Bool) : Nat → KV :=
 match c with
 | .tmp d => envSet env d (.lit (.bool b))
 | _ => env
def headK (keep : Bool) (old : List (Option Bool)) (live : List Nat) (st : KSt) (k : KSt → Option R) : Option R :=
 getsK st.env (live.map .tmp) fun vs => canonK I keep old vs st.mem fun vs' mem' => k ⟨envOf live vs', mem'⟩
def pathK (mem : KMem) (off : Nat) (v : KV) (k : KV → Option R) : Option R :=
 match v with
 | .ptr b g i c => kbox mem b g fun x => (match x.row with
  | .cells e cs => (match getR cs (i * e + c + off) with | some v => k v | none => none)
  | _ => none)
 | v => k v
def takeAtK (mem : KMem) (s : KV) (n c : Nat) (k : KMem → Option R) : Option R :=
 match s with
 | .msw b g => kboxO mem b g fun bx => (match bx.row with
  | .os T xs hs => I.getN xs n fun x => (match getR (cellsOf true T x) c with
   | some (.tsl β ag T' ys) => readOK I true n c (.tsl β ag T' ys) hs mem.length fun _ hs' rows => k (setR (some ⟨bx.gen, bx.frz, .os T xs hs'⟩) mem b ++ newOnesK rows)
   | _ => none)
  | _ => none)
 | _ => none
def takeK (env : Nat → KV) (mem : KMem) (q : Operand × Nat × Operand × Nat) (k : KMem → Option R) : Option R :=
 getK env q.1 fun p => pathK mem q.2.1 p fun s => getK env q.2.2.1 fun v =>
  match v with
  | .lit (.int _ n) => I.guard (decide (0 ≤ n)) (takeAtK I mem s n.toNat q.2.2.2 k)
  | _ => none
def takesK (env : Nat → KV) : List (Operand × Nat × Operand × Nat) → KMem → (KMem → Option R) → Option R
 | [], mem, k => k mem
 | q :: r, mem, k => takeK I env mem q fun mem' => takesK env r mem' k
def tidyK (an : Ann) (rid : Nat) (old : List (Option Bool)) (st : KSt) (k : KSt → Option R) : Option R :=
 match assoc rid an.tidy with
 | none => k st
 | some q => bif incFrom 0 q.1 then getsK st.env (q.1.map .tmp) fun vs => tidyHK I old.length vs st.mem fun mem => takesK I (envOf q.1 vs) q.2 mem fun mem' => k ⟨envOf q.1 vs, mem'⟩ else none
variable (loops : Nat → Option LEntry)
def codeK (an : Ann) (old : List (Option Bool)) : Code → Nat → KSt → (ExK → KSt → Option R) → Option R
 | .skip, _, st, k => k .normal st
 | .ret, _, st, k => k .ret st
 | .exit id, _, st, k => k (.exit id) st
 | .seq a b, bid, st, k => codeK an old a bid st fun e st' =>
  match e with
  | .normal => codeK an old b bid st' k
  | .exit id => k (.exit id) st'
  | .ret => k .ret st'
 | .cond c x y, bid, st, k => getK st.env c fun v =>
  match v with
  | .lit (.bool t) => I.ite t (codeK an old x bid ⟨envKnow st.env c true, st.mem⟩ k) (codeK an old y bid ⟨envKnow st.env c false, st.mem⟩ k)
  | .unkB => I.amb (codeK an old x bid st k) (codeK an old y bid st k)
  | _ => none
 | .block id c, _, st, k => codeK an old c id st fun e st' =>
  match e with
  | .normal => k .normal st'
  | .exit j => bif Nat.beq j id then k .normal st' else k (.exit j) st'
  | .ret => k .ret st'
 | .loop c, bid, st, k =>
  match assoc bid an.live with
  | some live => headK I (memN bid an.keep) old live st fun st1 =>
   (match loops bid with
   | some L => (match decV false L.heads .normal st1 with
    | some s => I.bind (L.run s) fun x => encV I L.outs x k
    | none => I.loop bid st1 k)
   | none => I.loop bid st1 k)
  | none => none
 | .region rid ops draw, _, st, k => tidyK I an rid old st fun st => regionK I tab tbl an rid ops draw st (fun st' => k .normal st')
 | _, _, _, _ => none
def resK (env : Nat → KV) (mem : KMem) : List ResultVar → (List KV → Option R) → Option R
 | [], k => k []
 | .tmp t :: r, k => getK env (.tmp t) fun v => resK env mem r fun vs => k (v :: vs)
 | .cell a t :: r, k => getK env (.tmp a) fun a => loadK I tab t mem a fun o => resK env mem r fun vs => k (o.v :: vs)
def oneOrTupK : List KV → KV
 | [v] => v
 | vs => .tup vs
def endK (fn : Func) (old : List (Option Bool)) (e : ExK) (st : KSt) (k : KV → KMem → Option R) : Option R :=
 match e with
 | .exit _ => none
 | _ => resK I tab st.env st.mem fn.results.toList fun vs => canonK I true old [oneOrTupK vs] st.mem fun ws mem' => (match ws with | [v] => k v mem' | _ => none)
def envArgs (args : List KV) (n : Nat) : Nat → KV := fun t =>
 match getR args t with
 | some v => v
 | none => bif Nat.blt t n then .lit undef else .gone
def funK (an : Ann) (fn : Func) (args : List KV) (mem : KMem) (k : KV → KMem → Option R) : Option R :=
 match fn.body with
 | some c => codeK I tab tbl loops an (kindsK mem) c 0 ⟨envArgs args fn.ntmps, mem⟩ fun e st => endK I tab fn (kindsK mem) e st k
 | none => none
def funD (an : Ann) (fn : Func) (a : StSh) (r : List StSh) (d : a.den) (k : VDen r → Option R) : Option R :=
 funK I tab tbl loops an fn (encS a.sh (P2.fst a.sh.dflt _ _ d)) (encM a.msh (P2.snd a.msh.dflt _ _ d)) fun v mem =>
  match decV true r .ret ⟨envOf [0] [v], mem⟩ with
  | some b => k b
  | none => none
def loopsIn : Code → Nat → List (Nat × Code)
 | .seq a b, bid => loopsIn a bid ++ loopsIn b bid
 | .cond _ x y, bid => loopsIn x bid ++ loopsIn y bid
 | .block id c, _ => loopsIn c id
 | .loop c, bid => (bid, c) :: loopsIn c bid
 | _, _ => []
def roundK (an : Ann) (old : List (Option Bool)) (c : Code) (bid : Nat) (live : List Nat) (heads outs : List StSh) (s : VDen heads) (k : VDen heads ⊕ VDen outs → Option R) : Option R :=
 encV I heads s fun _ st0 => codeK I tab tbl loops an old c bid st0 fun e st =>
  match e with
  | .normal => headK I (memN bid an.keep) old live st fun st1 => (match decV false heads .normal st1 with | some s' => k (.inl s') | none => none)
  | .exit id => (match decV false outs (.exit id) st with | some x => k (.inr x) | none => none)
  | .ret => (match decV false outs .ret st with | some x => k (.inr x) | none => none)
end
end
end Go.Ab
