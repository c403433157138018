import Derived.Test.YtdlbbdbbpoggfaaGreatDoorLib4
set_option linter.unusedVariables false
set_option linter.unusedSectionVars false
namespace Go.Ab
noncomputable section
inductive Sh where
 | int (k : IntKind) | bool | str
 | nilS | nilP | undef
 | sl (β ag : Bool) (T : Ty)
 | el (β ag : Bool) (T : Ty) (c : Nat)
 | ptr (b g i c : Nat)
 | ptrI (b g c : Nat)
 | ms (b g : Nat)
 | msw (b g : Nat)
 | fn (f : FuncId) (fi ca : Sh)
 | agg (l : Sh)
 | tup (l : Sh)
 | nil
 | cons (a b : Sh)
 | bnone
 | bts (gen : Nat) (frz β ag : Bool) (T : Ty)
 | bcells (gen : Nat) (frz : Bool) (e : Nat) (l : Sh)
def P2 (ua ub : Bool) (A B : Type) : Type := Bool.rec (Bool.rec (A × B) A ub) B ua
def P2.mk {A B : Type} : (ua ub : Bool) → A → B → P2 ua ub A B
 | true, _, _, b => b
 | false, true, a, _ => a
 | false, false, a, b => (a, b)
def P2.fst {A B : Type} (da : A) : (ua ub : Bool) → P2 ua ub A B → A
 | true, _, _ => da
 | false, true, p => p
 | false, false, p => p.1
def P2.snd {A B : Type} (db : B) : (ua ub : Bool) → P2 ua ub A B → B
 | true, _, p => p
 | false, true, _ => db
 | false, false, p => p.2
def Sh.un (s : Sh) : Bool :=
 Sh.rec (fun _ => false) false false true true true (fun _ _ _ => false) (fun _ _ _ _ => false) (fun _ _ _ _ => true) (fun _ _ _ => false) (fun _ _ => false) (fun _ _ => true)
  (fun _ _ _ a b => Fa a b) (fun _ a => a) (fun _ a => a) true (fun _ _ a b => Fa a b) true (fun _ _ _ _ _ => false) (fun _ _ _ _ a => a) s
def Sh.den (s : Sh) : Type :=
 Sh.rec (fun _ => Int) Bool ByteArray Unit Unit Unit (fun _ _ T => List (Go.Ab.den T)) (fun _ _ T _ => Go.Ab.den T) (fun _ _ _ _ => Unit) (fun _ _ _ => Nat) (fun _ _ => Nat × Nat) (fun _ _ => Unit)
  (fun _ fi ca a b => P2 fi.un ca.un a b) (fun _ a => a) (fun _ a => a) Unit (fun a b x y => P2 a.un b.un x y) Unit (fun _ _ _ _ T => List (Go.Ab.den T)) (fun _ _ _ _ a => a) s
def Sh.dflt : (s : Sh) → s.den
 | .int _ => (0 : Int)
 | .bool => false
 | .str => ByteArray.empty
 | .nilS | .nilP | .undef | .ptr _ _ _ _ | .msw _ _ | .nil | .bnone => ()
 | .sl _ _ _ => ([] : List _)
 | .el _ _ T _ => dT T
 | .ptrI _ _ _ => (0 : Nat)
 | .ms _ _ => ((0, 0) : Nat × Nat)
 | .fn _ fi ca => P2.mk _ _ fi.dflt ca.dflt
 | .agg l => l.dflt
 | .tup l => l.dflt
 | .cons a b => P2.mk _ _ a.dflt b.dflt
 | .bts _ _ _ _ _ => ([] : List _)
 | .bcells _ _ _ l => l.dflt
 where
 dT : (T : Ty) → Go.Ab.den T
 | .int _ => (0 : Int)
 | .bool => false
 | .str => ByteArray.empty
 | .sl _ _ => ([] : List _)
 | .cons a b => (dT a, dT b)
def gS (a b : Nat) : Bool := Nat.beq a b
def eM (nz : Bool) : (s : Sh) → List KV → Option s.den
 | .int k, vs => (match vs with | [.lit (.int k' x)] => bif gV k k' then some x else none | _ => none)
 | .bool, vs => (match vs with | [.lit (.bool x)] => some x | _ => none)
 | .str, vs => (match vs with | [.lit (.string x)] => some x | _ => none)
 | .nilS, vs => (match vs with | [.lit (.slice none 0 0)] => some () | _ => none)
 | .nilP, vs => (match vs with | [.lit (.pointer none)] => some () | _ => none)
 | .undef, vs => (match vs with | [.lit (.tuple a)] => (match a.toList with | [] => some () | _ => none) | _ => none)
 | .sl β ag T, vs => (match vs with
  | [.tsl β' ag' T' xs] => bif (fT β β' || (nz && β)) && fT ag ag' then BL T' T xs else none
  | [.lit (.slice none 0 0)] => bif nz then some [] else none
  | _ => none)
 | .el β ag T c, vs => (match vs with
  | [.el β' ag' T' x c'] => bif (fT β β' || (nz && β)) && fT ag ag' && gS c c' then Fw (F := Go.Ab.den) (Ty.beq T' T) rfl x else none
  | _ => none)
 | .ptr b g i c, vs => (match vs with | [.ptr b' g' i' c'] => bif gS b b' && gS g g' && gS i i' && gS c c' then some () else none | _ => none)
 | .ptrI b g c, vs => (match vs with | [.ptr b' g' i c'] => bif gS b b' && gS g g' && gS c c' then some i else none | _ => none)
 | .ms b g, vs => (match vs with | [.ms b' g' o n] => bif gS b b' && gS g g' then some (o, n) else none | _ => none)
 | .msw b g, vs => (match vs with | [.msw b' g'] => bif gS b b' && gS g g' then some () else none | _ => none)
 | .fn f fi ca, vs => (match vs with
  | [.fn (.func f') fi' ca'] => bif gS f f' then
    (match eM nz fi fi' with
    | some x => (match eM nz ca ca' with | some y => some (P2.mk _ _ x y) | none => none)
    | none => none) else none
  | _ => none)
 | .agg l, vs => (match vs with | [.agg cs] => eM nz l cs | _ => none)
 | .tup l, vs => (match vs with | [.tup cs] => eM nz l cs | _ => none)
 | .nil, vs => (match vs with | [] => some () | _ => none)
 | .cons a b, vs => (match vs with
  | v :: r =>
   (match eM nz a [v] with
   | some x => (match eM nz b r with | some y => some (P2.mk _ _ x y) | none => none)
   | none => none)
  | [] => none)
 | .bnone, _ => none
 | .bts _ _ _ _ _, _ => none
 | .bcells _ _ _ _, _ => none
def eY : (s : Sh) → s.den → List KV
 | .int k, x => [.lit (.int k x)]
 | .bool, x => [.lit (.bool x)]
 | .str, x => [.lit (.string x)]
 | .nilS, _ => [.lit (.slice none 0 0)]
 | .nilP, _ => [.lit (.pointer none)]
 | .undef, _ => [.lit (.tuple #[])]
 | .sl β ag T, xs => [.tsl β ag T xs]
 | .el β ag T c, x => [.el β ag T x c]
 | .ptr b g i c, _ => [.ptr b g i c]
 | .ptrI b g c, i => [.ptr b g i c]
 | .ms b g, p => [.ms b g (Prod.fst p) (Prod.snd p)]
 | .msw b g, _ => [.msw b g]
 | .fn f fi ca, p => [.fn (.func f) (eY fi (P2.fst fi.dflt _ _ p)) (eY ca (P2.snd ca.dflt _ _ p))]
 | .agg l, p => [.agg (eY l p)]
 | .tup l, p => [.tup (eY l p)]
 | .nil, _ => []
 | .cons a b, p => eY a (P2.fst a.dflt _ _ p) ++ eY b (P2.snd b.dflt _ _ p)
 | .bnone, _ => []
 | .bts _ _ _ _ _, _ => []
 | .bcells _ _ _ _, _ => []
def B0 (nz : Bool) : (s : Sh) → aR → Option s.den
 | .nil, m => (match m with | [] => some () | _ => none)
 | .cons a b, m => (match m with
  | x :: r =>
   (match B0 nz a [x] with
   | some x => (match B0 nz b r with | some y => some (P2.mk _ _ x y) | none => none)
   | none => none)
  | [] => none)
 | .bnone, m => (match m with | [none] => some () | _ => none)
 | .bts gen frz β ag T, m => (match m with
  | [some ⟨gen', frz', .ts β' ag' T' xs⟩] => bif gS gen gen' && fT frz frz' && fT β β' && fT ag ag' then BL T' T xs else none
  | _ => none)
 | .bcells gen frz e l, m => (match m with
  | [some ⟨gen', frz', .cells e' cs⟩] => bif gS gen gen' && fT frz frz' && gS e e' then eM false l cs else none
  | _ => none)
 | _, _ => none
def fV : (s : Sh) → s.den → aR
 | .nil, _ => []
 | .cons a b, p => fV a (P2.fst a.dflt _ _ p) ++ fV b (P2.snd b.dflt _ _ p)
 | .bnone, _ => [none]
 | .bts gen frz β ag T, xs => [some ⟨gen, frz, .ts β ag T xs⟩]
 | .bcells gen frz e l, p => [some ⟨gen, frz, .cells e (eY l p)⟩]
 | _, _ => []
structure kX where
 ex : Jd
 slots : List Nat
 sh : Sh
 msh : Sh
def kX.den (s : kX) : Type := P2 s.sh.un s.msh.un s.sh.den s.msh.den
def dP : List Nat → List KV → Nat → KV
 | s :: ss, v :: vs => fun t => bif Nat.beq t s then v else dP ss vs t
 | _, _ => fun _ => .gone
def iW (env : Nat → KV) : List Nat → List KV
 | [] => []
 | s :: r => env s :: iW env r
def C8 : Jd → Jd → Bool
 | .normal, .normal => true
 | .exit a, .exit b => Nat.beq a b
 | .ret, .ret => true
 | _, _ => false
def nD (nz : Bool) (s : kX) (st : Ah) : Option s.den :=
 match eM nz s.sh (iW st.env s.slots) with
 | some x => (match B0 nz s.msh st.mem with | some y => some (P2.mk _ _ x y) | none => none)
 | none => none
def q9 (s : kX) (d : s.den) : Ah := ⟨dP s.slots (eY s.sh (P2.fst s.sh.dflt _ _ d)), fV s.msh (P2.snd s.msh.dflt _ _ d)⟩
def eP : List kX → Type
 | [] => Empty
 | [a] => a.den
 | a :: b :: r => a.den ⊕ eP (b :: r)
def z4 (nz : Bool) : (l : List kX) → Jd → Ah → Option (eP l)
 | [], _, _ => none
 | [a], e, st => bif C8 a.ex e then nD nz a st else none
 | a :: b :: r, e, st => match (bif C8 a.ex e then nD nz a st else none) with
  | some x => some (Sum.inl x)
  | none => (match z4 nz (b :: r) e st with | some y => some (Sum.inr y) | none => none)
def BX {R : Type} (I : PX R) : (l : List kX) → eP l → (Jd → Ah → Option R) → Option R
 | [], _, _ => none
 | [a], d, k => k a.ex (q9 a d)
 | a :: b :: r, d, k => I.sum d (fun x => k a.ex (q9 a x)) (fun y => BX I (b :: r) y k)
structure aG where
 a : kX
 r : List kX
 sh : a.den → Option (eP r)
structure aK where
 heads : List kX
 outs : List kX
 run : eP heads → Option (eP outs)
def aL {S X : Type} (B : S → Option (S ⊕ X)) (n : Nat) : S → Option X :=
 Nat.rec (fun _ => none) (fun _ ih s => (B s).bind fun q => Sum.rec (fun s' => ih s') (fun x => some x) q) n
section
variable {R : Type} (I : PX R) (tab : TypeId → Option TI)
variable [cD]
def KY (boxed vars : Bool) (t : TypeId) (rs : Nat) (env : Nat → KV) (x : Operand) (k : bY → Option R) : Option R :=
 bif qY x && boxed && !vars then
  (match tab t with
  | some ti => (match ti.tk with | .sl et => rR tab et fun row => k ⟨.msw rs 0, [], [(rs, ⟨0, false, row⟩)], []⟩ | _ => none)
  | none => none)
 else gK env x fun v =>
  match v with
  | .lit (.slice none 0 0) =>
   bif boxed then k (fU v) else
   (match tab t with
   | some ti => (match ti.tk with | .sl et => rR tab et fun row => (match row with | .ts β ag T xs => k (fU (.tsl β ag T xs)) | _ => none) | _ => none)
   | none => none)
  | v => k (fU v)
def Nz (c a b : KV) (k : KV → Option R) : Option R :=
 match c with
 | .lit (.bool t) =>
  match a, b with
  | .lit (.bool x), .lit (.bool y) => k (.lit (.bool (bif t then x else y)))
  | _, _ => I.ite t (k a) (k b)
 | _ => none
def Dy (boxed : Bool) (src dst : TypeId) (mem : aR) (rs : Nat) (x : KV) (k : bY → Option R) : Option R :=
 match tab src, tab dst with
 | some s, some d =>
  match s.tk, d.tk with
  | .int _, .int kd => (match x with | .lit (.int _ n) => k (fU (.lit (.int kd (aY kd n)))) | _ => none)
  | .str, .str => (match x with | .lit (.string b) => k (fU (.lit (.string b))) | _ => none)
  | .sl e, .str =>
   (match tab e with
   | some te =>
    (match te.tk with
    | .int ke => bif gV ke .u8 && Nat.beq te.n 1 && G9 tab src x then KJ I tab e mem x fun row rd =>
      (match row with
      | .ts _ ag (.int ke') xs => bif gV ke' .u8 && !ag then k ⟨.lit (.string (n9 xs)), rd, [], []⟩ else none
      | _ => none) else none
    | _ => none)
   | none => none)
  | .sl _, .sl e =>
   (match tab e, x with
   | some te, .msw b g =>
    (match te.tk with
    | .int ke => bif gV ke .u8 && Nat.beq src dst then rY mem b g fun x => I.guard (Nat.ble 1 (jB x.row)) (k ⟨.msw b g, [b], [], []⟩) else none
    | _ => none)
   | _, _ => none)
  | _, _ => none
 | _, _ => none
def oN (mem : aR) (t : TypeId) (v : KV) (k : KV → List Nat → Option R) : Option R :=
 match v with
 | .msw _ _ | .ms _ _ _ _ =>
  (match tab t with
  | some ti => bif ti.ag then none else (match ti.ty with
   | some (.sl ag T) => eZ I mem (.sl ag T) [v] fun xs _ l => k (.tsl true ag T xs) l
   | _ => none)
  | none => none)
 | .agg cs => bif hasMsK cs then
   (match tab t with
   | some ti => (match ti.ty with | some T => lendCellsK mem (d6 T) cs fun vs l => k (.agg vs) l | none => none)
   | none => none)
  else k (.agg cs) []
 | v => k v []
 where
 hasMsK : List KV → Bool
  | [] => false
  | .msw _ _ :: _ => true
  | .ms _ _ _ _ :: _ => true
  | _ :: r => hasMsK r
 lendCellsK (mem : aR) : List Ty → List KV → (List KV → List Nat → Option R) → Option R
  | [], [], k => k [] []
  | T :: Ts, v :: vs, k =>
   (match v with
   | .msw _ _ | .ms _ _ _ _ =>
    (match T with
    | .sl ag T => eZ I mem (.sl ag T) [v] fun xs _ l => lendCellsK mem Ts vs fun ws l' => k (.tsl true ag T xs :: ws) (l ++ l')
    | _ => none)
   | v => lendCellsK mem Ts vs fun ws l' => k (v :: ws) l')
  | _, _, _ => none
def Ac (mem : aR) : List TypeId → List KV → (List KV → List Nat → Option R) → Option R
 | [], [], k => k [] []
 | t :: ts, v :: vs, k => oN I tab mem t v fun w l => Ac mem ts vs fun ws l' => k (w :: ws) (l ++ l')
 | _, _, _ => none
def mA (mem sub : aR) (ids : List Nat) : lI := fun b g =>
 bif Nat.beq g 0 then
  (match kO ids b with
  | some a => (match kO sub b, rB mem a with
   | some (some x), some h => some (a, bif iD x.row then h else h + 1)
   | _, _ => none)
  | none => bif Nat.blt b sub.length then some (mem.length + (b - ids.length), 0) else none)
 else none
def iC (f : lI) (mem : aR) : List Nat → aR → List (Nat × fG)
 | a :: ids, some x :: r => (a, ⟨(match rB mem a with | some h => bif iD x.row then h else h + 1 | none => 0), x.frz, x.row.ren f⟩) :: iC f mem ids r
 | _ :: ids, none :: r => iC f mem ids r
 | _, _ => []
def s3 (f : lI) : aR → aR
 | [] => []
 | some x :: r => some ⟨0, x.frz, x.row.ren f⟩ :: s3 f r
 | none :: r => none :: s3 f r
def mF : aR → List Nat
 | [] => []
 | some x :: r => x.row.refs ++ mF r
 | none :: r => mF r
variable (tbl : FuncId → List aG)
def k8 : Sh → List KV → Bool
 | .int _, vs => (match vs with | [.lit (.int _ _)] => true | _ => false)
 | .bool, vs => (match vs with | [.lit (.bool _)] => true | _ => false)
 | .str, vs => (match vs with | [.lit (.string _)] => true | _ => false)
 | .nilS, vs => (match vs with | [.lit (.slice none 0 0)] => true | _ => false)
 | .nilP, vs => (match vs with | [.lit (.pointer none)] => true | _ => false)
 | .undef, vs => (match vs with | [.lit (.tuple _)] => true | _ => false)
 | .sl _ _ _, vs => (match vs with | [.tsl _ _ _ _] => true | [.lit (.slice none 0 0)] => true | _ => false)
 | .el _ _ _ c, vs => (match vs with | [.el _ _ _ _ c'] => gS c c' | _ => false)
 | .ptr b g i c, vs => (match vs with | [.ptr b' g' i' c'] => gS b b' && gS g g' && gS i i' && gS c c' | _ => false)
 | .ptrI b g c, vs => (match vs with | [.ptr b' g' _ c'] => gS b b' && gS g g' && gS c c' | _ => false)
 | .ms b g, vs => (match vs with | [.ms b' g' _ _] => gS b b' && gS g g' | _ => false)
 | .msw b g, vs => (match vs with | [.msw b' g'] => gS b b' && gS g g' | _ => false)
 | .fn f fi ca, vs => (match vs with | [.fn (.func f') fi' ca'] => gS f f' && k8 fi fi' && k8 ca ca' | _ => false)
 | .agg l, vs => (match vs with | [.agg cs] => k8 l cs | _ => false)
 | .tup l, vs => (match vs with | [.tup cs] => k8 l cs | _ => false)
 | .nil, vs => (match vs with | [] => true | _ => false)
 | .cons a b, vs => (match vs with | v :: r => k8 a [v] && k8 b r | [] => false)
 | .bnone, _ => false
 | .bts _ _ _ _ _, _ => false
 | .bcells _ _ _ _, _ => false
def Bz : Sh → aR → Bool
 | .nil, m => (match m with | [] => true | _ => false)
 | .cons a b, m => (match m with | x :: r => Bz a [x] && Bz b r | [] => false)
 | .bnone, m => (match m with | [none] => true | _ => false)
 | .bts gen frz _ _ _, m => (match m with | [some ⟨gen', frz', .ts _ _ _ _⟩] => gS gen gen' && fT frz frz' | _ => false)
 | .bcells gen frz e l, m => (match m with | [some ⟨gen', frz', .cells e' cs⟩] => gS gen gen' && fT frz frz' && gS e e' && k8 l cs | _ => false)
 | _, _ => false
def Of (g : FuncId) (args : List KV) (mem : aR) (k : KV → aR → Option R) : List aG → Option R
 | [] => I.ask g args mem k
 | E :: r => bif k8 E.a.sh args && Bz E.a.msh mem then
   (match nD true E.a ⟨dP E.a.slots args, mem⟩ with
   | some a => bif Nat.beq args.length E.a.slots.length then I.bind (E.sh a) fun b => BX I E.r b fun _ st => k (st.env 0) st.mem else none
   | none => none)
  else Of g args mem k r
def P5 (g : FuncId) (args : List KV) (mem : aR) (k : KV → aR → Option R) : Option R := Of I g args mem k (tbl g)
def MI (keep : Bool) (mem : aR) (ts : List TypeId) (vs : List KV) (k : List KV → List Nat → Option R) : Option R := bif keep then k vs [] else Ac I tab mem ts vs k
def MR (raw keep : Bool) (g : FuncId) (ts : List TypeId) (fi args ca : List KV) (mem : aR) (k : bY → Option R) : Option R :=
 MI I tab keep mem ts args fun la lb =>
 let all := fi ++ la ++ ca
 let ids := jP mem (dV mem (KV.refsAll all).length) (KV.refsAll all) []
 bif dB ids && vL lb ids then
  P5 I tbl g (KV.renAll (mI mem ids) all) (oJ (mI mem ids) mem ids) fun v sub =>
  let m := ids.length
  let r := bif raw then v else s0 m sub v
  bif Nat.ble m sub.length && (e8 lb || !(v.lent || rG sub)) then
   bif fI m r.refs && fI m (mF (sub.take m)) then
    k ⟨r.ren (mA mem (sub.take m) ids), lb ++ ids, iC (mA mem (sub.take m) ids) mem ids sub, []⟩
   else
    k ⟨v.ren (mA mem sub ids), lb ++ ids, iC (mA mem sub ids) mem ids sub, s3 (mA mem sub ids) (sub.drop m)⟩
  else none
 else none
def MD (mem : aR) (t tx : TypeId) (rs : Nat) (n : Int) (k : bY → Option R) : Option R :=
 match tab tx with
 | some tix => (match tix.tk with
  | .int _ => FK tab t fun et te =>
   (match te.ty with
   | some T => bif Nat.ble 1 te.n && Nat.ble te.bytes 4096 && Nat.beq te.n T.size && Nat.beq te.zero.length te.n && !(bT te.ag T) then
     eZ I mem T (te.zero.map .lit) fun z β l => bif !(e8 l) then none else I.guard (decide (1 ≤ n) && Nat.ble n.toNat cT) (k ⟨.msw rs 0, [], [(rs, ⟨0, false, .ts β te.ag T (List.replicate n.toNat z)⟩)], []⟩)
    else none
   | none => none)
  | _ => none)
 | none => none
def Cs (boxed vars : Bool) (b : Builtin) (ts : List TypeId) (mem : aR) (rs : Nat) (args : List KV) (k : bY → Option R) : Option R :=
 match b with
 | .len => (match ts, args with | [t], [x] => PC tab t mem x fun n rd => k ⟨.lit (.int .i64 n), rd, [], []⟩ | _, _ => none)
 | .append => (match ts, args with | [t, tx], [x, y] => (match x, y with | .lit (.slice none 0 0), .lit (.int _ n) => MD I tab mem t tx rs n k | _, _ => GR I tab boxed vars t tx mem rs x y k) | _, _ => none)
 | .cap => (match ts, args with | [t], [.lit (.slice none 0 0)] => (match tab t with | some ti => (match ti.tk with | .sl _ => k (fU (.lit (.int .i64 0))) | _ => none) | none => none) | _, _ => none)
 | .min => (match args with | .lit (.int kd a) :: r => (match qW Ol kd r a with | some v => k (fU (.lit (.int kd v))) | none => none) | _ => none)
 | .max => (match args with | .lit (.int kd a) :: r => (match qW Iz kd r a with | some v => k (fU (.lit (.int kd v))) | none => none) | _ => none)
 | _ => none
def yR (k : IntKind) : List KV → Option (List Int)
 | [] => some []
 | .lit (.int k' x) :: r => bif gV k k' then (match yR k r with | some xs => some (x :: xs) | none => none) else none
 | _ :: _ => none
def rO (boxed vars : Bool) (env : Nat → KV) (mem : aR) (rs : Nat) (t : TypeId) (len : Nat) (parts : Array (Nat × Operand)) (k : bY → Option R) : Option R :=
 FK tab t fun et te => Dt env parts.toList fun ps =>
 let z := fJ te
 let vs := sW (List.replicate len z) ps
 bif x5 len ps && Nat.ble len 4096 && Nat.ble 1 te.n && Nat.ble te.n 4096 && rI te.n (z :: ps.map (·.2)) && rI te.n vs then
  match te.tk with
  | .int kd => bif Nat.beq te.n 1 then (match yR kd vs with | some xs => FF (boxed || Nat.beq len 0) rs (.ts false false (.int kd) xs) [] [] k | none => none) else none
  | _ => bif vars then (bif z3 (lL vs) then FF (boxed || Nat.beq len 0) rs (.cells te.n (lL vs)) [] [] k else none)
   else (match te.ty with
    | some T => GU I mem te.ag T vs fun xs β l => FF (boxed || Nat.beq len 0) rs (.ts β te.ag T xs) l (nI mem l) k
    | none => none)
 else none
def wE (boxed : Bool) (mem : aR) (t : TypeId) (rs : Nat) (l c : KV) (k : bY → Option R) : Option R :=
 FK tab t fun et te =>
 match l, c with
 | .lit (.int _ n), .lit (.int _ n') =>
  (match te.ty with
  | some T => bif Nat.ble 1 te.n && Nat.ble te.bytes 4096 && Nat.beq te.n T.size && Nat.beq te.zero.length te.n then
    eZ I mem T (te.zero.map .lit) fun z β l => bif !(e8 l) then none else I.guard ((n == n') && decide (0 ≤ n) && Nat.ble n.toNat cT) (FF boxed rs (.ts β te.ag T (List.replicate n.toNat z)) [] [] k)
   else none
  | none => none)
 | _, _ => none
def GJ (t : TypeId) (x ix : KV) (k : bY → Option R) : Option R :=
 match x, ix with
 | .agg cs, .lit (.int _ i) =>
  (match tab t with
  | some ti => (match ti.tk with
   | .arr n e => (match tab e with
    | some te => bif !te.ag && Nat.beq te.n 1 then I.guard (decide (0 ≤ i) && decide (i < (n : Int))) (Nx I i.toNat cs 0 fun v => k (fU v)) else none
    | none => none)
   | _ => none)
  | none => none)
 | .lit (.string s), .lit (.int _ i) =>
  (match tab t with
  | some ti => (match ti.tk with
   | .str => I.get (cE s) i fun n => k (fU (.lit (.int .u8 n)))
   | _ => none)
  | none => none)
 | _, _ => none
def Qk (boxed raw vars : Bool) (o : Oper) (env : Nat → KV) (mem : aR) (rs : Nat) (k : bY → Option R) : Option R :=
 match o.op with
 | .move x => KY tab boxed vars o.type rs env x k
 | .assign x => KY tab boxed vars o.type rs env x k
 | .pick c a b => gK env c fun c => gK env a fun a => gK env b fun b => Nz I c a b fun v => k (fU v)
 | .alloc t => (match tab t with | some ti => bif Nat.ble 1 ti.zero.length && z3 (ti.zero.map .lit) then k ⟨.ptr rs 0 0 0, [], [(rs, ⟨0, false, .cells 1 (ti.zero.map .lit)⟩)], []⟩ else none | none => none)
 | .box t x => gK env x fun v => (match tab t with | some ti => bif Nat.beq v.cells.length ti.n && Nat.ble 1 ti.n && z3 v.cells then k ⟨.ptr rs 0 0 0, [], [(rs, ⟨0, false, .cells 1 v.cells⟩)], []⟩ else none | none => none)
 | .build t parts => Dt env parts.toList fun ps =>
  (match tab t with
  | some ti =>
   (match ti.tk with
   | .st fs => (match Bx (fun i => match kO fs i with | some q => some (q.1, q.2.1) | none => none) (fJ ti).cells ps with | some cs => k (fU (.agg cs)) | none => none)
   | .arr _ e => (match tab e with | some te => (match Bx (fun i => some (i * te.n, te.n)) (fJ ti).cells ps with | some cs => k (fU (.agg cs)) | none => none) | none => none)
   | _ => none)
  | none => none)
 | .buildSlice t len parts => rO I tab boxed vars env mem rs t len parts k
 | .load t a => gK env a fun a => KP I tab t mem a k
 | .store t a x => gK env a fun a => gK env x fun x => JE I tab t mem a x k
 | .nilCheck x => gK env x fun v => (match v with | .ptr _ _ _ _ => k (fU v) | .el _ _ _ _ _ => k (fU v) | .fn (.func _) _ _ => k (fU v) | _ => none)
 | .binOp op t x y _ => gK env x fun x => gK env y fun y => Pi I tab op t x y fun v => k (fU v)
 | .unOp op _ x => gK env x fun x => QG op x fun v => k (fU v)
 | .convert src dst x => gK env x fun x => Dy I tab boxed src dst mem rs x k
 | .makeFunc fn first cap => yV env first.toList fun fi => yV env cap.toList fun ca => k (fU (.fn fn fi ca))
 | .makeSlice t l c => gK env l fun l => gK env c fun c => wE I tab boxed mem t rs l c k
 | .slice t x lo hi mx => gK env x fun x => NJ env lo fun lo => NJ env hi fun hi => NJ env mx fun mx => Jv I tab t mem x lo hi mx k
 | .fieldAddr s x f => gK env x fun x => Hd tab s f fun off _ _ =>
  (match x with
  | .ptr b g i c => k (fU (.ptr b g i (c + off)))
  | .el β ag T x c => k (fU (.el β ag T x (c + off)))
  | _ => none)
 | .field s x f => gK env x fun x => Hd tab s f fun off n ft =>
  (match x with
  | .agg cs => (match tab ft with
   | some tf => bif tf.ag then bif Nat.ble (off + n) cs.length then k (fU (.agg ((cs.drop off).take n))) else none
     else (match kO cs off with | some v => k (fU v) | none => none)
   | none => none)
  | _ => none)
 | .indexAddr t x ix => gK env x fun x => gK env ix fun ix => (match ix with | .lit (.int _ i) => Kg I tab t mem x i k | _ => none)
 | .index t x ix => gK env x fun x => gK env ix fun ix => GJ I tab t x ix k
 | .extract t ix => gK env t fun t => (match t with | .tup vs => (match kO vs ix with | some v => k (fU v) | none => none) | _ => none)
 | .call c => yV env c.args.toList fun args =>
  (match c.callee with
  | .builtin b => Cs I tab boxed vars b c.argTypes.toList mem rs args k
  | .value f => gK env f fun f => (match f with | .fn (.func g) fi ca => MR I tab tbl raw vars g c.argTypes.toList fi args ca mem k | _ => none)
  | .invoke _ _ => none)
 | _ => none
def sD (mem : aR) : List (Nat × fG) → aR
 | [] => mem
 | (b, x) :: r => sD (B4 (some x) mem b) r
def bY.apply (o : bY) (mem : aR) : aR := sD mem o.wr ++ o.push
def GW (mem : aR) (rs : Nat) : Bool :=
 match kO mem rs with
 | some none => true
 | _ => false
def FY : aR → aR
 | [] => []
 | x :: r => match FY r with
  | [] => (match x with | none => [] | some b => [some b])
  | y => x :: y
def GB : KV → Option (Nat × Nat × Nat × Nat)
 | .ptr b g i c => some (b, g, i, c)
 | _ => none
def y8 (x : fG) : Option (Nat × Nat × List (Option (Nat × Nat × Nat × Nat))) :=
 match x.row with
 | .cells e cs => some (x.gen, e, cs.map GB)
 | _ => none
def mH (mem : aR) (b : Nat) : Option (Nat × Nat × List (Option (Nat × Nat × Nat × Nat))) :=
 match kO mem b with
 | some (some x) => y8 x
 | _ => none
def vX (mem : aR) (wr : List (Nat × fG)) (b : Nat) : Bool := wr.all fun q => !(Nat.beq q.1 b) || GY (y8 q.2) (mH mem b)
def MU (op : Op) (mem : aR) (v : KV) (rd : List Nat) : Bool :=
 JF op && (match GB v with | some _ => true | none => false) && (match rd with | [b] => (match mH mem b with | some _ => true | none => false) | _ => false)
def bY.tr (mk : Bool) (rs : Nat) (o : bY) (i : Nat) (op : Op) (mem : aR) : Tr := { i, rc := MU op mem o.v o.rd, wk := vX mem o.wr, rd := o.rd, wr := bif mk then rs :: o.wr.map (·.1) else o.wr.map (·.1), push := match o.push with | [] => false | _ => true }
def KO (h : Option Int) (v : KV) (k : KV → Option R) : Option R :=
 match h with
 | none => k v
 | some x => match v with
  | .lit (.int kd y) => I.guard (decide (y = x)) (k (.lit (.int kd x)))
  | _ => none
def JY (an : mQ) (rid : Nat) (ds : List (Option Tmp)) : List Oper → Nat → Nat → Ah → List Tr → (Ah → List Tr → Option R) → Option R
 | [], _, _, st, tr, k => k st tr
 | o :: rest, i, rs, st, tr, k =>
  let mk := eA o.op
  let rs' := bif mk then rs + 1 else rs
  let run (env : Nat → KV) : Option R := bif (bif mk then GW st.mem rs else true) then Qk I tab tbl (cH rid i an.boxed) (cH rid i an.raw) (cH rid i an.vars) o env st.mem rs fun out =>
   KO I (A2 rid i an.hint) out.v fun v => JY an rid ds rest (i + 1) rs' ⟨v7 env o.dst v, out.apply st.mem⟩ (out.tr mk rs i o.op st.mem :: tr) k else none
  let skip (env : Nat → KV) : Option R := JY an rid ds rest (i + 1) rs' ⟨v7 env o.dst (.lit undef), st.mem⟩ tr k
  match o.guard with
  | none => run st.env
  | some (j, want) =>
   match kO ds j with
   | some (some d) =>
    (match st.env d with
    | .lit (.bool b) =>
     I.ite b ((fun env => bif want then run env else skip env) (lV st.env d (.lit (.bool true)))) ((fun env => bif want then skip env else run env) (lV st.env d (.lit (.bool false))))
    | .lit (.tuple _) => skip st.env
    | _ => none)
   | _ => none
def Hl (an : mQ) (rid : Nat) (ops : Array Oper) (draw : Bool) (st : Ah) (k : Ah → Option R) : Option R :=
 let n := nY ops.toList
 JY I tab tbl an rid (ops.toList.map (·.dst)) ops.toList 0 st.mem.length ⟨st.env, st.mem ++ List.replicate n none⟩ [] fun st' tr =>
  bif !draw || He ops (st.mem.length + n) tr then k ⟨st'.env, FY st'.mem⟩ else none
def mS (env : Nat → KV) (c : Operand) (b : Bool) : Nat → KV :=
 match c with
 | .tmp d => lV env d (.lit (.bool b))
 | _ => env
def Fu (old : List (Option Bool)) (live : List Nat) (st : Ah) (k : Ah → Option R) : Option R :=
 yV st.env (live.map .tmp) fun vs => Aw old vs st.mem fun vs' mem' => k ⟨dP live vs', mem'⟩
variable (loops : Nat → Option aK)
def jD (an : mQ) (old : List (Option Bool)) : Code → Nat → Ah → (Jd → Ah → Option R) → Option R
 | .skip, _, st, k => k .normal st
 | .ret, _, st, k => k .ret st
 | .exit id, _, st, k => k (.exit id) st
 | .seq a b, bid, st, k => jD an old a bid st fun e st' =>
  match e with
  | .normal => jD an old b bid st' k
  | .exit id => k (.exit id) st'
  | .ret => k .ret st'
 | .cond c x y, bid, st, k => gK st.env c fun v =>
  match v with
  | .lit (.bool t) => I.ite t (jD an old x bid ⟨mS st.env c true, st.mem⟩ k) (jD an old y bid ⟨mS st.env c false, st.mem⟩ k)
  | .unkB => I.amb (jD an old x bid st k) (jD an old y bid st k)
  | _ => none
 | .block id c, _, st, k => jD an old c id st fun e st' =>
  match e with
  | .normal => k .normal st'
  | .exit j => bif Nat.beq j id then k .normal st' else k (.exit j) st'
  | .ret => k .ret st'
 | .loop c, bid, st, k =>
  match dU bid an.live with
  | some live => Fu old live st fun st1 =>
   (match loops bid with
   | some L => (match z4 false L.heads .normal st1 with
    | some s => I.bind (L.run s) fun x => BX I L.outs x k
    | none => I.loop bid st1 k)
   | none => I.loop bid st1 k)
  | none => none
 | .region rid ops draw, _, st, k => Hl I tab tbl an rid ops draw st (fun st' => k .normal st')
 | _, _, _, _ => none
def Kl (env : Nat → KV) (mem : aR) : List ResultVar → (List KV → Option R) → Option R
 | [], k => k []
 | .tmp t :: r, k => gK env (.tmp t) fun v => Kl env mem r fun vs => k (v :: vs)
 | .cell a t :: r, k => gK env (.tmp a) fun a => KP I tab t mem a fun o => Kl env mem r fun vs => k (o.v :: vs)
def sE : List KV → KV
 | [v] => v
 | vs => .tup vs
def P9 (fn : Func) (old : List (Option Bool)) (e : Jd) (st : Ah) (k : KV → aR → Option R) : Option R :=
 match e with
 | .exit _ => none
 | _ => Kl I tab st.env st.mem fn.results.toList fun vs => Aw old [sE vs] st.mem fun ws mem' => (match ws with | [v] => k v mem' | _ => none)
def Hp (args : List KV) (n : Nat) : Nat → KV := fun t =>
 match kO args t with
 | some v => v
 | none => bif Nat.blt t n then .lit undef else .gone
def Od (an : mQ) (fn : Func) (args : List KV) (mem : aR) (k : KV → aR → Option R) : Option R :=
 match fn.body with
 | some c => jD I tab tbl loops an (eX mem) c 0 ⟨Hp args fn.ntmps, mem⟩ fun e st => P9 I tab fn (eX mem) e st k
 | none => none
def OH (an : mQ) (fn : Func) (a : kX) (r : List kX) (d : a.den) (k : eP r → Option R) : Option R :=
 Od I tab tbl loops an fn (eY a.sh (P2.fst a.sh.dflt _ _ d)) (fV a.msh (P2.snd a.msh.dflt _ _ d)) fun v mem =>
  match z4 true r .ret ⟨dP [0] [v], mem⟩ with
  | some b => k b
  | none => none
def fD : Code → Nat → List (Nat × Code)
 | .seq a b, bid => fD a bid ++ fD b bid
 | .cond _ x y, bid => fD x bid ++ fD y bid
 | .block id c, _ => fD c id
 | .loop c, bid => (bid, c) :: fD c bid
 | _, _ => []
def CC (an : mQ) (old : List (Option Bool)) (c : Code) (bid : Nat) (live : List Nat) (heads outs : List kX) (s : eP heads) (k : eP heads ⊕ eP outs → Option R) : Option R :=
 BX I heads s fun _ lJ => jD I tab tbl loops an old c bid lJ fun e st =>
  match e with
  | .normal => Fu old live st fun st1 => (match z4 false heads .normal st1 with | some s' => k (.inl s') | none => none)
  | .exit id => (match z4 false outs (.exit id) st with | some x => k (.inr x) | none => none)
  | .ret => (match z4 false outs .ret st with | some x => k (.inr x) | none => none)
end
end
end Go.Ab
