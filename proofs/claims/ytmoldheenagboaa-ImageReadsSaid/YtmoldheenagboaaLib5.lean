import Derived.Test.YtmoldheenagboaaLib4
set_option linter.unusedVariables false
set_option linter.unusedSectionVars false
namespace Go.Ab
noncomputable section
inductive Sh where
 | int (k : IntKind) | bool | str
 | nilS | nilP | undef
 | sl (β ag : Bool) (T : Ty)
 | el (β ag : Bool) (T : Ty) (c : Nat)
 | ptr (b g i c : Nat)
 | ptrI (b g c : Nat)
 | ms (b g : Nat)
 | msw (b g : Nat)
 | fn (f : FuncId) (fi ca : Sh)
 | agg (l : Sh)
 | tup (l : Sh)
 | nil
 | cons (a b : Sh)
 | bnone
 | bts (gen : Nat) (frz β ag : Bool) (T : Ty)
 | bcells (gen : Nat) (frz : Bool) (e : Nat) (l : Sh)
def P2 (ua ub : Bool) (A B : Type) : Type := Bool.rec (Bool.rec (A × B) A ub) B ua
def P2.mk {A B : Type} : (ua ub : Bool) → A → B → P2 ua ub A B
 | true, _, _, b => b
 | false, true, a, _ => a
 | false, false, a, b => (a, b)
def P2.fst {A B : Type} (da : A) : (ua ub : Bool) → P2 ua ub A B → A
 | true, _, _ => da
 | false, true, p => p
 | false, false, p => p.1
def P2.snd {A B : Type} (db : B) : (ua ub : Bool) → P2 ua ub A B → B
 | true, _, p => p
 | false, true, _ => db
 | false, false, p => p.2
def Sh.un (s : Sh) : Bool :=
 Sh.rec (fun _ => false) false false true true true (fun _ _ _ => false) (fun _ _ _ _ => false) (fun _ _ _ _ => true) (fun _ _ _ => false) (fun _ _ => false) (fun _ _ => true)
  (fun _ _ _ a b => CT a b) (fun _ a => a) (fun _ a => a) true (fun _ _ a b => CT a b) true (fun _ _ _ _ _ => false) (fun _ _ _ _ a => a) s
def Sh.den (s : Sh) : Type :=
 Sh.rec (fun _ => Int) Bool ByteArray Unit Unit Unit (fun _ _ T => List (Go.Ab.den T)) (fun _ _ T _ => Go.Ab.den T) (fun _ _ _ _ => Unit) (fun _ _ _ => Nat) (fun _ _ => Nat × Nat) (fun _ _ => Unit)
  (fun _ fi ca a b => P2 fi.un ca.un a b) (fun _ a => a) (fun _ a => a) Unit (fun a b x y => P2 a.un b.un x y) Unit (fun _ _ _ _ T => List (Go.Ab.den T)) (fun _ _ _ _ a => a) s
def Sh.dflt : (s : Sh) → s.den
 | .int _ => (0 : Int)
 | .bool => false
 | .str => ByteArray.empty
 | .nilS | .nilP | .undef | .ptr _ _ _ _ | .msw _ _ | .nil | .bnone => ()
 | .sl _ _ _ => ([] : List _)
 | .el _ _ T _ => dT T
 | .ptrI _ _ _ => (0 : Nat)
 | .ms _ _ => ((0, 0) : Nat × Nat)
 | .fn _ fi ca => P2.mk _ _ fi.dflt ca.dflt
 | .agg l => l.dflt
 | .tup l => l.dflt
 | .cons a b => P2.mk _ _ a.dflt b.dflt
 | .bts _ _ _ _ _ => ([] : List _)
 | .bcells _ _ _ l => l.dflt
 where
 dT : (T : Ty) → Go.Ab.den T
 | .int _ => (0 : Int)
 | .bool => false
 | .str => ByteArray.empty
 | .sl _ _ => ([] : List _)
 | .cons a b => (dT a, dT b)
def fY (a b : Nat) : Bool := Nat.beq a b
def dS (nz : Bool) : (s : Sh) → List KV → Option s.den
 | .int k, vs => (match vs with | [.lit (.int k' x)] => bif f6 k k' then some x else none | _ => none)
 | .bool, vs => (match vs with | [.lit (.bool x)] => some x | _ => none)
 | .str, vs => (match vs with | [.lit (.string x)] => some x | _ => none)
 | .nilS, vs => (match vs with | [.lit (.slice none 0 0)] => some () | _ => none)
 | .nilP, vs => (match vs with | [.lit (.pointer none)] => some () | _ => none)
 | .undef, vs => (match vs with | [.lit (.tuple a)] => (match a.toList with | [] => some () | _ => none) | _ => none)
 | .sl β ag T, vs => (match vs with
  | [.tsl β' ag' T' xs] => bif (eV β β' || (nz && β)) && eV ag ag' then zH T' T xs else none
  | [.lit (.slice none 0 0)] => bif nz then some [] else none
  | _ => none)
 | .el β ag T c, vs => (match vs with
  | [.el β' ag' T' x c'] => bif (eV β β' || (nz && β)) && eV ag ag' && fY c c' then Em (F := Go.Ab.den) (Ty.beq T' T) rfl x else none
  | _ => none)
 | .ptr b g i c, vs => (match vs with | [.ptr b' g' i' c'] => bif fY b b' && fY g g' && fY i i' && fY c c' then some () else none | _ => none)
 | .ptrI b g c, vs => (match vs with | [.ptr b' g' i c'] => bif fY b b' && fY g g' && fY c c' then some i else none | _ => none)
 | .ms b g, vs => (match vs with | [.ms b' g' o n] => bif fY b b' && fY g g' then some (o, n) else none | _ => none)
 | .msw b g, vs => (match vs with | [.msw b' g'] => bif fY b b' && fY g g' then some () else none | _ => none)
 | .fn f fi ca, vs => (match vs with
  | [.fn (.func f') fi' ca'] => bif fY f f' then
    (match dS nz fi fi' with
    | some x => (match dS nz ca ca' with | some y => some (P2.mk _ _ x y) | none => none)
    | none => none) else none
  | _ => none)
 | .agg l, vs => (match vs with | [.agg cs] => dS nz l cs | _ => none)
 | .tup l, vs => (match vs with | [.tup cs] => dS nz l cs | _ => none)
 | .nil, vs => (match vs with | [] => some () | _ => none)
 | .cons a b, vs => (match vs with
  | v :: r =>
   (match dS nz a [v] with
   | some x => (match dS nz b r with | some y => some (P2.mk _ _ x y) | none => none)
   | none => none)
  | [] => none)
 | .bnone, _ => none
 | .bts _ _ _ _ _, _ => none
 | .bcells _ _ _ _, _ => none
def dG : (s : Sh) → s.den → List KV
 | .int k, x => [.lit (.int k x)]
 | .bool, x => [.lit (.bool x)]
 | .str, x => [.lit (.string x)]
 | .nilS, _ => [.lit (.slice none 0 0)]
 | .nilP, _ => [.lit (.pointer none)]
 | .undef, _ => [.lit (.tuple #[])]
 | .sl β ag T, xs => [.tsl β ag T xs]
 | .el β ag T c, x => [.el β ag T x c]
 | .ptr b g i c, _ => [.ptr b g i c]
 | .ptrI b g c, i => [.ptr b g i c]
 | .ms b g, p => [.ms b g (Prod.fst p) (Prod.snd p)]
 | .msw b g, _ => [.msw b g]
 | .fn f fi ca, p => [.fn (.func f) (dG fi (P2.fst fi.dflt _ _ p)) (dG ca (P2.snd ca.dflt _ _ p))]
 | .agg l, p => [.agg (dG l p)]
 | .tup l, p => [.tup (dG l p)]
 | .nil, _ => []
 | .cons a b, p => dG a (P2.fst a.dflt _ _ p) ++ dG b (P2.snd b.dflt _ _ p)
 | .bnone, _ => []
 | .bts _ _ _ _ _, _ => []
 | .bcells _ _ _ _, _ => []
def Aq (nz : Bool) : (s : Sh) → aO → Option s.den
 | .nil, m => (match m with | [] => some () | _ => none)
 | .cons a b, m => (match m with
  | x :: r =>
   (match Aq nz a [x] with
   | some x => (match Aq nz b r with | some y => some (P2.mk _ _ x y) | none => none)
   | none => none)
  | [] => none)
 | .bnone, m => (match m with | [none] => some () | _ => none)
 | .bts gen frz β ag T, m => (match m with
  | [some ⟨gen', frz', .ts β' ag' T' xs⟩] => bif fY gen gen' && eV frz frz' && eV β β' && eV ag ag' then zH T' T xs else none
  | _ => none)
 | .bcells gen frz e l, m => (match m with
  | [some ⟨gen', frz', .cells e' cs⟩] => bif fY gen gen' && eV frz frz' && fY e e' then dS false l cs else none
  | _ => none)
 | _, _ => none
def eH : (s : Sh) → s.den → aO
 | .nil, _ => []
 | .cons a b, p => eH a (P2.fst a.dflt _ _ p) ++ eH b (P2.snd b.dflt _ _ p)
 | .bnone, _ => [none]
 | .bts gen frz β ag T, xs => [some ⟨gen, frz, .ts β ag T xs⟩]
 | .bcells gen frz e l, p => [some ⟨gen, frz, .cells e (dG l p)⟩]
 | _, _ => []
structure aI where
 ex : FP
 slots : List Nat
 sh : Sh
 msh : Sh
def aI.den (s : aI) : Type := P2 s.sh.un s.msh.un s.sh.den s.msh.den
def cX : List Nat → List KV → Nat → KV
 | s :: ss, v :: vs => fun t => bif Nat.beq t s then v else cX ss vs t
 | _, _ => fun _ => .gone
def iD (env : Nat → KV) : List Nat → List KV
 | [] => []
 | s :: r => env s :: iD env r
def A4 : FP → FP → Bool
 | .normal, .normal => true
 | .exit a, .exit b => Nat.beq a b
 | .ret, .ret => true
 | _, _ => false
def lE (nz : Bool) (s : aI) (st : wZ) : Option s.den :=
 match dS nz s.sh (iD st.env s.slots) with
 | some x => (match Aq nz s.msh st.mem with | some y => some (P2.mk _ _ x y) | none => none)
 | none => none
def cU (s : aI) (d : s.den) : wZ := ⟨cX s.slots (dG s.sh (P2.fst s.sh.dflt _ _ d)), eH s.msh (P2.snd s.msh.dflt _ _ d)⟩
def eU : List aI → Type
 | [] => Empty
 | [a] => a.den
 | a :: b :: r => a.den ⊕ eU (b :: r)
def mJ (nz : Bool) : (l : List aI) → FP → wZ → Option (eU l)
 | [], _, _ => none
 | [a], e, st => bif A4 a.ex e then lE nz a st else none
 | a :: b :: r, e, st => match (bif A4 a.ex e then lE nz a st else none) with
  | some x => some (Sum.inl x)
  | none => (match mJ nz (b :: r) e st with | some y => some (Sum.inr y) | none => none)
def GL {R : Type} (I : MB R) : (l : List aI) → eU l → (FP → wZ → Option R) → Option R
 | [], _, _ => none
 | [a], d, k => k a.ex (cU a d)
 | a :: b :: r, d, k => I.sum d (fun x => k a.ex (cU a x)) (fun y => GL I (b :: r) y k)
structure aD where
 a : aI
 r : List aI
 sh : a.den → Option (eU r)
structure aH where
 heads : List aI
 outs : List aI
 run : eU heads → Option (eU outs)
def bI {S X : Type} (B : S → Option (S ⊕ X)) (n : Nat) : S → Option X :=
 Nat.rec (fun _ => none) (fun _ ih s => (B s).bind fun q => Sum.rec (fun s' => ih s') (fun x => some x) q) n
section
variable {R : Type} (I : MB R) (tab : TypeId → Option TI)
variable [b8]
def IA (boxed vars : Bool) (t : TypeId) (rs : Nat) (env : Nat → KV) (x : Operand) (k : bW → Option R) : Option R :=
 bif pI x && boxed && !vars then
  (match tab t with
  | some ti => (match ti.tk with | .sl et => qA tab et fun row => k ⟨.msw rs 0, [], [(rs, ⟨0, false, row⟩)], []⟩ | _ => none)
  | none => none)
 else fN env x fun v =>
  match v with
  | .lit (.slice none 0 0) =>
   bif boxed then k (eW v) else
   (match tab t with
   | some ti => (match ti.tk with | .sl et => qA tab et fun row => (match row with | .ts β ag T xs => k (eW (.tsl β ag T xs)) | _ => none) | _ => none)
   | none => none)
  | v => k (eW v)
def K1 (c a b : KV) (k : KV → Option R) : Option R :=
 match c with
 | .lit (.bool t) =>
  match a, b with
  | .lit (.bool x), .lit (.bool y) => k (.lit (.bool (bif t then x else y)))
  | _, _ => I.ite t (k a) (k b)
 | _ => none
def A5 (boxed : Bool) (src dst : TypeId) (mem : aO) (rs : Nat) (x : KV) (k : bW → Option R) : Option R :=
 match tab src, tab dst with
 | some s, some d =>
  match s.tk, d.tk with
  | .int _, .int kd => (match x with | .lit (.int _ n) => k (eW (.lit (.int kd (bY kd n)))) | _ => none)
  | .str, .str => (match x with | .lit (.string b) => k (eW (.lit (.string b))) | _ => none)
  | .sl e, .str =>
   (match tab e with
   | some te =>
    (match te.tk with
    | .int ke => bif f6 ke .u8 && Nat.beq te.n 1 && Fm tab src x then IW I tab e mem x fun row rd =>
      (match row with
      | .ts _ ag (.int ke') xs => bif f6 ke' .u8 && !ag then k ⟨.lit (.string (c4 xs)), rd, [], []⟩ else none
      | _ => none) else none
    | _ => none)
   | none => none)
  | .sl _, .sl e =>
   (match tab e, x with
   | some te, .msw b g =>
    (match te.tk with
    | .int ke => bif f6 ke .u8 && Nat.beq src dst then pT mem b g fun x => I.guard (Nat.ble 1 (iA x.row)) (k ⟨.msw b g, [b], [], []⟩) else none
    | _ => none)
   | _, _ => none)
  | _, _ => none
 | _, _ => none
def mS (mem : aO) (t : TypeId) (v : KV) (k : KV → List Nat → Option R) : Option R :=
 match v with
 | .msw _ _ | .ms _ _ _ _ =>
  (match tab t with
  | some ti => bif ti.ag then none else (match ti.ty with
   | some (.sl ag T) => eB I mem (.sl ag T) [v] fun xs _ l => k (.tsl true ag T xs) l
   | _ => none)
  | none => none)
 | .agg cs => bif hasMsK cs then
   (match tab t with
   | some ti => (match ti.ty with | some T => lendCellsK mem (c9 T) cs fun vs l => k (.agg vs) l | none => none)
   | none => none)
  else k (.agg cs) []
 | v => k v []
 where
 hasMsK : List KV → Bool
  | [] => false
  | .msw _ _ :: _ => true
  | .ms _ _ _ _ :: _ => true
  | _ :: r => hasMsK r
 lendCellsK (mem : aO) : List Ty → List KV → (List KV → List Nat → Option R) → Option R
  | [], [], k => k [] []
  | T :: Ts, v :: vs, k =>
   (match v with
   | .msw _ _ | .ms _ _ _ _ =>
    (match T with
    | .sl ag T => eB I mem (.sl ag T) [v] fun xs _ l => lendCellsK mem Ts vs fun ws l' => k (.tsl true ag T xs :: ws) (l ++ l')
    | _ => none)
   | v => lendCellsK mem Ts vs fun ws l' => k (v :: ws) l')
  | _, _, _ => none
def wC (mem : aO) : List TypeId → List KV → (List KV → List Nat → Option R) → Option R
 | [], [], k => k [] []
 | t :: ts, v :: vs, k => mS I tab mem t v fun w l => wC mem ts vs fun ws l' => k (w :: ws) (l ++ l')
 | _, _, _ => none
def kR (mem sub : aO) (ids : List Nat) : j8 := fun b g =>
 bif Nat.beq g 0 then
  (match iB ids b with
  | some a => (match iB sub b, pR mem a with
   | some (some x), some h => some (a, bif gN x.row then h else h + 1)
   | _, _ => none)
  | none => bif Nat.blt b sub.length then some (mem.length + (b - ids.length), 0) else none)
 else none
def gJ (f : j8) (mem : aO) : List Nat → aO → List (Nat × eI)
 | a :: ids, some x :: r => (a, ⟨(match pR mem a with | some h => bif gN x.row then h else h + 1 | none => 0), x.frz, x.row.ren f⟩) :: gJ f mem ids r
 | _ :: ids, none :: r => gJ f mem ids r
 | _, _ => []
def qU (f : j8) : aO → aO
 | [] => []
 | some x :: r => some ⟨0, x.frz, x.row.ren f⟩ :: qU f r
 | none :: r => none :: qU f r
def kT : aO → List Nat
 | [] => []
 | some x :: r => x.row.refs ++ kT r
 | none :: r => kT r
variable (tbl : FuncId → List aD)
def j1 : Sh → List KV → Bool
 | .int _, vs => (match vs with | [.lit (.int _ _)] => true | _ => false)
 | .bool, vs => (match vs with | [.lit (.bool _)] => true | _ => false)
 | .str, vs => (match vs with | [.lit (.string _)] => true | _ => false)
 | .nilS, vs => (match vs with | [.lit (.slice none 0 0)] => true | _ => false)
 | .nilP, vs => (match vs with | [.lit (.pointer none)] => true | _ => false)
 | .undef, vs => (match vs with | [.lit (.tuple _)] => true | _ => false)
 | .sl _ _ _, vs => (match vs with | [.tsl _ _ _ _] => true | [.lit (.slice none 0 0)] => true | _ => false)
 | .el _ _ _ c, vs => (match vs with | [.el _ _ _ _ c'] => fY c c' | _ => false)
 | .ptr b g i c, vs => (match vs with | [.ptr b' g' i' c'] => fY b b' && fY g g' && fY i i' && fY c c' | _ => false)
 | .ptrI b g c, vs => (match vs with | [.ptr b' g' _ c'] => fY b b' && fY g g' && fY c c' | _ => false)
 | .ms b g, vs => (match vs with | [.ms b' g' _ _] => fY b b' && fY g g' | _ => false)
 | .msw b g, vs => (match vs with | [.msw b' g'] => fY b b' && fY g g' | _ => false)
 | .fn f fi ca, vs => (match vs with | [.fn (.func f') fi' ca'] => fY f f' && j1 fi fi' && j1 ca ca' | _ => false)
 | .agg l, vs => (match vs with | [.agg cs] => j1 l cs | _ => false)
 | .tup l, vs => (match vs with | [.tup cs] => j1 l cs | _ => false)
 | .nil, vs => (match vs with | [] => true | _ => false)
 | .cons a b, vs => (match vs with | v :: r => j1 a [v] && j1 b r | [] => false)
 | .bnone, _ => false
 | .bts _ _ _ _ _, _ => false
 | .bcells _ _ _ _, _ => false
def z5 : Sh → aO → Bool
 | .nil, m => (match m with | [] => true | _ => false)
 | .cons a b, m => (match m with | x :: r => z5 a [x] && z5 b r | [] => false)
 | .bnone, m => (match m with | [none] => true | _ => false)
 | .bts gen frz _ _ _, m => (match m with | [some ⟨gen', frz', .ts _ _ _ _⟩] => fY gen gen' && eV frz frz' | _ => false)
 | .bcells gen frz e l, m => (match m with | [some ⟨gen', frz', .cells e' cs⟩] => fY gen gen' && eV frz frz' && fY e e' && j1 l cs | _ => false)
 | _, _ => false
def Ly (g : FuncId) (args : List KV) (mem : aO) (k : KV → aO → Option R) : List aD → Option R
 | [] => I.ask g args mem k
 | E :: r => bif j1 E.a.sh args && z5 E.a.msh mem then
   (match lE true E.a ⟨cX E.a.slots args, mem⟩ with
   | some a => bif Nat.beq args.length E.a.slots.length then I.bind (E.sh a) fun b => GL I E.r b fun _ st => k (st.env 0) st.mem else none
   | none => none)
  else Ly g args mem k r
def MA (g : FuncId) (args : List KV) (mem : aO) (k : KV → aO → Option R) : Option R := Ly I g args mem k (tbl g)
def K9 (keep : Bool) (mem : aO) (ts : List TypeId) (vs : List KV) (k : List KV → List Nat → Option R) : Option R := bif keep then k vs [] else wC I tab mem ts vs k
def Kq (raw keep : Bool) (g : FuncId) (ts : List TypeId) (fi args ca : List KV) (mem : aO) (k : bW → Option R) : Option R :=
 K9 I tab keep mem ts args fun la lb =>
 let all := fi ++ la ++ ca
 let ids := iZ mem (c6 mem (KV.refsAll all).length) (KV.refsAll all) []
 bif cW ids && rR lb ids then
  MA I tbl g (KV.renAll (kI mem ids) all) (mN (kI mem ids) mem ids) fun v sub =>
  let m := ids.length
  let r := bif raw then v else qO m sub v
  bif Nat.ble m sub.length && (eA lb || !(v.lent || o8 sub)) then
   bif eE m r.refs && eE m (kT (sub.take m)) then
    k ⟨r.ren (kR mem (sub.take m) ids), lb ++ ids, gJ (kR mem (sub.take m) ids) mem ids sub, []⟩
   else
    k ⟨v.ren (kR mem sub ids), lb ++ ids, gJ (kR mem sub ids) mem ids sub, qU (kR mem sub ids) (sub.drop m)⟩
  else none
 else none
def Kd (mem : aO) (t tx : TypeId) (rs : Nat) (n : Int) (k : bW → Option R) : Option R :=
 match tab tx with
 | some tix => (match tix.tk with
  | .int _ => Do tab t fun et te =>
   (match te.ty with
   | some T => bif Nat.ble 1 te.n && Nat.ble te.bytes 4096 && Nat.beq te.n T.size && Nat.beq te.zero.length te.n && !(bP te.ag T) then
     eB I mem T (te.zero.map .lit) fun z β l => bif !(eA l) then none else I.guard (decide (1 ≤ n) && Nat.ble n.toNat cJ) (k ⟨.msw rs 0, [], [(rs, ⟨0, false, .ts β te.ag T (List.replicate n.toNat z)⟩)], []⟩)
    else none
   | none => none)
  | _ => none)
 | none => none
def Cb (boxed vars : Bool) (b : Builtin) (ts : List TypeId) (mem : aO) (rs : Nat) (args : List KV) (k : bW → Option R) : Option R :=
 match b with
 | .len => (match ts, args with | [t], [x] => Ma tab t mem x fun n rd => k ⟨.lit (.int .i64 n), rd, [], []⟩ | _, _ => none)
 | .append => (match ts, args with | [t, tx], [x, y] => (match x, y with | .lit (.slice none 0 0), .lit (.int _ n) => Kd I tab mem t tx rs n k | _, _ => E1 I tab boxed vars t tx mem rs x y k) | _, _ => none)
 | .cap => (match ts, args with | [t], [.lit (.slice none 0 0)] => (match tab t with | some ti => (match ti.tk with | .sl _ => k (eW (.lit (.int .i64 0))) | _ => none) | none => none) | _, _ => none)
 | .min => (match args with | .lit (.int kd a) :: r => (match pS Ey kd r a with | some v => k (eW (.lit (.int kd v))) | none => none) | _ => none)
 | .max => (match args with | .lit (.int kd a) :: r => (match pS CY kd r a with | some v => k (eW (.lit (.int kd v))) | none => none) | _ => none)
 | _ => none
def wI (k : IntKind) : List KV → Option (List Int)
 | [] => some []
 | .lit (.int k' x) :: r => bif f6 k k' then (match wI k r with | some xs => some (x :: xs) | none => none) else none
 | _ :: _ => none
def pC (boxed vars : Bool) (env : Nat → KV) (mem : aO) (rs : Nat) (t : TypeId) (len : Nat) (parts : Array (Nat × Operand)) (k : bW → Option R) : Option R :=
 Do tab t fun et te => A6 env parts.toList fun ps =>
 let z := eD te
 let vs := qE (List.replicate len z) ps
 bif vV len ps && Nat.ble len 4096 && Nat.ble 1 te.n && Nat.ble te.n 4096 && pZ te.n (z :: ps.map (·.2)) && pZ te.n vs then
  match te.tk with
  | .int kd => bif Nat.beq te.n 1 then (match wI kd vs with | some xs => Du (boxed || Nat.beq len 0) rs (.ts false false (.int kd) xs) [] [] k | none => none) else none
  | _ => bif vars then (bif vT (kC vs) then Du (boxed || Nat.beq len 0) rs (.cells te.n (kC vs)) [] [] k else none)
   else (match te.ty with
    | some T => Fy I mem te.ag T vs fun xs β l => Du (boxed || Nat.beq len 0) rs (.ts β te.ag T xs) l (lD mem l) k
    | none => none)
 else none
def sL (boxed : Bool) (mem : aO) (t : TypeId) (rs : Nat) (l c : KV) (k : bW → Option R) : Option R :=
 Do tab t fun et te =>
 match l, c with
 | .lit (.int _ n), .lit (.int _ n') =>
  (match te.ty with
  | some T => bif Nat.ble 1 te.n && Nat.ble te.bytes 4096 && Nat.beq te.n T.size && Nat.beq te.zero.length te.n then
    eB I mem T (te.zero.map .lit) fun z β l => bif !(eA l) then none else I.guard ((n == n') && decide (0 ≤ n) && Nat.ble n.toNat cJ) (Du boxed rs (.ts β te.ag T (List.replicate n.toNat z)) [] [] k)
   else none
  | none => none)
 | _, _ => none
def E2 (t : TypeId) (x ix : KV) (k : bW → Option R) : Option R :=
 match x, ix with
 | .agg cs, .lit (.int _ i) =>
  (match tab t with
  | some ti => (match ti.tk with
   | .arr n e => (match tab e with
    | some te => bif !te.ag && Nat.beq te.n 1 then I.guard (decide (0 ≤ i) && decide (i < (n : Int))) (Kn I i.toNat cs 0 fun v => k (eW v)) else none
    | none => none)
   | _ => none)
  | none => none)
 | .lit (.string s), .lit (.int _ i) =>
  (match tab t with
  | some ti => (match ti.tk with
   | .str => I.get (fR s) i fun n => k (eW (.lit (.int .u8 n)))
   | _ => none)
  | none => none)
 | _, _ => none
def Nf (boxed raw vars : Bool) (o : Oper) (env : Nat → KV) (mem : aO) (rs : Nat) (k : bW → Option R) : Option R :=
 match o.op with
 | .move x => IA tab boxed vars o.type rs env x k
 | .assign x => IA tab boxed vars o.type rs env x k
 | .pick c a b => fN env c fun c => fN env a fun a => fN env b fun b => K1 I c a b fun v => k (eW v)
 | .alloc t => (match tab t with | some ti => bif Nat.ble 1 ti.zero.length && vT (ti.zero.map .lit) then k ⟨.ptr rs 0 0 0, [], [(rs, ⟨0, false, .cells 1 (ti.zero.map .lit)⟩)], []⟩ else none | none => none)
 | .box t x => fN env x fun v => (match tab t with | some ti => bif Nat.beq v.cells.length ti.n && Nat.ble 1 ti.n && vT v.cells then k ⟨.ptr rs 0 0 0, [], [(rs, ⟨0, false, .cells 1 v.cells⟩)], []⟩ else none | none => none)
 | .build t parts => A6 env parts.toList fun ps =>
  (match tab t with
  | some ti =>
   (match ti.tk with
   | .st fs => (match z1 (fun i => match iB fs i with | some q => some (q.1, q.2.1) | none => none) (eD ti).cells ps with | some cs => k (eW (.agg cs)) | none => none)
   | .arr _ e => (match tab e with | some te => (match z1 (fun i => some (i * te.n, te.n)) (eD ti).cells ps with | some cs => k (eW (.agg cs)) | none => none) | none => none)
   | _ => none)
  | none => none)
 | .buildSlice t len parts => pC I tab boxed vars env mem rs t len parts k
 | .load t a => fN env a fun a => Iw I tab t mem a k
 | .store t a x => fN env a fun a => fN env x fun x => HO I tab t mem a x k
 | .nilCheck x => fN env x fun v => (match v with | .ptr _ _ _ _ => k (eW v) | .el _ _ _ _ _ => k (eW v) | .fn (.func _) _ _ => k (eW v) | _ => none)
 | .binOp op t x y _ => fN env x fun x => fN env y fun y => Ms I tab op t x y fun v => k (eW v)
 | .unOp op _ x => fN env x fun x => NF op x fun v => k (eW v)
 | .convert src dst x => fN env x fun x => A5 I tab boxed src dst mem rs x k
 | .makeFunc fn first cap => wQ env first.toList fun fi => wQ env cap.toList fun ca => k (eW (.fn fn fi ca))
 | .makeSlice t l c => fN env l fun l => fN env c fun c => sL I tab boxed mem t rs l c k
 | .slice t x lo hi mx => fN env x fun x => KL env lo fun lo => KL env hi fun hi => KL env mx fun mx => HF I tab t mem x lo hi mx k
 | .fieldAddr s x f => fN env x fun x => FJ tab s f fun off _ _ =>
  (match x with
  | .ptr b g i c => k (eW (.ptr b g i (c + off)))
  | .el β ag T x c => k (eW (.el β ag T x (c + off)))
  | _ => none)
 | .field s x f => fN env x fun x => FJ tab s f fun off n ft =>
  (match x with
  | .agg cs => (match tab ft with
   | some tf => bif tf.ag then bif Nat.ble (off + n) cs.length then k (eW (.agg ((cs.drop off).take n))) else none
     else (match iB cs off with | some v => k (eW v) | none => none)
   | none => none)
  | _ => none)
 | .indexAddr t x ix => fN env x fun x => fN env ix fun ix => (match ix with | .lit (.int _ i) => H0 I tab t mem x i k | _ => none)
 | .index t x ix => fN env x fun x => fN env ix fun ix => E2 I tab t x ix k
 | .extract t ix => fN env t fun t => (match t with | .tup vs => (match iB vs ix with | some v => k (eW v) | none => none) | _ => none)
 | .call c => wQ env c.args.toList fun args =>
  (match c.callee with
  | .builtin b => Cb I tab boxed vars b c.argTypes.toList mem rs args k
  | .value f => fN env f fun f => (match f with | .fn (.func g) fi ca => Kq I tab tbl raw vars g c.argTypes.toList fi args ca mem k | _ => none)
  | .invoke _ _ => none)
 | _ => none
def qR (mem : aO) : List (Nat × eI) → aO
 | [] => mem
 | (b, x) :: r => qR (AD (some x) mem b) r
def bW.apply (o : bW) (mem : aO) : aO := qR mem o.wr ++ o.push
def Et (mem : aO) (rs : Nat) : Bool :=
 match iB mem rs with
 | some none => true
 | _ => false
def Dk : aO → aO
 | [] => []
 | x :: r => match Dk r with
  | [] => (match x with | none => [] | some b => [some b])
  | y => x :: y
def E4 : KV → Option (Nat × Nat × Nat × Nat)
 | .ptr b g i c => some (b, g, i, c)
 | _ => none
def vM (x : eI) : Option (Nat × Nat × List (Option (Nat × Nat × Nat × Nat))) :=
 match x.row with
 | .cells e cs => some (x.gen, e, cs.map E4)
 | _ => none
def k8 (mem : aO) (b : Nat) : Option (Nat × Nat × List (Option (Nat × Nat × Nat × Nat))) :=
 match iB mem b with
 | some (some x) => vM x
 | _ => none
def sX (mem : aO) (wr : List (Nat × eI)) (b : Nat) : Bool := wr.all fun q => !(Nat.beq q.1 b) || Fu (vM q.2) (k8 mem b)
def Kj (op : Op) (mem : aO) (v : KV) (rd : List Nat) : Bool :=
 Hu op && (match E4 v with | some _ => true | none => false) && (match rd with | [b] => (match k8 mem b with | some _ => true | none => false) | _ => false)
def bW.tr (mk : Bool) (rs : Nat) (o : bW) (i : Nat) (op : Op) (mem : aO) : Tr := { i, rc := Kj op mem o.v o.rd, wk := sX mem o.wr, rd := o.rd, wr := bif mk then rs :: o.wr.map (·.1) else o.wr.map (·.1), push := match o.push with | [] => false | _ => true }
def IU (h : Option Int) (v : KV) (k : KV → Option R) : Option R :=
 match h with
 | none => k v
 | some x => match v with
  | .lit (.int kd y) => I.guard (decide (y = x)) (k (.lit (.int kd x)))
  | _ => none
def Ii (an : dJ) (rid : Nat) (ds : List (Option Tmp)) : List Oper → Nat → Nat → wZ → List Tr → (wZ → List Tr → Option R) → Option R
 | [], _, _, st, tr, k => k st tr
 | o :: rest, i, rs, st, tr, k =>
  let mk := dE o.op
  let rs' := bif mk then rs + 1 else rs
  let run (env : Nat → KV) : Option R := bif (bif mk then Et st.mem rs else true) then Nf I tab tbl (cB rid i an.boxed) (cB rid i an.raw) (cB rid i an.vars) o env st.mem rs fun out =>
   IU I (y7 rid i an.hint) out.v fun v => Ii an rid ds rest (i + 1) rs' ⟨s3 env o.dst v, out.apply st.mem⟩ (out.tr mk rs i o.op st.mem :: tr) k else none
  let skip (env : Nat → KV) : Option R := Ii an rid ds rest (i + 1) rs' ⟨s3 env o.dst (.lit undef), st.mem⟩ tr k
  match o.guard with
  | none => run st.env
  | some (j, want) =>
   match iB ds j with
   | some (some d) =>
    (match st.env d with
    | .lit (.bool b) =>
     I.ite b ((fun env => bif want then run env else skip env) (kO st.env d (.lit (.bool true)))) ((fun env => bif want then skip env else run env) (kO st.env d (.lit (.bool false))))
    | .lit (.tuple _) => skip st.env
    | _ => none)
   | _ => none
def E3 (an : dJ) (rid : Nat) (ops : Array Oper) (draw : Bool) (st : wZ) (k : wZ → Option R) : Option R :=
 let n := mA ops.toList
 Ii I tab tbl an rid (ops.toList.map (·.dst)) ops.toList 0 st.mem.length ⟨st.env, st.mem ++ List.replicate n none⟩ [] fun st' tr =>
  bif !draw || Er ops (st.mem.length + n) tr then k ⟨st'.env, Dk st'.mem⟩ else none
def lS (env : Nat → KV) (c : Operand) (b : Bool) : Nat → KV :=
 match c with
 | .tmp d => kO env d (.lit (.bool b))
 | _ => env
def Ej (old : List (Option Bool)) (live : List Nat) (st : wZ) (k : wZ → Option R) : Option R :=
 wQ st.env (live.map .tmp) fun vs => yK old vs st.mem fun vs' mem' => k ⟨cX live vs', mem'⟩
variable (loops : Nat → Option aH)
def f5 (an : dJ) (old : List (Option Bool)) : Code → Nat → wZ → (FP → wZ → Option R) → Option R
 | .skip, _, st, k => k .normal st
 | .ret, _, st, k => k .ret st
 | .exit id, _, st, k => k (.exit id) st
 | .seq a b, bid, st, k => f5 an old a bid st fun e st' =>
  match e with
  | .normal => f5 an old b bid st' k
  | .exit id => k (.exit id) st'
  | .ret => k .ret st'
 | .cond c x y, bid, st, k => fN st.env c fun v =>
  match v with
  | .lit (.bool t) => I.ite t (f5 an old x bid ⟨lS st.env c true, st.mem⟩ k) (f5 an old y bid ⟨lS st.env c false, st.mem⟩ k)
  | .unkB => I.amb (f5 an old x bid st k) (f5 an old y bid st k)
  | _ => none
 | .block id c, _, st, k => f5 an old c id st fun e st' =>
  match e with
  | .normal => k .normal st'
  | .exit j => bif Nat.beq j id then k .normal st' else k (.exit j) st'
  | .ret => k .ret st'
 | .loop c, bid, st, k =>
  match bR bid an.live with
  | some live => Ej old live st fun st1 =>
   (match loops bid with
   | some L => (match mJ false L.heads .normal st1 with
    | some s => I.bind (L.run s) fun x => GL I L.outs x k
    | none => I.loop bid st1 k)
   | none => I.loop bid st1 k)
  | none => none
 | .region rid ops draw, _, st, k => E3 I tab tbl an rid ops draw st (fun st' => k .normal st')
 | _, _, _, _ => none
def HJ (env : Nat → KV) (mem : aO) : List ResultVar → (List KV → Option R) → Option R
 | [], k => k []
 | .tmp t :: r, k => fN env (.tmp t) fun v => HJ env mem r fun vs => k (v :: vs)
 | .cell a t :: r, k => fN env (.tmp a) fun a => Iw I tab t mem a fun o => HJ env mem r fun vs => k (o.v :: vs)
def qV : List KV → KV
 | [v] => v
 | vs => .tup vs
def Na (fn : Func) (old : List (Option Bool)) (e : FP) (st : wZ) (k : KV → aO → Option R) : Option R :=
 match e with
 | .exit _ => none
 | _ => HJ I tab st.env st.mem fn.results.toList fun vs => yK old [qV vs] st.mem fun ws mem' => (match ws with | [v] => k v mem' | _ => none)
def wU (args : List KV) (n : Nat) : Nat → KV := fun t =>
 match iB args t with
 | some v => v
 | none => bif Nat.blt t n then .lit undef else .gone
def LC (an : dJ) (fn : Func) (args : List KV) (mem : aO) (k : KV → aO → Option R) : Option R :=
 match fn.body with
 | some c => f5 I tab tbl loops an (gO mem) c 0 ⟨wU args fn.ntmps, mem⟩ fun e st => Na I tab fn (gO mem) e st k
 | none => none
def Je (an : dJ) (fn : Func) (a : aI) (r : List aI) (d : a.den) (k : eU r → Option R) : Option R :=
 LC I tab tbl loops an fn (dG a.sh (P2.fst a.sh.dflt _ _ d)) (eH a.msh (P2.snd a.msh.dflt _ _ d)) fun v mem =>
  match mJ true r .ret ⟨cX [0] [v], mem⟩ with
  | some b => k b
  | none => none
def aU : Code → Nat → List (Nat × Code)
 | .seq a b, bid => aU a bid ++ aU b bid
 | .cond _ x y, bid => aU x bid ++ aU y bid
 | .block id c, _ => aU c id
 | .loop c, bid => (bid, c) :: aU c bid
 | _, _ => []
def bU (an : dJ) (old : List (Option Bool)) (c : Code) (bid : Nat) (live : List Nat) (heads outs : List aI) (s : eU heads) (k : eU heads ⊕ eU outs → Option R) : Option R :=
 GL I heads s fun _ st0 => f5 I tab tbl loops an old c bid st0 fun e st =>
  match e with
  | .normal => Ej old live st fun st1 => (match mJ false heads .normal st1 with | some s' => k (.inl s') | none => none)
  | .exit id => (match mJ false outs (.exit id) st with | some x => k (.inr x) | none => none)
  | .ret => (match mJ false outs .ret st with | some x => k (.inr x) | none => none)
end
end
end Go.Ab
