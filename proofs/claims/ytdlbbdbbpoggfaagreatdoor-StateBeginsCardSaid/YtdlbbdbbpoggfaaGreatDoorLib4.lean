import Derived.Test.YtdlbbdbbpoggfaaGreatDoorLib1
set_option linter.unusedVariables false
namespace Go.Ab
noncomputable section
inductive Ty where
 | int (k : IntKind)
 | bool
 | str
 | sl (ag : Bool) (T : Ty)
 | cons (a b : Ty)
def Fa : Bool → Bool → Bool
 | true, b => b
 | false, _ => false
theorem nG (a b : Bool) : Fa a b = (a && b) := by cases a <;> rfl
def den (T : Ty) : Type := Ty.rec (fun _ => Int) Bool ByteArray (fun _ _ ih => List ih) (fun _ _ a b => a × b) T
def Ty.size (T : Ty) : Nat := Ty.rec (fun _ => 1) 1 1 (fun _ _ _ => 1) (fun _ _ a b => a + b) T
def Ty.flat (T : Ty) : Bool := Ty.rec (fun _ => true) true true (fun _ _ _ => false) (fun _ _ a b => Fa a b) T
def fT : Bool → Bool → Bool
 | true, b => b
 | false, b => !b
def Ty.beq : Ty → Ty → Bool
 | .int k, .int k' => gV k k'
 | .bool, .bool => true
 | .str, .str => true
 | .sl g T, .sl g' T' => Fa (fT g g') (Ty.beq T T')
 | .cons a b, .cons a' b' => Fa (Ty.beq a a') (Ty.beq b b')
 | _, _ => false
theorem Pl {a b : IntKind} (h : gV a b = true) : a = b := by cases a <;> cases b <;> first | rfl | cases h
theorem gM {a b : Bool} (h : fT a b = true) : a = b := by cases a <;> cases b <;> first | rfl | cases h
theorem Ty.eq_of_beq : ∀ {a b : Ty}, Ty.beq a b = true → a = b
 | .int _, .int _, h => by rw [Pl h]
 | .bool, .bool, _ => rfl
 | .str, .str, _ => rfl
 | .sl g T, .sl g' T', h => by
  simp only [Ty.beq, nG, yc] at h
  rw [gM h.1, Ty.eq_of_beq h.2]
 | .cons a b, .cons a' b', h => by
  simp only [Ty.beq, nG, yc] at h
  rw [Ty.eq_of_beq h.1, Ty.eq_of_beq h.2]
 | .int _, .bool, h | .int _, .str, h | .int _, .sl _ _, h | .int _, .cons _ _, h => by cases h
 | .bool, .int _, h | .bool, .str, h | .bool, .sl _ _, h | .bool, .cons _ _, h => by cases h
 | .str, .int _, h | .str, .bool, h | .str, .sl _ _, h | .str, .cons _ _, h => by cases h
 | .sl _ _, .int _, h | .sl _ _, .bool, h | .sl _ _, .str, h | .sl _ _, .cons _ _, h => by cases h
 | .cons _ _, .int _, h | .cons _ _, .bool, h | .cons _ _, .str, h | .cons _ _, .sl _ _, h => by cases h
def Fw {F : Ty → Type} {a b : Ty} (c : Bool) (h : Ty.beq a b = c) (x : F a) : Option (F b) :=
 match c, h with
 | true, h => some (Ty.eq_of_beq h ▸ x)
 | false, _ => none
def BL (a b : Ty) (xs : List (den a)) : Option (List (den b)) := Fw (F := fun T => List (den T)) (Ty.beq a b) rfl xs
inductive KV where
 | lit (v : Value)
 | tsl (β ag : Bool) (T : Ty) (xs : List (den T))
 | el (β ag : Bool) (T : Ty) (x : den T) (c : Nat)
 | ptr (b g i c : Nat)
 | ms (b g o n : Nat)
 | msw (b g : Nat)
 | fn (f : Fn) (first cap : List KV)
 | agg (cs : List KV)
 | tup (vs : List KV)
 | dead
 | gone
 | unkB
inductive KRow where
 | ts (β ag : Bool) (T : Ty) (xs : List (den T))
 | cells (e : Nat) (cs : List KV)
structure fG where
 gen : Nat
 frz : Bool
 row : KRow
abbrev aR := List (Option fG)
structure Ah where
 env : Nat → KV
 mem : aR
structure bY where
 v : KV
 rd : List Nat
 wr : List (Nat × fG)
 push : aR
inductive Jd where
 | normal | exit (id : Nat) | ret
def bT : Bool → Ty → Bool
 | false, .int _ => true
 | _, _ => false
structure PX (R : Type) where
 ite : Bool → Option R → Option R → Option R
 guard : Bool → Option R → Option R
 get : {α : Type} → List α → Int → (α → Option R) → Option R
 getN : {α : Type} → List α → Nat → (α → Option R) → Option R
 bind : {α : Type} → Option α → (α → Option R) → Option R
 sum : {α β : Type} → α ⊕ β → (α → Option R) → (β → Option R) → Option R
 loop : Nat → Ah → (Jd → Ah → Option R) → Option R
 ask : FuncId → List KV → aR → (KV → aR → Option R) → Option R
 amb : Option R → Option R → Option R
def bI (R : Type) : PX R := { ite := fun c a b => cond c a b, guard := fun c a => cond c a none, get := fun xs i k => (aD xs i).bind k, getN := fun xs i k => (xs[i]?).bind k, bind := fun x k => x.bind k, sum := fun x f g => Sum.rec f g x, loop := fun _ _ _ => none, ask := fun _ _ _ _ => none, amb := fun a b => Go.Ab.amb a b }
def Fk (β ag : Bool) (T : Ty) : Bool :=
 match T with
 | .int _ => bif ag then β else false
 | _ => β
def aI (k : IntKind) (a b : Int) : Int := k.wrap (a + b)
def a8 (k : IntKind) (a b : Int) : Int := k.wrap (a - b)
def Mk (k : IntKind) (a b : Int) : Int := k.wrap (a * b)
def My (k : IntKind) (a b : Int) : Int := k.wrap (a.tdiv b)
def LU (a b : Int) : Int := a.tmod b
def QB (k : IntKind) (a b : Int) : Int := k.wrap (a * 2 ^ (min b.toNat k.bits))
def Mj (k : IntKind) (a b : Int) : Int := a.fdiv (2 ^ (min b.toNat k.bits))
def Qv (k : IntKind) (a b : Int) : Int := k.wrap (BitVec.ofInt k.bits a &&& BitVec.ofInt k.bits b).toNat
def P4 (k : IntKind) (a b : Int) : Int := k.wrap (BitVec.ofInt k.bits a ||| BitVec.ofInt k.bits b).toNat
def Qt (k : IntKind) (a b : Int) : Int := k.wrap (BitVec.ofInt k.bits a ^^^ BitVec.ofInt k.bits b).toNat
def O2 (k : IntKind) (a b : Int) : Int := k.wrap (BitVec.ofInt k.bits a &&& ~~~BitVec.ofInt k.bits b).toNat
def Qy (k : IntKind) (n : Int) : Int := k.wrap (BitVec.ofInt k.bits (if k.signed then -1 else k.max) ^^^ BitVec.ofInt k.bits n).toNat
def aY (k : IntKind) (n : Int) : Int := k.wrap n
def Qx (a b : ByteArray) : Bool := a.toList == b.toList
def aA {α : Type} (xs : List α) : Int := (xs.length : Int)
def w6 (s : ByteArray) : Int := (s.size : Int)
def Ol (x y : Int) : Int := bif decide (y < x) then y else x
def Iz (x y : Int) : Int := bif decide (y > x) then y else x
inductive TK where
 | int (k : IntKind) | bool | str | sl (et : TypeId) | st (fs : List (Nat × Nat × TypeId)) | ptr | arr (n : Nat) (e : TypeId) | other
structure TI where
 tk : TK
 n : Nat
 bytes : Nat
 ag : Bool
 ty : Option Ty
 eq : Bool
 zero : List Value
section
variable {R : Type} (I : PX R) (tab : TypeId → Option TI)
def lV (env : Nat → KV) (d : Nat) (v : KV) : Nat → KV := fun t => bif Nat.beq t d then v else env t
def v7 (env : Nat → KV) (dst : Option Tmp) (v : KV) : Nat → KV :=
 match dst with
 | some d => lV env d v
 | none => env
def GZ : Value → KV
 | .agg cs => .agg (cs.toList.map .lit)
 | v => .lit v
def sS : List Value → Bool
 | [] => true
 | v :: r => lR v && sS r
def GL : Value → Bool
 | .agg cs => sS cs.toList
 | _ => true
def gK [cD] (env : Nat → KV) (x : Operand) (k : KV → Option R) : Option R :=
 match x with
 | .tmp t => (match env t with | .gone => none | v => k v)
 | .const v => bif GL v then k (GZ v) else none
 | .func f => k (.fn (.func f) [] [])
 | .global g => (match cD.tab g with | some q => k (.el true true (.cons (.int .i64) (.int .i64)) (q.1, q.2) 0) | none => none)
def yV [cD] (env : Nat → KV) : List Operand → (List KV → Option R) → Option R
 | [], k => k []
 | x :: r, k => gK env x fun v => yV env r fun vs => k (v :: vs)
def Dt [cD] (env : Nat → KV) : List (Nat × Operand) → (List (Nat × KV) → Option R) → Option R
 | [], k => k []
 | (i, x) :: r, k => gK env x fun v => Dt env r fun vs => k ((i, v) :: vs)
def NJ [cD] (env : Nat → KV) : Option Operand → (Option Int → Option R) → Option R
 | none, k => k none
 | some x, k => gK env x fun v =>
  match v with
  | .lit (.int _ n) => k (some n)
  | _ => none
def KV.cells : KV → List KV
 | .agg cs => cs
 | v => [v]
def N9 : KV → Bool
 | .lit v => v.oneCell'
 | .agg _ => false
 | .tup _ => false
 | .gone => false
 | _ => true
def z3 : List KV → Bool
 | [] => true
 | v :: r => N9 v && z3 r
def cellsOf (β : Bool) (T : Ty) : den T → List KV :=
 Ty.rec (motive := fun T => den T → List KV) (fun k x => [.lit (.int k x)]) (fun x => [.lit (.bool x)]) (fun x => [.lit (.string x)])
  (fun ag T _ xs => [.tsl β ag T xs]) (fun _ _ iha ihb x => iha x.1 ++ ihb x.2) T
def rY (mem : aR) (b g : Nat) (k : fG → Option R) : Option R :=
 match kO mem b with
 | some (some x) => bif Nat.beq x.gen g then k x else none
 | _ => none
def AO (o n : Nat) (row : KRow) (k : KRow → Option R) : Option R :=
 match row with
 | .ts β ag T xs => I.guard (Nat.ble (o + n) xs.length) (k (.ts β ag T ((xs.drop o).take n)))
 | .cells e cs => I.guard (Nat.ble ((o + n) * e) cs.length) (k (.cells e ((cs.drop (o * e)).take (n * e))))
def s7 : KRow → Nat
 | .ts _ _ T _ => T.size
 | .cells e _ => e
def jB : KRow → Nat
 | .ts _ _ _ xs => xs.length
 | .cells e cs => bD e cs.length
def iD : KRow → Bool
 | .cells _ _ => true
 | .ts _ _ _ _ => false
def rR (et : TypeId) (k : KRow → Option R) : Option R :=
 match tab et with
 | some ti => (match ti.ty with | some T => k (.ts false ti.ag T []) | none => none)
 | none => none
def KJ (et : TypeId) (mem : aR) (v : KV) (k : KRow → List Nat → Option R) : Option R :=
 match v with
 | .tsl β ag T xs => (match tab et with
  | some te => (match te.ty with
   | some T' => bif T'.flat then (bif T.flat then k (.ts false ag T xs) [] else none) else k (.ts (Fk β ag T) ag T xs) []
   | none => none)
  | none => none)
 | .ms b g o n => rY mem b g fun x => AO I o n x.row fun r => k r [b]
 | .msw b g => rY mem b g fun x => k x.row [b]
 | .lit (.string s) => k (.ts false false (.int .u8) (cE s)) []
 | .lit (.slice none 0 0) => rR tab et fun r => k r []
 | _ => none
def eZ (mem : aR) : (T : Ty) → List KV → (den T → Bool → List Nat → Option R) → Option R
 | .int k, cs, K => (match cs with | [.lit (.int k' x)] => bif gV k k' then K x false [] else none | _ => none)
 | .bool, cs, K => (match cs with | [.lit (.bool x)] => K x false [] | _ => none)
 | .str, cs, K => (match cs with | [.lit (.string x)] => K x false [] | _ => none)
 | .sl ag T, cs, K => (match cs with
  | [.tsl β ag' T' xs] => bif fT ag ag' then (match BL T' T xs with | some ys => K ys β [] | none => none) else none
  | [.lit (.slice none 0 0)] => K [] false []
  | [.msw b g] => rY mem b g fun x => denRow ag T (eZ mem T) b x.row K
  | [.ms b g o n] => rY mem b g fun x => AO I o n x.row fun r => denRow ag T (eZ mem T) b r K
  | _ => none)
 | .cons a b, cs, K => eZ mem a (cs.take a.size) fun x β1 l1 => eZ mem b (cs.drop a.size) fun y β2 l2 => K (x, y) (β1 || β2) (l1 ++ l2)
 where
 denAll (ag : Bool) (T : Ty) (f : List KV → (den T → Bool → List Nat → Option R) → Option R) : List (List KV) → (List (den T) → Bool → List Nat → Option R) → Option R
  | [], K => K [] false []
  | c :: r, K => f c fun x β1 l1 => denAll ag T f r fun xs β2 l2 => K (x :: xs) (β1 || β2) (l1 ++ l2)
 denRow (ag : Bool) (T : Ty) (f : List KV → (den T → Bool → List Nat → Option R) → Option R) (b : Nat) (row : KRow) (K : List (den T) → Bool → List Nat → Option R) : Option R :=
  match row with
  | .ts β ag' T' xs => bif fT ag ag' then (match BL T' T xs with | some ys => K ys (Fk β ag T) [b] | none => none) else none
  | .cells e cs => bif Nat.beq e T.size then denAll ag T f (jA e (bD e cs.length) cs) fun xs β l => K xs β (b :: l) else none
def KD (mem : aR) (ag : Bool) (T : Ty) (v : KV) (K : den T → Bool → List Nat → Option R) : Option R := bif Nat.beq v.cells.length T.size then eZ I mem T v.cells K else none
def GU (mem : aR) (ag : Bool) (T : Ty) : List KV → (List (den T) → Bool → List Nat → Option R) → Option R
 | [], K => K [] false []
 | v :: r, K => KD I mem ag T v fun x β1 l1 => GU mem ag T r fun xs β2 l2 => K (x :: xs) (β1 || β2) (l1 ++ l2)
def nI (mem : aR) : List Nat → List (Nat × fG)
 | [] => []
 | b :: r => match kO mem b with
  | some (some x) => (b, { x with frz := true }) :: nI mem r
  | _ => nI mem r
def lL : List KV → List KV
 | [] => []
 | v :: r => v.cells ++ lL r
def rI (e : Nat) : List KV → Bool
 | [] => true
 | v :: r => Nat.beq v.cells.length e && rI e r
def gE (β : Bool) (T : Ty) : List (den T) → List KV
 | [] => []
 | x :: r => cellsOf β T x ++ gE β T r
def y0 (te : TI) : KRow → Option (List KV)
 | .ts β ag T xs =>
  match te.ty with
  | some T' => bif Ty.beq T' T && fT te.ag ag then some (gE β T xs) else none
  | none => none
 | .cells e cs => some cs
def fU (v : KV) : bY := ⟨v, [], [], []⟩
def JS (op : BinOp) (ka : IntKind) (a : Int) (kb : IntKind) (b : Int) (k : Value → Option R) : Option R :=
 match op with
 | .shl => I.guard (decide (0 ≤ b)) (k (.int ka (QB ka a b)))
 | .shr => I.guard (decide (0 ≤ b)) (k (.int ka (Mj ka a b)))
 | .add => bif gV ka kb then k (.int ka (aI ka a b)) else none
 | .sub => bif gV ka kb then k (.int ka (a8 ka a b)) else none
 | .mul => bif gV ka kb then k (.int ka (Mk ka a b)) else none
 | .quo => bif gV ka kb then I.guard (!(b == 0)) (k (.int ka (My ka a b))) else none
 | .rem => bif gV ka kb then I.guard (!(b == 0)) (k (.int ka (LU a b))) else none
 | .and => bif gV ka kb then k (.int ka (Qv ka a b)) else none
 | .or => bif gV ka kb then k (.int ka (P4 ka a b)) else none
 | .xor => bif gV ka kb then k (.int ka (Qt ka a b)) else none
 | .andNot => bif gV ka kb then k (.int ka (O2 ka a b)) else none
 | .eql => bif gV ka kb then k (.bool (a == b)) else none
 | .neq => bif gV ka kb then k (.bool (a != b)) else none
 | .lss => bif gV ka kb then k (.bool (decide (a < b))) else none
 | .leq => bif gV ka kb then k (.bool (decide (a ≤ b))) else none
 | .gtr => bif gV ka kb then k (.bool (decide (a > b))) else none
 | .geq => bif gV ka kb then k (.bool (decide (a ≥ b))) else none
def Jg (isBool : Bool) (op : BinOp) (x y : Value) (k : Value → Option R) : Option R :=
 match x, y with
 | .int ka a, .int kb b => JS I op ka a kb b k
 | .bool a, .bool b => bif isBool then
  match op with
  | .eql => k (.bool (a == b))
  | .neq => k (.bool (!(a == b)))
  | _ => none
  else none
 | .string a, .string b =>
  match op with
  | .eql => k (.bool (Qx a b))
  | .neq => k (.bool (!(Qx a b)))
  | _ => none
 | _, _ => none
def Cn (a b : KV) (k : Bool → Option R) : Option R :=
 match a, b with
 | .lit (.int ka a), .lit (.int kb b) => bif gV ka kb then k (a == b) else none
 | .lit (.bool a), .lit (.bool b) => k (a == b)
 | .lit (.string a), .lit (.string b) => k (Qx a b)
 | _, _ => none
def jY (T : Ty) (v : KV) : Bool :=
 match T, v with
 | .int k, .lit (.int k' _) => gV k k'
 | .bool, .lit (.bool _) => true
 | .str, .lit (.string _) => true
 | .sl ag T, .tsl _ ag' T' _ => fT ag ag' && Ty.beq T T'
 | _, _ => false
def d6 : Ty → List Ty
 | .cons a b => d6 a ++ d6 b
 | T => [T]
def aZ : List Ty → List KV → Bool
 | [], [] => true
 | T :: Ts, v :: vs => jY T v && aZ Ts vs
 | _, _ => false
def l9 : List KV → List KV → (Bool → Option R) → Option R
 | [], [], k => k true
 | [a], [b], k => Cn a b k
 | a :: as, b :: bs, k => Cn a b fun q => l9 as bs fun r => k (q && r)
 | _, _, _ => none
def eqTy? (t : TypeId) : Option Ty :=
 match tab t with
 | some ti => bif ti.eq then ti.ty else none
 | none => none
def KL (t : TypeId) : Bool :=
 match tab t with
 | some ti => (match ti.tk with | .bool => true | _ => false)
 | none => false
def J2 (t : TypeId) : Bool :=
 match tab t with
 | some ti => (match ti.tk with | .ptr => true | _ => false)
 | none => false
def K7 (t : TypeId) : Bool :=
 match tab t with
 | some ti => (match ti.tk with | .sl _ => true | _ => false)
 | none => false
def Pi (op : BinOp) (t : TypeId) (x y : KV) (k : KV → Option R) : Option R :=
 match x, y with
 | .tsl _ _ _ xs, .lit (.slice none 0 0) =>
  bif K7 tab t then
   match op with
   | .eql => I.ite xs.isEmpty (k .unkB) (k (.lit (.bool false)))
   | .neq => I.ite xs.isEmpty (k .unkB) (k (.lit (.bool true)))
   | _ => none
  else none
 | .lit (.slice none 0 0), .lit (.slice none 0 0) =>
  bif K7 tab t then
   match op with
   | .eql => k (.lit (.bool true))
   | .neq => k (.lit (.bool false))
   | _ => none
  else none
 | .lit a, .lit b => Jg I (KL tab t) op a b fun v => k (.lit v)
 | .agg a, .agg b =>
  (match eqTy? tab t with
  | some T => bif T.flat && aZ (d6 T) a && aZ (d6 T) b then
    (match op with
    | .eql => l9 a b fun r => k (.lit (.bool r))
    | .neq => l9 a b fun r => k (.lit (.bool (!r)))
    | _ => none) else none
  | none => none)
 | .ptr _ _ _ _, .lit (.pointer none) | .el _ _ _ _ _, .lit (.pointer none) =>
  bif J2 tab t then
   match op with
   | .eql => k (.lit (.bool false))
   | .neq => k (.lit (.bool true))
   | _ => none
  else none
 | _, _ => none
def QG (op : UnOp) (x : KV) (k : KV → Option R) : Option R :=
 match x with
 | .lit v =>
  match op, v with
  | .neg, .int kd n => k (.lit (.int kd (a8 kd 0 n)))
  | .xor, .int kd n => k (.lit (.int kd (Qy kd n)))
  | .not, .bool b => k (.lit (.bool (!b)))
  | _, _ => none
 | _ => none
def yX (y : Nat) (x : Option Int) (d : Nat) (k : Nat → Option R) : Option R :=
 match x with
 | none => k d
 | some i => I.guard (decide (0 ≤ i) && decide (i ≤ (y : Int))) (k i.toNat)
def mV (len : Nat) (lo hi mx : Option Int) (k : Nat → Nat → Option R) : Option R :=
 bif mx.isNone || hi.isSome then yX I len mx len fun m => yX I m hi len fun h => yX I h lo 0 fun l => k l h else none
def eU (cs : List KV) (i : Nat) : List KV → List KV
 | [] => cs
 | v :: r => eU (B4 v cs i) (i + 1) r
def PC (t : TypeId) (mem : aR) (x : KV) (k : Int → List Nat → Option R) : Option R :=
 match tab t with
 | some ti =>
  match ti.tk with
  | .str => (match x with | .lit (.string s) => k (w6 s) [] | _ => none)
  | .sl _ =>
   match x with
   | .tsl _ _ _ xs => k (aA xs) []
   | .ms b g o n => k (n : Int) []
   | .msw b g => rY mem b g fun x => (match x.row with | .ts _ _ _ xs => k (aA xs) [b] | .cells e cs => k (bD e cs.length : Nat) [b])
   | .lit (.slice none 0 0) => k 0 []
   | _ => none
  | _ => none
 | none => none
def G9 (tx : TypeId) (y : KV) : Bool :=
 match tab tx with
 | some ti =>
  match ti.tk, y with
  | .str, .lit (.string _) => true
  | .sl _, .lit (.string _) => false
  | .sl _, _ => true
  | _, _ => false
 | none => false
def Es (te : TI) (x y : KRow) (k : KRow → Option R) : Option R :=
 match x with
 | .ts β ag T xs =>
  (match y with
  | .ts β' ag' T' ys => bif fT ag ag' then (match BL T' T ys with | some zs => k (.ts (β || β') ag T (xs ++ zs)) | none => none) else none
  | .cells _ _ => none)
 | .cells e xs => (match y0 te y with
  | some ys => bif z3 ys && Nat.beq e (s7 y) && Nat.ble 1 e then k (.cells e (xs ++ ys)) else none
  | none => none)
def FK (t : TypeId) (k : TypeId → TI → Option R) : Option R :=
 match tab t with
 | some ti => (match ti.tk with | .sl et => (match tab et with | some te => k et te | none => none) | _ => none)
 | none => none
def FF (boxed : Bool) (rs : Nat) (row : KRow) (rd : List Nat) (wr : List (Nat × fG)) (k : bY → Option R) : Option R :=
 bif boxed then k ⟨.msw rs 0, rd, wr ++ [(rs, ⟨0, false, row⟩)], []⟩ else
 match row with
 | .ts β ag T xs => k ⟨.tsl (Fk β ag T) ag T xs, rd, wr, []⟩
 | .cells _ _ => none
def AY (row : KRow) (k : Option R) : Option R := I.guard (Nat.ble (jB row) cT) k
def GR (boxed vars : Bool) (t tx : TypeId) (mem : aR) (rs : Nat) (x y : KV) (k : bY → Option R) : Option R :=
 FK tab t fun et te => KJ I tab et mem y fun yr yrd =>
 bif Nat.beq te.n (s7 yr) && G9 tab tx y && Nat.ble te.bytes 4096 && Nat.ble 1 te.n && Nat.beq te.zero.length te.n then
  match x with
  | .lit (.slice none 0 0) =>
   AY I yr <|
   bif boxed then
    bif vars then (match y0 te yr with
     | some ys => bif Nat.ble 1 (jB yr) && z3 ys then k ⟨.msw rs 0, yrd, [(rs, ⟨0, false, .cells (s7 yr) ys⟩)], []⟩ else none
     | none => none)
    else (match yr with | .ts _ _ _ _ => k ⟨.msw rs 0, yrd, [(rs, ⟨0, false, yr⟩)], []⟩ | .cells _ _ => none)
   else (match yr with | .ts β ag T xs => k ⟨.tsl (Fk β ag T) ag T xs, yrd, [], []⟩ | .cells _ _ => none)
  | .msw b g => rY mem b g fun bx => Es te bx.row yr fun z =>
   bif !bx.frz && Nat.beq te.n (s7 bx.row) then AY I z (k ⟨.msw b (g + 1), b :: yrd, [(b, ⟨g + 1, false, z⟩)], []⟩) else none
  | .ms b g o n => I.guard (Nat.beq o 0) (rY mem b g fun bx => AO I 0 n bx.row fun xr => Es te xr yr fun z =>
   bif !bx.frz && Nat.beq te.n (s7 bx.row) then AY I z (k ⟨.msw b (g + 1), b :: yrd, [(b, ⟨g + 1, false, z⟩)], []⟩) else none)
  | _ => none
 else none
def Kg (t : TypeId) (mem : aR) (x : KV) (i : Int) (k : bY → Option R) : Option R :=
 match tab t with
 | some ti =>
  match ti.tk with
  | .sl et =>
   (match tab et with
   | some te =>
    match x with
    | .tsl β ag T xs => bif Nat.beq te.n T.size then I.get xs i fun v => k (fU (.el β ag T v 0)) else none
    | .ms b g o n => rY mem b g fun bx => bif Nat.beq te.n (s7 bx.row) then I.guard (decide (0 ≤ i) && decide (i < (n : Int))) (k ⟨.ptr b g (o + i.toNat) 0, [b], [], []⟩) else none
    | .msw b g => rY mem b g fun bx => bif Nat.beq te.n (s7 bx.row) then I.guard (decide (0 ≤ i) && decide (i < (jB bx.row : Int))) (k ⟨.ptr b g i.toNat 0, [b], [], []⟩) else none
    | _ => none
   | none => none)
  | .arr n e =>
   (match tab e with
   | some te =>
    match x with
    | .ptr b g j c => I.guard (decide (0 ≤ i) && decide (i < (n : Int))) (k (fU (.ptr b g j (c + i.toNat * te.n))))
    | _ => none
   | none => none)
  | _ => none
 | none => none
def Cb (ti : TI) (cs : List KV) (k : KV → Option R) : Option R :=
 match ti.ty with
 | some T => bif aZ (d6 T) cs then (bif ti.ag then k (.agg cs) else match cs with | [v] => k v | _ => none) else none
 | none => none
def Nx (rX : Nat) : List KV → Nat → (KV → Option R) → Option R
 | [], _, _ => none
 | v :: r, j, k => I.ite (Nat.beq rX j) (k v) (Nx rX r (j + 1) k)
def Cm (rX : Nat) (v : KV) (cs : List KV) : List KV → Nat → (List KV → Option R) → Option R
 | [], _, _ => none
 | _ :: r, j, k => I.ite (Nat.beq rX j) (k (B4 v cs j)) (Cm rX v cs r (j + 1) k)
def KP (t : TypeId) (mem : aR) (a : KV) (k : bY → Option R) : Option R :=
 match tab t with
 | some ti =>
  match a with
  | .el β ag T x c => Cb ti ((((cellsOf β T x)).drop c).take ti.n) fun v => k (fU v)
  | .ptr b g i c => rY mem b g fun bx =>
   (match bx.row with
   | .cells e cs => bif ti.ag then bif Nat.ble (i * e + c + ti.n) cs.length then k ⟨.agg ((cs.drop (i * e + c)).take ti.n), [b], [], []⟩ else none
     else Nx I (i * e + c) cs 0 fun v => k ⟨v, [b], [], []⟩
   | .ts β ag T xs => bif ti.ag && bT ag T then none else I.getN xs i fun x => Cb ti (((cellsOf β T x).drop c).take ti.n) fun v => k ⟨v, [b], [], []⟩)
  | _ => none
 | none => none
def JE (t : TypeId) (mem : aR) (a x : KV) (k : bY → Option R) : Option R :=
 match tab t with
 | some ti =>
  match a with
  | .ptr b g i c => rY mem b g fun bx => bif !bx.frz && Nat.beq x.cells.length ti.n then
   (match bx.row with
   | .cells e cs => bif Nat.beq ti.n 1 then (match x.cells with
     | [v] => bif N9 v then Cm I (i * e + c) v cs cs 0 fun cs' => k ⟨.lit undef, [b], [(b, ⟨bx.gen, bx.frz, .cells e cs'⟩)], []⟩ else none
     | _ => none)
    else bif Nat.ble (i * e + c + ti.n) cs.length && z3 x.cells then k ⟨.lit undef, [b], [(b, ⟨bx.gen, bx.frz, .cells e (eU cs (i * e + c) x.cells)⟩)], []⟩ else none
   | .ts β ag T xs => bif bT ag T then
     (match x with
     | .lit (.int kd v) => bif Nat.beq c 0 && Nat.beq ti.n 1 then
       (match Fw (F := den) (a := .int kd) (b := T) (Ty.beq (.int kd) T) rfl v with
       | some z => I.guard (Nat.ble (i + 1) xs.length) (k ⟨.lit undef, [b], [(b, ⟨bx.gen, bx.frz, .ts β ag T (xs.set i z)⟩)], []⟩)
       | none => none) else none
     | _ => none)
    else bif Nat.ble (c + ti.n) T.size then
     (match ti.ty with
     | some T' => KD I mem ti.ag T' x fun y β' l => bif gW b l then none else
       bif Nat.beq c 0 && Nat.beq ti.n T.size then
        (match (bif fT ti.ag ag then Fw (F := den) (Ty.beq T' T) rfl y else none) with
        | some z => I.guard (Nat.ble (i + 1) xs.length) (k ⟨.lit undef, b :: l, nI mem l ++ [(b, ⟨bx.gen, bx.frz, .ts (β || β') ag T (xs.set i z)⟩)], []⟩)
        | none => none)
       else I.getN xs i fun p => eZ I mem T (eU (cellsOf false T p) c (cellsOf false T' y)) fun z _ _ =>
        k ⟨.lit undef, b :: l, nI mem l ++ [(b, ⟨bx.gen, bx.frz, .ts (β || β') ag T (xs.set i z)⟩)], []⟩
     | none => none)
    else none)
   else none
  | _ => none
 | none => none
def Jv (t : TypeId) (mem : aR) (x : KV) (lo hi mx : Option Int) (k : bY → Option R) : Option R :=
 match tab t with
 | some ti =>
  match ti.tk with
  | .str => (match x with | .lit (.string s) => bif mx.isNone then mV I s.size lo hi none fun l h => k (fU (.lit (.string (s.extract l h)))) else none | _ => none)
  | .sl et =>
   (match tab et with
   | some te =>
    match x with
    | .tsl β ag T xs => bif Nat.beq te.n T.size then mV I xs.length lo hi mx fun l h => k (fU (.tsl β ag T ((xs.take h).drop l))) else none
    | .ms b g o n => rY mem b g fun bx => bif Nat.beq te.n (s7 bx.row) then mV I n lo hi mx fun l h => k ⟨.ms b g (o + l) (h - l), [b], [], []⟩ else none
    | .msw b g => rY mem b g fun bx => bif Nat.beq te.n (s7 bx.row) then mV I (jB bx.row) lo hi mx fun l h => k ⟨.ms b g l (h - l), [b], [], []⟩ else none
    | .lit (.slice none 0 0) => mV I 0 lo hi mx fun _ _ => k (fU (.lit (.slice none 0 0)))
    | _ => none
   | none => none)
  | .arr n e =>
   (match tab e with
   | some te =>
    match x with
    | .ptr b g i c => bif Nat.beq i 0 && Nat.beq te.n 1 then rY mem b g fun bx =>
      (match bx.row with
      | .cells e' cs => bif Nat.beq e' 1 && Nat.ble (c + n) cs.length then mV I n lo hi mx fun l h => k ⟨.ms b g (c + l) (h - l), [b], [], []⟩ else none
      | _ => none) else none
    | _ => none
   | none => none)
  | _ => none
 | none => none
def Hd (s : TypeId) (f : Nat) (k : Nat → Nat → TypeId → Option R) : Option R :=
 match tab s with
 | some ti => (match ti.tk with | .st fs => (match kO fs f with | some q => bif Nat.ble 1 q.2.1 then k q.1 q.2.1 q.2.2 else none | none => none) | _ => none)
 | none => none
def Bx (k7 : Nat → Option (Nat × Nat)) (cs : List KV) : List (Nat × KV) → Option (List KV)
 | [] => some cs
 | (i, v) :: r => match k7 i with
  | some q => bif Nat.beq v.cells.length q.2 && Nat.ble (q.1 + q.2) cs.length then Bx k7 (eU cs q.1 v.cells) r else none
  | none => none
def sW (vs : List KV) : List (Nat × KV) → List KV
 | [] => vs
 | (i, v) :: r => sW (B4 v vs i) r
def x5 (n : Nat) : List (Nat × KV) → Bool
 | [] => true
 | (i, _) :: r => Nat.ble (i + 1) n && x5 n r
def fJ (ti : TI) : KV := bif ti.ag then .agg (ti.zero.map .lit) else match ti.zero with | [v] => .lit v | _ => .gone
def qW (f : Int → Int → Int) (kd : IntKind) : List KV → Int → Option Int
 | [], a => some a
 | .lit (.int k' b) :: r, a => bif gV kd k' then qW f kd r (f a b) else none
 | _, _ => none
mutual
def KV.refs : KV → List Nat
 | .ptr b _ _ _ => [b]
 | .ms b _ _ _ => [b]
 | .msw b _ => [b]
 | .fn _ fi ca => KV.refsAll fi ++ KV.refsAll ca
 | .agg cs => KV.refsAll cs
 | .tup vs => KV.refsAll vs
 | .lit _ => []
 | .tsl _ _ _ _ => []
 | .el _ _ _ _ _ => []
 | .dead => []
 | .gone => []
 | .unkB => []
def KV.refsAll : List KV → List Nat
 | [] => []
 | v :: r => v.refs ++ KV.refsAll r
end
def KRow.refs : KRow → List Nat
 | .cells _ cs => KV.refsAll cs
 | .ts _ _ _ _ => []
def Gn (mem : aR) (b : Nat) : List Nat :=
 match kO mem b with
 | some (some x) => x.row.refs
 | _ => []
def jP (mem : aR) : Nat → List Nat → List Nat → List Nat
 | 0, _, seen => seen
 | _, [], seen => seen
 | n + 1, b :: todo, seen => bif gW b seen then jP mem n todo seen else jP mem n (todo ++ Gn mem b) (seen ++ [b])
def rB (mem : aR) (b : Nat) : Option Nat :=
 match kO mem b with
 | some (some x) => some x.gen
 | _ => none
mutual
def KV.ren (f : lI) : KV → KV
 | .ptr b g i c => match f b g with | some q => .ptr q.1 q.2 i c | none => .dead
 | .ms b g o n => match f b g with | some q => .ms q.1 q.2 o n | none => .dead
 | .msw b g => match f b g with | some q => .msw q.1 q.2 | none => .dead
 | .fn h fi ca => .fn h (KV.renAll f fi) (KV.renAll f ca)
 | .agg cs => .agg (KV.renAll f cs)
 | .tup vs => .tup (KV.renAll f vs)
 | .lit v => .lit v
 | .tsl β ag T xs => .tsl β ag T xs
 | .el β ag T x c => .el β ag T x c
 | .dead => .dead
 | .gone => .gone
 | .unkB => .unkB
def KV.renAll (f : lI) : List KV → List KV
 | [] => []
 | v :: r => v.ren f :: KV.renAll f r
end
def KRow.ren (f : lI) : KRow → KRow
 | .cells e cs => .cells e (KV.renAll f cs)
 | .ts β ag T xs => .ts β ag T xs
def mI (mem : aR) (ids : List Nat) : lI := fun b g =>
 match rB mem b with
 | some h => bif Nat.beq h g then (match rX b ids 0 with | some j => some (j, 0) | none => none) else none
 | none => none
def oJ (f : lI) (mem : aR) : List Nat → aR
 | [] => []
 | b :: r => (match kO mem b with
  | some (some x) => some ⟨0, x.frz, x.row.ren f⟩
  | _ => none) :: oJ f mem r
def dV (mem : aR) (n : Nat) : Nat := (mem.length + 1) * (mem.length + 1) + n
def eX : aR → List (Option Bool)
 | [] => []
 | some x :: r => some (iD x.row) :: eX r
 | none :: r => none :: eX r
def CZ : List (Option Bool) → aR → Bool
 | [], _ => true
 | some k :: r, some x :: m => (bif k then iD x.row && Nat.beq x.gen 0 else !(iD x.row)) && CZ r m
 | none :: r, none :: m => CZ r m
 | _, _ => false
def Aw (old : List (Option Bool)) (vs : List KV) (mem : aR) (k : List KV → aR → Option R) : Option R :=
 let ids := jP mem (dV mem (old.length + (KV.refsAll vs).length)) (iJ 0 old.length ++ KV.refsAll vs) []
 bif CZ old mem && dB ids && sF 0 old.length ids then k (KV.renAll (mI mem ids) vs) (oJ (mI mem ids) mem ids) else none
def KV.frz (m : Nat) (mem : aR) : KV → KV
 | .msw b g => bif Nat.ble m b then
   (match kO mem b with
   | some (some x) => bif Nat.beq x.gen g then (match x.row with
    | .ts β ag T xs => .tsl (Fk β ag T) ag T xs
    | .cells _ _ => .msw b g) else .msw b g
   | _ => .msw b g)
  else .msw b g
 | v => v
def KV.frzAll (m : Nat) (mem : aR) : List KV → List KV
 | [] => []
 | v :: r => v.frz m mem :: KV.frzAll m mem r
def s0 (m : Nat) (mem : aR) : KV → KV
 | .tup vs => .tup (KV.frzAll m mem vs)
 | .agg vs => .agg (KV.frzAll m mem vs)
 | v => v.frz m mem
mutual
def KV.lent : KV → Bool
 | .tsl β _ _ _ => β
 | .el β _ _ _ _ => β
 | .fn _ fi ca => KV.lentAny fi || KV.lentAny ca
 | .agg cs => KV.lentAny cs
 | .tup vs => KV.lentAny vs
 | .lit _ => false
 | .ptr _ _ _ _ => false
 | .ms _ _ _ _ => false
 | .msw _ _ => false
 | .dead => false
 | .gone => true
 | .unkB => true
def KV.lentAny : List KV → Bool
 | [] => false
 | v :: r => v.lent || KV.lentAny r
end
def rG : aR → Bool
 | [] => false
 | some x :: r => (match x.row with | .cells _ cs => KV.lentAny cs | .ts β ag T _ => Fk β ag T) || rG r
 | none :: r => rG r
end
end
end Go.Ab
