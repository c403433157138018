import Derived.Test.YtmoldheenagboaaLib1
set_option linter.unusedVariables false
namespace Go.Ab
noncomputable section
inductive Ty where
 | int (k : IntKind)
 | bool
 | str
 | sl (ag : Bool) (T : Ty)
 | cons (a b : Ty)
def CT : Bool → Bool → Bool
 | true, b => b
 | false, _ => false
theorem lQ (a b : Bool) : CT a b = (a && b) := by cases a <;> rfl
def den (T : Ty) : Type := Ty.rec (fun _ => Int) Bool ByteArray (fun _ _ ih => List ih) (fun _ _ a b => a × b) T
def Ty.size (T : Ty) : Nat := Ty.rec (fun _ => 1) 1 1 (fun _ _ _ => 1) (fun _ _ a b => a + b) T
def Ty.flat (T : Ty) : Bool := Ty.rec (fun _ => true) true true (fun _ _ _ => false) (fun _ _ a b => CT a b) T
def eV : Bool → Bool → Bool
 | true, b => b
 | false, b => !b
def Ty.beq : Ty → Ty → Bool
 | .int k, .int k' => f6 k k'
 | .bool, .bool => true
 | .str, .str => true
 | .sl g T, .sl g' T' => CT (eV g g') (Ty.beq T T')
 | .cons a b, .cons a' b' => CT (Ty.beq a a') (Ty.beq b b')
 | _, _ => false
theorem Me {a b : IntKind} (h : f6 a b = true) : a = b := by cases a <;> cases b <;> first | rfl | cases h
theorem fS {a b : Bool} (h : eV a b = true) : a = b := by cases a <;> cases b <;> first | rfl | cases h
theorem Ty.eq_of_beq : ∀ {a b : Ty}, Ty.beq a b = true → a = b
 | .int _, .int _, h => by rw [Me h]
 | .bool, .bool, _ => rfl
 | .str, .str, _ => rfl
 | .sl g T, .sl g' T', h => by
  simp only [Ty.beq, lQ, yc] at h
  rw [fS h.1, Ty.eq_of_beq h.2]
 | .cons a b, .cons a' b', h => by
  simp only [Ty.beq, lQ, yc] at h
  rw [Ty.eq_of_beq h.1, Ty.eq_of_beq h.2]
 | .int _, .bool, h | .int _, .str, h | .int _, .sl _ _, h | .int _, .cons _ _, h => by cases h
 | .bool, .int _, h | .bool, .str, h | .bool, .sl _ _, h | .bool, .cons _ _, h => by cases h
 | .str, .int _, h | .str, .bool, h | .str, .sl _ _, h | .str, .cons _ _, h => by cases h
 | .sl _ _, .int _, h | .sl _ _, .bool, h | .sl _ _, .str, h | .sl _ _, .cons _ _, h => by cases h
 | .cons _ _, .int _, h | .cons _ _, .bool, h | .cons _ _, .str, h | .cons _ _, .sl _ _, h => by cases h
def Em {F : Ty → Type} {a b : Ty} (c : Bool) (h : Ty.beq a b = c) (x : F a) : Option (F b) :=
 match c, h with
 | true, h => some (Ty.eq_of_beq h ▸ x)
 | false, _ => none
def zH (a b : Ty) (xs : List (den a)) : Option (List (den b)) := Em (F := fun T => List (den T)) (Ty.beq a b) rfl xs
inductive KV where
 | lit (v : Value)
 | tsl (β ag : Bool) (T : Ty) (xs : List (den T))
 | el (β ag : Bool) (T : Ty) (x : den T) (c : Nat)
 | ptr (b g i c : Nat)
 | ms (b g o n : Nat)
 | msw (b g : Nat)
 | fn (f : Fn) (first cap : List KV)
 | agg (cs : List KV)
 | tup (vs : List KV)
 | dead
 | gone
 | unkB
inductive KRow where
 | ts (β ag : Bool) (T : Ty) (xs : List (den T))
 | cells (e : Nat) (cs : List KV)
structure eI where
 gen : Nat
 frz : Bool
 row : KRow
abbrev aO := List (Option eI)
structure wZ where
 env : Nat → KV
 mem : aO
structure bW where
 v : KV
 rd : List Nat
 wr : List (Nat × eI)
 push : aO
inductive FP where
 | normal | exit (id : Nat) | ret
def bP : Bool → Ty → Bool
 | false, .int _ => true
 | _, _ => false
structure MB (R : Type) where
 ite : Bool → Option R → Option R → Option R
 guard : Bool → Option R → Option R
 get : {α : Type} → List α → Int → (α → Option R) → Option R
 getN : {α : Type} → List α → Nat → (α → Option R) → Option R
 bind : {α : Type} → Option α → (α → Option R) → Option R
 sum : {α β : Type} → α ⊕ β → (α → Option R) → (β → Option R) → Option R
 loop : Nat → wZ → (FP → wZ → Option R) → Option R
 ask : FuncId → List KV → aO → (KV → aO → Option R) → Option R
 amb : Option R → Option R → Option R
def aL (R : Type) : MB R := { ite := fun c a b => cond c a b, guard := fun c a => cond c a none, get := fun xs i k => (c0 xs i).bind k, getN := fun xs i k => (xs[i]?).bind k, bind := fun x k => x.bind k, sum := fun x f g => Sum.rec f g x, loop := fun _ _ _ => none, ask := fun _ _ _ _ => none, amb := fun a b => Go.Ab.amb a b }
def mF (β ag : Bool) (T : Ty) : Bool :=
 match T with
 | .int _ => bif ag then β else false
 | _ => β
def dQ (k : IntKind) (a b : Int) : Int := k.wrap (a + b)
def oY (k : IntKind) (a b : Int) : Int := k.wrap (a - b)
def mX (k : IntKind) (a b : Int) : Int := k.wrap (a * b)
def p6 (k : IntKind) (a b : Int) : Int := k.wrap (a.tdiv b)
def y5 (a b : Int) : Int := a.tmod b
def Av (k : IntKind) (a b : Int) : Int := k.wrap (a * 2 ^ (min b.toNat k.bits))
def Ar (k : IntKind) (a b : Int) : Int := a.fdiv (2 ^ (min b.toNat k.bits))
def K3 (k : IntKind) (a b : Int) : Int := k.wrap (BitVec.ofInt k.bits a &&& BitVec.ofInt k.bits b).toNat
def At (k : IntKind) (a b : Int) : Int := k.wrap (BitVec.ofInt k.bits a ||| BitVec.ofInt k.bits b).toNat
def CB (k : IntKind) (a b : Int) : Int := k.wrap (BitVec.ofInt k.bits a ^^^ BitVec.ofInt k.bits b).toNat
def gA (k : IntKind) (a b : Int) : Int := k.wrap (BitVec.ofInt k.bits a &&& ~~~BitVec.ofInt k.bits b).toNat
def HU (k : IntKind) (n : Int) : Int := k.wrap (BitVec.ofInt k.bits (if k.signed then -1 else k.max) ^^^ BitVec.ofInt k.bits n).toNat
def bY (k : IntKind) (n : Int) : Int := k.wrap n
def L4 (a b : ByteArray) : Bool := a.toList == b.toList
def bV {α : Type} (xs : List α) : Int := (xs.length : Int)
def NJ (s : ByteArray) : Int := (s.size : Int)
def Ey (x y : Int) : Int := bif decide (y < x) then y else x
def CY (x y : Int) : Int := bif decide (y > x) then y else x
inductive TK where
 | int (k : IntKind) | bool | str | sl (et : TypeId) | st (fs : List (Nat × Nat × TypeId)) | ptr | arr (n : Nat) (e : TypeId) | other
structure TI where
 tk : TK
 n : Nat
 bytes : Nat
 ag : Bool
 ty : Option Ty
 eq : Bool
 zero : List Value
section
variable {R : Type} (I : MB R) (tab : TypeId → Option TI)
def kO (env : Nat → KV) (d : Nat) (v : KV) : Nat → KV := fun t => bif Nat.beq t d then v else env t
def s3 (env : Nat → KV) (dst : Option Tmp) (v : KV) : Nat → KV :=
 match dst with
 | some d => kO env d v
 | none => env
def E8 : Value → KV
 | .agg cs => .agg (cs.toList.map .lit)
 | v => .lit v
def qG : List Value → Bool
 | [] => true
 | v :: r => jT v && qG r
def Fl : Value → Bool
 | .agg cs => qG cs.toList
 | _ => true
def fN [b8] (env : Nat → KV) (x : Operand) (k : KV → Option R) : Option R :=
 match x with
 | .tmp t => (match env t with | .gone => none | v => k v)
 | .const v => bif Fl v then k (E8 v) else none
 | .func f => k (.fn (.func f) [] [])
 | .global g => (match b8.tab g with | some q => k (.el true true (.cons (.int .i64) (.int .i64)) (q.1, q.2) 0) | none => none)
def wQ [b8] (env : Nat → KV) : List Operand → (List KV → Option R) → Option R
 | [], k => k []
 | x :: r, k => fN env x fun v => wQ env r fun vs => k (v :: vs)
def A6 [b8] (env : Nat → KV) : List (Nat × Operand) → (List (Nat × KV) → Option R) → Option R
 | [], k => k []
 | (i, x) :: r, k => fN env x fun v => A6 env r fun vs => k ((i, v) :: vs)
def KL [b8] (env : Nat → KV) : Option Operand → (Option Int → Option R) → Option R
 | none, k => k none
 | some x, k => fN env x fun v =>
  match v with
  | .lit (.int _ n) => k (some n)
  | _ => none
def KV.cells : KV → List KV
 | .agg cs => cs
 | v => [v]
def Ln : KV → Bool
 | .lit v => v.oneCell'
 | .agg _ => false
 | .tup _ => false
 | .gone => false
 | _ => true
def vT : List KV → Bool
 | [] => true
 | v :: r => Ln v && vT r
def cellsOf (β : Bool) (T : Ty) : den T → List KV :=
 Ty.rec (motive := fun T => den T → List KV) (fun k x => [.lit (.int k x)]) (fun x => [.lit (.bool x)]) (fun x => [.lit (.string x)])
  (fun ag T _ xs => [.tsl β ag T xs]) (fun _ _ iha ihb x => iha x.1 ++ ihb x.2) T
def pT (mem : aO) (b g : Nat) (k : eI → Option R) : Option R :=
 match iB mem b with
 | some (some x) => bif Nat.beq x.gen g then k x else none
 | _ => none
def yS (o n : Nat) (row : KRow) (k : KRow → Option R) : Option R :=
 match row with
 | .ts β ag T xs => I.guard (Nat.ble (o + n) xs.length) (k (.ts β ag T ((xs.drop o).take n)))
 | .cells e cs => I.guard (Nat.ble ((o + n) * e) cs.length) (k (.cells e ((cs.drop (o * e)).take (n * e))))
def rG : KRow → Nat
 | .ts _ _ T _ => T.size
 | .cells e _ => e
def iA : KRow → Nat
 | .ts _ _ _ xs => xs.length
 | .cells e cs => a6 e cs.length
def gN : KRow → Bool
 | .cells _ _ => true
 | .ts _ _ _ _ => false
def qA (et : TypeId) (k : KRow → Option R) : Option R :=
 match tab et with
 | some ti => (match ti.ty with | some T => k (.ts false ti.ag T []) | none => none)
 | none => none
def IW (et : TypeId) (mem : aO) (v : KV) (k : KRow → List Nat → Option R) : Option R :=
 match v with
 | .tsl β ag T xs => (match tab et with
  | some te => (match te.ty with
   | some T' => bif T'.flat then (bif T.flat then k (.ts false ag T xs) [] else none) else k (.ts (mF β ag T) ag T xs) []
   | none => none)
  | none => none)
 | .ms b g o n => pT mem b g fun x => yS I o n x.row fun r => k r [b]
 | .msw b g => pT mem b g fun x => k x.row [b]
 | .lit (.string s) => k (.ts false false (.int .u8) (fR s)) []
 | .lit (.slice none 0 0) => qA tab et fun r => k r []
 | _ => none
def eB (mem : aO) : (T : Ty) → List KV → (den T → Bool → List Nat → Option R) → Option R
 | .int k, cs, K => (match cs with | [.lit (.int k' x)] => bif f6 k k' then K x false [] else none | _ => none)
 | .bool, cs, K => (match cs with | [.lit (.bool x)] => K x false [] | _ => none)
 | .str, cs, K => (match cs with | [.lit (.string x)] => K x false [] | _ => none)
 | .sl ag T, cs, K => (match cs with
  | [.tsl β ag' T' xs] => bif eV ag ag' then (match zH T' T xs with | some ys => K ys β [] | none => none) else none
  | [.lit (.slice none 0 0)] => K [] false []
  | [.msw b g] => pT mem b g fun x => denRow ag T (eB mem T) b x.row K
  | [.ms b g o n] => pT mem b g fun x => yS I o n x.row fun r => denRow ag T (eB mem T) b r K
  | _ => none)
 | .cons a b, cs, K => eB mem a (cs.take a.size) fun x β1 l1 => eB mem b (cs.drop a.size) fun y β2 l2 => K (x, y) (β1 || β2) (l1 ++ l2)
 where
 denAll (ag : Bool) (T : Ty) (f : List KV → (den T → Bool → List Nat → Option R) → Option R) : List (List KV) → (List (den T) → Bool → List Nat → Option R) → Option R
  | [], K => K [] false []
  | c :: r, K => f c fun x β1 l1 => denAll ag T f r fun xs β2 l2 => K (x :: xs) (β1 || β2) (l1 ++ l2)
 denRow (ag : Bool) (T : Ty) (f : List KV → (den T → Bool → List Nat → Option R) → Option R) (b : Nat) (row : KRow) (K : List (den T) → Bool → List Nat → Option R) : Option R :=
  match row with
  | .ts β ag' T' xs => bif eV ag ag' then (match zH T' T xs with | some ys => K ys (mF β ag T) [b] | none => none) else none
  | .cells e cs => bif Nat.beq e T.size then denAll ag T f (gY e (a6 e cs.length) cs) fun xs β l => K xs β (b :: l) else none
def IK (mem : aO) (ag : Bool) (T : Ty) (v : KV) (K : den T → Bool → List Nat → Option R) : Option R := bif Nat.beq v.cells.length T.size then eB I mem T v.cells K else none
def Fy (mem : aO) (ag : Bool) (T : Ty) : List KV → (List (den T) → Bool → List Nat → Option R) → Option R
 | [], K => K [] false []
 | v :: r, K => IK I mem ag T v fun x β1 l1 => Fy mem ag T r fun xs β2 l2 => K (x :: xs) (β1 || β2) (l1 ++ l2)
def lD (mem : aO) : List Nat → List (Nat × eI)
 | [] => []
 | b :: r => match iB mem b with
  | some (some x) => (b, { x with frz := true }) :: lD mem r
  | _ => lD mem r
def kC : List KV → List KV
 | [] => []
 | v :: r => v.cells ++ kC r
def pZ (e : Nat) : List KV → Bool
 | [] => true
 | v :: r => Nat.beq v.cells.length e && pZ e r
def fV (β : Bool) (T : Ty) : List (den T) → List KV
 | [] => []
 | x :: r => cellsOf β T x ++ fV β T r
def vU (te : TI) : KRow → Option (List KV)
 | .ts β ag T xs =>
  match te.ty with
  | some T' => bif Ty.beq T' T && eV te.ag ag then some (fV β T xs) else none
  | none => none
 | .cells e cs => some cs
def eW (v : KV) : bW := ⟨v, [], [], []⟩
def Ij (op : BinOp) (ka : IntKind) (a : Int) (kb : IntKind) (b : Int) (k : Value → Option R) : Option R :=
 match op with
 | .shl => I.guard (decide (0 ≤ b)) (k (.int ka (Av ka a b)))
 | .shr => I.guard (decide (0 ≤ b)) (k (.int ka (Ar ka a b)))
 | .add => bif f6 ka kb then k (.int ka (dQ ka a b)) else none
 | .sub => bif f6 ka kb then k (.int ka (oY ka a b)) else none
 | .mul => bif f6 ka kb then k (.int ka (mX ka a b)) else none
 | .quo => bif f6 ka kb then I.guard (!(b == 0)) (k (.int ka (p6 ka a b))) else none
 | .rem => bif f6 ka kb then I.guard (!(b == 0)) (k (.int ka (y5 a b))) else none
 | .and => bif f6 ka kb then k (.int ka (K3 ka a b)) else none
 | .or => bif f6 ka kb then k (.int ka (At ka a b)) else none
 | .xor => bif f6 ka kb then k (.int ka (CB ka a b)) else none
 | .andNot => bif f6 ka kb then k (.int ka (gA ka a b)) else none
 | .eql => bif f6 ka kb then k (.bool (a == b)) else none
 | .neq => bif f6 ka kb then k (.bool (a != b)) else none
 | .lss => bif f6 ka kb then k (.bool (decide (a < b))) else none
 | .leq => bif f6 ka kb then k (.bool (decide (a ≤ b))) else none
 | .gtr => bif f6 ka kb then k (.bool (decide (a > b))) else none
 | .geq => bif f6 ka kb then k (.bool (decide (a ≥ b))) else none
def Ib (isBool : Bool) (op : BinOp) (x y : Value) (k : Value → Option R) : Option R :=
 match x, y with
 | .int ka a, .int kb b => Ij I op ka a kb b k
 | .bool a, .bool b => bif isBool then
  match op with
  | .eql => k (.bool (a == b))
  | .neq => k (.bool (!(a == b)))
  | _ => none
  else none
 | .string a, .string b =>
  match op with
  | .eql => k (.bool (L4 a b))
  | .neq => k (.bool (!(L4 a b)))
  | _ => none
 | _, _ => none
def AW (a b : KV) (k : Bool → Option R) : Option R :=
 match a, b with
 | .lit (.int ka a), .lit (.int kb b) => bif f6 ka kb then k (a == b) else none
 | .lit (.bool a), .lit (.bool b) => k (a == b)
 | .lit (.string a), .lit (.string b) => k (L4 a b)
 | _, _ => none
def i4 (T : Ty) (v : KV) : Bool :=
 match T, v with
 | .int k, .lit (.int k' _) => f6 k k'
 | .bool, .lit (.bool _) => true
 | .str, .lit (.string _) => true
 | .sl ag T, .tsl _ ag' T' _ => eV ag ag' && Ty.beq T T'
 | _, _ => false
def c9 : Ty → List Ty
 | .cons a b => c9 a ++ c9 b
 | T => [T]
def aV : List Ty → List KV → Bool
 | [], [] => true
 | T :: Ts, v :: vs => i4 T v && aV Ts vs
 | _, _ => false
def kK : List KV → List KV → (Bool → Option R) → Option R
 | [], [], k => k true
 | [a], [b], k => AW a b k
 | a :: as, b :: bs, k => AW a b fun q => kK as bs fun r => k (q && r)
 | _, _, _ => none
def eqTy? (t : TypeId) : Option Ty :=
 match tab t with
 | some ti => bif ti.eq then ti.ty else none
 | none => none
def IL (t : TypeId) : Bool :=
 match tab t with
 | some ti => (match ti.tk with | .bool => true | _ => false)
 | none => false
def HC (t : TypeId) : Bool :=
 match tab t with
 | some ti => (match ti.tk with | .ptr => true | _ => false)
 | none => false
def IE (t : TypeId) : Bool :=
 match tab t with
 | some ti => (match ti.tk with | .sl _ => true | _ => false)
 | none => false
def Ms (op : BinOp) (t : TypeId) (x y : KV) (k : KV → Option R) : Option R :=
 match x, y with
 | .tsl _ _ _ xs, .lit (.slice none 0 0) =>
  bif IE tab t then
   match op with
   | .eql => I.ite xs.isEmpty (k .unkB) (k (.lit (.bool false)))
   | .neq => I.ite xs.isEmpty (k .unkB) (k (.lit (.bool true)))
   | _ => none
  else none
 | .lit (.slice none 0 0), .lit (.slice none 0 0) =>
  bif IE tab t then
   match op with
   | .eql => k (.lit (.bool true))
   | .neq => k (.lit (.bool false))
   | _ => none
  else none
 | .lit a, .lit b => Ib I (IL tab t) op a b fun v => k (.lit v)
 | .agg a, .agg b =>
  (match eqTy? tab t with
  | some T => bif T.flat && aV (c9 T) a && aV (c9 T) b then
    (match op with
    | .eql => kK a b fun r => k (.lit (.bool r))
    | .neq => kK a b fun r => k (.lit (.bool (!r)))
    | _ => none) else none
  | none => none)
 | .ptr _ _ _ _, .lit (.pointer none) | .el _ _ _ _ _, .lit (.pointer none) =>
  bif HC tab t then
   match op with
   | .eql => k (.lit (.bool false))
   | .neq => k (.lit (.bool true))
   | _ => none
  else none
 | _, _ => none
def NF (op : UnOp) (x : KV) (k : KV → Option R) : Option R :=
 match x with
 | .lit v =>
  match op, v with
  | .neg, .int kd n => k (.lit (.int kd (oY kd 0 n)))
  | .xor, .int kd n => k (.lit (.int kd (HU kd n)))
  | .not, .bool b => k (.lit (.bool (!b)))
  | _, _ => none
 | _ => none
def wE (y : Nat) (x : Option Int) (d : Nat) (k : Nat → Option R) : Option R :=
 match x with
 | none => k d
 | some i => I.guard (decide (0 ≤ i) && decide (i ≤ (y : Int))) (k i.toNat)
def lZ (len : Nat) (lo hi mx : Option Int) (k : Nat → Nat → Option R) : Option R :=
 bif mx.isNone || hi.isSome then wE I len mx len fun m => wE I m hi len fun h => wE I h lo 0 fun l => k l h else none
def d6 (cs : List KV) (i : Nat) : List KV → List KV
 | [] => cs
 | v :: r => d6 (AD v cs i) (i + 1) r
def Ma (t : TypeId) (mem : aO) (x : KV) (k : Int → List Nat → Option R) : Option R :=
 match tab t with
 | some ti =>
  match ti.tk with
  | .str => (match x with | .lit (.string s) => k (NJ s) [] | _ => none)
  | .sl _ =>
   match x with
   | .tsl _ _ _ xs => k (bV xs) []
   | .ms b g o n => k (n : Int) []
   | .msw b g => pT mem b g fun x => (match x.row with | .ts _ _ _ xs => k (bV xs) [b] | .cells e cs => k (a6 e cs.length : Nat) [b])
   | .lit (.slice none 0 0) => k 0 []
   | _ => none
  | _ => none
 | none => none
def Fm (tx : TypeId) (y : KV) : Bool :=
 match tab tx with
 | some ti =>
  match ti.tk, y with
  | .str, .lit (.string _) => true
  | .sl _, .lit (.string _) => false
  | .sl _, _ => true
  | _, _ => false
 | none => false
def Cr (te : TI) (x y : KRow) (k : KRow → Option R) : Option R :=
 match x with
 | .ts β ag T xs =>
  (match y with
  | .ts β' ag' T' ys => bif eV ag ag' then (match zH T' T ys with | some zs => k (.ts (β || β') ag T (xs ++ zs)) | none => none) else none
  | .cells _ _ => none)
 | .cells e xs => (match vU te y with
  | some ys => bif vT ys && Nat.beq e (rG y) && Nat.ble 1 e then k (.cells e (xs ++ ys)) else none
  | none => none)
def Do (t : TypeId) (k : TypeId → TI → Option R) : Option R :=
 match tab t with
 | some ti => (match ti.tk with | .sl et => (match tab et with | some te => k et te | none => none) | _ => none)
 | none => none
def Du (boxed : Bool) (rs : Nat) (row : KRow) (rd : List Nat) (wr : List (Nat × eI)) (k : bW → Option R) : Option R :=
 bif boxed then k ⟨.msw rs 0, rd, wr ++ [(rs, ⟨0, false, row⟩)], []⟩ else
 match row with
 | .ts β ag T xs => k ⟨.tsl (mF β ag T) ag T xs, rd, wr, []⟩
 | .cells _ _ => none
def x8 (row : KRow) (k : Option R) : Option R := I.guard (Nat.ble (iA row) cJ) k
def E1 (boxed vars : Bool) (t tx : TypeId) (mem : aO) (rs : Nat) (x y : KV) (k : bW → Option R) : Option R :=
 Do tab t fun et te => IW I tab et mem y fun yr yrd =>
 bif Nat.beq te.n (rG yr) && Fm tab tx y && Nat.ble te.bytes 4096 && Nat.ble 1 te.n && Nat.beq te.zero.length te.n then
  match x with
  | .lit (.slice none 0 0) =>
   x8 I yr <|
   bif boxed then
    bif vars then (match vU te yr with
     | some ys => bif Nat.ble 1 (iA yr) && vT ys then k ⟨.msw rs 0, yrd, [(rs, ⟨0, false, .cells (rG yr) ys⟩)], []⟩ else none
     | none => none)
    else (match yr with | .ts _ _ _ _ => k ⟨.msw rs 0, yrd, [(rs, ⟨0, false, yr⟩)], []⟩ | .cells _ _ => none)
   else (match yr with | .ts β ag T xs => k ⟨.tsl (mF β ag T) ag T xs, yrd, [], []⟩ | .cells _ _ => none)
  | .msw b g => pT mem b g fun bx => Cr te bx.row yr fun z =>
   bif !bx.frz && Nat.beq te.n (rG bx.row) then x8 I z (k ⟨.msw b (g + 1), b :: yrd, [(b, ⟨g + 1, false, z⟩)], []⟩) else none
  | .ms b g o n => I.guard (Nat.beq o 0) (pT mem b g fun bx => yS I 0 n bx.row fun xr => Cr te xr yr fun z =>
   bif !bx.frz && Nat.beq te.n (rG bx.row) then x8 I z (k ⟨.msw b (g + 1), b :: yrd, [(b, ⟨g + 1, false, z⟩)], []⟩) else none)
  | _ => none
 else none
def H0 (t : TypeId) (mem : aO) (x : KV) (i : Int) (k : bW → Option R) : Option R :=
 match tab t with
 | some ti =>
  match ti.tk with
  | .sl et =>
   (match tab et with
   | some te =>
    match x with
    | .tsl β ag T xs => bif Nat.beq te.n T.size then I.get xs i fun v => k (eW (.el β ag T v 0)) else none
    | .ms b g o n => pT mem b g fun bx => bif Nat.beq te.n (rG bx.row) then I.guard (decide (0 ≤ i) && decide (i < (n : Int))) (k ⟨.ptr b g (o + i.toNat) 0, [b], [], []⟩) else none
    | .msw b g => pT mem b g fun bx => bif Nat.beq te.n (rG bx.row) then I.guard (decide (0 ≤ i) && decide (i < (iA bx.row : Int))) (k ⟨.ptr b g i.toNat 0, [b], [], []⟩) else none
    | _ => none
   | none => none)
  | .arr n e =>
   (match tab e with
   | some te =>
    match x with
    | .ptr b g j c => I.guard (decide (0 ≤ i) && decide (i < (n : Int))) (k (eW (.ptr b g j (c + i.toNat * te.n))))
    | _ => none
   | none => none)
  | _ => none
 | none => none
def AZ (ti : TI) (cs : List KV) (k : KV → Option R) : Option R :=
 match ti.ty with
 | some T => bif aV (c9 T) cs then (bif ti.ag then k (.agg cs) else match cs with | [v] => k v | _ => none) else none
 | none => none
def Kn (pY : Nat) : List KV → Nat → (KV → Option R) → Option R
 | [], _, _ => none
 | v :: r, j, k => I.ite (Nat.beq pY j) (k v) (Kn pY r (j + 1) k)
def AO (pY : Nat) (v : KV) (cs : List KV) : List KV → Nat → (List KV → Option R) → Option R
 | [], _, _ => none
 | _ :: r, j, k => I.ite (Nat.beq pY j) (k (AD v cs j)) (AO pY v cs r (j + 1) k)
def Iw (t : TypeId) (mem : aO) (a : KV) (k : bW → Option R) : Option R :=
 match tab t with
 | some ti =>
  match a with
  | .el β ag T x c => AZ ti ((((cellsOf β T x)).drop c).take ti.n) fun v => k (eW v)
  | .ptr b g i c => pT mem b g fun bx =>
   (match bx.row with
   | .cells e cs => bif ti.ag then bif Nat.ble (i * e + c + ti.n) cs.length then k ⟨.agg ((cs.drop (i * e + c)).take ti.n), [b], [], []⟩ else none
     else Kn I (i * e + c) cs 0 fun v => k ⟨v, [b], [], []⟩
   | .ts β ag T xs => bif ti.ag && bP ag T then none else I.getN xs i fun x => AZ ti (((cellsOf β T x).drop c).take ti.n) fun v => k ⟨v, [b], [], []⟩)
  | _ => none
 | none => none
def HO (t : TypeId) (mem : aO) (a x : KV) (k : bW → Option R) : Option R :=
 match tab t with
 | some ti =>
  match a with
  | .ptr b g i c => pT mem b g fun bx => bif !bx.frz && Nat.beq x.cells.length ti.n then
   (match bx.row with
   | .cells e cs => bif Nat.beq ti.n 1 then (match x.cells with
     | [v] => bif Ln v then AO I (i * e + c) v cs cs 0 fun cs' => k ⟨.lit undef, [b], [(b, ⟨bx.gen, bx.frz, .cells e cs'⟩)], []⟩ else none
     | _ => none)
    else bif Nat.ble (i * e + c + ti.n) cs.length && vT x.cells then k ⟨.lit undef, [b], [(b, ⟨bx.gen, bx.frz, .cells e (d6 cs (i * e + c) x.cells)⟩)], []⟩ else none
   | .ts β ag T xs => bif bP ag T then
     (match x with
     | .lit (.int kd v) => bif Nat.beq c 0 && Nat.beq ti.n 1 then
       (match Em (F := den) (a := .int kd) (b := T) (Ty.beq (.int kd) T) rfl v with
       | some z => I.guard (Nat.ble (i + 1) xs.length) (k ⟨.lit undef, [b], [(b, ⟨bx.gen, bx.frz, .ts β ag T (xs.set i z)⟩)], []⟩)
       | none => none) else none
     | _ => none)
    else bif Nat.ble (c + ti.n) T.size then
     (match ti.ty with
     | some T' => IK I mem ti.ag T' x fun y β' l => bif f7 b l then none else
       bif Nat.beq c 0 && Nat.beq ti.n T.size then
        (match (bif eV ti.ag ag then Em (F := den) (Ty.beq T' T) rfl y else none) with
        | some z => I.guard (Nat.ble (i + 1) xs.length) (k ⟨.lit undef, b :: l, lD mem l ++ [(b, ⟨bx.gen, bx.frz, .ts (β || β') ag T (xs.set i z)⟩)], []⟩)
        | none => none)
       else I.getN xs i fun p => eB I mem T (d6 (cellsOf false T p) c (cellsOf false T' y)) fun z _ _ =>
        k ⟨.lit undef, b :: l, lD mem l ++ [(b, ⟨bx.gen, bx.frz, .ts (β || β') ag T (xs.set i z)⟩)], []⟩
     | none => none)
    else none)
   else none
  | _ => none
 | none => none
def HF (t : TypeId) (mem : aO) (x : KV) (lo hi mx : Option Int) (k : bW → Option R) : Option R :=
 match tab t with
 | some ti =>
  match ti.tk with
  | .str => (match x with | .lit (.string s) => bif mx.isNone then lZ I s.size lo hi none fun l h => k (eW (.lit (.string (s.extract l h)))) else none | _ => none)
  | .sl et =>
   (match tab et with
   | some te =>
    match x with
    | .tsl β ag T xs => bif Nat.beq te.n T.size then lZ I xs.length lo hi mx fun l h => k (eW (.tsl β ag T ((xs.take h).drop l))) else none
    | .ms b g o n => pT mem b g fun bx => bif Nat.beq te.n (rG bx.row) then lZ I n lo hi mx fun l h => k ⟨.ms b g (o + l) (h - l), [b], [], []⟩ else none
    | .msw b g => pT mem b g fun bx => bif Nat.beq te.n (rG bx.row) then lZ I (iA bx.row) lo hi mx fun l h => k ⟨.ms b g l (h - l), [b], [], []⟩ else none
    | .lit (.slice none 0 0) => lZ I 0 lo hi mx fun _ _ => k (eW (.lit (.slice none 0 0)))
    | _ => none
   | none => none)
  | .arr n e =>
   (match tab e with
   | some te =>
    match x with
    | .ptr b g i c => bif Nat.beq i 0 && Nat.beq te.n 1 then pT mem b g fun bx =>
      (match bx.row with
      | .cells e' cs => bif Nat.beq e' 1 && Nat.ble (c + n) cs.length then lZ I n lo hi mx fun l h => k ⟨.ms b g (c + l) (h - l), [b], [], []⟩ else none
      | _ => none) else none
    | _ => none
   | none => none)
  | _ => none
 | none => none
def FJ (s : TypeId) (f : Nat) (k : Nat → Nat → TypeId → Option R) : Option R :=
 match tab s with
 | some ti => (match ti.tk with | .st fs => (match iB fs f with | some q => bif Nat.ble 1 q.2.1 then k q.1 q.2.1 q.2.2 else none | none => none) | _ => none)
 | none => none
def z1 (place : Nat → Option (Nat × Nat)) (cs : List KV) : List (Nat × KV) → Option (List KV)
 | [] => some cs
 | (i, v) :: r => match place i with
  | some q => bif Nat.beq v.cells.length q.2 && Nat.ble (q.1 + q.2) cs.length then z1 place (d6 cs q.1 v.cells) r else none
  | none => none
def qE (vs : List KV) : List (Nat × KV) → List KV
 | [] => vs
 | (i, v) :: r => qE (AD v vs i) r
def vV (n : Nat) : List (Nat × KV) → Bool
 | [] => true
 | (i, _) :: r => Nat.ble (i + 1) n && vV n r
def eD (ti : TI) : KV := bif ti.ag then .agg (ti.zero.map .lit) else match ti.zero with | [v] => .lit v | _ => .gone
def pS (f : Int → Int → Int) (kd : IntKind) : List KV → Int → Option Int
 | [], a => some a
 | .lit (.int k' b) :: r, a => bif f6 kd k' then pS f kd r (f a b) else none
 | _, _ => none
mutual
def KV.refs : KV → List Nat
 | .ptr b _ _ _ => [b]
 | .ms b _ _ _ => [b]
 | .msw b _ => [b]
 | .fn _ fi ca => KV.refsAll fi ++ KV.refsAll ca
 | .agg cs => KV.refsAll cs
 | .tup vs => KV.refsAll vs
 | .lit _ => []
 | .tsl _ _ _ _ => []
 | .el _ _ _ _ _ => []
 | .dead => []
 | .gone => []
 | .unkB => []
def KV.refsAll : List KV → List Nat
 | [] => []
 | v :: r => v.refs ++ KV.refsAll r
end
def KRow.refs : KRow → List Nat
 | .cells _ cs => KV.refsAll cs
 | .ts _ _ _ _ => []
def Fs (mem : aO) (b : Nat) : List Nat :=
 match iB mem b with
 | some (some x) => x.row.refs
 | _ => []
def iZ (mem : aO) : Nat → List Nat → List Nat → List Nat
 | 0, _, seen => seen
 | _, [], seen => seen
 | n + 1, b :: todo, seen => bif f7 b seen then iZ mem n todo seen else iZ mem n (todo ++ Fs mem b) (seen ++ [b])
def pR (mem : aO) (b : Nat) : Option Nat :=
 match iB mem b with
 | some (some x) => some x.gen
 | _ => none
mutual
def KV.ren (f : j8) : KV → KV
 | .ptr b g i c => match f b g with | some q => .ptr q.1 q.2 i c | none => .dead
 | .ms b g o n => match f b g with | some q => .ms q.1 q.2 o n | none => .dead
 | .msw b g => match f b g with | some q => .msw q.1 q.2 | none => .dead
 | .fn h fi ca => .fn h (KV.renAll f fi) (KV.renAll f ca)
 | .agg cs => .agg (KV.renAll f cs)
 | .tup vs => .tup (KV.renAll f vs)
 | .lit v => .lit v
 | .tsl β ag T xs => .tsl β ag T xs
 | .el β ag T x c => .el β ag T x c
 | .dead => .dead
 | .gone => .gone
 | .unkB => .unkB
def KV.renAll (f : j8) : List KV → List KV
 | [] => []
 | v :: r => v.ren f :: KV.renAll f r
end
def KRow.ren (f : j8) : KRow → KRow
 | .cells e cs => .cells e (KV.renAll f cs)
 | .ts β ag T xs => .ts β ag T xs
def kI (mem : aO) (ids : List Nat) : j8 := fun b g =>
 match pR mem b with
 | some h => bif Nat.beq h g then (match pY b ids 0 with | some j => some (j, 0) | none => none) else none
 | none => none
def mN (f : j8) (mem : aO) : List Nat → aO
 | [] => []
 | b :: r => (match iB mem b with
  | some (some x) => some ⟨0, x.frz, x.row.ren f⟩
  | _ => none) :: mN f mem r
def c6 (mem : aO) (n : Nat) : Nat := (mem.length + 1) * (mem.length + 1) + n
def gO : aO → List (Option Bool)
 | [] => []
 | some x :: r => some (gN x.row) :: gO r
 | none :: r => none :: gO r
def Ci : List (Option Bool) → aO → Bool
 | [], _ => true
 | some k :: r, some x :: m => (bif k then gN x.row && Nat.beq x.gen 0 else !(gN x.row)) && Ci r m
 | none :: r, none :: m => Ci r m
 | _, _ => false
def yK (old : List (Option Bool)) (vs : List KV) (mem : aO) (k : List KV → aO → Option R) : Option R :=
 let ids := iZ mem (c6 mem (old.length + (KV.refsAll vs).length)) (gH 0 old.length ++ KV.refsAll vs) []
 bif Ci old mem && cW ids && qL 0 old.length ids then k (KV.renAll (kI mem ids) vs) (mN (kI mem ids) mem ids) else none
def KV.frz (m : Nat) (mem : aO) : KV → KV
 | .msw b g => bif Nat.ble m b then
   (match iB mem b with
   | some (some x) => bif Nat.beq x.gen g then (match x.row with
    | .ts β ag T xs => .tsl (mF β ag T) ag T xs
    | .cells _ _ => .msw b g) else .msw b g
   | _ => .msw b g)
  else .msw b g
 | v => v
def KV.frzAll (m : Nat) (mem : aO) : List KV → List KV
 | [] => []
 | v :: r => v.frz m mem :: KV.frzAll m mem r
def qO (m : Nat) (mem : aO) : KV → KV
 | .tup vs => .tup (KV.frzAll m mem vs)
 | .agg vs => .agg (KV.frzAll m mem vs)
 | v => v.frz m mem
mutual
def KV.lent : KV → Bool
 | .tsl β _ _ _ => β
 | .el β _ _ _ _ => β
 | .fn _ fi ca => KV.lentAny fi || KV.lentAny ca
 | .agg cs => KV.lentAny cs
 | .tup vs => KV.lentAny vs
 | .lit _ => false
 | .ptr _ _ _ _ => false
 | .ms _ _ _ _ => false
 | .msw _ _ => false
 | .dead => false
 | .gone => true
 | .unkB => true
def KV.lentAny : List KV → Bool
 | [] => false
 | v :: r => v.lent || KV.lentAny r
end
def o8 : aO → Bool
 | [] => false
 | some x :: r => (match x.row with | .cells _ cs => KV.lentAny cs | .ts β ag T _ => mF β ag T) || o8 r
 | none :: r => o8 r
end
end
end Go.Ab
