import Derived.Test.YtdlbbdbbpoggfaaLib1
set_option linter.unusedVariables false
namespace Go.Ab
noncomputable section
inductive Ty where
 | int (k : IntKind)
 | bool
 | str
 | sl (ag : Bool) (T : Ty)
 | cons (a b : Ty)
def bAnd : Bool → Bool → Bool
 | true, b => b
 | false, _ => false
theorem zbZ (a b : Bool) : bAnd a b = (a && b) := by cases a <;> rfl
def den (T : Ty) : Type := Ty.rec (fun _ => Int) Bool ByteArray (fun _ _ ih => List ih) (fun _ _ a b => a × b) T
def Ty.size (T : Ty) : Nat := Ty.rec (fun _ => 1) 1 1 (fun _ _ _ => 1) (fun _ _ a b => a + b) T
def Ty.flat (T : Ty) : Bool := Ty.rec (fun _ => true) true true (fun _ _ _ => false) (fun _ _ a b => bAnd a b) T
def beqB : Bool → Bool → Bool
 | true, b => b
 | false, b => !b
def Ty.beq : Ty → Ty → Bool
 | .int k, .int k' => kEq k k'
 | .bool, .bool => true
 | .str, .str => true
 | .sl g T, .sl g' T' => bAnd (beqB g g') (Ty.beq T T')
 | .cons a b, .cons a' b' => bAnd (Ty.beq a a') (Ty.beq b b')
 | _, _ => false
theorem zqw {a b : IntKind} (h : kEq a b = true) : a = b := by cases a <;> cases b <;> first | rfl | cases h
theorem zan {a b : Bool} (h : beqB a b = true) : a = b := by cases a <;> cases b <;> first | rfl | cases h
theorem Ty.eq_of_beq : ∀ {a b : Ty}, Ty.beq a b = true → a = b
 | .int _, .int _, h => by rw [zqw h]
 | .bool, .bool, _ => rfl
 | .str, .str, _ => rfl
 | .sl g T, .sl g' T', h => by
  simp only [Ty.beq, zbZ, yb] at h
  rw [zan h.1, Ty.eq_of_beq h.2]
 | .cons a b, .cons a' b', h => by
  simp only [Ty.beq, zbZ, yb] at h
  rw [Ty.eq_of_beq h.1, Ty.eq_of_beq h.2]
 | .int _, .bool, h | .int _, .str, h | .int _, .sl _ _, h | .int _, .cons _ _, h => by cases h
 | .bool, .int _, h | .bool, .str, h | .bool, .sl _ _, h | .bool, .cons _ _, h => by cases h
 | .str, .int _, h | .str, .bool, h | .str, .sl _ _, h | .str, .cons _ _, h => by cases h
 | .sl _ _, .int _, h | .sl _ _, .bool, h | .sl _ _, .str, h | .sl _ _, .cons _ _, h => by cases h
 | .cons _ _, .int _, h | .cons _ _, .bool, h | .cons _ _, .str, h | .cons _ _, .sl _ _, h => by cases h
def castB {F : Ty → Type} {a b : Ty} (c : Bool) (h : Ty.beq a b = c) (x : F a) : Option (F b) :=
 match c, h with
 | true, h => some (Ty.eq_of_beq h ▸ x)
 | false, _ => none
def castL (a b : Ty) (xs : List (den a)) : Option (List (den b)) := castB (F := fun T => List (den T)) (Ty.beq a b) rfl xs
inductive KV where
 | lit (v : Value)
 | tsl (β ag : Bool) (T : Ty) (xs : List (den T))
 | el (β ag : Bool) (T : Ty) (x : den T) (c : Nat)
 | ptr (b g i c : Nat)
 | ms (b g o n : Nat)
 | msw (b g : Nat)
 | fn (f : Fn) (first cap : List KV)
 | agg (cs : List KV)
 | tup (vs : List KV)
 | dead
 | gone
 | unkB
inductive KRow where
 | ts (β ag : Bool) (T : Ty) (xs : List (den T))
 | cells (e : Nat) (cs : List KV)
 | os (T : Ty) (xs : List (den T)) (hs : List (Nat × Nat × KV))
structure KBox where
 gen : Nat
 frz : Bool
 row : KRow
abbrev KMem := List (Option KBox)
structure KSt where
 env : Nat → KV
 mem : KMem
structure KOut where
 v : KV
 rd : List Nat
 wr : List (Nat × KBox)
 push : KMem
inductive ExK where
 | normal | exit (id : Nat) | ret
def isIntsK : Bool → Ty → Bool
 | false, .int _ => true
 | _, _ => false
structure Sym (R : Type) where
 ite : Bool → Option R → Option R → Option R
 guard : Bool → Option R → Option R
 get : {α : Type} → List α → Int → (α → Option R) → Option R
 getN : {α : Type} → List α → Nat → (α → Option R) → Option R
 bind : {α : Type} → Option α → (α → Option R) → Option R
 sum : {α β : Type} → α ⊕ β → (α → Option R) → (β → Option R) → Option R
 loop : Nat → KSt → (ExK → KSt → Option R) → Option R
 ask : FuncId → List KV → KMem → (KV → KMem → Option R) → Option R
 amb : Option R → Option R → Option R
def real (R : Type) : Sym R := { ite := fun c a b => cond c a b, guard := fun c a => cond c a none, get := fun xs i k => (getI xs i).bind k, getN := fun xs i k => (xs[i]?).bind k, bind := fun x k => x.bind k, sum := fun x f g => Sum.rec f g x, loop := fun _ _ _ => none, ask := fun _ _ _ _ => none, amb := fun a b => Go.Ab.amb a b }
def agOf : Ty → Bool
 | .sl _ _ => false
 | _ => true
def rowOwn : KRow → Bool
 | .os _ _ _ => true
 | _ => false
def rowB (β ag : Bool) (T : Ty) : Bool :=
 match T with
 | .int _ => bif ag then β else false
 | _ => β
def addI (k : IntKind) (a b : Int) : Int := k.wrap (a + b)
def subI (k : IntKind) (a b : Int) : Int := k.wrap (a - b)
def mulI (k : IntKind) (a b : Int) : Int := k.wrap (a * b)
def quoI (k : IntKind) (a b : Int) : Int := k.wrap (a.tdiv b)
def remI (a b : Int) : Int := a.tmod b
def shlI (k : IntKind) (a b : Int) : Int := k.wrap (a * 2 ^ (min b.toNat k.bits))
def shrI (k : IntKind) (a b : Int) : Int := a.fdiv (2 ^ (min b.toNat k.bits))
def andI (k : IntKind) (a b : Int) : Int := k.wrap (BitVec.ofInt k.bits a &&& BitVec.ofInt k.bits b).toNat
def orI (k : IntKind) (a b : Int) : Int := k.wrap (BitVec.ofInt k.bits a ||| BitVec.ofInt k.bits b).toNat
def xorI (k : IntKind) (a b : Int) : Int := k.wrap (BitVec.ofInt k.bits a ^^^ BitVec.ofInt k.bits b).toNat
def andNotI (k : IntKind) (a b : Int) : Int := k.wrap (BitVec.ofInt k.bits a &&& ~~~BitVec.ofInt k.bits b).toNat
def notI (k : IntKind) (n : Int) : Int := k.wrap (BitVec.ofInt k.bits (if k.signed then -1 else k.max) ^^^ BitVec.ofInt k.bits n).toNat
def cvtI (k : IntKind) (n : Int) : Int := k.wrap n
def eqS (a b : ByteArray) : Bool := a.toList == b.toList
def lenI {α : Type} (xs : List α) : Int := (xs.length : Int)
def lenS (s : ByteArray) : Int := (s.size : Int)
def minI (x y : Int) : Int := bif decide (y < x) then y else x
def maxI (x y : Int) : Int := bif decide (y > x) then y else x
inductive TK where
 | int (k : IntKind) | bool | str | sl (et : TypeId) | st (fs : List (Nat × Nat × TypeId)) | ptr | arr (n : Nat) (e : TypeId) | other
structure TI where
 tk : TK
 n : Nat
 bytes : Nat
 ag : Bool
 ty : Option Ty
 eq : Bool
 zero : List Value
section
variable {R : Type} (I : Sym R) (tab : TypeId → Option TI)
def envSet (env : Nat → KV) (d : Nat) (v : KV) : Nat → KV := fun t => bif Nat.beq t d then v else env t
def envPut (env : Nat → KV) (dst : Option Tmp) (v : KV) : Nat → KV :=
 match dst with
 | some d => envSet env d v
 | none => env
def ofValK : Value → KV
 | .agg cs => .agg (cs.toList.map .lit)
 | v => .lit v
def allNotAgg : List Value → Bool
 | [] => true
 | v :: r => notAgg v && allNotAgg r
def constOk : Value → Bool
 | .agg cs => allNotAgg cs.toList
 | _ => true
def getK [GTab] (env : Nat → KV) (x : Operand) (k : KV → Option R) : Option R :=
 match x with
 | .tmp t => (match env t with | .gone => none | v => k v)
 | .const v => bif constOk v then k (ofValK v) else none
 | .func f => k (.fn (.func f) [] [])
 | .global g => (match GTab.tab g with | some q => k (.el true true (.cons (.int .i64) (.int .i64)) (q.1, q.2) 0) | none => none)
def getsK [GTab] (env : Nat → KV) : List Operand → (List KV → Option R) → Option R
 | [], k => k []
 | x :: r, k => getK env x fun v => getsK env r fun vs => k (v :: vs)
def partsK [GTab] (env : Nat → KV) : List (Nat × Operand) → (List (Nat × KV) → Option R) → Option R
 | [], k => k []
 | (i, x) :: r, k => getK env x fun v => partsK env r fun vs => k ((i, v) :: vs)
def optK [GTab] (env : Nat → KV) : Option Operand → (Option Int → Option R) → Option R
 | none, k => k none
 | some x, k => getK env x fun v =>
  match v with
  | .lit (.int _ n) => k (some n)
  | _ => none
def KV.cells : KV → List KV
 | .agg cs => cs
 | v => [v]
def oneK : KV → Bool
 | .lit v => v.oneCell'
 | .agg _ => false
 | .tup _ => false
 | .gone => false
 | _ => true
def onesK : List KV → Bool
 | [] => true
 | v :: r => oneK v && onesK r
def cellsOf (β : Bool) (T : Ty) : den T → List KV :=
 Ty.rec (motive := fun T => den T → List KV) (fun k x => [.lit (.int k x)]) (fun x => [.lit (.bool x)]) (fun x => [.lit (.string x)])
  (fun ag T _ xs => [.tsl β ag T xs]) (fun _ _ iha ihb x => iha x.1 ++ ihb x.2) T
def kbox (mem : KMem) (b g : Nat) (k : KBox → Option R) : Option R :=
 match getR mem b with
 | some (some x) => bif Nat.beq x.gen g && !(rowOwn x.row) then k x else none
 | _ => none
def kboxO (mem : KMem) (b g : Nat) (k : KBox → Option R) : Option R :=
 match getR mem b with
 | some (some x) => bif Nat.beq x.gen g && rowOwn x.row then k x else none
 | _ => none
def subRow (o n : Nat) (row : KRow) (k : KRow → Option R) : Option R :=
 match row with
 | .ts β ag T xs => I.guard (Nat.ble (o + n) xs.length) (k (.ts β ag T ((xs.drop o).take n)))
 | .cells e cs => I.guard (Nat.ble ((o + n) * e) cs.length) (k (.cells e ((cs.drop (o * e)).take (n * e))))
 | .os _ _ _ => none
def rowE : KRow → Nat
 | .ts _ _ T _ => T.size
 | .cells e _ => e
 | .os T _ _ => T.size
def rowLen : KRow → Nat
 | .ts _ _ _ xs => xs.length
 | .cells e cs => countBy e cs.length
 | .os _ xs _ => xs.length
def rowIsCells : KRow → Bool
 | .cells _ _ => true
 | .ts _ _ _ _ => false
 | .os _ _ _ => false
def rowShut : KRow → KRow
 | .os T xs _ => .ts false (agOf T) T xs
 | r => r
def rowOkShut : KRow → Bool
 | .os _ _ (_ :: _) => false
 | _ => true
def emptyRow (et : TypeId) (k : KRow → Option R) : Option R :=
 match tab et with
 | some ti => (match ti.ty with | some T => k (.ts false ti.ag T []) | none => none)
 | none => none
def viewK (et : TypeId) (mem : KMem) (v : KV) (k : KRow → List Nat → Option R) : Option R :=
 match v with
 | .tsl β ag T xs => (match tab et with
  | some te => (match te.ty with
   | some T' => bif T'.flat then (bif T.flat then k (.ts false ag T xs) [] else none) else k (.ts (rowB β ag T) ag T xs) []
   | none => none)
  | none => none)
 | .ms b g o n => kbox mem b g fun x => subRow I o n x.row fun r => k r [b]
 | .msw b g => kbox mem b g fun x => k x.row [b]
 | .lit (.string s) => k (.ts false false (.int .u8) (bytesInts s)) []
 | .lit (.slice none 0 0) => emptyRow tab et fun r => k r []
 | _ => none
def denK (mem : KMem) : (T : Ty) → List KV → (den T → Bool → List Nat → Option R) → Option R
 | .int k, cs, K => (match cs with | [.lit (.int k' x)] => bif kEq k k' then K x false [] else none | _ => none)
 | .bool, cs, K => (match cs with | [.lit (.bool x)] => K x false [] | _ => none)
 | .str, cs, K => (match cs with | [.lit (.string x)] => K x false [] | _ => none)
 | .sl ag T, cs, K => (match cs with
  | [.tsl β ag' T' xs] => bif beqB ag ag' then (match castL T' T xs with | some ys => K ys β [] | none => none) else none
  | [.lit (.slice none 0 0)] => K [] false []
  | [.msw b g] => kbox mem b g fun x => denRow ag T (denK mem T) b x.row K
  | [.ms b g o n] => kbox mem b g fun x => subRow I o n x.row fun r => denRow ag T (denK mem T) b r K
  | _ => none)
 | .cons a b, cs, K => denK mem a (cs.take a.size) fun x β1 l1 => denK mem b (cs.drop a.size) fun y β2 l2 => K (x, y) (β1 || β2) (l1 ++ l2)
 where
 denAll (ag : Bool) (T : Ty) (f : List KV → (den T → Bool → List Nat → Option R) → Option R) : List (List KV) → (List (den T) → Bool → List Nat → Option R) → Option R
  | [], K => K [] false []
  | c :: r, K => f c fun x β1 l1 => denAll ag T f r fun xs β2 l2 => K (x :: xs) (β1 || β2) (l1 ++ l2)
 denRow (ag : Bool) (T : Ty) (f : List KV → (den T → Bool → List Nat → Option R) → Option R) (b : Nat) (row : KRow) (K : List (den T) → Bool → List Nat → Option R) : Option R :=
  match row with
  | .ts β ag' T' xs => bif beqB ag ag' then (match castL T' T xs with | some ys => K ys (rowB β ag T) [b] | none => none) else none
  | .cells e cs => bif Nat.beq e T.size then denAll ag T f (chunks e (countBy e cs.length) cs) fun xs β l => K xs β (b :: l) else none
  | .os _ _ _ => none
def ownOf (mem : KMem) : List KV → Option (Nat × KRow × Option (Nat × Nat))
 | [.msw b g] => (match getR mem b with
  | some (some x) => bif Nat.beq x.gen g && rowOwn x.row && !x.frz then some (b, x.row, none) else none
  | _ => none)
 | [.ms b g o n] => (match getR mem b with
  | some (some x) => bif Nat.beq x.gen g && rowOwn x.row && !x.frz then some (b, x.row, some (o, n)) else none
  | _ => none)
 | _ => none
def denX (mem : KMem) : (T : Ty) → List KV → (den T → Bool → List Nat → Option R) → Option R
 | .int k, cs, K => denK I mem (.int k) cs K
 | .bool, cs, K => denK I mem .bool cs K
 | .str, cs, K => denK I mem .str cs K
 | .sl ag T, cs, K => (match ownOf mem cs with
  | some q => (match q.2.1 with
   | .os T' xs [] => bif beqB ag (agOf T') then (match castL T' T xs with
     | some ys => (match q.2.2 with
      | none => K ys false [q.1]
      | some p => I.guard (Nat.beq p.1 0) (I.guard (Nat.ble p.2 ys.length) (K (ys.take p.2) false [q.1])))
     | none => none) else none
   | _ => none)
  | none => denK I mem (.sl ag T) cs K)
 | .cons a b, cs, K => denX mem a (cs.take a.size) fun x β1 l1 => denX mem b (cs.drop a.size) fun y β2 l2 => K (x, y) (β1 || β2) (l1 ++ l2)
def toDen (mem : KMem) (ag : Bool) (T : Ty) (v : KV) (K : den T → Bool → List Nat → Option R) : Option R := bif Nat.beq v.cells.length T.size then denX I mem T v.cells K else none
def toDens (mem : KMem) (ag : Bool) (T : Ty) : List KV → (List (den T) → Bool → List Nat → Option R) → Option R
 | [], K => K [] false []
 | v :: r, K => toDen I mem ag T v fun x β1 l1 => toDens mem ag T r fun xs β2 l2 => K (x :: xs) (β1 || β2) (l1 ++ l2)
def frozenK (mem : KMem) : List Nat → List (Nat × KBox)
 | [] => []
 | b :: r => match getR mem b with
  | some (some x) => bif rowOkShut x.row then (b, ⟨x.gen, true, rowShut x.row⟩) :: frozenK mem r else frozenK mem r
  | _ => frozenK mem r
def cellsAllK : List KV → List KV
 | [] => []
 | v :: r => v.cells ++ cellsAllK r
def sizesOkK (e : Nat) : List KV → Bool
 | [] => true
 | v :: r => Nat.beq v.cells.length e && sizesOkK e r
def flatMapCells (β : Bool) (T : Ty) : List (den T) → List KV
 | [] => []
 | x :: r => cellsOf β T x ++ flatMapCells β T r
def rowCells (te : TI) : KRow → Option (List KV)
 | .ts β ag T xs =>
  match te.ty with
  | some T' => bif Ty.beq T' T && beqB te.ag ag then some (flatMapCells β T xs) else none
  | none => none
 | .cells e cs => some cs
 | .os _ _ _ => none
def outV (v : KV) : KOut := ⟨v, [], [], []⟩
def binInt (op : BinOp) (ka : IntKind) (a : Int) (kb : IntKind) (b : Int) (k : Value → Option R) : Option R :=
 match op with
 | .shl => I.guard (decide (0 ≤ b)) (k (.int ka (shlI ka a b)))
 | .shr => I.guard (decide (0 ≤ b)) (k (.int ka (shrI ka a b)))
 | .add => bif kEq ka kb then k (.int ka (addI ka a b)) else none
 | .sub => bif kEq ka kb then k (.int ka (subI ka a b)) else none
 | .mul => bif kEq ka kb then k (.int ka (mulI ka a b)) else none
 | .quo => bif kEq ka kb then I.guard (!(b == 0)) (k (.int ka (quoI ka a b))) else none
 | .rem => bif kEq ka kb then I.guard (!(b == 0)) (k (.int ka (remI a b))) else none
 | .and => bif kEq ka kb then k (.int ka (andI ka a b)) else none
 | .or => bif kEq ka kb then k (.int ka (orI ka a b)) else none
 | .xor => bif kEq ka kb then k (.int ka (xorI ka a b)) else none
 | .andNot => bif kEq ka kb then k (.int ka (andNotI ka a b)) else none
 | .eql => bif kEq ka kb then k (.bool (a == b)) else none
 | .neq => bif kEq ka kb then k (.bool (a != b)) else none
 | .lss => bif kEq ka kb then k (.bool (decide (a < b))) else none
 | .leq => bif kEq ka kb then k (.bool (decide (a ≤ b))) else none
 | .gtr => bif kEq ka kb then k (.bool (decide (a > b))) else none
 | .geq => bif kEq ka kb then k (.bool (decide (a ≥ b))) else none
def binLit (isBool : Bool) (op : BinOp) (x y : Value) (k : Value → Option R) : Option R :=
 match x, y with
 | .int ka a, .int kb b => binInt I op ka a kb b k
 | .bool a, .bool b => bif isBool then
  match op with
  | .eql => k (.bool (a == b))
  | .neq => k (.bool (!(a == b)))
  | _ => none
  else none
 | .string a, .string b =>
  match op with
  | .eql => k (.bool (eqS a b))
  | .neq => k (.bool (!(eqS a b)))
  | _ => none
 | _, _ => none
def eqCellK (a b : KV) (k : Bool → Option R) : Option R :=
 match a, b with
 | .lit (.int ka a), .lit (.int kb b) => bif kEq ka kb then k (a == b) else none
 | .lit (.bool a), .lit (.bool b) => k (a == b)
 | .lit (.string a), .lit (.string b) => k (eqS a b)
 | _, _ => none
def leafOkK (T : Ty) (v : KV) : Bool :=
 match T, v with
 | .int k, .lit (.int k' _) => kEq k k'
 | .bool, .lit (.bool _) => true
 | .str, .lit (.string _) => true
 | .sl ag T, .tsl _ ag' T' _ => beqB ag ag' && Ty.beq T T'
 | _, _ => false
def leavesT : Ty → List Ty
 | .cons a b => leavesT a ++ leavesT b
 | T => [T]
def leavesOkK : List Ty → List KV → Bool
 | [], [] => true
 | T :: Ts, v :: vs => leafOkK T v && leavesOkK Ts vs
 | _, _ => false
def eqCellsK : List KV → List KV → (Bool → Option R) → Option R
 | [], [], k => k true
 | [a], [b], k => eqCellK a b k
 | a :: as, b :: bs, k => eqCellK a b fun q => eqCellsK as bs fun r => k (q && r)
 | _, _, _ => none
def eqTy? (t : TypeId) : Option Ty :=
 match tab t with
 | some ti => bif ti.eq then ti.ty else none
 | none => none
def isBoolK (t : TypeId) : Bool :=
 match tab t with
 | some ti => (match ti.tk with | .bool => true | _ => false)
 | none => false
def isPtrK (t : TypeId) : Bool :=
 match tab t with
 | some ti => (match ti.tk with | .ptr => true | _ => false)
 | none => false
def isSlK (t : TypeId) : Bool :=
 match tab t with
 | some ti => (match ti.tk with | .sl _ => true | _ => false)
 | none => false
def binK (op : BinOp) (t : TypeId) (x y : KV) (k : KV → Option R) : Option R :=
 match x, y with
 | .tsl _ _ _ xs, .lit (.slice none 0 0) =>
  bif isSlK tab t then
   match op with
   | .eql => I.ite xs.isEmpty (k .unkB) (k (.lit (.bool false)))
   | .neq => I.ite xs.isEmpty (k .unkB) (k (.lit (.bool true)))
   | _ => none
  else none
 | .lit (.slice none 0 0), .lit (.slice none 0 0) =>
  bif isSlK tab t then
   match op with
   | .eql => k (.lit (.bool true))
   | .neq => k (.lit (.bool false))
   | _ => none
  else none
 | .lit a, .lit b => binLit I (isBoolK tab t) op a b fun v => k (.lit v)
 | .agg a, .agg b =>
  (match eqTy? tab t with
  | some T => bif T.flat && leavesOkK (leavesT T) a && leavesOkK (leavesT T) b then
    (match op with
    | .eql => eqCellsK a b fun r => k (.lit (.bool r))
    | .neq => eqCellsK a b fun r => k (.lit (.bool (!r)))
    | _ => none) else none
  | none => none)
 | .ptr _ _ _ _, .lit (.pointer none) | .el _ _ _ _ _, .lit (.pointer none) =>
  bif isPtrK tab t then
   match op with
   | .eql => k (.lit (.bool false))
   | .neq => k (.lit (.bool true))
   | _ => none
  else none
 | _, _ => none
def unK (op : UnOp) (x : KV) (k : KV → Option R) : Option R :=
 match x with
 | .lit v =>
  match op, v with
  | .neg, .int kd n => k (.lit (.int kd (subI kd 0 n)))
  | .xor, .int kd n => k (.lit (.int kd (notI kd n)))
  | .not, .bool b => k (.lit (.bool (!b)))
  | _, _ => none
 | _ => none
def bound1K (y : Nat) (x : Option Int) (d : Nat) (k : Nat → Option R) : Option R :=
 match x with
 | none => k d
 | some i => I.guard (decide (0 ≤ i) && decide (i ≤ (y : Int))) (k i.toNat)
def boundsK (len : Nat) (lo hi mx : Option Int) (k : Nat → Nat → Option R) : Option R :=
 bif mx.isNone || hi.isSome then bound1K I len mx len fun m => bound1K I m hi len fun h => bound1K I h lo 0 fun l => k l h else none
def setRowCells (cs : List KV) (i : Nat) : List KV → List KV
 | [] => cs
 | v :: r => setRowCells (setR v cs i) (i + 1) r
def lenK (t : TypeId) (mem : KMem) (x : KV) (k : Int → List Nat → Option R) : Option R :=
 match tab t with
 | some ti =>
  match ti.tk with
  | .str => (match x with | .lit (.string s) => k (lenS s) [] | _ => none)
  | .sl _ =>
   match x with
   | .tsl _ _ _ xs => k (lenI xs) []
   | .ms b g o n => k (n : Int) []
   | .msw b g => kbox mem b g fun x => (match x.row with | .ts _ _ _ xs => k (lenI xs) [b] | .cells e cs => k (countBy e cs.length : Nat) [b] | .os _ _ _ => none)
   | .lit (.slice none 0 0) => k 0 []
   | _ => none
  | _ => none
 | none => none
def srcOkK (tx : TypeId) (y : KV) : Bool :=
 match tab tx with
 | some ti =>
  match ti.tk, y with
  | .str, .lit (.string _) => true
  | .sl _, .lit (.string _) => false
  | .sl _, _ => true
  | _, _ => false
 | none => false
def appRow (te : TI) (x y : KRow) (k : KRow → Option R) : Option R :=
 match x with
 | .ts β ag T xs =>
  (match y with
  | .ts β' ag' T' ys => bif beqB ag ag' then (match castL T' T ys with | some zs => k (.ts (β || β') ag T (xs ++ zs)) | none => none) else none
  | _ => none)
 | .os _ _ _ => none
 | .cells e xs => (match rowCells te y with
  | some ys => bif onesK ys && Nat.beq e (rowE y) && Nat.ble 1 e then k (.cells e (xs ++ ys)) else none
  | none => none)
def elemK (t : TypeId) (k : TypeId → TI → Option R) : Option R :=
 match tab t with
 | some ti => (match ti.tk with | .sl et => (match tab et with | some te => k et te | none => none) | _ => none)
 | none => none
def madeK (boxed : Bool) (rs : Nat) (row : KRow) (rd : List Nat) (wr : List (Nat × KBox)) (k : KOut → Option R) : Option R :=
 bif boxed then (bif rowOwn row then none else k ⟨.msw rs 0, rd, wr ++ [(rs, ⟨0, false, row⟩)], []⟩) else
 match row with
 | .ts β ag T xs => k ⟨.tsl (rowB β ag T) ag T xs, rd, wr, []⟩
 | _ => none
def lenOkK (row : KRow) (k : Option R) : Option R := I.guard (Nat.ble (rowLen row) mostLen) k
def appendK (boxed vars : Bool) (t tx : TypeId) (mem : KMem) (rs : Nat) (x y : KV) (k : KOut → Option R) : Option R :=
 elemK tab t fun et te => viewK I tab et mem y fun yr yrd =>
 bif Nat.beq te.n (rowE yr) && srcOkK tab tx y && Nat.ble te.bytes 4096 && Nat.ble 1 te.n && Nat.beq te.zero.length te.n then
  match x with
  | .lit (.slice none 0 0) =>
   lenOkK I yr <|
   bif boxed then
    bif vars then (match rowCells te yr with
     | some ys => bif Nat.ble 1 (rowLen yr) && onesK ys then k ⟨.msw rs 0, yrd, [(rs, ⟨0, false, .cells (rowE yr) ys⟩)], []⟩ else none
     | none => none)
    else (match yr with | .ts _ _ _ _ => k ⟨.msw rs 0, yrd, [(rs, ⟨0, false, yr⟩)], []⟩ | _ => none)
   else (match yr with | .ts β ag T xs => k ⟨.tsl (rowB β ag T) ag T xs, yrd, [], []⟩ | _ => none)
  | .msw b g => kbox mem b g fun bx => appRow te bx.row yr fun z =>
   bif !bx.frz && Nat.beq te.n (rowE bx.row) then lenOkK I z (k ⟨.msw b (g + 1), b :: yrd, [(b, ⟨g + 1, false, z⟩)], []⟩) else none
  | .ms b g o n => I.guard (Nat.beq o 0) (kbox mem b g fun bx => subRow I 0 n bx.row fun xr => appRow te xr yr fun z =>
   bif !bx.frz && Nat.beq te.n (rowE bx.row) then lenOkK I z (k ⟨.msw b (g + 1), b :: yrd, [(b, ⟨g + 1, false, z⟩)], []⟩) else none)
  | _ => none
 else none
def indexK (t : TypeId) (mem : KMem) (x : KV) (i : Int) (k : KOut → Option R) : Option R :=
 match tab t with
 | some ti =>
  match ti.tk with
  | .sl et =>
   (match tab et with
   | some te =>
    match x with
    | .tsl β ag T xs => bif Nat.beq te.n T.size then I.get xs i fun v => k (outV (.el β ag T v 0)) else none
    | .ms b g o n => kbox mem b g fun bx => bif Nat.beq te.n (rowE bx.row) then I.guard (decide (0 ≤ i) && decide (i < (n : Int))) (k ⟨.ptr b g (o + i.toNat) 0, [b], [], []⟩) else none
    | .msw b g => kbox mem b g fun bx => bif Nat.beq te.n (rowE bx.row) then I.guard (decide (0 ≤ i) && decide (i < (rowLen bx.row : Int))) (k ⟨.ptr b g i.toNat 0, [b], [], []⟩) else none
    | _ => none
   | none => none)
  | .arr n e =>
   (match tab e with
   | some te =>
    match x with
    | .ptr b g j c => I.guard (decide (0 ≤ i) && decide (i < (n : Int))) (k (outV (.ptr b g j (c + i.toNat * te.n))))
    | _ => none
   | none => none)
  | _ => none
 | none => none
def rdCells (ti : TI) (cs : List KV) (k : KV → Option R) : Option R :=
 match ti.ty with
 | some T => bif leavesOkK (leavesT T) cs then (bif ti.ag then k (.agg cs) else match cs with | [v] => k v | _ => none) else none
 | none => none
def selK (idx : Nat) : List KV → Nat → (KV → Option R) → Option R
 | [], _, _ => none
 | v :: r, j, k => I.ite (Nat.beq idx j) (k v) (selK idx r (j + 1) k)
def setSelK (idx : Nat) (v : KV) (cs : List KV) : List KV → Nat → (List KV → Option R) → Option R
 | [], _, _ => none
 | _ :: r, j, k => I.ite (Nat.beq idx j) (k (setR v cs j)) (setSelK idx v cs r (j + 1) k)
def loadK (t : TypeId) (mem : KMem) (a : KV) (k : KOut → Option R) : Option R :=
 match tab t with
 | some ti =>
  match a with
  | .el β ag T x c => rdCells ti ((((cellsOf β T x)).drop c).take ti.n) fun v => k (outV v)
  | .ptr b g i c => kbox mem b g fun bx =>
   (match bx.row with
   | .cells e cs => bif ti.ag then bif Nat.ble (i * e + c + ti.n) cs.length then k ⟨.agg ((cs.drop (i * e + c)).take ti.n), [b], [], []⟩ else none
     else selK I (i * e + c) cs 0 fun v => k ⟨v, [b], [], []⟩
   | .ts β ag T xs => bif ti.ag && isIntsK ag T then none else I.getN xs i fun x => rdCells ti (((cellsOf β T x).drop c).take ti.n) fun v => k ⟨v, [b], [], []⟩
   | .os _ _ _ => none)
  | _ => none
 | none => none
def storeK (t : TypeId) (mem : KMem) (a x : KV) (k : KOut → Option R) : Option R :=
 match tab t with
 | some ti =>
  match a with
  | .ptr b g i c => kbox mem b g fun bx => bif !bx.frz && Nat.beq x.cells.length ti.n then
   (match bx.row with
   | .cells e cs => bif Nat.beq ti.n 1 then (match x.cells with
     | [v] => bif oneK v then setSelK I (i * e + c) v cs cs 0 fun cs' => k ⟨.lit undef, [b], [(b, ⟨bx.gen, bx.frz, .cells e cs'⟩)], []⟩ else none
     | _ => none)
    else bif Nat.ble (i * e + c + ti.n) cs.length && onesK x.cells then k ⟨.lit undef, [b], [(b, ⟨bx.gen, bx.frz, .cells e (setRowCells cs (i * e + c) x.cells)⟩)], []⟩ else none
   | .ts β ag T xs => bif isIntsK ag T then
     (match x with
     | .lit (.int kd v) => bif Nat.beq c 0 && Nat.beq ti.n 1 then
       (match castB (F := den) (a := .int kd) (b := T) (Ty.beq (.int kd) T) rfl v with
       | some z => I.guard (Nat.ble (i + 1) xs.length) (k ⟨.lit undef, [b], [(b, ⟨bx.gen, bx.frz, .ts β ag T (xs.set i z)⟩)], []⟩)
       | none => none) else none
     | _ => none)
    else bif Nat.ble (c + ti.n) T.size then
     (match ti.ty with
     | some T' => toDen I mem ti.ag T' x fun y β' l => bif memN b l then none else
       bif Nat.beq c 0 && Nat.beq ti.n T.size then
        (match (bif beqB ti.ag ag then castB (F := den) (Ty.beq T' T) rfl y else none) with
        | some z => I.guard (Nat.ble (i + 1) xs.length) (k ⟨.lit undef, b :: l, frozenK mem l ++ [(b, ⟨bx.gen, bx.frz, .ts (β || β') ag T (xs.set i z)⟩)], []⟩)
        | none => none)
       else I.getN xs i fun p => denK I mem T (setRowCells (cellsOf false T p) c (cellsOf false T' y)) fun z _ _ =>
        k ⟨.lit undef, b :: l, frozenK mem l ++ [(b, ⟨bx.gen, bx.frz, .ts (β || β') ag T (xs.set i z)⟩)], []⟩
     | none => none)
    else none
   | .os _ _ _ => none)
   else none
  | _ => none
 | none => none
def sliceK (t : TypeId) (mem : KMem) (x : KV) (lo hi mx : Option Int) (k : KOut → Option R) : Option R :=
 match tab t with
 | some ti =>
  match ti.tk with
  | .str => (match x with | .lit (.string s) => bif mx.isNone then boundsK I s.size lo hi none fun l h => k (outV (.lit (.string (s.extract l h)))) else none | _ => none)
  | .sl et =>
   (match tab et with
   | some te =>
    match x with
    | .tsl β ag T xs => bif Nat.beq te.n T.size then boundsK I xs.length lo hi mx fun l h => k (outV (.tsl β ag T ((xs.take h).drop l))) else none
    | .ms b g o n => kbox mem b g fun bx => bif Nat.beq te.n (rowE bx.row) then boundsK I n lo hi mx fun l h => k ⟨.ms b g (o + l) (h - l), [b], [], []⟩ else none
    | .msw b g => kbox mem b g fun bx => bif Nat.beq te.n (rowE bx.row) then boundsK I (rowLen bx.row) lo hi mx fun l h => k ⟨.ms b g l (h - l), [b], [], []⟩ else none
    | .lit (.slice none 0 0) => boundsK I 0 lo hi mx fun _ _ => k (outV (.lit (.slice none 0 0)))
    | _ => none
   | none => none)
  | .arr n e =>
   (match tab e with
   | some te =>
    match x with
    | .ptr b g i c => bif Nat.beq i 0 && Nat.beq te.n 1 then kbox mem b g fun bx =>
      (match bx.row with
      | .cells e' cs => bif Nat.beq e' 1 && Nat.ble (c + n) cs.length then boundsK I n lo hi mx fun l h => k ⟨.ms b g (c + l) (h - l), [b], [], []⟩ else none
      | _ => none) else none
    | _ => none
   | none => none)
  | _ => none
 | none => none
def fieldK (s : TypeId) (f : Nat) (k : Nat → Nat → TypeId → Option R) : Option R :=
 match tab s with
 | some ti => (match ti.tk with | .st fs => (match getR fs f with | some q => bif Nat.ble 1 q.2.1 then k q.1 q.2.1 q.2.2 else none | none => none) | _ => none)
 | none => none
def fillK (place : Nat → Option (Nat × Nat)) (cs : List KV) : List (Nat × KV) → Option (List KV)
 | [] => some cs
 | (i, v) :: r => match place i with
  | some q => bif Nat.beq v.cells.length q.2 && Nat.ble (q.1 + q.2) cs.length then fillK place (setRowCells cs q.1 v.cells) r else none
  | none => none
def setElsK (vs : List KV) : List (Nat × KV) → List KV
 | [] => vs
 | (i, v) :: r => setElsK (setR v vs i) r
def partsLtK (n : Nat) : List (Nat × KV) → Bool
 | [] => true
 | (i, _) :: r => Nat.ble (i + 1) n && partsLtK n r
def zeroK (ti : TI) : KV := bif ti.ag then .agg (ti.zero.map .lit) else match ti.zero with | [v] => .lit v | _ => .gone
def foldIntK (f : Int → Int → Int) (kd : IntKind) : List KV → Int → Option Int
 | [], a => some a
 | .lit (.int k' b) :: r, a => bif kEq kd k' then foldIntK f kd r (f a b) else none
 | _, _ => none
mutual
def KV.refs : KV → List Nat
 | .ptr b _ _ _ => [b]
 | .ms b _ _ _ => [b]
 | .msw b _ => [b]
 | .fn _ fi ca => KV.refsAll fi ++ KV.refsAll ca
 | .agg cs => KV.refsAll cs
 | .tup vs => KV.refsAll vs
 | .lit _ => []
 | .tsl _ _ _ _ => []
 | .el _ _ _ _ _ => []
 | .dead => []
 | .gone => []
 | .unkB => []
def KV.refsAll : List KV → List Nat
 | [] => []
 | v :: r => v.refs ++ KV.refsAll r
end
def holeRefsK : List (Nat × Nat × KV) → List Nat
 | [] => []
 | (_, _, v) :: r => v.refs ++ holeRefsK r
def KRow.refs : KRow → List Nat
 | .cells _ cs => KV.refsAll cs
 | .ts _ _ _ _ => []
 | .os _ _ hs => holeRefsK hs
def refsAtK (mem : KMem) (b : Nat) : List Nat :=
 match getR mem b with
 | some (some x) => x.row.refs
 | _ => []
def reachK (mem : KMem) : Nat → List Nat → List Nat → List Nat
 | 0, _, seen => seen
 | _, [], seen => seen
 | n + 1, b :: todo, seen => bif memN b seen then reachK mem n todo seen else reachK mem n (todo ++ refsAtK mem b) (seen ++ [b])
def genOfK (mem : KMem) (b : Nat) : Option Nat :=
 match getR mem b with
 | some (some x) => some x.gen
 | _ => none
mutual
def KV.ren (f : Ren) : KV → KV
 | .ptr b g i c => match f b g with | some q => .ptr q.1 q.2 i c | none => .dead
 | .ms b g o n => match f b g with | some q => .ms q.1 q.2 o n | none => .dead
 | .msw b g => match f b g with | some q => .msw q.1 q.2 | none => .dead
 | .fn h fi ca => .fn h (KV.renAll f fi) (KV.renAll f ca)
 | .agg cs => .agg (KV.renAll f cs)
 | .tup vs => .tup (KV.renAll f vs)
 | .lit v => .lit v
 | .tsl β ag T xs => .tsl β ag T xs
 | .el β ag T x c => .el β ag T x c
 | .dead => .dead
 | .gone => .gone
 | .unkB => .unkB
def KV.renAll (f : Ren) : List KV → List KV
 | [] => []
 | v :: r => v.ren f :: KV.renAll f r
end
def holeRenK (f : Ren) : List (Nat × Nat × KV) → List (Nat × Nat × KV)
 | [] => []
 | (i, c, v) :: r => (i, c, v.ren f) :: holeRenK f r
def KRow.ren (f : Ren) : KRow → KRow
 | .cells e cs => .cells e (KV.renAll f cs)
 | .ts β ag T xs => .ts β ag T xs
 | .os T xs hs => .os T xs (holeRenK f hs)
def cellsAtK (mem : KMem) (b : Nat) : Bool :=
 match getR mem b with
 | some (some x) => rowIsCells x.row
 | _ => false
def renToK (m : Nat) (keep : Bool) (mem : KMem) (ids : List Nat) : Ren := fun b g =>
 match genOfK mem b with
 | some h => bif Nat.beq h g then (match idx b ids 0 with | some j => some (j, newGen m keep (cellsAtK mem b) j h) | none => none) else none
 | none => none
def pickMemK (m : Nat) (keep : Bool) (f : Ren) (mem : KMem) : Nat → List Nat → KMem
 | _, [] => []
 | j, b :: r => (match getR mem b with
  | some (some x) => some ⟨newGen m keep (rowIsCells x.row) j x.gen, x.frz, x.row.ren f⟩
  | _ => none) :: pickMemK m keep f mem (j + 1) r
def reachFuelK (mem : KMem) (n : Nat) : Nat := (mem.length + 1) * (mem.length + 1) + n
def kindsK : KMem → List (Option Bool)
 | [] => []
 | some x :: r => some (rowIsCells x.row) :: kindsK r
 | none :: r => none :: kindsK r
def oldOkK : List (Option Bool) → KMem → Bool
 | [], _ => true
 | some k :: r, some x :: m => (bif k then rowIsCells x.row && Nat.beq x.gen 0 else !(rowIsCells x.row)) && oldOkK r m
 | none :: r, none :: m => oldOkK r m
 | _, _ => false
def memRefsK : KMem → List Nat
 | [] => []
 | some x :: r => x.row.refs ++ memRefsK r
 | none :: r => memRefsK r
def holeBoxK : KV → Option (Nat × Nat)
 | .msw b g => some (b, g)
 | .ms b g _ _ => some (b, g)
 | _ => none
def givableK (m : Nat) (refs : List Nat) (mem : KMem) (v : KV) : Bool :=
 match holeBoxK v with
 | some q => Nat.ble m q.1 && Nat.beq (countN q.1 refs) 1 && (match getR mem q.1 with
  | some (some x) => Nat.beq x.gen q.2 && !x.frz && (match x.row with | .ts β ag T _ => !(rowB β ag T) | _ => false)
  | _ => false)
 | none => false
def findCK (c : Nat) : List (Nat × Nat × KV) → Option (Nat × KV)
 | [] => none
 | (i, c', v) :: r => bif Nat.beq c c' then some (i, v) else findCK c r
def noneB {α : Type} : Option α → Bool
 | none => true
 | some _ => false
def firstHoleK (m : Nat) (refs : List Nat) (mem : KMem) (all : List (Nat × Nat × KV)) : List (Nat × Nat × KV) → Nat → Option Nat
 | [], _ => none
 | (_, c, v) :: r, k => bif givableK m refs mem v && noneB (findCK c (dropAt all k)) then some k else firstHoleK m refs mem all r (k + 1)
def findHoleK (m : Nat) (refs : List Nat) (mem : KMem) : KMem → Nat → Option (Nat × Nat)
 | [], _ => none
 | none :: r, b => findHoleK m refs mem r (b + 1)
 | some x :: r, b => match x.row with
  | .os _ _ hs => (match firstHoleK m refs mem hs hs 0 with
   | some k => some (b, k)
   | none => findHoleK m refs mem r (b + 1))
  | _ => findHoleK m refs mem r (b + 1)
def holeRowK (mem : KMem) (v : KV) (k : Nat → KRow → Option R) : Option R :=
 match v with
 | .msw b g => kbox mem b g fun x => bif x.frz then none else k b x.row
 | .ms b g o n => I.guard (Nat.beq o 0) (kbox mem b g fun x => bif x.frz then none else
   (match x.row with
   | .ts β ag T xs => I.guard (Nat.ble n xs.length) (k b (.ts β ag T (xs.take n)))
   | _ => none))
 | _ => none
def giveBackK (mem : KMem) (b j : Nat) (k : KMem → Option R) : Option R :=
 match getR mem b with
 | some (some x) => (match x.row with
  | .os T xs hs => (match getR hs j with
   | some h => holeRowK I mem h.2.2 fun b' row => (match row with
    | .ts β ag' T' ys => bif !(rowB β ag' T') && !(Nat.beq b' b) && noneB (findCK h.2.1 (dropAt hs j)) then
      I.getN xs h.1 fun p => (match getR (cellsOf false T p) h.2.1 with
       | some (.tsl _ ag'' T'' _) => bif beqB ag'' ag' && Ty.beq T'' T' then
         denK I mem T (setRowCells (cellsOf false T p) h.2.1 [.tsl false ag' T' ys]) fun z _ _ => k (setR none (setR (some ⟨x.gen, x.frz, .os T (xs.set h.1 z) (dropAt hs j)⟩) mem b) b') else none
       | _ => none)
     else none
    | _ => none)
   | none => none)
  | _ => none)
 | _ => none
def settleHK (m : Nat) (vs : List KV) : Nat → KMem → (KMem → Option R) → Option R
 | 0, mem, k => k mem
 | n + 1, mem, k => match findHoleK m (KV.refsAll vs ++ memRefsK mem) mem mem 0 with
  | none => k mem
  | some q => giveBackK I mem q.1 q.2 fun mem' => settleHK m vs n mem' k
def isBoxK (mem : KMem) (b : Nat) : Bool :=
 match getR mem b with
 | some (some _) => true
 | _ => false
def sweepHK (m : Nat) (vs : List KV) : Nat → KMem → KMem
 | 0, mem => mem
 | b + 1, mem => sweepHK m vs b (bif Nat.ble m b && isBoxK mem b && Nat.beq (countN b (KV.refsAll vs ++ memRefsK mem)) 0 then setR none mem b else mem)
def tidyHK (m : Nat) (vs : List KV) (mem : KMem) (k : KMem → Option R) : Option R := settleHK I m vs 64 (sweepHK m vs mem.length mem) k
def canonK (keep : Bool) (old : List (Option Bool)) (vs : List KV) (mem0 : KMem) (k : List KV → KMem → Option R) : Option R :=
 tidyHK I old.length vs mem0 fun mem =>
 let ids := reachK mem (reachFuelK mem (old.length + (KV.refsAll vs).length)) (rangeN 0 old.length ++ KV.refsAll vs) []
 bif oldOkK old mem && nodupN ids && startsN 0 old.length ids then k (KV.renAll (renToK old.length keep mem ids) vs) (pickMemK old.length keep (renToK old.length keep mem ids) mem 0 ids) else none
def KV.frz (m : Nat) (mem : KMem) : KV → KV
 | .msw b g => bif Nat.ble m b then
   (match getR mem b with
   | some (some x) => bif Nat.beq x.gen g then (match x.row with
    | .ts β ag T xs => .tsl (rowB β ag T) ag T xs
    | _ => .msw b g) else .msw b g
   | _ => .msw b g)
  else .msw b g
 | v => v
def KV.frzAll (m : Nat) (mem : KMem) : List KV → List KV
 | [] => []
 | v :: r => v.frz m mem :: KV.frzAll m mem r
def frzResK (m : Nat) (mem : KMem) : KV → KV
 | .tup vs => .tup (KV.frzAll m mem vs)
 | .agg vs => .agg (KV.frzAll m mem vs)
 | v => v.frz m mem
mutual
def KV.lent : KV → Bool
 | .tsl β _ _ _ => β
 | .el β _ _ _ _ => β
 | .fn _ fi ca => KV.lentAny fi || KV.lentAny ca
 | .agg cs => KV.lentAny cs
 | .tup vs => KV.lentAny vs
 | .lit _ => false
 | .ptr _ _ _ _ => false
 | .ms _ _ _ _ => false
 | .msw _ _ => false
 | .dead => false
 | .gone => true
 | .unkB => true
def KV.lentAny : List KV → Bool
 | [] => false
 | v :: r => v.lent || KV.lentAny r
end
def holeLentK : List (Nat × Nat × KV) → Bool
 | [] => false
 | (_, _, v) :: r => v.lent || holeLentK r
def memLentK : KMem → Bool
 | [] => false
 | some x :: r => (match x.row with | .cells _ cs => KV.lentAny cs | .ts β ag T _ => rowB β ag T | .os _ _ hs => holeLentK hs) || memLentK r
 | none :: r => memLentK r
def ownAtK (mem : KMem) (b : Nat) : Bool :=
 match getR mem b with
 | some (some x) => rowOwn x.row
 | _ => false
def ownSK (mem : KMem) : KV → Bool
 | .msw b _ => ownAtK mem b
 | .ms b _ _ _ => ownAtK mem b
 | _ => false
def ownWK (mem : KMem) : KV → Bool
 | .msw b _ => ownAtK mem b
 | _ => false
def ownPK (mem : KMem) : KV → Bool
 | .ptr b _ _ _ => ownAtK mem b
 | _ => false
def dropCK (c : Nat) : List (Nat × Nat × KV) → List (Nat × Nat × KV)
 | [] => []
 | (i, c', v) :: r => bif Nat.beq c c' then r else (i, c', v) :: dropCK c r
abbrev Holes := List (Nat × Nat × KV)
def readOK (tk : Bool) (i c : Nat) (v : KV) (hs : Holes) (nb : Nat) (k : KV → Holes → List KRow → Option R) : Option R :=
 match findCK c hs with
 | some h => I.guard (Nat.beq i h.1) (k h.2 hs [])
 | none => match v with
  | .lit u => k (.lit u) hs []
  | .tsl _ ag T ys => bif tk then k (.msw nb 0) ((i, c, .msw nb 0) :: hs) [.ts false ag T ys] else none
  | _ => none
def readsOK (tk : Bool) (i : Nat) : List KV → Nat → Holes → Nat → (List KV → Holes → List KRow → Option R) → Option R
 | [], _, hs, _, k => k [] hs []
 | v :: vs, c, hs, nb, k => readOK I tk i c v hs nb fun a hs1 rows => readsOK tk i vs (c + 1) hs1 (nb + rows.length) fun as hs2 rows2 => k (a :: as) hs2 (rows ++ rows2)
def newOnesK : List KRow → KMem
 | [] => []
 | r :: rs => some ⟨0, false, r⟩ :: newOnesK rs
def tookOK (b : Nat) (bx : KBox) (T : Ty) (xs : List (den T)) (v : KV) (hs : Holes) : List KRow → KOut
 | [] => ⟨v, [b], [], []⟩
 | r :: rs => ⟨v, [b], [(b, ⟨bx.gen, bx.frz, .os T xs hs⟩)], newOnesK (r :: rs)⟩
def loadOK (tk : Bool) (t : TypeId) (mem : KMem) (a : KV) (k : KOut → Option R) : Option R :=
 match tab t with
 | some ti => (match a with
  | .ptr b g i c => kboxO mem b g fun bx => (match bx.row with
   | .os T xs hs => (match ti.ty with
    | some T' => I.getN xs i fun x => bif leavesOkK (leavesT T') (((cellsOf true T x).drop c).take ti.n) then
      readsOK I tk i (((cellsOf true T x).drop c).take ti.n) c hs mem.length fun vs hs' rows =>
       bif ti.ag then k (tookOK b bx T xs (.agg vs) hs' rows) else (match vs with | [v] => k (tookOK b bx T xs v hs' rows) | _ => none)
     else none
    | none => none)
   | _ => none)
  | _ => none)
 | none => none
def freeCK (i c : Nat) (hs : Holes) (k : Holes → Option R) : Option R :=
 match findCK c hs with
 | none => k hs
 | some h => bif noneB (findCK c (dropCK c hs)) then I.guard (Nat.beq i h.1) (k (dropCK c hs)) else none
def storeOK (t : TypeId) (mem : KMem) (a x : KV) (k : KOut → Option R) : Option R :=
 match tab t with
 | some ti => (match a with
  | .ptr b g i c => kboxO mem b g fun bx => (match bx.row with
   | .os T xs hs => bif Nat.beq ti.n 1 && !bx.frz && oneK x then I.getN xs i fun p => (match getR (cellsOf false T p) c with
     | some (.lit u) => (match x with
      | .lit v => bif sameLit u v && noneB (findCK c hs) then denK I mem T (setRowCells (cellsOf false T p) c [.lit v]) fun z _ _ => k ⟨.lit undef, [b], [(b, ⟨bx.gen, bx.frz, .os T (xs.set i z) hs⟩)], []⟩ else none
      | _ => none)
     | some (.tsl _ ag' T' _) => (match x with
      | .lit (.slice none 0 0) => freeCK I i c hs fun hs' => denK I mem T (setRowCells (cellsOf false T p) c [.tsl false ag' T' []]) fun z _ _ => k ⟨.lit undef, [b], [(b, ⟨bx.gen, bx.frz, .os T (xs.set i z) hs'⟩)], []⟩
      | .msw b2 g2 => freeCK I i c hs fun hs' => k ⟨.lit undef, [b], [(b, ⟨bx.gen, bx.frz, .os T xs ((i, c, .msw b2 g2) :: hs')⟩)], []⟩
      | .ms b2 g2 o2 n2 => freeCK I i c hs fun hs' => k ⟨.lit undef, [b], [(b, ⟨bx.gen, bx.frz, .os T xs ((i, c, .ms b2 g2 o2 n2) :: hs')⟩)], []⟩
      | _ => none)
     | _ => none) else none
   | _ => none)
  | _ => none)
 | none => none
def lenOK (t : TypeId) (mem : KMem) (x : KV) (k : KOut → Option R) : Option R :=
 match tab t with
 | some ti => (match ti.tk, x with
  | .sl _, .msw b g => kboxO mem b g fun bx => (match bx.row with
   | .os _ xs _ => k ⟨.lit (.int .i64 (lenI xs)), [b], [], []⟩
   | _ => none)
  | _, _ => none)
 | none => none
def indexOK (t : TypeId) (mem : KMem) (x : KV) (i : Int) (k : KOut → Option R) : Option R :=
 elemK tab t fun et te =>
  match x with
  | .ms b g o n => kboxO mem b g fun bx => bif Nat.beq te.n (rowE bx.row) then I.guard (decide (0 ≤ i) && decide (i < (n : Int))) (k ⟨.ptr b g (o + i.toNat) 0, [b], [], []⟩) else none
  | .msw b g => kboxO mem b g fun bx => bif Nat.beq te.n (rowE bx.row) then I.guard (decide (0 ≤ i) && decide (i < (rowLen bx.row : Int))) (k ⟨.ptr b g i.toNat 0, [b], [], []⟩) else none
  | _ => none
def sliceOK (t : TypeId) (mem : KMem) (x : KV) (lo hi mx : Option Int) (k : KOut → Option R) : Option R :=
 elemK tab t fun et te =>
  match x with
  | .ms b g o n => kboxO mem b g fun bx => bif Nat.beq te.n (rowE bx.row) then boundsK I n lo hi mx fun l h => k ⟨.ms b g (o + l) (h - l), [b], [], []⟩ else none
  | .msw b g => kboxO mem b g fun bx => bif Nat.beq te.n (rowE bx.row) then boundsK I (rowLen bx.row) lo hi mx fun l h => k ⟨.ms b g l (h - l), [b], [], []⟩ else none
  | _ => none
def cellOK (T : Ty) (v : KV) (j c : Nat) : Option (KV × Holes) :=
 match T, v with
 | .int k, .lit (.int k' x) => bif kEq k k' then some (.lit (.int k' x), []) else none
 | .bool, .lit (.bool b) => some (.lit (.bool b), [])
 | .str, .lit (.string s) => some (.lit (.string s), [])
 | .sl ag T, .lit (.slice none 0 0) => some (.tsl false ag T [], [])
 | .sl ag T, .msw b g => some (.tsl false ag T [], [(j, c, .msw b g)])
 | .sl ag T, .ms b g o n => some (.tsl false ag T [], [(j, c, .ms b g o n)])
 | _, _ => none
def elOK : List Ty → List KV → Nat → Nat → Option (List KV × Holes)
 | [], [], _, _ => some ([], [])
 | T :: Ts, v :: vs, j, c => (match cellOK T v j c with
  | some a => (match elOK Ts vs j (c + 1) with
   | some q => some (a.1 :: q.1, a.2 ++ q.2)
   | none => none)
  | none => none)
 | _, _, _, _ => none
def elsOK (T : Ty) : List (List KV) → Nat → (List (den T) → Holes → Option R) → Option R
 | [], _, k => k [] []
 | cs :: r, j, k => (match elOK (leavesT T) cs j 0 with
  | some a => denK I [] T a.1 fun x _ _ => elsOK T r (j + 1) fun xs hs => k (x :: xs) (a.2 ++ hs)
  | none => none)
def holesLtK (n : Nat) : Holes → Option R → Option R
 | [], k => k
 | h :: r, k => I.guard (Nat.blt h.1 n) (holesLtK n r k)
def appendOK (own : Bool) (t tx : TypeId) (mem : KMem) (rs : Nat) (x y : KV) (k : KOut → Option R) : Option R :=
 elemK tab t fun et te => viewK I tab et mem y fun yr yrd =>
 match yr with
 | .cells e cs => (match te.ty with
  | some T => bif Nat.beq te.n e && srcOkK tab tx y && Nat.ble te.bytes 4096 && Nat.ble 1 te.n && Nat.beq te.zero.length te.n && onesK cs && beqB te.ag (agOf T) then
   (match x with
   | .lit (.slice none 0 0) => bif own then elsOK I T (chunks te.n (countBy te.n cs.length) cs) 0 fun zs hs =>
     I.guard (Nat.ble 1 zs.length && Nat.ble zs.length mostLen) (k ⟨.msw rs 0, yrd, [(rs, ⟨0, false, .os T zs hs⟩)], []⟩) else none
   | .msw b g => kboxO mem b g fun bx => (match bx.row with
    | .os T' xs hs => elsOK I T (chunks te.n (countBy te.n cs.length) cs) xs.length fun zs hs' => (match castL T T' zs with
     | some ys => bif !bx.frz && Ty.beq T T' then holesLtK I xs.length hs (I.guard (Nat.ble (xs ++ ys).length mostLen) (k ⟨.msw b (g + 1), b :: yrd, [(b, ⟨g + 1, false, .os T' (xs ++ ys) (hs ++ hs')⟩)], []⟩)) else none
     | none => none)
    | _ => none)
   | .ms b g o n => I.guard (Nat.beq o 0) (kboxO mem b g fun bx => (match bx.row with
    | .os T' xs hs => elsOK I T (chunks te.n (countBy te.n cs.length) cs) n fun zs hs' => (match castL T T' zs with
     | some ys => bif !bx.frz && Ty.beq T T' then I.guard (Nat.ble n xs.length) (holesLtK I n hs (I.guard (Nat.ble (xs.take n ++ ys).length mostLen) (k ⟨.msw b (g + 1), b :: yrd, [(b, ⟨g + 1, false, .os T' (xs.take n ++ ys) (hs ++ hs')⟩)], []⟩))) else none
     | none => none)
    | _ => none))
   | _ => none)
   else none
  | none => none)
 | _ => none
end
end
end Go.Ab
