import Derived.Test.YtdlbbdbbpoggfaaLib1
set_option linter.unusedVariables false
namespace Go.Ab
noncomputable section
inductive Ty where
 | int (k : IntKind)
 | bool
 | str
 | sl (ag : Bool) (T : Ty)
 | cons (a b : Ty)
def F0 : Bool → Bool → Bool
 | true, b => b
 | false, _ => false
theorem nI (a b : Bool) : F0 a b = (a && b) := by cases a <;> rfl
def den (T : Ty) : Type := Ty.rec (fun _ => Int) Bool ByteArray (fun _ _ ih => List ih) (fun _ _ a b => a × b) T
def Ty.size (T : Ty) : Nat := Ty.rec (fun _ => 1) 1 1 (fun _ _ _ => 1) (fun _ _ a b => a + b) T
def Ty.flat (T : Ty) : Bool := Ty.rec (fun _ => true) true true (fun _ _ _ => false) (fun _ _ a b => F0 a b) T
def eG : Bool → Bool → Bool
 | true, b => b
 | false, b => !b
def Ty.beq : Ty → Ty → Bool
 | .int k, .int k' => gK k k'
 | .bool, .bool => true
 | .str, .str => true
 | .sl g T, .sl g' T' => F0 (eG g g') (Ty.beq T T')
 | .cons a b, .cons a' b' => F0 (Ty.beq a a') (Ty.beq b b')
 | _, _ => false
theorem Pn {a b : IntKind} (h : gK a b = true) : a = b := by cases a <;> cases b <;> first | rfl | cases h
theorem fX {a b : Bool} (h : eG a b = true) : a = b := by cases a <;> cases b <;> first | rfl | cases h
theorem Ty.eq_of_beq : ∀ {a b : Ty}, Ty.beq a b = true → a = b
 | .int _, .int _, h => by rw [Pn h]
 | .bool, .bool, _ => rfl
 | .str, .str, _ => rfl
 | .sl g T, .sl g' T', h => by
  simp only [Ty.beq, nI, yb] at h
  rw [fX h.1, Ty.eq_of_beq h.2]
 | .cons a b, .cons a' b', h => by
  simp only [Ty.beq, nI, yb] at h
  rw [Ty.eq_of_beq h.1, Ty.eq_of_beq h.2]
 | .int _, .bool, h | .int _, .str, h | .int _, .sl _ _, h | .int _, .cons _ _, h => by cases h
 | .bool, .int _, h | .bool, .str, h | .bool, .sl _ _, h | .bool, .cons _ _, h => by cases h
 | .str, .int _, h | .str, .bool, h | .str, .sl _ _, h | .str, .cons _ _, h => by cases h
 | .sl _ _, .int _, h | .sl _ _, .bool, h | .sl _ _, .str, h | .sl _ _, .cons _ _, h => by cases h
 | .cons _ _, .int _, h | .cons _ _, .bool, h | .cons _ _, .str, h | .cons _ _, .sl _ _, h => by cases h
def GA {F : Ty → Type} {a b : Ty} (c : Bool) (h : Ty.beq a b = c) (x : F a) : Option (F b) :=
 match c, h with
 | true, h => some (Ty.eq_of_beq h ▸ x)
 | false, _ => none
def o5 (a b : Ty) (xs : List (den a)) : Option (List (den b)) := GA (F := fun T => List (den T)) (Ty.beq a b) rfl xs
inductive KV where
 | lit (v : Value)
 | tsl (β ag : Bool) (T : Ty) (xs : List (den T))
 | el (β ag : Bool) (T : Ty) (x : den T) (c : Nat)
 | ptr (b g i c : Nat)
 | ms (b g o n : Nat)
 | msw (b g : Nat)
 | fn (f : Fn) (first cap : List KV)
 | agg (cs : List KV)
 | tup (vs : List KV)
 | dead
 | gone
 | unkB
inductive KRow where
 | ts (β ag : Bool) (T : Ty) (xs : List (den T))
 | cells (e : Nat) (cs : List KV)
 | os (T : Ty) (xs : List (den T)) (hs : List (Nat × Nat × KV))
structure dD where
 gen : Nat
 frz : Bool
 row : KRow
abbrev aD := List (Option dD)
structure yP where
 env : Nat → KV
 mem : aD
structure aZ where
 v : KV
 rd : List Nat
 wr : List (Nat × dD)
 push : aD
inductive Iu where
 | normal | exit (id : Nat) | ret
def aY : Bool → Ty → Bool
 | false, .int _ => true
 | _, _ => false
structure PP (R : Type) where
 ite : Bool → Option R → Option R → Option R
 guard : Bool → Option R → Option R
 get : {α : Type} → List α → Int → (α → Option R) → Option R
 getN : {α : Type} → List α → Nat → (α → Option R) → Option R
 bind : {α : Type} → Option α → (α → Option R) → Option R
 sum : {α β : Type} → α ⊕ β → (α → Option R) → (β → Option R) → Option R
 loop : Nat → yP → (Iu → yP → Option R) → Option R
 ask : FuncId → List KV → aD → (KV → aD → Option R) → Option R
 amb : Option R → Option R → Option R
def aP (R : Type) : PP R := { ite := fun c a b => cond c a b, guard := fun c a => cond c a none, get := fun xs i k => (eC xs i).bind k, getN := fun xs i k => (xs[i]?).bind k, bind := fun x k => x.bind k, sum := fun x f g => Sum.rec f g x, loop := fun _ _ _ => none, ask := fun _ _ _ _ => none, amb := fun a b => Go.Ab.amb a b }
def eY : Ty → Bool
 | .sl _ _ => false
 | _ => true
def gX : KRow → Bool
 | .os _ _ _ => true
 | _ => false
def Aa (β ag : Bool) (T : Ty) : Bool :=
 match T with
 | .int _ => bif ag then β else false
 | _ => β
def dO (k : IntKind) (a b : Int) : Int := k.wrap (a + b)
def Pr (k : IntKind) (a b : Int) : Int := k.wrap (a - b)
def sL (k : IntKind) (a b : Int) : Int := k.wrap (a * b)
def Qd (k : IntKind) (a b : Int) : Int := k.wrap (a.tdiv b)
def b5 (a b : Int) : Int := a.tmod b
def Hf (k : IntKind) (a b : Int) : Int := k.wrap (a * 2 ^ (min b.toNat k.bits))
def NT (k : IntKind) (a b : Int) : Int := a.fdiv (2 ^ (min b.toNat k.bits))
def PJ (k : IntKind) (a b : Int) : Int := k.wrap (BitVec.ofInt k.bits a &&& BitVec.ofInt k.bits b).toNat
def JP (k : IntKind) (a b : Int) : Int := k.wrap (BitVec.ofInt k.bits a ||| BitVec.ofInt k.bits b).toNat
def Pa (k : IntKind) (a b : Int) : Int := k.wrap (BitVec.ofInt k.bits a ^^^ BitVec.ofInt k.bits b).toNat
def l5 (k : IntKind) (a b : Int) : Int := k.wrap (BitVec.ofInt k.bits a &&& ~~~BitVec.ofInt k.bits b).toNat
def PS (k : IntKind) (n : Int) : Int := k.wrap (BitVec.ofInt k.bits (if k.signed then -1 else k.max) ^^^ BitVec.ofInt k.bits n).toNat
def dL (k : IntKind) (n : Int) : Int := k.wrap n
def PK (a b : ByteArray) : Bool := a.toList == b.toList
def bK {α : Type} (xs : List α) : Int := (xs.length : Int)
def Pv (s : ByteArray) : Int := (s.size : Int)
def Fp (x y : Int) : Int := bif decide (y < x) then y else x
def CP (x y : Int) : Int := bif decide (y > x) then y else x
inductive TK where
 | int (k : IntKind) | bool | str | sl (et : TypeId) | st (fs : List (Nat × Nat × TypeId)) | ptr | arr (n : Nat) (e : TypeId) | other
structure TI where
 tk : TK
 n : Nat
 bytes : Nat
 ag : Bool
 ty : Option Ty
 eq : Bool
 zero : List Value
section
variable {R : Type} (I : PP R) (tab : TypeId → Option TI)
def mD (env : Nat → KV) (d : Nat) (v : KV) : Nat → KV := fun t => bif Nat.beq t d then v else env t
def y5 (env : Nat → KV) (dst : Option Tmp) (v : KV) : Nat → KV :=
 match dst with
 | some d => mD env d v
 | none => env
def H7 : Value → KV
 | .agg cs => .agg (cs.toList.map .lit)
 | v => .lit v
def wM : List Value → Bool
 | [] => true
 | v :: r => j7 v && wM r
def HT : Value → Bool
 | .agg cs => wM cs.toList
 | _ => true
def eP [b4] (env : Nat → KV) (x : Operand) (k : KV → Option R) : Option R :=
 match x with
 | .tmp t => (match env t with | .gone => none | v => k v)
 | .const v => bif HT v then k (H7 v) else none
 | .func f => k (.fn (.func f) [] [])
 | .global g => (match b4.tab g with | some q => k (.el true true (.cons (.int .i64) (.int .i64)) (q.1, q.2) 0) | none => none)
def rI [b4] (env : Nat → KV) : List Operand → (List KV → Option R) → Option R
 | [], k => k []
 | x :: r, k => eP env x fun v => rI env r fun vs => k (v :: vs)
def Bp [b4] (env : Nat → KV) : List (Nat × Operand) → (List (Nat × KV) → Option R) → Option R
 | [], k => k []
 | (i, x) :: r, k => eP env x fun v => Bp env r fun vs => k ((i, v) :: vs)
def IU [b4] (env : Nat → KV) : Option Operand → (Option Int → Option R) → Option R
 | none, k => k none
 | some x, k => eP env x fun v =>
  match v with
  | .lit (.int _ n) => k (some n)
  | _ => none
def KV.cells : KV → List KV
 | .agg cs => cs
 | v => [v]
def NQ : KV → Bool
 | .lit v => v.oneCell'
 | .agg _ => false
 | .tup _ => false
 | .gone => false
 | _ => true
def rH : List KV → Bool
 | [] => true
 | v :: r => NQ v && rH r
def cellsOf (β : Bool) (T : Ty) : den T → List KV :=
 Ty.rec (motive := fun T => den T → List KV) (fun k x => [.lit (.int k x)]) (fun x => [.lit (.bool x)]) (fun x => [.lit (.string x)])
  (fun ag T _ xs => [.tsl β ag T xs]) (fun _ _ iha ihb x => iha x.1 ++ ihb x.2) T
def oJ (mem : aD) (b g : Nat) (k : dD → Option R) : Option R :=
 match dZ mem b with
 | some (some x) => bif Nat.beq x.gen g && !(gX x.row) then k x else none
 | _ => none
def rF (mem : aD) (b g : Nat) (k : dD → Option R) : Option R :=
 match dZ mem b with
 | some (some x) => bif Nat.beq x.gen g && gX x.row then k x else none
 | _ => none
def BG (o n : Nat) (row : KRow) (k : KRow → Option R) : Option R :=
 match row with
 | .ts β ag T xs => I.guard (Nat.ble (o + n) xs.length) (k (.ts β ag T ((xs.drop o).take n)))
 | .cells e cs => I.guard (Nat.ble ((o + n) * e) cs.length) (k (.cells e ((cs.drop (o * e)).take (n * e))))
 | .os _ _ _ => none
def o0 : KRow → Nat
 | .ts _ _ T _ => T.size
 | .cells e _ => e
 | .os T _ _ => T.size
def fV : KRow → Nat
 | .ts _ _ _ xs => xs.length
 | .cells e cs => aN e cs.length
 | .os _ xs _ => xs.length
def iP : KRow → Bool
 | .cells _ _ => true
 | .ts _ _ _ _ => false
 | .os _ _ _ => false
def LL : KRow → KRow
 | .os T xs _ => .ts false (eY T) T xs
 | r => r
def BA : KRow → Bool
 | .os _ _ (_ :: _) => false
 | _ => true
def vQ (et : TypeId) (k : KRow → Option R) : Option R :=
 match tab et with
 | some ti => (match ti.ty with | some T => k (.ts false ti.ag T []) | none => none)
 | none => none
def I7 (et : TypeId) (mem : aD) (v : KV) (k : KRow → List Nat → Option R) : Option R :=
 match v with
 | .tsl β ag T xs => (match tab et with
  | some te => (match te.ty with
   | some T' => bif T'.flat then (bif T.flat then k (.ts false ag T xs) [] else none) else k (.ts (Aa β ag T) ag T xs) []
   | none => none)
  | none => none)
 | .ms b g o n => oJ mem b g fun x => BG I o n x.row fun r => k r [b]
 | .msw b g => oJ mem b g fun x => k x.row [b]
 | .lit (.string s) => k (.ts false false (.int .u8) (e4 s)) []
 | .lit (.slice none 0 0) => vQ tab et fun r => k r []
 | _ => none
def eT (mem : aD) : (T : Ty) → List KV → (den T → Bool → List Nat → Option R) → Option R
 | .int k, cs, K => (match cs with | [.lit (.int k' x)] => bif gK k k' then K x false [] else none | _ => none)
 | .bool, cs, K => (match cs with | [.lit (.bool x)] => K x false [] | _ => none)
 | .str, cs, K => (match cs with | [.lit (.string x)] => K x false [] | _ => none)
 | .sl ag T, cs, K => (match cs with
  | [.tsl β ag' T' xs] => bif eG ag ag' then (match o5 T' T xs with | some ys => K ys β [] | none => none) else none
  | [.lit (.slice none 0 0)] => K [] false []
  | [.msw b g] => oJ mem b g fun x => denRow ag T (eT mem T) b x.row K
  | [.ms b g o n] => oJ mem b g fun x => BG I o n x.row fun r => denRow ag T (eT mem T) b r K
  | _ => none)
 | .cons a b, cs, K => eT mem a (cs.take a.size) fun x β1 l1 => eT mem b (cs.drop a.size) fun y β2 l2 => K (x, y) (β1 || β2) (l1 ++ l2)
 where
 denAll (ag : Bool) (T : Ty) (f : List KV → (den T → Bool → List Nat → Option R) → Option R) : List (List KV) → (List (den T) → Bool → List Nat → Option R) → Option R
  | [], K => K [] false []
  | c :: r, K => f c fun x β1 l1 => denAll ag T f r fun xs β2 l2 => K (x :: xs) (β1 || β2) (l1 ++ l2)
 denRow (ag : Bool) (T : Ty) (f : List KV → (den T → Bool → List Nat → Option R) → Option R) (b : Nat) (row : KRow) (K : List (den T) → Bool → List Nat → Option R) : Option R :=
  match row with
  | .ts β ag' T' xs => bif eG ag ag' then (match o5 T' T xs with | some ys => K ys (Aa β ag T) [b] | none => none) else none
  | .cells e cs => bif Nat.beq e T.size then denAll ag T f (chunks e (aN e cs.length) cs) fun xs β l => K xs β (b :: l) else none
  | .os _ _ _ => none
def Dh (mem : aD) : List KV → Option (Nat × KRow × Option (Nat × Nat))
 | [.msw b g] => (match dZ mem b with
  | some (some x) => bif Nat.beq x.gen g && gX x.row && !x.frz then some (b, x.row, none) else none
  | _ => none)
 | [.ms b g o n] => (match dZ mem b with
  | some (some x) => bif Nat.beq x.gen g && gX x.row && !x.frz then some (b, x.row, some (o, n)) else none
  | _ => none)
 | _ => none
def wX (mem : aD) : (T : Ty) → List KV → (den T → Bool → List Nat → Option R) → Option R
 | .int k, cs, K => eT I mem (.int k) cs K
 | .bool, cs, K => eT I mem .bool cs K
 | .str, cs, K => eT I mem .str cs K
 | .sl ag T, cs, K => (match Dh mem cs with
  | some q => (match q.2.1 with
   | .os T' xs [] => bif eG ag (eY T') then (match o5 T' T xs with
     | some ys => (match q.2.2 with
      | none => K ys false [q.1]
      | some p => I.guard (Nat.beq p.1 0) (I.guard (Nat.ble p.2 ys.length) (K (ys.take p.2) false [q.1])))
     | none => none) else none
   | _ => none)
  | none => eT I mem (.sl ag T) cs K)
 | .cons a b, cs, K => wX mem a (cs.take a.size) fun x β1 l1 => wX mem b (cs.drop a.size) fun y β2 l2 => K (x, y) (β1 || β2) (l1 ++ l2)
def L5 (mem : aD) (ag : Bool) (T : Ty) (v : KV) (K : den T → Bool → List Nat → Option R) : Option R := bif Nat.beq v.cells.length T.size then wX I mem T v.cells K else none
def HZ (mem : aD) (ag : Bool) (T : Ty) : List KV → (List (den T) → Bool → List Nat → Option R) → Option R
 | [], K => K [] false []
 | v :: r, K => L5 I mem ag T v fun x β1 l1 => HZ mem ag T r fun xs β2 l2 => K (x :: xs) (β1 || β2) (l1 ++ l2)
def lT (mem : aD) : List Nat → List (Nat × dD)
 | [] => []
 | b :: r => match dZ mem b with
  | some (some x) => bif BA x.row then (b, ⟨x.gen, true, LL x.row⟩) :: lT mem r else lT mem r
  | _ => lT mem r
def j0 : List KV → List KV
 | [] => []
 | v :: r => v.cells ++ j0 r
def pB (e : Nat) : List KV → Bool
 | [] => true
 | v :: r => Nat.beq v.cells.length e && pB e r
def gP (β : Bool) (T : Ty) : List (den T) → List KV
 | [] => []
 | x :: r => cellsOf β T x ++ gP β T r
def AN (te : TI) : KRow → Option (List KV)
 | .ts β ag T xs =>
  match te.ty with
  | some T' => bif Ty.beq T' T && eG te.ag ag then some (gP β T xs) else none
  | none => none
 | .cells e cs => some cs
 | .os _ _ _ => none
def f8 (v : KV) : aZ := ⟨v, [], [], []⟩
def Ko (op : BinOp) (ka : IntKind) (a : Int) (kb : IntKind) (b : Int) (k : Value → Option R) : Option R :=
 match op with
 | .shl => I.guard (decide (0 ≤ b)) (k (.int ka (Hf ka a b)))
 | .shr => I.guard (decide (0 ≤ b)) (k (.int ka (NT ka a b)))
 | .add => bif gK ka kb then k (.int ka (dO ka a b)) else none
 | .sub => bif gK ka kb then k (.int ka (Pr ka a b)) else none
 | .mul => bif gK ka kb then k (.int ka (sL ka a b)) else none
 | .quo => bif gK ka kb then I.guard (!(b == 0)) (k (.int ka (Qd ka a b))) else none
 | .rem => bif gK ka kb then I.guard (!(b == 0)) (k (.int ka (b5 a b))) else none
 | .and => bif gK ka kb then k (.int ka (PJ ka a b)) else none
 | .or => bif gK ka kb then k (.int ka (JP ka a b)) else none
 | .xor => bif gK ka kb then k (.int ka (Pa ka a b)) else none
 | .andNot => bif gK ka kb then k (.int ka (l5 ka a b)) else none
 | .eql => bif gK ka kb then k (.bool (a == b)) else none
 | .neq => bif gK ka kb then k (.bool (a != b)) else none
 | .lss => bif gK ka kb then k (.bool (decide (a < b))) else none
 | .leq => bif gK ka kb then k (.bool (decide (a ≤ b))) else none
 | .gtr => bif gK ka kb then k (.bool (decide (a > b))) else none
 | .geq => bif gK ka kb then k (.bool (decide (a ≥ b))) else none
def Ky (isBool : Bool) (op : BinOp) (x y : Value) (k : Value → Option R) : Option R :=
 match x, y with
 | .int ka a, .int kb b => Ko I op ka a kb b k
 | .bool a, .bool b => bif isBool then
  match op with
  | .eql => k (.bool (a == b))
  | .neq => k (.bool (!(a == b)))
  | _ => none
  else none
 | .string a, .string b =>
  match op with
  | .eql => k (.bool (PK a b))
  | .neq => k (.bool (!(PK a b)))
  | _ => none
 | _, _ => none
def CZ (a b : KV) (k : Bool → Option R) : Option R :=
 match a, b with
 | .lit (.int ka a), .lit (.int kb b) => bif gK ka kb then k (a == b) else none
 | .lit (.bool a), .lit (.bool b) => k (a == b)
 | .lit (.string a), .lit (.string b) => k (PK a b)
 | _, _ => none
def iK (T : Ty) (v : KV) : Bool :=
 match T, v with
 | .int k, .lit (.int k' _) => gK k k'
 | .bool, .lit (.bool _) => true
 | .str, .lit (.string _) => true
 | .sl ag T, .tsl _ ag' T' _ => eG ag ag' && Ty.beq T T'
 | _, _ => false
def c7 : Ty → List Ty
 | .cons a b => c7 a ++ c7 b
 | T => [T]
def aQ : List Ty → List KV → Bool
 | [], [] => true
 | T :: Ts, v :: vs => iK T v && aQ Ts vs
 | _, _ => false
def mY : List KV → List KV → (Bool → Option R) → Option R
 | [], [], k => k true
 | [a], [b], k => CZ a b k
 | a :: as, b :: bs, k => CZ a b fun q => mY as bs fun r => k (q && r)
 | _, _, _ => none
def eqTy? (t : TypeId) : Option Ty :=
 match tab t with
 | some ti => bif ti.eq then ti.ty else none
 | none => none
def L9 (t : TypeId) : Bool :=
 match tab t with
 | some ti => (match ti.tk with | .bool => true | _ => false)
 | none => false
def Kv (t : TypeId) : Bool :=
 match tab t with
 | some ti => (match ti.tk with | .ptr => true | _ => false)
 | none => false
def LH (t : TypeId) : Bool :=
 match tab t with
 | some ti => (match ti.tk with | .sl _ => true | _ => false)
 | none => false
def Ph (op : BinOp) (t : TypeId) (x y : KV) (k : KV → Option R) : Option R :=
 match x, y with
 | .tsl _ _ _ xs, .lit (.slice none 0 0) =>
  bif LH tab t then
   match op with
   | .eql => I.ite xs.isEmpty (k .unkB) (k (.lit (.bool false)))
   | .neq => I.ite xs.isEmpty (k .unkB) (k (.lit (.bool true)))
   | _ => none
  else none
 | .lit (.slice none 0 0), .lit (.slice none 0 0) =>
  bif LH tab t then
   match op with
   | .eql => k (.lit (.bool true))
   | .neq => k (.lit (.bool false))
   | _ => none
  else none
 | .lit a, .lit b => Ky I (L9 tab t) op a b fun v => k (.lit v)
 | .agg a, .agg b =>
  (match eqTy? tab t with
  | some T => bif T.flat && aQ (c7 T) a && aQ (c7 T) b then
    (match op with
    | .eql => mY a b fun r => k (.lit (.bool r))
    | .neq => mY a b fun r => k (.lit (.bool (!r)))
    | _ => none) else none
  | none => none)
 | .ptr _ _ _ _, .lit (.pointer none) | .el _ _ _ _ _, .lit (.pointer none) =>
  bif Kv tab t then
   match op with
   | .eql => k (.lit (.bool false))
   | .neq => k (.lit (.bool true))
   | _ => none
  else none
 | _, _ => none
def P9 (op : UnOp) (x : KV) (k : KV → Option R) : Option R :=
 match x with
 | .lit v =>
  match op, v with
  | .neg, .int kd n => k (.lit (.int kd (Pr kd 0 n)))
  | .xor, .int kd n => k (.lit (.int kd (PS kd n)))
  | .not, .bool b => k (.lit (.bool (!b)))
  | _, _ => none
 | _ => none
def AP (y : Nat) (x : Option Int) (d : Nat) (k : Nat → Option R) : Option R :=
 match x with
 | none => k d
 | some i => I.guard (decide (0 ≤ i) && decide (i ≤ (y : Int))) (k i.toNat)
def kL (len : Nat) (lo hi mx : Option Int) (k : Nat → Nat → Option R) : Option R :=
 bif mx.isNone || hi.isSome then AP I len mx len fun m => AP I m hi len fun h => AP I h lo 0 fun l => k l h else none
def cZ (cs : List KV) (i : Nat) : List KV → List KV
 | [] => cs
 | v :: r => cZ (vW v cs i) (i + 1) r
def Pw (t : TypeId) (mem : aD) (x : KV) (k : Int → List Nat → Option R) : Option R :=
 match tab t with
 | some ti =>
  match ti.tk with
  | .str => (match x with | .lit (.string s) => k (Pv s) [] | _ => none)
  | .sl _ =>
   match x with
   | .tsl _ _ _ xs => k (bK xs) []
   | .ms b g o n => k (n : Int) []
   | .msw b g => oJ mem b g fun x => (match x.row with | .ts _ _ _ xs => k (bK xs) [b] | .cells e cs => k (aN e cs.length : Nat) [b] | .os _ _ _ => none)
   | .lit (.slice none 0 0) => k 0 []
   | _ => none
  | _ => none
 | none => none
def Dw (tx : TypeId) (y : KV) : Bool :=
 match tab tx with
 | some ti =>
  match ti.tk, y with
  | .str, .lit (.string _) => true
  | .sl _, .lit (.string _) => false
  | .sl _, _ => true
  | _, _ => false
 | none => false
def Et (te : TI) (x y : KRow) (k : KRow → Option R) : Option R :=
 match x with
 | .ts β ag T xs =>
  (match y with
  | .ts β' ag' T' ys => bif eG ag ag' then (match o5 T' T ys with | some zs => k (.ts (β || β') ag T (xs ++ zs)) | none => none) else none
  | _ => none)
 | .os _ _ _ => none
 | .cells e xs => (match AN te y with
  | some ys => bif rH ys && Nat.beq e (o0 y) && Nat.ble 1 e then k (.cells e (xs ++ ys)) else none
  | none => none)
def rK (t : TypeId) (k : TypeId → TI → Option R) : Option R :=
 match tab t with
 | some ti => (match ti.tk with | .sl et => (match tab et with | some te => k et te | none => none) | _ => none)
 | none => none
def Gq (boxed : Bool) (rs : Nat) (row : KRow) (rd : List Nat) (wr : List (Nat × dD)) (k : aZ → Option R) : Option R :=
 bif boxed then (bif gX row then none else k ⟨.msw rs 0, rd, wr ++ [(rs, ⟨0, false, row⟩)], []⟩) else
 match row with
 | .ts β ag T xs => k ⟨.tsl (Aa β ag T) ag T xs, rd, wr, []⟩
 | _ => none
def AZ (row : KRow) (k : Option R) : Option R := I.guard (Nat.ble (fV row) bD) k
def HJ (boxed vars : Bool) (t tx : TypeId) (mem : aD) (rs : Nat) (x y : KV) (k : aZ → Option R) : Option R :=
 rK tab t fun et te => I7 I tab et mem y fun yr yrd =>
 bif Nat.beq te.n (o0 yr) && Dw tab tx y && Nat.ble te.bytes 4096 && Nat.ble 1 te.n && Nat.beq te.zero.length te.n then
  match x with
  | .lit (.slice none 0 0) =>
   AZ I yr <|
   bif boxed then
    bif vars then (match AN te yr with
     | some ys => bif Nat.ble 1 (fV yr) && rH ys then k ⟨.msw rs 0, yrd, [(rs, ⟨0, false, .cells (o0 yr) ys⟩)], []⟩ else none
     | none => none)
    else (match yr with | .ts _ _ _ _ => k ⟨.msw rs 0, yrd, [(rs, ⟨0, false, yr⟩)], []⟩ | _ => none)
   else (match yr with | .ts β ag T xs => k ⟨.tsl (Aa β ag T) ag T xs, yrd, [], []⟩ | _ => none)
  | .msw b g => oJ mem b g fun bx => Et te bx.row yr fun z =>
   bif !bx.frz && Nat.beq te.n (o0 bx.row) then AZ I z (k ⟨.msw b (g + 1), b :: yrd, [(b, ⟨g + 1, false, z⟩)], []⟩) else none
  | .ms b g o n => I.guard (Nat.beq o 0) (oJ mem b g fun bx => BG I 0 n bx.row fun xr => Et te xr yr fun z =>
   bif !bx.frz && Nat.beq te.n (o0 bx.row) then AZ I z (k ⟨.msw b (g + 1), b :: yrd, [(b, ⟨g + 1, false, z⟩)], []⟩) else none)
  | _ => none
 else none
def Lc (t : TypeId) (mem : aD) (x : KV) (i : Int) (k : aZ → Option R) : Option R :=
 match tab t with
 | some ti =>
  match ti.tk with
  | .sl et =>
   (match tab et with
   | some te =>
    match x with
    | .tsl β ag T xs => bif Nat.beq te.n T.size then I.get xs i fun v => k (f8 (.el β ag T v 0)) else none
    | .ms b g o n => oJ mem b g fun bx => bif Nat.beq te.n (o0 bx.row) then I.guard (decide (0 ≤ i) && decide (i < (n : Int))) (k ⟨.ptr b g (o + i.toNat) 0, [b], [], []⟩) else none
    | .msw b g => oJ mem b g fun bx => bif Nat.beq te.n (o0 bx.row) then I.guard (decide (0 ≤ i) && decide (i < (fV bx.row : Int))) (k ⟨.ptr b g i.toNat 0, [b], [], []⟩) else none
    | _ => none
   | none => none)
  | .arr n e =>
   (match tab e with
   | some te =>
    match x with
    | .ptr b g j c => I.guard (decide (0 ≤ i) && decide (i < (n : Int))) (k (f8 (.ptr b g j (c + i.toNat * te.n))))
    | _ => none
   | none => none)
  | _ => none
 | none => none
def Dc (ti : TI) (cs : List KV) (k : KV → Option R) : Option R :=
 match ti.ty with
 | some T => bif aQ (c7 T) cs then (bif ti.ag then k (.agg cs) else match cs with | [v] => k v | _ => none) else none
 | none => none
def N6 (sE : Nat) : List KV → Nat → (KV → Option R) → Option R
 | [], _, _ => none
 | v :: r, j, k => I.ite (Nat.beq sE j) (k v) (N6 sE r (j + 1) k)
def Da (sE : Nat) (v : KV) (cs : List KV) : List KV → Nat → (List KV → Option R) → Option R
 | [], _, _ => none
 | _ :: r, j, k => I.ite (Nat.beq sE j) (k (vW v cs j)) (Da sE v cs r (j + 1) k)
def Ls (t : TypeId) (mem : aD) (a : KV) (k : aZ → Option R) : Option R :=
 match tab t with
 | some ti =>
  match a with
  | .el β ag T x c => Dc ti ((((cellsOf β T x)).drop c).take ti.n) fun v => k (f8 v)
  | .ptr b g i c => oJ mem b g fun bx =>
   (match bx.row with
   | .cells e cs => bif ti.ag then bif Nat.ble (i * e + c + ti.n) cs.length then k ⟨.agg ((cs.drop (i * e + c)).take ti.n), [b], [], []⟩ else none
     else N6 I (i * e + c) cs 0 fun v => k ⟨v, [b], [], []⟩
   | .ts β ag T xs => bif ti.ag && aY ag T then none else I.getN xs i fun x => Dc ti (((cellsOf β T x).drop c).take ti.n) fun v => k ⟨v, [b], [], []⟩
   | .os _ _ _ => none)
  | _ => none
 | none => none
def Lk (t : TypeId) (mem : aD) (a x : KV) (k : aZ → Option R) : Option R :=
 match tab t with
 | some ti =>
  match a with
  | .ptr b g i c => oJ mem b g fun bx => bif !bx.frz && Nat.beq x.cells.length ti.n then
   (match bx.row with
   | .cells e cs => bif Nat.beq ti.n 1 then (match x.cells with
     | [v] => bif NQ v then Da I (i * e + c) v cs cs 0 fun cs' => k ⟨.lit undef, [b], [(b, ⟨bx.gen, bx.frz, .cells e cs'⟩)], []⟩ else none
     | _ => none)
    else bif Nat.ble (i * e + c + ti.n) cs.length && rH x.cells then k ⟨.lit undef, [b], [(b, ⟨bx.gen, bx.frz, .cells e (cZ cs (i * e + c) x.cells)⟩)], []⟩ else none
   | .ts β ag T xs => bif aY ag T then
     (match x with
     | .lit (.int kd v) => bif Nat.beq c 0 && Nat.beq ti.n 1 then
       (match GA (F := den) (a := .int kd) (b := T) (Ty.beq (.int kd) T) rfl v with
       | some z => I.guard (Nat.ble (i + 1) xs.length) (k ⟨.lit undef, [b], [(b, ⟨bx.gen, bx.frz, .ts β ag T (xs.set i z)⟩)], []⟩)
       | none => none) else none
     | _ => none)
    else bif Nat.ble (c + ti.n) T.size then
     (match ti.ty with
     | some T' => L5 I mem ti.ag T' x fun y β' l => bif eZ b l then none else
       bif Nat.beq c 0 && Nat.beq ti.n T.size then
        (match (bif eG ti.ag ag then GA (F := den) (Ty.beq T' T) rfl y else none) with
        | some z => I.guard (Nat.ble (i + 1) xs.length) (k ⟨.lit undef, b :: l, lT mem l ++ [(b, ⟨bx.gen, bx.frz, .ts (β || β') ag T (xs.set i z)⟩)], []⟩)
        | none => none)
       else I.getN xs i fun p => eT I mem T (cZ (cellsOf false T p) c (cellsOf false T' y)) fun z _ _ =>
        k ⟨.lit undef, b :: l, lT mem l ++ [(b, ⟨bx.gen, bx.frz, .ts (β || β') ag T (xs.set i z)⟩)], []⟩
     | none => none)
    else none
   | .os _ _ _ => none)
   else none
  | _ => none
 | none => none
def K5 (t : TypeId) (mem : aD) (x : KV) (lo hi mx : Option Int) (k : aZ → Option R) : Option R :=
 match tab t with
 | some ti =>
  match ti.tk with
  | .str => (match x with | .lit (.string s) => bif mx.isNone then kL I s.size lo hi none fun l h => k (f8 (.lit (.string (s.extract l h)))) else none | _ => none)
  | .sl et =>
   (match tab et with
   | some te =>
    match x with
    | .tsl β ag T xs => bif Nat.beq te.n T.size then kL I xs.length lo hi mx fun l h => k (f8 (.tsl β ag T ((xs.take h).drop l))) else none
    | .ms b g o n => oJ mem b g fun bx => bif Nat.beq te.n (o0 bx.row) then kL I n lo hi mx fun l h => k ⟨.ms b g (o + l) (h - l), [b], [], []⟩ else none
    | .msw b g => oJ mem b g fun bx => bif Nat.beq te.n (o0 bx.row) then kL I (fV bx.row) lo hi mx fun l h => k ⟨.ms b g l (h - l), [b], [], []⟩ else none
    | .lit (.slice none 0 0) => kL I 0 lo hi mx fun _ _ => k (f8 (.lit (.slice none 0 0)))
    | _ => none
   | none => none)
  | .arr n e =>
   (match tab e with
   | some te =>
    match x with
    | .ptr b g i c => bif Nat.beq i 0 && Nat.beq te.n 1 then oJ mem b g fun bx =>
      (match bx.row with
      | .cells e' cs => bif Nat.beq e' 1 && Nat.ble (c + n) cs.length then kL I n lo hi mx fun l h => k ⟨.ms b g (c + l) (h - l), [b], [], []⟩ else none
      | _ => none) else none
    | _ => none
   | none => none)
  | _ => none
 | none => none
def Ij (s : TypeId) (f : Nat) (k : Nat → Nat → TypeId → Option R) : Option R :=
 match tab s with
 | some ti => (match ti.tk with | .st fs => (match dZ fs f with | some q => bif Nat.ble 1 q.2.1 then k q.1 q.2.1 q.2.2 else none | none => none) | _ => none)
 | none => none
def Ce (place : Nat → Option (Nat × Nat)) (cs : List KV) : List (Nat × KV) → Option (List KV)
 | [] => some cs
 | (i, v) :: r => match place i with
  | some q => bif Nat.beq v.cells.length q.2 && Nat.ble (q.1 + q.2) cs.length then Ce place (cZ cs q.1 v.cells) r else none
  | none => none
def pH (vs : List KV) : List (Nat × KV) → List KV
 | [] => vs
 | (i, v) :: r => pH (vW v vs i) r
def vL (n : Nat) : List (Nat × KV) → Bool
 | [] => true
 | (i, _) :: r => Nat.ble (i + 1) n && vL n r
def eN (ti : TI) : KV := bif ti.ag then .agg (ti.zero.map .lit) else match ti.zero with | [v] => .lit v | _ => .gone
def sY (f : Int → Int → Int) (kd : IntKind) : List KV → Int → Option Int
 | [], a => some a
 | .lit (.int k' b) :: r, a => bif gK kd k' then sY f kd r (f a b) else none
 | _, _ => none
mutual
def KV.refs : KV → List Nat
 | .ptr b _ _ _ => [b]
 | .ms b _ _ _ => [b]
 | .msw b _ => [b]
 | .fn _ fi ca => KV.refsAll fi ++ KV.refsAll ca
 | .agg cs => KV.refsAll cs
 | .tup vs => KV.refsAll vs
 | .lit _ => []
 | .tsl _ _ _ _ => []
 | .el _ _ _ _ _ => []
 | .dead => []
 | .gone => []
 | .unkB => []
def KV.refsAll : List KV → List Nat
 | [] => []
 | v :: r => v.refs ++ KV.refsAll r
end
def v9 : List (Nat × Nat × KV) → List Nat
 | [] => []
 | (_, _, v) :: r => v.refs ++ v9 r
def KRow.refs : KRow → List Nat
 | .cells _ cs => KV.refsAll cs
 | .ts _ _ _ _ => []
 | .os _ _ hs => v9 hs
def Hn (mem : aD) (b : Nat) : List Nat :=
 match dZ mem b with
 | some (some x) => x.row.refs
 | _ => []
def sS (mem : aD) : Nat → List Nat → List Nat → List Nat
 | 0, _, seen => seen
 | _, [], seen => seen
 | n + 1, b :: todo, seen => bif eZ b seen then sS mem n todo seen else sS mem n (todo ++ Hn mem b) (seen ++ [b])
def sF (mem : aD) (b : Nat) : Option Nat :=
 match dZ mem b with
 | some (some x) => some x.gen
 | _ => none
mutual
def KV.ren (f : jV) : KV → KV
 | .ptr b g i c => match f b g with | some q => .ptr q.1 q.2 i c | none => .dead
 | .ms b g o n => match f b g with | some q => .ms q.1 q.2 o n | none => .dead
 | .msw b g => match f b g with | some q => .msw q.1 q.2 | none => .dead
 | .fn h fi ca => .fn h (KV.renAll f fi) (KV.renAll f ca)
 | .agg cs => .agg (KV.renAll f cs)
 | .tup vs => .tup (KV.renAll f vs)
 | .lit v => .lit v
 | .tsl β ag T xs => .tsl β ag T xs
 | .el β ag T x c => .el β ag T x c
 | .dead => .dead
 | .gone => .gone
 | .unkB => .unkB
def KV.renAll (f : jV) : List KV → List KV
 | [] => []
 | v :: r => v.ren f :: KV.renAll f r
end
def Ao (f : jV) : List (Nat × Nat × KV) → List (Nat × Nat × KV)
 | [] => []
 | (i, c, v) :: r => (i, c, v.ren f) :: Ao f r
def KRow.ren (f : jV) : KRow → KRow
 | .cells e cs => .cells e (KV.renAll f cs)
 | .ts β ag T xs => .ts β ag T xs
 | .os T xs hs => .os T xs (Ao f hs)
def El (mem : aD) (b : Nat) : Bool :=
 match dZ mem b with
 | some (some x) => iP x.row
 | _ => false
def mM (m : Nat) (keep : Bool) (mem : aD) (ids : List Nat) : jV := fun b g =>
 match sF mem b with
 | some h => bif Nat.beq h g then (match sE b ids 0 with | some j => some (j, fI m keep (El mem b) j h) | none => none) else none
 | none => none
def o8 (m : Nat) (keep : Bool) (f : jV) (mem : aD) : Nat → List Nat → aD
 | _, [] => []
 | j, b :: r => (match dZ mem b with
  | some (some x) => some ⟨fI m keep (iP x.row) j x.gen, x.frz, x.row.ren f⟩
  | _ => none) :: o8 m keep f mem (j + 1) r
def jU (mem : aD) (n : Nat) : Nat := (mem.length + 1) * (mem.length + 1) + n
def e9 : aD → List (Option Bool)
 | [] => []
 | some x :: r => some (iP x.row) :: e9 r
 | none :: r => none :: e9 r
def Fz : List (Option Bool) → aD → Bool
 | [], _ => true
 | some k :: r, some x :: m => (bif k then iP x.row && Nat.beq x.gen 0 else !(iP x.row)) && Fz r m
 | none :: r, none :: m => Fz r m
 | _, _ => false
def h8 : aD → List Nat
 | [] => []
 | some x :: r => x.row.refs ++ h8 r
 | none :: r => h8 r
def NW : KV → Option (Nat × Nat)
 | .msw b g => some (b, g)
 | .ms b g _ _ => some (b, g)
 | _ => none
def Jz (m : Nat) (refs : List Nat) (mem : aD) (v : KV) : Bool :=
 match NW v with
 | some q => Nat.ble m q.1 && Nat.beq (cS q.1 refs) 1 && (match dZ mem q.1 with
  | some (some x) => Nat.beq x.gen q.2 && !x.frz && (match x.row with | .ts β ag T _ => !(Aa β ag T) | _ => false)
  | _ => false)
 | none => false
def lK (c : Nat) : List (Nat × Nat × KV) → Option (Nat × KV)
 | [] => none
 | (i, c', v) :: r => bif Nat.beq c c' then some (i, v) else lK c r
def Iv {α : Type} : Option α → Bool
 | none => true
 | some _ => false
def pT (m : Nat) (refs : List Nat) (mem : aD) (all : List (Nat × Nat × KV)) : List (Nat × Nat × KV) → Nat → Option Nat
 | [], _ => none
 | (_, c, v) :: r, k => bif Jz m refs mem v && Iv (lK c (cR all k)) then some k else pT m refs mem all r (k + 1)
def oW (m : Nat) (refs : List Nat) (mem : aD) : aD → Nat → Option (Nat × Nat)
 | [], _ => none
 | none :: r, b => oW m refs mem r (b + 1)
 | some x :: r, b => match x.row with
  | .os _ _ hs => (match pT m refs mem hs hs 0 with
   | some k => some (b, k)
   | none => oW m refs mem r (b + 1))
  | _ => oW m refs mem r (b + 1)
def FC (mem : aD) (v : KV) (k : Nat → KRow → Option R) : Option R :=
 match v with
 | .msw b g => oJ mem b g fun x => bif x.frz then none else k b x.row
 | .ms b g o n => I.guard (Nat.beq o 0) (oJ mem b g fun x => bif x.frz then none else
   (match x.row with
   | .ts β ag T xs => I.guard (Nat.ble n xs.length) (k b (.ts β ag T (xs.take n)))
   | _ => none))
 | _ => none
def BM (mem : aD) (b j : Nat) (k : aD → Option R) : Option R :=
 match dZ mem b with
 | some (some x) => (match x.row with
  | .os T xs hs => (match dZ hs j with
   | some h => FC I mem h.2.2 fun b' row => (match row with
    | .ts β ag' T' ys => bif !(Aa β ag' T') && !(Nat.beq b' b) && Iv (lK h.2.1 (cR hs j)) then
      I.getN xs h.1 fun p => (match dZ (cellsOf false T p) h.2.1 with
       | some (.tsl _ ag'' T'' _) => bif eG ag'' ag' && Ty.beq T'' T' then
         eT I mem T (cZ (cellsOf false T p) h.2.1 [.tsl false ag' T' ys]) fun z _ _ => k (vW none (vW (some ⟨x.gen, x.frz, .os T (xs.set h.1 z) (cR hs j)⟩) mem b) b') else none
       | _ => none)
     else none
    | _ => none)
   | none => none)
  | _ => none)
 | _ => none
def Av (m : Nat) (vs : List KV) : Nat → aD → (aD → Option R) → Option R
 | 0, mem, k => k mem
 | n + 1, mem, k => match oW m (KV.refsAll vs ++ h8 mem) mem mem 0 with
  | none => k mem
  | some q => BM I mem q.1 q.2 fun mem' => Av m vs n mem' k
def HU (mem : aD) (b : Nat) : Bool :=
 match dZ mem b with
 | some (some _) => true
 | _ => false
def C8 (m : Nat) (vs : List KV) : Nat → aD → aD
 | 0, mem => mem
 | b + 1, mem => C8 m vs b (bif Nat.ble m b && HU mem b && Nat.beq (cS b (KV.refsAll vs ++ h8 mem)) 0 then vW none mem b else mem)
def Kq (m : Nat) (vs : List KV) (mem : aD) (k : aD → Option R) : Option R := Av I m vs 64 (C8 m vs mem.length mem) k
def BF (keep : Bool) (old : List (Option Bool)) (vs : List KV) (mem0 : aD) (k : List KV → aD → Option R) : Option R :=
 Kq I old.length vs mem0 fun mem =>
 let ids := sS mem (jU mem (old.length + (KV.refsAll vs).length)) (oA 0 old.length ++ KV.refsAll vs) []
 bif Fz old mem && dQ ids && wD 0 old.length ids then k (KV.renAll (mM old.length keep mem ids) vs) (o8 old.length keep (mM old.length keep mem ids) mem 0 ids) else none
def KV.frz (m : Nat) (mem : aD) : KV → KV
 | .msw b g => bif Nat.ble m b then
   (match dZ mem b with
   | some (some x) => bif Nat.beq x.gen g then (match x.row with
    | .ts β ag T xs => .tsl (Aa β ag T) ag T xs
    | _ => .msw b g) else .msw b g
   | _ => .msw b g)
  else .msw b g
 | v => v
def KV.frzAll (m : Nat) (mem : aD) : List KV → List KV
 | [] => []
 | v :: r => v.frz m mem :: KV.frzAll m mem r
def wH (m : Nat) (mem : aD) : KV → KV
 | .tup vs => .tup (KV.frzAll m mem vs)
 | .agg vs => .agg (KV.frzAll m mem vs)
 | v => v.frz m mem
mutual
def KV.lent : KV → Bool
 | .tsl β _ _ _ => β
 | .el β _ _ _ _ => β
 | .fn _ fi ca => KV.lentAny fi || KV.lentAny ca
 | .agg cs => KV.lentAny cs
 | .tup vs => KV.lentAny vs
 | .lit _ => false
 | .ptr _ _ _ _ => false
 | .ms _ _ _ _ => false
 | .msw _ _ => false
 | .dead => false
 | .gone => true
 | .unkB => true
def KV.lentAny : List KV → Bool
 | [] => false
 | v :: r => v.lent || KV.lentAny r
end
def wL : List (Nat × Nat × KV) → Bool
 | [] => false
 | (_, _, v) :: r => v.lent || wL r
def sV : aD → Bool
 | [] => false
 | some x :: r => (match x.row with | .cells _ cs => KV.lentAny cs | .ts β ag T _ => Aa β ag T | .os _ _ hs => wL hs) || sV r
 | none :: r => sV r
def BD (mem : aD) (b : Nat) : Bool :=
 match dZ mem b with
 | some (some x) => gX x.row
 | _ => false
def x9 (mem : aD) : KV → Bool
 | .msw b _ => BD mem b
 | .ms b _ _ _ => BD mem b
 | _ => false
def LI (mem : aD) : KV → Bool
 | .msw b _ => BD mem b
 | _ => false
def Ey (mem : aD) : KV → Bool
 | .ptr b _ _ _ => BD mem b
 | _ => false
def Eb (c : Nat) : List (Nat × Nat × KV) → List (Nat × Nat × KV)
 | [] => []
 | (i, c', v) :: r => bif Nat.beq c c' then r else (i, c', v) :: Eb c r
abbrev c5 := List (Nat × Nat × KV)
def A1 (tk : Bool) (i c : Nat) (v : KV) (hs : c5) (nb : Nat) (k : KV → c5 → List KRow → Option R) : Option R :=
 match lK c hs with
 | some h => I.guard (Nat.beq i h.1) (k h.2 hs [])
 | none => match v with
  | .lit u => k (.lit u) hs []
  | .tsl _ ag T ys => bif tk then k (.msw nb 0) ((i, c, .msw nb 0) :: hs) [.ts false ag T ys] else none
  | _ => none
def C1 (tk : Bool) (i : Nat) : List KV → Nat → c5 → Nat → (List KV → c5 → List KRow → Option R) → Option R
 | [], _, hs, _, k => k [] hs []
 | v :: vs, c, hs, nb, k => A1 I tk i c v hs nb fun a hs1 rows => C1 tk i vs (c + 1) hs1 (nb + rows.length) fun as hs2 rows2 => k (a :: as) hs2 (rows ++ rows2)
def oO : List KRow → aD
 | [] => []
 | r :: rs => some ⟨0, false, r⟩ :: oO rs
def Lo (b : Nat) (bx : dD) (T : Ty) (xs : List (den T)) (v : KV) (hs : c5) : List KRow → aZ
 | [] => ⟨v, [b], [], []⟩
 | r :: rs => ⟨v, [b], [(b, ⟨bx.gen, bx.frz, .os T xs hs⟩)], oO (r :: rs)⟩
def Kx (tk : Bool) (t : TypeId) (mem : aD) (a : KV) (k : aZ → Option R) : Option R :=
 match tab t with
 | some ti => (match a with
  | .ptr b g i c => rF mem b g fun bx => (match bx.row with
   | .os T xs hs => (match ti.ty with
    | some T' => I.getN xs i fun x => bif aQ (c7 T') (((cellsOf true T x).drop c).take ti.n) then
      C1 I tk i (((cellsOf true T x).drop c).take ti.n) c hs mem.length fun vs hs' rows =>
       bif ti.ag then k (Lo b bx T xs (.agg vs) hs' rows) else (match vs with | [v] => k (Lo b bx T xs v hs' rows) | _ => none)
     else none
    | none => none)
   | _ => none)
  | _ => none)
 | none => none
def Ek (i c : Nat) (hs : c5) (k : c5 → Option R) : Option R :=
 match lK c hs with
 | none => k hs
 | some h => bif Iv (lK c (Eb c hs)) then I.guard (Nat.beq i h.1) (k (Eb c hs)) else none
def G8 (t : TypeId) (mem : aD) (a x : KV) (k : aZ → Option R) : Option R :=
 match tab t with
 | some ti => (match a with
  | .ptr b g i c => rF mem b g fun bx => (match bx.row with
   | .os T xs hs => bif Nat.beq ti.n 1 && !bx.frz && NQ x then I.getN xs i fun p => (match dZ (cellsOf false T p) c with
     | some (.lit u) => (match x with
      | .lit v => bif De u v && Iv (lK c hs) then eT I mem T (cZ (cellsOf false T p) c [.lit v]) fun z _ _ => k ⟨.lit undef, [b], [(b, ⟨bx.gen, bx.frz, .os T (xs.set i z) hs⟩)], []⟩ else none
      | _ => none)
     | some (.tsl _ ag' T' _) => (match x with
      | .lit (.slice none 0 0) => Ek I i c hs fun hs' => eT I mem T (cZ (cellsOf false T p) c [.tsl false ag' T' []]) fun z _ _ => k ⟨.lit undef, [b], [(b, ⟨bx.gen, bx.frz, .os T (xs.set i z) hs'⟩)], []⟩
      | .msw b2 g2 => Ek I i c hs fun hs' => k ⟨.lit undef, [b], [(b, ⟨bx.gen, bx.frz, .os T xs ((i, c, .msw b2 g2) :: hs')⟩)], []⟩
      | .ms b2 g2 o2 n2 => Ek I i c hs fun hs' => k ⟨.lit undef, [b], [(b, ⟨bx.gen, bx.frz, .os T xs ((i, c, .ms b2 g2 o2 n2) :: hs')⟩)], []⟩
      | _ => none)
     | _ => none) else none
   | _ => none)
  | _ => none)
 | none => none
def Nt (t : TypeId) (mem : aD) (x : KV) (k : aZ → Option R) : Option R :=
 match tab t with
 | some ti => (match ti.tk, x with
  | .sl _, .msw b g => rF mem b g fun bx => (match bx.row with
   | .os _ xs _ => k ⟨.lit (.int .i64 (bK xs)), [b], [], []⟩
   | _ => none)
  | _, _ => none)
 | none => none
def He (t : TypeId) (mem : aD) (x : KV) (i : Int) (k : aZ → Option R) : Option R :=
 rK tab t fun et te =>
  match x with
  | .ms b g o n => rF mem b g fun bx => bif Nat.beq te.n (o0 bx.row) then I.guard (decide (0 ≤ i) && decide (i < (n : Int))) (k ⟨.ptr b g (o + i.toNat) 0, [b], [], []⟩) else none
  | .msw b g => rF mem b g fun bx => bif Nat.beq te.n (o0 bx.row) then I.guard (decide (0 ≤ i) && decide (i < (fV bx.row : Int))) (k ⟨.ptr b g i.toNat 0, [b], [], []⟩) else none
  | _ => none
def Hv (t : TypeId) (mem : aD) (x : KV) (lo hi mx : Option Int) (k : aZ → Option R) : Option R :=
 rK tab t fun et te =>
  match x with
  | .ms b g o n => rF mem b g fun bx => bif Nat.beq te.n (o0 bx.row) then kL I n lo hi mx fun l h => k ⟨.ms b g (o + l) (h - l), [b], [], []⟩ else none
  | .msw b g => rF mem b g fun bx => bif Nat.beq te.n (o0 bx.row) then kL I (fV bx.row) lo hi mx fun l h => k ⟨.ms b g l (h - l), [b], [], []⟩ else none
  | _ => none
def Ks (T : Ty) (v : KV) (j c : Nat) : Option (KV × c5) :=
 match T, v with
 | .int k, .lit (.int k' x) => bif gK k k' then some (.lit (.int k' x), []) else none
 | .bool, .lit (.bool b) => some (.lit (.bool b), [])
 | .str, .lit (.string s) => some (.lit (.string s), [])
 | .sl ag T, .lit (.slice none 0 0) => some (.tsl false ag T [], [])
 | .sl ag T, .msw b g => some (.tsl false ag T [], [(j, c, .msw b g)])
 | .sl ag T, .ms b g o n => some (.tsl false ag T [], [(j, c, .ms b g o n)])
 | _, _ => none
def Nx : List Ty → List KV → Nat → Nat → Option (List KV × c5)
 | [], [], _, _ => some ([], [])
 | T :: Ts, v :: vs, j, c => (match Ks T v j c with
  | some a => (match Nx Ts vs j (c + 1) with
   | some q => some (a.1 :: q.1, a.2 ++ q.2)
   | none => none)
  | none => none)
 | _, _, _, _ => none
def Ff (T : Ty) : List (List KV) → Nat → (List (den T) → c5 → Option R) → Option R
 | [], _, k => k [] []
 | cs :: r, j, k => (match Nx (c7 T) cs j 0 with
  | some a => eT I [] T a.1 fun x _ _ => Ff T r (j + 1) fun xs hs => k (x :: xs) (a.2 ++ hs)
  | none => none)
def vM (n : Nat) : c5 → Option R → Option R
 | [], k => k
 | h :: r, k => I.guard (Nat.blt h.1 n) (vM n r k)
def FT (own : Bool) (t tx : TypeId) (mem : aD) (rs : Nat) (x y : KV) (k : aZ → Option R) : Option R :=
 rK tab t fun et te => I7 I tab et mem y fun yr yrd =>
 match yr with
 | .cells e cs => (match te.ty with
  | some T => bif Nat.beq te.n e && Dw tab tx y && Nat.ble te.bytes 4096 && Nat.ble 1 te.n && Nat.beq te.zero.length te.n && rH cs && eG te.ag (eY T) then
   (match x with
   | .lit (.slice none 0 0) => bif own then Ff I T (chunks te.n (aN te.n cs.length) cs) 0 fun zs hs =>
     I.guard (Nat.ble 1 zs.length && Nat.ble zs.length bD) (k ⟨.msw rs 0, yrd, [(rs, ⟨0, false, .os T zs hs⟩)], []⟩) else none
   | .msw b g => rF mem b g fun bx => (match bx.row with
    | .os T' xs hs => Ff I T (chunks te.n (aN te.n cs.length) cs) xs.length fun zs hs' => (match o5 T T' zs with
     | some ys => bif !bx.frz && Ty.beq T T' then vM I xs.length hs (I.guard (Nat.ble (xs ++ ys).length bD) (k ⟨.msw b (g + 1), b :: yrd, [(b, ⟨g + 1, false, .os T' (xs ++ ys) (hs ++ hs')⟩)], []⟩)) else none
     | none => none)
    | _ => none)
   | .ms b g o n => I.guard (Nat.beq o 0) (rF mem b g fun bx => (match bx.row with
    | .os T' xs hs => Ff I T (chunks te.n (aN te.n cs.length) cs) n fun zs hs' => (match o5 T T' zs with
     | some ys => bif !bx.frz && Ty.beq T T' then I.guard (Nat.ble n xs.length) (vM I n hs (I.guard (Nat.ble (xs.take n ++ ys).length bD) (k ⟨.msw b (g + 1), b :: yrd, [(b, ⟨g + 1, false, .os T' (xs.take n ++ ys) (hs ++ hs')⟩)], []⟩))) else none
     | none => none)
    | _ => none))
   | _ => none)
   else none
  | none => none)
 | _ => none
end
end
end Go.Ab
