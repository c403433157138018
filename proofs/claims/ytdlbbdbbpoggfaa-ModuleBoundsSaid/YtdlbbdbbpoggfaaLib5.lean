import Derived.Test.YtdlbbdbbpoggfaaLib1
set_option linter.unusedVariables false
namespace Go.Ab
noncomputable section
inductive Ty where
 | int (k : IntKind)
 | bool
 | str
 | sl (ag : Bool) (T : Ty)
 | cons (a b : Ty)
def FZ : Bool → Bool → Bool
 | true, b => b
 | false, _ => false
theorem nQ (a b : Bool) : FZ a b = (a && b) := by cases a <;> rfl
def den (T : Ty) : Type := Ty.rec (fun _ => Int) Bool ByteArray (fun _ _ ih => List ih) (fun _ _ a b => a × b) T
def Ty.size (T : Ty) : Nat := Ty.rec (fun _ => 1) 1 1 (fun _ _ _ => 1) (fun _ _ a b => a + b) T
def Ty.flat (T : Ty) : Bool := Ty.rec (fun _ => true) true true (fun _ _ _ => false) (fun _ _ a b => FZ a b) T
def eE : Bool → Bool → Bool
 | true, b => b
 | false, b => !b
def Ty.beq : Ty → Ty → Bool
 | .int k, .int k' => gK k k'
 | .bool, .bool => true
 | .str, .str => true
 | .sl g T, .sl g' T' => FZ (eE g g') (Ty.beq T T')
 | .cons a b, .cons a' b' => FZ (Ty.beq a a') (Ty.beq b b')
 | _, _ => false
theorem Pg {a b : IntKind} (h : gK a b = true) : a = b := by cases a <;> cases b <;> first | rfl | cases h
theorem fW {a b : Bool} (h : eE a b = true) : a = b := by cases a <;> cases b <;> first | rfl | cases h
theorem Ty.eq_of_beq : ∀ {a b : Ty}, Ty.beq a b = true → a = b
 | .int _, .int _, h => by rw [Pg h]
 | .bool, .bool, _ => rfl
 | .str, .str, _ => rfl
 | .sl g T, .sl g' T', h => by
  simp only [Ty.beq, nQ, yb] at h
  rw [fW h.1, Ty.eq_of_beq h.2]
 | .cons a b, .cons a' b', h => by
  simp only [Ty.beq, nQ, yb] at h
  rw [Ty.eq_of_beq h.1, Ty.eq_of_beq h.2]
 | .int _, .bool, h | .int _, .str, h | .int _, .sl _ _, h | .int _, .cons _ _, h => by cases h
 | .bool, .int _, h | .bool, .str, h | .bool, .sl _ _, h | .bool, .cons _ _, h => by cases h
 | .str, .int _, h | .str, .bool, h | .str, .sl _ _, h | .str, .cons _ _, h => by cases h
 | .sl _ _, .int _, h | .sl _ _, .bool, h | .sl _ _, .str, h | .sl _ _, .cons _ _, h => by cases h
 | .cons _ _, .int _, h | .cons _ _, .bool, h | .cons _ _, .str, h | .cons _ _, .sl _ _, h => by cases h
def Gy {F : Ty → Type} {a b : Ty} (c : Bool) (h : Ty.beq a b = c) (x : F a) : Option (F b) :=
 match c, h with
 | true, h => some (Ty.eq_of_beq h ▸ x)
 | false, _ => none
def o6 (a b : Ty) (xs : List (den a)) : Option (List (den b)) := Gy (F := fun T => List (den T)) (Ty.beq a b) rfl xs
inductive KV where
 | lit (v : Value)
 | tsl (β ag : Bool) (T : Ty) (xs : List (den T))
 | el (β ag : Bool) (T : Ty) (x : den T) (c : Nat)
 | ptr (b g i c : Nat)
 | ms (b g o n : Nat)
 | msw (b g : Nat)
 | fn (f : Fn) (first cap : List KV)
 | agg (cs : List KV)
 | tup (vs : List KV)
 | dead
 | gone
 | unkB
inductive KRow where
 | ts (β ag : Bool) (T : Ty) (xs : List (den T))
 | cells (e : Nat) (cs : List KV)
 | os (T : Ty) (xs : List (den T)) (hs : List (Nat × Nat × KV))
structure dE where
 gen : Nat
 frz : Bool
 row : KRow
abbrev aD := List (Option dE)
structure w9 where
 env : Nat → KV
 mem : aD
structure aZ where
 v : KV
 rd : List Nat
 wr : List (Nat × dE)
 push : aD
inductive Jk where
 | normal | exit (id : Nat) | ret
def aY : Bool → Ty → Bool
 | false, .int _ => true
 | _, _ => false
structure PM (R : Type) where
 ite : Bool → Option R → Option R → Option R
 guard : Bool → Option R → Option R
 get : {α : Type} → List α → Int → (α → Option R) → Option R
 getN : {α : Type} → List α → Nat → (α → Option R) → Option R
 bind : {α : Type} → Option α → (α → Option R) → Option R
 sum : {α β : Type} → α ⊕ β → (α → Option R) → (β → Option R) → Option R
 loop : Nat → w9 → (Jk → w9 → Option R) → Option R
 ask : FuncId → List KV → aD → (KV → aD → Option R) → Option R
 amb : Option R → Option R → Option R
def aP (R : Type) : PM R := { ite := fun c a b => cond c a b, guard := fun c a => cond c a none, get := fun xs i k => (eC xs i).bind k, getN := fun xs i k => (xs[i]?).bind k, bind := fun x k => x.bind k, sum := fun x f g => Sum.rec f g x, loop := fun _ _ _ => none, ask := fun _ _ _ _ => none, amb := fun a b => Go.Ab.amb a b }
def eW : Ty → Bool
 | .sl _ _ => false
 | _ => true
def gV : KRow → Bool
 | .os _ _ _ => true
 | _ => false
def AE (β ag : Bool) (T : Ty) : Bool :=
 match T with
 | .int _ => bif ag then β else false
 | _ => β
def dN (k : IntKind) (a b : Int) : Int := k.wrap (a + b)
def Pb (k : IntKind) (a b : Int) : Int := k.wrap (a - b)
def r6 (k : IntKind) (a b : Int) : Int := k.wrap (a * b)
def P4 (k : IntKind) (a b : Int) : Int := k.wrap (a.tdiv b)
def b5 (a b : Int) : Int := a.tmod b
def Hr (k : IntKind) (a b : Int) : Int := k.wrap (a * 2 ^ (min b.toNat k.bits))
def NF (k : IntKind) (a b : Int) : Int := a.fdiv (2 ^ (min b.toNat k.bits))
def PH (k : IntKind) (a b : Int) : Int := k.wrap (BitVec.ofInt k.bits a &&& BitVec.ofInt k.bits b).toNat
def JL (k : IntKind) (a b : Int) : Int := k.wrap (BitVec.ofInt k.bits a ||| BitVec.ofInt k.bits b).toNat
def Pf (k : IntKind) (a b : Int) : Int := k.wrap (BitVec.ofInt k.bits a ^^^ BitVec.ofInt k.bits b).toNat
def l3 (k : IntKind) (a b : Int) : Int := k.wrap (BitVec.ofInt k.bits a &&& ~~~BitVec.ofInt k.bits b).toNat
def PS (k : IntKind) (n : Int) : Int := k.wrap (BitVec.ofInt k.bits (if k.signed then -1 else k.max) ^^^ BitVec.ofInt k.bits n).toNat
def dO (k : IntKind) (n : Int) : Int := k.wrap n
def PO (a b : ByteArray) : Bool := a.toList == b.toList
def bK {α : Type} (xs : List α) : Int := (xs.length : Int)
def Pl (s : ByteArray) : Int := (s.size : Int)
def Fr (x y : Int) : Int := bif decide (y < x) then y else x
def CN (x y : Int) : Int := bif decide (y > x) then y else x
inductive TK where
 | int (k : IntKind) | bool | str | sl (et : TypeId) | st (fs : List (Nat × Nat × TypeId)) | ptr | arr (n : Nat) (e : TypeId) | other
structure TI where
 tk : TK
 n : Nat
 bytes : Nat
 ag : Bool
 ty : Option Ty
 eq : Bool
 zero : List Value
section
variable {R : Type} (I : PM R) (tab : TypeId → Option TI)
def mT (env : Nat → KV) (d : Nat) (v : KV) : Nat → KV := fun t => bif Nat.beq t d then v else env t
def yV (env : Nat → KV) (dst : Option Tmp) (v : KV) : Nat → KV :=
 match dst with
 | some d => mT env d v
 | none => env
def HF : Value → KV
 | .agg cs => .agg (cs.toList.map .lit)
 | v => .lit v
def wV : List Value → Bool
 | [] => true
 | v :: r => j7 v && wV r
def HI : Value → Bool
 | .agg cs => wV cs.toList
 | _ => true
def eQ [b4] (env : Nat → KV) (x : Operand) (k : KV → Option R) : Option R :=
 match x with
 | .tmp t => (match env t with | .gone => none | v => k v)
 | .const v => bif HI v then k (HF v) else none
 | .func f => k (.fn (.func f) [] [])
 | .global g => (match b4.tab g with | some q => k (.el true true (.cons (.int .i64) (.int .i64)) (q.1, q.2) 0) | none => none)
def q9 [b4] (env : Nat → KV) : List Operand → (List KV → Option R) → Option R
 | [], k => k []
 | x :: r, k => eQ env x fun v => q9 env r fun vs => k (v :: vs)
def A6 [b4] (env : Nat → KV) : List (Nat × Operand) → (List (Nat × KV) → Option R) → Option R
 | [], k => k []
 | (i, x) :: r, k => eQ env x fun v => A6 env r fun vs => k ((i, v) :: vs)
def IQ [b4] (env : Nat → KV) : Option Operand → (Option Int → Option R) → Option R
 | none, k => k none
 | some x, k => eQ env x fun v =>
  match v with
  | .lit (.int _ n) => k (some n)
  | _ => none
def KV.cells : KV → List KV
 | .agg cs => cs
 | v => [v]
def NC : KV → Bool
 | .lit v => v.oneCell'
 | .agg _ => false
 | .tup _ => false
 | .gone => false
 | _ => true
def rD : List KV → Bool
 | [] => true
 | v :: r => NC v && rD r
def cellsOf (β : Bool) (T : Ty) : den T → List KV :=
 Ty.rec (motive := fun T => den T → List KV) (fun k x => [.lit (.int k x)]) (fun x => [.lit (.bool x)]) (fun x => [.lit (.string x)])
  (fun ag T _ xs => [.tsl β ag T xs]) (fun _ _ iha ihb x => iha x.1 ++ ihb x.2) T
def oM (mem : aD) (b g : Nat) (k : dE → Option R) : Option R :=
 match dX mem b with
 | some (some x) => bif Nat.beq x.gen g && !(gV x.row) then k x else none
 | _ => none
def rJ (mem : aD) (b g : Nat) (k : dE → Option R) : Option R :=
 match dX mem b with
 | some (some x) => bif Nat.beq x.gen g && gV x.row then k x else none
 | _ => none
def Bp (o n : Nat) (row : KRow) (k : KRow → Option R) : Option R :=
 match row with
 | .ts β ag T xs => I.guard (Nat.ble (o + n) xs.length) (k (.ts β ag T ((xs.drop o).take n)))
 | .cells e cs => I.guard (Nat.ble ((o + n) * e) cs.length) (k (.cells e ((cs.drop (o * e)).take (n * e))))
 | .os _ _ _ => none
def oJ : KRow → Nat
 | .ts _ _ T _ => T.size
 | .cells e _ => e
 | .os T _ _ => T.size
def fS : KRow → Nat
 | .ts _ _ _ xs => xs.length
 | .cells e cs => aN e cs.length
 | .os _ xs _ => xs.length
def iT : KRow → Bool
 | .cells _ _ => true
 | .ts _ _ _ _ => false
 | .os _ _ _ => false
def LN : KRow → KRow
 | .os T xs _ => .ts false (eW T) T xs
 | r => r
def A4 : KRow → Bool
 | .os _ _ (_ :: _) => false
 | _ => true
def s8 (et : TypeId) (k : KRow → Option R) : Option R :=
 match tab et with
 | some ti => (match ti.ty with | some T => k (.ts false ti.ag T []) | none => none)
 | none => none
def IU (et : TypeId) (mem : aD) (v : KV) (k : KRow → List Nat → Option R) : Option R :=
 match v with
 | .tsl β ag T xs => (match tab et with
  | some te => (match te.ty with
   | some T' => bif T'.flat then (bif T.flat then k (.ts false ag T xs) [] else none) else k (.ts (AE β ag T) ag T xs) []
   | none => none)
  | none => none)
 | .ms b g o n => oM mem b g fun x => Bp I o n x.row fun r => k r [b]
 | .msw b g => oM mem b g fun x => k x.row [b]
 | .lit (.string s) => k (.ts false false (.int .u8) (e9 s)) []
 | .lit (.slice none 0 0) => s8 tab et fun r => k r []
 | _ => none
def eV (mem : aD) : (T : Ty) → List KV → (den T → Bool → List Nat → Option R) → Option R
 | .int k, cs, K => (match cs with | [.lit (.int k' x)] => bif gK k k' then K x false [] else none | _ => none)
 | .bool, cs, K => (match cs with | [.lit (.bool x)] => K x false [] | _ => none)
 | .str, cs, K => (match cs with | [.lit (.string x)] => K x false [] | _ => none)
 | .sl ag T, cs, K => (match cs with
  | [.tsl β ag' T' xs] => bif eE ag ag' then (match o6 T' T xs with | some ys => K ys β [] | none => none) else none
  | [.lit (.slice none 0 0)] => K [] false []
  | [.msw b g] => oM mem b g fun x => denRow ag T (eV mem T) b x.row K
  | [.ms b g o n] => oM mem b g fun x => Bp I o n x.row fun r => denRow ag T (eV mem T) b r K
  | _ => none)
 | .cons a b, cs, K => eV mem a (cs.take a.size) fun x β1 l1 => eV mem b (cs.drop a.size) fun y β2 l2 => K (x, y) (β1 || β2) (l1 ++ l2)
 where
 denAll (ag : Bool) (T : Ty) (f : List KV → (den T → Bool → List Nat → Option R) → Option R) : List (List KV) → (List (den T) → Bool → List Nat → Option R) → Option R
  | [], K => K [] false []
  | c :: r, K => f c fun x β1 l1 => denAll ag T f r fun xs β2 l2 => K (x :: xs) (β1 || β2) (l1 ++ l2)
 denRow (ag : Bool) (T : Ty) (f : List KV → (den T → Bool → List Nat → Option R) → Option R) (b : Nat) (row : KRow) (K : List (den T) → Bool → List Nat → Option R) : Option R :=
  match row with
  | .ts β ag' T' xs => bif eE ag ag' then (match o6 T' T xs with | some ys => K ys (AE β ag T) [b] | none => none) else none
  | .cells e cs => bif Nat.beq e T.size then denAll ag T f (chunks e (aN e cs.length) cs) fun xs β l => K xs β (b :: l) else none
  | .os _ _ _ => none
def FB (mem : aD) : List KV → Option (Nat × KRow × Option (Nat × Nat))
 | [.msw b g] => (match dX mem b with
  | some (some x) => bif Nat.beq x.gen g && gV x.row && !x.frz then some (b, x.row, none) else none
  | _ => none)
 | [.ms b g o n] => (match dX mem b with
  | some (some x) => bif Nat.beq x.gen g && gV x.row && !x.frz then some (b, x.row, some (o, n)) else none
  | _ => none)
 | _ => none
def wW (mem : aD) : (T : Ty) → List KV → (den T → Bool → List Nat → Option R) → Option R
 | .int k, cs, K => eV I mem (.int k) cs K
 | .bool, cs, K => eV I mem .bool cs K
 | .str, cs, K => eV I mem .str cs K
 | .sl ag T, cs, K => (match FB mem cs with
  | some q => (match q.2.1 with
   | .os T' xs [] => bif eE ag (eW T') then (match o6 T' T xs with
     | some ys => (match q.2.2 with
      | none => K ys false [q.1]
      | some p => I.guard (Nat.beq p.1 0) (I.guard (Nat.ble p.2 ys.length) (K (ys.take p.2) false [q.1])))
     | none => none) else none
   | _ => none)
  | none => eV I mem (.sl ag T) cs K)
 | .cons a b, cs, K => wW mem a (cs.take a.size) fun x β1 l1 => wW mem b (cs.drop a.size) fun y β2 l2 => K (x, y) (β1 || β2) (l1 ++ l2)
def LQ (mem : aD) (ag : Bool) (T : Ty) (v : KV) (K : den T → Bool → List Nat → Option R) : Option R := bif Nat.beq v.cells.length T.size then wW I mem T v.cells K else none
def HG (mem : aD) (ag : Bool) (T : Ty) : List KV → (List (den T) → Bool → List Nat → Option R) → Option R
 | [], K => K [] false []
 | v :: r, K => LQ I mem ag T v fun x β1 l1 => HG mem ag T r fun xs β2 l2 => K (x :: xs) (β1 || β2) (l1 ++ l2)
def l4 (mem : aD) : List Nat → List (Nat × dE)
 | [] => []
 | b :: r => match dX mem b with
  | some (some x) => bif A4 x.row then (b, ⟨x.gen, true, LN x.row⟩) :: l4 mem r else l4 mem r
  | _ => l4 mem r
def kC : List KV → List KV
 | [] => []
 | v :: r => v.cells ++ kC r
def oX (e : Nat) : List KV → Bool
 | [] => true
 | v :: r => Nat.beq v.cells.length e && oX e r
def gR (β : Bool) (T : Ty) : List (den T) → List KV
 | [] => []
 | x :: r => cellsOf β T x ++ gR β T r
def AG (te : TI) : KRow → Option (List KV)
 | .ts β ag T xs =>
  match te.ty with
  | some T' => bif Ty.beq T' T && eE te.ag ag then some (gR β T xs) else none
  | none => none
 | .cells e cs => some cs
 | .os _ _ _ => none
def f8 (v : KV) : aZ := ⟨v, [], [], []⟩
def Ld (op : BinOp) (ka : IntKind) (a : Int) (kb : IntKind) (b : Int) (k : Value → Option R) : Option R :=
 match op with
 | .shl => I.guard (decide (0 ≤ b)) (k (.int ka (Hr ka a b)))
 | .shr => I.guard (decide (0 ≤ b)) (k (.int ka (NF ka a b)))
 | .add => bif gK ka kb then k (.int ka (dN ka a b)) else none
 | .sub => bif gK ka kb then k (.int ka (Pb ka a b)) else none
 | .mul => bif gK ka kb then k (.int ka (r6 ka a b)) else none
 | .quo => bif gK ka kb then I.guard (!(b == 0)) (k (.int ka (P4 ka a b))) else none
 | .rem => bif gK ka kb then I.guard (!(b == 0)) (k (.int ka (b5 a b))) else none
 | .and => bif gK ka kb then k (.int ka (PH ka a b)) else none
 | .or => bif gK ka kb then k (.int ka (JL ka a b)) else none
 | .xor => bif gK ka kb then k (.int ka (Pf ka a b)) else none
 | .andNot => bif gK ka kb then k (.int ka (l3 ka a b)) else none
 | .eql => bif gK ka kb then k (.bool (a == b)) else none
 | .neq => bif gK ka kb then k (.bool (a != b)) else none
 | .lss => bif gK ka kb then k (.bool (decide (a < b))) else none
 | .leq => bif gK ka kb then k (.bool (decide (a ≤ b))) else none
 | .gtr => bif gK ka kb then k (.bool (decide (a > b))) else none
 | .geq => bif gK ka kb then k (.bool (decide (a ≥ b))) else none
def KH (isBool : Bool) (op : BinOp) (x y : Value) (k : Value → Option R) : Option R :=
 match x, y with
 | .int ka a, .int kb b => Ld I op ka a kb b k
 | .bool a, .bool b => bif isBool then
  match op with
  | .eql => k (.bool (a == b))
  | .neq => k (.bool (!(a == b)))
  | _ => none
  else none
 | .string a, .string b =>
  match op with
  | .eql => k (.bool (PO a b))
  | .neq => k (.bool (!(PO a b)))
  | _ => none
 | _, _ => none
def Df (a b : KV) (k : Bool → Option R) : Option R :=
 match a, b with
 | .lit (.int ka a), .lit (.int kb b) => bif gK ka kb then k (a == b) else none
 | .lit (.bool a), .lit (.bool b) => k (a == b)
 | .lit (.string a), .lit (.string b) => k (PO a b)
 | _, _ => none
def iL (T : Ty) (v : KV) : Bool :=
 match T, v with
 | .int k, .lit (.int k' _) => gK k k'
 | .bool, .lit (.bool _) => true
 | .str, .lit (.string _) => true
 | .sl ag T, .tsl _ ag' T' _ => eE ag ag' && Ty.beq T T'
 | _, _ => false
def c6 : Ty → List Ty
 | .cons a b => c6 a ++ c6 b
 | T => [T]
def aQ : List Ty → List KV → Bool
 | [], [] => true
 | T :: Ts, v :: vs => iL T v && aQ Ts vs
 | _, _ => false
def mR : List KV → List KV → (Bool → Option R) → Option R
 | [], [], k => k true
 | [a], [b], k => Df a b k
 | a :: as, b :: bs, k => Df a b fun q => mR as bs fun r => k (q && r)
 | _, _, _ => none
def eqTy? (t : TypeId) : Option Ty :=
 match tab t with
 | some ti => bif ti.eq then ti.ty else none
 | none => none
def LU (t : TypeId) : Bool :=
 match tab t with
 | some ti => (match ti.tk with | .bool => true | _ => false)
 | none => false
def Lc (t : TypeId) : Bool :=
 match tab t with
 | some ti => (match ti.tk with | .ptr => true | _ => false)
 | none => false
def Lt (t : TypeId) : Bool :=
 match tab t with
 | some ti => (match ti.tk with | .sl _ => true | _ => false)
 | none => false
def Pj (op : BinOp) (t : TypeId) (x y : KV) (k : KV → Option R) : Option R :=
 match x, y with
 | .tsl _ _ _ xs, .lit (.slice none 0 0) =>
  bif Lt tab t then
   match op with
   | .eql => I.ite xs.isEmpty (k .unkB) (k (.lit (.bool false)))
   | .neq => I.ite xs.isEmpty (k .unkB) (k (.lit (.bool true)))
   | _ => none
  else none
 | .lit (.slice none 0 0), .lit (.slice none 0 0) =>
  bif Lt tab t then
   match op with
   | .eql => k (.lit (.bool true))
   | .neq => k (.lit (.bool false))
   | _ => none
  else none
 | .lit a, .lit b => KH I (LU tab t) op a b fun v => k (.lit v)
 | .agg a, .agg b =>
  (match eqTy? tab t with
  | some T => bif T.flat && aQ (c6 T) a && aQ (c6 T) b then
    (match op with
    | .eql => mR a b fun r => k (.lit (.bool r))
    | .neq => mR a b fun r => k (.lit (.bool (!r)))
    | _ => none) else none
  | none => none)
 | .ptr _ _ _ _, .lit (.pointer none) | .el _ _ _ _ _, .lit (.pointer none) =>
  bif Lc tab t then
   match op with
   | .eql => k (.lit (.bool false))
   | .neq => k (.lit (.bool true))
   | _ => none
  else none
 | _, _ => none
def P7 (op : UnOp) (x : KV) (k : KV → Option R) : Option R :=
 match x with
 | .lit v =>
  match op, v with
  | .neg, .int kd n => k (.lit (.int kd (Pb kd 0 n)))
  | .xor, .int kd n => k (.lit (.int kd (PS kd n)))
  | .not, .bool b => k (.lit (.bool (!b)))
  | _, _ => none
 | _ => none
def zV (y : Nat) (x : Option Int) (d : Nat) (k : Nat → Option R) : Option R :=
 match x with
 | none => k d
 | some i => I.guard (decide (0 ≤ i) && decide (i ≤ (y : Int))) (k i.toNat)
def kG (len : Nat) (lo hi mx : Option Int) (k : Nat → Nat → Option R) : Option R :=
 bif mx.isNone || hi.isSome then zV I len mx len fun m => zV I m hi len fun h => zV I h lo 0 fun l => k l h else none
def c5 (cs : List KV) (i : Nat) : List KV → List KV
 | [] => cs
 | v :: r => c5 (sU v cs i) (i + 1) r
def Pa (t : TypeId) (mem : aD) (x : KV) (k : Int → List Nat → Option R) : Option R :=
 match tab t with
 | some ti =>
  match ti.tk with
  | .str => (match x with | .lit (.string s) => k (Pl s) [] | _ => none)
  | .sl _ =>
   match x with
   | .tsl _ _ _ xs => k (bK xs) []
   | .ms b g o n => k (n : Int) []
   | .msw b g => oM mem b g fun x => (match x.row with | .ts _ _ _ xs => k (bK xs) [b] | .cells e cs => k (aN e cs.length : Nat) [b] | .os _ _ _ => none)
   | .lit (.slice none 0 0) => k 0 []
   | _ => none
  | _ => none
 | none => none
def Fq (tx : TypeId) (y : KV) : Bool :=
 match tab tx with
 | some ti =>
  match ti.tk, y with
  | .str, .lit (.string _) => true
  | .sl _, .lit (.string _) => false
  | .sl _, _ => true
  | _, _ => false
 | none => false
def FX (te : TI) (x y : KRow) (k : KRow → Option R) : Option R :=
 match x with
 | .ts β ag T xs =>
  (match y with
  | .ts β' ag' T' ys => bif eE ag ag' then (match o6 T' T ys with | some zs => k (.ts (β || β') ag T (xs ++ zs)) | none => none) else none
  | _ => none)
 | .os _ _ _ => none
 | .cells e xs => (match AG te y with
  | some ys => bif rD ys && Nat.beq e (oJ y) && Nat.ble 1 e then k (.cells e (xs ++ ys)) else none
  | none => none)
def rG (t : TypeId) (k : TypeId → TI → Option R) : Option R :=
 match tab t with
 | some ti => (match ti.tk with | .sl et => (match tab et with | some te => k et te | none => none) | _ => none)
 | none => none
def GP (boxed : Bool) (rs : Nat) (row : KRow) (rd : List Nat) (wr : List (Nat × dE)) (k : aZ → Option R) : Option R :=
 bif boxed then (bif gV row then none else k ⟨.msw rs 0, rd, wr ++ [(rs, ⟨0, false, row⟩)], []⟩) else
 match row with
 | .ts β ag T xs => k ⟨.tsl (AE β ag T) ag T xs, rd, wr, []⟩
 | _ => none
def BQ (row : KRow) (k : Option R) : Option R := I.guard (Nat.ble (fS row) bA) k
def H3 (boxed vars : Bool) (t tx : TypeId) (mem : aD) (rs : Nat) (x y : KV) (k : aZ → Option R) : Option R :=
 rG tab t fun et te => IU I tab et mem y fun yr yrd =>
 bif Nat.beq te.n (oJ yr) && Fq tab tx y && Nat.ble te.bytes 4096 && Nat.ble 1 te.n && Nat.beq te.zero.length te.n then
  match x with
  | .lit (.slice none 0 0) =>
   BQ I yr <|
   bif boxed then
    bif vars then (match AG te yr with
     | some ys => bif Nat.ble 1 (fS yr) && rD ys then k ⟨.msw rs 0, yrd, [(rs, ⟨0, false, .cells (oJ yr) ys⟩)], []⟩ else none
     | none => none)
    else (match yr with | .ts _ _ _ _ => k ⟨.msw rs 0, yrd, [(rs, ⟨0, false, yr⟩)], []⟩ | _ => none)
   else (match yr with | .ts β ag T xs => k ⟨.tsl (AE β ag T) ag T xs, yrd, [], []⟩ | _ => none)
  | .msw b g => oM mem b g fun bx => FX te bx.row yr fun z =>
   bif !bx.frz && Nat.beq te.n (oJ bx.row) then BQ I z (k ⟨.msw b (g + 1), b :: yrd, [(b, ⟨g + 1, false, z⟩)], []⟩) else none
  | .ms b g o n => I.guard (Nat.beq o 0) (oM mem b g fun bx => Bp I 0 n bx.row fun xr => FX te xr yr fun z =>
   bif !bx.frz && Nat.beq te.n (oJ bx.row) then BQ I z (k ⟨.msw b (g + 1), b :: yrd, [(b, ⟨g + 1, false, z⟩)], []⟩) else none)
  | _ => none
 else none
def KW (t : TypeId) (mem : aD) (x : KV) (i : Int) (k : aZ → Option R) : Option R :=
 match tab t with
 | some ti =>
  match ti.tk with
  | .sl et =>
   (match tab et with
   | some te =>
    match x with
    | .tsl β ag T xs => bif Nat.beq te.n T.size then I.get xs i fun v => k (f8 (.el β ag T v 0)) else none
    | .ms b g o n => oM mem b g fun bx => bif Nat.beq te.n (oJ bx.row) then I.guard (decide (0 ≤ i) && decide (i < (n : Int))) (k ⟨.ptr b g (o + i.toNat) 0, [b], [], []⟩) else none
    | .msw b g => oM mem b g fun bx => bif Nat.beq te.n (oJ bx.row) then I.guard (decide (0 ≤ i) && decide (i < (fS bx.row : Int))) (k ⟨.ptr b g i.toNat 0, [b], [], []⟩) else none
    | _ => none
   | none => none)
  | .arr n e =>
   (match tab e with
   | some te =>
    match x with
    | .ptr b g j c => I.guard (decide (0 ≤ i) && decide (i < (n : Int))) (k (f8 (.ptr b g j (c + i.toNat * te.n))))
    | _ => none
   | none => none)
  | _ => none
 | none => none
def C6 (ti : TI) (cs : List KV) (k : KV → Option R) : Option R :=
 match ti.ty with
 | some T => bif aQ (c6 T) cs then (bif ti.ag then k (.agg cs) else match cs with | [v] => k v | _ => none) else none
 | none => none
def N9 (s9 : Nat) : List KV → Nat → (KV → Option R) → Option R
 | [], _, _ => none
 | v :: r, j, k => I.ite (Nat.beq s9 j) (k v) (N9 s9 r (j + 1) k)
def C8 (s9 : Nat) (v : KV) (cs : List KV) : List KV → Nat → (List KV → Option R) → Option R
 | [], _, _ => none
 | _ :: r, j, k => I.ite (Nat.beq s9 j) (k (sU v cs j)) (C8 s9 v cs r (j + 1) k)
def L7 (t : TypeId) (mem : aD) (a : KV) (k : aZ → Option R) : Option R :=
 match tab t with
 | some ti =>
  match a with
  | .el β ag T x c => C6 ti ((((cellsOf β T x)).drop c).take ti.n) fun v => k (f8 v)
  | .ptr b g i c => oM mem b g fun bx =>
   (match bx.row with
   | .cells e cs => bif ti.ag then bif Nat.ble (i * e + c + ti.n) cs.length then k ⟨.agg ((cs.drop (i * e + c)).take ti.n), [b], [], []⟩ else none
     else N9 I (i * e + c) cs 0 fun v => k ⟨v, [b], [], []⟩
   | .ts β ag T xs => bif ti.ag && aY ag T then none else I.getN xs i fun x => C6 ti (((cellsOf β T x).drop c).take ti.n) fun v => k ⟨v, [b], [], []⟩
   | .os _ _ _ => none)
  | _ => none
 | none => none
def K8 (t : TypeId) (mem : aD) (a x : KV) (k : aZ → Option R) : Option R :=
 match tab t with
 | some ti =>
  match a with
  | .ptr b g i c => oM mem b g fun bx => bif !bx.frz && Nat.beq x.cells.length ti.n then
   (match bx.row with
   | .cells e cs => bif Nat.beq ti.n 1 then (match x.cells with
     | [v] => bif NC v then C8 I (i * e + c) v cs cs 0 fun cs' => k ⟨.lit undef, [b], [(b, ⟨bx.gen, bx.frz, .cells e cs'⟩)], []⟩ else none
     | _ => none)
    else bif Nat.ble (i * e + c + ti.n) cs.length && rD x.cells then k ⟨.lit undef, [b], [(b, ⟨bx.gen, bx.frz, .cells e (c5 cs (i * e + c) x.cells)⟩)], []⟩ else none
   | .ts β ag T xs => bif aY ag T then
     (match x with
     | .lit (.int kd v) => bif Nat.beq c 0 && Nat.beq ti.n 1 then
       (match Gy (F := den) (a := .int kd) (b := T) (Ty.beq (.int kd) T) rfl v with
       | some z => I.guard (Nat.ble (i + 1) xs.length) (k ⟨.lit undef, [b], [(b, ⟨bx.gen, bx.frz, .ts β ag T (xs.set i z)⟩)], []⟩)
       | none => none) else none
     | _ => none)
    else bif Nat.ble (c + ti.n) T.size then
     (match ti.ty with
     | some T' => LQ I mem ti.ag T' x fun y β' l => bif eZ b l then none else
       bif Nat.beq c 0 && Nat.beq ti.n T.size then
        (match (bif eE ti.ag ag then Gy (F := den) (Ty.beq T' T) rfl y else none) with
        | some z => I.guard (Nat.ble (i + 1) xs.length) (k ⟨.lit undef, b :: l, l4 mem l ++ [(b, ⟨bx.gen, bx.frz, .ts (β || β') ag T (xs.set i z)⟩)], []⟩)
        | none => none)
       else I.getN xs i fun p => eV I mem T (c5 (cellsOf false T p) c (cellsOf false T' y)) fun z _ _ =>
        k ⟨.lit undef, b :: l, l4 mem l ++ [(b, ⟨bx.gen, bx.frz, .ts (β || β') ag T (xs.set i z)⟩)], []⟩
     | none => none)
    else none
   | .os _ _ _ => none)
   else none
  | _ => none
 | none => none
def KQ (t : TypeId) (mem : aD) (x : KV) (lo hi mx : Option Int) (k : aZ → Option R) : Option R :=
 match tab t with
 | some ti =>
  match ti.tk with
  | .str => (match x with | .lit (.string s) => bif mx.isNone then kG I s.size lo hi none fun l h => k (f8 (.lit (.string (s.extract l h)))) else none | _ => none)
  | .sl et =>
   (match tab et with
   | some te =>
    match x with
    | .tsl β ag T xs => bif Nat.beq te.n T.size then kG I xs.length lo hi mx fun l h => k (f8 (.tsl β ag T ((xs.take h).drop l))) else none
    | .ms b g o n => oM mem b g fun bx => bif Nat.beq te.n (oJ bx.row) then kG I n lo hi mx fun l h => k ⟨.ms b g (o + l) (h - l), [b], [], []⟩ else none
    | .msw b g => oM mem b g fun bx => bif Nat.beq te.n (oJ bx.row) then kG I (fS bx.row) lo hi mx fun l h => k ⟨.ms b g l (h - l), [b], [], []⟩ else none
    | .lit (.slice none 0 0) => kG I 0 lo hi mx fun _ _ => k (f8 (.lit (.slice none 0 0)))
    | _ => none
   | none => none)
  | .arr n e =>
   (match tab e with
   | some te =>
    match x with
    | .ptr b g i c => bif Nat.beq i 0 && Nat.beq te.n 1 then oM mem b g fun bx =>
      (match bx.row with
      | .cells e' cs => bif Nat.beq e' 1 && Nat.ble (c + n) cs.length then kG I n lo hi mx fun l h => k ⟨.ms b g (c + l) (h - l), [b], [], []⟩ else none
      | _ => none) else none
    | _ => none
   | none => none)
  | _ => none
 | none => none
def Hw (s : TypeId) (f : Nat) (k : Nat → Nat → TypeId → Option R) : Option R :=
 match tab s with
 | some ti => (match ti.tk with | .st fs => (match dX fs f with | some q => bif Nat.ble 1 q.2.1 then k q.1 q.2.1 q.2.2 else none | none => none) | _ => none)
 | none => none
def BW (place : Nat → Option (Nat × Nat)) (cs : List KV) : List (Nat × KV) → Option (List KV)
 | [] => some cs
 | (i, v) :: r => match place i with
  | some q => bif Nat.beq v.cells.length q.2 && Nat.ble (q.1 + q.2) cs.length then BW place (c5 cs q.1 v.cells) r else none
  | none => none
def qY (vs : List KV) : List (Nat × KV) → List KV
 | [] => vs
 | (i, v) :: r => qY (sU v vs i) r
def vG (n : Nat) : List (Nat × KV) → Bool
 | [] => true
 | (i, _) :: r => Nat.ble (i + 1) n && vG n r
def eP (ti : TI) : KV := bif ti.ag then .agg (ti.zero.map .lit) else match ti.zero with | [v] => .lit v | _ => .gone
def sA (f : Int → Int → Int) (kd : IntKind) : List KV → Int → Option Int
 | [], a => some a
 | .lit (.int k' b) :: r, a => bif gK kd k' then sA f kd r (f a b) else none
 | _, _ => none
mutual
def KV.refs : KV → List Nat
 | .ptr b _ _ _ => [b]
 | .ms b _ _ _ => [b]
 | .msw b _ => [b]
 | .fn _ fi ca => KV.refsAll fi ++ KV.refsAll ca
 | .agg cs => KV.refsAll cs
 | .tup vs => KV.refsAll vs
 | .lit _ => []
 | .tsl _ _ _ _ => []
 | .el _ _ _ _ _ => []
 | .dead => []
 | .gone => []
 | .unkB => []
def KV.refsAll : List KV → List Nat
 | [] => []
 | v :: r => v.refs ++ KV.refsAll r
end
def vY : List (Nat × Nat × KV) → List Nat
 | [] => []
 | (_, _, v) :: r => v.refs ++ vY r
def KRow.refs : KRow → List Nat
 | .cells _ cs => KV.refsAll cs
 | .ts _ _ _ _ => []
 | .os _ _ hs => vY hs
def H9 (mem : aD) (b : Nat) : List Nat :=
 match dX mem b with
 | some (some x) => x.row.refs
 | _ => []
def vU (mem : aD) : Nat → List Nat → List Nat → List Nat
 | 0, _, seen => seen
 | _, [], seen => seen
 | n + 1, b :: todo, seen => bif eZ b seen then vU mem n todo seen else vU mem n (todo ++ H9 mem b) (seen ++ [b])
def sM (mem : aD) (b : Nat) : Option Nat :=
 match dX mem b with
 | some (some x) => some x.gen
 | _ => none
mutual
def KV.ren (f : jS) : KV → KV
 | .ptr b g i c => match f b g with | some q => .ptr q.1 q.2 i c | none => .dead
 | .ms b g o n => match f b g with | some q => .ms q.1 q.2 o n | none => .dead
 | .msw b g => match f b g with | some q => .msw q.1 q.2 | none => .dead
 | .fn h fi ca => .fn h (KV.renAll f fi) (KV.renAll f ca)
 | .agg cs => .agg (KV.renAll f cs)
 | .tup vs => .tup (KV.renAll f vs)
 | .lit v => .lit v
 | .tsl β ag T xs => .tsl β ag T xs
 | .el β ag T x c => .el β ag T x c
 | .dead => .dead
 | .gone => .gone
 | .unkB => .unkB
def KV.renAll (f : jS) : List KV → List KV
 | [] => []
 | v :: r => v.ren f :: KV.renAll f r
end
def z9 (f : jS) : List (Nat × Nat × KV) → List (Nat × Nat × KV)
 | [] => []
 | (i, c, v) :: r => (i, c, v.ren f) :: z9 f r
def KRow.ren (f : jS) : KRow → KRow
 | .cells e cs => .cells e (KV.renAll f cs)
 | .ts β ag T xs => .ts β ag T xs
 | .os T xs hs => .os T xs (z9 f hs)
def Fj (mem : aD) (b : Nat) : Bool :=
 match dX mem b with
 | some (some x) => iT x.row
 | _ => false
def mQ (m : Nat) (keep : Bool) (mem : aD) (ids : List Nat) : jS := fun b g =>
 match sM mem b with
 | some h => bif Nat.beq h g then (match s9 b ids 0 with | some j => some (j, fJ m keep (Fj mem b) j h) | none => none) else none
 | none => none
def oN (m : Nat) (keep : Bool) (f : jS) (mem : aD) : Nat → List Nat → aD
 | _, [] => []
 | j, b :: r => (match dX mem b with
  | some (some x) => some ⟨fJ m keep (iT x.row) j x.gen, x.frz, x.row.ren f⟩
  | _ => none) :: oN m keep f mem (j + 1) r
def j3 (mem : aD) (n : Nat) : Nat := (mem.length + 1) * (mem.length + 1) + n
def e7 : aD → List (Option Bool)
 | [] => []
 | some x :: r => some (iT x.row) :: e7 r
 | none :: r => none :: e7 r
def FF : List (Option Bool) → aD → Bool
 | [], _ => true
 | some k :: r, some x :: m => (bif k then iT x.row && Nat.beq x.gen 0 else !(iT x.row)) && FF r m
 | none :: r, none :: m => FF r m
 | _, _ => false
def iA : aD → List Nat
 | [] => []
 | some x :: r => x.row.refs ++ iA r
 | none :: r => iA r
def N2 : KV → Option (Nat × Nat)
 | .msw b g => some (b, g)
 | .ms b g _ _ => some (b, g)
 | _ => none
def JD (m : Nat) (refs : List Nat) (mem : aD) (v : KV) : Bool :=
 match N2 v with
 | some q => Nat.ble m q.1 && Nat.beq (cS q.1 refs) 1 && (match dX mem q.1 with
  | some (some x) => Nat.beq x.gen q.2 && !x.frz && (match x.row with | .ts β ag T _ => !(AE β ag T) | _ => false)
  | _ => false)
 | none => false
def lD (c : Nat) : List (Nat × Nat × KV) → Option (Nat × KV)
 | [] => none
 | (i, c', v) :: r => bif Nat.beq c c' then some (i, v) else lD c r
def I2 {α : Type} : Option α → Bool
 | none => true
 | some _ => false
def pY (m : Nat) (refs : List Nat) (mem : aD) (all : List (Nat × Nat × KV)) : List (Nat × Nat × KV) → Nat → Option Nat
 | [], _ => none
 | (_, c, v) :: r, k => bif JD m refs mem v && I2 (lD c (cR all k)) then some k else pY m refs mem all r (k + 1)
def o5 (m : Nat) (refs : List Nat) (mem : aD) : aD → Nat → Option (Nat × Nat)
 | [], _ => none
 | none :: r, b => o5 m refs mem r (b + 1)
 | some x :: r, b => match x.row with
  | .os _ _ hs => (match pY m refs mem hs hs 0 with
   | some k => some (b, k)
   | none => o5 m refs mem r (b + 1))
  | _ => o5 m refs mem r (b + 1)
def Fb (mem : aD) (v : KV) (k : Nat → KRow → Option R) : Option R :=
 match v with
 | .msw b g => oM mem b g fun x => bif x.frz then none else k b x.row
 | .ms b g o n => I.guard (Nat.beq o 0) (oM mem b g fun x => bif x.frz then none else
   (match x.row with
   | .ts β ag T xs => I.guard (Nat.ble n xs.length) (k b (.ts β ag T (xs.take n)))
   | _ => none))
 | _ => none
def BN (mem : aD) (b j : Nat) (k : aD → Option R) : Option R :=
 match dX mem b with
 | some (some x) => (match x.row with
  | .os T xs hs => (match dX hs j with
   | some h => Fb I mem h.2.2 fun b' row => (match row with
    | .ts β ag' T' ys => bif !(AE β ag' T') && !(Nat.beq b' b) && I2 (lD h.2.1 (cR hs j)) then
      I.getN xs h.1 fun p => (match dX (cellsOf false T p) h.2.1 with
       | some (.tsl _ ag'' T'' _) => bif eE ag'' ag' && Ty.beq T'' T' then
         eV I mem T (c5 (cellsOf false T p) h.2.1 [.tsl false ag' T' ys]) fun z _ _ => k (sU none (sU (some ⟨x.gen, x.frz, .os T (xs.set h.1 z) (cR hs j)⟩) mem b) b') else none
       | _ => none)
     else none
    | _ => none)
   | none => none)
  | _ => none)
 | _ => none
def AC (m : Nat) (vs : List KV) : Nat → aD → (aD → Option R) → Option R
 | 0, mem, k => k mem
 | n + 1, mem, k => match o5 m (KV.refsAll vs ++ iA mem) mem mem 0 with
  | none => k mem
  | some q => BN I mem q.1 q.2 fun mem' => AC m vs n mem' k
def He (mem : aD) (b : Nat) : Bool :=
 match dX mem b with
 | some (some _) => true
 | _ => false
def C7 (m : Nat) (vs : List KV) : Nat → aD → aD
 | 0, mem => mem
 | b + 1, mem => C7 m vs b (bif Nat.ble m b && He mem b && Nat.beq (cS b (KV.refsAll vs ++ iA mem)) 0 then sU none mem b else mem)
def Kw (m : Nat) (vs : List KV) (mem : aD) (k : aD → Option R) : Option R := AC I m vs 64 (C7 m vs mem.length mem) k
def A3 (keep : Bool) (old : List (Option Bool)) (vs : List KV) (mem0 : aD) (k : List KV → aD → Option R) : Option R :=
 Kw I old.length vs mem0 fun mem =>
 let ids := vU mem (j3 mem (old.length + (KV.refsAll vs).length)) (oE 0 old.length ++ KV.refsAll vs) []
 bif FF old mem && dR ids && v9 0 old.length ids then k (KV.renAll (mQ old.length keep mem ids) vs) (oN old.length keep (mQ old.length keep mem ids) mem 0 ids) else none
def KV.frz (m : Nat) (mem : aD) : KV → KV
 | .msw b g => bif Nat.ble m b then
   (match dX mem b with
   | some (some x) => bif Nat.beq x.gen g then (match x.row with
    | .ts β ag T xs => .tsl (AE β ag T) ag T xs
    | _ => .msw b g) else .msw b g
   | _ => .msw b g)
  else .msw b g
 | v => v
def KV.frzAll (m : Nat) (mem : aD) : List KV → List KV
 | [] => []
 | v :: r => v.frz m mem :: KV.frzAll m mem r
def v8 (m : Nat) (mem : aD) : KV → KV
 | .tup vs => .tup (KV.frzAll m mem vs)
 | .agg vs => .agg (KV.frzAll m mem vs)
 | v => v.frz m mem
mutual
def KV.lent : KV → Bool
 | .tsl β _ _ _ => β
 | .el β _ _ _ _ => β
 | .fn _ fi ca => KV.lentAny fi || KV.lentAny ca
 | .agg cs => KV.lentAny cs
 | .tup vs => KV.lentAny vs
 | .lit _ => false
 | .ptr _ _ _ _ => false
 | .ms _ _ _ _ => false
 | .msw _ _ => false
 | .dead => false
 | .gone => true
 | .unkB => true
def KV.lentAny : List KV → Bool
 | [] => false
 | v :: r => v.lent || KV.lentAny r
end
def wJ : List (Nat × Nat × KV) → Bool
 | [] => false
 | (_, _, v) :: r => v.lent || wJ r
def rZ : aD → Bool
 | [] => false
 | some x :: r => (match x.row with | .cells _ cs => KV.lentAny cs | .ts β ag T _ => AE β ag T | .os _ _ hs => wJ hs) || rZ r
 | none :: r => rZ r
def BF (mem : aD) (b : Nat) : Bool :=
 match dX mem b with
 | some (some x) => gV x.row
 | _ => false
def w6 (mem : aD) : KV → Bool
 | .msw b _ => BF mem b
 | .ms b _ _ _ => BF mem b
 | _ => false
def LB (mem : aD) : KV → Bool
 | .msw b _ => BF mem b
 | _ => false
def Ez (mem : aD) : KV → Bool
 | .ptr b _ _ _ => BF mem b
 | _ => false
def E3 (c : Nat) : List (Nat × Nat × KV) → List (Nat × Nat × KV)
 | [] => []
 | (i, c', v) :: r => bif Nat.beq c c' then r else (i, c', v) :: E3 c r
abbrev cY := List (Nat × Nat × KV)
def Bm (tk : Bool) (i c : Nat) (v : KV) (hs : cY) (nb : Nat) (k : KV → cY → List KRow → Option R) : Option R :=
 match lD c hs with
 | some h => I.guard (Nat.beq i h.1) (k h.2 hs [])
 | none => match v with
  | .lit u => k (.lit u) hs []
  | .tsl _ ag T ys => bif tk then k (.msw nb 0) ((i, c, .msw nb 0) :: hs) [.ts false ag T ys] else none
  | _ => none
def CY (tk : Bool) (i : Nat) : List KV → Nat → cY → Nat → (List KV → cY → List KRow → Option R) → Option R
 | [], _, hs, _, k => k [] hs []
 | v :: vs, c, hs, nb, k => Bm I tk i c v hs nb fun a hs1 rows => CY tk i vs (c + 1) hs1 (nb + rows.length) fun as hs2 rows2 => k (a :: as) hs2 (rows ++ rows2)
def oW : List KRow → aD
 | [] => []
 | r :: rs => some ⟨0, false, r⟩ :: oW rs
def Lg (b : Nat) (bx : dE) (T : Ty) (xs : List (den T)) (v : KV) (hs : cY) : List KRow → aZ
 | [] => ⟨v, [b], [], []⟩
 | r :: rs => ⟨v, [b], [(b, ⟨bx.gen, bx.frz, .os T xs hs⟩)], oW (r :: rs)⟩
def Lk (tk : Bool) (t : TypeId) (mem : aD) (a : KV) (k : aZ → Option R) : Option R :=
 match tab t with
 | some ti => (match a with
  | .ptr b g i c => rJ mem b g fun bx => (match bx.row with
   | .os T xs hs => (match ti.ty with
    | some T' => I.getN xs i fun x => bif aQ (c6 T') (((cellsOf true T x).drop c).take ti.n) then
      CY I tk i (((cellsOf true T x).drop c).take ti.n) c hs mem.length fun vs hs' rows =>
       bif ti.ag then k (Lg b bx T xs (.agg vs) hs' rows) else (match vs with | [v] => k (Lg b bx T xs v hs' rows) | _ => none)
     else none
    | none => none)
   | _ => none)
  | _ => none)
 | none => none
def Dn (i c : Nat) (hs : cY) (k : cY → Option R) : Option R :=
 match lD c hs with
 | none => k hs
 | some h => bif I2 (lD c (E3 c hs)) then I.guard (Nat.beq i h.1) (k (E3 c hs)) else none
def HB (t : TypeId) (mem : aD) (a x : KV) (k : aZ → Option R) : Option R :=
 match tab t with
 | some ti => (match a with
  | .ptr b g i c => rJ mem b g fun bx => (match bx.row with
   | .os T xs hs => bif Nat.beq ti.n 1 && !bx.frz && NC x then I.getN xs i fun p => (match dX (cellsOf false T p) c with
     | some (.lit u) => (match x with
      | .lit v => bif De u v && I2 (lD c hs) then eV I mem T (c5 (cellsOf false T p) c [.lit v]) fun z _ _ => k ⟨.lit undef, [b], [(b, ⟨bx.gen, bx.frz, .os T (xs.set i z) hs⟩)], []⟩ else none
      | _ => none)
     | some (.tsl _ ag' T' _) => (match x with
      | .lit (.slice none 0 0) => Dn I i c hs fun hs' => eV I mem T (c5 (cellsOf false T p) c [.tsl false ag' T' []]) fun z _ _ => k ⟨.lit undef, [b], [(b, ⟨bx.gen, bx.frz, .os T (xs.set i z) hs'⟩)], []⟩
      | .msw b2 g2 => Dn I i c hs fun hs' => k ⟨.lit undef, [b], [(b, ⟨bx.gen, bx.frz, .os T xs ((i, c, .msw b2 g2) :: hs')⟩)], []⟩
      | .ms b2 g2 o2 n2 => Dn I i c hs fun hs' => k ⟨.lit undef, [b], [(b, ⟨bx.gen, bx.frz, .os T xs ((i, c, .ms b2 g2 o2 n2) :: hs')⟩)], []⟩
      | _ => none)
     | _ => none) else none
   | _ => none)
  | _ => none)
 | none => none
def NB (t : TypeId) (mem : aD) (x : KV) (k : aZ → Option R) : Option R :=
 match tab t with
 | some ti => (match ti.tk, x with
  | .sl _, .msw b g => rJ mem b g fun bx => (match bx.row with
   | .os _ xs _ => k ⟨.lit (.int .i64 (bK xs)), [b], [], []⟩
   | _ => none)
  | _, _ => none)
 | none => none
def Ib (t : TypeId) (mem : aD) (x : KV) (i : Int) (k : aZ → Option R) : Option R :=
 rG tab t fun et te =>
  match x with
  | .ms b g o n => rJ mem b g fun bx => bif Nat.beq te.n (oJ bx.row) then I.guard (decide (0 ≤ i) && decide (i < (n : Int))) (k ⟨.ptr b g (o + i.toNat) 0, [b], [], []⟩) else none
  | .msw b g => rJ mem b g fun bx => bif Nat.beq te.n (oJ bx.row) then I.guard (decide (0 ≤ i) && decide (i < (fS bx.row : Int))) (k ⟨.ptr b g i.toNat 0, [b], [], []⟩) else none
  | _ => none
def Hj (t : TypeId) (mem : aD) (x : KV) (lo hi mx : Option Int) (k : aZ → Option R) : Option R :=
 rG tab t fun et te =>
  match x with
  | .ms b g o n => rJ mem b g fun bx => bif Nat.beq te.n (oJ bx.row) then kG I n lo hi mx fun l h => k ⟨.ms b g (o + l) (h - l), [b], [], []⟩ else none
  | .msw b g => rJ mem b g fun bx => bif Nat.beq te.n (oJ bx.row) then kG I (fS bx.row) lo hi mx fun l h => k ⟨.ms b g l (h - l), [b], [], []⟩ else none
  | _ => none
def Kd (T : Ty) (v : KV) (j c : Nat) : Option (KV × cY) :=
 match T, v with
 | .int k, .lit (.int k' x) => bif gK k k' then some (.lit (.int k' x), []) else none
 | .bool, .lit (.bool b) => some (.lit (.bool b), [])
 | .str, .lit (.string s) => some (.lit (.string s), [])
 | .sl ag T, .lit (.slice none 0 0) => some (.tsl false ag T [], [])
 | .sl ag T, .msw b g => some (.tsl false ag T [], [(j, c, .msw b g)])
 | .sl ag T, .ms b g o n => some (.tsl false ag T [], [(j, c, .ms b g o n)])
 | _, _ => none
def NU : List Ty → List KV → Nat → Nat → Option (List KV × cY)
 | [], [], _, _ => some ([], [])
 | T :: Ts, v :: vs, j, c => (match Kd T v j c with
  | some a => (match NU Ts vs j (c + 1) with
   | some q => some (a.1 :: q.1, a.2 ++ q.2)
   | none => none)
  | none => none)
 | _, _, _, _ => none
def E7 (T : Ty) : List (List KV) → Nat → (List (den T) → cY → Option R) → Option R
 | [], _, k => k [] []
 | cs :: r, j, k => (match NU (c6 T) cs j 0 with
  | some a => eV I [] T a.1 fun x _ _ => E7 T r (j + 1) fun xs hs => k (x :: xs) (a.2 ++ hs)
  | none => none)
def vL (n : Nat) : cY → Option R → Option R
 | [], k => k
 | h :: r, k => I.guard (Nat.blt h.1 n) (vL n r k)
def Ew (own : Bool) (t tx : TypeId) (mem : aD) (rs : Nat) (x y : KV) (k : aZ → Option R) : Option R :=
 rG tab t fun et te => IU I tab et mem y fun yr yrd =>
 match yr with
 | .cells e cs => (match te.ty with
  | some T => bif Nat.beq te.n e && Fq tab tx y && Nat.ble te.bytes 4096 && Nat.ble 1 te.n && Nat.beq te.zero.length te.n && rD cs && eE te.ag (eW T) then
   (match x with
   | .lit (.slice none 0 0) => bif own then E7 I T (chunks te.n (aN te.n cs.length) cs) 0 fun zs hs =>
     I.guard (Nat.ble 1 zs.length && Nat.ble zs.length bA) (k ⟨.msw rs 0, yrd, [(rs, ⟨0, false, .os T zs hs⟩)], []⟩) else none
   | .msw b g => rJ mem b g fun bx => (match bx.row with
    | .os T' xs hs => E7 I T (chunks te.n (aN te.n cs.length) cs) xs.length fun zs hs' => (match o6 T T' zs with
     | some ys => bif !bx.frz && Ty.beq T T' then vL I xs.length hs (I.guard (Nat.ble (xs ++ ys).length bA) (k ⟨.msw b (g + 1), b :: yrd, [(b, ⟨g + 1, false, .os T' (xs ++ ys) (hs ++ hs')⟩)], []⟩)) else none
     | none => none)
    | _ => none)
   | .ms b g o n => I.guard (Nat.beq o 0) (rJ mem b g fun bx => (match bx.row with
    | .os T' xs hs => E7 I T (chunks te.n (aN te.n cs.length) cs) n fun zs hs' => (match o6 T T' zs with
     | some ys => bif !bx.frz && Ty.beq T T' then I.guard (Nat.ble n xs.length) (vL I n hs (I.guard (Nat.ble (xs.take n ++ ys).length bA) (k ⟨.msw b (g + 1), b :: yrd, [(b, ⟨g + 1, false, .os T' (xs.take n ++ ys) (hs ++ hs')⟩)], []⟩))) else none
     | none => none)
    | _ => none))
   | _ => none)
   else none
  | none => none)
 | _ => none
end
end
end Go.Ab
