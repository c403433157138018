/- The evaluator. -/
import Derived.Orders
import Derived.Laws.Sem
import Derived.WalkKit
import Derived.Deep.AppendSrc
set_option linter.unusedVariables false
set_option linter.unusedSectionVars false
set_option linter.unusedSimpArgs false
section
namespace Go.Ab
theorem ya : type_of% @Option.some.inj := @Option.some.inj
theorem yb : type_of% @Bool.and_eq_true := @Bool.and_eq_true
theorem yc : type_of% @Option.bind_some := @Option.bind_some
theorem yd : type_of% @Option.map_eq_some_iff := @Option.map_eq_some_iff
theorem ye : type_of% @List.getElem?_eq_some_iff := @List.getElem?_eq_some_iff
theorem yf : type_of% @List.getElem?_eq_getElem := @List.getElem?_eq_getElem
theorem yg : type_of% @cond_true := @cond_true
theorem yh : type_of% @cond_false := @cond_false
theorem yi : type_of% @List.mem_cons_of_mem := @List.mem_cons_of_mem
theorem yj : type_of% @List.mem_of_getElem? := @List.mem_of_getElem?
theorem yk : type_of% @Option.map_some := @Option.map_some
theorem yl : type_of% @List.getD_eq_getElem?_getD := @List.getD_eq_getElem?_getD
theorem ym : type_of% @Array.getD_eq_getD_getElem? := @Array.getD_eq_getD_getElem?
theorem yn : type_of% @List.mem_cons_self := @List.mem_cons_self
theorem yo : type_of% @List.eq_nil_of_length_eq_zero := @List.eq_nil_of_length_eq_zero
theorem yp : type_of% @List.getElem?_append_left := @List.getElem?_append_left
theorem yq : type_of% @List.getElem?_set_ne := @List.getElem?_set_ne
theorem yt : type_of% @Bool.not_eq_true' := @Bool.not_eq_true'
theorem yu : type_of% @List.getElem?_append_right := @List.getElem?_append_right
theorem yw : type_of% @List.getElem?_set_self := @List.getElem?_set_self
theorem yx : type_of% @Nat.le_refl := @Nat.le_refl
theorem yy : type_of% @Nat.zero_add := @Nat.zero_add
theorem yz : type_of% @List.cons.inj := @List.cons.inj
theorem ya1 : type_of% @List.getElem?_eq_none := @List.getElem?_eq_none
theorem yb1 : type_of% @List.getElem?_drop := @List.getElem?_drop
theorem yc1 : type_of% @List.getElem?_map := @List.getElem?_map
theorem yd1 : type_of% @Int.toNat_natCast := @Int.toNat_natCast
theorem ye1 : type_of% @List.getElem?_cons_succ := @List.getElem?_cons_succ
theorem yf1 : type_of% @List.length_map := @List.length_map
theorem yg1 : type_of% @List.getElem?_take_of_lt := @List.getElem?_take_of_lt
theorem yh1 : type_of% @List.append_nil := @List.append_nil
theorem yi1 : type_of% @List.length_append := @List.length_append
theorem yj1 : type_of% @List.getElem?_take := @List.getElem?_take
theorem yk1 : type_of% @Nat.add_mul := @Nat.add_mul
theorem yl1 : type_of% @List.mem_append := @List.mem_append
theorem ym1 : type_of% @Nat.add_zero := @Nat.add_zero
theorem yn1 : type_of% @List.mem_cons := @List.mem_cons
theorem yo1 : type_of% @Array.getElem?_toList := @Array.getElem?_toList
theorem yp1 : type_of% @Array.getElem?_eq_getElem := @Array.getElem?_eq_getElem
theorem yq1 : type_of% @List.mem_append_left := @List.mem_append_left
theorem yr1 : type_of% @List.mem_append_right := @List.mem_append_right
theorem ys1 : type_of% @List.getElem_of_mem := @List.getElem_of_mem
theorem yt1 : type_of% @Array.length_toList := @Array.length_toList
theorem yu1 : type_of% @List.map_cons := @List.map_cons
theorem yw1 : type_of% @Bool.or_eq_true := @Bool.or_eq_true
theorem yx1 : type_of% @Nat.lt_of_lt_of_le := @Nat.lt_of_lt_of_le
theorem yy1 : type_of% @Nat.mul_le_mul_right := @Nat.mul_le_mul_right
theorem yz1 : type_of% @List.getElem?_replicate := @List.getElem?_replicate
theorem ya2 : type_of% @List.mem_singleton := @List.mem_singleton
theorem yb2 : type_of% @Nat.le_trans := @Nat.le_trans
theorem yc2 : type_of% @Nat.lt_or_ge := @Nat.lt_or_ge
theorem yd2 : type_of% @Option.bind_eq_some_iff := @Option.bind_eq_some_iff
theorem ye2 : type_of% @List.mem_or_eq_of_mem_set := @List.mem_or_eq_of_mem_set
theorem yf2 : type_of% @List.length_eq_one_iff := @List.length_eq_one_iff
theorem yg2 : type_of% @Array.toArray_toList := @Array.toArray_toList
theorem yh2 : type_of% @List.length_cons := @List.length_cons
theorem yi2 : type_of% @List.mem_replicate := @List.mem_replicate
theorem yj2 : type_of% @Nat.mul_comm := @Nat.mul_comm
theorem yk2 : type_of% @Bool.false_eq_true := @Bool.false_eq_true
theorem yl2 : type_of% @Array.getElem?_eq_some_iff := @Array.getElem?_eq_some_iff
theorem ym2 : type_of% @List.length_set := @List.length_set
theorem yn2 : type_of% @List.length_take := @List.length_take
theorem yo2 : type_of% @List.all_eq_true := @List.all_eq_true
theorem yp2 : type_of% @List.getElem?_cons_zero := @List.getElem?_cons_zero
theorem yq2 : type_of% @Nat.beq_refl := @Nat.beq_refl
theorem yr2 : type_of% @List.getElem_mem := @List.getElem_mem
theorem yt2 : type_of% @Array.getElem?_append_left := @Array.getElem?_append_left
theorem yu2 : type_of% @List.mem_map := @List.mem_map
theorem yv2 : type_of% @List.cons_append := @List.cons_append
theorem yw2 : type_of% @Nat.lt_succ_self := @Nat.lt_succ_self
theorem yx2 : type_of% @List.take_length := @List.take_length
theorem yy2 : type_of% @List.mem_of_mem_take := @List.mem_of_mem_take
theorem yz2 : type_of% @List.map_take := @List.map_take
theorem ya3 : type_of% @List.nil_append := @List.nil_append
theorem yb3 : type_of% @List.length_nil := @List.length_nil
theorem yc3 : type_of% @Nat.add_assoc := @Nat.add_assoc
theorem yd3 : type_of% @Nat.zero_mul := @Nat.zero_mul
theorem ye3 : type_of% @Nat.mul_one := @Nat.mul_one
theorem yf3 : type_of% @List.drop_zero := @List.drop_zero
theorem yg3 : type_of% @Array.getElem?_replicate := @Array.getElem?_replicate
theorem yh3 : type_of% @Nat.add_sub_cancel_left := @Nat.add_sub_cancel_left
theorem yi3 : type_of% @Bool.and_true := @Bool.and_true
theorem yj3 : type_of% @List.all_cons := @List.all_cons
theorem yk3 : type_of% @Bool.and_self := @Bool.and_self
theorem yl3 : type_of% @List.map_append := @List.map_append
theorem ym3 : type_of% @Bool.true_and := @Bool.true_and
theorem yn3 : type_of% @Bool.not_true := @Bool.not_true
theorem yo3 : type_of% @List.map_drop := @List.map_drop
theorem yp3 : type_of% @List.map_nil := @List.map_nil
class GTab where
 tab : Nat → Option (Int × Int)
noncomputable section
def getR {α : Type} (l : List α) : Nat → Option α := List.rec (fun _ => none) (fun a _ ih n => Nat.rec (some a) (fun m _ => ih m) n) l
def setR {α : Type} (v : α) (l : List α) : Nat → List α := List.rec (fun _ => []) (fun a r ih n => Nat.rec (v :: r) (fun m _ => a :: ih m) n) l
theorem zf {α : Type} : ∀ (l : List α) (n : Nat), getR l n = l[n]?
 | [], n => by simp [getR]
 | a :: r, 0 => rfl
 | a :: r, n + 1 => by rw [ye1, ← zf r n]; rfl
theorem zP {α : Type} (v : α) : ∀ (l : List α) (n : Nat), setR v l n = l.set n v
 | [], n => by simp [setR]
 | a :: r, 0 => rfl
 | a :: r, n + 1 => by rw [List.set_cons_succ, ← zP v r n]; rfl
inductive PV where
 | lit (v : Value)
 | ints (k : IntKind) (xs : List Int)
 | sl (e : Nat) (xs : List PV)
 | agg (cs : List PV)
 deriving Inhabited
inductive AV where
 | lit (v : Value)
 | imm (β : Bool) (p : PV)
 | ptr (b g i c : Nat)
 | ms (b g o n : Nat)
 | msw (b g : Nat)
 | el (β : Bool) (p : PV) (c : Nat)
 | fn (f : Fn) (first cap : List AV)
 | agg (cs : List AV)
 | tup (vs : List AV)
 deriving Inhabited
inductive Row where
 | ints (k : IntKind) (xs : List Int)
 | pvs (β : Bool) (e : Nat) (xs : List PV)
 | cells (e : Nat) (cs : List AV)
 | own (e : Nat) (xs : List PV) (hs : List (Nat × Nat × AV))
 deriving Inhabited
structure Box where
 gen : Nat
 frz : Bool
 row : Row
 deriving Inhabited
abbrev Mem := List (Option Box)
structure St where
 tmps : List AV
 mem : Mem
structure Ann where
 live : List (Nat × List Nat) := []
 raw : List (Nat × Nat) := []
 boxed : List (Nat × Nat) := []
 vars : List (Nat × Nat) := []
 hint : List (Nat × Nat × Int) := []
 own : List (Nat × Nat) := []
 keep : List Nat := []
 tidy : List (Nat × List Nat × List (Operand × Nat × Operand × Nat)) := []
def assoc {α : Type} (n : Nat) : List (Nat × α) → Option α
 | [] => none
 | (m, x) :: r => bif Nat.beq m n then some x else assoc n r
def hasPair (a b : Nat) : List (Nat × Nat) → Bool
 | [] => false
 | (m, x) :: r => (Nat.beq m a && Nat.beq x b) || hasPair a b r
def memN (n : Nat) : List Nat → Bool
 | [] => false
 | m :: r => Nat.beq m n || memN n r
def guardB {α : Type} (c : Bool) (x : Option α) : Option α := bif c then x else none
def getI {α : Type} (xs : List α) (i : Int) : Option α := bif decide (0 ≤ i) then xs[i.toNat]? else none
def kEq (a b : IntKind) : Bool :=
 match a, b with
 | .i8, .i8 | .i16, .i16 | .i32, .i32 | .i64, .i64 | .u8, .u8 | .u16, .u16 | .u32, .u32 | .u64, .u64 => true
 | _, _ => false
def PV.int? (k : IntKind) : PV → Option Int
 | .lit (.int k' n) => bif kEq k k' then some n else none
 | _ => none
def PV.bool? : PV → Option Bool
 | .lit (.bool b) => some b
 | _ => none
def PV.str? : PV → Option ByteArray
 | .lit (.string s) => some s
 | _ => none
def PV.ints? (k : IntKind) : PV → Option (List Int)
 | .ints k' xs => bif kEq k k' then some xs else none
 | _ => none
def PV.sl? (e : Nat) : PV → Option (List PV)
 | .sl e' xs => bif Nat.beq e e' then some xs else none
 | _ => none
def PV.cells : PV → List PV
 | .agg cs => cs
 | p => [p]
inductive LK where
 | int (k : IntKind) | bool | str | ints (k : IntKind) | sl (t : TypeId) (e : Nat)
section
variable (P : Program)
def tsz (t : TypeId) : Option Nat := (P.info? t).map (·.size)
def tbytes (t : TypeId) : Option Nat := (P.info? t).map (·.bytes)
def intKind? (t : TypeId) : Option IntKind :=
 match P.underlying t with
 | some (.int k) => some k
 | _ => none
def elemOf? (t : TypeId) : Option TypeId :=
 match P.underlying t with
 | some (.slice e) => some e
 | _ => none
def isAgg? (t : TypeId) : Option Bool :=
 match P.underlying t with
 | some (.struct _) => some true
 | some (.array _ _) => some true
 | some _ => some false
 | none => none
def leaf? (t : TypeId) : Option LK :=
 match P.underlying t with
 | some (.int k) => some (.int k)
 | some .bool => some .bool
 | some .string => some .str
 | some (.slice e) =>
  match intKind? P e with
  | some k => some (.ints k)
  | none => (tsz P e).map (.sl e)
 | _ => none
def leavesIn (leaves : TypeId → Option (List LK)) : List Field → Option (List LK)
 | [] => some []
 | f :: r => (leaves f.type).bind fun a => (leavesIn leaves r).map (a ++ ·)
def leaves? : Nat → TypeId → Option (List LK)
 | 0, _ => none
 | n + 1, t =>
  match P.underlying t with
  | some (.struct fs) => leavesIn (leaves? n) fs.toList
  | _ => (leaf? P t).map fun l => [l]
def rdLeaf (β : Bool) (l : LK) (q : PV) : Option AV :=
 match l with
 | .int k => (q.int? k).bind fun x => some (.lit (.int k x))
 | .bool => q.bool?.bind fun x => some (.lit (.bool x))
 | .str => q.str?.bind fun x => some (.lit (.string x))
 | .ints k => (q.ints? k).bind fun x => some (.imm β (.ints k x))
 | .sl _ e => (q.sl? e).bind fun x => some (.imm β (.sl e x))
def rdLeaves (β : Bool) (cs : List PV) : List LK → Nat → Option (List AV)
 | [], _ => some []
 | l :: r, c => (cs[c]?).bind fun q => (rdLeaf β l q).bind fun a => (rdLeaves β cs r (c + 1)).bind fun as => some (a :: as)
def rdT (β : Bool) (t : TypeId) (p : PV) (c : Nat) : Option AV :=
 match isAgg? P t with
 | some true => (leaves? P 8 t).bind fun ls => (tsz P t).bind fun n => guardB (Nat.beq n ls.length) ((rdLeaves β p.cells ls c).bind fun as => some (.agg as))
 | some false => (leaf? P t).bind fun l => (p.cells[c]?).bind fun q => rdLeaf β l q
 | none => none
def notAgg : Value → Bool
 | .agg _ => false
 | _ => true
def lits : List Value → Option (List AV)
 | [] => some []
 | v :: r => guardB (notAgg v) ((lits r).map (.lit v :: ·))
def ofVal : Value → Option AV
 | .agg cs => (lits cs.toList).map .agg
 | v => some (.lit v)
def zero? (t : TypeId) : Option AV := ((P.info? t).bind (·.zero)).bind ofVal
def AV.dead : AV := .imm false (.agg [])
def AV.unkB : AV := .imm true (.lit (.bool false))
open Classical in
def amb {α : Type} (a b : Option α) : Option α := if a = b then a else none
def AV.goneV : AV := .imm true (.agg [])
def isGone : AV → Bool
 | .imm true (.agg _) => true
 | _ => false
def AV.cells : AV → List AV
 | .agg cs => cs
 | v => [v]
inductive View where
 | ints (k : IntKind) (xs : List Int)
 | pvs (β : Bool) (e : Nat) (xs : List PV)
 | avs (e : Nat) (cs : List AV)
def countBy (e : Nat) (n : Nat) : Nat := bif Nat.beq e 0 then 0 else bif Nat.beq e 1 then n else n / e
def View.len : View → Nat
 | .ints _ xs => xs.length
 | .pvs _ _ xs => xs.length
 | .avs e cs => countBy e cs.length
def View.imm? : View → Option AV
 | .ints k xs => some (.imm false (.ints k xs))
 | .pvs β e xs => some (.imm β (.sl e xs))
 | .avs _ _ => none
def View.row : View → Row
 | .ints k xs => .ints k xs
 | .pvs β e xs => .pvs β e xs
 | .avs e cs => .cells e cs
def intsOf (k : IntKind) : List AV → Option (List Int)
 | [] => some []
 | .lit (.int k' x) :: r => bif kEq k k' then (intsOf k r).map (x :: ·) else none
 | _ :: _ => none
def Row.len : Row → Nat
 | .ints _ xs => xs.length
 | .pvs _ _ xs => xs.length
 | .cells e cs => countBy e cs.length
 | .own _ xs _ => xs.length
def Row.e : Row → Nat
 | .ints _ _ => 1
 | .pvs _ e _ => e
 | .cells e _ => e
 | .own e _ _ => e
def View.e : View → Nat
 | .ints _ _ => 1
 | .pvs _ e _ => e
 | .avs e _ => e
def Row.all : Row → View
 | .ints k xs => .ints k xs
 | .pvs β e xs => .pvs β e xs
 | .cells e cs => .avs e cs
 | .own e xs _ => .pvs true e xs
def Row.sub (o n : Nat) : Row → Option View
 | .ints k xs => guardB (Nat.ble (o + n) xs.length) (some (.ints k ((xs.drop o).take n)))
 | .pvs β e xs => guardB (Nat.ble (o + n) xs.length) (some (.pvs β e ((xs.drop o).take n)))
 | .cells e cs => guardB (Nat.ble ((o + n) * e) cs.length) (some (.avs e ((cs.drop (o * e)).take (n * e))))
 | .own _ _ _ => none
def Row.isOwn : Row → Bool
 | .own _ _ _ => true
 | _ => false
def box? (mem : Mem) (b g : Nat) : Option Box :=
 match mem[b]? with
 | some (some x) => bif Nat.beq x.gen g && !x.row.isOwn then some x else none
 | _ => none
def boxO? (mem : Mem) (b g : Nat) : Option Box :=
 match mem[b]? with
 | some (some x) => bif Nat.beq x.gen g && x.row.isOwn then some x else none
 | _ => none
def bytesInts (s : ByteArray) : List Int := s.data.toList.map fun b => (b.toNat : Int)
def intsBytes (xs : List Int) : ByteArray := ⟨(xs.map fun n => UInt8.ofNat n.toNat).toArray⟩
def flatLK : LK → Bool
 | .int _ => true
 | .bool => true
 | .str => true
 | _ => false
def flatTy (et : TypeId) : Bool :=
 match leaves? P 8 et with
 | some ls => ls.all flatLK
 | none => false
def isLitPV : PV → Bool
 | .lit _ => true
 | _ => false
def flatPV (p : PV) : Bool := p.cells.all isLitPV
def view (et : TypeId) (mem : Mem) : AV → Option (View × List Nat)
 | .imm _ (.ints k xs) => some (.ints k xs, [])
 | .imm β (.sl e xs) => some (.pvs (bif flatTy P et && xs.all flatPV then false else β) e xs, [])
 | .ms b g o n => (box? mem b g).bind fun x => (x.row.sub o n).map fun v => (v, [b])
 | .msw b g => (box? mem b g).bind fun x => some (x.row.all, [b])
 | .lit (.string s) => some (.ints .u8 (bytesInts s), [])
 | .lit (.slice none 0 0) =>
  match intKind? P et with
  | some k => some (.ints k [], [])
  | none => (tsz P et).map fun e => (.pvs false e [], [])
 | _ => none
def lenOf (t : TypeId) (mem : Mem) (x : AV) : Option (Nat × List Nat) :=
 match P.underlying t with
 | some .string =>
  match x with
  | .lit (.string s) => some (s.size, [])
  | _ => none
 | some (.slice _) =>
  match x with
  | .imm _ (.ints _ xs) => some (xs.length, [])
  | .imm _ (.sl _ xs) => some (xs.length, [])
  | .ms b g o n => some (n, [])
  | .msw b g => (box? mem b g).map fun x => (x.row.len, [b])
  | .lit (.slice none 0 0) => some (0, [])
  | _ => none
 | _ => none
def oneA : AV → Bool
 | .lit v => v.oneCell'
 | .agg _ => false
 | .tup _ => false
 | _ => true
def onesA : List AV → Bool
 | [] => true
 | v :: r => oneA v && onesA r
def chunks {α : Type} (e : Nat) : Nat → List α → List (List α)
 | 0, _ => []
 | n + 1, cs => cs.take e :: chunks e n (cs.drop e)
def oneEl (t : TypeId) (cs : List PV) : Option PV :=
 match isAgg? P t with
 | some true => some (.agg cs)
 | some false => (match cs with | [c] => some c | _ => none)
 | none => none
def foldEls {α β : Type} (f : α → Option (Bool × β × List Nat)) : List α → Option (Bool × List β × List Nat)
 | [] => some (false, [], [])
 | v :: r => (f v).bind fun a => (foldEls f r).bind fun q => some (a.1 || q.1, a.2.1 :: q.2.1, a.2.2 ++ q.2.2)
def zipEls {α β γ : Type} (f : γ → α → Option (Bool × β × List Nat)) : List γ → List α → Option (Bool × List β × List Nat)
 | [], [] => some (false, [], [])
 | l :: ls, v :: r => (f l v).bind fun a => (zipEls f ls r).bind fun q => some (a.1 || q.1, a.2.1 :: q.2.1, a.2.2 ++ q.2.2)
 | _, _ => none
def tree (mem : Mem) : Nat → LK → AV → Option (Bool × PV × List Nat)
 | 0, _, _ => none
 | n + 1, l, v =>
  match l, v with
  | .int k, .lit (.int k' x) => guardB (kEq k k') (some (false, .lit (.int k' x), []))
  | .bool, .lit (.bool b) => some (false, .lit (.bool b), [])
  | .str, .lit (.string s) => some (false, .lit (.string s), [])
  | .ints k, .imm β (.ints k' xs) => guardB (kEq k k') (some (β, .ints k' xs, []))
  | .ints k, .lit (.slice none 0 0) => some (false, .ints k [], [])
  | .ints k, .msw b g => (box? mem b g).bind fun x => treeInts k b x.row.all
  | .ints k, .ms b g o m => (box? mem b g).bind fun x => (x.row.sub o m).bind fun w => treeInts k b w
  | .sl _ e, .imm β (.sl e' xs) => guardB (Nat.beq e e') (some (β, .sl e' xs, []))
  | .sl _ e, .lit (.slice none 0 0) => some (false, .sl e [], [])
  | .sl t e, .msw b g => (box? mem b g).bind fun x => treeSl (tree mem n) t e b x.row.all
  | .sl t e, .ms b g o m => (box? mem b g).bind fun x => (x.row.sub o m).bind fun w => treeSl (tree mem n) t e b w
  | _, _ => none
 where
 treeInts (k : IntKind) (b : Nat) (w : View) : Option (Bool × PV × List Nat) :=
  match w with
  | .ints k' xs => guardB (kEq k k') (some (false, .ints k' xs, [b]))
  | .avs e cs => guardB (Nat.beq e 1) ((intsOf k cs).map fun xs => (false, .ints k xs, [b]))
  | _ => none
 treeSl (f : LK → AV → Option (Bool × PV × List Nat)) (t : TypeId) (e b : Nat) (w : View) : Option (Bool × PV × List Nat) :=
  match w with
  | .pvs β e' xs => guardB (Nat.beq e e') (some (β, .sl e' xs, [b]))
  | .avs e' cs => guardB (Nat.beq e e' && Nat.ble 1 e) ((leaves? P 8 t).bind fun ls =>
    (foldEls (fun vs => (zipEls f ls vs).bind fun q => (oneEl P t q.2.1).map fun p => (q.1, p, q.2.2)) (chunks e (countBy e cs.length) cs)).map fun q => (q.1, .sl e q.2.1, b :: q.2.2))
  | _ => none
def treeDepth : Nat := 6
def treeO (mem : Mem) (v : AV) : Option (Nat × Nat × List PV) :=
 match v with
 | .msw b g => (boxO? mem b g).bind fun x => match x.row with
  | .own e xs [] => guardB (!x.frz) (some (b, e, xs))
  | _ => none
 | .ms b g 0 n => (boxO? mem b g).bind fun x => match x.row with
  | .own e xs [] => guardB (!x.frz && Nat.ble n xs.length) (some (b, e, xs.take n))
  | _ => none
 | _ => none
def treeX (mem : Mem) (l : LK) (v : AV) : Option (Bool × PV × List Nat) :=
 match treeO mem v with
 | some q => match l with
  | .sl _ e => guardB (Nat.beq e q.2.1) (some (false, .sl e q.2.2, [q.1]))
  | _ => none
 | none => tree P mem treeDepth l v
def toPV (mem : Mem) (t : TypeId) (v : AV) : Option (Bool × PV × List Nat) :=
 (leaves? P 8 t).bind fun ls => (zipEls (treeX P mem) ls v.cells).bind fun r => (oneEl P t r.2.1).map fun p => (r.1, p, r.2.2)
def Row.shut : Row → Row
 | .own e xs _ => .pvs false e xs
 | r => r
def Row.okShut : Row → Bool
 | .own _ _ (_ :: _) => false
 | _ => true
def frozenAt (mem : Mem) : List Nat → List (Nat × Box)
 | [] => []
 | b :: r => match mem[b]? with
  | some (some x) => bif x.row.okShut then (b, { x with frz := true, row := x.row.shut }) :: frozenAt mem r else frozenAt mem r
  | _ => frozenAt mem r
def cellsAll : List AV → List AV
 | [] => []
 | v :: r => v.cells ++ cellsAll r
def emptyN : List Nat → Bool
 | [] => true
 | _ => false
def sizesOk (e : Nat) : List AV → Bool
 | [] => true
 | v :: r => Nat.beq v.cells.length e && sizesOk e r
def toView (vars : Bool) (mem : Mem) (t : TypeId) (vs : List AV) : Option (View × List Nat) :=
 match intKind? P t with
 | some k => (intsOf k vs).map fun xs => (.ints k xs, [])
 | none => (tsz P t).bind fun e =>
  bif vars then guardB (sizesOk e vs && Nat.ble 1 e && onesA (cellsAll vs)) (some (.avs e (cellsAll vs), []))
  else (foldEls (toPV P mem t) vs).map fun r => (.pvs r.1 e r.2.1, r.2.2)
def rdAll (t : TypeId) (β : Bool) (e : Nat) : List PV → Option (List AV)
 | [] => some []
 | p :: r => (rdT P β t p 0).bind fun v => guardB (Nat.beq v.cells.length e) ((rdAll t β e r).map (v.cells ++ ·))
def View.toAvs (t : TypeId) : View → Option (List AV)
 | .ints k xs => some (xs.map fun x => .lit (.int k x))
 | .pvs β e xs => rdAll P t β e xs
 | .avs e cs => some cs
structure Out where
 v : AV
 rd : List Nat := []
 wr : List (Nat × Box) := []
 push : Mem := []
abbrev Oracle := FuncId → List AV → Mem → Option (AV × Mem)
def setMem (mem : Mem) : List (Nat × Box) → Mem
 | [] => mem
 | (b, x) :: r => setMem (mem.set b (some x)) r
def Out.apply (o : Out) (mem : Mem) : Mem := setMem mem o.wr ++ o.push
def litBin (op : BinOp) (x y : Value) : Option Value :=
 match x, y with
 | .int k a, .int k' b =>
  match op with
  | .shl => guardB (decide (0 ≤ b)) (some (.int k (k.wrap (a * 2 ^ (min b.toNat k.bits)))))
  | .shr => guardB (decide (0 ≤ b)) (some (.int k (a.fdiv (2 ^ (min b.toNat k.bits)))))
  | .add => guardB (kEq k k') (some (.int k (k.wrap (a + b))))
  | .sub => guardB (kEq k k') (some (.int k (k.wrap (a - b))))
  | .mul => guardB (kEq k k') (some (.int k (k.wrap (a * b))))
  | .quo => guardB (kEq k k') (guardB (!(b == 0)) (some (.int k (k.wrap (a.tdiv b)))))
  | .rem => guardB (kEq k k') (guardB (!(b == 0)) (some (.int k (a.tmod b))))
  | .and => guardB (kEq k k') (some (.int k (k.wrap (BitVec.ofInt k.bits a &&& BitVec.ofInt k.bits b).toNat)))
  | .or => guardB (kEq k k') (some (.int k (k.wrap (BitVec.ofInt k.bits a ||| BitVec.ofInt k.bits b).toNat)))
  | .xor => guardB (kEq k k') (some (.int k (k.wrap (BitVec.ofInt k.bits a ^^^ BitVec.ofInt k.bits b).toNat)))
  | .andNot => guardB (kEq k k') (some (.int k (k.wrap (BitVec.ofInt k.bits a &&& ~~~BitVec.ofInt k.bits b).toNat)))
  | .eql => guardB (kEq k k') (some (.bool (a == b)))
  | .neq => guardB (kEq k k') (some (.bool (a != b)))
  | .lss => guardB (kEq k k') (some (.bool (decide (a < b))))
  | .leq => guardB (kEq k k') (some (.bool (decide (a ≤ b))))
  | .gtr => guardB (kEq k k') (some (.bool (decide (a > b))))
  | .geq => guardB (kEq k k') (some (.bool (decide (a ≥ b))))
 | .bool a, .bool b =>
  match op with
  | .eql => some (.bool (a == b))
  | .neq => some (.bool (!(a == b)))
  | _ => none
 | .string a, .string b =>
  match op with
  | .eql => some (.bool (a.toList == b.toList))
  | .neq => some (.bool (!(a.toList == b.toList)))
  | _ => none
 | _, _ => none
def litUn (op : UnOp) (x : Value) : Option Value :=
 match op, x with
 | .neg, .int k n => some (.int k (k.wrap (0 - n)))
 | .xor, .int k n => some (.int k (k.wrap (BitVec.ofInt k.bits (if k.signed then -1 else k.max) ^^^ BitVec.ofInt k.bits n).toNat))
 | .not, .bool b => some (.bool (!b))
 | _, _ => none
def eqCell (t : TypeId) (a b : AV) : Option Bool :=
 match P.underlying t, a, b with
 | some (.int _), .lit (.int k a), .lit (.int k' b) => guardB (kEq k k') (some (a == b))
 | some .bool, .lit (.bool a), .lit (.bool b) => some (a == b)
 | some .string, .lit (.string a), .lit (.string b) => some (a.toList == b.toList)
 | _, _, _ => none
def eqCells : List Field → Nat → List AV → List AV → Option Bool
 | [], _, [], [] => some true
 | f :: fs, n, a :: as, b :: bs => guardB ((f.name != "_") && Nat.beq f.offset n) ((eqCell P f.type a b).bind fun q => (eqCells fs (n + 1) as bs).map fun r => q && r)
 | _, _, _, _ => none
def eqStructs (t : TypeId) (a b : List AV) : Option Bool :=
 match P.underlying t with
 | some (.struct fs) => guardB ((!(P.stoodInHeld t)) && (!(P.eqGuardType P.depth t))) (eqCells P fs.toList 0 a b)
 | _ => none
def isPtr (t : TypeId) : Bool :=
 match P.underlying t with
 | some (.pointer _) => true
 | _ => false
def isBoolT (t : TypeId) : Bool :=
 match P.underlying t with
 | some .bool => true
 | _ => false
def litsOk (t : TypeId) (a b : Value) : Bool :=
 match a, b with
 | .bool _, .bool _ => isBoolT P t
 | _, _ => true
def isSlT (t : TypeId) : Bool :=
 match P.underlying t with
 | some (.slice _) => true
 | _ => false
def emptyTree : PV → Option Bool
 | .ints _ xs => some xs.isEmpty
 | .sl _ xs => some xs.isEmpty
 | _ => none
def binA (op : BinOp) (t : TypeId) (x y : AV) : Option AV :=
 match x, y with
 | .imm _ p, .lit (.slice none 0 0) =>
  match op with
  | .eql => guardB (isSlT P t) ((emptyTree p).map fun e => bif e then .unkB else .lit (.bool false))
  | .neq => guardB (isSlT P t) ((emptyTree p).map fun e => bif e then .unkB else .lit (.bool true))
  | _ => none
 | .lit (.slice none 0 0), .lit (.slice none 0 0) =>
  match op with
  | .eql => guardB (isSlT P t) (some (.lit (.bool true)))
  | .neq => guardB (isSlT P t) (some (.lit (.bool false)))
  | _ => none
 | .lit a, .lit b => guardB (litsOk P t a b) ((litBin op a b).map .lit)
 | .agg a, .agg b =>
  match op with
  | .eql => (eqStructs P t a b).map fun r => .lit (.bool r)
  | .neq => (eqStructs P t a b).map fun r => .lit (.bool (!r))
  | _ => none
 | .ptr _ _ _ _, .lit (.pointer none) | .el _ _ _, .lit (.pointer none) =>
  match op with
  | .eql => guardB (isPtr P t) (some (.lit (.bool false)))
  | .neq => guardB (isPtr P t) (some (.lit (.bool true)))
  | _ => none
 | _, _ => none
def setCells : List AV → Nat → List AV → List AV
 | cs, _, [] => cs
 | cs, i, v :: r => setCells (cs.set i v) (i + 1) r
def setPVs : List PV → Nat → List PV → List PV
 | cs, _, [] => cs
 | cs, i, v :: r => setPVs (cs.set i v) (i + 1) r
def bound1 (y : Nat) : Option Int → Nat → Option Nat
 | none, d => some d
 | some i, _ => guardB (decide (0 ≤ i) && decide (i ≤ (y : Int))) (some i.toNat)
def bounds (len : Nat) (lo hi mx : Option Int) : Option (Nat × Nat) :=
 guardB (mx.isNone || hi.isSome)
  ((bound1 len mx len).bind fun m => (bound1 m hi len).bind fun h => (bound1 h lo 0).bind fun l => some (l, h))
def optInt : Option AV → Option (Option Int)
 | none => some none
 | some (.lit (.int _ n)) => some (some n)
 | some _ => none
def minA (k : IntKind) (x y : Int) : Int := bif decide (y < x) then y else x
def maxA (k : IntKind) (x y : Int) : Int := bif decide (y > x) then y else x
def foldInts (f : Int → Int → Int) (k : IntKind) : List AV → Int → Option Int
 | [], a => some a
 | .lit (.int k' b) :: r, a => guardB (kEq k k') (foldInts f k r (f a b))
 | _, _ => none
def mostLen : Nat := 4294967296
def View.app (t : TypeId) (x y : View) : Option View :=
 match x, y with
 | .ints k xs, .ints k' ys => guardB (kEq k k') (some (.ints k (xs ++ ys)))
 | .pvs β e xs, .pvs β' e' ys => guardB (Nat.beq e e') (some (.pvs (β || β') e (xs ++ ys)))
 | .avs e xs, y => (y.toAvs P t).bind fun ys => guardB (onesA ys && Nat.beq e y.e && Nat.ble 1 e) (some (.avs e (xs ++ ys)))
 | _, _ => none
def srcOk (tx : TypeId) (y : AV) : Bool :=
 match P.underlying tx, y with
 | some .string, .lit (.string _) => true
 | some (.slice _), .lit (.string _) => false
 | some (.slice _), _ => true
 | _, _ => false
def newRowOf (vars : Bool) (et : TypeId) (v : View) : Option Row :=
 bif vars then guardB (Nat.ble 1 v.len) ((v.toAvs P et).bind fun cs => guardB (onesA cs) (some (.cells v.e cs))) else
 match v with
 | .avs _ _ => none
 | v => some v.row
def appendA (boxed vars : Bool) (t tx : TypeId) (mem : Mem) (rs : Nat) (x y : AV) : Option Out :=
 (elemOf? P t).bind fun et => (tsz P et).bind fun s => (tbytes P et).bind fun bytes => (zero? P et).bind fun z =>
 (view P et mem y).bind fun yv =>
 guardB (Nat.beq s yv.1.e && srcOk P tx y && Nat.ble bytes 4096 && Nat.ble 1 s && Nat.beq z.cells.length s)
 (match x with
 | .lit (.slice none 0 0) =>
  guardB (Nat.ble yv.1.len mostLen) (
  bif boxed then (newRowOf P vars et yv.1).map fun row => { v := .msw rs 0, rd := yv.2, wr := [(rs, { gen := 0, frz := false, row })] }
  else yv.1.imm?.map fun v => { v, rd := yv.2 })
 | .msw b g => (box? mem b g).bind fun bx => (bx.row.all.app P et yv.1).bind fun zv =>
  guardB (!bx.frz && Nat.beq s bx.row.e && Nat.ble zv.len mostLen)
   (some { v := .msw b (g + 1), rd := b :: yv.2, wr := [(b, { gen := g + 1, frz := false, row := zv.row })] })
 | .ms b g 0 n => (box? mem b g).bind fun bx => (bx.row.sub 0 n).bind fun xv => (xv.app P et yv.1).bind fun zv =>
  guardB (!bx.frz && Nat.beq s bx.row.e && Nat.ble zv.len mostLen)
   (some { v := .msw b (g + 1), rd := b :: yv.2, wr := [(b, { gen := g + 1, frz := false, row := zv.row })] })
 | _ => none)
def indexA (t : TypeId) (mem : Mem) (x : AV) (i : Int) : Option Out :=
 match P.underlying t with
 | some (.slice et) => (tsz P et).bind fun s =>
  match x with
  | .imm β (.ints k xs) => guardB (Nat.beq s 1) ((getI xs i).bind fun v => some { v := .el β (.lit (.int k v)) 0 })
  | .imm β (.sl e xs) => guardB (Nat.beq s e) ((getI xs i).bind fun v => some { v := .el β v 0 })
  | .ms b g o n => (box? mem b g).bind fun bx => guardB (Nat.beq s bx.row.e && decide (0 ≤ i) && decide (i < (n : Int))) (some { v := .ptr b g (o + i.toNat) 0, rd := [b] })
  | .msw b g => (box? mem b g).bind fun bx => guardB (Nat.beq s bx.row.e && decide (0 ≤ i) && decide (i < (bx.row.len : Int))) (some { v := .ptr b g i.toNat 0, rd := [b] })
  | _ => none
 | some (.array n e) => (tsz P e).bind fun s =>
  match x with
  | .ptr b g j c => guardB (decide (0 ≤ i) && decide (i < (n : Int))) (some { v := .ptr b g j (c + i.toNat * s) })
  | _ => none
 | _ => none
def loadA (t : TypeId) (mem : Mem) (a : AV) : Option Out :=
 match a with
 | .el β p c => (rdT P β t p c).map fun v => { v }
 | .ptr b g i c => (box? mem b g).bind fun bx =>
  match bx.row with
  | .cells e cs =>
   (isAgg? P t).bind fun ag => bif ag then (tsz P t).bind fun n => guardB (Nat.ble (i * e + c + n) cs.length) (some { v := .agg ((cs.drop (i * e + c)).take n), rd := [b] })
    else (cs[i * e + c]?).map fun v => { v, rd := [b] }
  | .ints k xs => guardB (Nat.beq c 0) (guardB (match isAgg? P t with | some false => true | _ => false) ((xs[i]?).map fun x => { v := .lit (.int k x), rd := [b] }))
  | .pvs β e xs => (xs[i]?).bind fun x => (rdT P β t x c).map fun v => { v, rd := [b] }
  | .own _ _ _ => none
 | _ => none
def storeA (t : TypeId) (mem : Mem) (a x : AV) : Option Out :=
 match a with
 | .ptr b g i c => (box? mem b g).bind fun bx => (tsz P t).bind fun n => guardB (!bx.frz && Nat.beq x.cells.length n)
  (match bx.row with
  | .cells e cs => guardB (Nat.ble (i * e + c + n) cs.length && onesA x.cells) (some { v := .lit undef, rd := [b], wr := [(b, { bx with row := .cells e (setCells cs (i * e + c) x.cells) })] })
  | .ints k xs =>
   match x with
   | .lit (.int k' v) => guardB (kEq k k' && Nat.beq c 0 && Nat.ble (i + 1) xs.length) (some { v := .lit undef, rd := [b], wr := [(b, { bx with row := .ints k (xs.set i v) })] })
   | _ => none
  | .pvs β e xs => (xs[i]?).bind fun p => (toPV P mem t x).bind fun q => guardB (Nat.ble (c + n) e && Nat.beq p.cells.length e && !memN b q.2.2)
    (some { v := .lit undef, rd := b :: q.2.2, wr := frozenAt mem q.2.2 ++ [(b, { bx with row := .pvs (β || q.1) e (xs.set i (bif Nat.beq n e && Nat.beq c 0 then q.2.1 else .agg (setPVs p.cells c q.2.1.cells))) })] })
  | .own _ _ _ => none)
 | _ => none
def sliceA (t : TypeId) (mem : Mem) (x : AV) (lo hi mx : Option Int) : Option Out :=
 match P.underlying t with
 | some .string =>
  match x with
  | .lit (.string s) => guardB mx.isNone ((bounds s.size lo hi none).map fun b => { v := .lit (.string (s.extract b.1 b.2)) })
  | _ => none
 | some (.slice et) => (tsz P et).bind fun s =>
  match x with
  | .imm β (.ints k xs) => guardB (Nat.beq s 1) ((bounds xs.length lo hi mx).map fun b => { v := .imm β (.ints k ((xs.take b.2).drop b.1)) })
  | .imm β (.sl e xs) => guardB (Nat.beq s e) ((bounds xs.length lo hi mx).map fun b => { v := .imm β (.sl e ((xs.take b.2).drop b.1)) })
  | .ms b g o n => (box? mem b g).bind fun bx => guardB (Nat.beq s bx.row.e) ((bounds n lo hi mx).map fun q => { v := .ms b g (o + q.1) (q.2 - q.1), rd := [b] })
  | .msw b g => (box? mem b g).bind fun bx => guardB (Nat.beq s bx.row.e) ((bounds bx.row.len lo hi mx).map fun q => { v := .ms b g q.1 (q.2 - q.1), rd := [b] })
  | .lit (.slice none 0 0) => (bounds 0 lo hi mx).map fun _ => { v := .lit (.slice none 0 0) }
  | _ => none
 | some (.array n e) => (tsz P e).bind fun s =>
  match x with
  | .ptr b g 0 c => guardB (Nat.beq s 1) ((box? mem b g).bind fun bx =>
    match bx.row with
    | .cells 1 cs => guardB (Nat.ble (c + n) cs.length) ((bounds n lo hi mx).map fun q => { v := .ms b g (c + q.1) (q.2 - q.1), rd := [b] })
    | _ => none)
  | _ => none
 | _ => none
def fieldOff (s : TypeId) (f : Nat) : Option (Nat × Nat × TypeId) :=
 match P.underlying s with
 | some (.struct fs) => (fs[f]?).bind fun x => (tsz P x.type).bind fun n => guardB (Nat.ble 1 n) (some (x.offset, n, x.type))
 | _ => none
def fillA (place : Nat → Option (Nat × Nat)) (cs : List AV) : List (Nat × AV) → Option (List AV)
 | [] => some cs
 | (i, v) :: r => (place i).bind fun q => guardB (Nat.beq v.cells.length q.2 && Nat.ble (q.1 + q.2) cs.length) (fillA place (setCells cs q.1 v.cells) r)
def places? : List Field → Option (List (Nat × Nat))
 | [] => some []
 | f :: r => (tsz P f.type).bind fun n => (places? r).map ((f.offset, n) :: ·)
def buildA (t : TypeId) (parts : List (Nat × AV)) : Option AV :=
 (zero? P t).bind fun z =>
 match P.underlying t with
 | some (.struct fs) => (places? P fs.toList).bind fun ps => (fillA (fun i => ps[i]?) z.cells parts).map .agg
 | some (.array _ e) => (tsz P e).bind fun n => (fillA (fun i => some (i * n, n)) z.cells parts).map .agg
 | _ => none
def setEls (vs : List AV) : List (Nat × AV) → List AV
 | [] => vs
 | (i, v) :: r => setEls (vs.set i v) r
def partsLt (n : Nat) : List (Nat × AV) → Bool
 | [] => true
 | (i, _) :: r => Nat.ble (i + 1) n && partsLt n r
def allA (ρ : Operand → Option AV) : List Operand → Option (List AV)
 | [] => some []
 | x :: r => (ρ x).bind fun v => (allA ρ r).map (v :: ·)
def partsA (ρ : Operand → Option AV) : List (Nat × Operand) → Option (List (Nat × AV))
 | [] => some []
 | (i, x) :: r => (ρ x).bind fun v => (partsA ρ r).map ((i, v) :: ·)
def optA (ρ : Operand → Option AV) : Option Operand → Option (Option Int)
 | none => some none
 | some x => (ρ x).bind fun v => optInt (some v)
mutual
def AV.refs : AV → List Nat
 | .ptr b _ _ _ => [b]
 | .ms b _ _ _ => [b]
 | .msw b _ => [b]
 | .fn _ fi ca => AV.refsAll fi ++ AV.refsAll ca
 | .agg cs => AV.refsAll cs
 | .tup vs => AV.refsAll vs
 | .lit _ => []
 | .imm _ _ => []
 | .el _ _ _ => []
def AV.refsAll : List AV → List Nat
 | [] => []
 | v :: r => v.refs ++ AV.refsAll r
end
def holeRefs : List (Nat × Nat × AV) → List Nat
 | [] => []
 | (_, _, v) :: r => v.refs ++ holeRefs r
def Row.refs : Row → List Nat
 | .cells _ cs => AV.refsAll cs
 | .own _ _ hs => holeRefs hs
 | _ => []
def refsAt (mem : Mem) (b : Nat) : List Nat :=
 match mem[b]? with
 | some (some x) => x.row.refs
 | _ => []
def reach (mem : Mem) : Nat → List Nat → List Nat → List Nat
 | 0, _, seen => seen
 | _, [], seen => seen
 | n + 1, b :: todo, seen => bif memN b seen then reach mem n todo seen else reach mem n (todo ++ refsAt mem b) (seen ++ [b])
def idx (b : Nat) : List Nat → Nat → Option Nat
 | [], _ => none
 | m :: r, n => bif Nat.beq m b then some n else idx b r (n + 1)
def genOf (mem : Mem) (b : Nat) : Option Nat :=
 match mem[b]? with
 | some (some x) => some x.gen
 | _ => none
abbrev Ren := Nat → Nat → Option (Nat × Nat)
mutual
def AV.ren (f : Ren) : AV → AV
 | .ptr b g i c => match f b g with | some q => .ptr q.1 q.2 i c | none => .dead
 | .ms b g o n => match f b g with | some q => .ms q.1 q.2 o n | none => .dead
 | .msw b g => match f b g with | some q => .msw q.1 q.2 | none => .dead
 | .fn h fi ca => .fn h (AV.renAll f fi) (AV.renAll f ca)
 | .agg cs => .agg (AV.renAll f cs)
 | .tup vs => .tup (AV.renAll f vs)
 | .lit v => .lit v
 | .imm β p => .imm β p
 | .el β p c => .el β p c
def AV.renAll (f : Ren) : List AV → List AV
 | [] => []
 | v :: r => v.ren f :: AV.renAll f r
end
def holeRen (f : Ren) : List (Nat × Nat × AV) → List (Nat × Nat × AV)
 | [] => []
 | (i, c, v) :: r => (i, c, v.ren f) :: holeRen f r
def Row.ren (f : Ren) : Row → Row
 | .own e xs hs => .own e xs (holeRen f hs)
 | .cells e cs => .cells e (AV.renAll f cs)
 | .ints k xs => .ints k xs
 | .pvs β e xs => .pvs β e xs
def Row.isCells : Row → Bool
 | .cells _ _ => true
 | _ => false
def newGen (m : Nat) (keep cells : Bool) (j g : Nat) : Nat := bif Nat.blt j m && !cells then (bif keep && Nat.beq g 0 then 0 else 1) else 0
def cellsAt (mem : Mem) (b : Nat) : Bool :=
 match mem[b]? with
 | some (some x) => x.row.isCells
 | _ => false
def renTo (m : Nat) (keep : Bool) (mem : Mem) (ids : List Nat) : Ren := fun b g =>
 match genOf mem b with
 | some h => bif Nat.beq h g then (idx b ids 0).map fun j => (j, newGen m keep (cellsAt mem b) j h) else none
 | none => none
def pickMem (m : Nat) (keep : Bool) (f : Ren) (mem : Mem) : Nat → List Nat → Mem
 | _, [] => []
 | j, b :: r => (match mem[b]? with
  | some (some x) => some { gen := newGen m keep x.row.isCells j x.gen, frz := x.frz, row := x.row.ren f }
  | _ => none) :: pickMem m keep f mem (j + 1) r
def subset : List Nat → List Nat → Bool
 | [], _ => true
 | b :: r, ids => memN b ids && subset r ids
def disjN : List Nat → List Nat → Bool
 | [], _ => true
 | b :: r, ids => (!memN b ids) && disjN r ids
def nodupN : List Nat → Bool
 | [] => true
 | b :: r => (!memN b r) && nodupN r
def rangeN : Nat → Nat → List Nat
 | _, 0 => []
 | a, n + 1 => a :: rangeN (a + 1) n
def reachFuel (mem : Mem) (n : Nat) : Nat := (mem.length + 1) * (mem.length + 1) + n
def kinds (mem : Mem) : List (Option Bool) := mem.map fun x => x.map (·.row.isCells)
def oldOk : List (Option Bool) → Mem → Bool
 | [], _ => true
 | some k :: r, some x :: m => (bif k then x.row.isCells && Nat.beq x.gen 0 else !x.row.isCells) && oldOk r m
 | none :: r, none :: m => oldOk r m
 | _, _ => false
def startsN : Nat → Nat → List Nat → Bool
 | _, 0, _ => true
 | i, n + 1, b :: r => Nat.beq b i && startsN (i + 1) n r
 | _, _ + 1, [] => false
def memRefs : Mem → List Nat
 | [] => []
 | some x :: r => x.row.refs ++ memRefs r
 | none :: r => memRefs r
def countN (b : Nat) : List Nat → Nat
 | [] => 0
 | m :: r => bif Nat.beq m b then countN b r + 1 else countN b r
def holePV (mem : Mem) (v : AV) : Option (Nat × PV) :=
 match v with
 | .msw b g => (box? mem b g).bind fun x => bif x.frz then none else match x.row with
  | .ints k xs => some (b, .ints k xs)
  | .pvs false e xs => some (b, .sl e xs)
  | _ => none
 | .ms b g 0 n => (box? mem b g).bind fun x => bif x.frz then none else match x.row with
  | .ints k xs => guardB (Nat.ble n xs.length) (some (b, .ints k (xs.take n)))
  | .pvs false e xs => guardB (Nat.ble n xs.length) (some (b, .sl e (xs.take n)))
  | _ => none
 | _ => none
def holeBox (v : AV) : Option Nat :=
 match v with
 | .msw b _ => some b
 | .ms b _ _ _ => some b
 | _ => none
def samePV : PV → PV → Bool
 | .ints k _, .ints k' _ => kEq k k'
 | .sl e _, .sl e' _ => Nat.beq e e'
 | _, _ => false
def givable (m : Nat) (refs : List Nat) (mem : Mem) (v : AV) : Bool :=
 match holeBox v with
 | some b => Nat.ble m b && Nat.beq (countN b refs) 1 && (match mem[b]? with
  | some (some x) => (match v with | .msw _ g => Nat.beq x.gen g | .ms _ g _ _ => Nat.beq x.gen g | _ => false) && !x.frz && (match x.row with | .ints _ _ => true | .pvs β _ _ => !β | _ => false)
  | _ => false)
 | none => false
def findC (c : Nat) : List (Nat × Nat × AV) → Option (Nat × AV)
 | [] => none
 | (i, c', v) :: r => bif Nat.beq c c' then some (i, v) else findC c r
def dropAt {α : Type} : List α → Nat → List α
 | [], _ => []
 | _ :: r, 0 => r
 | a :: r, n + 1 => a :: dropAt r n
def firstHole (m : Nat) (refs : List Nat) (mem : Mem) (all : List (Nat × Nat × AV)) : List (Nat × Nat × AV) → Nat → Option Nat
 | [], _ => none
 | (_, c, v) :: r, k => bif givable m refs mem v && (findC c (dropAt all k)).isNone then some k else firstHole m refs mem all r (k + 1)
def findHole (m : Nat) (refs : List Nat) (mem : Mem) : Mem → Nat → Option (Nat × Nat)
 | [], _ => none
 | x :: r, b => match x with
  | some { row := .own _ _ hs, .. } => (match firstHole m refs mem hs hs 0 with
   | some k => some (b, k)
   | none => findHole m refs mem r (b + 1))
  | _ => findHole m refs mem r (b + 1)
def putPV (p : PV) (c : Nat) (y : PV) : PV :=
 match p with
 | .agg cs => .agg (cs.set c y)
 | _ => y
def giveBack (mem : Mem) (b k : Nat) : Option Mem :=
 match mem[b]? with
 | some (some { gen, frz, row := .own e xs hs }) => (hs[k]?).bind fun h => (xs[h.1]?).bind fun p => (p.cells[h.2.1]?).bind fun y => (holePV mem h.2.2).bind fun q =>
   guardB (samePV y q.2 && !(Nat.beq q.1 b) && (findC h.2.1 (dropAt hs k)).isNone) (some ((mem.set b (some { gen, frz, row := .own e (xs.set h.1 (putPV p h.2.1 q.2)) (dropAt hs k) })).set q.1 none))
 | _ => none
def settleH (m : Nat) (vs : List AV) : Nat → Mem → Option Mem
 | 0, mem => some mem
 | n + 1, mem => match findHole m (AV.refsAll vs ++ memRefs mem) mem mem 0 with
  | none => some mem
  | some q => (giveBack mem q.1 q.2).bind fun mem' => settleH m vs n mem'
def isBox (mem : Mem) (b : Nat) : Bool :=
 match mem[b]? with
 | some (some _) => true
 | _ => false
def sweepH (m : Nat) (vs : List AV) : Nat → Mem → Mem
 | 0, mem => mem
 | b + 1, mem => sweepH m vs b (bif Nat.ble m b && isBox mem b && Nat.beq (countN b (AV.refsAll vs ++ memRefs mem)) 0 then mem.set b none else mem)
def tidyH (m : Nat) (vs : List AV) (mem : Mem) : Option Mem := settleH m vs 64 (sweepH m vs mem.length mem)
def canon (keep : Bool) (old : List (Option Bool)) (vs : List AV) (mem0 : Mem) : Option (List AV × Mem) :=
 (tidyH old.length vs mem0).bind fun mem =>
 let ids := reach mem (reachFuel mem (old.length + (AV.refsAll vs).length)) (rangeN 0 old.length ++ AV.refsAll vs) []
 guardB (oldOk old mem && nodupN ids && startsN 0 old.length ids) (some (AV.renAll (renTo old.length keep mem ids) vs, pickMem old.length keep (renTo old.length keep mem ids) mem 0 ids))
def AV.frz (m : Nat) (mem : Mem) : AV → AV
 | .msw b g => bif Nat.ble m b then
   (match box? mem b g with
   | some x => (match x.row with
    | .ints k xs => .imm false (.ints k xs)
    | .pvs β e xs => .imm β (.sl e xs)
    | .cells _ _ => .msw b g
    | .own _ _ _ => .msw b g)
   | none => .msw b g)
  else .msw b g
 | v => v
def AV.frzAll (m : Nat) (mem : Mem) : List AV → List AV
 | [] => []
 | v :: r => v.frz m mem :: AV.frzAll m mem r
def frzRes (m : Nat) (mem : Mem) : AV → AV
 | .tup vs => .tup (AV.frzAll m mem vs)
 | .agg vs => .agg (AV.frzAll m mem vs)
 | v => v.frz m mem
mutual
def AV.lent : AV → Bool
 | .imm β _ => β
 | .el β _ _ => β
 | .fn _ fi ca => AV.lentAny fi || AV.lentAny ca
 | .agg cs => AV.lentAny cs
 | .tup vs => AV.lentAny vs
 | .lit _ => false
 | .ptr _ _ _ _ => false
 | .ms _ _ _ _ => false
 | .msw _ _ => false
def AV.lentAny : List AV → Bool
 | [] => false
 | v :: r => v.lent || AV.lentAny r
end
def holeLent : List (Nat × Nat × AV) → Bool
 | [] => false
 | (_, _, v) :: r => v.lent || holeLent r
def memLent : Mem → Bool
 | [] => false
 | some x :: r => (match x.row with | .cells _ cs => AV.lentAny cs | .pvs β _ _ => β | .ints _ _ => false | .own _ _ hs => holeLent hs) || memLent r
 | none :: r => memLent r
def lendLeaf (mem : Mem) (l : LK) (v : AV) : Option (AV × List Nat) :=
 match v with
 | .msw _ _ | .ms _ _ _ _ => (treeX P mem l v).map fun q => (.imm true q.2.1, q.2.2)
 | v => some (v, [])
def lendCells (mem : Mem) : List LK → List AV → Option (List AV × List Nat)
 | [], [] => some ([], [])
 | l :: ls, v :: vs => (lendLeaf P mem l v).bind fun a => (lendCells mem ls vs).bind fun r => some (a.1 :: r.1, a.2 ++ r.2)
 | _, _ => none
def hasMs : List AV → Bool
 | [] => false
 | .msw _ _ :: _ => true
 | .ms _ _ _ _ :: _ => true
 | _ :: r => hasMs r
def lend (mem : Mem) (t : TypeId) (v : AV) : Option (AV × List Nat) :=
 match v with
 | .msw _ _ | .ms _ _ _ _ => (leaf? P t).bind fun l => lendLeaf P mem l v
 | .agg cs => bif hasMs cs then (leaves? P 8 t).bind fun ls => (lendCells P mem ls cs).map fun r => (.agg r.1, r.2) else some (.agg cs, [])
 | v => some (v, [])
def lendAll (mem : Mem) : List TypeId → List AV → Option (List AV × List Nat)
 | [], [] => some ([], [])
 | t :: ts, v :: r => (lend P mem t v).bind fun a => (lendAll mem ts r).bind fun b => some (a.1 :: b.1, a.2 ++ b.2)
 | _, _ => none
def lends (keep : Bool) (mem : Mem) (ts : List TypeId) (vs : List AV) : Option (List AV × List Nat) := bif keep then some (vs, []) else lendAll P mem ts vs
def renBack (mem sub : Mem) (ids : List Nat) : Ren := fun b g =>
  (match ids[b]? with
  | some a => (match sub[b]?, genOf mem a with
   | some (some x), some h => bif Nat.beq x.gen g then some (a, h + x.gen) else none
   | _, _ => none)
  | none => bif Nat.beq g 0 && Nat.blt b sub.length then some (mem.length + (b - ids.length), 0) else none)
def backBoxes (f : Ren) (mem : Mem) : List Nat → Mem → List (Nat × Box)
 | a :: ids, some x :: r => (a, { gen := (match genOf mem a with | some h => h + x.gen | none => 0), frz := x.frz, row := x.row.ren f }) :: backBoxes f mem ids r
 | _ :: ids, none :: r => backBoxes f mem ids r
 | _, _ => []
def newBoxes (f : Ren) : Mem → Mem
 | [] => []
 | some x :: r => some { gen := 0, frz := x.frz, row := x.row.ren f } :: newBoxes f r
 | none :: r => none :: newBoxes f r
def allLt (m : Nat) : List Nat → Bool
 | [] => true
 | b :: r => Nat.blt b m && allLt m r
def callA (C : Oracle) (raw keep : Bool) (g : FuncId) (ts : List TypeId) (fi args ca : List AV) (mem : Mem) : Option Out :=
 (lends P keep mem ts args).bind fun la =>
 let all := fi ++ la.1 ++ ca
 let ids := reach mem (reachFuel mem (AV.refsAll all).length) (AV.refsAll all) []
 guardB (nodupN ids && disjN la.2 ids)
 ((C g (AV.renAll (renTo 0 true mem ids) all) (pickMem 0 true (renTo 0 true mem ids) mem 0 ids)).bind fun q =>
  let m := ids.length
  let r := bif raw then q.1 else frzRes m q.2 q.1
  guardB (Nat.ble m q.2.length && (emptyN la.2 || !(q.1.lent || memLent q.2)))
  (bif allLt m r.refs && allLt m (memRefs (q.2.take m)) then
   some { v := r.ren (renBack mem (q.2.take m) ids), rd := la.2 ++ ids, wr := backBoxes (renBack mem (q.2.take m) ids) mem ids q.2 }
  else
   some { v := q.1.ren (renBack mem q.2 ids), rd := la.2 ++ ids, wr := backBoxes (renBack mem q.2 ids) mem ids q.2, push := newBoxes (renBack mem q.2 ids) (q.2.drop m) }))
def zappA (t tx : TypeId) (mem : Mem) (rs : Nat) (n : Int) : Option Out :=
 match P.underlying tx with
 | some (.int _) => (elemOf? P t).bind fun et => (zero? P et).bind fun z =>
  match intKind? P et with
  | none => (toPV P mem et z).bind fun q => (tsz P et).bind fun e => (tbytes P et).bind fun bytes =>
   guardB (decide (1 ≤ n) && Nat.ble n.toNat mostLen && (Nat.ble 1 e && Nat.ble bytes 4096 && Nat.beq z.cells.length e && emptyN q.2.2)) (some { v := .msw rs 0, wr := [(rs, { gen := 0, frz := false, row := .pvs q.1 e (List.replicate n.toNat q.2.1) })] })
  | some _ => none
 | _ => none
def builtinA (boxed vars : Bool) (b : Builtin) (ts : List TypeId) (mem : Mem) (rs : Nat) (args : List AV) : Option Out :=
 match b, ts, args with
 | .len, [t], [x] => (lenOf P t mem x).map fun n => { v := .lit (.int .i64 (n.1 : Int)), rd := n.2 }
 | .append, [t, tx], [.lit (.slice none 0 0), .lit (.int _ n)] => zappA P t tx mem rs n
 | .append, [t, tx], [x, y] => appendA P boxed vars t tx mem rs x y
 | .cap, [t], [.lit (.slice none 0 0)] => (match P.underlying t with | some (.slice _) => some { v := .lit (.int .i64 0) } | _ => none)
 | .min, _, .lit (.int k a) :: r => (foldInts (minA k) k r a).map fun v => { v := .lit (.int k v) }
 | .max, _, .lit (.int k a) :: r => (foldInts (maxA k) k r a).map fun v => { v := .lit (.int k v) }
 | _, _, _ => none
def madeA (boxed : Bool) (rs : Nat) (v : View) : Option Out :=
 bif boxed then some { v := .msw rs 0, wr := [(rs, { gen := 0, frz := false, row := v.row })] } else v.imm?.map fun a => { v := a }
def convertA (boxed : Bool) (src dst : TypeId) (mem : Mem) (rs : Nat) (x : AV) : Option Out :=
 match P.underlying src, P.underlying dst, x with
 | some (.int _), some (.int k), .lit (.int _ n) => some { v := .lit (.int k (k.wrap n)) }
 | some .string, some .string, .lit (.string s) => some { v := .lit (.string s) }
 | some (.slice e), some .string, x =>
  match P.underlying e with
  | some (.int .u8) => (view P e mem x).bind fun v => guardB (srcOk P src x && (match tsz P e with | some 1 => true | _ => false)) <|
   match v.1 with
   | .ints .u8 xs => some { v := .lit (.string (intsBytes xs)), rd := v.2 }
   | _ => none
  | _ => none
 | some (.slice _), some (.slice e), .msw b g =>
  match P.underlying e with
  | some (.int .u8) => guardB (Nat.beq src dst) ((box? mem b g).bind fun x => guardB (Nat.ble 1 x.row.len) (some { v := .msw b g, rd := [b] }))
  | _ => none
 | _, _, _ => none
def pickA (c a b : AV) : Option AV :=
 match c with
 | .lit (.bool t) =>
  match a, b with
  | .lit (.bool x), .lit (.bool y) => some (.lit (.bool (bif t then x else y)))
  | _, _ => bif t then some a else some b
 | _ => none
def opPick (ρ : Operand → Option AV) (c a b : Operand) : Option Out :=
 (ρ c).bind fun c => (ρ a).bind fun a => (ρ b).bind fun b => (pickA c a b).map fun v => { v }
def opAlloc (rs : Nat) (t : TypeId) : Option Out :=
 (zero? P t).bind fun z => guardB (Nat.ble 1 z.cells.length && onesA z.cells) (some { v := .ptr rs 0 0 0, wr := [(rs, { gen := 0, frz := false, row := .cells 1 z.cells })] })
def opBox (ρ : Operand → Option AV) (rs : Nat) (t : TypeId) (x : Operand) : Option Out :=
 (ρ x).bind fun v => (tsz P t).bind fun n => guardB (Nat.beq v.cells.length n && Nat.ble 1 n && onesA v.cells) (some { v := .ptr rs 0 0 0, wr := [(rs, { gen := 0, frz := false, row := .cells 1 v.cells })] })
def opBuild (ρ : Operand → Option AV) (t : TypeId) (parts : Array (Nat × Operand)) : Option Out :=
 (partsA ρ parts.toList).bind fun ps => (buildA P t ps).map fun v => { v }
def opBuildSlice (boxed vars : Bool) (ρ : Operand → Option AV) (mem : Mem) (rs : Nat) (t : TypeId) (len : Nat) (parts : Array (Nat × Operand)) : Option Out :=
 (elemOf? P t).bind fun et => (zero? P et).bind fun z => (tsz P et).bind fun s => (partsA ρ parts.toList).bind fun ps =>
   guardB (partsLt len ps && Nat.ble len 4096 && Nat.ble 1 s && Nat.ble s 4096 && sizesOk s (z :: ps.map (·.2))) ((toView P vars mem et (setEls (List.replicate len z) ps)).bind fun w => guardB (Nat.beq w.1.e s) <|
    (madeA (boxed || Nat.beq len 0) rs w.1).map fun o => { v := o.v, rd := w.2, wr := frozenAt mem w.2 ++ o.wr })
def opStore (ρ : Operand → Option AV) (mem : Mem) (t : TypeId) (a x : Operand) : Option Out :=
 (ρ a).bind fun a => (ρ x).bind fun x => storeA P t mem a x
def opNil (ρ : Operand → Option AV) (x : Operand) : Option Out :=
 (ρ x).bind fun v =>
  match v with
  | .ptr b g i c => some { v }
  | .el β p c => some { v }
  | .fn (.func f) fi ca => some { v }
  | _ => none
def opBin (ρ : Operand → Option AV) (op : BinOp) (t : TypeId) (x y : Operand) : Option Out :=
 (ρ x).bind fun x => (ρ y).bind fun y => (binA P op t x y).map fun v => { v }
def opUn (ρ : Operand → Option AV) (op : UnOp) (x : Operand) : Option Out :=
 (ρ x).bind fun x =>
  match x with
  | .lit a => (litUn op a).map fun v => { v := .lit v }
  | _ => none
def opFunc (ρ : Operand → Option AV) (fn : Fn) (first cap : Array Operand) : Option Out :=
 (allA ρ first.toList).bind fun fi => (allA ρ cap.toList).map fun ca => { v := .fn fn fi ca }
def opMake (boxed : Bool) (ρ : Operand → Option AV) (mem : Mem) (rs : Nat) (t : TypeId) (l c : Operand) : Option Out :=
 (elemOf? P t).bind fun et => (zero? P et).bind fun z => (ρ l).bind fun l => (ρ c).bind fun c =>
  match l, c with
  | .lit (.int _ n), .lit (.int _ n') => guardB (n == n' && decide (0 ≤ n) && Nat.ble n.toNat mostLen) (
    match intKind? P et with
    | some k => (tsz P et).bind fun e => (tbytes P et).bind fun bytes => (intsOf k [z]).bind fun zs => guardB (Nat.beq e 1 && Nat.ble bytes 4096) (madeA boxed rs (.ints k (List.replicate n.toNat (zs.headD 0))))
    | none => (toPV P mem et z).bind fun q => (tsz P et).bind fun e => (tbytes P et).bind fun bytes =>
      guardB (Nat.ble 1 e && Nat.ble bytes 4096 && Nat.beq z.cells.length e && emptyN q.2.2) (madeA boxed rs (.pvs q.1 e (List.replicate n.toNat q.2.1))))
  | _, _ => none
def opSlice (ρ : Operand → Option AV) (mem : Mem) (t : TypeId) (x : Operand) (lo hi mx : Option Operand) : Option Out :=
 (ρ x).bind fun x => (optA ρ lo).bind fun lo => (optA ρ hi).bind fun hi => (optA ρ mx).bind fun mx => sliceA P t mem x lo hi mx
def opFieldAddr (ρ : Operand → Option AV) (s : TypeId) (x : Operand) (f : Nat) : Option Out :=
 (ρ x).bind fun x => (fieldOff P s f).bind fun q =>
  match x with
  | .ptr b g i c => some { v := .ptr b g i (c + q.1) }
  | .el β p c => some { v := .el β p (c + q.1) }
  | _ => none
def opField (ρ : Operand → Option AV) (s : TypeId) (x : Operand) (f : Nat) : Option Out :=
 (ρ x).bind fun x => (fieldOff P s f).bind fun q =>
  match x with
  | .agg cs => (isAgg? P q.2.2).bind fun ag => bif ag then guardB (Nat.ble (q.1 + q.2.1) cs.length) (some { v := .agg ((cs.drop q.1).take q.2.1) }) else (cs[q.1]?).map fun v => { v }
  | _ => none
def opIndex (ρ : Operand → Option AV) (mem : Mem) (t : TypeId) (x ix : Operand) : Option Out :=
 (ρ x).bind fun x => (ρ ix).bind fun ix =>
  match ix with
  | .lit (.int _ i) => indexA P t mem x i
  | _ => none
def opIndexV (ρ : Operand → Option AV) (t : TypeId) (x ix : Operand) : Option Out :=
 (ρ x).bind fun x => (ρ ix).bind fun ix =>
  match x, ix with
  | .agg cs, .lit (.int _ i) =>
   match P.underlying t with
   | some (.array n e) => (isAgg? P e).bind fun ag => (tsz P e).bind fun s => guardB (!ag && Nat.beq s 1 && decide (0 ≤ i) && decide (i < (n : Int))) ((cs[i.toNat]?).map fun v => { v })
   | _ => none
  | .lit (.string s), .lit (.int _ i) =>
   match P.underlying t with
   | some .string => (getI (bytesInts s) i).map fun n => { v := .lit (.int .u8 n) }
   | _ => none
  | _, _ => none
def opExtract (ρ : Operand → Option AV) (t : Operand) (ix : Nat) : Option Out :=
 (ρ t).bind fun t =>
  match t with
  | .tup vs => (vs[ix]?).map fun v => { v }
  | _ => none
def opCall (C : Oracle) (boxed raw vars : Bool) (ρ : Operand → Option AV) (mem : Mem) (rs : Nat) (c : Call) : Option Out :=
 (allA ρ c.args.toList).bind fun args =>
  match c.callee with
  | .builtin b => builtinA P boxed vars b c.argTypes.toList mem rs args
  | .value f => (ρ f).bind fun f =>
   match f with
   | .fn (.func g) fi ca => callA P C raw vars g c.argTypes.toList fi args ca mem
   | _ => none
  | .invoke _ _ => none
def isNilC : Operand → Bool
 | .const (.slice none 0 0) => true
 | _ => false
def emptyPV (t : TypeId) : Option PV :=
 (elemOf? P t).bind fun et =>
 match intKind? P et with
 | some k => some (.ints k [])
 | none => (tsz P et).bind fun e => guardB (Nat.ble 1 e) (some (.sl e []))
def rowOfPV : PV → Option Row
 | .ints k xs => some (.ints k xs)
 | .sl e xs => some (.pvs false e xs)
 | _ => none
def opMove (boxed vars : Bool) (ρ : Operand → Option AV) (t : TypeId) (rs : Nat) (x : Operand) : Option Out :=
 bif isNilC x && boxed && !vars then (emptyPV P t).bind fun p => (rowOfPV p).map fun row => { v := .msw rs 0, wr := [(rs, { gen := 0, frz := false, row })] }
 else (ρ x).bind fun v =>
  match v with
  | .lit (.slice none 0 0) => bif boxed then some { v } else (emptyPV P t).map fun p => { v := .imm false p }
  | v => some { v }
def opA (C : Oracle) (boxed raw vars : Bool) (o : Oper) (ρ : Operand → Option AV) (mem : Mem) (rs : Nat) : Option Out :=
 match o.op with
 | .move x => opMove P boxed vars ρ o.type rs x
 | .assign x => opMove P boxed vars ρ o.type rs x
 | .pick c a b => opPick ρ c a b
 | .alloc t => opAlloc P rs t
 | .box t x => opBox P ρ rs t x
 | .build t parts => opBuild P ρ t parts
 | .buildSlice t len parts => opBuildSlice P boxed vars ρ mem rs t len parts
 | .load t a => (ρ a).bind fun a => loadA P t mem a
 | .store t a x => opStore P ρ mem t a x
 | .nilCheck x => opNil ρ x
 | .binOp op t x y _ => opBin P ρ op t x y
 | .unOp op _ x => opUn ρ op x
 | .convert src dst x => (ρ x).bind fun x => convertA P boxed src dst mem rs x
 | .makeFunc fn first cap => opFunc ρ fn first cap
 | .makeSlice t l c => opMake P boxed ρ mem rs t l c
 | .slice t x lo hi mx => opSlice P ρ mem t x lo hi mx
 | .fieldAddr s x f => opFieldAddr P ρ s x f
 | .field s x f => opField P ρ s x f
 | .indexAddr t x ix => opIndex P ρ mem t x ix
 | .index t x ix => opIndexV P ρ t x ix
 | .extract t ix => opExtract ρ t ix
 | .call c => opCall P C boxed raw vars ρ mem rs c
 | _ => none
def ownAt (mem : Mem) (b : Nat) : Bool :=
 match mem[b]? with
 | some (some x) => x.row.isOwn
 | _ => false
def ownS (mem : Mem) : AV → Bool
 | .msw b _ => ownAt mem b
 | .ms b _ _ _ => ownAt mem b
 | _ => false
def ownW (mem : Mem) : AV → Bool
 | .msw b _ => ownAt mem b
 | _ => false
def ownP (mem : Mem) : AV → Bool
 | .ptr b _ _ _ => ownAt mem b
 | _ => false
def dropC (c : Nat) : List (Nat × Nat × AV) → List (Nat × Nat × AV)
 | [] => []
 | (i, c', v) :: r => bif Nat.beq c c' then r else (i, c', v) :: dropC c r
def leafRow : PV → Option Row
 | .ints k ys => some (.ints k ys)
 | .sl e ys => guardB (Nat.ble 1 e) (some (.pvs false e ys))
 | _ => none
def readO (tk : Bool) (xs : List PV) (i c : Nat) (l : LK) (hs : List (Nat × Nat × AV)) (nb : Nat) : Option (AV × List (Nat × Nat × AV) × List Row) :=
 (xs[i]?).bind fun p => (p.cells[c]?).bind fun y =>
 match findC c hs with
 | some h => guardB (Nat.beq i h.1) (some (h.2, hs, []))
 | none => bif flatLK l then (rdLeaf true l y).map fun v => (v, hs, [])
  else guardB tk ((leafRow y).map fun row => (.msw nb 0, (i, c, .msw nb 0) :: hs, [row]))
def readsO (tk : Bool) (xs : List PV) (i : Nat) : List LK → Nat → List (Nat × Nat × AV) → Nat → Option (List AV × List (Nat × Nat × AV) × List Row)
 | [], _, hs, _ => some ([], hs, [])
 | l :: ls, c, hs, nb => (readO tk xs i c l hs nb).bind fun a => (readsO tk xs i ls (c + 1) a.2.1 (nb + a.2.2.length)).map fun q => (a.1 :: q.1, q.2.1, a.2.2 ++ q.2.2)
def newOnes : List Row → Mem
 | [] => []
 | r :: rs => some { gen := 0, frz := false, row := r } :: newOnes rs
def tookO (b e : Nat) (bx : Box) (xs : List PV) (v : AV) (q : List (Nat × Nat × AV) × List Row) : Out :=
 match q.2 with
 | [] => { v, rd := [b] }
 | rows => { v, rd := [b], wr := [(b, { bx with row := .own e xs q.1 })], push := newOnes rows }
def loadO (tk : Bool) (t : TypeId) (mem : Mem) (a : AV) : Option Out :=
 match a with
 | .ptr b g i c => (boxO? mem b g).bind fun bx =>
  match bx.row with
  | .own e xs hs =>
   match isAgg? P t with
   | some false => (leaf? P t).bind fun l => (readO tk xs i c l hs mem.length).map fun q => tookO b e bx xs q.1 q.2
   | some true => (leaves? P 8 t).bind fun ls => (tsz P t).bind fun n => guardB (Nat.beq n ls.length) ((readsO tk xs i ls c hs mem.length).map fun q => tookO b e bx xs (.agg q.1) q.2)
   | none => none
  | _ => none
 | _ => none
def sameLit : Value → Value → Bool
 | .int k _, .int k' _ => kEq k k'
 | .bool _, .bool _ => true
 | .string _, .string _ => true
 | _, _ => false
def emptyOf : PV → Option PV
 | .ints k _ => some (.ints k [])
 | .sl e _ => guardB (Nat.ble 1 e) (some (.sl e []))
 | _ => none
def freeC (i c : Nat) (hs : List (Nat × Nat × AV)) : Option (List (Nat × Nat × AV)) :=
 match findC c hs with
 | none => some hs
 | some h => guardB (Nat.beq i h.1 && (findC c (dropC c hs)).isNone) (some (dropC c hs))
def storeO (t : TypeId) (mem : Mem) (a x : AV) : Option Out :=
 match a with
 | .ptr b g i c => (boxO? mem b g).bind fun bx =>
  match bx.row with
  | .own e xs hs => (tsz P t).bind fun n => guardB (Nat.beq n 1 && !bx.frz && oneA x) ((xs[i]?).bind fun p => (p.cells[c]?).bind fun y =>
   match y, x with
   | .lit u, .lit v => guardB (sameLit u v && (findC c hs).isNone) (some { v := .lit undef, rd := [b], wr := [(b, { bx with row := .own e (xs.set i (putPV p c (.lit v))) hs })] })
   | .lit _, _ => none
   | y, .lit (.slice none 0 0) => (emptyOf y).bind fun y' => (freeC i c hs).map fun hs' => { v := .lit undef, rd := [b], wr := [(b, { bx with row := .own e (xs.set i (putPV p c y')) hs' })] }
   | y, .lit _ => none
   | y, x => (freeC i c hs).map fun hs' => { v := .lit undef, rd := [b], wr := [(b, { bx with row := .own e xs ((i, c, x) :: hs') })] })
  | _ => none
 | _ => none
def lenO (t : TypeId) (mem : Mem) (x : AV) : Option Out :=
 match P.underlying t, x with
 | some (.slice _), .msw b g => (boxO? mem b g).map fun bx => { v := .lit (.int .i64 (bx.row.len : Int)), rd := [b] }
 | _, _ => none
def indexO (t : TypeId) (mem : Mem) (x : AV) (i : Int) : Option Out :=
 match P.underlying t with
 | some (.slice et) => (tsz P et).bind fun s =>
  match x with
  | .ms b g o n => (boxO? mem b g).bind fun bx => guardB (Nat.beq s bx.row.e && decide (0 ≤ i) && decide (i < (n : Int))) (some { v := .ptr b g (o + i.toNat) 0, rd := [b] })
  | .msw b g => (boxO? mem b g).bind fun bx => guardB (Nat.beq s bx.row.e && decide (0 ≤ i) && decide (i < (bx.row.len : Int))) (some { v := .ptr b g i.toNat 0, rd := [b] })
  | _ => none
 | _ => none
def sliceO (t : TypeId) (mem : Mem) (x : AV) (lo hi mx : Option Int) : Option Out :=
 match P.underlying t with
 | some (.slice et) => (tsz P et).bind fun s =>
  match x with
  | .ms b g o n => (boxO? mem b g).bind fun bx => guardB (Nat.beq s bx.row.e) ((bounds n lo hi mx).map fun q => { v := .ms b g (o + q.1) (q.2 - q.1), rd := [b] })
  | .msw b g => (boxO? mem b g).bind fun bx => guardB (Nat.beq s bx.row.e) ((bounds bx.row.len lo hi mx).map fun q => { v := .ms b g q.1 (q.2 - q.1), rd := [b] })
  | _ => none
 | _ => none
def cellO (l : LK) (v : AV) (j c : Nat) : Option (PV × List (Nat × Nat × AV)) :=
 match l, v with
 | .int k, .lit (.int k' x) => guardB (kEq k k') (some (.lit (.int k' x), []))
 | .bool, .lit (.bool b) => some (.lit (.bool b), [])
 | .str, .lit (.string s) => some (.lit (.string s), [])
 | .ints k, .lit (.slice none 0 0) => some (.ints k [], [])
 | .sl _ e, .lit (.slice none 0 0) => guardB (Nat.ble 1 e) (some (.sl e [], []))
 | .ints k, .msw b g => some (.ints k [], [(j, c, .msw b g)])
 | .ints k, .ms b g o n => some (.ints k [], [(j, c, .ms b g o n)])
 | .sl _ e, .msw b g => guardB (Nat.ble 1 e) (some (.sl e [], [(j, c, .msw b g)]))
 | .sl _ e, .ms b g o n => guardB (Nat.ble 1 e) (some (.sl e [], [(j, c, .ms b g o n)]))
 | _, _ => none
def elO : List LK → List AV → Nat → Nat → Option (List PV × List (Nat × Nat × AV))
 | [], [], _, _ => some ([], [])
 | l :: ls, v :: vs, j, c => (cellO l v j c).bind fun a => (elO ls vs j (c + 1)).map fun q => (a.1 :: q.1, a.2 ++ q.2)
 | _, _, _, _ => none
def elsO (t : TypeId) (ls : List LK) : List (List AV) → Nat → Option (List PV × List (Nat × Nat × AV))
 | [], _ => some ([], [])
 | cs :: r, j => (elO ls cs j 0).bind fun a => (oneEl P t a.1).bind fun p => (elsO t ls r (j + 1)).map fun q => (p :: q.1, a.2 ++ q.2)
def holesLt (n : Nat) : List (Nat × Nat × AV) → Bool
 | [] => true
 | (i, _, _) :: r => Nat.blt i n && holesLt n r
def appendO (own : Bool) (t tx : TypeId) (mem : Mem) (rs : Nat) (x y : AV) : Option Out :=
 (elemOf? P t).bind fun et => (tsz P et).bind fun s => (tbytes P et).bind fun bytes => (zero? P et).bind fun z => (leaves? P 8 et).bind fun ls =>
 (view P et mem y).bind fun yv =>
 match yv.1 with
 | .avs e cs => guardB (Nat.beq s e && srcOk P tx y && Nat.ble bytes 4096 && Nat.ble 1 s && Nat.beq z.cells.length s && Nat.beq ls.length s && onesA cs)
  (match x with
  | .lit (.slice none 0 0) => guardB own ((elsO P et ls (chunks s (countBy s cs.length) cs) 0).bind fun q => guardB (Nat.ble 1 q.1.length && Nat.ble q.1.length mostLen)
    (some { v := .msw rs 0, rd := yv.2, wr := [(rs, { gen := 0, frz := false, row := .own s q.1 q.2 })] }))
  | .msw b g => (boxO? mem b g).bind fun bx => match bx.row with
   | .own e' xs hs => (elsO P et ls (chunks s (countBy s cs.length) cs) xs.length).bind fun q => guardB (!bx.frz && Nat.beq s e' && holesLt xs.length hs && Nat.ble (xs ++ q.1).length mostLen)
     (some { v := .msw b (g + 1), rd := b :: yv.2, wr := [(b, { gen := g + 1, frz := false, row := .own e' (xs ++ q.1) (hs ++ q.2) })] })
   | _ => none
  | .ms b g 0 n => (boxO? mem b g).bind fun bx => match bx.row with
   | .own e' xs hs => (elsO P et ls (chunks s (countBy s cs.length) cs) n).bind fun q => guardB (!bx.frz && Nat.beq s e' && Nat.ble n xs.length && holesLt n hs && Nat.ble (xs.take n ++ q.1).length mostLen)
     (some { v := .msw b (g + 1), rd := b :: yv.2, wr := [(b, { gen := g + 1, frz := false, row := .own e' (xs.take n ++ q.1) (hs ++ q.2) })] })
   | _ => none
  | _ => none)
 | _ => none
def makeO (ρ : Operand → Option AV) (mem : Mem) (rs : Nat) (t : TypeId) (l c : Operand) : Option Out :=
 (elemOf? P t).bind fun et => (zero? P et).bind fun z => (ρ l).bind fun l => (ρ c).bind fun c => (leaves? P 8 et).bind fun ls =>
  match l, c with
  | .lit (.int _ n), .lit (.int _ n') => guardB (n == n' && decide (0 ≤ n) && Nat.ble n.toNat mostLen) (
    (elO ls z.cells 0 0).bind fun a => (oneEl P et a.1).bind fun p => (tsz P et).bind fun e => (tbytes P et).bind fun bytes =>
      guardB (Nat.ble 1 e && Nat.ble bytes 4096 && Nat.beq z.cells.length e && onesA z.cells && (match a.2 with | [] => true | _ => false)) (some { v := .msw rs 0, wr := [(rs, { gen := 0, frz := false, row := .own e (List.replicate n.toNat p) [] })] }))
  | _, _ => none
def buildO (ρ : Operand → Option AV) (mem : Mem) (rs : Nat) (t : TypeId) (len : Nat) (parts : Array (Nat × Operand)) : Option Out :=
 (elemOf? P t).bind fun et => (zero? P et).bind fun z => (tsz P et).bind fun s => (partsA ρ parts.toList).bind fun ps => (leaves? P 8 et).bind fun ls =>
   guardB (partsLt len ps && Nat.ble len 4096 && Nat.ble 1 s && Nat.ble s 4096 && sizesOk s (z :: ps.map (·.2)) && Nat.beq ls.length s && Nat.ble 1 len) ((elsO P et ls ((setEls (List.replicate len z) ps).map (·.cells)) 0).bind fun q =>
    guardB (onesA (cellsAll (setEls (List.replicate len z) ps))) (some { v := .msw rs 0, wr := [(rs, { gen := 0, frz := false, row := .own s q.1 q.2 })] }))
def moveO (t : TypeId) (rs : Nat) : Option Out :=
 (elemOf? P t).bind fun et => (tsz P et).bind fun e => guardB (Nat.ble 1 e) (some { v := .msw rs 0, wr := [(rs, { gen := 0, frz := false, row := .own e [] [] })] })
def builtinO (own : Bool) (b : Builtin) (ts : List TypeId) (mem : Mem) (rs : Nat) (args : List AV) : Option Out :=
 match b, ts, args with
 | .len, [t], [x] => lenO P t mem x
 | .append, [t, tx], [x, y] => appendO P own t tx mem rs x y
 | _, _, _ => none
def askO (ρ : Operand → Option AV) (p : AV → Bool) (x : Operand) : Bool :=
 match ρ x with
 | some v => p v
 | none => false
def isOwnOp (own : Bool) (ρ : Operand → Option AV) (mem : Mem) : Op → Bool
 | .move x => own && isNilC x
 | .assign x => own && isNilC x
 | .buildSlice _ _ _ => own
 | .makeSlice _ _ _ => own
 | .load _ a => askO ρ (ownP mem) a
 | .store _ a _ => askO ρ (ownP mem) a
 | .slice _ x _ _ _ => askO ρ (ownS mem) x
 | .indexAddr _ x _ => askO ρ (ownS mem) x
 | .call c => (match c.callee, c.args.toList with
  | .builtin .len, [x] => askO ρ (ownW mem) x
  | .builtin .append, [x, _] => own || askO ρ (ownS mem) x
  | _, _ => false)
 | _ => false
def opO (own tk : Bool) (o : Oper) (ρ : Operand → Option AV) (mem : Mem) (rs : Nat) : Option Out :=
 match o.op with
 | .move _ => moveO P o.type rs
 | .assign _ => moveO P o.type rs
 | .buildSlice t len parts => buildO P ρ mem rs t len parts
 | .makeSlice t l c => makeO P ρ mem rs t l c
 | .load t a => (ρ a).bind fun a => loadO P tk t mem a
 | .store t a x => (ρ a).bind fun a => (ρ x).bind fun x => storeO P t mem a x
 | .slice t x lo hi mx => (ρ x).bind fun x => (optA ρ lo).bind fun lo => (optA ρ hi).bind fun hi => (optA ρ mx).bind fun mx => sliceO P t mem x lo hi mx
 | .indexAddr t x ix => (ρ x).bind fun x => (ρ ix).bind fun ix =>
  match ix with
  | .lit (.int _ i) => indexO P t mem x i
  | _ => none
 | .call c => (allA ρ c.args.toList).bind fun args =>
  match c.callee with
  | .builtin b => builtinO P own b c.argTypes.toList mem rs args
  | _ => none
 | _ => none
def opX (C : Oracle) (own tk boxed raw vars : Bool) (o : Oper) (ρ : Operand → Option AV) (mem : Mem) (rs : Nat) : Option Out :=
 bif isOwnOp own ρ mem o.op then opO P own tk o ρ mem rs else opA P C boxed raw vars o ρ mem rs
structure Tr where
 i : Nat
 rd : List Nat
 wr : List Nat
 push : Bool
 rc : Bool
 wk : Nat → Bool
def ptrOf : AV → Option (Nat × Nat × Nat × Nat)
 | .ptr b g i c => some (b, g, i, c)
 | _ => none
def ptrCode (x : Box) : Option (Nat × Nat × List (Option (Nat × Nat × Nat × Nat))) :=
 match x.row with
 | .cells e cs => some (x.gen, e, cs.map ptrOf)
 | _ => none
def ptrCodeAt (mem : Mem) (b : Nat) : Option (Nat × Nat × List (Option (Nat × Nat × Nat × Nat))) :=
 match mem[b]? with
 | some (some x) => ptrCode x
 | _ => none
def eqQ (x y : Option (Nat × Nat × Nat × Nat)) : Bool :=
 match x, y with
 | none, none => true
 | some (a, b, c, d), some (a', b', c', d') => Nat.beq a a' && Nat.beq b b' && Nat.beq c c' && Nat.beq d d'
 | _, _ => false
def eqQs : List (Option (Nat × Nat × Nat × Nat)) → List (Option (Nat × Nat × Nat × Nat)) → Bool
 | [], [] => true
 | x :: xs, y :: ys => eqQ x y && eqQs xs ys
 | _, _ => false
def eqCode (x y : Option (Nat × Nat × List (Option (Nat × Nat × Nat × Nat)))) : Bool :=
 match x, y with
 | some (g, e, l), some (g', e', l') => Nat.beq g g' && Nat.beq e e' && eqQs l l'
 | _, _ => false
def keepsPtrs (mem : Mem) (wr : List (Nat × Box)) (b : Nat) : Bool := wr.all fun q => !(Nat.beq q.1 b) || eqCode (ptrCode q.2) (ptrCodeAt mem b)
def isLoad : Op → Bool
 | .load _ _ => true
 | _ => false
def rcOf (op : Op) (mem : Mem) (v : AV) (rd : List Nat) : Bool :=
 isLoad op && (match ptrOf v with | some _ => true | none => false) && (match rd with | [b] => (match ptrCodeAt mem b with | some _ => true | none => false) | _ => false)
def cstB (L : Nat) (all : List Tr) (b : Nat) : Bool := Nat.blt b L && all.all fun u => !(memN b u.wr) || u.wk b
def fixT (L : Nat) (all : List Tr) (t : Tr) : Tr := bif t.rc && (match t.rd with | [b] => cstB L all b | _ => false) then { t with rd := [] } else t
variable [GTab]
def getT (tmps : List AV) (t : Nat) : Option AV := (getR tmps t).bind fun v => bif isGone v then none else some v
def evalA (tmps : List AV) : Operand → Option AV
 | .tmp t => getT tmps t
 | .const v => ofVal v
 | .func f => some (.fn (.func f) [] [])
 | .global g => (GTab.tab g).map fun q => .el true (.agg [.lit (.int .i64 q.1), .lit (.int .i64 q.2)]) 0
def putA (tmps : List AV) (dst : Option Tmp) (v : AV) : List AV :=
 match dst with
 | some d => setR v tmps d
 | none => tmps
def makes : Op → Bool
 | .move x | .assign x => isNilC x
 | .alloc _ | .box _ _ | .buildSlice _ _ _ | .convert _ _ _ | .makeSlice _ _ _ => true
 | .call { callee := .builtin .append, .. } => true
 | _ => false
def makesN : List Oper → Nat
 | [] => 0
 | o :: r => (bif makes o.op then 1 else 0) + makesN r
def isRes (mem : Mem) (rs : Nat) : Bool :=
 match mem[rs]? with
 | some none => true
 | _ => false
def isNew : Option Box → Bool
 | none => true
 | some _ => false
def trim : Mem → Mem
 | [] => []
 | x :: r => match trim r with
  | [] => bif isNew x then [] else [x]
  | y => x :: y
def Out.tr (mk : Bool) (rs : Nat) (o : Out) (i : Nat) (op : Op) (mem : Mem) : Tr := { i, rc := rcOf op mem o.v o.rd, wk := keepsPtrs mem o.wr, rd := o.rd, wr := bif mk then rs :: o.wr.map (·.1) else o.wr.map (·.1), push := match o.push with | [] => false | _ => true }
variable {R : Type}
def hintAt (a b : Nat) : List (Nat × Nat × Int) → Option Int
 | [] => none
 | (m, x, v) :: r => bif Nat.beq m a && Nat.beq x b then some v else hintAt a b r
def hintOk (h : Option Int) (v : AV) (k : AV → Option R) : Option R :=
 match h with
 | none => k v
 | some x => match v with
  | .lit (.int kd y) => guardB (decide (y = x)) (k (.lit (.int kd x)))
  | .lit (.bool b) => bif decide (x = 0) then guardB (!b) (k (.lit (.bool false))) else guardB b (k (.lit (.bool true)))
  | v => k v
def opsA (C : Oracle) (an : Ann) (tk : Bool) (rid : Nat) (ds : List (Option Tmp)) : List Oper → Nat → Nat → St → List Tr → (St → List Tr → Option R) → Option R
 | [], _, _, st, tr, k => k st tr
 | o :: rest, i, rs, st, tr, k =>
  let rs' := bif makes o.op then rs + 1 else rs
  let run (st : St) : Option R := guardB (bif makes o.op then isRes st.mem rs else true) ((opX P C (hasPair rid i an.own) tk (hasPair rid i an.boxed) (hasPair rid i an.raw) (hasPair rid i an.vars) o (evalA st.tmps) st.mem rs).bind fun out =>
   hintOk (hintAt rid i an.hint) out.v fun v => opsA C an tk rid ds rest (i + 1) rs' { tmps := putA st.tmps o.dst v, mem := out.apply st.mem } (out.tr (makes o.op) rs i o.op st.mem :: tr) k)
  let skip (st : St) : Option R := opsA C an tk rid ds rest (i + 1) rs' { tmps := putA st.tmps o.dst (.lit undef), mem := st.mem } tr k
  match o.guard with
  | none => run st
  | some (j, want) =>
   match ds[j]? with
   | some (some d) =>
    match getR st.tmps d with
    | some (.lit (.bool b)) =>
     bif b then (bif want then run else skip) { st with tmps := setR (.lit (.bool true)) st.tmps d }
     else (bif want then skip else run) { st with tmps := setR (.lit (.bool false)) st.tmps d }
    | some (.lit (.tuple _)) => skip st
    | _ => none
   | _ => none
def maskOf (acc : List Nat) : List Edge → Nat
 | [] => 0
 | e :: r => bif Region.binds .any e then 2 ^ e.on ||| acc.getD e.on 0 ||| maskOf acc r else maskOf acc r
def befL : List Oper → List Nat → List Nat
 | [], acc => acc
 | o :: r, acc => befL r (acc ++ [maskOf acc o.after.toList])
def edgesLt (i : Nat) : List Edge → Bool
 | [] => true
 | e :: r => (!(Region.binds .any e) || Nat.blt e.on i) && edgesLt i r
def edgesBack : List Oper → Nat → Bool
 | [], _ => true
 | o :: r, i => edgesLt i o.after.toList && edgesBack r (i + 1)
def ordered (bs : List Nat) (i j : Nat) : Bool := (bs.getD j 0).testBit i || (bs.getD i 0).testBit j
def apartAt (ops : Array Oper) (i j : Nat) : Bool :=
 match ops[i]?, ops[j]? with
 | some x, some y => x.apart ops y
 | _, _ => false
def trOk (bs : List Nat) (L : Nat) (a : Tr) : List Tr → Bool
 | [] => true
 | b :: r => (ordered bs a.i b.i || (!(a.push && b.push) && disjN a.wr b.rd && disjN a.rd b.wr && disjN a.wr b.wr && (!a.push || (allLt L b.rd && allLt L b.wr)) && (!b.push || (allLt L a.rd && allLt L a.wr)))) && trOk bs L a r
def trsOk (bs : List Nat) (L : Nat) : List Tr → Bool
 | [] => true
 | a :: r => trOk bs L a r && trsOk bs L r
def isCallOp (o : Oper) : Bool :=
 match o.op with
 | .call c => (match c.callee with | .builtin _ => false | _ => true)
 | _ => false
def noCalls (bs : List Nat) (i : Nat) : List Oper → Nat → Bool
 | [], _ => true
 | o :: r, j => (Nat.beq i j || ordered bs i j || !(isCallOp o)) && noCalls bs i r (j + 1)
def pushOk (ops : Array Oper) (bs : List Nat) : List Tr → Bool
 | [] => true
 | a :: r => (!a.push || noCalls bs a.i ops.toList 0) && pushOk ops bs r
def apartAll (ops : Array Oper) (bs : List Nat) (i : Nat) : List Nat → Bool
 | [] => true
 | j :: r => (ordered bs i j || apartAt ops i j) && apartAll ops bs i r
def apartsOk (ops : Array Oper) (bs : List Nat) : List Nat → Bool
 | [] => true
 | i :: r => apartAll ops bs i r && apartsOk ops bs r
def drawOk (ops : Array Oper) (L : Nat) (tr : List Tr) : Bool :=
 let bs := befL ops.toList []
 edgesBack ops.toList 0 && trsOk bs L (tr.map (fixT L tr)) && pushOk ops bs tr && apartsOk ops bs (rangeN 0 ops.size)
def regionA (C : Oracle) (an : Ann) (rid : Nat) (ops : Array Oper) (draw : Bool) (st : St) (k : St → Option R) : Option R :=
 opsA P C an (!draw) rid (ops.toList.map (·.dst)) ops.toList 0 st.mem.length { st with mem := st.mem ++ List.replicate (makesN ops.toList) none } [] fun st' tr =>
  guardB (!draw || drawOk ops (st.mem.length + makesN ops.toList) tr) (k { st' with mem := trim st'.mem })
inductive Ex where
 | normal | exit (id : Nat) | ret
def clearTo (live : List Nat) : List AV → Nat → List AV
 | [], _ => []
 | v :: r, i => (bif memN i live then v else .goneV) :: clearTo live r (i + 1)
def headA (keep : Bool) (old : List (Option Bool)) (live : List Nat) (st : St) : Option St :=
 (canon keep old (clearTo live st.tmps 0) st.mem).map fun q => { tmps := q.1, mem := q.2 }
def iterA (keep : Bool) (old : List (Option Bool)) (live : List Nat) (body : St → (Ex → St → Option R) → Option R) : Nat → St → (Ex → St → Option R) → Option R
 | 0, _, _ => none
 | n + 1, st, k => (headA keep old live st).bind fun st1 => body st1 fun e st' =>
  match e with
  | .normal => iterA keep old live body n st' k
  | .exit id => k (.exit id) st'
  | .ret => k .ret st'
def pathA (mem : Mem) (off : Nat) : AV → Option AV
 | .ptr b g i c => (box? mem b g).bind fun x => match x.row with
  | .cells e cs => cs[i * e + c + off]?
  | _ => none
 | v => some v
def takeAt (mem : Mem) (s : AV) (n c : Nat) : Option Mem :=
 match s with
 | .msw b g => (boxO? mem b g).bind fun bx => match bx.row with
  | .own e xs hs => (readO true xs n c (.sl 0 0) hs mem.length).map fun r => mem.set b (some { bx with row := .own e xs r.2.1 }) ++ newOnes r.2.2
  | _ => none
 | _ => none
def takeA (tmps : List AV) (mem : Mem) (q : Operand × Nat × Operand × Nat) : Option Mem :=
 (evalA tmps q.1).bind fun p => (pathA mem q.2.1 p).bind fun s => (evalA tmps q.2.2.1).bind fun v =>
  match v with
  | .lit (.int _ n) => guardB (decide (0 ≤ n)) (takeAt mem s n.toNat q.2.2.2)
  | _ => none
def takesA (tmps : List AV) : List (Operand × Nat × Operand × Nat) → Mem → Option Mem
 | [], mem => some mem
 | q :: r, mem => (takeA tmps mem q).bind fun mem' => takesA tmps r mem'
def tidyA (an : Ann) (rid : Nat) (old : List (Option Bool)) (st : St) : Option St :=
 match assoc rid an.tidy with
 | none => some st
 | some q => (tidyH old.length (clearTo q.1 st.tmps 0) st.mem).bind fun mem => (takesA (clearTo q.1 st.tmps 0) q.2 mem).map fun mem' => { tmps := clearTo q.1 st.tmps 0, mem := mem' }
def codeA (C : Oracle) (an : Ann) (n : Nat) (old : List (Option Bool)) : Code → Nat → St → (Ex → St → Option R) → Option R
 | .skip, _, st, k => k .normal st
 | .ret, _, st, k => k .ret st
 | .exit id, _, st, k => k (.exit id) st
 | .seq a b, bid, st, k => codeA C an n old a bid st fun e st' =>
  match e with
  | .normal => codeA C an n old b bid st' k
  | .exit id => k (.exit id) st'
  | .ret => k .ret st'
 | .cond c x y, bid, st, k =>
  match evalA st.tmps c with
  | some (.lit (.bool t)) => bif t then codeA C an n old x bid st k else codeA C an n old y bid st k
  | some (.imm true (.lit (.bool false))) => amb (codeA C an n old x bid st k) (codeA C an n old y bid st k)
  | _ => none
 | .block id c, _, st, k => codeA C an n old c id st fun e st' =>
  match e with
  | .normal => k .normal st'
  | .exit j => bif Nat.beq j id then k .normal st' else k (.exit j) st'
  | .ret => k .ret st'
 | .loop c, bid, st, k => (assoc bid an.live).bind fun live => iterA (memN bid an.keep) old live (fun st k => codeA C an n old c bid st k) n st k
 | .region rid ops draw, _, st, k => (tidyA an rid old st).bind fun st => regionA P C an rid ops draw st (fun st' => k .normal st')
 | _, _, _, _ => none
def resA (tmps : List AV) (mem : Mem) : List ResultVar → Option (List AV)
 | [] => some []
 | .tmp t :: r => (getT tmps t).bind fun v => (resA tmps mem r).map (v :: ·)
 | .cell a t :: r => (getT tmps a).bind fun a => (loadA P t mem a).bind fun o => (resA tmps mem r).map (o.v :: ·)
def oneOrTup : List AV → AV
 | [v] => v
 | vs => .tup vs
def endA (fn : Func) (old : List (Option Bool)) (e : Ex) (st : St) : Option (AV × Mem) :=
 match e with
 | .exit _ => none
 | _ => (resA P st.tmps st.mem fn.results.toList).bind fun vs => (canon true old [oneOrTup vs] st.mem).bind fun q =>
  match q.1 with
  | [v] => some (v, q.2)
  | _ => none
end
end
end Go.Ab
end
section
namespace Go.Ab
abbrev cl (w : World) (B o : Nat) : Option Value := w.cell? ⟨B, o, none⟩
inductive PR (w : World) (pr : Nat → Nat → Prop) : PV → Value → Prop
 | lit (v : Value) (h : v.oneCell' = true) : PR w pr (.lit v) v
 | intsNil (k : IntKind) (a : Option Addr) : PR w pr (.ints k []) (.slice a 0 0)
 | ints (k : IntKind) (xs : List Int) (B o cap : Nat) (hcap : xs.length ≤ cap)
   (h : ∀ i x, xs[i]? = some x → cl w B (o + i) = some (.int k x) ∧ pr B (o + i)) : PR w pr (.ints k xs) (.slice (some ⟨B, o, none⟩) xs.length cap)
 | slNil (e : Nat) (a : Option Addr) : PR w pr (.sl e []) (.slice a 0 0)
 | sl (e : Nat) (xs : List PV) (B o cap : Nat) (cv : Nat → Nat → Value) (he : 1 ≤ e) (hcap : xs.length ≤ cap) (hlen : ∀ x ∈ xs, x.cells.length = e)
   (h : ∀ i x c y, xs[i]? = some x → x.cells[c]? = some y → cl w B (o + i * e + c) = some (cv i c) ∧ pr B (o + i * e + c))
   (h1 : ∀ i x c y, xs[i]? = some x → x.cells[c]? = some y → (cv i c).oneCell' = true)
   (hr : ∀ i x c y, xs[i]? = some x → x.cells[c]? = some y → PR w pr y (cv i c)) : PR w pr (.sl e xs) (.slice (some ⟨B, o, none⟩) xs.length cap)
 | agg (cs : List PV) (cvs : Array Value) (hlen : cs.length = cvs.size) (h : ∀ j y, cs[j]? = some y → PR w pr y (cvs.getD j undef)) : PR w pr (.agg cs) (.agg cvs)
def PV.isSl : PV → Bool
 | .ints _ _ => true
 | .sl _ _ => true
 | _ => false
structure Loc where
 blk : Option Nat
 e : Nat
 n : Nat
structure Gh where
 loc : Nat → Nat → Option Loc
 prot : Bool → Nat → Nat → Prop
 mine : Nat → Prop
def Fits (w : World) (B k : Nat) : Prop := ∀ j, j < k → (cl w B j).isSome = true
inductive VR (G : Gh) (w : World) : AV → Value → Prop
 | lit (v : Value) (h : notAgg v = true) : VR G w (.lit v) v
 | imm (β : Bool) (p : PV) (v : Value) (h : PR w (G.prot β) p v) (hs : p.isSl = true) : VR G w (.imm β p) v
 | unkB (b : Bool) : VR G w (.imm true (.lit (.bool false))) (.bool b)
 | dead (v : Value) (h1 : v.oneCell' = true) (h2 : notAgg v = true) : VR G w (.imm false (.agg [])) v
 | ptr (b g i c : Nat) (L : Loc) (B : Nat) (hl : G.loc b g = some L) (hb : L.blk = some B) : VR G w (.ptr b g i c) (.pointer (some ⟨B, i * L.e + c, none⟩))
 | ms (b g o n cap : Nat) (L : Loc) (B : Nat) (hl : G.loc b g = some L) (hb : L.blk = some B) (hn : n ≤ cap) (hon : o + n ≤ L.n) (hf : Fits w B ((o + cap) * L.e)) :
   VR G w (.ms b g o n) (.slice (some ⟨B, o * L.e, none⟩) n cap)
 | msNil (b g : Nat) (L : Loc) (hl : G.loc b g = some L) (hb : L.blk = none) : VR G w (.ms b g 0 0) (.slice none 0 0)
 | msZ (b g o B oo : Nat) (L : Loc) (hl : G.loc b g = some L) (hb : L.blk = some B) (ho : 1 ≤ o) (hon : o ≤ L.n) : VR G w (.ms b g o 0) (.slice (some ⟨B, oo, none⟩) 0 0)
 | msw (b g cap : Nat) (L : Loc) (B : Nat) (hl : G.loc b g = some L) (hb : L.blk = some B) (hn : L.n ≤ cap) (hf : Fits w B (cap * L.e)) :
   VR G w (.msw b g) (.slice (some ⟨B, 0, none⟩) L.n cap)
 | mswNil (b g : Nat) (L : Loc) (hl : G.loc b g = some L) (hb : L.blk = none) (hn : L.n = 0) : VR G w (.msw b g) (.slice none 0 0)
 | el (β : Bool) (p : PV) (c B o : Nat) (cv : Nat → Value)
   (h : ∀ j y, p.cells[j]? = some y → cl w B (o + j) = some (cv j) ∧ G.prot β B (o + j))
   (hr : ∀ j y, p.cells[j]? = some y → PR w (G.prot β) y (cv j)) : VR G w (.el β p c) (.pointer (some ⟨B, o + c, none⟩))
 | fn (f : Fn) (fi ca : List AV) (fv cv : Array Value) (h1 : fi.length = fv.size) (h2 : ca.length = cv.size)
   (hf : ∀ (j : Nat) (y : AV), fi[j]? = some y → VR G w y (fv.getD j undef)) (hc : ∀ (j : Nat) (y : AV), ca[j]? = some y → VR G w y (cv.getD j undef)) : VR G w (.fn f fi ca) (.func f fv cv)
 | agg (cs : List AV) (cvs : Array Value) (hlen : cs.length = cvs.size) (h : ∀ (j : Nat) (y : AV), cs[j]? = some y → VR G w y (cvs.getD j undef)) : VR G w (.agg cs) (.agg cvs)
 | tup (cs : List AV) (cvs : Array Value) (hlen : cs.length = cvs.size) (h : ∀ (j : Nat) (y : AV), cs[j]? = some y → VR G w y (cvs.getD j undef)) : VR G w (.tup cs) (.tuple cvs)
structure Ev (G : Gh) (w w' : World) : Prop where
 size : w.heap.size ≤ w'.heap.size
 out : w'.output = w.output
 os : w'.os = w.os
 away : ∀ B, B < w.heap.size → ¬ G.mine B → w'.heap[B]? = w.heap[B]?
 some : ∀ B o, (cl w B o).isSome = true → (cl w' B o).isSome = true
 prot : ∀ β B o, G.prot β B o → cl w' B o = cl w B o
 fz : ∀ B o, (cl w B o).isSome = true → w'.frozen? ⟨B, o, none⟩ = w.frozen? ⟨B, o, none⟩
 tape : w'.tape = w.tape
structure Gle (G G' : Gh) : Prop where
 mine : G'.mine = G.mine
 prot : ∀ β B o, G.prot β B o → G'.prot β B o
 loc : ∀ b g L, G.loc b g = some L → G'.loc b g = some L
 new : ∀ β B o, G'.prot β B o → G.prot β B o ∨ G.mine B
theorem Gle.refl (G : Gh) : Gle G G := ⟨rfl, fun _ _ _ h => h, fun _ _ _ h => h, fun _ _ _ h => .inl h⟩
theorem Gle.trans {G G1 G2 : Gh} (h : Gle G G1) (h' : Gle G1 G2) : Gle G G2 :=
 ⟨h'.mine.trans h.mine, fun _ _ _ x => h'.prot _ _ _ (h.prot _ _ _ x), fun _ _ _ x => h'.loc _ _ _ (h.loc _ _ _ x), fun _ _ _ x => (h'.new _ _ _ x).elim (h.new _ _ _) (fun y => .inr (by rw [← h.mine]; exact y))⟩
theorem Ev.refl (G : Gh) (w : World) : Ev G w w := ⟨yx _, rfl, rfl, fun _ _ _ => rfl, fun _ _ h => h, fun _ _ _ _ => rfl, fun _ _ _ => rfl, rfl⟩
theorem Ev.trans {G G1 : Gh} {w w1 w2 : World} (h : Ev G w w1) (hg : Gle G G1) (h' : Ev G1 w1 w2) : Ev G w w2 where
 size := yb2 h.size h'.size
 out := h'.out.trans h.out
 os := h'.os.trans h.os
 away B hb hm := (h'.away B (yx1 hb h.size) (by rw [hg.mine]; exact hm)).trans (h.away B hb hm)
 some B o x := h'.some B o (h.some B o x)
 prot β B o x := (h'.prot β B o (hg.prot _ _ _ x)).trans (h.prot β B o x)
 fz B o x := (h'.fz B o (h.some B o x)).trans (h.fz B o x)
 tape := h'.tape.trans h.tape
theorem Ev.of_eq {G : Gh} {w w' : World} (hh : w'.heap = w.heap) (ho : w'.output = w.output) (hs : w'.os = w.os) (ht : w'.tape = w.tape) : Ev G w w' := by
 have hc : ∀ a, w'.cell? a = w.cell? a := fun a => by unfold World.cell?; rw [hh]
 exact ⟨by rw [hh]; exact yx _, ho, hs, fun B _ _ => by rw [hh], fun B o h => by rw [cl, hc]; exact h, fun _ _ _ _ => hc _, fun _ _ _ => by unfold World.frozen?; rw [hh], ht⟩
theorem PR.mono {w w' : World} {pr pr' : Nat → Nat → Prop} (hp : ∀ B o, pr B o → pr' B o) (hc : ∀ B o, pr B o → cl w' B o = cl w B o)
  {p : PV} {v : Value} (h : PR w pr p v) : PR w' pr' p v := by
 induction h with
 | lit v h => exact .lit v h
 | intsNil k a => exact .intsNil k a
 | ints k xs B o cap hcap h => exact .ints k xs B o cap hcap fun i x hx => ⟨(hc _ _ (h i x hx).2).trans (h i x hx).1, hp _ _ (h i x hx).2⟩
 | slNil e a => exact .slNil e a
 | sl e xs B o cap cv he hcap hlen h h1 hr ih =>
  exact .sl e xs B o cap cv he hcap hlen (fun i x c y h1 h2 => ⟨(hc _ _ (h i x c y h1 h2).2).trans (h i x c y h1 h2).1, hp _ _ (h i x c y h1 h2).2⟩) h1 (fun i x c y h1 h2 => ih i x c y h1 h2)
 | agg cs cvs hlen h ih => exact .agg cs cvs hlen fun j y hy => ih j y hy
theorem Fits.mono {G : Gh} {w w' : World} (he : Ev G w w') {B k : Nat} (h : Fits w B k) : Fits w' B k := fun j hj => he.some B j (h j hj)
theorem VR.mono {G G' : Gh} {w w' : World} (hg : Gle G G') (he : Ev G w w') {a : AV} {v : Value} (h : VR G w a v) : VR G' w' a v := by
 induction h with
 | lit v h => exact .lit v h
 | imm β p v h hs => exact .imm β p v (h.mono (hg.prot β) (he.prot β)) hs
 | unkB b => exact .unkB b
 | dead v h1 h2 => exact .dead v h1 h2
 | ptr b g i c L B hl hb => exact .ptr b g i c L B (hg.loc _ _ _ hl) hb
 | ms b g o n cap L B hl hb hn hon hf => exact .ms b g o n cap L B (hg.loc _ _ _ hl) hb hn hon (hf.mono he)
 | msNil b g L hl hb => exact .msNil b g L (hg.loc _ _ _ hl) hb
 | msZ b g o B oo L hl hb ho hon => exact .msZ b g o B oo L (hg.loc _ _ _ hl) hb ho hon
 | msw b g cap L B hl hb hn hf => exact .msw b g cap L B (hg.loc _ _ _ hl) hb hn (hf.mono he)
 | mswNil b g L hl hb hn => exact .mswNil b g L (hg.loc _ _ _ hl) hb hn
 | el β p c B o cv h hr =>
  exact .el β p c B o cv (fun j y hy => ⟨(he.prot _ _ _ (h j y hy).2).trans (h j y hy).1, hg.prot _ _ _ (h j y hy).2⟩) (fun j y hy => (hr j y hy).mono (hg.prot β) (he.prot β))
 | fn f fi ca fv cv h1 h2 hf hc ihf ihc => exact .fn f fi ca fv cv h1 h2 ihf ihc
 | agg cs cvs hlen h ih => exact .agg cs cvs hlen ih
 | tup cs cvs hlen h ih => exact .tup cs cvs hlen ih
def VRs (G : Gh) (w : World) (as : List AV) (vs : Array Value) : Prop := as.length = vs.size ∧ ∀ (j : Nat) (y : AV), as[j]? = some y → VR G w y (vs.getD j undef)
theorem VRs.mono {G G' : Gh} {w w' : World} (hg : Gle G G') (he : Ev G w w') {as : List AV} {vs : Array Value} (h : VRs G w as vs) : VRs G' w' as vs :=
 ⟨h.1, fun j y hy => (h.2 j y hy).mono hg he⟩
def Free (w : World) (B : Nat) : Prop := ∃ c el lo hi, w.heap[B]? = some (.cells c el (lo, hi)) ∧ (lo = hi ∨ c.size ≤ lo)
def RowP (G : Gh) (w : World) (B : Nat) : Row → Prop
 | .ints k xs => ∀ i x, xs[i]? = some x → cl w B i = some (.int k x)
 | .pvs β e xs => (∀ x ∈ xs, x.cells.length = e) ∧ ∀ (i : Nat) (x : PV) (c : Nat) (y : PV), xs[i]? = some x → x.cells[c]? = some y → ∃ v, cl w B (i * e + c) = some v ∧ v.oneCell' = true ∧ PR w (G.prot β) y v
 | _ => False
def OR (G : Gh) (w : World) (y : PV) (v : Value) : Prop :=
 (∃ u, y = .lit u ∧ v = u) ∨ ∃ row, leafRow y = some row ∧ ((v = .slice none 0 0 ∧ row.len = 0) ∨ ∃ B' cap, v = .slice (some ⟨B', 0, none⟩) row.len cap ∧ row.len ≤ cap ∧ Fits w B' (cap * row.e) ∧
  G.mine B' ∧ B' < w.heap.size ∧ Free w B' ∧ RowP G w B' row ∧ ∀ β o, ¬ G.prot β B' o)
def holeFor (i c : Nat) : List (Nat × Nat × AV) → Option AV
 | [] => none
 | (i', c', v) :: r => if i' = i ∧ c' = c then some v else holeFor i c r
def HR (G : Gh) (w : World) (o : Option AV) (y : PV) (v : Value) : Prop :=
 match o with
 | some a => VR G w a v
 | none => OR G w y v
def RowR (G : Gh) (w : World) (B : Nat) : Row → Prop
 | .own e xs hs => (∀ h ∈ hs, h.1 < xs.length) ∧ (∀ x ∈ xs, x.cells.length = e) ∧ ∀ (i : Nat) (x : PV) (c : Nat) (y : PV), xs[i]? = some x → x.cells[c]? = some y →
   ∃ v, cl w B (i * e + c) = some v ∧ v.oneCell' = true ∧ HR G w (holeFor i c hs) y v
 | .ints k xs => ∀ i x, xs[i]? = some x → cl w B i = some (.int k x)
 | .pvs β e xs => (∀ x ∈ xs, x.cells.length = e) ∧ ∀ (i : Nat) (x : PV) (c : Nat) (y : PV), xs[i]? = some x → x.cells[c]? = some y → ∃ v, cl w B (i * e + c) = some v ∧ v.oneCell' = true ∧ PR w (G.prot β) y v
 | .cells e cs => cs.length = e * countBy e cs.length ∧ ∀ (j : Nat) (y : AV), cs[j]? = some y → ∃ v, cl w B j = some v ∧ v.oneCell' = true ∧ VR G w y v
theorem Free.cell {w : World} {B : Nat} (h : Free w B) {o : Nat} (ho : (cl w B o).isSome = true) : w.frozen? ⟨B, o, none⟩ = false := by
 obtain ⟨c, el, lo, hi, hb, hf⟩ := h
 unfold cl World.cell? at ho
 simp only [hb, Option.isSome_none, yk2, if_false] at ho
 have hlt : o < c.size := by
  rcases yc2 o c.size with h | h
  ·exact h
  ·rw [Array.getElem?_eq_none h] at ho; cases ho
 unfold World.frozen?
 simp only [hb, Bool.and_eq_false_iff, decide_eq_false_iff_not]
 omega
theorem Free.of_heap {w w1 : World} {B : Nat} (h : Free w B) (hh : w1.heap[B]? = w.heap[B]?) : Free w1 B := by
 obtain ⟨c, el, lo, hi, hb, hf⟩ := h
 exact ⟨c, el, lo, hi, by rw [hh]; exact hb, hf⟩
structure BoxR (G : Gh) (w : World) (b : Nat) (x : Box) : Prop where
 e : 1 ≤ x.row.e
 loc : ∃ o, G.loc b x.gen = some ⟨o, x.row.e, x.row.len⟩ ∧
  match o with
  | none => x.row.len = 0 ∧ x.row.isCells = false
  | some B => G.mine B ∧ B < w.heap.size ∧ Free w B ∧ RowR G w B x.row ∧ (x.frz = false → ∀ β o, ¬ G.prot β B o)
def Blk (G : Gh) (b : Nat) (x : Box) (B : Nat) : Prop := ∃ L, G.loc b x.gen = some L ∧ L.blk = some B
def InnB (w : World) (B : Nat) (r : Row) (i c B' : Nat) : Prop :=
 match r with
 | .own e xs hs => (∃ x y row, xs[i]? = some x ∧ x.cells[c]? = some y ∧ leafRow y = some row) ∧ holeFor i c hs = none ∧ ∃ n cap, cl w B (i * e + c) = some (.slice (some ⟨B', 0, none⟩) n cap)
 | _ => False
theorem InnB.own {w : World} {B : Nat} {r : Row} {i c B' : Nat} (h : InnB w B r i c B') : r.isOwn = true := by
 cases r <;> first | rfl | cases h
def Other (G : Gh) (w : World) (mem : Mem) (b B' : Nat) : Prop := ∃ (b' : Nat) (y : Box) (B : Nat), b' ≠ b ∧ mem[b']? = some (some y) ∧ Blk G b' y B ∧ (B' = B ∨ ∃ i c, InnB w B y.row i c B')
variable [GTab]
def GlobR (G : Gh) (w : World) : Prop := ∀ (g : Nat) (q : Int × Int), GTab.tab g = some q → (cl w g 0 = some (.int .i64 q.1) ∧ G.prot true g 0) ∧ cl w g 1 = some (.int .i64 q.2) ∧ G.prot true g 1
theorem GlobR.mono {G G' : Gh} {w w' : World} (h : GlobR G w) (hp : ∀ B o, G.prot true B o → G'.prot true B o) (hc : ∀ B o, G.prot true B o → cl w' B o = cl w B o) : GlobR G' w' := fun g q hq =>
 ⟨⟨(hc _ _ (h g q hq).1.2).trans (h g q hq).1.1, hp _ _ (h g q hq).1.2⟩, (hc _ _ (h g q hq).2.2).trans (h g q hq).2.1, hp _ _ (h g q hq).2.2⟩
structure MemR (G : Gh) (w : World) (mem : Mem) : Prop where
 box : ∀ (b : Nat) (x : Box), mem[b]? = some (some x) → BoxR G w b x
 unset : ∀ b g, (∀ x : Box, mem[b]? ≠ some (some x)) → G.loc b g = none
 gens : ∀ (b : Nat) (x : Box) (g : Nat), mem[b]? = some (some x) → x.gen < g → G.loc b g = none
 apart : ∀ (b b' : Nat) (x x' : Box) (L L' : Loc) (B : Nat), mem[b]? = some (some x) → mem[b']? = some (some x') → G.loc b x.gen = some L → G.loc b' x'.gen = some L' →
  L.blk = some B → L'.blk = some B → b = b'
 inA : ∀ (b b' : Nat) (x x' : Box) (B i c B' : Nat), mem[b]? = some (some x) → Blk G b x B → InnB w B x.row i c B' → mem[b']? = some (some x') → ¬ Blk G b' x' B'
 inB : ∀ (b b' : Nat) (x x' : Box) (B C i c i' c' B' : Nat), mem[b]? = some (some x) → Blk G b x B → InnB w B x.row i c B' → mem[b']? = some (some x') → Blk G b' x' C → InnB w C x'.row i' c' B' → b = b' ∧ i = i' ∧ c = c'
 own : ∀ B, w.heap.size ≤ B → G.mine B
 lab : ∀ B o, G.prot false B o → G.prot true B o
 away : ∀ β B o, G.prot β B o → B < w.heap.size
 glob : GlobR G w
def SameB (w w' : World) (B : Nat) : Prop := (∀ o, cl w' B o = cl w B o) ∧ (Free w B → Free w' B)
theorem SameB.of {w w' : World} {B : Nat} (h : w'.heap[B]? = w.heap[B]?) : SameB w w' B := ⟨fun o => by unfold cl World.cell?; simp only [h], fun hf => hf.of_heap h⟩
theorem RowP.mono {G G' : Gh} {w w' : World} (hg : Gle G G') (he : Ev G w w') {B : Nat} (hsame : ∀ o, (cl w B o).isSome = true → cl w' B o = cl w B o) {r : Row} (h : RowP G w B r) : RowP G' w' B r := by
 cases r with
 | ints k xs => exact fun i x hx => by rw [hsame i (by rw [h i x hx]; rfl)]; exact h i x hx
 | pvs β e xs =>
  refine ⟨h.1, fun i x c y h1 h2 => ?_⟩
  obtain ⟨v, hv, h1v, hp⟩ := h.2 i x c y h1 h2
  exact ⟨v, by rw [hsame _ (by rw [hv]; rfl)]; exact hv, h1v, hp.mono (hg.prot β) (he.prot β)⟩
 | cells e cs => cases h
 | own e xs hs => cases h
theorem OR.mono {G G' : Gh} {w w' : World} (hg : Gle G G') (he : Ev G w w') {y : PV} {v : Value} (h : OR G w y v)
  (hin : ∀ B' n cap, (∃ row, leafRow y = some row) → v = .slice (some ⟨B', 0, none⟩) n cap → SameB w w' B' ∧ ∀ β o, ¬ G'.prot β B' o) : OR G' w' y v := by
 rcases h with h | ⟨row, hrow, h⟩
 ·exact .inl h
 ·refine .inr ⟨row, hrow, ?_⟩
  rcases h with h | ⟨B', cap, hv, h1, h2, h3, h4, h5, h6, h7⟩
  ·exact .inl h
  ·obtain ⟨hh, hp⟩ := hin B' _ _ ⟨row, hrow⟩ hv
   exact .inr ⟨B', cap, hv, h1, h2.mono he, by rw [hg.mine]; exact h3, yx1 h4 he.size, hh.2 h5, h6.mono hg he (fun o _ => hh.1 o), hp⟩
theorem RowR.mono {G G' : Gh} {w w' : World} (hg : Gle G G') (he : Ev G w w') {B : Nat} (hsame : ∀ o, (cl w B o).isSome = true → cl w' B o = cl w B o) {r : Row}
  (hin : ∀ i c B', InnB w B r i c B' → SameB w w' B' ∧ ∀ β o, ¬ G'.prot β B' o) (h : RowR G w B r) : RowR G' w' B r := by
 cases r with
 | ints k xs => exact fun i x hx => by rw [hsame i (by rw [h i x hx]; rfl)]; exact h i x hx
 | pvs β e xs =>
  refine ⟨h.1, fun i x c y h1 h2 => ?_⟩
  obtain ⟨v, hv, h1v, hp⟩ := h.2 i x c y h1 h2
  exact ⟨v, by rw [hsame _ (by rw [hv]; rfl)]; exact hv, h1v, hp.mono (hg.prot β) (he.prot β)⟩
 | cells e cs =>
  refine ⟨h.1, fun j y hy => ?_⟩
  obtain ⟨v, hv, h1v, hp⟩ := h.2 j y hy
  exact ⟨v, by rw [hsame _ (by rw [hv]; rfl)]; exact hv, h1v, hp.mono hg he⟩
 | own e xs hs =>
  refine ⟨h.1, h.2.1, fun i x c y h1 h2 => ?_⟩
  obtain ⟨v, hv, h1v, hp⟩ := h.2.2 i x c y h1 h2
  refine ⟨v, by rw [hsame _ (by rw [hv]; rfl)]; exact hv, h1v, ?_⟩
  cases ho : holeFor i c hs with
  | some a => rw [ho] at hp; exact VR.mono hg he hp
  | none =>
   rw [ho] at hp
   refine OR.mono hg he hp fun B' n cap hrow hvv => ?_
   obtain ⟨row, hrow⟩ := hrow
   exact hin i c B' ⟨⟨x, y, row, h1, h2, hrow⟩, ho, n, cap, by rw [hv, hvv]⟩
theorem MemR.blk {G : Gh} {w : World} {mem : Mem} (hM : MemR G w mem) {b : Nat} {x : Box} {B : Nat} (hx : mem[b]? = some (some x)) (hB : Blk G b x B) :
  G.loc b x.gen = some ⟨some B, x.row.e, x.row.len⟩ ∧ G.mine B ∧ B < w.heap.size ∧ Free w B ∧ RowR G w B x.row ∧ (x.frz = false → ∀ β o, ¬ G.prot β B o) := by
 obtain ⟨L, hl, hb⟩ := hB
 obtain ⟨o, hl', hm⟩ := (hM.box b x hx).loc
 have hLL := hl
 rw [hl'] at hLL
 obtain rfl := ya hLL
 simp only at hb; subst hb
 exact ⟨hl', hm⟩
theorem MemR.inn {G : Gh} {w : World} {mem : Mem} (hM : MemR G w mem) {b : Nat} {x : Box} {B i c B' : Nat} (hx : mem[b]? = some (some x)) (hB : Blk G b x B) (hi : InnB w B x.row i c B') :
  G.mine B' ∧ B' < w.heap.size ∧ Free w B' ∧ ∀ β o, ¬ G.prot β B' o := by
 obtain ⟨_, _, _, _, hr, _⟩ := hM.blk hx hB
 cases hrow : x.row with
 | own e xs hs =>
  rw [hrow] at hi hr
  obtain ⟨⟨p, y, row, h1, h2, h3⟩, ho, n, cap, hc⟩ := hi
  obtain ⟨v, hv, _, hp⟩ := hr.2.2 i p c y h1 h2
  rw [ho] at hp
  rw [hc] at hv
  obtain rfl := ya hv
  rcases hp with ⟨u, hu, _⟩ | ⟨row', hrow', hp⟩
  ·subst hu; simp [leafRow] at h3
  ·rcases hp with ⟨hn, _⟩ | ⟨B2, cap2, hv, _, _, m1, m2, m3, _, m4⟩
   ·cases hn
   ·simp only [Value.slice.injEq, Option.some.injEq, Addr.mk.injEq, true_and, and_true] at hv
    obtain ⟨rfl, _⟩ := hv
    exact ⟨m1, m2, m3, m4⟩
 | _ => rw [hrow] at hi; cases hi
theorem MemR.other {G : Gh} {w : World} {mem : Mem} (hM : MemR G w mem) {b B' : Nat} (h : Other G w mem b B') : G.mine B' ∧ B' < w.heap.size ∧ Free w B' := by
 obtain ⟨b', y, B, _, hy, hB, h⟩ := h
 rcases h with rfl | ⟨i, c, hi⟩
 ·obtain ⟨_, h1, h2, h3, _⟩ := hM.blk hy hB; exact ⟨h1, h2, h3⟩
 ·obtain ⟨h1, h2, h3, _⟩ := hM.inn hy hB hi; exact ⟨h1, h2, h3⟩
theorem MemR.other_ne {G : Gh} {w : World} {mem : Mem} (hM : MemR G w mem) {b B B' : Nat} {x : Box} (hx : mem[b]? = some (some x)) (hB : Blk G b x B) (h : Other G w mem b B') : B' ≠ B := by
 rintro rfl
 obtain ⟨b', y, C, hne, hy, hC, h⟩ := h
 rcases h with rfl | ⟨i, c, hi⟩
 ·obtain ⟨L, hl, hb⟩ := hB
  obtain ⟨L', hl', hb'⟩ := hC
  exact hne (hM.apart b' b y x L' L _ hy hx hl' hl hb' hb)
 ·exact hM.inA b' b y x C i c _ hy hC hi hx hB
theorem MemR.other_inn {G : Gh} {w : World} {mem : Mem} (hM : MemR G w mem) {b B i c B' : Nat} {x : Box} (hx : mem[b]? = some (some x)) (hB : Blk G b x B) (hi : InnB w B x.row i c B') : ¬ Other G w mem b B' := by
 rintro ⟨b', y, C, hne, hy, hC, h⟩
 rcases h with rfl | ⟨i', c', hi'⟩
 ·exact hM.inA b b' x y B i c _ hx hB hi hy hC
 ·exact hne (hM.inB b b' x y B C i c i' c' B' hx hB hi hy hC hi').1.symm
end Go.Ab
end
section
namespace Go.Ab
variable [GTab]
theorem zI {w w1 : World} {B : Nat} (h : w1.heap[B]? = w.heap[B]?) (o : Nat) : cl w1 B o = cl w B o := by
 unfold cl World.cell?; simp only [h]
theorem ziB {w w1 : World} {B : Nat} (h : w1.heap[B]? = w.heap[B]?) (o : Nat) : w1.frozen? ⟨B, o, none⟩ = w.frozen? ⟨B, o, none⟩ := by
 unfold World.frozen?; simp only [h]
theorem zpN {w : World} {B o : Nat} (h : (cl w B o).isSome = true) : B < w.heap.size := by
 obtain ⟨u, hu⟩ := Option.isSome_iff_exists.1 h
 exact World.block_lt_of_cell? (a := ⟨B, o, none⟩) _ hu
def Gh.put (G : Gh) (b g : Nat) (L : Loc) : Gh := { G with loc := fun b' g' => if b' = b ∧ g' = g then some L else G.loc b' g' }
theorem Gh.put_self (G : Gh) (b g : Nat) (L : Loc) : (G.put b g L).loc b g = some L := by simp [Gh.put]
theorem Gh.put_ne (G : Gh) {b g b' g' : Nat} (L : Loc) (h : ¬ (b' = b ∧ g' = g)) : (G.put b g L).loc b' g' = G.loc b' g' := by simp [Gh.put, h]
theorem Gle.put {G : Gh} {b g : Nat} {L : Loc} (h : G.loc b g = none ∨ G.loc b g = some L) : Gle G (G.put b g L) := by
 refine ⟨rfl, fun _ _ _ x => x, fun b' g' L' h' => ?_, fun _ _ _ x => .inl x⟩
 by_cases e : b' = b ∧ g' = g
 ·obtain ⟨rfl, rfl⟩ := e
  rw [Gh.put_self]
  rcases h with h | h <;> rw [h] at h' <;> simp_all
 ·rw [Gh.put_ne _ _ e]; exact h'
structure UpdOk (G : Gh) (w w1 : World) (mem : Mem) (b : Nat) (x' : Box) (L : Loc) : Prop where
 other : ∀ B', Other G w mem b B' → w1.heap[B']? = w.heap[B']?
 apart : ∀ B, L.blk = some B → ¬ Other G w mem b B
 self : ∀ B, L.blk = some B → ∀ i c B', InnB w1 B x'.row i c B' → ¬ Other G w mem b B' ∧ B' ≠ B
 inj : ∀ B, L.blk = some B → ∀ i c i2 c2 B', InnB w1 B x'.row i c B' → InnB w1 B x'.row i2 c2 B' → i = i2 ∧ c = c2
theorem UpdOk.plain {G : Gh} {w w1 : World} {mem : Mem} {b : Nat} {x' : Box} {L : Loc} (ho : x'.row.isOwn = false) (h1 : ∀ B', Other G w mem b B' → w1.heap[B']? = w.heap[B']?) (h2 : ∀ B, L.blk = some B → ¬ Other G w mem b B) : UpdOk G w w1 mem b x' L :=
 ⟨h1, h2, fun B _ i c B' h => absurd h.own (by rw [ho]; decide), fun B _ i c i2 c2 B' h _ => absurd h.own (by rw [ho]; decide)⟩
theorem InnB.same {w w1 : World} {B : Nat} {r : Row} {i c B' : Nat} (h : InnB w1 B r i c B') (hs : ∀ o, cl w1 B o = cl w B o) : InnB w B r i c B' := by
 cases r with
 | own e xs hs' => obtain ⟨h1, h2, n, cap, h3⟩ := h; exact ⟨h1, h2, n, cap, by rw [← hs]; exact h3⟩
 | _ => cases h
theorem Other.at {G : Gh} {w : World} {mem : Mem} {b b' : Nat} {y : Box} {B : Nat} (hne : b' ≠ b) (hy : mem[b']? = some (some y)) (hB : Blk G b' y B) : Other G w mem b B := ⟨b', y, B, hne, hy, hB, .inl rfl⟩
theorem Other.inn {G : Gh} {w : World} {mem : Mem} {b b' : Nat} {y : Box} {B i c B' : Nat} (hne : b' ≠ b) (hy : mem[b']? = some (some y)) (hB : Blk G b' y B) (hi : InnB w B y.row i c B') : Other G w mem b B' := ⟨b', y, B, hne, hy, hB, .inr ⟨i, c, hi⟩⟩
theorem MemR.upd {G : Gh} {w w1 : World} {mem : Mem} {b : Nat} {x' : Box} {L : Loc} (hM : MemR G w mem) (hev : Ev G w w1) (hb : b < mem.length)
  (hput : G.loc b x'.gen = none ∨ G.loc b x'.gen = some L) (hok : UpdOk G w w1 mem b x' L)
  (hgen : ∀ g, x'.gen < g → G.loc b g = none)
  (hbox : BoxR (G.put b x'.gen L) w1 b x') : MemR (G.put b x'.gen L) w1 (mem.set b (some x')) := by
 have hg := Gle.put hput
 have hget : ∀ (b' : Nat) (y : Box), (mem.set b (some x'))[b']? = some (some y) → (b' = b ∧ y = x') ∨ (b' ≠ b ∧ mem[b']? = some (some y)) := by
  intro b' y h
  by_cases e : b' = b
  ·subst e; rw [yw hb] at h; left; exact ⟨rfl, by simpa using h.symm⟩
  ·rw [yq (fun x => e x.symm)] at h; right; exact ⟨e, h⟩
 have hblkB : ∀ {B : Nat}, Blk (G.put b x'.gen L) b x' B → L.blk = some B := by
  rintro B ⟨L1, l1, k1⟩
  rw [Gh.put_self] at l1
  obtain rfl := ya l1
  exact k1
 have hblkO : ∀ {b' : Nat} {y : Box} {B : Nat}, b' ≠ b → Blk (G.put b x'.gen L) b' y B → Blk G b' y B := by
  rintro b' y B e ⟨L1, l1, k1⟩
  rw [Gh.put_ne _ _ (fun x => e x.1)] at l1
  exact ⟨L1, l1, k1⟩
 have hcl : ∀ {b' : Nat} {y : Box} {B : Nat}, b' ≠ b → mem[b']? = some (some y) → Blk G b' y B → ∀ o, cl w1 B o = cl w B o := fun e hy hB o => zI (hok.other _ (.at e hy hB)) o
 refine ⟨fun b' y h => ?_, fun b' g h => ?_, fun b' y g h hlt => ?_, fun b1 b2 y1 y2 L1 L2 B h1 h2 l1 l2 k1 k2 => ?_, fun b1 b2 y1 y2 B i c B' h1 k1 hi h2 k2 => ?_, fun b1 b2 y1 y2 B C i c i' c' B' h1 k1 hi h2 k2 hi' => ?_, fun B h => hM.own B (yb2 hev.size h), hM.lab, fun β B o h => yx1 (hM.away β B o h) hev.size, hM.glob.mono (hg.prot true) (hev.prot true)⟩
 ·rcases hget b' y h with ⟨rfl, rfl⟩ | ⟨e, h⟩
  ·exact hbox
  ·have hx := hM.box b' y h
   obtain ⟨o, hl, hm⟩ := hx.loc
   refine ⟨hx.e, o, hg.loc _ _ _ hl, ?_⟩
   cases o with
   | none => exact hm
   | some B =>
    obtain ⟨hm1, hm2, hm3, hm4, hm5⟩ := hm
    have hB : Blk G b' y B := ⟨_, hl, rfl⟩
    have hh := hok.other B (.at e h hB)
    exact ⟨hm1, yx1 hm2 hev.size, hm3.of_heap hh, hm4.mono hg hev (fun o _ => zI hh o) (fun i c B' hi => ⟨.of (hok.other B' (.inn e h hB hi)), (hM.inn h hB hi).2.2.2⟩), hm5⟩
 ·by_cases e : b' = b
  ·subst e; exact absurd (yw hb) (h x')
  ·rw [Gh.put_ne _ _ (fun x => e x.1)]
   exact hM.unset b' g fun x hx => h x (by rw [yq (fun x => e x.symm)]; exact hx)
 ·rcases hget b' y h with ⟨rfl, rfl⟩ | ⟨e, h⟩
  ·rw [Gh.put_ne _ _ (fun x => by omega)]; exact hgen g hlt
  ·rw [Gh.put_ne _ _ (fun x => e x.1)]; exact hM.gens b' y g h hlt
 ·rcases hget b1 y1 h1 with ⟨f1, f1'⟩ | ⟨e1, g1⟩ <;> rcases hget b2 y2 h2 with ⟨f2, f2'⟩ | ⟨e2, g2⟩
  ·rw [f1, f2]
  ·subst f1 f1'
   exact absurd (.at e2 g2 (hblkO e2 ⟨L2, l2, k2⟩)) (hok.apart B (hblkB ⟨L1, l1, k1⟩))
  ·subst f2 f2'
   exact absurd (.at e1 g1 (hblkO e1 ⟨L1, l1, k1⟩)) (hok.apart B (hblkB ⟨L2, l2, k2⟩))
  ·rw [Gh.put_ne _ _ (fun x => e1 x.1)] at l1; rw [Gh.put_ne _ _ (fun x => e2 x.1)] at l2
   exact hM.apart b1 b2 y1 y2 L1 L2 B g1 g2 l1 l2 k1 k2
 ·rcases hget b1 y1 h1 with ⟨f1, f1'⟩ | ⟨e1, g1⟩ <;> rcases hget b2 y2 h2 with ⟨f2, f2'⟩ | ⟨e2, g2⟩
  ·subst f1 f1' f2 f2'
   have hB := hblkB k1
   have h2 := hblkB k2
   have h3 := hB
   rw [h2] at h3
   exact (hok.self B hB i c B' hi).2 (ya h3)
  ·subst f1 f1'
   exact (hok.self B (hblkB k1) i c B' hi).1 (.at e2 g2 (hblkO e2 k2))
  ·subst f2 f2'
   have k1 := hblkO e1 k1
   exact hok.apart B' (hblkB k2) (.inn e1 g1 k1 (hi.same (hcl e1 g1 k1)))
  ·have k1 := hblkO e1 k1
   exact hM.inA b1 b2 y1 y2 B i c B' g1 k1 (hi.same (hcl e1 g1 k1)) g2 (hblkO e2 k2)
 ·rcases hget b1 y1 h1 with ⟨f1, f1'⟩ | ⟨e1, g1⟩ <;> rcases hget b2 y2 h2 with ⟨f2, f2'⟩ | ⟨e2, g2⟩
  ·subst f1 f1' f2 f2'
   have hB := hblkB k1
   have hC := hblkB k2
   rw [hB] at hC
   obtain rfl := ya hC
   exact ⟨rfl, hok.inj B hB i c i' c' B' hi hi'⟩
  ·subst f1 f1'
   have k2 := hblkO e2 k2
   exact absurd (.inn e2 g2 k2 (hi'.same (hcl e2 g2 k2))) (hok.self B (hblkB k1) i c B' hi).1
  ·subst f2 f2'
   have k1 := hblkO e1 k1
   exact absurd (.inn e1 g1 k1 (hi.same (hcl e1 g1 k1))) (hok.self C (hblkB k2) i' c' B' hi').1
  ·have k1 := hblkO e1 k1
   have k2 := hblkO e2 k2
   exact hM.inB b1 b2 y1 y2 B C i c i' c' B' g1 k1 (hi.same (hcl e1 g1 k1)) g2 k2 (hi'.same (hcl e2 g2 k2))
theorem zZ {w : World} {o : Obj} {B : Nat} (h : B < w.heap.size) : (w.alloc o).heap[B]? = w.heap[B]? := by
 simp only [World.alloc]; rw [Array.getElem?_push]; rw [if_neg (by omega)]
theorem zgA {w : World} {o : Obj} {B j : Nat} (h : B < w.heap.size) : cl (w.alloc o) B j = cl w B j := zI (zZ h) j
theorem zaS {w : World} {c : Array Value} {t : TypeId} {fr : Nat × Nat} {j : Nat} : cl (w.alloc (.cells c t fr)) w.heap.size j = c[j]? := by
 unfold cl World.cell? World.alloc; simp
theorem zgr (w : World) (c : Array Value) (t : TypeId) (a : Addr) : (w.alloc (.cells c t)).frozen? a = w.frozen? a := by
 by_cases h : a.block < w.heap.size
 ·unfold World.frozen?; simp only [zZ h]
 ·have h2 : w.heap[a.block]? = none := by simp; omega
  by_cases h3 : a.block = w.heap.size
  ·have h1 : (w.alloc (.cells c t)).heap[a.block]? = some (.cells c t) := by rw [h3]; show (w.heap.push (.cells c t))[w.heap.size]? = _; simp
   unfold World.frozen?; simp [h1, h2]
  ·have h1 : (w.alloc (.cells c t)).heap[a.block]? = none := by show (w.heap.push (.cells c t))[a.block]? = none; rw [Array.getElem?_eq_none]; simp; omega
   unfold World.frozen?; simp [h1, h2]
theorem Free.alloc {w : World} {c : Array Value} {t : TypeId} : Free (w.alloc (.cells c t)) w.heap.size := ⟨c, t, 0, 0, by show (w.heap.push _)[w.heap.size]? = _; simp, .inl rfl⟩
theorem Ev.alloc (G : Gh) (w : World) (o : Obj) (hp : ∀ β B x, G.prot β B x → B < w.heap.size) (ho : ∃ c t, o = .cells c t := by exact ⟨_, _, rfl⟩) : Ev G w (w.alloc o) where
 size := by simp
 out := rfl
 os := rfl
 away B hb _ := zZ hb
 some B j h := by rw [zgA (zpN h)]; exact h
 prot β B j h := zgA (hp β B j h)
 fz B o _ := by obtain ⟨c, t, rfl⟩ := ho; exact zgr w c t _
 tape := rfl
theorem Ev.drew (G : Gh) (w : World) : Ev G w w.drew := Ev.of_eq rfl rfl rfl rfl
theorem zF {w : World} {B B' : Nat} (h : B' ≠ B) : ∀ (vs : List Value) (o : Nat) (w : World), (w.setCells B o vs).heap[B']? = w.heap[B']?
 | [], _, _ => rfl
 | v :: r, o, w => by
  rw [World.setCells, zF (w := w) h r]
  exact heap_setCell_other w ⟨B, o, none⟩ B' v h
theorem zbc {B : Nat} : ∀ (vs : List Value) (o : Nat) (w : World), (w.setCells B o vs).heap.size = w.heap.size
 | [], _, _ => rfl
 | v :: r, o, w => by rw [World.setCells, zbc r]; simp
theorem zdk {B : Nat} : ∀ (vs : List Value) (o : Nat) (w : World), (w.setCells B o vs).output = w.output ∧ (w.setCells B o vs).os = w.os
 | [], _, _ => ⟨rfl, rfl⟩
 | v :: r, o, w => by rw [World.setCells]; exact zdk r _ _
theorem zeA {B : Nat} : ∀ (vs : List Value) (o : Nat) (w : World), (w.setCells B o vs).tape = w.tape
 | [], _, _ => rfl
 | v :: r, o, w => by rw [World.setCells]; exact zeA r _ _
theorem zaN {w : World} {B o : Nat} {vs : List Value} (h : ∀ j, j < vs.length → (cl w B (o + j)).isSome = true) {j : Nat} (hj : j < vs.length) :
  cl (w.setCells B o vs) B (o + j) = some vs[j] := World.cell?_setCells_in B vs o w h j hj
theorem zaF {w : World} {B o : Nat} {vs : List Value} {j : Nat} (h : j < o ∨ o + vs.length ≤ j) : cl (w.setCells B o vs) B j = cl w B j :=
 World.cell?_setCells_out B vs o w ⟨B, j, none⟩ (fun _ _ => h)
theorem zgk {w : World} {B o : Nat} {vs : List Value} (h : ∀ j, j < vs.length → (cl w B (o + j)).isSome = true) {B' j : Nat} (hs : (cl w B' j).isSome = true) :
  (cl (w.setCells B o vs) B' j).isSome = true := by
 by_cases e : B' = B
 ·subst e
  by_cases hj : j < o ∨ o + vs.length ≤ j
  ·rw [zaF hj]; exact hs
  ·obtain ⟨k, rfl⟩ : ∃ k, j = o + k := ⟨j - o, by omega⟩
   rw [zaN h (by omega)]; rfl
 ·rw [zI (zF (w := w) e vs o w)]; exact hs
theorem zhn {w : World} {B o : Nat} {vs : List Value} (a : Addr) : (w.setCells B o vs).frozen? a = w.frozen? a := World.frozen?_setCells B vs o w a
theorem Free.setCell {w : World} {B o : Nat} {v : Value} (h : Free w B) : Free (w.setCell ⟨B, o, none⟩ v) B := by
 obtain ⟨c, el, lo, hi, hb, hf⟩ := h
 refine ⟨c.setIfInBounds o v, el, lo, hi, ?_, by simpa using hf⟩
 unfold World.setCell
 simp [Array.getElem?_modify, hb]
theorem Free.setCells {B : Nat} : ∀ {vs : List Value} {o : Nat} {w : World}, Free w B → Free (w.setCells B o vs) B
 | [], _, _, h => h
 | v :: r, o, w, h => by rw [World.setCells]; exact Free.setCells h.setCell
theorem Ev.setCells {G : Gh} {w : World} {B o : Nat} {vs : List Value} (hm : G.mine B) (h : ∀ j, j < vs.length → (cl w B (o + j)).isSome = true)
  (hp : ∀ β j, ¬ G.prot β B j) : Ev G w (w.setCells B o vs) where
 size := by rw [zbc]; exact yx _
 out := (zdk vs o w).1
 os := (zdk vs o w).2
 away B' hb hn := zF (w := w) (fun e : B' = B => hn (by rw [e]; exact hm)) vs o w
 some B' j hs := zgk h hs
 prot β B' j hj := by
  by_cases e : B' = B
  ·subst e; exact absurd hj (hp β j)
  ·exact zI (zF (w := w) e vs o w) j
 fz B o _ := zhn _
 tape := zeA vs o w
theorem MemR.make {G : Gh} {w : World} {mem : Mem} {b : Nat} {row : Row} {c : Array Value} {t : TypeId} (hM : MemR G w mem) (hb : mem[b]? = some none)
  (he : 1 ≤ row.e) (hr : RowR (G.put b 0 ⟨some w.heap.size, row.e, row.len⟩) (w.alloc (.cells c t)) w.heap.size row) (hself : ∀ i c' B', ¬ InnB (w.alloc (.cells c t)) w.heap.size row i c' B') :
  MemR (G.put b 0 ⟨some w.heap.size, row.e, row.len⟩) (w.alloc (.cells c t)) (mem.set b (some { gen := 0, frz := false, row })) := by
 have hbl : b < mem.length := by
  rcases yc2 b mem.length with h | h
  ·exact h
  ·rw [ya1 h] at hb; cases hb
 have hno : ∀ g, G.loc b g = none := fun g => hM.unset b g (fun x hx => by rw [hb] at hx; cases hx)
 have hev := Ev.alloc G w (.cells c t) hM.away
 refine hM.upd (x' := { gen := 0, frz := false, row }) hev hbl (.inl (hno 0)) ⟨fun B' h => zZ (hM.other h).2.1, fun B hB h => ?_, fun B hB i c B' h => ?_, fun B hB i c i2 c2 B' h _ => ?_⟩ (fun g _ => hno g) ?_
 ·simp only [Option.some.injEq] at hB; subst hB
  exact Nat.lt_irrefl _ (hM.other h).2.1
 ·simp only [Option.some.injEq] at hB; subst hB
  exact absurd h (hself i c B')
 ·simp only [Option.some.injEq] at hB; subst hB
  exact absurd h (hself i c B')
 ·refine ⟨he, some w.heap.size, by simp [Gh.put], hM.own _ (yx _), by simp, Free.alloc, hr, fun _ β o hp => ?_⟩
  ·exact absurd (hM.away β _ o hp) (Nat.lt_irrefl _)
theorem MemR.ev {G : Gh} {w w1 : World} {mem : Mem} (hM : MemR G w mem) (hev : Ev G w w1) (hs : w1.heap.size = w.heap.size ∨ w.heap.size ≤ w1.heap.size)
  (hsame : ∀ B, B < w.heap.size → w1.heap[B]? = w.heap[B]?) : MemR G w1 mem where
 box b x h := by
  have hx := hM.box b x h
  obtain ⟨o, hl, hm⟩ := hx.loc
  refine ⟨hx.e, o, hl, ?_⟩
  cases o with
  | none => exact hm
  | some B =>
   obtain ⟨hm1, hm2, hm3, hm4, hm5⟩ := hm
   have hh := hsame B hm2
   have hB : Blk G b x B := ⟨_, hl, rfl⟩
   exact ⟨hm1, yx1 hm2 hev.size, hm3.of_heap hh, hm4.mono (Gle.refl G) hev (fun o _ => zI hh o) (fun i c B' hi => ⟨.of (hsame B' (hM.inn h hB hi).2.1), (hM.inn h hB hi).2.2.2⟩), hm5⟩
 unset := hM.unset
 gens := hM.gens
 apart := hM.apart
 inA b b' x x' B i c B' h k hi h' := hM.inA b b' x x' B i c B' h k (hi.same fun o => zI (hsame B (hM.blk h k).2.2.1) o) h'
 inB b b' x x' B C i c i' c' B' h k hi h' k' hi' := hM.inB b b' x x' B C i c i' c' B' h k (hi.same fun o => zI (hsame B (hM.blk h k).2.2.1) o) h' k' (hi'.same fun o => zI (hsame C (hM.blk h' k').2.2.1) o)
 own B h := hM.own B (yb2 hev.size h)
 lab := hM.lab
 away β B o h := yx1 (hM.away β B o h) hev.size
 glob := hM.glob.mono (fun _ _ h => h) (hev.prot true)
end Go.Ab
end
section
namespace Go.Ab
variable [GTab]
theorem za {α : Type} {c : Bool} {x : Option α} {y : α} : guardB c x = some y ↔ c = true ∧ x = some y := by
 cases c <;> simp [guardB]
theorem zaR {a b : IntKind} : kEq a b = true ↔ a = b := by cases a <;> cases b <;> simp [kEq]
section
variable {P : Program}
def OpDone (P : Program) (G : Gh) (w : World) (mem : Mem) (o : Oper) (a : Act) (out : Out) : Prop :=
 ∃ G' w' nx cv, (execOp a.eval o).run P w = .ok nx w' ∧ (nx = .value cv ∨ (nx = .skip ∧ cv = undef)) ∧ VR G' w' out.v cv ∧ Gle G G' ∧ Ev G w w' ∧ MemR G' w' (out.apply mem)
theorem ziJ (v : AV) (rd : List Nat) (mem : Mem) : ({ v, rd } : Out).apply mem = mem := by simp [Out.apply, setMem]
theorem OpDone.pure {G : Gh} {w : World} {mem : Mem} {o : Oper} {a : Act} {v : AV} {rd : List Nat} {cv : Value} (hM : MemR G w mem)
  (hrun : (execOp a.eval o).run P w = .ok (.value cv) w) (hv : VR G w v cv) : OpDone P G w mem o a { v, rd } :=
 ⟨G, w, .value cv, cv, hrun, .inl rfl, hv, Gle.refl G, Ev.refl G w, by rw [ziJ]; exact hM⟩
def EvR (G : Gh) (w : World) (ρ : Operand → Option AV) (a : Act) : Prop := ∀ x v, ρ x = some v → VR G w v (a.eval x)
theorem VR.lit_inv {G : Gh} {w : World} {v cv : Value} (h : VR G w (.lit v) cv) : cv = v := by cases h; rfl
theorem zkq (w : World) {t : TypeId} (a b : Bool) (h : P.underlying t = some .bool) : (binOp .eql t (.bool a) (.bool b)).run P w = .ok (.bool (a == b)) w := by
 have : (Op.equal t (.bool a) (.bool b)).run P w = .ok (a == b) w := run_equalIn_bool w 9999 t a b h
 simp only [binOp]; simp [this]
theorem zkG (w : World) {t : TypeId} (a b : Bool) (h : P.underlying t = some .bool) : (binOp .neq t (.bool a) (.bool b)).run P w = .ok (.bool (!(a == b))) w := by
 have : (Op.equal t (.bool a) (.bool b)).run P w = .ok (a == b) w := run_equalIn_bool w 9999 t a b h
 simp only [binOp]; simp [this]
theorem zmT {op : BinOp} {t : TypeId} {x y : Operand} {a b r : Value} {w : World} (hok : litsOk P t a b = true) (h : litBin op a b = some r) :
  (eqGuard op t x y a b).run P w = .ok () w ∧ (binOp op t a b).run P w = .ok r w := by
 unfold litBin at h
 split at h
 ·rename_i k a k' b
  refine ⟨by rw [eqGuard_at_int]; rfl, ?_⟩
  split at h <;> simp only [za, Option.some.injEq, decide_eq_true_eq, yt, beq_eq_false_iff_ne, ne_eq] at h
  ·obtain ⟨h0, rfl⟩ := h
   simp [binOp, Op.shift, Int.not_lt.2 h0]
  ·obtain ⟨h0, rfl⟩ := h
   simp [binOp, Op.shift, Int.not_lt.2 h0]
  all_goals
   first
   | (obtain ⟨hk, hb, rfl⟩ := h; rw [zaR] at hk; subst hk; simp [binOp, Op.intDiv, hb])
   | (obtain ⟨hk, rfl⟩ := h; rw [zaR] at hk; subst hk; simp [binOp, Op.intArith, Op.intBits, Op.intCmp])
 ·rename_i a b
  have hb : P.underlying t = some .bool := by
   simp only [litsOk, isBoolT] at hok
   split at hok <;> simp_all
  refine ⟨by rw [eqGuard_at_bool]; rfl, ?_⟩
  split at h <;> simp only [Option.some.injEq, reduceCtorEq] at h
  ·subst h; exact zkq w a b hb
  ·subst h; exact zkG w a b hb
 ·rename_i a b
  refine ⟨by rw [eqGuard_at_string]; rfl, ?_⟩
  split at h <;> simp only [Option.some.injEq, reduceCtorEq] at h
  ·subst h; simp [binOp, Op.stringOp]
  ·subst h; simp [binOp, Op.stringOp]
 ·simp at h
theorem zjd {op : BinOp} {a b r : Value} (h : litBin op a b = some r) : notAgg r = true := by
 unfold litBin at h
 repeat' split at h
 all_goals (simp only [za, Option.some.injEq, reduceCtorEq] at h)
 all_goals first
  | (subst h; rfl)
  | (obtain ⟨_, rfl⟩ := h; rfl)
  | (obtain ⟨_, _, rfl⟩ := h; rfl)
theorem zkz {op : UnOp} {a r : Value} (h : litUn op a = some r) : notAgg r = true := by
 unfold litUn at h
 split at h <;> simp only [Option.some.injEq, reduceCtorEq] at h <;> subst h <;> rfl
theorem zol {op : UnOp} {a r : Value} {w : World} (h : litUn op a = some r) : (Op.unary op a).run P w = .ok r w := by
 unfold litUn at h
 split at h <;> simp only [Option.some.injEq, reduceCtorEq] at h <;> subst h <;> simp [Op.unary, Op.intArith, Op.intBits]
theorem zgR {t : TypeId} {d : TypeDesc} (hd : P.underlying t = some d) (h1 : ∀ fs, d ≠ .struct fs) (h2 : ∀ n e, d ≠ .array n e) {cs : Array Value} {o : Nat} {v : Value} (hv : cs[o]? = some v) (w : World) :
  (part t cs o).run P w = .ok v w := by
 have hag : (isAgg t).run P w = .ok false w := by
  simp only [isAgg, Sem.run_bind, run_underlying hd, Result.andThen_ok]
  rfl
 simp only [part, Sem.run_bind, hag, Result.andThen_ok, yk2, if_false, hv]
 rfl
theorem zkv (d : Nat) (G : Gh) (w : World) : ∀ (fs : List Field) (n : Nat) (xs ys : List AV) (as bs : List Value) (A B : Array Value) (r : Bool),
  (xs.length = as.length ∧ ∀ (j : Nat) (y : AV), xs[j]? = some y → VR G w y (as.getD j undef)) → (ys.length = bs.length ∧ ∀ (j : Nat) (y : AV), ys[j]? = some y → VR G w y (bs.getD j undef)) →
  (∀ j : Nat, j < as.length → A[n + j]? = as[j]?) → (∀ j : Nat, j < bs.length → B[n + j]? = bs[j]?) → eqCells P fs n xs ys = some r →
  (Op.eqFields (d + 1) A B fs).run P w = .ok r w := by
 intro fs
 induction fs with
 | nil =>
  intro n xs ys as bs A B r _ _ _ _ h
  cases xs <;> cases ys <;> simp [eqCells] at h
  subst h
  simp [Op.eqFields]
 | cons f fs ih =>
  intro n xs ys as bs A B r ha hb hA hB h
  cases xs with
  | nil => simp [eqCells] at h
  | cons x xs =>
  cases ys with
  | nil => simp [eqCells] at h
  | cons y ys =>
  cases as with
  | nil => simp at ha
  | cons a as =>
  cases bs with
  | nil => simp at hb
  | cons b bs =>
   have h1 := ha.2 0 x rfl
   have h2 := hb.2 0 y rfl
   simp only [List.getD_cons_zero] at h1 h2
   have ha' : xs.length = as.length ∧ ∀ (j : Nat) (y : AV), xs[j]? = some y → VR G w y (as.getD j undef) := ⟨by simpa using ha.1, fun j y hy => by simpa using ha.2 (j + 1) y (by simpa using hy)⟩
   have hb' : ys.length = bs.length ∧ ∀ (j : Nat) (y : AV), ys[j]? = some y → VR G w y (bs.getD j undef) := ⟨by simpa using hb.1, fun j y hy => by simpa using hb.2 (j + 1) y (by simpa using hy)⟩
   simp only [eqCells, za, yb, bne_iff_ne, ne_eq] at h
   obtain ⟨⟨hn, hoff⟩, h⟩ := h
   have hoff := Nat.eq_of_beq_eq_true hoff
   obtain ⟨q, hq, h⟩ := yd2.1 h
   obtain ⟨r', hr, rfl⟩ := yd.1 h
   have h0a : A[f.offset]? = some a := by rw [hoff]; simpa using hA 0 (by simp)
   have h0b : B[f.offset]? = some b := by rw [hoff]; simpa using hB 0 (by simp)
   have hcell : (Op.equalIn (d + 1) f.type a b).run P w = .ok q w ∧ ∃ dd, P.underlying f.type = some dd ∧ (∀ fs, dd ≠ .struct fs) ∧ (∀ n e, dd ≠ .array n e) := by
    unfold eqCell at hq
    split at hq
    ·rename_i k1 k x k' y hd
     obtain ⟨hk, hq2⟩ := za.1 hq
     rw [zaR] at hk; subst hk
     obtain rfl := h1.lit_inv; obtain rfl := h2.lit_inv
     obtain rfl := ya hq2
     exact ⟨run_equalIn_int w d f.type k k1 x y hd, _, hd, by simp, by simp⟩
    ·rename_i x y hd
     obtain rfl := h1.lit_inv; obtain rfl := h2.lit_inv
     obtain rfl := ya hq
     exact ⟨run_equalIn_bool w d f.type x y hd, _, hd, by simp, by simp⟩
    ·rename_i x y hd
     obtain rfl := h1.lit_inv; obtain rfl := h2.lit_inv
     obtain rfl := ya hq
     exact ⟨run_equalIn_string w d f.type x y hd, _, hd, by simp, by simp⟩
    ·simp at hq
   obtain ⟨hqr, dd, hdd, hs1, hs2⟩ := hcell
   have e1 : (Op.eqFields (d + 1) A B (f :: fs)).run P w = (if (!q) = true then (Pure.pure false : Sem Bool) else Op.eqFields (d + 1) A B fs).run P w := by
    simp only [Op.eqFields]
    rw [if_pos hn]
    simp only [Sem.run_bind, zgR hdd hs1 hs2 h0a, zgR hdd hs1 hs2 h0b, hqr, Result.andThen_ok]
   rw [e1]
   cases q with
   | false => rfl
   | true =>
    rw [ym3]
    refine Eq.trans ?_ <| ih (n + 1) xs ys as bs A B r' ha' hb' (fun j hj => by have := hA (j + 1) (by simpa using hj); rw [show n + 1 + j = n + (j + 1) by omega]; simpa using this)
     (fun j hj => by have := hB (j + 1) (by simpa using hj); rw [show n + 1 + j = n + (j + 1) by omega]; simpa using this) hr
    rfl
theorem VR.agg_inv {G : Gh} {w : World} {cs : List AV} {cv : Value} (h : VR G w (.agg cs) cv) : ∃ cvs : Array Value, cv = .agg cvs ∧ VRs G w cs cvs := by
 cases h with
 | agg _ cvs hlen h => exact ⟨cvs, rfl, hlen, h⟩
theorem zeD {G : Gh} {w : World} {t : TypeId} {xs ys : List AV} {A B : Array Value} {r : Bool} (h : eqStructs P t xs ys = some r) (ha : VRs G w xs A) (hb : VRs G w ys B) (x y : Operand) :
  (Op.equalIn 10000 t (.agg A) (.agg B)).run P w = .ok r w ∧ P.eqGuardType P.depth t = false := by
 unfold eqStructs at h
 split at h
 ·rename_i fs hd
  obtain ⟨hc, h⟩ := za.1 h
  simp only [yb, yt] at hc
  have hf : P.fieldsOf t = fs := by simp [Program.fieldsOf, hd]
  refine ⟨?_, hc.2⟩
  rw [show (10000 : Nat) = 9999 + 1 from rfl, run_equalIn_agg w 9999 t A B (by rw [hf]; exact hd) hc.1, hf]
  have gd : ∀ (C : Array Value) (j : Nat), C.toList.getD j undef = C.getD j undef := by
   intro C j; simp [yl, ym]
  exact zkv 9998 G w fs.toList 0 xs ys A.toList B.toList A B r ⟨by simpa using ha.1, fun j y hy => by rw [gd]; exact ha.2 j y hy⟩ ⟨by simpa using hb.1, fun j y hy => by rw [gd]; exact hb.2 j y hy⟩
   (fun j _ => by simp) (fun j _ => by simp) h
 ·simp at h
theorem VR.tree_slice {G : Gh} {w : World} {β : Bool} {p : PV} {va : Value} {e : Bool} (ha : VR G w (.imm β p) va) (h : emptyTree p = some e) : ∃ a l c, va = .slice a l c ∧ (e = false → a.isNone = false) := by
 cases ha with
 | imm _ _ _ h' hs =>
  cases h' with
  | lit _ _ => cases h
  | intsNil k a => simp only [emptyTree, Option.some.injEq] at h; subst h; exact ⟨_, _, _, rfl, fun h => by cases h⟩
  | ints k xs B o cap hcap h2 => exact ⟨_, _, _, rfl, fun _ => rfl⟩
  | slNil k a => simp only [emptyTree, Option.some.injEq] at h; subst h; exact ⟨_, _, _, rfl, fun h => by cases h⟩
  | sl e' xs B o cap cv he hcap hlen h2 h3 h4 => exact ⟨_, _, _, rfl, fun _ => rfl⟩
  | agg _ _ _ _ => cases h
 | unkB b => cases h
 | dead _ _ _ => cases h
theorem zlS {t : TypeId} (h : isSlT P t = true) : ∃ e, P.underlying t = some (.slice e) := by
 unfold isSlT at h
 split at h
 ·rename_i e hu; exact ⟨e, hu⟩
 ·cases h
theorem zao {G : Gh} {w : World} (op : BinOp) (t : TypeId) (x y : Operand) (a b : Option Addr) (l c l' c' : Nat) : (eqGuard op t x y (.slice a l c) (.slice b l' c')).run P w = .ok () w := by
 unfold eqGuard
 split <;> rfl
theorem zho {w : World} (d : Nat) {t e : TypeId} {a : Option Addr} {l c : Nat} (hu : P.underlying t = some (.slice e)) : (Op.equalIn (d + 1) t (.slice a l c) (.slice none 0 0)).run P w = .ok a.isNone w := by
 cases a <;> simp [Op.equalIn, run_underlying hu]
theorem zbo {G : Gh} {w : World} {op : BinOp} {t : TypeId} {a : Option Addr} {l c : Nat} (hs : isSlT P t = true) :
  (binOp .eql t (.slice a l c) (.slice none 0 0)).run P w = .ok (.bool a.isNone) w ∧ (binOp .neq t (.slice a l c) (.slice none 0 0)).run P w = .ok (.bool (!a.isNone)) w := by
 obtain ⟨e, hu⟩ := zlS hs
 have h : (Op.equal t (.slice a l c) (.slice none 0 0)).run P w = .ok a.isNone w := zho 9999 hu
 constructor
 ·simp only [binOp, Sem.run_bind, h, Result.andThen_ok]; rfl
 ·simp only [binOp, Sem.run_bind, h, Result.andThen_ok]; rfl
theorem zpi {G : Gh} {w : World} {op : BinOp} {t : TypeId} {x y : Operand} {a b r : AV} {va vb : Value} (h : binA P op t a b = some r) (ha : VR G w a va) (hb : VR G w b vb) :
    ∃ cv, (eqGuard op t x y va vb).run P w = .ok () w ∧ (binOp op t va vb).run P w = .ok cv w ∧ VR G w r cv := by
  unfold binA at h
  split at h
  · rename_i β p
    obtain rfl := hb.lit_inv
    split at h
    · obtain ⟨hs, h⟩ := za.1 h
      obtain ⟨e, he, rfl⟩ := yd.1 h
      obtain ⟨aa, l, c, rfl, hn⟩ := ha.tree_slice he
      refine ⟨.bool aa.isNone, zao (G := G) _ t x y _ _ _ _ _ _, (zbo (G := G) (op := .eql) hs).1, ?_⟩
      cases e with
      | true => exact .unkB _
      | false => rw [hn rfl]; exact .lit _ rfl
    · obtain ⟨hs, h⟩ := za.1 h
      obtain ⟨e, he, rfl⟩ := yd.1 h
      obtain ⟨aa, l, c, rfl, hn⟩ := ha.tree_slice he
      refine ⟨.bool (!aa.isNone), zao (G := G) _ t x y _ _ _ _ _ _, (zbo (G := G) (op := .neq) hs).2, ?_⟩
      cases e with
      | true => exact .unkB _
      | false => rw [hn rfl]; exact .lit _ rfl
    · cases h
  · obtain rfl := ha.lit_inv; obtain rfl := hb.lit_inv
    split at h
    · obtain ⟨hs, h⟩ := za.1 h
      obtain rfl := ya h
      exact ⟨.bool true, zao (G := G) _ t x y _ _ _ _ _ _, (zbo (G := G) (op := .eql) hs).1, .lit _ rfl⟩
    · obtain ⟨hs, h⟩ := za.1 h
      obtain rfl := ya h
      exact ⟨.bool false, zao (G := G) _ t x y _ _ _ _ _ _, (zbo (G := G) (op := .neq) hs).2, .lit _ rfl⟩
    · cases h
  · rename_i a b _
    obtain ⟨hok, h⟩ := za.1 h
    obtain ⟨v, hv, rfl⟩ := yd.1 h
    obtain rfl := ha.lit_inv; obtain rfl := hb.lit_inv
    obtain ⟨h1, h2⟩ := zmT (P := P) (x := x) (y := y) (w := w) hok hv
    exact ⟨v, h1, h2, .lit v (zjd hv)⟩
  · rename_i as bs
    obtain ⟨A, rfl, hA⟩ := ha.agg_inv
    obtain ⟨B, rfl, hB⟩ := hb.agg_inv
    split at h
    · obtain ⟨q, hq, rfl⟩ := yd.1 h
      obtain ⟨h1, h2⟩ := zeD hq hA hB x y
      exact ⟨.bool q, run_eqGuard_agg w _ t x y A B h2, by rw [run_eql_struct, h1]; rfl, .lit _ rfl⟩
    · obtain ⟨q, hq, rfl⟩ := yd.1 h
      obtain ⟨h1, h2⟩ := zeD hq hA hB x y
      exact ⟨.bool (!q), run_eqGuard_agg w _ t x y A B h2, by rw [run_neq_struct, h1]; rfl, .lit _ rfl⟩
    · simp at h
  all_goals first
    | (simp at h; done)
    | (obtain rfl := hb.lit_inv
       have hp : ∃ p, va = .pointer (some p) := by cases ha <;> exact ⟨_, rfl⟩
       obtain ⟨p, rfl⟩ := hp
       split at h
       · obtain ⟨hc, h⟩ := za.1 h
         have hu : P.underlying t = some (.pointer (P.pointee t)) := by
           unfold isPtr at hc; split at hc <;> simp_all [Program.pointee]
         simp only [Option.some.injEq] at h; subst h
         exact ⟨.bool false, by rw [eqGuard_at_pointer]; rfl, by rw [run_eql_pointer_nil w t _ hu]; rfl, .lit _ rfl⟩
       · obtain ⟨hc, h⟩ := za.1 h
         have hu : P.underlying t = some (.pointer (P.pointee t)) := by
           unfold isPtr at hc; split at hc <;> simp_all [Program.pointee]
         simp only [Option.some.injEq] at h; subst h
         exact ⟨.bool true, by rw [eqGuard_at_pointer]; rfl, by rw [run_neq_pointer_nil w t _ hu]; rfl, .lit _ rfl⟩
       · simp at h)
end
end Go.Ab
end
section
namespace Go.Ab
variable [GTab]
section
variable {P : Program}
theorem bind_some {α β : Type} {x : Option α} {f : α → Option β} {y : β} : x.bind f = some y ↔ ∃ a, x = some a ∧ f a = some y := yd2
theorem zfU {α : Type} {c : Bool} {a b : α} : (bif c then some a else none) = some b ↔ c = true ∧ a = b := by cases c <;> simp
theorem beqN {a b : Nat} : Nat.beq a b = true ↔ a = b := ⟨Nat.eq_of_beq_eq_true, fun h => by subst h; exact yq2 a⟩
theorem bleN {a b : Nat} : Nat.ble a b = true ↔ a ≤ b := by rw [Nat.ble_eq]
theorem zek {t : TypeId} {b : Bool} (h : isAgg? P t = some b) (w : World) : (isAgg t).run P w = .ok b w := by
 unfold isAgg? at h
 split at h
 ·rename_i d; simp only [isAgg, Sem.run_bind, run_underlying d, Result.andThen_ok]; obtain rfl := ya h; rfl
 ·rename_i d; simp only [isAgg, Sem.run_bind, run_underlying d, Result.andThen_ok]; obtain rfl := ya h; rfl
 ·rename_i dd h1 h2 d
  obtain rfl := ya h
  simp only [isAgg, Sem.run_bind, run_underlying d, Result.andThen_ok]
  cases dd <;> first | rfl | exact absurd rfl (h1 _) | exact absurd rfl (h2 _ _)
 ·simp at h
theorem zpS {t : TypeId} {n : Nat} (h : tsz P t = some n) : ∃ i, P.info? t = some i ∧ i.size = n := by
 unfold tsz at h
 obtain ⟨i, hi, hn⟩ := yd.1 h
 exact ⟨i, hi, hn⟩
theorem zV {t : TypeId} {n : Nat} (h : tsz P t = some n) (w : World) : (sizeOf t).run P w = .ok n w := by
 obtain ⟨i, hi, rfl⟩ := zpS h
 simp [sizeOf, typeInfo, hi]
theorem zB (B o n : Nat) : (⟨B, o, none⟩ : Addr).add n = ⟨B, o + n, none⟩ := by
 unfold Addr.add; split <;> simp_all
theorem zbm {t : TypeId} {n B o : Nat} (ha : isAgg? P t = some true) (hn : tsz P t = some n) {w : World} (f : Nat → Value) (h : ∀ j, j < n → cl w B (o + j) = some (f j)) :
  (loadVar t ⟨B, o, none⟩).run P w = .ok (.agg ((List.range n).map f).toArray) w := by
 have hl := run_loadCells (P := P) w ⟨B, o, none⟩ n f (fun j hj => by rw [zB]; exact h j hj)
 simp only [loadVar, Sem.run_bind, zek ha, zV hn, Result.andThen_ok, if_true, hl, Sem.run_pure]
theorem zaG {t : TypeId} {B o : Nat} (ha : isAgg? P t = some false) {w : World} {v : Value} (h : cl w B o = some v) :
  (loadVar t ⟨B, o, none⟩).run P w = .ok v w := by
 have h' : w.cell? ⟨B, o, none⟩ = some v := h
 simp only [loadVar, Sem.run_bind, zek ha, Result.andThen_ok, yk2, if_false, run_load, h']
theorem PR.lit_inv {w : World} {pr : Nat → Nat → Prop} {v cv : Value} (h : PR w pr (.lit v) cv) : cv = v := by cases h; rfl
theorem zcK {G : Gh} {w : World} {β : Bool} {l : LK} {q : PV} {a : AV} {v : Value} (h : rdLeaf β l q = some a) (hq : PR w (G.prot β) q v) : VR G w a v := by
 unfold rdLeaf at h
 split at h
 ·rw [bind_some] at h; obtain ⟨x, hx, h⟩ := h
  obtain rfl := ya h
  unfold PV.int? at hx
  split at hx
  ·rename_i k' n
   rw [zfU] at hx; obtain ⟨hk, hx⟩ := hx
   subst hx; rw [zaR] at hk; subst hk
   rw [hq.lit_inv]; exact .lit _ rfl
  ·simp at hx
 ·rw [bind_some] at h; obtain ⟨x, hx, h⟩ := h
  obtain rfl := ya h
  unfold PV.bool? at hx
  split at hx
  ·obtain rfl := ya hx
   rw [hq.lit_inv]; exact .lit _ rfl
  ·simp at hx
 ·rw [bind_some] at h; obtain ⟨x, hx, h⟩ := h
  obtain rfl := ya h
  unfold PV.str? at hx
  split at hx
  ·obtain rfl := ya hx
   rw [hq.lit_inv]; exact .lit _ rfl
  ·simp at hx
 ·rw [bind_some] at h; obtain ⟨x, hx, h⟩ := h
  obtain rfl := ya h
  unfold PV.ints? at hx
  split at hx
  ·rename_i k' xs
   rw [zfU] at hx; obtain ⟨hk, hx⟩ := hx
   subst hx; rw [zaR] at hk; subst hk
   exact .imm β _ v hq rfl
  ·simp at hx
 ·rw [bind_some] at h; obtain ⟨x, hx, h⟩ := h
  obtain rfl := ya h
  unfold PV.sl? at hx
  split at hx
  ·rename_i e' xs
   rw [zfU] at hx; obtain ⟨hk, hx⟩ := hx
   subst hx; rw [beqN] at hk; subst hk
   exact .imm β _ v hq rfl
  ·simp at hx
theorem zbC {G : Gh} {w : World} {β : Bool} {cs : List PV} : ∀ {ls : List LK} {c : Nat} {as : List AV}, rdLeaves β cs ls c = some as →
  as.length = ls.length ∧ ∀ (f : Nat → Value), (∀ (j : Nat) (y : PV), cs[c + j]? = some y → j < ls.length → PR w (G.prot β) y (f j)) →
   (∀ j, j < ls.length → ∃ y, cs[c + j]? = some y) ∧ ∀ (j : Nat) (y : AV), as[j]? = some y → VR G w y (f j)
 | [], c, as, h => by
  simp [rdLeaves] at h; subst h
  exact ⟨rfl, fun f _ => ⟨fun j hj => absurd hj (by simp), fun j y hy => by simp at hy⟩⟩
 | l :: r, c, as, h => by
  simp only [rdLeaves] at h
  rw [bind_some] at h; obtain ⟨q, hq, h⟩ := h
  rw [bind_some] at h; obtain ⟨a, ha, h⟩ := h
  rw [bind_some] at h; obtain ⟨as', has, h⟩ := h
  obtain rfl := ya h
  obtain ⟨hl, ih⟩ := zbC (G := G) (w := w) has
  refine ⟨by simp [hl], fun f hf => ?_⟩
  obtain ⟨i1, i2⟩ := ih (fun j => f (j + 1)) (fun j y hy hj => hf (j + 1) y (by rw [show c + (j + 1) = c + 1 + j by omega]; exact hy) (by simpa using hj))
  refine ⟨fun j hj => ?_, fun j y hy => ?_⟩
  ·cases j with
   | zero => exact ⟨q, hq⟩
   | succ j => obtain ⟨y, hy⟩ := i1 j (by simpa using hj); exact ⟨y, by rw [show c + (j + 1) = c + 1 + j by omega]; exact hy⟩
  ·cases j with
   | zero => simp at hy; subst hy; exact zcK ha (hf 0 q hq (by simp))
   | succ j => exact i2 j y (by simpa using hy)
theorem zjm {G : Gh} {w : World} {β : Bool} {t : TypeId} {p : PV} {c B o : Nat} {a : AV} {cv : Nat → Value} (h : rdT P β t p c = some a)
  (hc : ∀ j y, p.cells[j]? = some y → cl w B (o + j) = some (cv j)) (hr : ∀ j y, p.cells[j]? = some y → PR w (G.prot β) y (cv j)) :
  ∃ v, (loadVar t ⟨B, o + c, none⟩).run P w = .ok v w ∧ VR G w a v := by
 unfold rdT at h
 split at h
 ·rename_i hag
  rw [bind_some] at h; obtain ⟨ls, hls, h⟩ := h
  rw [bind_some] at h; obtain ⟨n, hn, h⟩ := h
  rw [za] at h; obtain ⟨hnl, h⟩ := h
  obtain rfl := beqN.1 hnl
  rw [bind_some] at h; obtain ⟨as, has, h⟩ := h
  obtain rfl := ya h
  obtain ⟨hl, hf⟩ := zbC (G := G) (w := w) has
  obtain ⟨f1, f2⟩ := hf (fun j => cv (c + j)) (fun j y hy _ => hr _ y hy)
  refine ⟨_, zbm hag hn (fun j => cv (c + j)) (fun j hj => ?_), .agg _ _ (by simp [hl]) fun j y hy => ?_⟩
  ·obtain ⟨y, hy⟩ := f1 j hj
   rw [show o + c + j = o + (c + j) by omega]; exact hc _ y hy
  ·have hj : j < ls.length := by rw [← hl]; exact (ye.1 hy).1
   have := f2 j y hy
   simpa [ym, hj] using this
 ·rename_i hag
  rw [bind_some] at h; obtain ⟨l, hl, h⟩ := h
  rw [bind_some] at h; obtain ⟨q, hq, h⟩ := h
  exact ⟨cv c, zaG hag (hc c q hq), zcK h (hr c q hq)⟩
 ·simp at h
theorem box?_some {mem : Mem} {b g : Nat} {x : Box} (h : box? mem b g = some x) : mem[b]? = some (some x) ∧ x.gen = g := by
 unfold box? at h
 split at h
 ·rename_i y e
  cases hg : Nat.beq y.gen g <;> cases ho : y.row.isOwn <;> simp [hg, ho] at h
  subst h; exact ⟨e, beqN.1 hg⟩
 ·simp at h
theorem box?_own {mem : Mem} {b g : Nat} {x : Box} (h : box? mem b g = some x) : x.row.isOwn = false := by
 unfold box? at h
 split at h
 ·rename_i y e
  cases hg : Nat.beq y.gen g <;> cases ho : y.row.isOwn <;> simp [hg, ho] at h
  subst h; exact ho
 ·simp at h
theorem boxO?_some {mem : Mem} {b g : Nat} {x : Box} (h : boxO? mem b g = some x) : mem[b]? = some (some x) ∧ x.gen = g ∧ x.row.isOwn = true := by
 unfold boxO? at h
 split at h
 ·rename_i y e
  cases hg : Nat.beq y.gen g <;> cases ho : y.row.isOwn <;> simp [hg, ho] at h
  subst h; exact ⟨e, beqN.1 hg, ho⟩
 ·simp at h
theorem MemR.at_ptr' {G : Gh} {w : World} {mem : Mem} (hM : MemR G w mem) {b g i c : Nat} {x : Box} {cv : Value} (hm : mem[b]? = some (some x)) (hge : x.gen = g) (h : VR G w (.ptr b g i c) cv) :
  ∃ B, cv = .pointer (some ⟨B, i * x.row.e + c, none⟩) ∧ G.loc b g = some ⟨some B, x.row.e, x.row.len⟩ ∧ G.mine B ∧ B < w.heap.size ∧
   Free w B ∧ RowR G w B x.row ∧ (x.frz = false → ∀ β o, ¬ G.prot β B o) := by
 subst hge
 have hb := hM.box b x hm
 obtain ⟨o, hl, hr⟩ := hb.loc
 cases h with
 | ptr _ _ _ _ L B hL hB =>
  rw [hl] at hL
  obtain rfl := ya hL
  simp only at hB; subst hB
  obtain ⟨h1, h2, h3, h4, h5⟩ := hr
  exact ⟨B, rfl, hl, h1, h2, h3, h4, h5⟩
theorem MemR.at_ptr {G : Gh} {w : World} {mem : Mem} (hM : MemR G w mem) {b g i c : Nat} {x : Box} {cv : Value} (hx : box? mem b g = some x) (h : VR G w (.ptr b g i c) cv) :
  ∃ B, cv = .pointer (some ⟨B, i * x.row.e + c, none⟩) ∧ G.loc b g = some ⟨some B, x.row.e, x.row.len⟩ ∧ G.mine B ∧ B < w.heap.size ∧
   Free w B ∧ RowR G w B x.row ∧ (x.frz = false → ∀ β o, ¬ G.prot β B o) := hM.at_ptr' (box?_some hx).1 (box?_some hx).2 h
theorem zgX {G : Gh} {w : World} {mem : Mem} {t : TypeId} {a : AV} {out : Out} {cv : Value} (hM : MemR G w mem) (h : loadA P t mem a = some out) (ha : VR G w a cv) :
  ∃ v rd, out = { v, rd } ∧ ∃ cv', (Instr.loadAt t cv).run P w = .ok cv' w ∧ VR G w v cv' := by
 unfold loadA at h
 split at h
 ·rename_i β p c
  obtain ⟨v, hv, rfl⟩ := yd.1 h
  refine ⟨v, [], rfl, ?_⟩
  cases ha with
  | el _ _ _ B o f h hr =>
   obtain ⟨cv', hrun, hvr⟩ := zjm (P := P) (w := w) (o := o) (B := B) hv (fun j y hy => (h j y hy).1) hr
   exact ⟨cv', by simp [Instr.loadAt, Instr.sureAddr, hrun], hvr⟩
 ·rename_i b g i c
  rw [bind_some] at h; obtain ⟨x, hx, h⟩ := h
  obtain ⟨B, rfl, hl, hmine, hB, hfz, hrow, hpr⟩ := hM.at_ptr hx ha
  have hsa : ∀ cv', (loadVar t ⟨B, i * x.row.e + c, none⟩).run P w = .ok cv' w → (Instr.loadAt t (.pointer (some ⟨B, i * x.row.e + c, none⟩))).run P w = .ok cv' w := by
   intro cv' hh; simp [Instr.loadAt, Instr.sureAddr, hh]
  obtain ⟨gen, frz, row⟩ := x
  split at h
  ·rename_i e cs hrw
   simp only at hrw; subst hrw
   rw [bind_some] at h; obtain ⟨ag, hag, h⟩ := h
   obtain ⟨_, hcs⟩ := hrow
   cases ag with
   | true =>
    simp only [yg] at h
    rw [bind_some] at h; obtain ⟨n, hn, h⟩ := h
    rw [za] at h; obtain ⟨hle, h⟩ := h
    have hle := bleN.1 hle
    obtain rfl := ya h
    refine ⟨_, _, rfl, _, hsa _ (zbm hag hn (fun j => (cl w B (i * e + c + j)).getD undef) (fun j hj => ?_)), .agg _ _ ?_ ?_⟩
    ·obtain ⟨v, hv, _, _⟩ := hcs (i * e + c + j) (cs[i * e + c + j]'(by omega)) (yf _)
     show cl w B _ = _
     simp only [Row.e]; rw [hv]; rfl
    ·simp; omega
    ·intro j y hy
     have hj : j < n := by have := (ye.1 hy).1; simp at this; omega
     have hy' : cs[i * e + c + j]? = some y := by
      rw [yg1 hj, yb1] at hy; exact hy
     obtain ⟨v, hv, _, hvr⟩ := hcs _ y hy'
     simpa [ym, hj, hv] using hvr
   | false =>
    simp only [yh] at h
    obtain ⟨v, hv, rfl⟩ := yd.1 h
    obtain ⟨u, hu, _, hvr⟩ := hcs _ v hv
    exact ⟨_, _, rfl, u, hsa _ (zaG hag hu), hvr⟩
  ·rename_i k xs hrw
   simp only at hrw; subst hrw
   rw [za] at h; obtain ⟨hc0, h⟩ := h
   obtain rfl := beqN.1 hc0
   rw [za] at h; obtain ⟨hag, h⟩ := h
   obtain ⟨v, hv, rfl⟩ := yd.1 h
   have hc := hrow i v hv
   have hag' : isAgg? P t = some false := by
    cases hh : isAgg? P t with
    | none => simp [hh] at hag
    | some q => cases q <;> simp [hh] at hag ⊢
   exact ⟨_, _, rfl, _, hsa _ (zaG hag' (by simpa [Row.e] using hc)), .lit _ rfl⟩
  ·rename_i β e xs hrw
   simp only at hrw; subst hrw
   rw [bind_some] at h; obtain ⟨p, hp, h⟩ := h
   obtain ⟨v, hv, rfl⟩ := yd.1 h
   obtain ⟨_, hcs⟩ := hrow
   obtain ⟨cv', hrun, hvr⟩ := zjm (P := P) (w := w) (G := G) (o := i * e) (B := B) (cv := fun j => (cl w B (i * e + j)).getD undef) hv
    (fun j y hy => by obtain ⟨u, hu, _, _⟩ := hcs i p j y hp hy; rw [hu]; rfl)
    (fun j y hy => by obtain ⟨u, hu, _, hpr⟩ := hcs i p j y hp hy; rw [hu]; exact hpr)
   exact ⟨_, _, rfl, cv', hsa _ hrun, hvr⟩
  ·simp at h
 ·simp at h
end
end Go.Ab
end
section
namespace Go.Ab
variable [GTab]
section
variable {P : Program}
theorem zgh {α : Type} {xs : List α} {i : Int} {v : α} (h : getI xs i = some v) : 0 ≤ i ∧ i.toNat < xs.length ∧ xs[i.toNat]? = some v := by
 unfold getI at h
 cases hd : decide (0 ≤ i) <;> simp only [hd, yg, yh, reduceCtorEq] at h
 exact ⟨of_decide_eq_true hd, (ye.1 h).1, h⟩
theorem zas (k : IntKind) (i : Int) (w : World) : (asIntOf (.int k i)).run P w = .ok (k, i) w := rfl
theorem zM {t et : TypeId} {s B o len cap : Nat} {k : IntKind} {i : Int} (hu : P.underlying t = some (.slice et)) (hs : tsz P et = some s) (h0 : 0 ≤ i) (h1 : i < (len : Int)) (w : World) :
  (Instr.indexAt t (.slice (some ⟨B, o, none⟩) len cap) (.int k i)).run P w = .ok (.pointer (some ⟨B, o + i.toNat * s, none⟩)) w := by
 simp only [Instr.indexAt, Sem.run_bind, zas, Result.andThen_ok, run_underlying hu, Sem.run_pure, h0, h1, and_self, if_true, zV hs, zB]
theorem zfp {t et : TypeId} {s B o n : Nat} {k : IntKind} {i : Int} (hu : P.underlying t = some (.array n et)) (hs : tsz P et = some s) (h0 : 0 ≤ i) (h1 : i < (n : Int)) (w : World) :
  (Instr.indexAt t (.pointer (some ⟨B, o, none⟩)) (.int k i)).run P w = .ok (.pointer (some ⟨B, o + i.toNat * s, none⟩)) w := by
 simp only [Instr.indexAt, Sem.run_bind, zas, Result.andThen_ok, run_underlying hu, Sem.run_pure, h0, h1, and_self, if_true, zV hs, zB, Instr.sureAddr]
theorem MemR.at_ms {G : Gh} {w : World} {mem : Mem} (hM : MemR G w mem) {b g o n : Nat} {x : Box} {cv : Value} (hx : box? mem b g = some x) (h : VR G w (.ms b g o n) cv) :
  (∃ B cap, cv = .slice (some ⟨B, o * x.row.e, none⟩) n cap ∧ n ≤ cap ∧ o + n ≤ x.row.len ∧ G.loc b g = some ⟨some B, x.row.e, x.row.len⟩ ∧ Fits w B ((o + cap) * x.row.e) ∧ G.mine B ∧ B < w.heap.size ∧
   Free w B ∧ RowR G w B x.row ∧ (x.frz = false → ∀ β o, ¬ G.prot β B o)) ∨
  (cv = .slice none 0 0 ∧ o = 0 ∧ n = 0 ∧ x.row.len = 0 ∧ G.loc b g = some ⟨none, x.row.e, x.row.len⟩) ∨
  (∃ B oo, cv = .slice (some ⟨B, oo, none⟩) 0 0 ∧ 1 ≤ o ∧ n = 0 ∧ o ≤ x.row.len ∧ G.loc b g = some ⟨some B, x.row.e, x.row.len⟩) := by
 obtain ⟨hm, rfl⟩ := box?_some hx
 have hb := hM.box b x hm
 obtain ⟨oo, hl, hr⟩ := hb.loc
 cases h with
 | ms _ _ _ _ cap L B hL hB hn hon hf =>
  rw [hl] at hL
  obtain rfl := ya hL
  simp only at hB; subst hB
  obtain ⟨h1, h2, h3, h4, h5⟩ := hr
  exact .inl ⟨B, cap, rfl, hn, hon, hl, hf, h1, h2, h3, h4, h5⟩
 | msNil _ _ L hL hB =>
  rw [hl] at hL
  obtain rfl := ya hL
  simp only at hB; subst hB
  exact .inr (.inl ⟨rfl, rfl, rfl, hr.1, hl⟩)
 | msZ _ _ _ B oo L hL hB ho hon =>
  rw [hl] at hL
  obtain rfl := ya hL
  simp only at hB; subst hB
  exact .inr (.inr ⟨B, oo, rfl, ho, rfl, hon, hl⟩)
theorem MemR.at_msw {G : Gh} {w : World} {mem : Mem} (hM : MemR G w mem) {b g : Nat} {x : Box} {cv : Value} (hx : box? mem b g = some x) (h : VR G w (.msw b g) cv) :
  (∃ B cap, cv = .slice (some ⟨B, 0, none⟩) x.row.len cap ∧ x.row.len ≤ cap ∧ G.loc b g = some ⟨some B, x.row.e, x.row.len⟩ ∧ Fits w B (cap * x.row.e) ∧ G.mine B ∧ B < w.heap.size ∧
   Free w B ∧ RowR G w B x.row ∧ (x.frz = false → ∀ β o, ¬ G.prot β B o)) ∨
  (cv = .slice none 0 0 ∧ x.row.len = 0 ∧ x.row.isCells = false ∧ G.loc b g = some ⟨none, x.row.e, x.row.len⟩) := by
 obtain ⟨hm, rfl⟩ := box?_some hx
 have hb := hM.box b x hm
 obtain ⟨oo, hl, hr⟩ := hb.loc
 cases h with
 | msw _ _ cap L B hL hB hn hf =>
  rw [hl] at hL
  obtain rfl := ya hL
  simp only at hB; subst hB
  obtain ⟨h1, h2, h3, h4, h5⟩ := hr
  exact .inl ⟨B, cap, rfl, hn, hl, hf, h1, h2, h3, h4, h5⟩
 | mswNil _ _ L hL hB hn =>
  rw [hl] at hL
  obtain rfl := ya hL
  simp only at hB; subst hB
  exact .inr ⟨rfl, hr.1, hr.2, hl⟩
theorem zjZ {G : Gh} {w : World} {mem : Mem} {t : TypeId} {x : AV} {k : IntKind} {i : Int} {out : Out} {cv : Value} (hM : MemR G w mem) (h : indexA P t mem x i = some out) (hx : VR G w x cv) :
  ∃ v rd, out = { v, rd } ∧ ∃ cv', (Instr.indexAt t cv (.int k i)).run P w = .ok cv' w ∧ VR G w v cv' := by
 unfold indexA at h
 split at h
 ·rename_i et hu
  rw [bind_some] at h; obtain ⟨s, hs, h⟩ := h
  split at h
  ·rename_i β kk xs
   rw [za] at h; obtain ⟨hs1, h⟩ := h
   obtain rfl := beqN.1 hs1
   rw [bind_some] at h; obtain ⟨v, hv, h⟩ := h
   obtain rfl := ya h
   obtain ⟨h0, h1, h2⟩ := zgh hv
   refine ⟨_, _, rfl, ?_⟩
   cases hx with
   | imm _ _ _ hp =>
    cases hp with
    | intsNil => simp at h1
    | ints _ _ B o cap hcap hh =>
     refine ⟨_, zM hu hs h0 (by omega) w, ?_⟩
     have := hh _ _ h2
     refine .el β _ 0 B (o + i.toNat * 1) (fun _ => .int kk v) (fun j y hy => ?_) (fun j y hy => ?_)
     ·cases j with
      | zero => simpa using this
      | succ j => simp [PV.cells] at hy
     ·cases j with
      | zero => simp [PV.cells] at hy; subst hy; exact .lit _ rfl
      | succ j => simp [PV.cells] at hy
  ·rename_i β e xs
   rw [za] at h; obtain ⟨hs1, h⟩ := h
   obtain rfl := beqN.1 hs1
   rw [bind_some] at h; obtain ⟨v, hv, h⟩ := h
   obtain rfl := ya h
   obtain ⟨h0, h1, h2⟩ := zgh hv
   refine ⟨_, _, rfl, ?_⟩
   cases hx with
   | imm _ _ _ hp =>
    cases hp with
    | slNil => simp at h1
    | sl _ _ B o cap cv he hcap hlen hh h1' hr =>
     refine ⟨_, zM hu hs h0 (by omega) w, ?_⟩
     exact .el β _ 0 B (o + i.toNat * s) (fun j => cv i.toNat j) (fun j y hy => hh _ _ _ _ h2 hy) (fun j y hy => hr _ _ _ _ h2 hy)
  ·rename_i b g o n
   rw [bind_some] at h; obtain ⟨bx, hbx, h⟩ := h
   rw [za] at h; obtain ⟨hc, h⟩ := h
   simp only [yb, decide_eq_true_eq] at hc
   obtain ⟨⟨hs1, h0⟩, h1⟩ := hc
   obtain rfl := beqN.1 hs1
   obtain rfl := ya h
   refine ⟨_, _, rfl, ?_⟩
   rcases hM.at_ms hbx hx with ⟨B, cap, rfl, hn, hon, hl, _⟩ | ⟨rfl, rfl, rfl, _⟩ | ⟨B, oo, rfl, _, rfl, _⟩
   ·refine ⟨_, zM hu hs h0 h1 w, ?_⟩
    have := VR.ptr (G := G) (w := w) b g (o + i.toNat) 0 _ B hl rfl
    simpa [yk1] using this
   ·simp at h1; omega
   ·simp at h1; omega
  ·rename_i b g
   rw [bind_some] at h; obtain ⟨bx, hbx, h⟩ := h
   rw [za] at h; obtain ⟨hc, h⟩ := h
   simp only [yb, decide_eq_true_eq] at hc
   obtain ⟨⟨hs1, h0⟩, h1⟩ := hc
   obtain rfl := beqN.1 hs1
   obtain rfl := ya h
   refine ⟨_, _, rfl, ?_⟩
   rcases hM.at_msw hbx hx with ⟨B, cap, rfl, hn, hl, _⟩ | ⟨rfl, hz, _⟩
   ·refine ⟨_, zM hu hs h0 h1 w, ?_⟩
    have := VR.ptr (G := G) (w := w) b g i.toNat 0 _ B hl rfl
    simpa using this
   ·rw [hz] at h1; simp at h1; omega
  ·simp at h
 ·rename_i n et hu
  rw [bind_some] at h; obtain ⟨s, hs, h⟩ := h
  split at h
  ·rename_i b g j c
   rw [za] at h; obtain ⟨hc, h⟩ := h
   simp only [yb, decide_eq_true_eq] at hc
   obtain rfl := ya h
   refine ⟨_, _, rfl, ?_⟩
   cases hx with
   | ptr _ _ _ _ L B hl hb =>
    refine ⟨_, zfp hu hs hc.1 hc.2 w, ?_⟩
    rw [yc3]
    exact .ptr b g j _ L B hl hb
  ·simp at h
 ·simp at h
theorem zaK {y d : Nat} {i : Option Int} {n : Nat} (h : bound1 y i d = some n) : (i = none ∧ n = d) ∨ (∃ z, i = some z ∧ 0 ≤ z ∧ z ≤ (y : Int) ∧ n = z.toNat) := by
 cases i with
 | none => exact .inl ⟨rfl, (ya h).symm⟩
 | some z =>
  simp only [bound1] at h
  rw [za] at h
  obtain ⟨hc, h⟩ := h
  simp only [yb, decide_eq_true_eq] at hc
  exact .inr ⟨z, rfl, hc.1, hc.2, (ya h).symm⟩
def OptR (o : Option Int) (v : Option Value) : Prop :=
 match o, v with
 | none, none => True
 | some i, some v => ∃ k, v = .int k i
 | _, _ => False
theorem zq {isSlice : Bool} {len cap : Nat} {lo hi mx : Option Int} {vl vh vm : Option Value} {l h : Nat} (hb : bounds len lo hi mx = some (l, h)) (hc : len ≤ cap)
  (hl : OptR lo vl) (hh : OptR hi vh) (hm : OptR mx vm) (w : World) :
  ∃ m, (Instr.sliceBounds isSlice len cap vl vh vm).run P w = .ok (l, h, m) w ∧ l ≤ h ∧ h ≤ len ∧ h ≤ m ∧ m ≤ cap := by
 unfold bounds at hb
 rw [za] at hb; obtain ⟨hg, hb⟩ := hb
 rw [bind_some] at hb; obtain ⟨m, h1, hb⟩ := hb
 rw [bind_some] at hb; obtain ⟨h', h2, hb⟩ := hb
 rw [bind_some] at hb; obtain ⟨l', h3, hb⟩ := hb
 simp only [Option.some.injEq, Prod.mk.injEq] at hb
 obtain ⟨rfl, rfl⟩ := hb
 rcases zaK h1 with ⟨rfl, rfl⟩ | ⟨zm, rfl, zm0, zm1, rfl⟩
 ·have : vm = none := by cases vm <;> simp_all [OptR]
  subst this
  rcases zaK h2 with ⟨rfl, rfl⟩ | ⟨zh, rfl, zh0, zh1, rfl⟩
  ·have : vh = none := by cases vh <;> simp_all [OptR]
   subst this
   rcases zaK h3 with ⟨rfl, rfl⟩ | ⟨zl, rfl, zl0, zl1, rfl⟩
   ·have : vl = none := by cases vl <;> simp_all [OptR]
    subst this
    exact ⟨cap, by simp [Instr.sliceBounds], by omega, by omega, by omega, by omega⟩
   ·cases vl with
    | none => simp [OptR] at hl
    | some v =>
     obtain ⟨k, rfl⟩ := hl
     exact ⟨cap, by simp [Instr.sliceBounds, Instr.sliceBound, zas, zl0, zl1], by omega, by omega, by omega, by omega⟩
  ·cases vh with
   | none => simp [OptR] at hh
   | some v =>
    obtain ⟨k, rfl⟩ := hh
    have zh2 : zh ≤ (cap : Int) := by omega
    rcases zaK h3 with ⟨rfl, rfl⟩ | ⟨zl, rfl, zl0, zl1, rfl⟩
    ·have : vl = none := by cases vl <;> simp_all [OptR]
     subst this
     exact ⟨cap, by simp [Instr.sliceBounds, Instr.sliceBound, zas, zh0, zh2], by omega, by omega, by omega, by omega⟩
    ·cases vl with
     | none => simp [OptR] at hl
     | some v =>
      obtain ⟨k, rfl⟩ := hl
      have e : ((zh.toNat : Nat) : Int) = zh := by omega
      have zl2 : zl ≤ zh := by omega
      have mz : ¬ (max zh 0 < zl) := by omega
      exact ⟨cap, by simp [Instr.sliceBounds, Instr.sliceBound, zas, zh0, zh2, zl0, e, zl2, mz], by omega, by omega, by omega, by omega⟩
 ·cases vm with
  | none => simp [OptR] at hm
  | some v =>
   obtain ⟨km, rfl⟩ := hm
   have zm2 : zm ≤ (cap : Int) := by omega
   have em : ((zm.toNat : Nat) : Int) = zm := by omega
   rcases zaK h2 with ⟨rfl, rfl⟩ | ⟨zh, rfl, zh0, zh1, rfl⟩
   ·simp at hg
   ·cases vh with
    | none => simp [OptR] at hh
    | some v =>
     obtain ⟨k, rfl⟩ := hh
     have zh2 : zh ≤ zm := by omega
     rcases zaK h3 with ⟨rfl, rfl⟩ | ⟨zl, rfl, zl0, zl1, rfl⟩
     ·have : vl = none := by cases vl <;> simp_all [OptR]
      subst this
      have mz : ¬ (max zm 0 < zh) := by omega
      exact ⟨zm.toNat, by simp [Instr.sliceBounds, Instr.sliceBound, zas, zh0, zh2, zm0, zm2, em, mz], by omega, by omega, by omega, by omega⟩
     ·cases vl with
      | none => simp [OptR] at hl
      | some v =>
       obtain ⟨k, rfl⟩ := hl
       have e : ((zh.toNat : Nat) : Int) = zh := by omega
       have zl2 : zl ≤ zh := by omega
       have mz : ¬ (max zm 0 < zh) := by omega
       have mz2 : ¬ (max zh 0 < zl) := by omega
       have mp : zh ≤ max zm 0 := by omega
       have mp2 : zl ≤ max zh 0 := by omega
       exact ⟨zm.toNat, by simp [Instr.sliceBounds, Instr.sliceBound, zas, zh0, zh2, zm0, zm2, em, zl0, e, zl2, mz, mz2, mp, mp2], by omega, by omega, by omega, by omega⟩
end
end Go.Ab
end
section
namespace Go.Ab
variable [GTab]
section
variable {P : Program}
def Still (G : Gh) (w : World) (P : Program) (s : Sem Value) (out : Out) : Prop := out.wr = [] ∧ out.push = [] ∧ ∃ cv, s.run P w = .ok cv w ∧ VR G w out.v cv
theorem ze {t et : TypeId} {s : Nat} (hu : P.underlying t = some (.slice et)) (hs : tsz P et = some s) {a : Option Addr} {len cap : Nat} {lo hi mx : Option Value} {l h m : Nat} {w : World}
  (hb : (Instr.sliceBounds true len cap lo hi mx).run P w = .ok (l, h, m) w) :
  (Instr.sliceAt t (.slice a len cap) lo hi mx).run P w = .ok (.slice (if m = l then a else a.map (·.add (l * s))) (h - l) (m - l)) w := by
 simp only [Instr.sliceAt, Instr.slice, Sem.run_bind, run_underlying hu, Result.andThen_ok, hb, zV hs, Sem.run_pure]
theorem zfZ {t : TypeId} (hu : P.underlying t = some .string) {s : ByteArray} {lo hi : Option Value} {l h m : Nat} {w : World}
  (hb : (Instr.sliceBounds false s.size s.size lo hi none).run P w = .ok (l, h, m) w) :
  (Instr.sliceAt t (.string s) lo hi none).run P w = .ok (.string (s.extract l h)) w := by
 simp [Instr.sliceAt, Instr.slice, run_underlying hu, hb]
theorem zhl {t et : TypeId} {s n B o : Nat} (hu : P.underlying t = some (.array n et)) (hs : tsz P et = some s) {lo hi mx : Option Value} {l h m : Nat} {w : World}
  (hb : (Instr.sliceBounds false n n lo hi mx).run P w = .ok (l, h, m) w) :
  (Instr.sliceAt t (.pointer (some ⟨B, o, none⟩)) lo hi mx).run P w = .ok (.slice (some (if m = l then ⟨B, o, none⟩ else ⟨B, o + l * s, none⟩)) (h - l) (m - l)) w := by
 simp only [Instr.sliceAt, Instr.sureAddr, Sem.run_bind, run_underlying hu, Result.andThen_ok, hb, zV hs, Sem.run_pure, zB]
theorem zbe {α : Type} {xs : List α} {l h i : Nat} {x : α} (hx : ((xs.take h).drop l)[i]? = some x) : xs[l + i]? = some x ∧ l + i < h := by
 rw [yb1] at hx
 have hlt : l + i < h := by
  rcases yc2 (l + i) h with hh | hh
  ·exact hh
  ·rw [ya1 (by simp; omega)] at hx; cases hx
 exact ⟨by rw [yg1 hlt] at hx; exact hx, hlt⟩
theorem zfK {G : Gh} {w : World} {b g o n cap l h m : Nat} {B e N : Nat} (hloc : G.loc b g = some ⟨some B, e, N⟩) (hfit : Fits w B ((o + cap) * e)) (hon : o + n ≤ N)
  (h1 : l ≤ h) (h2 : h ≤ n) (h3 : h ≤ m) (h4 : m ≤ cap) :
  VR G w (.ms b g (o + l) (h - l)) (.slice (if m = l then (some ⟨B, o * e, none⟩ : Option Addr) else (some (⟨B, o * e, none⟩ : Addr)).map (·.add (l * e))) (h - l) (m - l)) := by
 have hf : Fits w B ((o + l + (m - l)) * e) := fun j hj => hfit j (yx1 hj (yy1 _ (by omega)))
 by_cases hml : m = l
 ·rw [if_pos hml]
  have e0 : h - l = 0 := by omega
  have e1 : m - l = 0 := by omega
  rw [e0, e1]
  by_cases hl0 : l = 0
  ·subst hl0
   rw [e1] at hf
   exact .ms b g o 0 0 _ B hloc rfl (by omega) (by simp; omega) (by simpa using hf)
  ·exact .msZ b g (o + l) B _ _ hloc rfl (by omega) (by simp; omega)
 ·rw [if_neg hml]
  simp only [yk, zB]
  have := VR.ms (G := G) (w := w) b g (o + l) (h - l) (m - l) _ B hloc rfl (by omega) (by simp; omega) hf
  simpa [yk1] using this
theorem zkg {G : Gh} {w : World} {mem : Mem} {t : TypeId} {x : AV} {lo hi mx : Option Int} {vl vh vm : Option Value} {out : Out} {cv : Value} (hM : MemR G w mem) (h : sliceA P t mem x lo hi mx = some out) (hx : VR G w x cv)
  (hl : OptR lo vl) (hh : OptR hi vh) (hm : OptR mx vm) : Still G w P (Instr.sliceAt t cv vl vh vm) out := by
 unfold sliceA at h
 split at h
 ·rename_i hu
  split at h
  ·rename_i s
   rw [za] at h; obtain ⟨hmx, h⟩ := h
   obtain ⟨⟨l, h'⟩, hb, rfl⟩ := yd.1 h
   obtain rfl := hx.lit_inv
   have : mx = none := by cases mx <;> simp_all
   subst this
   have : vm = none := by cases vm <;> simp_all [OptR]
   subst this
   obtain ⟨m, hr, _⟩ := zq (P := P) (isSlice := false) hb (yx _) hl hh hm w
   exact ⟨rfl, rfl, _, zfZ hu hr, .lit _ rfl⟩
  ·simp at h
 ·rename_i et hu
  rw [bind_some] at h; obtain ⟨s, hs, h⟩ := h
  split at h
  ·rename_i β k xs
   rw [za] at h; obtain ⟨hs1, h⟩ := h
   obtain rfl := beqN.1 hs1
   obtain ⟨⟨l, h'⟩, hb, rfl⟩ := yd.1 h
   cases hx with
   | imm _ _ _ hp =>
    cases hp with
    | intsNil _ a =>
     obtain ⟨m, hr, h1, h2, h3, h4⟩ := zq (P := P) (isSlice := true) (cap := 0) hb (by simp) hl hh hm w
     refine ⟨rfl, rfl, _, ze hu hs (a := a) (len := 0) (cap := 0) hr, ?_⟩
     simp at h2
     obtain rfl : l = 0 := by omega
     obtain rfl : h' = 0 := by omega
     obtain rfl : m = 0 := by omega
     exact .imm β _ _ (by simpa using PR.intsNil k _) rfl
    | ints _ _ B o cap hcap hh' =>
     obtain ⟨m, hr, h1, h2, h3, h4⟩ := zq (P := P) (isSlice := true) (cap := cap) hb hcap hl hh hm w
     refine ⟨rfl, rfl, _, ze hu hs hr, .imm β _ _ ?_ rfl⟩
     have hlen : ((xs.take h').drop l).length = h' - l := by simp; omega
     by_cases hml : m = l
     ·have : (xs.take h').drop l = [] := yo (by omega)
      rw [if_pos hml, this, show h' - l = ([] : List Int).length by simp; omega]
      exact .ints k [] B o _ (by simp) (fun i x hx => by simp at hx)
     ·rw [if_neg hml, ← hlen]
      simp only [yk, zB, ye3]
      refine .ints k _ B (o + l) _ (by rw [hlen]; omega) (fun i x hx => ?_)
      obtain ⟨hx, _⟩ := zbe hx
      rw [yc3]; exact hh' _ _ hx
  ·rename_i β e xs
   rw [za] at h; obtain ⟨hs1, h⟩ := h
   obtain rfl := beqN.1 hs1
   obtain ⟨⟨l, h'⟩, hb, rfl⟩ := yd.1 h
   cases hx with
   | imm _ _ _ hp =>
    cases hp with
    | slNil _ a =>
     obtain ⟨m, hr, h1, h2, h3, h4⟩ := zq (P := P) (isSlice := true) (cap := 0) hb (by simp) hl hh hm w
     refine ⟨rfl, rfl, _, ze hu hs (a := a) (len := 0) (cap := 0) hr, ?_⟩
     simp at h2
     obtain rfl : l = 0 := by omega
     obtain rfl : h' = 0 := by omega
     obtain rfl : m = 0 := by omega
     exact .imm β _ _ (by simpa using PR.slNil s _) rfl
    | sl _ _ B o cap cv he hcap hlen0 hh' h1' hr' =>
     obtain ⟨m, hr, h1, h2, h3, h4⟩ := zq (P := P) (isSlice := true) (cap := cap) hb hcap hl hh hm w
     refine ⟨rfl, rfl, _, ze hu hs hr, .imm β _ _ ?_ rfl⟩
     have hlen : ((xs.take h').drop l).length = h' - l := by simp; omega
     by_cases hml : m = l
     ·have : (xs.take h').drop l = [] := yo (by omega)
      rw [if_pos hml, this, show h' - l = ([] : List PV).length by simp; omega]
      exact .sl s [] B o _ cv he (by simp) (fun x hx => by simp at hx) (fun i x c y hx => by simp at hx) (fun i x c y hx => by simp at hx) (fun i x c y hx => by simp at hx)
     ·rw [if_neg hml, ← hlen]
      simp only [yk, zB]
      refine .sl s _ B (o + l * s) _ (fun i c => cv (l + i) c) he (by rw [hlen]; omega) (fun x hx => hlen0 x (yy2 (List.mem_of_mem_drop hx))) (fun i x c y hx hy => ?_) (fun i x c y hx hy => h1' _ _ _ _ (zbe hx).1 hy) (fun i x c y hx hy => ?_)
      ·obtain ⟨hx, _⟩ := zbe hx
       have := hh' _ _ _ _ hx hy
       rw [show o + l * s + i * s + c = o + (l + i) * s + c by rw [yk1]; omega]; exact this
      ·obtain ⟨hx, _⟩ := zbe hx
       exact hr' _ _ _ _ hx hy
  ·rename_i b g o n
   rw [bind_some] at h; obtain ⟨bx, hbx, h⟩ := h
   rw [za] at h; obtain ⟨hs1, h⟩ := h
   obtain rfl := beqN.1 hs1
   obtain ⟨⟨l, h'⟩, hb, rfl⟩ := yd.1 h
   rcases hM.at_ms hbx hx with ⟨B, cap, rfl, hn, hon, hloc, hfit, _⟩ | ⟨rfl, rfl, rfl, hz, hloc⟩ | ⟨B, oo, rfl, ho, rfl, hon, hloc⟩
   ·obtain ⟨m, hr, h1, h2, h3, h4⟩ := zq (P := P) (isSlice := true) (cap := cap) hb hn hl hh hm w
    exact ⟨rfl, rfl, _, ze hu hs hr, zfK hloc hfit hon h1 h2 h3 h4⟩
   ·obtain ⟨m, hr, h1, h2, h3, h4⟩ := zq (P := P) (isSlice := true) (cap := 0) hb (by simp) hl hh hm w
    refine ⟨rfl, rfl, _, ze hu hs (a := none) hr, ?_⟩
    obtain rfl : l = 0 := by omega
    obtain rfl : h' = 0 := by omega
    obtain rfl : m = 0 := by omega
    exact .msNil b g _ hloc rfl
   ·obtain ⟨m, hr, h1, h2, h3, h4⟩ := zq (P := P) (isSlice := true) (cap := 0) hb (by simp) hl hh hm w
    refine ⟨rfl, rfl, _, ze hu hs hr, ?_⟩
    obtain rfl : l = 0 := by omega
    obtain rfl : h' = 0 := by omega
    obtain rfl : m = 0 := by omega
    exact .msZ b g o B oo _ hloc rfl ho hon
  ·rename_i b g
   rw [bind_some] at h; obtain ⟨bx, hbx, h⟩ := h
   rw [za] at h; obtain ⟨hs1, h⟩ := h
   obtain rfl := beqN.1 hs1
   obtain ⟨⟨l, h'⟩, hb, rfl⟩ := yd.1 h
   rcases hM.at_msw hbx hx with ⟨B, cap, rfl, hn, hloc, hfit, _⟩ | ⟨rfl, hz, _, hloc⟩
   ·obtain ⟨m, hr, h1, h2, h3, h4⟩ := zq (P := P) (isSlice := true) (cap := cap) hb hn hl hh hm w
    have := zfK (o := 0) (n := bx.row.len) hloc (by simpa using hfit) (by simp) h1 h2 h3 h4
    exact ⟨rfl, rfl, _, ze hu hs hr, by simpa using this⟩
   ·rw [hz] at hb
    obtain ⟨m, hr, h1, h2, h3, h4⟩ := zq (P := P) (isSlice := true) (cap := 0) hb (by simp) hl hh hm w
    refine ⟨rfl, rfl, _, ze hu hs (a := none) hr, ?_⟩
    obtain rfl : l = 0 := by omega
    obtain rfl : h' = 0 := by omega
    obtain rfl : m = 0 := by omega
    exact .msNil b g _ hloc rfl
  ·obtain ⟨⟨l, h'⟩, hb, rfl⟩ := yd.1 h
   obtain rfl := hx.lit_inv
   obtain ⟨m, hr, h1, h2, h3, h4⟩ := zq (P := P) (isSlice := true) (cap := 0) hb (by simp) hl hh hm w
   refine ⟨rfl, rfl, _, ze hu hs (a := none) hr, ?_⟩
   obtain rfl : l = 0 := by omega
   obtain rfl : h' = 0 := by omega
   obtain rfl : m = 0 := by omega
   exact .lit _ rfl
  ·simp at h
 ·rename_i n et hu
  rw [bind_some] at h; obtain ⟨s, hs, h⟩ := h
  split at h
  ·rename_i b g c
   rw [za] at h; obtain ⟨hs1, h⟩ := h
   obtain rfl := beqN.1 hs1
   rw [bind_some] at h; obtain ⟨bx, hbx, h⟩ := h
   obtain ⟨B, rfl, hloc, hmine, hB, hfz, hrow, hpr⟩ := hM.at_ptr hbx hx
   obtain ⟨gen, frz, row⟩ := bx
   split at h
   ·rename_i cs hrw
    simp only at hrw; subst hrw
    rw [za] at h; obtain ⟨hle, h⟩ := h
    have hle := bleN.1 hle
    obtain ⟨⟨l, h'⟩, hb, rfl⟩ := yd.1 h
    obtain ⟨m, hr, h1, h2, h3, h4⟩ := zq (P := P) (isSlice := false) (cap := n) hb (yx _) hl hh hm w
    have hfit : Fits w B ((c + n) * 1) := fun j hj => by
     obtain ⟨v, hv, _⟩ := hrow.2 j (cs[j]'(by omega)) (yf _)
     rw [hv]; rfl
    have hlen : (Row.cells 1 cs).len = cs.length := rfl
    have := zfK (o := c) (n := n) hloc hfit (by rw [hlen]; exact hle) h1 h2 h3 h4
    refine ⟨rfl, rfl, _, zhl hu hs hr, ?_⟩
    simp only [Row.e, ye3, yd3, yy, zB, yk] at this ⊢
    split
    ·rename_i e; simpa [e] using this
    ·rename_i e; simpa [e] using this
   ·simp at h
  ·simp at h
 ·simp at h
end
end Go.Ab
end
section
namespace Go.Ab
variable [GTab]
section
variable {P : Program}
theorem zlZ {G : Gh} {w : World} {mem : Mem} {t ty : TypeId} {x : AV} {n : Nat × List Nat} {cv : Value} (hM : MemR G w mem) (h : lenOf P t mem x = some n) (hx : VR G w x cv) :
  (Builtin.len_ #[t] ty #[cv]).run P w = .ok (.int .i64 (n.1 : Int)) w := by
 unfold lenOf at h
 split at h
 ·rename_i hu
  split at h
  ·obtain rfl := ya h
   obtain rfl := hx.lit_inv
   simp [Builtin.len_, run_underlying hu, goInt]
  ·simp at h
 ·rename_i et hu
  have key : ∀ (a : Option Addr) (l c : Nat), (Builtin.len_ #[t] ty #[.slice a l c]).run P w = .ok (.int .i64 (l : Int)) w := by
   intro a l c; simp [Builtin.len_, run_underlying hu, goInt]
  split at h
  ·obtain rfl := ya h
   cases hx with | imm _ _ _ hp => cases hp <;> exact key _ _ _
  ·obtain rfl := ya h
   cases hx with | imm _ _ _ hp => cases hp <;> exact key _ _ _
  ·obtain rfl := ya h
   cases hx <;> exact key _ _ _
  ·obtain ⟨bx, hbx, rfl⟩ := yd.1 h
   rcases hM.at_msw hbx hx with ⟨B, cap, rfl, _⟩ | ⟨rfl, hz, _⟩
   ·exact key _ _ _
   ·rw [key]; simp [hz]
  ·obtain rfl := ya h
   obtain rfl := hx.lit_inv
   exact key _ _ _
  ·simp at h
 ·simp at h
theorem zdE {G : Gh} {w : World} {f : Int → Int → Int} {k : IntKind} {op : Value → Value → Sem Value} (hop : ∀ a b, (op (.int k a) (.int k b)) = pure (.int k (f a b))) :
  ∀ {xs : List AV} {vs : List Value} {a r : Int}, foldInts f k xs a = some r → (xs.length = vs.length ∧ ∀ (j : Nat) (y : AV), xs[j]? = some y → VR G w y (vs.getD j undef)) →
   (vs.foldlM op (.int k a)).run P w = .ok (.int k r) w := by
 intro xs
 induction xs with
 | nil =>
  intro vs a r h hv
  simp [foldInts] at h; subst h
  have := yo hv.1.symm
  subst this; rfl
 | cons x xs ih =>
  intro vs a r h hv
  cases vs with
  | nil => simp at hv
  | cons v vs =>
   have h1 := hv.2 0 x rfl
   simp only [List.getD_cons_zero] at h1
   have hv' : xs.length = vs.length ∧ ∀ (j : Nat) (y : AV), xs[j]? = some y → VR G w y (vs.getD j undef) := ⟨by simpa using hv.1, fun j y hy => by simpa using hv.2 (j + 1) y (by simpa using hy)⟩
   unfold foldInts at h
   split at h
   ·simp_all
   ·rename_i k' b r' a' heq
    simp only [List.cons.injEq] at heq
    obtain ⟨rfl, rfl⟩ := heq
    rw [za] at h; obtain ⟨hk, h⟩ := h
    rw [zaR] at hk; subst hk
    obtain rfl := h1.lit_inv
    rw [List.foldlM_cons, hop]
    simp only [Sem.run_bind, Sem.run_pure, Result.andThen_ok]
    exact ih h hv'
   ·simp at h
theorem zS (C : Array Value) (j : Nat) : C.toList.getD j undef = C.getD j undef := by
 simp [yl, ym]
theorem zeC {s : TypeId} {f : Nat} {q : Nat × Nat × TypeId} (h : fieldOff P s f = some q) :
  ∃ fs x, P.underlying s = some (.struct fs) ∧ fs[f]? = some x ∧ x.offset = q.1 ∧ tsz P x.type = some q.2.1 ∧ x.type = q.2.2 ∧ 1 ≤ q.2.1 := by
 unfold fieldOff at h
 split at h
 ·rename_i fs hu
  rw [bind_some] at h; obtain ⟨x, hx, h⟩ := h
  rw [bind_some] at h; obtain ⟨n, hn, h⟩ := h
  rw [za] at h; obtain ⟨h1, h⟩ := h
  obtain rfl := ya h
  exact ⟨fs, x, hu, hx, rfl, hn, rfl, bleN.1 h1⟩
 ·simp at h
theorem zgI {s : TypeId} {f : Nat} {q : Nat × Nat × TypeId} (h : fieldOff P s f = some q) (B o : Nat) (w : World) :
  (Instr.fieldAt s (.pointer (some ⟨B, o, none⟩)) f).run P w = .ok (.pointer (some ⟨B, o + q.1, none⟩)) w := by
 obtain ⟨fs, x, hu, hx, ho, hn, ht, h1⟩ := zeC h
 have hne : ¬ (q.2.1 = 0) := by omega
 simp only [Instr.fieldAt, Sem.run_bind, run_underlying hu, Result.andThen_ok, hx, Instr.sureAddr, Sem.run_pure, fieldPlace, zV hn, hne, if_false, zB, ho]
theorem zmq {t : TypeId} {n : Nat} {ag : Bool} (hag : isAgg? P t = some ag) (hn : tsz P t = some n) {cs : Array Value} {o : Nat} (w : World) (hle : ag = true ∨ o < cs.size) :
  (part t cs o).run P w = .ok (if ag = true then .agg (cs.extract o (o + n)) else cs.getD o undef) w := by
 cases ag with
 | true => simp only [part, Sem.run_bind, zek hag, Result.andThen_ok, if_true, zV hn, Sem.run_pure]
 | false =>
  have ho : o < cs.size := by rcases hle with h | h; cases h; exact h
  simp only [part, Sem.run_bind, zek hag, Result.andThen_ok, yk2, if_false, yp1 ho, Sem.run_pure, ym, Option.getD_some]
theorem zkD {G : Gh} {w : World} {s : TypeId} {f : Nat} {q : Nat × Nat × TypeId} {cs : List AV} {cv : Value} {ag : Bool} {v : AV} (h : fieldOff P s f = some q) (hag : isAgg? P q.2.2 = some ag)
  (hx : VR G w (.agg cs) cv) (hv : (bif ag then guardB (Nat.ble (q.1 + q.2.1) cs.length) (some (AV.agg ((cs.drop q.1).take q.2.1))) else cs[q.1]?) = some v) :
  ∃ cv', (Instr.field s cv f).run P w = .ok cv' w ∧ VR G w v cv' := by
 obtain ⟨fs, x, hu, hx', ho, hn, ht, h1⟩ := zeC h
 obtain ⟨cvs, rfl, hlen, hc⟩ := hx.agg_inv
 rw [← ht] at hag
 have hrun : ∀ (hle : ag = true ∨ q.1 < cvs.size), (Instr.field s (.agg cvs) f).run P w = .ok (if ag = true then .agg (cvs.extract q.1 (q.1 + q.2.1)) else cvs.getD q.1 undef) w := by
  intro hle
  have := zmq (P := P) hag hn (cs := cvs) (o := q.1) w hle
  simp only [Instr.field, Sem.run_bind, run_underlying hu, Result.andThen_ok, hx', asAgg, Sem.run_pure, ho, this]
 cases ag with
 | true =>
  simp only [yg] at hv
  rw [za] at hv; obtain ⟨hle, hv⟩ := hv
  have hle := bleN.1 hle
  obtain rfl := ya hv
  refine ⟨_, hrun (.inl rfl), ?_⟩
  rw [if_pos rfl]
  refine .agg _ _ (by simp; omega) fun j y hy => ?_
  have hj : j < q.2.1 := by have := (ye.1 hy).1; simp at this; omega
  rw [yg1 hj, yb1] at hy
  have := hc _ y hy
  have hlt : q.1 + j < cvs.size := by omega
  simp only [ym] at this ⊢
  rw [Array.getElem?_extract]
  rw [if_pos (by omega)]
  exact this
 | false =>
  simp only [yh] at hv
  have hlt := (ye.1 hv).1
  exact ⟨_, hrun (.inr (by omega)), by simpa using hc _ v hv⟩
theorem zjz {ρ : Operand → Option AV} : ∀ {xs : List Operand} {vs : List AV}, allA ρ xs = some vs → vs.length = xs.length ∧ ∀ (j : Nat) (y : AV), vs[j]? = some y → ∃ x, xs[j]? = some x ∧ ρ x = some y
 | [], vs, h => by simp [allA] at h; subst h; exact ⟨rfl, fun j y hy => by simp at hy⟩
 | x :: r, vs, h => by
  simp only [allA] at h
  rw [bind_some] at h; obtain ⟨v, hv, h⟩ := h
  obtain ⟨vs', hvs, rfl⟩ := yd.1 h
  obtain ⟨hl, hh⟩ := zjz hvs
  refine ⟨by simp [hl], fun j y hy => ?_⟩
  cases j with
  | zero => simp at hy; subst hy; exact ⟨x, rfl, hv⟩
  | succ j => simpa using hh j y (by simpa using hy)
theorem zfD {G : Gh} {w : World} {ρ : Operand → Option AV} {a : Act} (hρ : EvR G w ρ a) {xs : Array Operand} {vs : List AV} (h : allA ρ xs.toList = some vs) : VRs G w vs (xs.map a.eval) := by
 obtain ⟨hl, hh⟩ := zjz h
 refine ⟨by simpa using hl, fun j y hy => ?_⟩
 obtain ⟨x, hx, hv⟩ := hh j y hy
 have hx' : xs[j]? = some x := by simpa using hx
 have hj := (yl2.1 hx').1
 have := hρ x y hv
 simp only [ym, Array.getElem?_map, hx', yk, Option.getD_some]
 exact this
theorem zhd {ρ : Operand → Option AV} : ∀ {xs : List (Nat × Operand)} {vs : List (Nat × AV)}, partsA ρ xs = some vs →
  vs.length = xs.length ∧ ∀ (j : Nat) (q : Nat × AV), vs[j]? = some q → ∃ x, xs[j]? = some (q.1, x) ∧ ρ x = some q.2
 | [], vs, h => by simp [partsA] at h; subst h; exact ⟨rfl, fun j y hy => by simp at hy⟩
 | (i, x) :: r, vs, h => by
  simp only [partsA] at h
  rw [bind_some] at h; obtain ⟨v, hv, h⟩ := h
  obtain ⟨vs', hvs, rfl⟩ := yd.1 h
  obtain ⟨hl, hh⟩ := zhd hvs
  refine ⟨by simp [hl], fun j q hq => ?_⟩
  cases j with
  | zero => simp at hq; subst hq; exact ⟨x, rfl, hv⟩
  | succ j => simpa using hh j q (by simpa using hq)
def LRs (G : Gh) (w : World) (as : List AV) (vs : List Value) : Prop := as.length = vs.length ∧ ∀ (j : Nat) (y : AV), as[j]? = some y → VR G w y (vs.getD j undef)
def PRs (G : Gh) (w : World) (ps : List (Nat × AV)) (qs : List (Nat × Value)) : Prop := ps.length = qs.length ∧ ∀ (j : Nat) (p : Nat × AV), ps[j]? = some p → ∃ v, qs[j]? = some (p.1, v) ∧ VR G w p.2 v
theorem zeS {G : Gh} {w : World} {ρ : Operand → Option AV} {a : Act} (hρ : EvR G w ρ a) {xs : Array (Nat × Operand)} {vs : List (Nat × AV)} (h : partsA ρ xs.toList = some vs) :
  PRs G w vs (xs.map fun (i, x) => (i, a.eval x)).toList := by
 obtain ⟨hl, hh⟩ := zhd h
 refine ⟨by simpa using hl, fun j q hq => ?_⟩
 obtain ⟨x, hx, hv⟩ := hh j q hq
 refine ⟨a.eval x, ?_, hρ x _ hv⟩
 have hx' : xs[j]? = some (q.1, x) := by simpa using hx
 simp [hx']
theorem LRs.set {G : Gh} {w : World} {as : List AV} {vs : List Value} (h : LRs G w as vs) {i : Nat} {a : AV} {v : Value} (hv : VR G w a v) : LRs G w (as.set i a) (vs.set i v) := by
 refine ⟨by simp [h.1], fun j y hy => ?_⟩
 by_cases e : j = i
 ·subst e
  have hj : j < as.length := by have := (ye.1 hy).1; simpa using this
  rw [yw hj] at hy
  simp at hy; subst hy
  rw [yl, yw (by rw [← h.1]; exact hj)]; exact hv
 ·rw [yq (fun x => e x.symm)] at hy
  rw [yl, yq (fun x => e x.symm), ← yl]; exact h.2 j y hy
def setCellsV : List Value → Nat → List Value → List Value
 | cs, _, [] => cs
 | cs, i, v :: r => setCellsV (cs.set i v) (i + 1) r
theorem LRs.setCells {G : Gh} {w : World} : ∀ {xs : List AV} {ys : List Value} {as : List AV} {vs : List Value} {i : Nat}, LRs G w as vs → LRs G w xs ys → LRs G w (setCells as i xs) (setCellsV vs i ys)
 | [], ys, as, vs, i, h, hx => by
  have := yo hx.1.symm
  subst this; exact h
 | x :: xs, [], as, vs, i, h, hx => by simp [LRs] at hx
 | x :: xs, y :: ys, as, vs, i, h, hx => by
  have h0 := hx.2 0 x rfl
  simp only [List.getD_cons_zero] at h0
  simp only [Go.Ab.setCells, setCellsV]
  exact LRs.setCells (h.set h0) ⟨by simpa using hx.1, fun j z hz => by simpa using hx.2 (j + 1) z (by simpa using hz)⟩
theorem zbl {as : List AV} : ∀ {xs : List AV} {i : Nat} {as : List AV}, (setCells as i xs).length = as.length
 | [], i, as => rfl
 | x :: xs, i, as => by rw [Go.Ab.setCells, zbl (as := as)]; simp
theorem zaz : ∀ {xs : List Value} {i : Nat} {as : List Value}, (setCellsV as i xs).length = as.length
 | [], i, as => rfl
 | x :: xs, i, as => by rw [setCellsV, zaz]; simp
theorem zfW : ∀ (vs : List Value) (off n : Nat) (cs : Array Value), ((vs.zipIdx n).foldl (fun cs (c, j) => cs.setIfInBounds (off + j) c) cs).toList = setCellsV cs.toList (off + n) vs
 | [], off, n, cs => rfl
 | v :: vs, off, n, cs => by
  simp only [List.zipIdx_cons, List.foldl_cons, setCellsV]
  rw [zfW vs off (n + 1)]
  simp [yc3]
theorem LRs.one {G : Gh} {w : World} {a : AV} {v : Value} (h : VR G w a v) : LRs G w [a] [v] :=
 ⟨rfl, fun j y hy => by cases j with | zero => simp at hy; subst hy; exact h | succ j => simp at hy⟩
theorem VR.cells {G : Gh} {w : World} {a : AV} {v : Value} (h : VR G w a v) : LRs G w a.cells v.cells.toList := by
 cases h with
 | agg cs cvs hlen h => exact ⟨by simpa [AV.cells, Value.cells] using hlen, fun j y hy => by simp only [Value.cells]; rw [zS]; exact h j y (by simpa [AV.cells] using hy)⟩
 | lit v hv =>
  have : v.cells = #[v] := by cases v <;> first | rfl | simp [notAgg] at hv
  rw [this]; exact LRs.one (.lit v hv)
 | imm β p v h hs =>
  have : v.cells = #[v] := by cases h <;> first | rfl | simp [PV.isSl] at hs
  rw [this]; exact LRs.one (.imm β p v h hs)
 | unkB b => exact LRs.one (.unkB b)
 | dead v h1 h2 =>
  have : v.cells = #[v] := by cases v <;> first | rfl | simp [notAgg] at h2
  rw [this]; exact LRs.one (.dead v h1 h2)
 | ptr b g i c L B hl hb => exact LRs.one (.ptr b g i c L B hl hb)
 | ms b g o n cap L B hl hb hn hon hf => exact LRs.one (.ms b g o n cap L B hl hb hn hon hf)
 | msNil b g L hl hb => exact LRs.one (.msNil b g L hl hb)
 | msZ b g o B oo L hl hb ho hon => exact LRs.one (.msZ b g o B oo L hl hb ho hon)
 | msw b g cap L B hl hb hn hf => exact LRs.one (.msw b g cap L B hl hb hn hf)
 | mswNil b g L hl hb hn => exact LRs.one (.mswNil b g L hl hb hn)
 | el β p c B o cv h hr => exact LRs.one (.el β p c B o cv h hr)
 | fn f fi ca fv cv h1 h2 hf hc => exact LRs.one (.fn f fi ca fv cv h1 h2 hf hc)
 | tup cs cvs hlen h => exact LRs.one (.tup cs cvs hlen h)
theorem zeW {G : Gh} {w : World} {place : Nat → Option (Nat × Nat)} : ∀ {ps : List (Nat × AV)} {qs : List (Nat × Value)} {cs cs' : List AV} {cvs : Array Value}, fillA place cs ps = some cs' → LRs G w cs cvs.toList → PRs G w ps qs →
  ∃ cvs', Instr.fill place cvs qs = some cvs' ∧ LRs G w cs' cvs'.toList
 | [], qs, cs, cs', cvs, h, hc, hp => by
  have := yo hp.1.symm
  subst this
  simp [fillA] at h; subst h
  exact ⟨cvs, rfl, hc⟩
 | (i, v) :: r, [], cs, cs', cvs, h, hc, hp => by simp [PRs] at hp
 | (i, v) :: r, (i', u) :: qs, cs, cs', cvs, h, hc, hp => by
  obtain ⟨u', hu, hv⟩ := hp.2 0 (i, v) rfl
  simp only [yp2, Option.some.injEq, Prod.mk.injEq] at hu
  obtain ⟨rfl, rfl⟩ := hu
  simp only [fillA] at h
  rw [bind_some] at h; obtain ⟨q, hq, h⟩ := h
  rw [za] at h; obtain ⟨hc1, h⟩ := h
  simp only [yb] at hc1
  have h1 := beqN.1 hc1.1
  have h2 := bleN.1 hc1.2
  have hvc := hv.cells
  have hsz : u.cells.size = q.2 := by rw [← h1]; simpa using hvc.1.symm
  have hcz : cs.length = cvs.size := by simpa using hc.1
  have hset : (u.cells.zipIdx.foldl (fun cs (c, j) => cs.setIfInBounds (q.1 + j) c) cvs).toList = setCellsV cvs.toList q.1 u.cells.toList := by
   have := zfW u.cells.toList q.1 0 cvs
   rw [ym1] at this
   rw [← this, ← Array.foldl_toList]
   simp
  obtain ⟨cvs', hf, hc'⟩ := zeW (cvs := u.cells.zipIdx.foldl (fun cs (c, j) => cs.setIfInBounds (q.1 + j) c) cvs) h (by rw [hset]; exact hc.setCells hvc)
   ⟨by simpa using hp.1, fun j p hpj => by simpa using hp.2 (j + 1) p (by simpa using hpj)⟩
  refine ⟨cvs', ?_, hc'⟩
  simp only [Instr.fill, hq]
  rw [if_neg (by simp [hsz]; omega)]
  exact hf
theorem ziW : ∀ {fs : List Field} {ps : List (Nat × Nat)}, places? P fs = some ps → ∀ w : World, (fs.mapM fun f => (do pure (f.offset, ← sizeOf f.type) : Sem (Nat × Nat))).run P w = .ok ps w
 | [], ps, h, w => by simp [places?] at h; subst h; rfl
 | f :: r, ps, h, w => by
  simp only [places?] at h
  rw [bind_some] at h; obtain ⟨n, hn, h⟩ := h
  obtain ⟨ps', hps, rfl⟩ := yd.1 h
  have ih := ziW hps w
  simp only [List.mapM_cons, Sem.run_bind, zV hn, Result.andThen_ok, Sem.run_pure, ih]
theorem znN {G : Gh} {w : World} : ∀ {vs : List Value} {as : List AV}, lits vs = some as → LRs G w as vs
 | [], as, h => by simp [lits] at h; subst h; exact ⟨rfl, fun j y hy => by simp at hy⟩
 | v :: r, as, h => by
  simp only [lits] at h
  rw [za] at h; obtain ⟨h1, h⟩ := h
  obtain ⟨as', has, rfl⟩ := yd.1 h
  have ih := znN (G := G) (w := w) has
  exact ⟨by simp [ih.1], fun j y hy => by
   cases j with
   | zero => simp at hy; subst hy; exact .lit v h1
   | succ j => simpa using ih.2 j y (by simpa using hy)⟩
theorem zbh {G : Gh} {w : World} {v : Value} {a : AV} (h : ofVal v = some a) : VR G w a v := by
 unfold ofVal at h
 split at h
 ·rename_i cs
  obtain ⟨as, has, rfl⟩ := yd.1 h
  have := znN (G := G) (w := w) has
  exact .agg as cs (by simpa using this.1) (fun j y hy => by rw [← zS]; exact this.2 j y hy)
 ·rename_i hne
  obtain rfl := ya h
  exact .lit v (by cases v <;> first | rfl | exact absurd rfl (hne _))
theorem zaU {t : TypeId} {z : AV} (h : zero? P t = some z) : ∃ i v, P.info? t = some i ∧ i.zero = some v ∧ ofVal v = some z := by
 unfold zero? at h
 rw [bind_some] at h; obtain ⟨v, hv, h⟩ := h
 rw [bind_some] at hv; obtain ⟨i, hi, hv⟩ := hv
 exact ⟨i, v, hi, hv, h⟩
theorem zlg {t : TypeId} {z : AV} (h : zero? P t = some z) (G : Gh) (w : World) : ∃ v, (zeroValue t).run P w = .ok v w ∧ VR G w z v ∧ (∀ w', (zeroValue t).run P w' = .ok v w') ∧ ofVal v = some z := by
 obtain ⟨i, v, hi, hz, ho⟩ := zaU h
 exact ⟨v, by simp [zeroValue, typeInfo, hi, hz], zbh ho, fun w' => by simp [zeroValue, typeInfo, hi, hz], ho⟩
theorem zkt {G : Gh} {w : World} {t : TypeId} {ps : List (Nat × AV)} {qs : Array (Nat × Value)} {v : AV} (h : buildA P t ps = some v) (hp : PRs G w ps qs.toList) :
  ∃ cv, (Instr.build t qs).run P w = .ok cv w ∧ VR G w v cv := by
 unfold buildA at h
 rw [bind_some] at h; obtain ⟨z, hz, h⟩ := h
 obtain ⟨zv, hzr, hzv, _⟩ := zlg hz G w
 split at h
 ·rename_i fs hu
  rw [bind_some] at h; obtain ⟨pl, hpl, h⟩ := h
  obtain ⟨cs, hcs, rfl⟩ := yd.1 h
  obtain ⟨cvs, hf, hc⟩ := zeW hcs hzv.cells hp
  refine ⟨.agg cvs, ?_, .agg cs cvs (by simpa using hc.1) (fun j y hy => by rw [← zS]; exact hc.2 j y hy)⟩
  have hpr : (fs.mapM fun f => (do pure (f.offset, ← sizeOf f.type) : Sem (Nat × Nat))).run P w = .ok pl.toArray w := by
   rw [Array.mapM_eq_mapM_toList, Sem.run_map, ziW hpl w]
   rfl
  have hf' : Instr.fill (fun i => pl.toArray[i]?) zv.cells qs.toList = some cvs := by rw [← hf]; congr 1; funext i; simp
  simp only [Instr.build, Sem.run_bind, hzr, Result.andThen_ok, run_underlying hu, hpr, hf', Sem.run_pure]
 ·rename_i n e hu
  rw [bind_some] at h; obtain ⟨s, hs, h⟩ := h
  obtain ⟨cs, hcs, rfl⟩ := yd.1 h
  obtain ⟨cvs, hf, hc⟩ := zeW hcs hzv.cells hp
  refine ⟨.agg cvs, ?_, .agg cs cvs (by simpa using hc.1) (fun j y hy => by rw [← zS]; exact hc.2 j y hy)⟩
  simp only [Instr.build, Sem.run_bind, hzr, Result.andThen_ok, run_underlying hu, zV hs, hf, Sem.run_pure]
 ·simp at h
end
end Go.Ab
end
