/- The evaluator. -/
import Derived.Orders
import Derived.Laws.Sem
import Derived.WalkKit
import Derived.Deep.AppendSrc
set_option linter.unusedVariables false
set_option linter.unusedSectionVars false
set_option linter.unusedSimpArgs false
section
namespace Go.Ab
theorem ya : type_of% @Option.some.inj := @Option.some.inj
theorem yb : type_of% @Bool.and_eq_true := @Bool.and_eq_true
theorem yc : type_of% @Option.map_eq_some_iff := @Option.map_eq_some_iff
theorem yd : type_of% @List.getElem?_eq_some_iff := @List.getElem?_eq_some_iff
theorem ye : type_of% @Option.bind_some := @Option.bind_some
theorem yf : type_of% @List.getElem?_eq_getElem := @List.getElem?_eq_getElem
theorem yg : type_of% @Option.map_some := @Option.map_some
theorem yh : type_of% @List.mem_cons_of_mem := @List.mem_cons_of_mem
theorem yi : type_of% @List.getD_eq_getElem?_getD := @List.getD_eq_getElem?_getD
theorem yj : type_of% @Array.getD_eq_getD_getElem? := @Array.getD_eq_getD_getElem?
theorem yk : type_of% @cond_false := @cond_false
theorem yl : type_of% @cond_true := @cond_true
theorem ym : type_of% @List.mem_cons_self := @List.mem_cons_self
theorem yn : type_of% @List.getElem?_append_left := @List.getElem?_append_left
theorem yo : type_of% @List.eq_nil_of_length_eq_zero := @List.eq_nil_of_length_eq_zero
theorem yp : type_of% @List.getElem?_set_ne := @List.getElem?_set_ne
theorem yq : type_of% @Bool.not_eq_true' := @Bool.not_eq_true'
theorem yt : type_of% @List.mem_of_getElem? := @List.mem_of_getElem?
theorem yu : type_of% @List.getElem?_append_right := @List.getElem?_append_right
theorem yw : type_of% @List.getElem?_set_self := @List.getElem?_set_self
theorem yx : type_of% @List.cons.inj := @List.cons.inj
theorem yy : type_of% @Nat.le_refl := @Nat.le_refl
theorem yz : type_of% @List.getElem?_drop := @List.getElem?_drop
theorem ya1 : type_of% @List.getElem?_eq_none := @List.getElem?_eq_none
theorem yb1 : type_of% @List.getElem?_map := @List.getElem?_map
theorem yc1 : type_of% @Nat.zero_add := @Nat.zero_add
theorem yd1 : type_of% @List.getElem?_cons_succ := @List.getElem?_cons_succ
theorem ye1 : type_of% @List.length_map := @List.length_map
theorem yf1 : type_of% @List.getElem?_take_of_lt := @List.getElem?_take_of_lt
theorem yg1 : type_of% @List.append_nil := @List.append_nil
theorem yh1 : type_of% @Nat.lt_of_lt_of_le := @Nat.lt_of_lt_of_le
theorem yi1 : type_of% @List.length_append := @List.length_append
theorem yj1 : type_of% @List.getElem?_take := @List.getElem?_take
theorem yk1 : type_of% @Nat.add_mul := @Nat.add_mul
theorem yl1 : type_of% @Array.getElem?_eq_getElem := @Array.getElem?_eq_getElem
theorem ym1 : type_of% @Nat.add_zero := @Nat.add_zero
theorem yn1 : type_of% @List.mem_cons := @List.mem_cons
theorem yo1 : type_of% @List.mem_append := @List.mem_append
theorem yp1 : type_of% @Array.getElem?_toList := @Array.getElem?_toList
theorem yq1 : type_of% @List.mem_append_left := @List.mem_append_left
theorem yr1 : type_of% @List.all_eq_true := @List.all_eq_true
theorem ys1 : type_of% @List.mem_append_right := @List.mem_append_right
theorem yt1 : type_of% @List.getElem_of_mem := @List.getElem_of_mem
theorem yu1 : type_of% @Array.length_toList := @Array.length_toList
theorem yw1 : type_of% @List.getElem?_replicate := @List.getElem?_replicate
theorem yx1 : type_of% @List.map_cons := @List.map_cons
theorem yy1 : type_of% @Bool.or_eq_true := @Bool.or_eq_true
theorem yz1 : type_of% @Nat.mul_le_mul_right := @Nat.mul_le_mul_right
theorem ya2 : type_of% @Nat.le_trans := @Nat.le_trans
theorem yb2 : type_of% @List.mem_singleton := @List.mem_singleton
theorem yc2 : type_of% @Nat.lt_or_ge := @Nat.lt_or_ge
theorem yd2 : type_of% @Option.bind_eq_some_iff := @Option.bind_eq_some_iff
theorem ye2 : type_of% @List.length_eq_one_iff := @List.length_eq_one_iff
theorem yf2 : type_of% @Array.toArray_toList := @Array.toArray_toList
theorem yg2 : type_of% @List.length_cons := @List.length_cons
theorem yh2 : type_of% @Option.map_none := @Option.map_none
theorem yi2 : type_of% @Bool.false_eq_true := @Bool.false_eq_true
theorem yj2 : type_of% @List.mem_replicate := @List.mem_replicate
theorem yk2 : type_of% @Nat.mul_comm := @Nat.mul_comm
theorem yl2 : type_of% @List.mem_or_eq_of_mem_set := @List.mem_or_eq_of_mem_set
theorem ym2 : type_of% @Array.getElem?_eq_some_iff := @Array.getElem?_eq_some_iff
theorem yn2 : type_of% @Array.getElem?_append_left := @Array.getElem?_append_left
theorem yo2 : type_of% @Option.map_bind := @Option.map_bind
theorem yp2 : type_of% @List.cons_append := @List.cons_append
theorem yq2 : type_of% @List.getElem?_cons_zero := @List.getElem?_cons_zero
theorem yr2 : type_of% @List.getElem_mem := @List.getElem_mem
theorem yt2 : type_of% @Array.getElem?_modify := @Array.getElem?_modify
theorem yu2 : type_of% @List.mem_map := @List.mem_map
theorem yv2 : type_of% @List.length_replicate := @List.length_replicate
theorem yw2 : type_of% @Array.getElem?_replicate := @Array.getElem?_replicate
theorem yx2 : type_of% @Nat.lt_succ_self := @Nat.lt_succ_self
theorem yy2 : type_of% @List.mem_of_mem_take := @List.mem_of_mem_take
theorem yz2 : type_of% @List.map_take := @List.map_take
theorem ya3 : type_of% @List.nil_append := @List.nil_append
theorem yb3 : type_of% @List.length_take := @List.length_take
theorem yc3 : type_of% @Nat.add_assoc := @Nat.add_assoc
theorem yd3 : type_of% @Nat.zero_mul := @Nat.zero_mul
theorem ye3 : type_of% @Nat.mul_one := @Nat.mul_one
theorem yf3 : type_of% @Nat.add_sub_cancel_left := @Nat.add_sub_cancel_left
theorem yg3 : type_of% @Bool.and_true := @Bool.and_true
theorem yh3 : type_of% @List.all_cons := @List.all_cons
theorem yi3 : type_of% @List.mem_range := @List.mem_range
theorem yj3 : type_of% @Array.getElem?_eq_none := @Array.getElem?_eq_none
theorem yk3 : type_of% @List.map_append := @List.map_append
theorem yl3 : type_of% @Bool.true_and := @Bool.true_and
theorem ym3 : type_of% @Int.toNat_natCast := @Int.toNat_natCast
theorem yn3 : type_of% @List.map_drop := @List.map_drop
theorem yo3 : type_of% @Bool.and_self := @Bool.and_self
theorem yp3 : type_of% @Nat.beq_refl := @Nat.beq_refl
theorem yq3 : type_of% @List.map_nil := @List.map_nil
class b4 where
 tab : Nat → Option (Int × Int)
noncomputable section
def dZ {α : Type} (l : List α) : Nat → Option α := List.rec (fun _ => none) (fun a _ ih n => Nat.rec (some a) (fun m _ => ih m) n) l
def vW {α : Type} (v : α) (l : List α) : Nat → List α := List.rec (fun _ => []) (fun a r ih n => Nat.rec (v :: r) (fun m _ => a :: ih m) n) l
theorem aX {α : Type} : ∀ (l : List α) (n : Nat), dZ l n = l[n]?
 | [], n => by simp [dZ]
 | a :: r, 0 => rfl
 | a :: r, n + 1 => by rw [yd1, ← aX r n]; rfl
theorem d8 {α : Type} (v : α) : ∀ (l : List α) (n : Nat), vW v l n = l.set n v
 | [], n => by simp [vW]
 | a :: r, 0 => rfl
 | a :: r, n + 1 => by rw [List.set_cons_succ, ← d8 v r n]; rfl
inductive PV where
 | lit (v : Value)
 | ints (k : IntKind) (xs : List Int)
 | sl (e : Nat) (xs : List PV)
 | agg (cs : List PV)
 deriving Inhabited
inductive AV where
 | lit (v : Value)
 | imm (β : Bool) (p : PV)
 | ptr (b g i c : Nat)
 | ms (b g o n : Nat)
 | msw (b g : Nat)
 | el (β : Bool) (p : PV) (c : Nat)
 | fn (f : Fn) (first cap : List AV)
 | agg (cs : List AV)
 | tup (vs : List AV)
 deriving Inhabited
inductive Row where
 | ints (k : IntKind) (xs : List Int)
 | pvs (β : Bool) (e : Nat) (xs : List PV)
 | cells (e : Nat) (cs : List AV)
 | own (e : Nat) (xs : List PV) (hs : List (Nat × Nat × AV))
 deriving Inhabited
structure a9 where
 gen : Nat
 frz : Bool
 row : Row
 deriving Inhabited
abbrev aH := List (Option a9)
structure St where
 tmps : List AV
 mem : aH
structure lC where
 live : List (Nat × List Nat) := []
 raw : List (Nat × Nat) := []
 boxed : List (Nat × Nat) := []
 vars : List (Nat × Nat) := []
 hint : List (Nat × Nat × Int) := []
 own : List (Nat × Nat) := []
 keep : List Nat := []
 tidy : List (Nat × List Nat × List (Operand × Nat × Operand × Nat)) := []
def eE {α : Type} (n : Nat) : List (Nat × α) → Option α
 | [] => none
 | (m, x) :: r => bif Nat.beq m n then some x else eE n r
def a7 (a b : Nat) : List (Nat × Nat) → Bool
 | [] => false
 | (m, x) :: r => (Nat.beq m a && Nat.beq x b) || a7 a b r
def eZ (n : Nat) : List Nat → Bool
 | [] => false
 | m :: r => Nat.beq m n || eZ n r
def guardB {α : Type} (c : Bool) (x : Option α) : Option α := bif c then x else none
def eC {α : Type} (xs : List α) (i : Int) : Option α := bif decide (0 ≤ i) then xs[i.toNat]? else none
def gK (a b : IntKind) : Bool :=
 match a, b with
 | .i8, .i8 | .i16, .i16 | .i32, .i32 | .i64, .i64 | .u8, .u8 | .u16, .u16 | .u32, .u32 | .u64, .u64 => true
 | _, _ => false
def PV.int? (k : IntKind) : PV → Option Int
 | .lit (.int k' n) => bif gK k k' then some n else none
 | _ => none
def PV.bool? : PV → Option Bool
 | .lit (.bool b) => some b
 | _ => none
def PV.str? : PV → Option ByteArray
 | .lit (.string s) => some s
 | _ => none
def PV.ints? (k : IntKind) : PV → Option (List Int)
 | .ints k' xs => bif gK k k' then some xs else none
 | _ => none
def PV.sl? (e : Nat) : PV → Option (List PV)
 | .sl e' xs => bif Nat.beq e e' then some xs else none
 | _ => none
def PV.cells : PV → List PV
 | .agg cs => cs
 | p => [p]
inductive LK where
 | int (k : IntKind) | bool | str | ints (k : IntKind) | sl (t : TypeId) (e : Nat)
section
variable (P : Program)
def iN (t : TypeId) : Option Nat := (P.info? t).map (·.size)
def jI (t : TypeId) : Option Nat := (P.info? t).map (·.bytes)
def intKind? (t : TypeId) : Option IntKind :=
 match P.underlying t with
 | some (.int k) => some k
 | _ => none
def elemOf? (t : TypeId) : Option TypeId :=
 match P.underlying t with
 | some (.slice e) => some e
 | _ => none
def isAgg? (t : TypeId) : Option Bool :=
 match P.underlying t with
 | some (.struct _) => some true
 | some (.array _ _) => some true
 | some _ => some false
 | none => none
def leaf? (t : TypeId) : Option LK :=
 match P.underlying t with
 | some (.int k) => some (.int k)
 | some .bool => some .bool
 | some .string => some .str
 | some (.slice e) =>
  match intKind? P e with
  | some k => some (.ints k)
  | none => (iN P e).map (.sl e)
 | _ => none
def JA (leaves : TypeId → Option (List LK)) : List Field → Option (List LK)
 | [] => some []
 | f :: r => (leaves f.type).bind fun a => (JA leaves r).map (a ++ ·)
def leaves? : Nat → TypeId → Option (List LK)
 | 0, _ => none
 | n + 1, t =>
  match P.underlying t with
  | some (.struct fs) => JA (leaves? n) fs.toList
  | _ => (leaf? P t).map fun l => [l]
def fT (β : Bool) (l : LK) (q : PV) : Option AV :=
 match l with
 | .int k => (q.int? k).bind fun x => some (.lit (.int k x))
 | .bool => q.bool?.bind fun x => some (.lit (.bool x))
 | .str => q.str?.bind fun x => some (.lit (.string x))
 | .ints k => (q.ints? k).bind fun x => some (.imm β (.ints k x))
 | .sl _ e => (q.sl? e).bind fun x => some (.imm β (.sl e x))
def gA (β : Bool) (cs : List PV) : List LK → Nat → Option (List AV)
 | [], _ => some []
 | l :: r, c => (cs[c]?).bind fun q => (fT β l q).bind fun a => (gA β cs r (c + 1)).bind fun as => some (a :: as)
def L4 (β : Bool) (t : TypeId) (p : PV) (c : Nat) : Option AV :=
 match isAgg? P t with
 | some true => (leaves? P 8 t).bind fun ls => (iN P t).bind fun n => guardB (Nat.beq n ls.length) ((gA β p.cells ls c).bind fun as => some (.agg as))
 | some false => (leaf? P t).bind fun l => (p.cells[c]?).bind fun q => fT β l q
 | none => none
def j7 : Value → Bool
 | .agg _ => false
 | _ => true
def Ih : List Value → Option (List AV)
 | [] => some []
 | v :: r => guardB (j7 v) ((Ih r).map (.lit v :: ·))
def yN : Value → Option AV
 | .agg cs => (Ih cs.toList).map .agg
 | v => some (.lit v)
def zero? (t : TypeId) : Option AV := ((P.info? t).bind (·.zero)).bind yN
def AV.dead : AV := .imm false (.agg [])
def AV.unkB : AV := .imm true (.lit (.bool false))
open Classical in
def amb {α : Type} (a b : Option α) : Option α := if a = b then a else none
def AV.goneV : AV := .imm true (.agg [])
def eL : AV → Bool
 | .imm true (.agg _) => true
 | _ => false
def AV.cells : AV → List AV
 | .agg cs => cs
 | v => [v]
inductive aI where
 | ints (k : IntKind) (xs : List Int)
 | pvs (β : Bool) (e : Nat) (xs : List PV)
 | avs (e : Nat) (cs : List AV)
def aN (e : Nat) (n : Nat) : Nat := bif Nat.beq e 0 then 0 else bif Nat.beq e 1 then n else n / e
def aI.len : aI → Nat
 | .ints _ xs => xs.length
 | .pvs _ _ xs => xs.length
 | .avs e cs => aN e cs.length
def aI.imm? : aI → Option AV
 | .ints k xs => some (.imm false (.ints k xs))
 | .pvs β e xs => some (.imm β (.sl e xs))
 | .avs _ _ => none
def aI.row : aI → Row
 | .ints k xs => .ints k xs
 | .pvs β e xs => .pvs β e xs
 | .avs e cs => .cells e cs
def fA (k : IntKind) : List AV → Option (List Int)
 | [] => some []
 | .lit (.int k' x) :: r => bif gK k k' then (fA k r).map (x :: ·) else none
 | _ :: _ => none
def Row.len : Row → Nat
 | .ints _ xs => xs.length
 | .pvs _ _ xs => xs.length
 | .cells e cs => aN e cs.length
 | .own _ xs _ => xs.length
def Row.e : Row → Nat
 | .ints _ _ => 1
 | .pvs _ e _ => e
 | .cells e _ => e
 | .own e _ _ => e
def aI.e : aI → Nat
 | .ints _ _ => 1
 | .pvs _ e _ => e
 | .avs e _ => e
def Row.all : Row → aI
 | .ints k xs => .ints k xs
 | .pvs β e xs => .pvs β e xs
 | .cells e cs => .avs e cs
 | .own e xs _ => .pvs true e xs
def Row.sub (o n : Nat) : Row → Option aI
 | .ints k xs => guardB (Nat.ble (o + n) xs.length) (some (.ints k ((xs.drop o).take n)))
 | .pvs β e xs => guardB (Nat.ble (o + n) xs.length) (some (.pvs β e ((xs.drop o).take n)))
 | .cells e cs => guardB (Nat.ble ((o + n) * e) cs.length) (some (.avs e ((cs.drop (o * e)).take (n * e))))
 | .own _ _ _ => none
def Row.isOwn : Row → Bool
 | .own _ _ _ => true
 | _ => false
def box? (mem : aH) (b g : Nat) : Option a9 :=
 match mem[b]? with
 | some (some x) => bif Nat.beq x.gen g && !x.row.isOwn then some x else none
 | _ => none
def boxO? (mem : aH) (b g : Nat) : Option a9 :=
 match mem[b]? with
 | some (some x) => bif Nat.beq x.gen g && x.row.isOwn then some x else none
 | _ => none
def e4 (s : ByteArray) : List Int := s.data.toList.map fun b => (b.toNat : Int)
def i6 (xs : List Int) : ByteArray := ⟨(xs.map fun n => UInt8.ofNat n.toNat).toArray⟩
def y8 : LK → Bool
 | .int _ => true
 | .bool => true
 | .str => true
 | _ => false
def KN (et : TypeId) : Bool :=
 match leaves? P 8 et with
 | some ls => ls.all y8
 | none => false
def LP : PV → Bool
 | .lit _ => true
 | _ => false
def Bq (p : PV) : Bool := p.cells.all LP
def view (et : TypeId) (mem : aH) : AV → Option (aI × List Nat)
 | .imm _ (.ints k xs) => some (.ints k xs, [])
 | .imm β (.sl e xs) => some (.pvs (bif KN P et && xs.all Bq then false else β) e xs, [])
 | .ms b g o n => (box? mem b g).bind fun x => (x.row.sub o n).map fun v => (v, [b])
 | .msw b g => (box? mem b g).bind fun x => some (x.row.all, [b])
 | .lit (.string s) => some (.ints .u8 (e4 s), [])
 | .lit (.slice none 0 0) =>
  match intKind? P et with
  | some k => some (.ints k [], [])
  | none => (iN P et).map fun e => (.pvs false e [], [])
 | _ => none
def lenOf (t : TypeId) (mem : aH) (x : AV) : Option (Nat × List Nat) :=
 match P.underlying t with
 | some .string =>
  match x with
  | .lit (.string s) => some (s.size, [])
  | _ => none
 | some (.slice _) =>
  match x with
  | .imm _ (.ints _ xs) => some (xs.length, [])
  | .imm _ (.sl _ xs) => some (xs.length, [])
  | .ms b g o n => some (n, [])
  | .msw b g => (box? mem b g).map fun x => (x.row.len, [b])
  | .lit (.slice none 0 0) => some (0, [])
  | _ => none
 | _ => none
def H0 : AV → Bool
 | .lit v => v.oneCell'
 | .agg _ => false
 | .tup _ => false
 | _ => true
def jB : List AV → Bool
 | [] => true
 | v :: r => H0 v && jB r
def chunks {α : Type} (e : Nat) : Nat → List α → List (List α)
 | 0, _ => []
 | n + 1, cs => cs.take e :: chunks e n (cs.drop e)
def vO (t : TypeId) (cs : List PV) : Option PV :=
 match isAgg? P t with
 | some true => some (.agg cs)
 | some false => (match cs with | [c] => some c | _ => none)
 | none => none
def fY {α β : Type} (f : α → Option (Bool × β × List Nat)) : List α → Option (Bool × List β × List Nat)
 | [] => some (false, [], [])
 | v :: r => (f v).bind fun a => (fY f r).bind fun q => some (a.1 || q.1, a.2.1 :: q.2.1, a.2.2 ++ q.2.2)
def b3 {α β γ : Type} (f : γ → α → Option (Bool × β × List Nat)) : List γ → List α → Option (Bool × List β × List Nat)
 | [], [] => some (false, [], [])
 | l :: ls, v :: r => (f l v).bind fun a => (b3 f ls r).bind fun q => some (a.1 || q.1, a.2.1 :: q.2.1, a.2.2 ++ q.2.2)
 | _, _ => none
def a5 (mem : aH) : Nat → LK → AV → Option (Bool × PV × List Nat)
 | 0, _, _ => none
 | n + 1, l, v =>
  match l, v with
  | .int k, .lit (.int k' x) => guardB (gK k k') (some (false, .lit (.int k' x), []))
  | .bool, .lit (.bool b) => some (false, .lit (.bool b), [])
  | .str, .lit (.string s) => some (false, .lit (.string s), [])
  | .ints k, .imm β (.ints k' xs) => guardB (gK k k') (some (β, .ints k' xs, []))
  | .ints k, .lit (.slice none 0 0) => some (false, .ints k [], [])
  | .ints k, .msw b g => (box? mem b g).bind fun x => treeInts k b x.row.all
  | .ints k, .ms b g o m => (box? mem b g).bind fun x => (x.row.sub o m).bind fun w => treeInts k b w
  | .sl _ e, .imm β (.sl e' xs) => guardB (Nat.beq e e') (some (β, .sl e' xs, []))
  | .sl _ e, .lit (.slice none 0 0) => some (false, .sl e [], [])
  | .sl t e, .msw b g => (box? mem b g).bind fun x => treeSl (a5 mem n) t e b x.row.all
  | .sl t e, .ms b g o m => (box? mem b g).bind fun x => (x.row.sub o m).bind fun w => treeSl (a5 mem n) t e b w
  | _, _ => none
 where
 treeInts (k : IntKind) (b : Nat) (w : aI) : Option (Bool × PV × List Nat) :=
  match w with
  | .ints k' xs => guardB (gK k k') (some (false, .ints k' xs, [b]))
  | .avs e cs => guardB (Nat.beq e 1) ((fA k cs).map fun xs => (false, .ints k xs, [b]))
  | _ => none
 treeSl (f : LK → AV → Option (Bool × PV × List Nat)) (t : TypeId) (e b : Nat) (w : aI) : Option (Bool × PV × List Nat) :=
  match w with
  | .pvs β e' xs => guardB (Nat.beq e e') (some (β, .sl e' xs, [b]))
  | .avs e' cs => guardB (Nat.beq e e' && Nat.ble 1 e) ((leaves? P 8 t).bind fun ls =>
    (fY (fun vs => (b3 f ls vs).bind fun q => (vO P t q.2.1).map fun p => (q.1, p, q.2.2)) (chunks e (aN e cs.length) cs)).map fun q => (q.1, .sl e q.2.1, b :: q.2.2))
  | _ => none
def GQ : Nat := 6
def nK (mem : aH) (v : AV) : Option (Nat × Nat × List PV) :=
 match v with
 | .msw b g => (boxO? mem b g).bind fun x => match x.row with
  | .own e xs [] => guardB (!x.frz) (some (b, e, xs))
  | _ => none
 | .ms b g 0 n => (boxO? mem b g).bind fun x => match x.row with
  | .own e xs [] => guardB (!x.frz && Nat.ble n xs.length) (some (b, e, xs.take n))
  | _ => none
 | _ => none
def i9 (mem : aH) (l : LK) (v : AV) : Option (Bool × PV × List Nat) :=
 match nK mem v with
 | some q => match l with
  | .sl _ e => guardB (Nat.beq e q.2.1) (some (false, .sl e q.2.2, [q.1]))
  | _ => none
 | none => a5 P mem GQ l v
def rP (mem : aH) (t : TypeId) (v : AV) : Option (Bool × PV × List Nat) :=
 (leaves? P 8 t).bind fun ls => (b3 (i9 P mem) ls v.cells).bind fun r => (vO P t r.2.1).map fun p => (r.1, p, r.2.2)
def Row.shut : Row → Row
 | .own e xs _ => .pvs false e xs
 | r => r
def Row.okShut : Row → Bool
 | .own _ _ (_ :: _) => false
 | _ => true
def bZ (mem : aH) : List Nat → List (Nat × a9)
 | [] => []
 | b :: r => match mem[b]? with
  | some (some x) => bif x.row.okShut then (b, { x with frz := true, row := x.row.shut }) :: bZ mem r else bZ mem r
  | _ => bZ mem r
def gC : List AV → List AV
 | [] => []
 | v :: r => v.cells ++ gC r
def fM : List Nat → Bool
 | [] => true
 | _ => false
def lV (e : Nat) : List AV → Bool
 | [] => true
 | v :: r => Nat.beq v.cells.length e && lV e r
def mR (vars : Bool) (mem : aH) (t : TypeId) (vs : List AV) : Option (aI × List Nat) :=
 match intKind? P t with
 | some k => (fA k vs).map fun xs => (.ints k xs, [])
 | none => (iN P t).bind fun e =>
  bif vars then guardB (lV e vs && Nat.ble 1 e && jB (gC vs)) (some (.avs e (gC vs), []))
  else (fY (rP P mem t) vs).map fun r => (.pvs r.1 e r.2.1, r.2.2)
def Ea (t : TypeId) (β : Bool) (e : Nat) : List PV → Option (List AV)
 | [] => some []
 | p :: r => (L4 P β t p 0).bind fun v => guardB (Nat.beq v.cells.length e) ((Ea t β e r).map (v.cells ++ ·))
def aI.toAvs (t : TypeId) : aI → Option (List AV)
 | .ints k xs => some (xs.map fun x => .lit (.int k x))
 | .pvs β e xs => Ea P t β e xs
 | .avs e cs => some cs
structure dE where
 v : AV
 rd : List Nat := []
 wr : List (Nat × a9) := []
 push : aH := []
abbrev bQ := FuncId → List AV → aH → Option (AV × aH)
def aJ (mem : aH) : List (Nat × a9) → aH
 | [] => mem
 | (b, x) :: r => aJ (mem.set b (some x)) r
def dE.apply (o : dE) (mem : aH) : aH := aJ mem o.wr ++ o.push
def pG (op : BinOp) (x y : Value) : Option Value :=
 match x, y with
 | .int k a, .int k' b =>
  match op with
  | .shl => guardB (decide (0 ≤ b)) (some (.int k (k.wrap (a * 2 ^ (min b.toNat k.bits)))))
  | .shr => guardB (decide (0 ≤ b)) (some (.int k (a.fdiv (2 ^ (min b.toNat k.bits)))))
  | .add => guardB (gK k k') (some (.int k (k.wrap (a + b))))
  | .sub => guardB (gK k k') (some (.int k (k.wrap (a - b))))
  | .mul => guardB (gK k k') (some (.int k (k.wrap (a * b))))
  | .quo => guardB (gK k k') (guardB (!(b == 0)) (some (.int k (k.wrap (a.tdiv b)))))
  | .rem => guardB (gK k k') (guardB (!(b == 0)) (some (.int k (a.tmod b))))
  | .and => guardB (gK k k') (some (.int k (k.wrap (BitVec.ofInt k.bits a &&& BitVec.ofInt k.bits b).toNat)))
  | .or => guardB (gK k k') (some (.int k (k.wrap (BitVec.ofInt k.bits a ||| BitVec.ofInt k.bits b).toNat)))
  | .xor => guardB (gK k k') (some (.int k (k.wrap (BitVec.ofInt k.bits a ^^^ BitVec.ofInt k.bits b).toNat)))
  | .andNot => guardB (gK k k') (some (.int k (k.wrap (BitVec.ofInt k.bits a &&& ~~~BitVec.ofInt k.bits b).toNat)))
  | .eql => guardB (gK k k') (some (.bool (a == b)))
  | .neq => guardB (gK k k') (some (.bool (a != b)))
  | .lss => guardB (gK k k') (some (.bool (decide (a < b))))
  | .leq => guardB (gK k k') (some (.bool (decide (a ≤ b))))
  | .gtr => guardB (gK k k') (some (.bool (decide (a > b))))
  | .geq => guardB (gK k k') (some (.bool (decide (a ≥ b))))
 | .bool a, .bool b =>
  match op with
  | .eql => some (.bool (a == b))
  | .neq => some (.bool (!(a == b)))
  | _ => none
 | .string a, .string b =>
  match op with
  | .eql => some (.bool (a.toList == b.toList))
  | .neq => some (.bool (!(a.toList == b.toList)))
  | _ => none
 | _, _ => none
def GH (op : UnOp) (x : Value) : Option Value :=
 match op, x with
 | .neg, .int k n => some (.int k (k.wrap (0 - n)))
 | .xor, .int k n => some (.int k (k.wrap (BitVec.ofInt k.bits (if k.signed then -1 else k.max) ^^^ BitVec.ofInt k.bits n).toNat))
 | .not, .bool b => some (.bool (!b))
 | _, _ => none
def BI (t : TypeId) (a b : AV) : Option Bool :=
 match P.underlying t, a, b with
 | some (.int _), .lit (.int k a), .lit (.int k' b) => guardB (gK k k') (some (a == b))
 | some .bool, .lit (.bool a), .lit (.bool b) => some (a == b)
 | some .string, .lit (.string a), .lit (.string b) => some (a.toList == b.toList)
 | _, _, _ => none
def kE : List Field → Nat → List AV → List AV → Option Bool
 | [], _, [], [] => some true
 | f :: fs, n, a :: as, b :: bs => guardB ((f.name != "_") && Nat.beq f.offset n) ((BI P f.type a b).bind fun q => (kE fs (n + 1) as bs).map fun r => q && r)
 | _, _, _, _ => none
def mA (t : TypeId) (a b : List AV) : Option Bool :=
 match P.underlying t with
 | some (.struct fs) => guardB ((!(P.stoodInHeld t)) && (!(P.eqGuardType P.depth t))) (kE P fs.toList 0 a b)
 | _ => none
def GG (t : TypeId) : Bool :=
 match P.underlying t with
 | some (.pointer _) => true
 | _ => false
def Id (t : TypeId) : Bool :=
 match P.underlying t with
 | some .bool => true
 | _ => false
def Ej (t : TypeId) (a b : Value) : Bool :=
 match a, b with
 | .bool _, .bool _ => Id P t
 | _, _ => true
def zY (t : TypeId) : Bool :=
 match P.underlying t with
 | some (.slice _) => true
 | _ => false
def j5 : PV → Option Bool
 | .ints _ xs => some xs.isEmpty
 | .sl _ xs => some xs.isEmpty
 | _ => none
def rU (op : BinOp) (t : TypeId) (x y : AV) : Option AV :=
 match x, y with
 | .imm _ p, .lit (.slice none 0 0) =>
  match op with
  | .eql => guardB (zY P t) ((j5 p).map fun e => bif e then .unkB else .lit (.bool false))
  | .neq => guardB (zY P t) ((j5 p).map fun e => bif e then .unkB else .lit (.bool true))
  | _ => none
 | .lit (.slice none 0 0), .lit (.slice none 0 0) =>
  match op with
  | .eql => guardB (zY P t) (some (.lit (.bool true)))
  | .neq => guardB (zY P t) (some (.lit (.bool false)))
  | _ => none
 | .lit a, .lit b => guardB (Ej P t a b) ((pG op a b).map .lit)
 | .agg a, .agg b =>
  match op with
  | .eql => (mA P t a b).map fun r => .lit (.bool r)
  | .neq => (mA P t a b).map fun r => .lit (.bool (!r))
  | _ => none
 | .ptr _ _ _ _, .lit (.pointer none) | .el _ _ _, .lit (.pointer none) =>
  match op with
  | .eql => guardB (GG P t) (some (.lit (.bool false)))
  | .neq => guardB (GG P t) (some (.lit (.bool true)))
  | _ => none
 | _, _ => none
def setCells : List AV → Nat → List AV → List AV
 | cs, _, [] => cs
 | cs, i, v :: r => setCells (cs.set i v) (i + 1) r
def oC : List PV → Nat → List PV → List PV
 | cs, _, [] => cs
 | cs, i, v :: r => oC (cs.set i v) (i + 1) r
def zI (y : Nat) : Option Int → Nat → Option Nat
 | none, d => some d
 | some i, _ => guardB (decide (0 ≤ i) && decide (i ≤ (y : Int))) (some i.toNat)
def fR (len : Nat) (lo hi mx : Option Int) : Option (Nat × Nat) :=
 guardB (mx.isNone || hi.isSome)
  ((zI len mx len).bind fun m => (zI m hi len).bind fun h => (zI h lo 0).bind fun l => some (l, h))
def Lm : Option AV → Option (Option Int)
 | none => some none
 | some (.lit (.int _ n)) => some (some n)
 | some _ => none
def O0 (k : IntKind) (x y : Int) : Int := bif decide (y < x) then y else x
def OI (k : IntKind) (x y : Int) : Int := bif decide (y > x) then y else x
def kS (f : Int → Int → Int) (k : IntKind) : List AV → Int → Option Int
 | [], a => some a
 | .lit (.int k' b) :: r, a => guardB (gK k k') (kS f k r (f a b))
 | _, _ => none
def bD : Nat := 4294967296
def aI.app (t : TypeId) (x y : aI) : Option aI :=
 match x, y with
 | .ints k xs, .ints k' ys => guardB (gK k k') (some (.ints k (xs ++ ys)))
 | .pvs β e xs, .pvs β' e' ys => guardB (Nat.beq e e') (some (.pvs (β || β') e (xs ++ ys)))
 | .avs e xs, y => (y.toAvs P t).bind fun ys => guardB (jB ys && Nat.beq e y.e && Nat.ble 1 e) (some (.avs e (xs ++ ys)))
 | _, _ => none
def yQ (tx : TypeId) (y : AV) : Bool :=
 match P.underlying tx, y with
 | some .string, .lit (.string _) => true
 | some (.slice _), .lit (.string _) => false
 | some (.slice _), _ => true
 | _, _ => false
def kT (vars : Bool) (et : TypeId) (v : aI) : Option Row :=
 bif vars then guardB (Nat.ble 1 v.len) ((v.toAvs P et).bind fun cs => guardB (jB cs) (some (.cells v.e cs))) else
 match v with
 | .avs _ _ => none
 | v => some v.row
def gO (boxed vars : Bool) (t tx : TypeId) (mem : aH) (rs : Nat) (x y : AV) : Option dE :=
 (elemOf? P t).bind fun et => (iN P et).bind fun s => (jI P et).bind fun bytes => (zero? P et).bind fun z =>
 (view P et mem y).bind fun yv =>
 guardB (Nat.beq s yv.1.e && yQ P tx y && Nat.ble bytes 4096 && Nat.ble 1 s && Nat.beq z.cells.length s)
 (match x with
 | .lit (.slice none 0 0) =>
  guardB (Nat.ble yv.1.len bD) (
  bif boxed then (kT P vars et yv.1).map fun row => { v := .msw rs 0, rd := yv.2, wr := [(rs, { gen := 0, frz := false, row })] }
  else yv.1.imm?.map fun v => { v, rd := yv.2 })
 | .msw b g => (box? mem b g).bind fun bx => (bx.row.all.app P et yv.1).bind fun zv =>
  guardB (!bx.frz && Nat.beq s bx.row.e && Nat.ble zv.len bD)
   (some { v := .msw b (g + 1), rd := b :: yv.2, wr := [(b, { gen := g + 1, frz := false, row := zv.row })] })
 | .ms b g 0 n => (box? mem b g).bind fun bx => (bx.row.sub 0 n).bind fun xv => (xv.app P et yv.1).bind fun zv =>
  guardB (!bx.frz && Nat.beq s bx.row.e && Nat.ble zv.len bD)
   (some { v := .msw b (g + 1), rd := b :: yv.2, wr := [(b, { gen := g + 1, frz := false, row := zv.row })] })
 | _ => none)
def gV (t : TypeId) (mem : aH) (x : AV) (i : Int) : Option dE :=
 match P.underlying t with
 | some (.slice et) => (iN P et).bind fun s =>
  match x with
  | .imm β (.ints k xs) => guardB (Nat.beq s 1) ((eC xs i).bind fun v => some { v := .el β (.lit (.int k v)) 0 })
  | .imm β (.sl e xs) => guardB (Nat.beq s e) ((eC xs i).bind fun v => some { v := .el β v 0 })
  | .ms b g o n => (box? mem b g).bind fun bx => guardB (Nat.beq s bx.row.e && decide (0 ≤ i) && decide (i < (n : Int))) (some { v := .ptr b g (o + i.toNat) 0, rd := [b] })
  | .msw b g => (box? mem b g).bind fun bx => guardB (Nat.beq s bx.row.e && decide (0 ≤ i) && decide (i < (bx.row.len : Int))) (some { v := .ptr b g i.toNat 0, rd := [b] })
  | _ => none
 | some (.array n e) => (iN P e).bind fun s =>
  match x with
  | .ptr b g j c => guardB (decide (0 ≤ i) && decide (i < (n : Int))) (some { v := .ptr b g j (c + i.toNat * s) })
  | _ => none
 | _ => none
def i7 (t : TypeId) (mem : aH) (a : AV) : Option dE :=
 match a with
 | .el β p c => (L4 P β t p c).map fun v => { v }
 | .ptr b g i c => (box? mem b g).bind fun bx =>
  match bx.row with
  | .cells e cs =>
   (isAgg? P t).bind fun ag => bif ag then (iN P t).bind fun n => guardB (Nat.ble (i * e + c + n) cs.length) (some { v := .agg ((cs.drop (i * e + c)).take n), rd := [b] })
    else (cs[i * e + c]?).map fun v => { v, rd := [b] }
  | .ints k xs => guardB (Nat.beq c 0) (guardB (match isAgg? P t with | some false => true | _ => false) ((xs[i]?).map fun x => { v := .lit (.int k x), rd := [b] }))
  | .pvs β e xs => (xs[i]?).bind fun x => (L4 P β t x c).map fun v => { v, rd := [b] }
  | .own _ _ _ => none
 | _ => none
def iR (t : TypeId) (mem : aH) (a x : AV) : Option dE :=
 match a with
 | .ptr b g i c => (box? mem b g).bind fun bx => (iN P t).bind fun n => guardB (!bx.frz && Nat.beq x.cells.length n)
  (match bx.row with
  | .cells e cs => guardB (Nat.ble (i * e + c + n) cs.length && jB x.cells) (some { v := .lit undef, rd := [b], wr := [(b, { bx with row := .cells e (setCells cs (i * e + c) x.cells) })] })
  | .ints k xs =>
   match x with
   | .lit (.int k' v) => guardB (gK k k' && Nat.beq c 0 && Nat.ble (i + 1) xs.length) (some { v := .lit undef, rd := [b], wr := [(b, { bx with row := .ints k (xs.set i v) })] })
   | _ => none
  | .pvs β e xs => (xs[i]?).bind fun p => (rP P mem t x).bind fun q => guardB (Nat.ble (c + n) e && Nat.beq p.cells.length e && !eZ b q.2.2)
    (some { v := .lit undef, rd := b :: q.2.2, wr := bZ mem q.2.2 ++ [(b, { bx with row := .pvs (β || q.1) e (xs.set i (bif Nat.beq n e && Nat.beq c 0 then q.2.1 else .agg (oC p.cells c q.2.1.cells))) })] })
  | .own _ _ _ => none)
 | _ => none
def fU (t : TypeId) (mem : aH) (x : AV) (lo hi mx : Option Int) : Option dE :=
 match P.underlying t with
 | some .string =>
  match x with
  | .lit (.string s) => guardB mx.isNone ((fR s.size lo hi none).map fun b => { v := .lit (.string (s.extract b.1 b.2)) })
  | _ => none
 | some (.slice et) => (iN P et).bind fun s =>
  match x with
  | .imm β (.ints k xs) => guardB (Nat.beq s 1) ((fR xs.length lo hi mx).map fun b => { v := .imm β (.ints k ((xs.take b.2).drop b.1)) })
  | .imm β (.sl e xs) => guardB (Nat.beq s e) ((fR xs.length lo hi mx).map fun b => { v := .imm β (.sl e ((xs.take b.2).drop b.1)) })
  | .ms b g o n => (box? mem b g).bind fun bx => guardB (Nat.beq s bx.row.e) ((fR n lo hi mx).map fun q => { v := .ms b g (o + q.1) (q.2 - q.1), rd := [b] })
  | .msw b g => (box? mem b g).bind fun bx => guardB (Nat.beq s bx.row.e) ((fR bx.row.len lo hi mx).map fun q => { v := .ms b g q.1 (q.2 - q.1), rd := [b] })
  | .lit (.slice none 0 0) => (fR 0 lo hi mx).map fun _ => { v := .lit (.slice none 0 0) }
  | _ => none
 | some (.array n e) => (iN P e).bind fun s =>
  match x with
  | .ptr b g 0 c => guardB (Nat.beq s 1) ((box? mem b g).bind fun bx =>
    match bx.row with
    | .cells 1 cs => guardB (Nat.ble (c + n) cs.length) ((fR n lo hi mx).map fun q => { v := .ms b g (c + q.1) (q.2 - q.1), rd := [b] })
    | _ => none)
  | _ => none
 | _ => none
def kZ (s : TypeId) (f : Nat) : Option (Nat × Nat × TypeId) :=
 match P.underlying s with
 | some (.struct fs) => (fs[f]?).bind fun x => (iN P x.type).bind fun n => guardB (Nat.ble 1 n) (some (x.offset, n, x.type))
 | _ => none
def CG (place : Nat → Option (Nat × Nat)) (cs : List AV) : List (Nat × AV) → Option (List AV)
 | [] => some cs
 | (i, v) :: r => (place i).bind fun q => guardB (Nat.beq v.cells.length q.2 && Nat.ble (q.1 + q.2) cs.length) (CG place (setCells cs q.1 v.cells) r)
def places? : List Field → Option (List (Nat × Nat))
 | [] => some []
 | f :: r => (iN P f.type).bind fun n => (places? r).map ((f.offset, n) :: ·)
def BB (t : TypeId) (parts : List (Nat × AV)) : Option AV :=
 (zero? P t).bind fun z =>
 match P.underlying t with
 | some (.struct fs) => (places? P fs.toList).bind fun ps => (CG (fun i => ps[i]?) z.cells parts).map .agg
 | some (.array _ e) => (iN P e).bind fun n => (CG (fun i => some (i * n, n)) z.cells parts).map .agg
 | _ => none
def mS (vs : List AV) : List (Nat × AV) → List AV
 | [] => vs
 | (i, v) :: r => mS (vs.set i v) r
def nG (n : Nat) : List (Nat × AV) → Bool
 | [] => true
 | (i, _) :: r => Nat.ble (i + 1) n && nG n r
def m6 (ρ : Operand → Option AV) : List Operand → Option (List AV)
 | [] => some []
 | x :: r => (ρ x).bind fun v => (m6 ρ r).map (v :: ·)
def kC (ρ : Operand → Option AV) : List (Nat × Operand) → Option (List (Nat × AV))
 | [] => some []
 | (i, x) :: r => (ρ x).bind fun v => (kC ρ r).map ((i, v) :: ·)
def z6 (ρ : Operand → Option AV) : Option Operand → Option (Option Int)
 | none => some none
 | some x => (ρ x).bind fun v => Lm (some v)
mutual
def AV.refs : AV → List Nat
 | .ptr b _ _ _ => [b]
 | .ms b _ _ _ => [b]
 | .msw b _ => [b]
 | .fn _ fi ca => AV.refsAll fi ++ AV.refsAll ca
 | .agg cs => AV.refsAll cs
 | .tup vs => AV.refsAll vs
 | .lit _ => []
 | .imm _ _ => []
 | .el _ _ _ => []
def AV.refsAll : List AV → List Nat
 | [] => []
 | v :: r => v.refs ++ AV.refsAll r
end
def e7 : List (Nat × Nat × AV) → List Nat
 | [] => []
 | (_, _, v) :: r => v.refs ++ e7 r
def Row.refs : Row → List Nat
 | .cells _ cs => AV.refsAll cs
 | .own _ _ hs => e7 hs
 | _ => []
def A0 (mem : aH) (b : Nat) : List Nat :=
 match mem[b]? with
 | some (some x) => x.row.refs
 | _ => []
def f6 (mem : aH) : Nat → List Nat → List Nat → List Nat
 | 0, _, seen => seen
 | _, [], seen => seen
 | n + 1, b :: todo, seen => bif eZ b seen then f6 mem n todo seen else f6 mem n (todo ++ A0 mem b) (seen ++ [b])
def sE (b : Nat) : List Nat → Nat → Option Nat
 | [], _ => none
 | m :: r, n => bif Nat.beq m b then some n else sE b r (n + 1)
def m8 (mem : aH) (b : Nat) : Option Nat :=
 match mem[b]? with
 | some (some x) => some x.gen
 | _ => none
abbrev jV := Nat → Nat → Option (Nat × Nat)
mutual
def AV.ren (f : jV) : AV → AV
 | .ptr b g i c => match f b g with | some q => .ptr q.1 q.2 i c | none => .dead
 | .ms b g o n => match f b g with | some q => .ms q.1 q.2 o n | none => .dead
 | .msw b g => match f b g with | some q => .msw q.1 q.2 | none => .dead
 | .fn h fi ca => .fn h (AV.renAll f fi) (AV.renAll f ca)
 | .agg cs => .agg (AV.renAll f cs)
 | .tup vs => .tup (AV.renAll f vs)
 | .lit v => .lit v
 | .imm β p => .imm β p
 | .el β p c => .el β p c
def AV.renAll (f : jV) : List AV → List AV
 | [] => []
 | v :: r => v.ren f :: AV.renAll f r
end
def nA (f : jV) : List (Nat × Nat × AV) → List (Nat × Nat × AV)
 | [] => []
 | (i, c, v) :: r => (i, c, v.ren f) :: nA f r
def Row.ren (f : jV) : Row → Row
 | .own e xs hs => .own e xs (nA f hs)
 | .cells e cs => .cells e (AV.renAll f cs)
 | .ints k xs => .ints k xs
 | .pvs β e xs => .pvs β e xs
def Row.isCells : Row → Bool
 | .cells _ _ => true
 | _ => false
def fI (m : Nat) (keep cells : Bool) (j g : Nat) : Nat := bif Nat.blt j m && !cells then (bif keep && Nat.beq g 0 then 0 else 1) else 0
def kP (mem : aH) (b : Nat) : Bool :=
 match mem[b]? with
 | some (some x) => x.row.isCells
 | _ => false
def fC (m : Nat) (keep : Bool) (mem : aH) (ids : List Nat) : jV := fun b g =>
 match m8 mem b with
 | some h => bif Nat.beq h g then (sE b ids 0).map fun j => (j, fI m keep (kP mem b) j h) else none
 | none => none
def d5 (m : Nat) (keep : Bool) (f : jV) (mem : aH) : Nat → List Nat → aH
 | _, [] => []
 | j, b :: r => (match mem[b]? with
  | some (some x) => some { gen := fI m keep x.row.isCells j x.gen, frz := x.frz, row := x.row.ren f }
  | _ => none) :: d5 m keep f mem (j + 1) r
def Pd : List Nat → List Nat → Bool
 | [], _ => true
 | b :: r, ids => eZ b ids && Pd r ids
def vI : List Nat → List Nat → Bool
 | [], _ => true
 | b :: r, ids => (!eZ b ids) && vI r ids
def dQ : List Nat → Bool
 | [] => true
 | b :: r => (!eZ b r) && dQ r
def oA : Nat → Nat → List Nat
 | _, 0 => []
 | a, n + 1 => a :: oA (a + 1) n
def dH (mem : aH) (n : Nat) : Nat := (mem.length + 1) * (mem.length + 1) + n
def i5 (mem : aH) : List (Option Bool) := mem.map fun x => x.map (·.row.isCells)
def nJ : List (Option Bool) → aH → Bool
 | [], _ => true
 | some k :: r, some x :: m => (bif k then x.row.isCells && Nat.beq x.gen 0 else !x.row.isCells) && nJ r m
 | none :: r, none :: m => nJ r m
 | _, _ => false
def wD : Nat → Nat → List Nat → Bool
 | _, 0, _ => true
 | i, n + 1, b :: r => Nat.beq b i && wD (i + 1) n r
 | _, _ + 1, [] => false
def b9 : aH → List Nat
 | [] => []
 | some x :: r => x.row.refs ++ b9 r
 | none :: r => b9 r
def cS (b : Nat) : List Nat → Nat
 | [] => 0
 | m :: r => bif Nat.beq m b then cS b r + 1 else cS b r
def zL (mem : aH) (v : AV) : Option (Nat × PV) :=
 match v with
 | .msw b g => (box? mem b g).bind fun x => bif x.frz then none else match x.row with
  | .ints k xs => some (b, .ints k xs)
  | .pvs false e xs => some (b, .sl e xs)
  | _ => none
 | .ms b g 0 n => (box? mem b g).bind fun x => bif x.frz then none else match x.row with
  | .ints k xs => guardB (Nat.ble n xs.length) (some (b, .ints k (xs.take n)))
  | .pvs false e xs => guardB (Nat.ble n xs.length) (some (b, .sl e (xs.take n)))
  | _ => none
 | _ => none
def nB (v : AV) : Option Nat :=
 match v with
 | .msw b _ => some b
 | .ms b _ _ _ => some b
 | _ => none
def Nv : PV → PV → Bool
 | .ints k _, .ints k' _ => gK k k'
 | .sl e _, .sl e' _ => Nat.beq e e'
 | _, _ => false
def kG (m : Nat) (refs : List Nat) (mem : aH) (v : AV) : Bool :=
 match nB v with
 | some b => Nat.ble m b && Nat.beq (cS b refs) 1 && (match mem[b]? with
  | some (some x) => (match v with | .msw _ g => Nat.beq x.gen g | .ms _ g _ _ => Nat.beq x.gen g | _ => false) && !x.frz && (match x.row with | .ints _ _ => true | .pvs β _ _ => !β | _ => false)
  | _ => false)
 | none => false
def jR (c : Nat) : List (Nat × Nat × AV) → Option (Nat × AV)
 | [] => none
 | (i, c', v) :: r => bif Nat.beq c c' then some (i, v) else jR c r
def cR {α : Type} : List α → Nat → List α
 | [], _ => []
 | _ :: r, 0 => r
 | a :: r, n + 1 => a :: cR r n
def jX (m : Nat) (refs : List Nat) (mem : aH) (all : List (Nat × Nat × AV)) : List (Nat × Nat × AV) → Nat → Option Nat
 | [], _ => none
 | (_, c, v) :: r, k => bif kG m refs mem v && (jR c (cR all k)).isNone then some k else jX m refs mem all r (k + 1)
def iH (m : Nat) (refs : List Nat) (mem : aH) : aH → Nat → Option (Nat × Nat)
 | [], _ => none
 | x :: r, b => match x with
  | some { row := .own _ _ hs, .. } => (match jX m refs mem hs hs 0 with
   | some k => some (b, k)
   | none => iH m refs mem r (b + 1))
  | _ => iH m refs mem r (b + 1)
def jA (p : PV) (c : Nat) (y : PV) : PV :=
 match p with
 | .agg cs => .agg (cs.set c y)
 | _ => y
def oX (mem : aH) (b k : Nat) : Option aH :=
 match mem[b]? with
 | some (some { gen, frz, row := .own e xs hs }) => (hs[k]?).bind fun h => (xs[h.1]?).bind fun p => (p.cells[h.2.1]?).bind fun y => (zL mem h.2.2).bind fun q =>
   guardB (Nv y q.2 && !(Nat.beq q.1 b) && (jR h.2.1 (cR hs k)).isNone) (some ((mem.set b (some { gen, frz, row := .own e (xs.set h.1 (jA p h.2.1 q.2)) (cR hs k) })).set q.1 none))
 | _ => none
def lX (m : Nat) (vs : List AV) : Nat → aH → Option aH
 | 0, mem => some mem
 | n + 1, mem => match iH m (AV.refsAll vs ++ b9 mem) mem mem 0 with
  | none => some mem
  | some q => (oX mem q.1 q.2).bind fun mem' => lX m vs n mem'
def LO (mem : aH) (b : Nat) : Bool :=
 match mem[b]? with
 | some (some _) => true
 | _ => false
def p9 (m : Nat) (vs : List AV) : Nat → aH → aH
 | 0, mem => mem
 | b + 1, mem => p9 m vs b (bif Nat.ble m b && LO mem b && Nat.beq (cS b (AV.refsAll vs ++ b9 mem)) 0 then mem.set b none else mem)
def CH (m : Nat) (vs : List AV) (mem : aH) : Option aH := lX m vs 64 (p9 m vs mem.length mem)
def rE (keep : Bool) (old : List (Option Bool)) (vs : List AV) (mem0 : aH) : Option (List AV × aH) :=
 (CH old.length vs mem0).bind fun mem =>
 let ids := f6 mem (dH mem (old.length + (AV.refsAll vs).length)) (oA 0 old.length ++ AV.refsAll vs) []
 guardB (nJ old mem && dQ ids && wD 0 old.length ids) (some (AV.renAll (fC old.length keep mem ids) vs, d5 old.length keep (fC old.length keep mem ids) mem 0 ids))
def AV.frz (m : Nat) (mem : aH) : AV → AV
 | .msw b g => bif Nat.ble m b then
   (match box? mem b g with
   | some x => (match x.row with
    | .ints k xs => .imm false (.ints k xs)
    | .pvs β e xs => .imm β (.sl e xs)
    | .cells _ _ => .msw b g
    | .own _ _ _ => .msw b g)
   | none => .msw b g)
  else .msw b g
 | v => v
def AV.frzAll (m : Nat) (mem : aH) : List AV → List AV
 | [] => []
 | v :: r => v.frz m mem :: AV.frzAll m mem r
def lG (m : Nat) (mem : aH) : AV → AV
 | .tup vs => .tup (AV.frzAll m mem vs)
 | .agg vs => .agg (AV.frzAll m mem vs)
 | v => v.frz m mem
mutual
def AV.lent : AV → Bool
 | .imm β _ => β
 | .el β _ _ => β
 | .fn _ fi ca => AV.lentAny fi || AV.lentAny ca
 | .agg cs => AV.lentAny cs
 | .tup vs => AV.lentAny vs
 | .lit _ => false
 | .ptr _ _ _ _ => false
 | .ms _ _ _ _ => false
 | .msw _ _ => false
def AV.lentAny : List AV → Bool
 | [] => false
 | v :: r => v.lent || AV.lentAny r
end
def kQ : List (Nat × Nat × AV) → Bool
 | [] => false
 | (_, _, v) :: r => v.lent || kQ r
def gR : aH → Bool
 | [] => false
 | some x :: r => (match x.row with | .cells _ cs => AV.lentAny cs | .pvs β _ _ => β | .ints _ _ => false | .own _ _ hs => kQ hs) || gR r
 | none :: r => gR r
def gF (mem : aH) (l : LK) (v : AV) : Option (AV × List Nat) :=
 match v with
 | .msw _ _ | .ms _ _ _ _ => (i9 P mem l v).map fun q => (.imm true q.2.1, q.2.2)
 | v => some (v, [])
def bV (mem : aH) : List LK → List AV → Option (List AV × List Nat)
 | [], [] => some ([], [])
 | l :: ls, v :: vs => (gF P mem l v).bind fun a => (bV mem ls vs).bind fun r => some (a.1 :: r.1, a.2 ++ r.2)
 | _, _ => none
def Gk : List AV → Bool
 | [] => false
 | .msw _ _ :: _ => true
 | .ms _ _ _ _ :: _ => true
 | _ :: r => Gk r
def lend (mem : aH) (t : TypeId) (v : AV) : Option (AV × List Nat) :=
 match v with
 | .msw _ _ | .ms _ _ _ _ => (leaf? P t).bind fun l => gF P mem l v
 | .agg cs => bif Gk cs then (leaves? P 8 t).bind fun ls => (bV P mem ls cs).map fun r => (.agg r.1, r.2) else some (.agg cs, [])
 | v => some (v, [])
def fZ (mem : aH) : List TypeId → List AV → Option (List AV × List Nat)
 | [], [] => some ([], [])
 | t :: ts, v :: r => (lend P mem t v).bind fun a => (fZ mem ts r).bind fun b => some (a.1 :: b.1, a.2 ++ b.2)
 | _, _ => none
def Jb (keep : Bool) (mem : aH) (ts : List TypeId) (vs : List AV) : Option (List AV × List Nat) := bif keep then some (vs, []) else fZ P mem ts vs
def cX (mem sub : aH) (ids : List Nat) : jV := fun b g =>
  (match ids[b]? with
  | some a => (match sub[b]?, m8 mem a with
   | some (some x), some h => bif Nat.beq x.gen g then some (a, h + x.gen) else none
   | _, _ => none)
  | none => bif Nat.beq g 0 && Nat.blt b sub.length then some (mem.length + (b - ids.length), 0) else none)
def a8 (f : jV) (mem : aH) : List Nat → aH → List (Nat × a9)
 | a :: ids, some x :: r => (a, { gen := (match m8 mem a with | some h => h + x.gen | none => 0), frz := x.frz, row := x.row.ren f }) :: a8 f mem ids r
 | _ :: ids, none :: r => a8 f mem ids r
 | _, _ => []
def eR (f : jV) : aH → aH
 | [] => []
 | some x :: r => some { gen := 0, frz := x.frz, row := x.row.ren f } :: eR f r
 | none :: r => none :: eR f r
def fN (m : Nat) : List Nat → Bool
 | [] => true
 | b :: r => Nat.blt b m && fN m r
def yI (C : bQ) (raw keep : Bool) (g : FuncId) (ts : List TypeId) (fi args ca : List AV) (mem : aH) : Option dE :=
 (Jb P keep mem ts args).bind fun la =>
 let all := fi ++ la.1 ++ ca
 let ids := f6 mem (dH mem (AV.refsAll all).length) (AV.refsAll all) []
 guardB (dQ ids && vI la.2 ids)
 ((C g (AV.renAll (fC 0 true mem ids) all) (d5 0 true (fC 0 true mem ids) mem 0 ids)).bind fun q =>
  let m := ids.length
  let r := bif raw then q.1 else lG m q.2 q.1
  guardB (Nat.ble m q.2.length && (fM la.2 || !(q.1.lent || gR q.2)))
  (bif fN m r.refs && fN m (b9 (q.2.take m)) then
   some { v := r.ren (cX mem (q.2.take m) ids), rd := la.2 ++ ids, wr := a8 (cX mem (q.2.take m) ids) mem ids q.2 }
  else
   some { v := q.1.ren (cX mem q.2 ids), rd := la.2 ++ ids, wr := a8 (cX mem q.2 ids) mem ids q.2, push := eR (cX mem q.2 ids) (q.2.drop m) }))
def CD (t tx : TypeId) (mem : aH) (rs : Nat) (n : Int) : Option dE :=
 match P.underlying tx with
 | some (.int _) => (elemOf? P t).bind fun et => (zero? P et).bind fun z =>
  match intKind? P et with
  | none => (rP P mem et z).bind fun q => (iN P et).bind fun e => (jI P et).bind fun bytes =>
   guardB (decide (1 ≤ n) && Nat.ble n.toNat bD && (Nat.ble 1 e && Nat.ble bytes 4096 && Nat.beq z.cells.length e && fM q.2.2)) (some { v := .msw rs 0, wr := [(rs, { gen := 0, frz := false, row := .pvs q.1 e (List.replicate n.toNat q.2.1) })] })
  | some _ => none
 | _ => none
def dX (boxed vars : Bool) (b : Builtin) (ts : List TypeId) (mem : aH) (rs : Nat) (args : List AV) : Option dE :=
 match b, ts, args with
 | .len, [t], [x] => (lenOf P t mem x).map fun n => { v := .lit (.int .i64 (n.1 : Int)), rd := n.2 }
 | .append, [t, tx], [.lit (.slice none 0 0), .lit (.int _ n)] => CD P t tx mem rs n
 | .append, [t, tx], [x, y] => gO P boxed vars t tx mem rs x y
 | .cap, [t], [.lit (.slice none 0 0)] => (match P.underlying t with | some (.slice _) => some { v := .lit (.int .i64 0) } | _ => none)
 | .min, _, .lit (.int k a) :: r => (kS (O0 k) k r a).map fun v => { v := .lit (.int k v) }
 | .max, _, .lit (.int k a) :: r => (kS (OI k) k r a).map fun v => { v := .lit (.int k v) }
 | _, _, _ => none
def rD (boxed : Bool) (rs : Nat) (v : aI) : Option dE :=
 bif boxed then some { v := .msw rs 0, wr := [(rs, { gen := 0, frz := false, row := v.row })] } else v.imm?.map fun a => { v := a }
def kX (boxed : Bool) (src dst : TypeId) (mem : aH) (rs : Nat) (x : AV) : Option dE :=
 match P.underlying src, P.underlying dst, x with
 | some (.int _), some (.int k), .lit (.int _ n) => some { v := .lit (.int k (k.wrap n)) }
 | some .string, some .string, .lit (.string s) => some { v := .lit (.string s) }
 | some (.slice e), some .string, x =>
  match P.underlying e with
  | some (.int .u8) => (view P e mem x).bind fun v => guardB (yQ P src x && (match iN P e with | some 1 => true | _ => false)) <|
   match v.1 with
   | .ints .u8 xs => some { v := .lit (.string (i6 xs)), rd := v.2 }
   | _ => none
  | _ => none
 | some (.slice _), some (.slice e), .msw b g =>
  match P.underlying e with
  | some (.int .u8) => guardB (Nat.beq src dst) ((box? mem b g).bind fun x => guardB (Nat.ble 1 x.row.len) (some { v := .msw b g, rd := [b] }))
  | _ => none
 | _, _, _ => none
def GO (c a b : AV) : Option AV :=
 match c with
 | .lit (.bool t) =>
  match a, b with
  | .lit (.bool x), .lit (.bool y) => some (.lit (.bool (bif t then x else y)))
  | _, _ => bif t then some a else some b
 | _ => none
def Dv (ρ : Operand → Option AV) (c a b : Operand) : Option dE :=
 (ρ c).bind fun c => (ρ a).bind fun a => (ρ b).bind fun b => (GO c a b).map fun v => { v }
def AL (rs : Nat) (t : TypeId) : Option dE :=
 (zero? P t).bind fun z => guardB (Nat.ble 1 z.cells.length && jB z.cells) (some { v := .ptr rs 0 0 0, wr := [(rs, { gen := 0, frz := false, row := .cells 1 z.cells })] })
def IL (ρ : Operand → Option AV) (rs : Nat) (t : TypeId) (x : Operand) : Option dE :=
 (ρ x).bind fun v => (iN P t).bind fun n => guardB (Nat.beq v.cells.length n && Nat.ble 1 n && jB v.cells) (some { v := .ptr rs 0 0 0, wr := [(rs, { gen := 0, frz := false, row := .cells 1 v.cells })] })
def Aw (ρ : Operand → Option AV) (t : TypeId) (parts : Array (Nat × Operand)) : Option dE :=
 (kC ρ parts.toList).bind fun ps => (BB P t ps).map fun v => { v }
def fJ (boxed vars : Bool) (ρ : Operand → Option AV) (mem : aH) (rs : Nat) (t : TypeId) (len : Nat) (parts : Array (Nat × Operand)) : Option dE :=
 (elemOf? P t).bind fun et => (zero? P et).bind fun z => (iN P et).bind fun s => (kC ρ parts.toList).bind fun ps =>
   guardB (nG len ps && Nat.ble len 4096 && Nat.ble 1 s && Nat.ble s 4096 && lV s (z :: ps.map (·.2))) ((mR P vars mem et (mS (List.replicate len z) ps)).bind fun w => guardB (Nat.beq w.1.e s) <|
    (rD (boxed || Nat.beq len 0) rs w.1).map fun o => { v := o.v, rd := w.2, wr := bZ mem w.2 ++ o.wr })
def wS (ρ : Operand → Option AV) (mem : aH) (t : TypeId) (a x : Operand) : Option dE :=
 (ρ a).bind fun a => (ρ x).bind fun x => iR P t mem a x
def Jj (ρ : Operand → Option AV) (x : Operand) : Option dE :=
 (ρ x).bind fun v =>
  match v with
  | .ptr b g i c => some { v }
  | .el β p c => some { v }
  | .fn (.func f) fi ca => some { v }
  | _ => none
def Ju (ρ : Operand → Option AV) (op : BinOp) (t : TypeId) (x y : Operand) : Option dE :=
 (ρ x).bind fun x => (ρ y).bind fun y => (rU P op t x y).map fun v => { v }
def Nk (ρ : Operand → Option AV) (op : UnOp) (x : Operand) : Option dE :=
 (ρ x).bind fun x =>
  match x with
  | .lit a => (GH op a).map fun v => { v := .lit v }
  | _ => none
def Ei (ρ : Operand → Option AV) (fn : Fn) (first cap : Array Operand) : Option dE :=
 (m6 ρ first.toList).bind fun fi => (m6 ρ cap.toList).map fun ca => { v := .fn fn fi ca }
def BQ (boxed : Bool) (ρ : Operand → Option AV) (mem : aH) (rs : Nat) (t : TypeId) (l c : Operand) : Option dE :=
 (elemOf? P t).bind fun et => (zero? P et).bind fun z => (ρ l).bind fun l => (ρ c).bind fun c =>
  match l, c with
  | .lit (.int _ n), .lit (.int _ n') => guardB (n == n' && decide (0 ≤ n) && Nat.ble n.toNat bD) (
    match intKind? P et with
    | some k => (iN P et).bind fun e => (jI P et).bind fun bytes => (fA k [z]).bind fun zs => guardB (Nat.beq e 1 && Nat.ble bytes 4096) (rD boxed rs (.ints k (List.replicate n.toNat (zs.headD 0))))
    | none => (rP P mem et z).bind fun q => (iN P et).bind fun e => (jI P et).bind fun bytes =>
      guardB (Nat.ble 1 e && Nat.ble bytes 4096 && Nat.beq z.cells.length e && fM q.2.2) (rD boxed rs (.pvs q.1 e (List.replicate n.toNat q.2.1))))
  | _, _ => none
def wU (ρ : Operand → Option AV) (mem : aH) (t : TypeId) (x : Operand) (lo hi mx : Option Operand) : Option dE :=
 (ρ x).bind fun x => (z6 ρ lo).bind fun lo => (z6 ρ hi).bind fun hi => (z6 ρ mx).bind fun mx => fU P t mem x lo hi mx
def kU (ρ : Operand → Option AV) (s : TypeId) (x : Operand) (f : Nat) : Option dE :=
 (ρ x).bind fun x => (kZ P s f).bind fun q =>
  match x with
  | .ptr b g i c => some { v := .ptr b g i (c + q.1) }
  | .el β p c => some { v := .el β p (c + q.1) }
  | _ => none
def z7 (ρ : Operand → Option AV) (s : TypeId) (x : Operand) (f : Nat) : Option dE :=
 (ρ x).bind fun x => (kZ P s f).bind fun q =>
  match x with
  | .agg cs => (isAgg? P q.2.2).bind fun ag => bif ag then guardB (Nat.ble (q.1 + q.2.1) cs.length) (some { v := .agg ((cs.drop q.1).take q.2.1) }) else (cs[q.1]?).map fun v => { v }
  | _ => none
def wI (ρ : Operand → Option AV) (mem : aH) (t : TypeId) (x ix : Operand) : Option dE :=
 (ρ x).bind fun x => (ρ ix).bind fun ix =>
  match ix with
  | .lit (.int _ i) => gV P t mem x i
  | _ => none
def oR (ρ : Operand → Option AV) (t : TypeId) (x ix : Operand) : Option dE :=
 (ρ x).bind fun x => (ρ ix).bind fun ix =>
  match x, ix with
  | .agg cs, .lit (.int _ i) =>
   match P.underlying t with
   | some (.array n e) => (isAgg? P e).bind fun ag => (iN P e).bind fun s => guardB (!ag && Nat.beq s 1 && decide (0 ≤ i) && decide (i < (n : Int))) ((cs[i.toNat]?).map fun v => { v })
   | _ => none
  | .lit (.string s), .lit (.int _ i) =>
   match P.underlying t with
   | some .string => (eC (e4 s) i).map fun n => { v := .lit (.int .u8 n) }
   | _ => none
  | _, _ => none
def oY (ρ : Operand → Option AV) (t : Operand) (ix : Nat) : Option dE :=
 (ρ t).bind fun t =>
  match t with
  | .tup vs => (vs[ix]?).map fun v => { v }
  | _ => none
def Bd (C : bQ) (boxed raw vars : Bool) (ρ : Operand → Option AV) (mem : aH) (rs : Nat) (c : Call) : Option dE :=
 (m6 ρ c.args.toList).bind fun args =>
  match c.callee with
  | .builtin b => dX P boxed vars b c.argTypes.toList mem rs args
  | .value f => (ρ f).bind fun f =>
   match f with
   | .fn (.func g) fi ca => yI P C raw vars g c.argTypes.toList fi args ca mem
   | _ => none
  | .invoke _ _ => none
def jM : Operand → Bool
 | .const (.slice none 0 0) => true
 | _ => false
def qL (t : TypeId) : Option PV :=
 (elemOf? P t).bind fun et =>
 match intKind? P et with
 | some k => some (.ints k [])
 | none => (iN P et).bind fun e => guardB (Nat.ble 1 e) (some (.sl e []))
def Hq : PV → Option Row
 | .ints k xs => some (.ints k xs)
 | .sl e xs => some (.pvs false e xs)
 | _ => none
def rX (boxed vars : Bool) (ρ : Operand → Option AV) (t : TypeId) (rs : Nat) (x : Operand) : Option dE :=
 bif jM x && boxed && !vars then (qL P t).bind fun p => (Hq p).map fun row => { v := .msw rs 0, wr := [(rs, { gen := 0, frz := false, row })] }
 else (ρ x).bind fun v =>
  match v with
  | .lit (.slice none 0 0) => bif boxed then some { v } else (qL P t).map fun p => { v := .imm false p }
  | v => some { v }
def LC (C : bQ) (boxed raw vars : Bool) (o : Oper) (ρ : Operand → Option AV) (mem : aH) (rs : Nat) : Option dE :=
 match o.op with
 | .move x => rX P boxed vars ρ o.type rs x
 | .assign x => rX P boxed vars ρ o.type rs x
 | .pick c a b => Dv ρ c a b
 | .alloc t => AL P rs t
 | .box t x => IL P ρ rs t x
 | .build t parts => Aw P ρ t parts
 | .buildSlice t len parts => fJ P boxed vars ρ mem rs t len parts
 | .load t a => (ρ a).bind fun a => i7 P t mem a
 | .store t a x => wS P ρ mem t a x
 | .nilCheck x => Jj ρ x
 | .binOp op t x y _ => Ju P ρ op t x y
 | .unOp op _ x => Nk ρ op x
 | .convert src dst x => (ρ x).bind fun x => kX P boxed src dst mem rs x
 | .makeFunc fn first cap => Ei ρ fn first cap
 | .makeSlice t l c => BQ P boxed ρ mem rs t l c
 | .slice t x lo hi mx => wU P ρ mem t x lo hi mx
 | .fieldAddr s x f => kU P ρ s x f
 | .field s x f => z7 P ρ s x f
 | .indexAddr t x ix => wI P ρ mem t x ix
 | .index t x ix => oR P ρ t x ix
 | .extract t ix => oY ρ t ix
 | .call c => Bd P C boxed raw vars ρ mem rs c
 | _ => none
def vT (mem : aH) (b : Nat) : Bool :=
 match mem[b]? with
 | some (some x) => x.row.isOwn
 | _ => false
def y0 (mem : aH) : AV → Bool
 | .msw b _ => vT mem b
 | .ms b _ _ _ => vT mem b
 | _ => false
def HQ (mem : aH) : AV → Bool
 | .msw b _ => vT mem b
 | _ => false
def Hg (mem : aH) : AV → Bool
 | .ptr b _ _ _ => vT mem b
 | _ => false
def zX (c : Nat) : List (Nat × Nat × AV) → List (Nat × Nat × AV)
 | [] => []
 | (i, c', v) :: r => bif Nat.beq c c' then r else (i, c', v) :: zX c r
def cV : PV → Option Row
 | .ints k ys => some (.ints k ys)
 | .sl e ys => guardB (Nat.ble 1 e) (some (.pvs false e ys))
 | _ => none
def nR (tk : Bool) (xs : List PV) (i c : Nat) (l : LK) (hs : List (Nat × Nat × AV)) (nb : Nat) : Option (AV × List (Nat × Nat × AV) × List Row) :=
 (xs[i]?).bind fun p => (p.cells[c]?).bind fun y =>
 match jR c hs with
 | some h => guardB (Nat.beq i h.1) (some (h.2, hs, []))
 | none => bif y8 l then (fT true l y).map fun v => (v, hs, [])
  else guardB tk ((cV y).map fun row => (.msw nb 0, (i, c, .msw nb 0) :: hs, [row]))
def n7 (tk : Bool) (xs : List PV) (i : Nat) : List LK → Nat → List (Nat × Nat × AV) → Nat → Option (List AV × List (Nat × Nat × AV) × List Row)
 | [], _, hs, _ => some ([], hs, [])
 | l :: ls, c, hs, nb => (nR tk xs i c l hs nb).bind fun a => (n7 tk xs i ls (c + 1) a.2.1 (nb + a.2.2.length)).map fun q => (a.1 :: q.1, q.2.1, a.2.2 ++ q.2.2)
def eS : List Row → aH
 | [] => []
 | r :: rs => some { gen := 0, frz := false, row := r } :: eS rs
def AC (b e : Nat) (bx : a9) (xs : List PV) (v : AV) (q : List (Nat × Nat × AV) × List Row) : dE :=
 match q.2 with
 | [] => { v, rd := [b] }
 | rows => { v, rd := [b], wr := [(b, { bx with row := .own e xs q.1 })], push := eS rows }
def zS (tk : Bool) (t : TypeId) (mem : aH) (a : AV) : Option dE :=
 match a with
 | .ptr b g i c => (boxO? mem b g).bind fun bx =>
  match bx.row with
  | .own e xs hs =>
   match isAgg? P t with
   | some false => (leaf? P t).bind fun l => (nR tk xs i c l hs mem.length).map fun q => AC b e bx xs q.1 q.2
   | some true => (leaves? P 8 t).bind fun ls => (iN P t).bind fun n => guardB (Nat.beq n ls.length) ((n7 tk xs i ls c hs mem.length).map fun q => AC b e bx xs (.agg q.1) q.2)
   | none => none
  | _ => none
 | _ => none
def De : Value → Value → Bool
 | .int k _, .int k' _ => gK k k'
 | .bool _, .bool _ => true
 | .string _, .string _ => true
 | _, _ => false
def Ah : PV → Option PV
 | .ints k _ => some (.ints k [])
 | .sl e _ => guardB (Nat.ble 1 e) (some (.sl e []))
 | _ => none
def CC (i c : Nat) (hs : List (Nat × Nat × AV)) : Option (List (Nat × Nat × AV)) :=
 match jR c hs with
 | none => some hs
 | some h => guardB (Nat.beq i h.1 && (jR c (zX c hs)).isNone) (some (zX c hs))
def lF (t : TypeId) (mem : aH) (a x : AV) : Option dE :=
 match a with
 | .ptr b g i c => (boxO? mem b g).bind fun bx =>
  match bx.row with
  | .own e xs hs => (iN P t).bind fun n => guardB (Nat.beq n 1 && !bx.frz && H0 x) ((xs[i]?).bind fun p => (p.cells[c]?).bind fun y =>
   match y, x with
   | .lit u, .lit v => guardB (De u v && (jR c hs).isNone) (some { v := .lit undef, rd := [b], wr := [(b, { bx with row := .own e (xs.set i (jA p c (.lit v))) hs })] })
   | .lit _, _ => none
   | y, .lit (.slice none 0 0) => (Ah y).bind fun y' => (CC i c hs).map fun hs' => { v := .lit undef, rd := [b], wr := [(b, { bx with row := .own e (xs.set i (jA p c y')) hs' })] }
   | y, .lit _ => none
   | y, x => (CC i c hs).map fun hs' => { v := .lit undef, rd := [b], wr := [(b, { bx with row := .own e xs ((i, c, x) :: hs') })] })
  | _ => none
 | _ => none
def JZ (t : TypeId) (mem : aH) (x : AV) : Option dE :=
 match P.underlying t, x with
 | some (.slice _), .msw b g => (boxO? mem b g).map fun bx => { v := .lit (.int .i64 (bx.row.len : Int)), rd := [b] }
 | _, _ => none
def qT (t : TypeId) (mem : aH) (x : AV) (i : Int) : Option dE :=
 match P.underlying t with
 | some (.slice et) => (iN P et).bind fun s =>
  match x with
  | .ms b g o n => (boxO? mem b g).bind fun bx => guardB (Nat.beq s bx.row.e && decide (0 ≤ i) && decide (i < (n : Int))) (some { v := .ptr b g (o + i.toNat) 0, rd := [b] })
  | .msw b g => (boxO? mem b g).bind fun bx => guardB (Nat.beq s bx.row.e && decide (0 ≤ i) && decide (i < (bx.row.len : Int))) (some { v := .ptr b g i.toNat 0, rd := [b] })
  | _ => none
 | _ => none
def qJ (t : TypeId) (mem : aH) (x : AV) (lo hi mx : Option Int) : Option dE :=
 match P.underlying t with
 | some (.slice et) => (iN P et).bind fun s =>
  match x with
  | .ms b g o n => (boxO? mem b g).bind fun bx => guardB (Nat.beq s bx.row.e) ((fR n lo hi mx).map fun q => { v := .ms b g (o + q.1) (q.2 - q.1), rd := [b] })
  | .msw b g => (boxO? mem b g).bind fun bx => guardB (Nat.beq s bx.row.e) ((fR bx.row.len lo hi mx).map fun q => { v := .ms b g q.1 (q.2 - q.1), rd := [b] })
  | _ => none
 | _ => none
def AS (l : LK) (v : AV) (j c : Nat) : Option (PV × List (Nat × Nat × AV)) :=
 match l, v with
 | .int k, .lit (.int k' x) => guardB (gK k k') (some (.lit (.int k' x), []))
 | .bool, .lit (.bool b) => some (.lit (.bool b), [])
 | .str, .lit (.string s) => some (.lit (.string s), [])
 | .ints k, .lit (.slice none 0 0) => some (.ints k [], [])
 | .sl _ e, .lit (.slice none 0 0) => guardB (Nat.ble 1 e) (some (.sl e [], []))
 | .ints k, .msw b g => some (.ints k [], [(j, c, .msw b g)])
 | .ints k, .ms b g o n => some (.ints k [], [(j, c, .ms b g o n)])
 | .sl _ e, .msw b g => guardB (Nat.ble 1 e) (some (.sl e [], [(j, c, .msw b g)]))
 | .sl _ e, .ms b g o n => guardB (Nat.ble 1 e) (some (.sl e [], [(j, c, .ms b g o n)]))
 | _, _ => none
def Ma : List LK → List AV → Nat → Nat → Option (List PV × List (Nat × Nat × AV))
 | [], [], _, _ => some ([], [])
 | l :: ls, v :: vs, j, c => (AS l v j c).bind fun a => (Ma ls vs j (c + 1)).map fun q => (a.1 :: q.1, a.2 ++ q.2)
 | _, _, _, _ => none
def CQ (t : TypeId) (ls : List LK) : List (List AV) → Nat → Option (List PV × List (Nat × Nat × AV))
 | [], _ => some ([], [])
 | cs :: r, j => (Ma ls cs j 0).bind fun a => (vO P t a.1).bind fun p => (CQ t ls r (j + 1)).map fun q => (p :: q.1, a.2 ++ q.2)
def kJ (n : Nat) : List (Nat × Nat × AV) → Bool
 | [] => true
 | (i, _, _) :: r => Nat.blt i n && kJ n r
def l4 (own : Bool) (t tx : TypeId) (mem : aH) (rs : Nat) (x y : AV) : Option dE :=
 (elemOf? P t).bind fun et => (iN P et).bind fun s => (jI P et).bind fun bytes => (zero? P et).bind fun z => (leaves? P 8 et).bind fun ls =>
 (view P et mem y).bind fun yv =>
 match yv.1 with
 | .avs e cs => guardB (Nat.beq s e && yQ P tx y && Nat.ble bytes 4096 && Nat.ble 1 s && Nat.beq z.cells.length s && Nat.beq ls.length s && jB cs)
  (match x with
  | .lit (.slice none 0 0) => guardB own ((CQ P et ls (chunks s (aN s cs.length) cs) 0).bind fun q => guardB (Nat.ble 1 q.1.length && Nat.ble q.1.length bD)
    (some { v := .msw rs 0, rd := yv.2, wr := [(rs, { gen := 0, frz := false, row := .own s q.1 q.2 })] }))
  | .msw b g => (boxO? mem b g).bind fun bx => match bx.row with
   | .own e' xs hs => (CQ P et ls (chunks s (aN s cs.length) cs) xs.length).bind fun q => guardB (!bx.frz && Nat.beq s e' && kJ xs.length hs && Nat.ble (xs ++ q.1).length bD)
     (some { v := .msw b (g + 1), rd := b :: yv.2, wr := [(b, { gen := g + 1, frz := false, row := .own e' (xs ++ q.1) (hs ++ q.2) })] })
   | _ => none
  | .ms b g 0 n => (boxO? mem b g).bind fun bx => match bx.row with
   | .own e' xs hs => (CQ P et ls (chunks s (aN s cs.length) cs) n).bind fun q => guardB (!bx.frz && Nat.beq s e' && Nat.ble n xs.length && kJ n hs && Nat.ble (xs.take n ++ q.1).length bD)
     (some { v := .msw b (g + 1), rd := b :: yv.2, wr := [(b, { gen := g + 1, frz := false, row := .own e' (xs.take n ++ q.1) (hs ++ q.2) })] })
   | _ => none
  | _ => none)
 | _ => none
def GU (ρ : Operand → Option AV) (mem : aH) (rs : Nat) (t : TypeId) (l c : Operand) : Option dE :=
 (elemOf? P t).bind fun et => (zero? P et).bind fun z => (ρ l).bind fun l => (ρ c).bind fun c => (leaves? P 8 et).bind fun ls =>
  match l, c with
  | .lit (.int _ n), .lit (.int _ n') => guardB (n == n' && decide (0 ≤ n) && Nat.ble n.toNat bD) (
    (Ma ls z.cells 0 0).bind fun a => (vO P et a.1).bind fun p => (iN P et).bind fun e => (jI P et).bind fun bytes =>
      guardB (Nat.ble 1 e && Nat.ble bytes 4096 && Nat.beq z.cells.length e && jB z.cells && (match a.2 with | [] => true | _ => false)) (some { v := .msw rs 0, wr := [(rs, { gen := 0, frz := false, row := .own e (List.replicate n.toNat p) [] })] }))
  | _, _ => none
def A2 (ρ : Operand → Option AV) (mem : aH) (rs : Nat) (t : TypeId) (len : Nat) (parts : Array (Nat × Operand)) : Option dE :=
 (elemOf? P t).bind fun et => (zero? P et).bind fun z => (iN P et).bind fun s => (kC ρ parts.toList).bind fun ps => (leaves? P 8 et).bind fun ls =>
   guardB (nG len ps && Nat.ble len 4096 && Nat.ble 1 s && Nat.ble s 4096 && lV s (z :: ps.map (·.2)) && Nat.beq ls.length s && Nat.ble 1 len) ((CQ P et ls ((mS (List.replicate len z) ps).map (·.cells)) 0).bind fun q =>
    guardB (jB (gC (mS (List.replicate len z) ps))) (some { v := .msw rs 0, wr := [(rs, { gen := 0, frz := false, row := .own s q.1 q.2 })] }))
def Gm (t : TypeId) (rs : Nat) : Option dE :=
 (elemOf? P t).bind fun et => (iN P et).bind fun e => guardB (Nat.ble 1 e) (some { v := .msw rs 0, wr := [(rs, { gen := 0, frz := false, row := .own e [] [] })] })
def k9 (own : Bool) (b : Builtin) (ts : List TypeId) (mem : aH) (rs : Nat) (args : List AV) : Option dE :=
 match b, ts, args with
 | .len, [t], [x] => JZ P t mem x
 | .append, [t, tx], [x, y] => l4 P own t tx mem rs x y
 | _, _, _ => none
def lE (ρ : Operand → Option AV) (p : AV → Bool) (x : Operand) : Bool :=
 match ρ x with
 | some v => p v
 | none => false
def bI (own : Bool) (ρ : Operand → Option AV) (mem : aH) : Op → Bool
 | .move x => own && jM x
 | .assign x => own && jM x
 | .buildSlice _ _ _ => own
 | .makeSlice _ _ _ => own
 | .load _ a => lE ρ (Hg mem) a
 | .store _ a _ => lE ρ (Hg mem) a
 | .slice _ x _ _ _ => lE ρ (y0 mem) x
 | .indexAddr _ x _ => lE ρ (y0 mem) x
 | .call c => (match c.callee, c.args.toList with
  | .builtin .len, [x] => lE ρ (HQ mem) x
  | .builtin .append, [x, _] => own || lE ρ (y0 mem) x
  | _, _ => false)
 | _ => false
def F4 (own tk : Bool) (o : Oper) (ρ : Operand → Option AV) (mem : aH) (rs : Nat) : Option dE :=
 match o.op with
 | .move _ => Gm P o.type rs
 | .assign _ => Gm P o.type rs
 | .buildSlice t len parts => A2 P ρ mem rs t len parts
 | .makeSlice t l c => GU P ρ mem rs t l c
 | .load t a => (ρ a).bind fun a => zS P tk t mem a
 | .store t a x => (ρ a).bind fun a => (ρ x).bind fun x => lF P t mem a x
 | .slice t x lo hi mx => (ρ x).bind fun x => (z6 ρ lo).bind fun lo => (z6 ρ hi).bind fun hi => (z6 ρ mx).bind fun mx => qJ P t mem x lo hi mx
 | .indexAddr t x ix => (ρ x).bind fun x => (ρ ix).bind fun ix =>
  match ix with
  | .lit (.int _ i) => qT P t mem x i
  | _ => none
 | .call c => (m6 ρ c.args.toList).bind fun args =>
  match c.callee with
  | .builtin b => k9 P own b c.argTypes.toList mem rs args
  | _ => none
 | _ => none
def FZ (C : bQ) (own tk boxed raw vars : Bool) (o : Oper) (ρ : Operand → Option AV) (mem : aH) (rs : Nat) : Option dE :=
 bif bI own ρ mem o.op then F4 P own tk o ρ mem rs else LC P C boxed raw vars o ρ mem rs
structure Tr where
 i : Nat
 rd : List Nat
 wr : List Nat
 push : Bool
 rc : Bool
 wk : Nat → Bool
def nS : AV → Option (Nat × Nat × Nat × Nat)
 | .ptr b g i c => some (b, g, i, c)
 | _ => none
def gN (x : a9) : Option (Nat × Nat × List (Option (Nat × Nat × Nat × Nat))) :=
 match x.row with
 | .cells e cs => some (x.gen, e, cs.map nS)
 | _ => none
def aT (mem : aH) (b : Nat) : Option (Nat × Nat × List (Option (Nat × Nat × Nat × Nat))) :=
 match mem[b]? with
 | some (some x) => gN x
 | _ => none
def Qj (x y : Option (Nat × Nat × Nat × Nat)) : Bool :=
 match x, y with
 | none, none => true
 | some (a, b, c, d), some (a', b', c', d') => Nat.beq a a' && Nat.beq b b' && Nat.beq c c' && Nat.beq d d'
 | _, _ => false
def OK : List (Option (Nat × Nat × Nat × Nat)) → List (Option (Nat × Nat × Nat × Nat)) → Bool
 | [], [] => true
 | x :: xs, y :: ys => Qj x y && OK xs ys
 | _, _ => false
def If (x y : Option (Nat × Nat × List (Option (Nat × Nat × Nat × Nat)))) : Bool :=
 match x, y with
 | some (g, e, l), some (g', e', l') => Nat.beq g g' && Nat.beq e e' && OK l l'
 | _, _ => false
def oM (mem : aH) (wr : List (Nat × a9)) (b : Nat) : Bool := wr.all fun q => !(Nat.beq q.1 b) || If (gN q.2) (aT mem b)
def KE : Op → Bool
 | .load _ _ => true
 | _ => false
def Mp (op : Op) (mem : aH) (v : AV) (rd : List Nat) : Bool :=
 KE op && (match nS v with | some _ => true | none => false) && (match rd with | [b] => (match aT mem b with | some _ => true | none => false) | _ => false)
def K3 (L : Nat) (all : List Tr) (b : Nat) : Bool := Nat.blt b L && all.all fun u => !(eZ b u.wr) || u.wk b
def F7 (L : Nat) (all : List Tr) (t : Tr) : Tr := bif t.rc && (match t.rd with | [b] => K3 L all b | _ => false) then { t with rd := [] } else t
variable [b4]
def CM (tmps : List AV) (t : Nat) : Option AV := (dZ tmps t).bind fun v => bif eL v then none else some v
def bY (tmps : List AV) : Operand → Option AV
 | .tmp t => CM tmps t
 | .const v => yN v
 | .func f => some (.fn (.func f) [] [])
 | .global g => (b4.tab g).map fun q => .el true (.agg [.lit (.int .i64 q.1), .lit (.int .i64 q.2)]) 0
def lS (tmps : List AV) (dst : Option Tmp) (v : AV) : List AV :=
 match dst with
 | some d => vW v tmps d
 | none => tmps
def d4 : Op → Bool
 | .move x | .assign x => jM x
 | .alloc _ | .box _ _ | .buildSlice _ _ _ | .convert _ _ _ | .makeSlice _ _ _ => true
 | .call { callee := .builtin .append, .. } => true
 | _ => false
def oD : List Oper → Nat
 | [] => 0
 | o :: r => (bif d4 o.op then 1 else 0) + oD r
def w4 (mem : aH) (rs : Nat) : Bool :=
 match mem[rs]? with
 | some none => true
 | _ => false
def LM : Option a9 → Bool
 | none => true
 | some _ => false
def trim : aH → aH
 | [] => []
 | x :: r => match trim r with
  | [] => bif LM x then [] else [x]
  | y => x :: y
def dE.tr (mk : Bool) (rs : Nat) (o : dE) (i : Nat) (op : Op) (mem : aH) : Tr := { i, rc := Mp op mem o.v o.rd, wk := oM mem o.wr, rd := o.rd, wr := bif mk then rs :: o.wr.map (·.1) else o.wr.map (·.1), push := match o.push with | [] => false | _ => true }
variable {R : Type}
def Bu (a b : Nat) : List (Nat × Nat × Int) → Option Int
 | [] => none
 | (m, x, v) :: r => bif Nat.beq m a && Nat.beq x b then some v else Bu a b r
def zK (h : Option Int) (v : AV) (k : AV → Option R) : Option R :=
 match h with
 | none => k v
 | some x => match v with
  | .lit (.int kd y) => guardB (decide (y = x)) (k (.lit (.int kd x)))
  | .lit (.bool b) => bif decide (x = 0) then guardB (!b) (k (.lit (.bool false))) else guardB b (k (.lit (.bool true)))
  | v => k v
def rQ (C : bQ) (an : lC) (tk : Bool) (rid : Nat) (ds : List (Option Tmp)) : List Oper → Nat → Nat → St → List Tr → (St → List Tr → Option R) → Option R
 | [], _, _, st, tr, k => k st tr
 | o :: rest, i, rs, st, tr, k =>
  let rs' := bif d4 o.op then rs + 1 else rs
  let run (st : St) : Option R := guardB (bif d4 o.op then w4 st.mem rs else true) ((FZ P C (a7 rid i an.own) tk (a7 rid i an.boxed) (a7 rid i an.raw) (a7 rid i an.vars) o (bY st.tmps) st.mem rs).bind fun out =>
   zK (Bu rid i an.hint) out.v fun v => rQ C an tk rid ds rest (i + 1) rs' { tmps := lS st.tmps o.dst v, mem := out.apply st.mem } (out.tr (d4 o.op) rs i o.op st.mem :: tr) k)
  let skip (st : St) : Option R := rQ C an tk rid ds rest (i + 1) rs' { tmps := lS st.tmps o.dst (.lit undef), mem := st.mem } tr k
  match o.guard with
  | none => run st
  | some (j, want) =>
   match ds[j]? with
   | some (some d) =>
    match dZ st.tmps d with
    | some (.lit (.bool b)) =>
     bif b then (bif want then run else skip) { st with tmps := vW (.lit (.bool true)) st.tmps d }
     else (bif want then skip else run) { st with tmps := vW (.lit (.bool false)) st.tmps d }
    | some (.lit (.tuple _)) => skip st
    | _ => none
   | _ => none
def Bc (acc : List Nat) : List Edge → Nat
 | [] => 0
 | e :: r => bif Region.binds .any e then 2 ^ e.on ||| acc.getD e.on 0 ||| Bc acc r else Bc acc r
def sW : List Oper → List Nat → List Nat
 | [], acc => acc
 | o :: r, acc => sW r (acc ++ [Bc acc o.after.toList])
def AF (i : Nat) : List Edge → Bool
 | [] => true
 | e :: r => (!(Region.binds .any e) || Nat.blt e.on i) && AF i r
def iZ : List Oper → Nat → Bool
 | [], _ => true
 | o :: r, i => AF i o.after.toList && iZ r (i + 1)
def c6 (bs : List Nat) (i j : Nat) : Bool := (bs.getD j 0).testBit i || (bs.getD i 0).testBit j
def Ar (ops : Array Oper) (i j : Nat) : Bool :=
 match ops[i]?, ops[j]? with
 | some x, some y => x.apart ops y
 | _, _ => false
def Oz (bs : List Nat) (L : Nat) (a : Tr) : List Tr → Bool
 | [] => true
 | b :: r => (c6 bs a.i b.i || (!(a.push && b.push) && vI a.wr b.rd && vI a.rd b.wr && vI a.wr b.wr && (!a.push || (fN L b.rd && fN L b.wr)) && (!b.push || (fN L a.rd && fN L a.wr)))) && Oz bs L a r
def LX (bs : List Nat) (L : Nat) : List Tr → Bool
 | [] => true
 | a :: r => Oz bs L a r && LX bs L r
def kW (o : Oper) : Bool :=
 match o.op with
 | .call c => (match c.callee with | .builtin _ => false | _ => true)
 | _ => false
def wG (bs : List Nat) (i : Nat) : List Oper → Nat → Bool
 | [], _ => true
 | o :: r, j => (Nat.beq i j || c6 bs i j || !(kW o)) && wG bs i r (j + 1)
def Ia (ops : Array Oper) (bs : List Nat) : List Tr → Bool
 | [] => true
 | a :: r => (!a.push || wG bs a.i ops.toList 0) && Ia ops bs r
def Aq (ops : Array Oper) (bs : List Nat) (i : Nat) : List Nat → Bool
 | [] => true
 | j :: r => (c6 bs i j || Ar ops i j) && Aq ops bs i r
def AA (ops : Array Oper) (bs : List Nat) : List Nat → Bool
 | [] => true
 | i :: r => Aq ops bs i r && AA ops bs r
def HV (ops : Array Oper) (L : Nat) (tr : List Tr) : Bool :=
 let bs := sW ops.toList []
 iZ ops.toList 0 && LX bs L (tr.map (F7 L tr)) && Ia ops bs tr && AA ops bs (oA 0 ops.size)
def nE (C : bQ) (an : lC) (rid : Nat) (ops : Array Oper) (draw : Bool) (st : St) (k : St → Option R) : Option R :=
 rQ P C an (!draw) rid (ops.toList.map (·.dst)) ops.toList 0 st.mem.length { st with mem := st.mem ++ List.replicate (oD ops.toList) none } [] fun st' tr =>
  guardB (!draw || HV ops (st.mem.length + oD ops.toList) tr) (k { st' with mem := trim st'.mem })
inductive Ex where
 | normal | exit (id : Nat) | ret
def bH (live : List Nat) : List AV → Nat → List AV
 | [], _ => []
 | v :: r, i => (bif eZ i live then v else .goneV) :: bH live r (i + 1)
def Iy (keep : Bool) (old : List (Option Bool)) (live : List Nat) (st : St) : Option St :=
 (rE keep old (bH live st.tmps 0) st.mem).map fun q => { tmps := q.1, mem := q.2 }
def yM (keep : Bool) (old : List (Option Bool)) (live : List Nat) (body : St → (Ex → St → Option R) → Option R) : Nat → St → (Ex → St → Option R) → Option R
 | 0, _, _ => none
 | n + 1, st, k => (Iy keep old live st).bind fun st1 => body st1 fun e st' =>
  match e with
  | .normal => yM keep old live body n st' k
  | .exit id => k (.exit id) st'
  | .ret => k .ret st'
def NP (mem : aH) (off : Nat) : AV → Option AV
 | .ptr b g i c => (box? mem b g).bind fun x => match x.row with
  | .cells e cs => cs[i * e + c + off]?
  | _ => none
 | v => some v
def BE (mem : aH) (s : AV) (n c : Nat) : Option aH :=
 match s with
 | .msw b g => (boxO? mem b g).bind fun bx => match bx.row with
  | .own e xs hs => (nR true xs n c (.sl 0 0) hs mem.length).map fun r => mem.set b (some { bx with row := .own e xs r.2.1 }) ++ eS r.2.2
  | _ => none
 | _ => none
def LB (tmps : List AV) (mem : aH) (q : Operand × Nat × Operand × Nat) : Option aH :=
 (bY tmps q.1).bind fun p => (NP mem q.2.1 p).bind fun s => (bY tmps q.2.2.1).bind fun v =>
  match v with
  | .lit (.int _ n) => guardB (decide (0 ≤ n)) (BE mem s n.toNat q.2.2.2)
  | _ => none
def BH (tmps : List AV) : List (Operand × Nat × Operand × Nat) → aH → Option aH
 | [], mem => some mem
 | q :: r, mem => (LB tmps mem q).bind fun mem' => BH tmps r mem'
def Gb (an : lC) (rid : Nat) (old : List (Option Bool)) (st : St) : Option St :=
 match eE rid an.tidy with
 | none => some st
 | some q => (CH old.length (bH q.1 st.tmps 0) st.mem).bind fun mem => (BH (bH q.1 st.tmps 0) q.2 mem).map fun mem' => { tmps := bH q.1 st.tmps 0, mem := mem' }
def eF (C : bQ) (an : lC) (n : Nat) (old : List (Option Bool)) : Code → Nat → St → (Ex → St → Option R) → Option R
 | .skip, _, st, k => k .normal st
 | .ret, _, st, k => k .ret st
 | .exit id, _, st, k => k (.exit id) st
 | .seq a b, bid, st, k => eF C an n old a bid st fun e st' =>
  match e with
  | .normal => eF C an n old b bid st' k
  | .exit id => k (.exit id) st'
  | .ret => k .ret st'
 | .cond c x y, bid, st, k =>
  match bY st.tmps c with
  | some (.lit (.bool t)) => bif t then eF C an n old x bid st k else eF C an n old y bid st k
  | some (.imm true (.lit (.bool false))) => amb (eF C an n old x bid st k) (eF C an n old y bid st k)
  | _ => none
 | .block id c, _, st, k => eF C an n old c id st fun e st' =>
  match e with
  | .normal => k .normal st'
  | .exit j => bif Nat.beq j id then k .normal st' else k (.exit j) st'
  | .ret => k .ret st'
 | .loop c, bid, st, k => (eE bid an.live).bind fun live => yM (eZ bid an.keep) old live (fun st k => eF C an n old c bid st k) n st k
 | .region rid ops draw, _, st, k => (Gb an rid old st).bind fun st => nE P C an rid ops draw st (fun st' => k .normal st')
 | _, _, _, _ => none
def CN (tmps : List AV) (mem : aH) : List ResultVar → Option (List AV)
 | [] => some []
 | .tmp t :: r => (CM tmps t).bind fun v => (CN tmps mem r).map (v :: ·)
 | .cell a t :: r => (CM tmps a).bind fun a => (i7 P t mem a).bind fun o => (CN tmps mem r).map (o.v :: ·)
def u0 : List AV → AV
 | [v] => v
 | vs => .tup vs
def Dp (fn : Func) (old : List (Option Bool)) (e : Ex) (st : St) : Option (AV × aH) :=
 match e with
 | .exit _ => none
 | _ => (CN P st.tmps st.mem fn.results.toList).bind fun vs => (rE true old [u0 vs] st.mem).bind fun q =>
  match q.1 with
  | [v] => some (v, q.2)
  | _ => none
end
end
end Go.Ab
end
section
namespace Go.Ab
abbrev cl (w : World) (B o : Nat) : Option Value := w.cell? ⟨B, o, none⟩
inductive PR (w : World) (pr : Nat → Nat → Prop) : PV → Value → Prop
 | lit (v : Value) (h : v.oneCell' = true) : PR w pr (.lit v) v
 | intsNil (k : IntKind) (a : Option Addr) : PR w pr (.ints k []) (.slice a 0 0)
 | ints (k : IntKind) (xs : List Int) (B o cap : Nat) (hcap : xs.length ≤ cap)
   (h : ∀ i x, xs[i]? = some x → cl w B (o + i) = some (.int k x) ∧ pr B (o + i)) : PR w pr (.ints k xs) (.slice (some ⟨B, o, none⟩) xs.length cap)
 | slNil (e : Nat) (a : Option Addr) : PR w pr (.sl e []) (.slice a 0 0)
 | sl (e : Nat) (xs : List PV) (B o cap : Nat) (cv : Nat → Nat → Value) (he : 1 ≤ e) (hcap : xs.length ≤ cap) (hlen : ∀ x ∈ xs, x.cells.length = e)
   (h : ∀ i x c y, xs[i]? = some x → x.cells[c]? = some y → cl w B (o + i * e + c) = some (cv i c) ∧ pr B (o + i * e + c))
   (h1 : ∀ i x c y, xs[i]? = some x → x.cells[c]? = some y → (cv i c).oneCell' = true)
   (hr : ∀ i x c y, xs[i]? = some x → x.cells[c]? = some y → PR w pr y (cv i c)) : PR w pr (.sl e xs) (.slice (some ⟨B, o, none⟩) xs.length cap)
 | agg (cs : List PV) (cvs : Array Value) (hlen : cs.length = cvs.size) (h : ∀ j y, cs[j]? = some y → PR w pr y (cvs.getD j undef)) : PR w pr (.agg cs) (.agg cvs)
def PV.isSl : PV → Bool
 | .ints _ _ => true
 | .sl _ _ => true
 | _ => false
structure z4 where
 blk : Option Nat
 e : Nat
 n : Nat
structure Gh where
 loc : Nat → Nat → Option z4
 prot : Bool → Nat → Nat → Prop
 mine : Nat → Prop
def Bk (w : World) (B k : Nat) : Prop := ∀ j, j < k → (cl w B j).isSome = true
inductive VR (G : Gh) (w : World) : AV → Value → Prop
 | lit (v : Value) (h : j7 v = true) : VR G w (.lit v) v
 | imm (β : Bool) (p : PV) (v : Value) (h : PR w (G.prot β) p v) (hs : p.isSl = true) : VR G w (.imm β p) v
 | unkB (b : Bool) : VR G w (.imm true (.lit (.bool false))) (.bool b)
 | dead (v : Value) (h1 : v.oneCell' = true) (h2 : j7 v = true) : VR G w (.imm false (.agg [])) v
 | ptr (b g i c : Nat) (L : z4) (B : Nat) (hl : G.loc b g = some L) (hb : L.blk = some B) : VR G w (.ptr b g i c) (.pointer (some ⟨B, i * L.e + c, none⟩))
 | ms (b g o n cap : Nat) (L : z4) (B : Nat) (hl : G.loc b g = some L) (hb : L.blk = some B) (hn : n ≤ cap) (hon : o + n ≤ L.n) (hf : Bk w B ((o + cap) * L.e)) :
   VR G w (.ms b g o n) (.slice (some ⟨B, o * L.e, none⟩) n cap)
 | msNil (b g : Nat) (L : z4) (hl : G.loc b g = some L) (hb : L.blk = none) : VR G w (.ms b g 0 0) (.slice none 0 0)
 | msZ (b g o B oo : Nat) (L : z4) (hl : G.loc b g = some L) (hb : L.blk = some B) (ho : 1 ≤ o) (hon : o ≤ L.n) : VR G w (.ms b g o 0) (.slice (some ⟨B, oo, none⟩) 0 0)
 | msw (b g cap : Nat) (L : z4) (B : Nat) (hl : G.loc b g = some L) (hb : L.blk = some B) (hn : L.n ≤ cap) (hf : Bk w B (cap * L.e)) :
   VR G w (.msw b g) (.slice (some ⟨B, 0, none⟩) L.n cap)
 | mswNil (b g : Nat) (L : z4) (hl : G.loc b g = some L) (hb : L.blk = none) (hn : L.n = 0) : VR G w (.msw b g) (.slice none 0 0)
 | el (β : Bool) (p : PV) (c B o : Nat) (cv : Nat → Value)
   (h : ∀ j y, p.cells[j]? = some y → cl w B (o + j) = some (cv j) ∧ G.prot β B (o + j))
   (hr : ∀ j y, p.cells[j]? = some y → PR w (G.prot β) y (cv j)) : VR G w (.el β p c) (.pointer (some ⟨B, o + c, none⟩))
 | fn (f : Fn) (fi ca : List AV) (fv cv : Array Value) (h1 : fi.length = fv.size) (h2 : ca.length = cv.size)
   (hf : ∀ (j : Nat) (y : AV), fi[j]? = some y → VR G w y (fv.getD j undef)) (hc : ∀ (j : Nat) (y : AV), ca[j]? = some y → VR G w y (cv.getD j undef)) : VR G w (.fn f fi ca) (.func f fv cv)
 | agg (cs : List AV) (cvs : Array Value) (hlen : cs.length = cvs.size) (h : ∀ (j : Nat) (y : AV), cs[j]? = some y → VR G w y (cvs.getD j undef)) : VR G w (.agg cs) (.agg cvs)
 | tup (cs : List AV) (cvs : Array Value) (hlen : cs.length = cvs.size) (h : ∀ (j : Nat) (y : AV), cs[j]? = some y → VR G w y (cvs.getD j undef)) : VR G w (.tup cs) (.tuple cvs)
structure Ev (G : Gh) (w w' : World) : Prop where
 size : w.heap.size ≤ w'.heap.size
 out : w'.output = w.output
 os : w'.os = w.os
 away : ∀ B, B < w.heap.size → ¬ G.mine B → w'.heap[B]? = w.heap[B]?
 some : ∀ B o, (cl w B o).isSome = true → (cl w' B o).isSome = true
 prot : ∀ β B o, G.prot β B o → cl w' B o = cl w B o
 fz : ∀ B o, (cl w B o).isSome = true → w'.frozen? ⟨B, o, none⟩ = w.frozen? ⟨B, o, none⟩
 tape : w'.tape = w.tape
structure c8 (G G' : Gh) : Prop where
 mine : G'.mine = G.mine
 prot : ∀ β B o, G.prot β B o → G'.prot β B o
 loc : ∀ b g L, G.loc b g = some L → G'.loc b g = some L
 new : ∀ β B o, G'.prot β B o → G.prot β B o ∨ G.mine B
theorem c8.refl (G : Gh) : c8 G G := ⟨rfl, fun _ _ _ h => h, fun _ _ _ h => h, fun _ _ _ h => .inl h⟩
theorem c8.trans {G I J : Gh} (h : c8 G I) (H : c8 I J) : c8 G J :=
 ⟨H.mine.trans h.mine, fun _ _ _ x => H.prot _ _ _ (h.prot _ _ _ x), fun _ _ _ x => H.loc _ _ _ (h.loc _ _ _ x), fun _ _ _ x => (H.new _ _ _ x).elim (h.new _ _ _) (fun y => .inr (by rw [← h.mine]; exact y))⟩
theorem Ev.refl (G : Gh) (w : World) : Ev G w w := ⟨yy _, rfl, rfl, fun _ _ _ => rfl, fun _ _ h => h, fun _ _ _ _ => rfl, fun _ _ _ => rfl, rfl⟩
theorem Ev.trans {G I : Gh} {w J M : World} (h : Ev G w J) (K : c8 G I) (H : Ev I J M) : Ev G w M where
 size := ya2 h.size H.size
 out := H.out.trans h.out
 os := H.os.trans h.os
 away B hb hm := (H.away B (yh1 hb h.size) (by rw [K.mine]; exact hm)).trans (h.away B hb hm)
 some B o x := H.some B o (h.some B o x)
 prot β B o x := (H.prot β B o (K.prot _ _ _ x)).trans (h.prot β B o x)
 fz B o x := (H.fz B o (h.some B o x)).trans (h.fz B o x)
 tape := H.tape.trans h.tape
theorem Ev.of_eq {G : Gh} {w H : World} (I : H.heap = w.heap) (K : H.output = w.output) (hs : H.os = w.os) (ht : H.tape = w.tape) : Ev G w H := by
 have J : ∀ a, H.cell? a = w.cell? a := fun a => by unfold World.cell?; rw [I]
 exact ⟨by rw [I]; exact yy _, K, hs, fun B _ _ => by rw [I], fun B o h => by rw [cl, J]; exact h, fun _ _ _ _ => J _, fun _ _ _ => by unfold World.frozen?; rw [I], ht⟩
theorem PR.mono {w V : World} {N K : Nat → Nat → Prop} (W : ∀ B o, N B o → K B o) (Y : ∀ B o, N B o → cl V B o = cl w B o)
  {p : PV} {v : Value} (h : PR w N p v) : PR V K p v := by
 induction h with
 | lit v h => exact .lit v h
 | intsNil k a => exact .intsNil k a
 | ints k xs B o cap H h => exact .ints k xs B o cap H fun i x O => ⟨(Y _ _ (h i x O).2).trans (h i x O).1, W _ _ (h i x O).2⟩
 | slNil e a => exact .slNil e a
 | sl e xs B o cap cv he H I h J hr U =>
  exact .sl e xs B o cap cv he H I (fun i x c y J M => ⟨(Y _ _ (h i x c y J M).2).trans (h i x c y J M).1, W _ _ (h i x c y J M).2⟩) J (fun i x c y J M => U i x c y J M)
 | agg cs cvs I h U => exact .agg cs cvs I fun j y Z => U j y Z
theorem Bk.mono {G : Gh} {w H : World} (J : Ev G w H) {B k : Nat} (h : Bk w B k) : Bk H B k := fun j I => J.some B j (h j I)
theorem VR.mono {G G' : Gh} {w w' : World} (K : c8 G G') (O : Ev G w w') {a : AV} {v : Value} (h : VR G w a v) : VR G' w' a v := by
 induction h with
 | lit v h => exact .lit v h
 | imm β p v h hs => exact .imm β p v (h.mono (K.prot β) (O.prot β)) hs
 | unkB b => exact .unkB b
 | dead v V W => exact .dead v V W
 | ptr b g i c L B H I => exact .ptr b g i c L B (K.loc _ _ _ H) I
 | ms b g o n cap L B H I hn M U => exact .ms b g o n cap L B (K.loc _ _ _ H) I hn M (U.mono O)
 | msNil b g L H I => exact .msNil b g L (K.loc _ _ _ H) I
 | msZ b g o B oo L H I ho M => exact .msZ b g o B oo L (K.loc _ _ _ H) I ho M
 | msw b g cap L B H I hn U => exact .msw b g cap L B (K.loc _ _ _ H) I hn (U.mono O)
 | mswNil b g L H I hn => exact .mswNil b g L (K.loc _ _ _ H) I hn
 | el β p c B o cv h hr =>
  exact .el β p c B o cv (fun j y N => ⟨(O.prot _ _ _ (h j y N).2).trans (h j y N).1, K.prot _ _ _ (h j y N).2⟩) (fun j y N => (hr j y N).mono (K.prot β) (O.prot β))
 | fn f fi ca fv cv V W U hc Z ihc => exact .fn f fi ca fv cv V W Z ihc
 | agg cs cvs J h Y => exact .agg cs cvs J Y
 | tup cs cvs J h Y => exact .tup cs cvs J Y
def nC (G : Gh) (w : World) (as : List AV) (vs : Array Value) : Prop := as.length = vs.size ∧ ∀ (j : Nat) (y : AV), as[j]? = some y → VR G w y (vs.getD j undef)
theorem nC.mono {G H : Gh} {w I : World} (K : c8 G H) (M : Ev G w I) {as : List AV} {vs : Array Value} (h : nC G w as vs) : nC H I as vs :=
 ⟨h.1, fun j y J => (h.2 j y J).mono K M⟩
def fS (w : World) (B : Nat) : Prop := ∃ c el lo hi, w.heap[B]? = some (.cells c el (lo, hi)) ∧ (lo = hi ∨ c.size ≤ lo)
def FO (G : Gh) (w : World) (B : Nat) : Row → Prop
 | .ints k xs => ∀ i x, xs[i]? = some x → cl w B i = some (.int k x)
 | .pvs β e xs => (∀ x ∈ xs, x.cells.length = e) ∧ ∀ (i : Nat) (x : PV) (c : Nat) (y : PV), xs[i]? = some x → x.cells[c]? = some y → ∃ v, cl w B (i * e + c) = some v ∧ v.oneCell' = true ∧ PR w (G.prot β) y v
 | _ => False
def OR (G : Gh) (w : World) (y : PV) (v : Value) : Prop :=
 (∃ u, y = .lit u ∧ v = u) ∨ ∃ row, cV y = some row ∧ ((v = .slice none 0 0 ∧ row.len = 0) ∨ ∃ B' cap, v = .slice (some ⟨B', 0, none⟩) row.len cap ∧ row.len ≤ cap ∧ Bk w B' (cap * row.e) ∧
  G.mine B' ∧ B' < w.heap.size ∧ fS w B' ∧ FO G w B' row ∧ ∀ β o, ¬ G.prot β B' o)
def aE (i c : Nat) : List (Nat × Nat × AV) → Option AV
 | [] => none
 | (i', c', v) :: r => if i' = i ∧ c' = c then some v else aE i c r
def HR (G : Gh) (w : World) (o : Option AV) (y : PV) (v : Value) : Prop :=
 match o with
 | some a => VR G w a v
 | none => OR G w y v
def gI (G : Gh) (w : World) (B : Nat) : Row → Prop
 | .own e xs hs => (∀ h ∈ hs, h.1 < xs.length) ∧ (∀ x ∈ xs, x.cells.length = e) ∧ ∀ (i : Nat) (x : PV) (c : Nat) (y : PV), xs[i]? = some x → x.cells[c]? = some y →
   ∃ v, cl w B (i * e + c) = some v ∧ v.oneCell' = true ∧ HR G w (aE i c hs) y v
 | .ints k xs => ∀ i x, xs[i]? = some x → cl w B i = some (.int k x)
 | .pvs β e xs => (∀ x ∈ xs, x.cells.length = e) ∧ ∀ (i : Nat) (x : PV) (c : Nat) (y : PV), xs[i]? = some x → x.cells[c]? = some y → ∃ v, cl w B (i * e + c) = some v ∧ v.oneCell' = true ∧ PR w (G.prot β) y v
 | .cells e cs => cs.length = e * aN e cs.length ∧ ∀ (j : Nat) (y : AV), cs[j]? = some y → ∃ v, cl w B j = some v ∧ v.oneCell' = true ∧ VR G w y v
theorem fS.cell {w : World} {B : Nat} (h : fS w B) {o : Nat} (H : (cl w B o).isSome = true) : w.frozen? ⟨B, o, none⟩ = false := by
 obtain ⟨c, el, lo, hi, I, hf⟩ := h
 unfold cl World.cell? at H
 simp only [I, Option.isSome_none, yi2, if_false] at H
 have J : o < c.size := by
  rcases yc2 o c.size with h | h
  ·exact h
  ·rw [yj3 h] at H; cases H
 unfold World.frozen?
 simp only [I, Bool.and_eq_false_iff, decide_eq_false_iff_not]
 omega
theorem fS.of_heap {w H : World} {B : Nat} (h : fS w B) (K : H.heap[B]? = w.heap[B]?) : fS H B := by
 obtain ⟨c, el, N, I, M, J⟩ := h
 exact ⟨c, el, N, I, by rw [K]; exact M, J⟩
structure Px (G : Gh) (w : World) (b : Nat) (x : a9) : Prop where
 e : 1 ≤ x.row.e
 loc : ∃ o, G.loc b x.gen = some ⟨o, x.row.e, x.row.len⟩ ∧
  match o with
  | none => x.row.len = 0 ∧ x.row.isCells = false
  | some B => G.mine B ∧ B < w.heap.size ∧ fS w B ∧ gI G w B x.row ∧ (x.frz = false → ∀ β o, ¬ G.prot β B o)
def eK (G : Gh) (b : Nat) (x : a9) (B : Nat) : Prop := ∃ L, G.loc b x.gen = some L ∧ L.blk = some B
def cP (w : World) (B : Nat) (r : Row) (i c B' : Nat) : Prop :=
 match r with
 | .own e xs hs => (∃ x y row, xs[i]? = some x ∧ x.cells[c]? = some y ∧ cV y = some row) ∧ aE i c hs = none ∧ ∃ n cap, cl w B (i * e + c) = some (.slice (some ⟨B', 0, none⟩) n cap)
 | _ => False
theorem cP.own {w : World} {B : Nat} {r : Row} {i c B' : Nat} (h : cP w B r i c B') : r.isOwn = true := by
 cases r <;> first | rfl | cases h
def iU (G : Gh) (w : World) (mem : aH) (b B' : Nat) : Prop := ∃ (b' : Nat) (y : a9) (B : Nat), b' ≠ b ∧ mem[b']? = some (some y) ∧ eK G b' y B ∧ (B' = B ∨ ∃ i c, cP w B y.row i c B')
variable [b4]
def rG (G : Gh) (w : World) : Prop := ∀ (g : Nat) (q : Int × Int), b4.tab g = some q → (cl w g 0 = some (.int .i64 q.1) ∧ G.prot true g 0) ∧ cl w g 1 = some (.int .i64 q.2) ∧ G.prot true g 1
theorem rG.mono {G I : Gh} {w J : World} (h : rG G w) (M : ∀ B o, G.prot true B o → I.prot true B o) (K : ∀ B o, G.prot true B o → cl J B o = cl w B o) : rG I J := fun g q H =>
 ⟨⟨(K _ _ (h g q H).1.2).trans (h g q H).1.1, M _ _ (h g q H).1.2⟩, (K _ _ (h g q H).2.2).trans (h g q H).2.1, M _ _ (h g q H).2.2⟩
structure aF (G : Gh) (w : World) (mem : aH) : Prop where
 box : ∀ (b : Nat) (x : a9), mem[b]? = some (some x) → Px G w b x
 unset : ∀ b g, (∀ x : a9, mem[b]? ≠ some (some x)) → G.loc b g = none
 gens : ∀ (b : Nat) (x : a9) (g : Nat), mem[b]? = some (some x) → x.gen < g → G.loc b g = none
 apart : ∀ (b b' : Nat) (x x' : a9) (L L' : z4) (B : Nat), mem[b]? = some (some x) → mem[b']? = some (some x') → G.loc b x.gen = some L → G.loc b' x'.gen = some L' →
  L.blk = some B → L'.blk = some B → b = b'
 inA : ∀ (b b' : Nat) (x x' : a9) (B i c B' : Nat), mem[b]? = some (some x) → eK G b x B → cP w B x.row i c B' → mem[b']? = some (some x') → ¬ eK G b' x' B'
 inB : ∀ (b b' : Nat) (x x' : a9) (B C i c i' c' B' : Nat), mem[b]? = some (some x) → eK G b x B → cP w B x.row i c B' → mem[b']? = some (some x') → eK G b' x' C → cP w C x'.row i' c' B' → b = b' ∧ i = i' ∧ c = c'
 own : ∀ B, w.heap.size ≤ B → G.mine B
 lab : ∀ B o, G.prot false B o → G.prot true B o
 away : ∀ β B o, G.prot β B o → B < w.heap.size
 glob : rG G w
def LG (w w' : World) (B : Nat) : Prop := (∀ o, cl w' B o = cl w B o) ∧ (fS w B → fS w' B)
theorem LG.of {w H : World} {B : Nat} (h : H.heap[B]? = w.heap[B]?) : LG w H B := ⟨fun o => by unfold cl World.cell?; simp only [h], fun I => I.of_heap h⟩
theorem FO.mono {G M : Gh} {w I : World} (W : c8 G M) (Y : Ev G w I) {B : Nat} (H : ∀ o, (cl w B o).isSome = true → cl I B o = cl w B o) {r : Row} (h : FO G w B r) : FO M I B r := by
 cases r with
 | ints k xs => exact fun i x N => by rw [H i (by rw [h i x N]; rfl)]; exact h i x N
 | pvs β e xs =>
  refine ⟨h.1, fun i x c y O U => ?_⟩
  obtain ⟨v, K, J, V⟩ := h.2 i x c y O U
  exact ⟨v, by rw [H _ (by rw [K]; rfl)]; exact K, J, V.mono (W.prot β) (Y.prot β)⟩
 | cells e cs => cases h
 | own e xs hs => cases h
theorem OR.mono {G K : Gh} {w I : World} (U : c8 G K) (M : Ev G w I) {y : PV} {v : Value} (h : OR G w y v)
  (J : ∀ B' n cap, (∃ row, cV y = some row) → v = .slice (some ⟨B', 0, none⟩) n cap → LG w I B' ∧ ∀ β o, ¬ K.prot β B' o) : OR K I y v := by
 rcases h with h | ⟨row, H, h⟩
 ·exact .inl h
 ·refine .inr ⟨row, H, ?_⟩
  rcases h with h | ⟨B', cap, N, V, W, Z, Y, h5, h6, h7⟩
  ·exact .inl h
  ·obtain ⟨O, hp⟩ := J B' _ _ ⟨row, H⟩ N
   exact .inr ⟨B', cap, N, V, W.mono M, by rw [U.mine]; exact Z, yh1 Y M.size, O.2 h5, h6.mono U M (fun o _ => O.1 o), hp⟩
theorem gI.mono {G G' : Gh} {w U : World} (V : c8 G G') (W : Ev G w U) {B : Nat} (H : ∀ o, (cl w B o).isSome = true → cl U B o = cl w B o) {r : Row}
  (Z : ∀ i c B', cP w B r i c B' → LG w U B' ∧ ∀ β o, ¬ G'.prot β B' o) (h : gI G w B r) : gI G' U B r := by
 cases r with
 | ints k xs => exact fun i x hx => by rw [H i (by rw [h i x hx]; rfl)]; exact h i x hx
 | pvs β e xs =>
  refine ⟨h.1, fun i x c y N O => ?_⟩
  obtain ⟨v, K, J, M⟩ := h.2 i x c y N O
  exact ⟨v, by rw [H _ (by rw [K]; rfl)]; exact K, J, M.mono (V.prot β) (W.prot β)⟩
 | cells e cs =>
  refine ⟨h.1, fun j y hy => ?_⟩
  obtain ⟨v, K, J, M⟩ := h.2 j y hy
  exact ⟨v, by rw [H _ (by rw [K]; rfl)]; exact K, J, M.mono V W⟩
 | own e xs hs =>
  refine ⟨h.1, h.2.1, fun i x c y N O => ?_⟩
  obtain ⟨v, K, J, M⟩ := h.2.2 i x c y N O
  refine ⟨v, by rw [H _ (by rw [K]; rfl)]; exact K, J, ?_⟩
  cases ho : aE i c hs with
  | some a => rw [ho] at M; exact VR.mono V W M
  | none =>
   rw [ho] at M
   refine OR.mono V W M fun B' n cap I Y => ?_
   obtain ⟨row, I⟩ := I
   exact Z i c B' ⟨⟨x, y, row, N, O, I⟩, ho, n, cap, by rw [K, Y]⟩
theorem aF.blk {G : Gh} {w : World} {mem : aH} (hM : aF G w mem) {b : Nat} {x : a9} {B : Nat} (M : mem[b]? = some (some x)) (hB : eK G b x B) :
  G.loc b x.gen = some ⟨some B, x.row.e, x.row.len⟩ ∧ G.mine B ∧ B < w.heap.size ∧ fS w B ∧ gI G w B x.row ∧ (x.frz = false → ∀ β o, ¬ G.prot β B o) := by
 obtain ⟨L, K, J⟩ := hB
 obtain ⟨o, H, hm⟩ := (hM.box b x M).loc
 have I := K
 rw [H] at I
 obtain rfl := ya I
 simp only at J; subst J
 exact ⟨H, hm⟩
theorem aF.inn {G : Gh} {w : World} {mem : aH} (hM : aF G w mem) {b : Nat} {x : a9} {B i c B' : Nat} (hx : mem[b]? = some (some x)) (hB : eK G b x B) (J : cP w B x.row i c B') :
  G.mine B' ∧ B' < w.heap.size ∧ fS w B' ∧ ∀ β o, ¬ G.prot β B' o := by
 obtain ⟨_, _, _, _, hr, _⟩ := hM.blk hx hB
 cases H : x.row with
 | own e xs hs =>
  rw [H] at J hr
  obtain ⟨⟨p, y, row, O, U, V⟩, ho, n, cap, hc⟩ := J
  obtain ⟨v, I, _, K⟩ := hr.2.2 i p c y O U
  rw [ho] at K
  rw [hc] at I
  obtain rfl := ya I
  rcases K with ⟨u, Y, _⟩ | ⟨row', M, K⟩
  ·subst Y; simp [cV] at V
  ·rcases K with ⟨hn, _⟩ | ⟨B2, N, I, _, _, m1, Z, W, _, m4⟩
   ·cases hn
   ·simp only [Value.slice.injEq, Option.some.injEq, Addr.mk.injEq, true_and, and_true] at I
    obtain ⟨rfl, _⟩ := I
    exact ⟨m1, Z, W, m4⟩
 | _ => rw [H] at J; cases J
theorem aF.other {G : Gh} {w : World} {mem : aH} (hM : aF G w mem) {b B' : Nat} (h : iU G w mem b B') : G.mine B' ∧ B' < w.heap.size ∧ fS w B' := by
 obtain ⟨b', y, B, _, K, hB, h⟩ := h
 rcases h with rfl | ⟨i, c, M⟩
 ·obtain ⟨_, H, I, J, _⟩ := hM.blk K hB; exact ⟨H, I, J⟩
 ·obtain ⟨H, I, J, _⟩ := hM.inn K hB M; exact ⟨H, I, J⟩
theorem aF.other_ne {G : Gh} {w : World} {mem : aH} (hM : aF G w mem) {b B B' : Nat} {x : a9} (N : mem[b]? = some (some x)) (hB : eK G b x B) (h : iU G w mem b B') : B' ≠ B := by
 rintro rfl
 obtain ⟨K, y, C, H, M, hC, h⟩ := h
 rcases h with rfl | ⟨i, c, V⟩
 ·obtain ⟨L, O, U⟩ := hB
  obtain ⟨W, I, J⟩ := hC
  exact H (hM.apart K b y x W L _ M N I O J U)
 ·exact hM.inA K b y x C i c _ M hC V N hB
theorem aF.other_inn {G : Gh} {w : World} {mem : aH} (hM : aF G w mem) {b B i c B' : Nat} {x : a9} (N : mem[b]? = some (some x)) (hB : eK G b x B) (J : cP w B x.row i c B') : ¬ iU G w mem b B' := by
 rintro ⟨K, y, C, H, M, hC, h⟩
 rcases h with rfl | ⟨O, U, I⟩
 ·exact hM.inA b K x y B i c _ N hB J M hC
 ·exact H (hM.inB b K x y B C i c O U B' N hB J M hC I).1.symm
end Go.Ab
end
section
namespace Go.Ab
variable [b4]
theorem cI {w H : World} {B : Nat} (h : H.heap[B]? = w.heap[B]?) (o : Nat) : cl H B o = cl w B o := by
 unfold cl World.cell?; simp only [h]
theorem vF {w H : World} {B : Nat} (h : H.heap[B]? = w.heap[B]?) (o : Nat) : H.frozen? ⟨B, o, none⟩ = w.frozen? ⟨B, o, none⟩ := by
 unfold World.frozen?; simp only [h]
theorem En {w : World} {B o : Nat} (h : (cl w B o).isSome = true) : B < w.heap.size := by
 obtain ⟨u, H⟩ := Option.isSome_iff_exists.1 h
 exact World.block_lt_of_cell? (a := ⟨B, o, none⟩) _ H
def Gh.put (G : Gh) (b g : Nat) (L : z4) : Gh := { G with loc := fun b' g' => if b' = b ∧ g' = g then some L else G.loc b' g' }
theorem Gh.put_self (G : Gh) (b g : Nat) (L : z4) : (G.put b g L).loc b g = some L := by simp [Gh.put]
theorem Gh.put_ne (G : Gh) {b g H g' : Nat} (L : z4) (h : ¬ (H = b ∧ g' = g)) : (G.put b g L).loc H g' = G.loc H g' := by simp [Gh.put, h]
theorem c8.put {G : Gh} {b g : Nat} {L : z4} (h : G.loc b g = none ∨ G.loc b g = some L) : c8 G (G.put b g L) := by
 refine ⟨rfl, fun _ _ _ x => x, fun I g' L' H => ?_, fun _ _ _ x => .inl x⟩
 by_cases e : I = b ∧ g' = g
 ·obtain ⟨rfl, rfl⟩ := e
  rw [Gh.put_self]
  rcases h with h | h <;> rw [h] at H <;> simp_all
 ·rw [Gh.put_ne _ _ e]; exact H
structure JT (G : Gh) (w w1 : World) (mem : aH) (b : Nat) (x' : a9) (L : z4) : Prop where
 other : ∀ B', iU G w mem b B' → w1.heap[B']? = w.heap[B']?
 apart : ∀ B, L.blk = some B → ¬ iU G w mem b B
 self : ∀ B, L.blk = some B → ∀ i c B', cP w1 B x'.row i c B' → ¬ iU G w mem b B' ∧ B' ≠ B
 inj : ∀ B, L.blk = some B → ∀ i c i2 c2 B', cP w1 B x'.row i c B' → cP w1 B x'.row i2 c2 B' → i = i2 ∧ c = c2
theorem JT.plain {G : Gh} {w I : World} {mem : aH} {b : Nat} {x' : a9} {L : z4} (H : x'.row.isOwn = false) (J : ∀ B', iU G w mem b B' → I.heap[B']? = w.heap[B']?) (K : ∀ B, L.blk = some B → ¬ iU G w mem b B) : JT G w I mem b x' L :=
 ⟨J, K, fun B _ i c B' h => absurd h.own (by rw [H]; decide), fun B _ i c i2 c2 B' h _ => absurd h.own (by rw [H]; decide)⟩
theorem cP.same {w H : World} {B : Nat} {r : Row} {i c B' : Nat} (h : cP H B r i c B') (hs : ∀ o, cl H B o = cl w B o) : cP w B r i c B' := by
 cases r with
 | own e xs hs' => obtain ⟨I, J, n, cap, K⟩ := h; exact ⟨I, J, n, cap, by rw [← hs]; exact K⟩
 | _ => cases h
theorem iU.at {G : Gh} {w : World} {mem : aH} {b H : Nat} {y : a9} {B : Nat} (I : H ≠ b) (J : mem[H]? = some (some y)) (hB : eK G H y B) : iU G w mem b B := ⟨H, y, B, I, J, hB, .inl rfl⟩
theorem iU.inn {G : Gh} {w : World} {mem : aH} {b H : Nat} {y : a9} {B i c B' : Nat} (I : H ≠ b) (J : mem[H]? = some (some y)) (hB : eK G H y B) (K : cP w B y.row i c B') : iU G w mem b B' := ⟨H, y, B, I, J, hB, .inr ⟨i, c, K⟩⟩
theorem aF.upd {G : Gh} {w w1 : World} {mem : aH} {b : Nat} {x' : a9} {L : z4} (hM : aF G w mem) (hev : Ev G w w1) (hb : b < mem.length)
  (hput : G.loc b x'.gen = none ∨ G.loc b x'.gen = some L) (M : JT G w w1 mem b x' L)
  (hgen : ∀ g, x'.gen < g → G.loc b g = none)
  (hbox : Px (G.put b x'.gen L) w1 b x') : aF (G.put b x'.gen L) w1 (mem.set b (some x')) := by
 have hg := c8.put hput
 have J : ∀ (K : Nat) (y : a9), (mem.set b (some x'))[K]? = some (some y) → (K = b ∧ y = x') ∨ (K ≠ b ∧ mem[K]? = some (some y)) := by
  intro K y h
  by_cases e : K = b
  ·subst e; rw [yw hb] at h; left; exact ⟨rfl, by simpa using h.symm⟩
  ·rw [yp (fun x => e x.symm)] at h; right; exact ⟨e, h⟩
 have H : ∀ {B : Nat}, eK (G.put b x'.gen L) b x' B → L.blk = some B := by
  rintro B ⟨L1, l1, k1⟩
  rw [Gh.put_self] at l1
  obtain rfl := ya l1
  exact k1
 have I : ∀ {K : Nat} {y : a9} {B : Nat}, K ≠ b → eK (G.put b x'.gen L) K y B → eK G K y B := by
  rintro K y B e ⟨L1, l1, k1⟩
  rw [Gh.put_ne _ _ (fun x => e x.1)] at l1
  exact ⟨L1, l1, k1⟩
 have W : ∀ {K : Nat} {y : a9} {B : Nat}, K ≠ b → mem[K]? = some (some y) → eK G K y B → ∀ o, cl w1 B o = cl w B o := fun e hy hB o => cI (M.other _ (.at e hy hB)) o
 refine ⟨fun K y h => ?_, fun K g h => ?_, fun K y g h hlt => ?_, fun b1 b2 y1 y2 L1 L2 B h1 h2 l1 l2 k1 N => ?_, fun b1 b2 y1 y2 B i c B' h1 k1 Z h2 N => ?_, fun b1 b2 y1 y2 B C i c i' c' B' h1 k1 Z h2 N hi' => ?_, fun B h => hM.own B (ya2 hev.size h), hM.lab, fun β B o h => yh1 (hM.away β B o h) hev.size, hM.glob.mono (hg.prot true) (hev.prot true)⟩
 ·rcases J K y h with ⟨rfl, rfl⟩ | ⟨e, h⟩
  ·exact hbox
  ·have hx := hM.box K y h
   obtain ⟨o, hl, hm⟩ := hx.loc
   refine ⟨hx.e, o, hg.loc _ _ _ hl, ?_⟩
   cases o with
   | none => exact hm
   | some B =>
    obtain ⟨hm1, hm2, hm3, hm4, hm5⟩ := hm
    have hB : eK G K y B := ⟨_, hl, rfl⟩
    have hh := M.other B (.at e h hB)
    exact ⟨hm1, yh1 hm2 hev.size, hm3.of_heap hh, hm4.mono hg hev (fun o _ => cI hh o) (fun i c B' Z => ⟨.of (M.other B' (.inn e h hB Z)), (hM.inn h hB Z).2.2.2⟩), hm5⟩
 ·by_cases e : K = b
  ·subst e; exact absurd (yw hb) (h x')
  ·rw [Gh.put_ne _ _ (fun x => e x.1)]
   exact hM.unset K g fun x hx => h x (by rw [yp (fun x => e x.symm)]; exact hx)
 ·rcases J K y h with ⟨rfl, rfl⟩ | ⟨e, h⟩
  ·rw [Gh.put_ne _ _ (fun x => by omega)]; exact hgen g hlt
  ·rw [Gh.put_ne _ _ (fun x => e x.1)]; exact hM.gens K y g h hlt
 ·rcases J b1 y1 h1 with ⟨f1, O⟩ | ⟨U, g1⟩ <;> rcases J b2 y2 h2 with ⟨f2, V⟩ | ⟨Y, g2⟩
  ·rw [f1, f2]
  ·subst f1 O
   exact absurd (.at Y g2 (I Y ⟨L2, l2, N⟩)) (M.apart B (H ⟨L1, l1, k1⟩))
  ·subst f2 V
   exact absurd (.at U g1 (I U ⟨L1, l1, k1⟩)) (M.apart B (H ⟨L2, l2, N⟩))
  ·rw [Gh.put_ne _ _ (fun x => U x.1)] at l1; rw [Gh.put_ne _ _ (fun x => Y x.1)] at l2
   exact hM.apart b1 b2 y1 y2 L1 L2 B g1 g2 l1 l2 k1 N
 ·rcases J b1 y1 h1 with ⟨f1, O⟩ | ⟨U, g1⟩ <;> rcases J b2 y2 h2 with ⟨f2, V⟩ | ⟨Y, g2⟩
  ·subst f1 O f2 V
   have hB := H k1
   have h2 := H N
   have h3 := hB
   rw [h2] at h3
   exact (M.self B hB i c B' Z).2 (ya h3)
  ·subst f1 O
   exact (M.self B (H k1) i c B' Z).1 (.at Y g2 (I Y N))
  ·subst f2 V
   have k1 := I U k1
   exact M.apart B' (H N) (.inn U g1 k1 (Z.same (W U g1 k1)))
  ·have k1 := I U k1
   exact hM.inA b1 b2 y1 y2 B i c B' g1 k1 (Z.same (W U g1 k1)) g2 (I Y N)
 ·rcases J b1 y1 h1 with ⟨f1, O⟩ | ⟨U, g1⟩ <;> rcases J b2 y2 h2 with ⟨f2, V⟩ | ⟨Y, g2⟩
  ·subst f1 O f2 V
   have hB := H k1
   have hC := H N
   rw [hB] at hC
   obtain rfl := ya hC
   exact ⟨rfl, M.inj B hB i c i' c' B' Z hi'⟩
  ·subst f1 O
   have N := I Y N
   exact absurd (.inn Y g2 N (hi'.same (W Y g2 N))) (M.self B (H k1) i c B' Z).1
  ·subst f2 V
   have k1 := I U k1
   exact absurd (.inn U g1 k1 (Z.same (W U g1 k1))) (M.self C (H N) i' c' B' hi').1
  ·have k1 := I U k1
   have N := I Y N
   exact hM.inB b1 b2 y1 y2 B C i c i' c' B' g1 k1 (Z.same (W U g1 k1)) g2 N (hi'.same (W Y g2 N))
theorem eV {w : World} {o : Obj} {B : Nat} (h : B < w.heap.size) : (w.alloc o).heap[B]? = w.heap[B]? := by
 simp only [World.alloc]; rw [Array.getElem?_push]; rw [if_neg (by omega)]
theorem CI {w : World} {o : Obj} {B j : Nat} (h : B < w.heap.size) : cl (w.alloc o) B j = cl w B j := cI (eV h) j
theorem jG {w : World} {c : Array Value} {t : TypeId} {fr : Nat × Nat} {j : Nat} : cl (w.alloc (.cells c t fr)) w.heap.size j = c[j]? := by
 unfold cl World.cell? World.alloc; simp
theorem BS (w : World) (c : Array Value) (t : TypeId) (a : Addr) : (w.alloc (.cells c t)).frozen? a = w.frozen? a := by
 by_cases h : a.block < w.heap.size
 ·unfold World.frozen?; simp only [eV h]
 ·have I : w.heap[a.block]? = none := by simp; omega
  by_cases J : a.block = w.heap.size
  ·have H : (w.alloc (.cells c t)).heap[a.block]? = some (.cells c t) := by rw [J]; show (w.heap.push (.cells c t))[w.heap.size]? = _; simp
   unfold World.frozen?; simp [H, I]
  ·have H : (w.alloc (.cells c t)).heap[a.block]? = none := by show (w.heap.push (.cells c t))[a.block]? = none; rw [yj3]; simp; omega
   unfold World.frozen?; simp [H, I]
theorem fS.alloc {w : World} {c : Array Value} {t : TypeId} : fS (w.alloc (.cells c t)) w.heap.size := ⟨c, t, 0, 0, by show (w.heap.push _)[w.heap.size]? = _; simp, .inl rfl⟩
theorem Ev.alloc (G : Gh) (w : World) (o : Obj) (I : ∀ β B x, G.prot β B x → B < w.heap.size) (H : ∃ c t, o = .cells c t := by exact ⟨_, _, rfl⟩) : Ev G w (w.alloc o) where
 size := by simp
 out := rfl
 os := rfl
 away B hb _ := eV hb
 some B j h := by rw [CI (En h)]; exact h
 prot β B j h := CI (I β B j h)
 fz B o _ := by obtain ⟨c, t, rfl⟩ := H; exact BS w c t _
 tape := rfl
theorem Ev.drew (G : Gh) (w : World) : Ev G w w.drew := Ev.of_eq rfl rfl rfl rfl
theorem dG {w : World} {B B' : Nat} (h : B' ≠ B) : ∀ (vs : List Value) (o : Nat) (w : World), (w.setCells B o vs).heap[B']? = w.heap[B']?
 | [], _, _ => rfl
 | v :: r, o, w => by
  rw [World.setCells, dG (w := w) h r]
  exact heap_setCell_other w ⟨B, o, none⟩ B' v h
theorem kF {B : Nat} : ∀ (vs : List Value) (o : Nat) (w : World), (w.setCells B o vs).heap.size = w.heap.size
 | [], _, _ => rfl
 | v :: r, o, w => by rw [World.setCells, kF r]; simp
theorem qH {B : Nat} : ∀ (vs : List Value) (o : Nat) (w : World), (w.setCells B o vs).output = w.output ∧ (w.setCells B o vs).os = w.os
 | [], _, _ => ⟨rfl, rfl⟩
 | v :: r, o, w => by rw [World.setCells]; exact qH r _ _
theorem w5 {B : Nat} : ∀ (vs : List Value) (o : Nat) (w : World), (w.setCells B o vs).tape = w.tape
 | [], _, _ => rfl
 | v :: r, o, w => by rw [World.setCells]; exact w5 r _ _
theorem jK {w : World} {B o : Nat} {vs : List Value} (h : ∀ j, j < vs.length → (cl w B (o + j)).isSome = true) {j : Nat} (H : j < vs.length) :
  cl (w.setCells B o vs) B (o + j) = some vs[j] := World.cell?_setCells_in B vs o w h j H
theorem iL {w : World} {B o : Nat} {vs : List Value} {j : Nat} (h : j < o ∨ o + vs.length ≤ j) : cl (w.setCells B o vs) B j = cl w B j :=
 World.cell?_setCells_out B vs o w ⟨B, j, none⟩ (fun _ _ => h)
theorem BK {w : World} {B o : Nat} {vs : List Value} (h : ∀ j, j < vs.length → (cl w B (o + j)).isSome = true) {B' j : Nat} (hs : (cl w B' j).isSome = true) :
  (cl (w.setCells B o vs) B' j).isSome = true := by
 by_cases e : B' = B
 ·subst e
  by_cases H : j < o ∨ o + vs.length ≤ j
  ·rw [iL H]; exact hs
  ·obtain ⟨k, rfl⟩ : ∃ k, j = o + k := ⟨j - o, by omega⟩
   rw [jK h (by omega)]; rfl
 ·rw [cI (dG (w := w) e vs o w)]; exact hs
theorem CU {w : World} {B o : Nat} {vs : List Value} (a : Addr) : (w.setCells B o vs).frozen? a = w.frozen? a := World.frozen?_setCells B vs o w a
theorem fS.setCell {w : World} {B o : Nat} {v : Value} (h : fS w B) : fS (w.setCell ⟨B, o, none⟩ v) B := by
 obtain ⟨c, el, K, H, J, I⟩ := h
 refine ⟨c.setIfInBounds o v, el, K, H, ?_, by simpa using I⟩
 unfold World.setCell
 simp [yt2, J]
theorem fS.setCells {B : Nat} : ∀ {vs : List Value} {o : Nat} {w : World}, fS w B → fS (w.setCells B o vs) B
 | [], _, _, h => h
 | v :: r, o, w, h => by rw [World.setCells]; exact fS.setCells h.setCell
theorem Ev.setCells {G : Gh} {w : World} {B o : Nat} {vs : List Value} (hm : G.mine B) (h : ∀ j, j < vs.length → (cl w B (o + j)).isSome = true)
  (H : ∀ β j, ¬ G.prot β B j) : Ev G w (w.setCells B o vs) where
 size := by rw [kF]; exact yy _
 out := (qH vs o w).1
 os := (qH vs o w).2
 away B' hb hn := dG (w := w) (fun e : B' = B => hn (by rw [e]; exact hm)) vs o w
 some B' j hs := BK h hs
 prot β B' j hj := by
  by_cases e : B' = B
  ·subst e; exact absurd hj (H β j)
  ·exact cI (dG (w := w) e vs o w) j
 fz B o _ := CU _
 tape := w5 vs o w
theorem aF.make {G : Gh} {w : World} {mem : aH} {b : Nat} {row : Row} {c : Array Value} {t : TypeId} (hM : aF G w mem) (J : mem[b]? = some none)
  (V : 1 ≤ row.e) (hr : gI (G.put b 0 ⟨some w.heap.size, row.e, row.len⟩) (w.alloc (.cells c t)) w.heap.size row) (H : ∀ i U B', ¬ cP (w.alloc (.cells c t)) w.heap.size row i U B') :
  aF (G.put b 0 ⟨some w.heap.size, row.e, row.len⟩) (w.alloc (.cells c t)) (mem.set b (some { gen := 0, frz := false, row })) := by
 have M : b < mem.length := by
  rcases yc2 b mem.length with h | h
  ·exact h
  ·rw [ya1 h] at J; cases J
 have I : ∀ g, G.loc b g = none := fun g => hM.unset b g (fun x N => by rw [J] at N; cases N)
 have K := Ev.alloc G w (.cells c t) hM.away
 refine hM.upd (x' := { gen := 0, frz := false, row }) K M (.inl (I 0)) ⟨fun B' h => eV (hM.other h).2.1, fun B hB h => ?_, fun B hB i c B' h => ?_, fun B hB i c i2 c2 B' h _ => ?_⟩ (fun g _ => I g) ?_
 ·simp only [Option.some.injEq] at hB; subst hB
  exact Nat.lt_irrefl _ (hM.other h).2.1
 ·simp only [Option.some.injEq] at hB; subst hB
  exact absurd h (H i c B')
 ·simp only [Option.some.injEq] at hB; subst hB
  exact absurd h (H i c B')
 ·refine ⟨V, some w.heap.size, by simp [Gh.put], hM.own _ (yy _), by simp, fS.alloc, hr, fun _ β o O => ?_⟩
  ·exact absurd (hM.away β _ o O) (Nat.lt_irrefl _)
theorem aF.ev {G : Gh} {w M : World} {mem : aH} (hM : aF G w mem) (I : Ev G w M) (hs : M.heap.size = w.heap.size ∨ w.heap.size ≤ M.heap.size)
  (H : ∀ B, B < w.heap.size → M.heap[B]? = w.heap[B]?) : aF G M mem where
 box b x h := by
  have Z := hM.box b x h
  obtain ⟨o, W, hm⟩ := Z.loc
  refine ⟨Z.e, o, W, ?_⟩
  cases o with
  | none => exact hm
  | some B =>
   obtain ⟨O, K, V, N, U⟩ := hm
   have Y := H B K
   have hB : eK G b x B := ⟨_, W, rfl⟩
   exact ⟨O, yh1 K I.size, V.of_heap Y, N.mono (c8.refl G) I (fun o _ => cI Y o) (fun i c B' J => ⟨.of (H B' (hM.inn h hB J).2.1), (hM.inn h hB J).2.2.2⟩), U⟩
 unset := hM.unset
 gens := hM.gens
 apart := hM.apart
 inA b b' x x' B i c B' h k J h' := hM.inA b b' x x' B i c B' h k (J.same fun o => cI (H B (hM.blk h k).2.2.1) o) h'
 inB b b' x x' B C i c i' c' B' h k J h' k' hi' := hM.inB b b' x x' B C i c i' c' B' h k (J.same fun o => cI (H B (hM.blk h k).2.2.1) o) h' k' (hi'.same fun o => cI (H C (hM.blk h' k').2.2.1) o)
 own B h := hM.own B (ya2 I.size h)
 lab := hM.lab
 away β B o h := yh1 (hM.away β B o h) I.size
 glob := hM.glob.mono (fun _ _ h => h) (I.prot true)
end Go.Ab
end
section
namespace Go.Ab
variable [b4]
theorem aA {α : Type} {c : Bool} {x : Option α} {y : α} : guardB c x = some y ↔ c = true ∧ x = some y := by
 cases c <;> simp [guardB]
theorem jL {a b : IntKind} : gK a b = true ↔ a = b := by cases a <;> cases b <;> simp [gK]
section
variable {P : Program}
def kB (P : Program) (G : Gh) (w : World) (mem : aH) (o : Oper) (a : Act) (out : dE) : Prop :=
 ∃ G' w' nx cv, (execOp a.eval o).run P w = .ok nx w' ∧ (nx = .value cv ∨ (nx = .skip ∧ cv = undef)) ∧ VR G' w' out.v cv ∧ c8 G G' ∧ Ev G w w' ∧ aF G' w' (out.apply mem)
theorem FS (v : AV) (rd : List Nat) (mem : aH) : ({ v, rd } : dE).apply mem = mem := by simp [dE.apply, aJ]
theorem kB.pure {G : Gh} {w : World} {mem : aH} {o : Oper} {a : Act} {v : AV} {rd : List Nat} {cv : Value} (hM : aF G w mem)
  (H : (execOp a.eval o).run P w = .ok (.value cv) w) (I : VR G w v cv) : kB P G w mem o a { v, rd } :=
 ⟨G, w, .value cv, cv, H, .inl rfl, I, c8.refl G, Ev.refl G w, by rw [FS]; exact hM⟩
def Ny (G : Gh) (w : World) (ρ : Operand → Option AV) (a : Act) : Prop := ∀ x v, ρ x = some v → VR G w v (a.eval x)
theorem VR.lit_inv {G : Gh} {w : World} {v cv : Value} (h : VR G w (.lit v) cv) : cv = v := by cases h; rfl
theorem HK (w : World) {t : TypeId} (a b : Bool) (h : P.underlying t = some .bool) : (binOp .eql t (.bool a) (.bool b)).run P w = .ok (.bool (a == b)) w := by
 have : (Op.equal t (.bool a) (.bool b)).run P w = .ok (a == b) w := run_equalIn_bool w 9999 t a b h
 simp only [binOp]; simp [this]
theorem G9 (w : World) {t : TypeId} (a b : Bool) (h : P.underlying t = some .bool) : (binOp .neq t (.bool a) (.bool b)).run P w = .ok (.bool (!(a == b))) w := by
 have : (Op.equal t (.bool a) (.bool b)).run P w = .ok (a == b) w := run_equalIn_bool w 9999 t a b h
 simp only [binOp]; simp [this]
theorem KA {op : BinOp} {t : TypeId} {x y : Operand} {a b r : Value} {w : World} (H : Ej P t a b = true) (h : pG op a b = some r) :
  (eqGuard op t x y a b).run P w = .ok () w ∧ (binOp op t a b).run P w = .ok r w := by
 unfold pG at h
 split at h
 ·rename_i k a k' b
  refine ⟨by rw [eqGuard_at_int]; rfl, ?_⟩
  split at h <;> simp only [aA, Option.some.injEq, decide_eq_true_eq, yq, beq_eq_false_iff_ne, ne_eq] at h
  ·obtain ⟨K, rfl⟩ := h
   simp [binOp, Op.shift, Int.not_lt.2 K]
  ·obtain ⟨K, rfl⟩ := h
   simp [binOp, Op.shift, Int.not_lt.2 K]
  all_goals
   first
   | (obtain ⟨I, J, rfl⟩ := h; rw [jL] at I; subst I; simp [binOp, Op.intDiv, J])
   | (obtain ⟨I, rfl⟩ := h; rw [jL] at I; subst I; simp [binOp, Op.intArith, Op.intBits, Op.intCmp])
 ·rename_i a b
  have J : P.underlying t = some .bool := by
   simp only [Ej, Id] at H
   split at H <;> simp_all
  refine ⟨by rw [eqGuard_at_bool]; rfl, ?_⟩
  split at h <;> simp only [Option.some.injEq, reduceCtorEq] at h
  ·subst h; exact HK w a b J
  ·subst h; exact G9 w a b J
 ·rename_i a b
  refine ⟨by rw [eqGuard_at_string]; rfl, ?_⟩
  split at h <;> simp only [Option.some.injEq, reduceCtorEq] at h
  ·subst h; simp [binOp, Op.stringOp]
  ·subst h; simp [binOp, Op.stringOp]
 ·simp at h
theorem Ga {op : BinOp} {a b r : Value} (h : pG op a b = some r) : j7 r = true := by
 unfold pG at h
 repeat' split at h
 all_goals (simp only [aA, Option.some.injEq, reduceCtorEq] at h)
 all_goals first
  | (subst h; rfl)
  | (obtain ⟨_, rfl⟩ := h; rfl)
  | (obtain ⟨_, _, rfl⟩ := h; rfl)
theorem Hy {op : UnOp} {a r : Value} (h : GH op a = some r) : j7 r = true := by
 unfold GH at h
 split at h <;> simp only [Option.some.injEq, reduceCtorEq] at h <;> subst h <;> rfl
theorem M5 {op : UnOp} {a r : Value} {w : World} (h : GH op a = some r) : (Op.unary op a).run P w = .ok r w := by
 unfold GH at h
 split at h <;> simp only [Option.some.injEq, reduceCtorEq] at h <;> subst h <;> simp [Op.unary, Op.intArith, Op.intBits]
theorem Cs {t : TypeId} {d : TypeDesc} (I : P.underlying t = some d) (h1 : ∀ fs, d ≠ .struct fs) (h2 : ∀ n e, d ≠ .array n e) {cs : Array Value} {o : Nat} {v : Value} (J : cs[o]? = some v) (w : World) :
  (part t cs o).run P w = .ok v w := by
 have H : (isAgg t).run P w = .ok false w := by
  simp only [isAgg, Sem.run_bind, run_underlying I, Result.andThen_ok]
  rfl
 simp only [part, Sem.run_bind, H, Result.andThen_ok, yi2, if_false, J]
 rfl
theorem Hd (d : Nat) (G : Gh) (w : World) : ∀ (fs : List Field) (n : Nat) (xs I : List AV) (as bs : List Value) (A B : Array Value) (r : Bool),
  (xs.length = as.length ∧ ∀ (j : Nat) (y : AV), xs[j]? = some y → VR G w y (as.getD j undef)) → (I.length = bs.length ∧ ∀ (j : Nat) (y : AV), I[j]? = some y → VR G w y (bs.getD j undef)) →
  (∀ j : Nat, j < as.length → A[n + j]? = as[j]?) → (∀ j : Nat, j < bs.length → B[n + j]? = bs[j]?) → kE P fs n xs I = some r →
  (Op.eqFields (d + 1) A B fs).run P w = .ok r w := by
 intro fs
 induction fs with
 | nil =>
  intro n xs I as bs A B r _ _ _ _ h
  cases xs <;> cases I <;> simp [kE] at h
  subst h
  simp [Op.eqFields]
 | cons f fs ih =>
  intro n xs I as bs A B r ha V hA hB h
  cases xs with
  | nil => simp [kE] at h
  | cons x xs =>
  cases I with
  | nil => simp [kE] at h
  | cons y I =>
  cases as with
  | nil => simp at ha
  | cons a as =>
  cases bs with
  | nil => simp at V
  | cons b bs =>
   have W := ha.2 0 x rfl
   have Y := V.2 0 y rfl
   simp only [List.getD_cons_zero] at W Y
   have ha' : xs.length = as.length ∧ ∀ (j : Nat) (y : AV), xs[j]? = some y → VR G w y (as.getD j undef) := ⟨by simpa using ha.1, fun j y hy => by simpa using ha.2 (j + 1) y (by simpa using hy)⟩
   have hb' : I.length = bs.length ∧ ∀ (j : Nat) (y : AV), I[j]? = some y → VR G w y (bs.getD j undef) := ⟨by simpa using V.1, fun j y hy => by simpa using V.2 (j + 1) y (by simpa using hy)⟩
   simp only [kE, aA, yb, bne_iff_ne, ne_eq] at h
   obtain ⟨⟨hn, H⟩, h⟩ := h
   have H := Nat.eq_of_beq_eq_true H
   obtain ⟨q, M, h⟩ := yd2.1 h
   obtain ⟨r', hr, rfl⟩ := yc.1 h
   have h0a : A[f.offset]? = some a := by rw [H]; simpa using hA 0 (by simp)
   have h0b : B[f.offset]? = some b := by rw [H]; simpa using hB 0 (by simp)
   have K : (Op.equalIn (d + 1) f.type a b).run P w = .ok q w ∧ ∃ Z, P.underlying f.type = some Z ∧ (∀ fs, Z ≠ .struct fs) ∧ (∀ n e, Z ≠ .array n e) := by
    unfold BI at M
    split at M
    ·rename_i k1 k x k' y J
     obtain ⟨hk, hq2⟩ := aA.1 M
     rw [jL] at hk; subst hk
     obtain rfl := W.lit_inv; obtain rfl := Y.lit_inv
     obtain rfl := ya hq2
     exact ⟨run_equalIn_int w d f.type k k1 x y J, _, J, by simp, by simp⟩
    ·rename_i x y J
     obtain rfl := W.lit_inv; obtain rfl := Y.lit_inv
     obtain rfl := ya M
     exact ⟨run_equalIn_bool w d f.type x y J, _, J, by simp, by simp⟩
    ·rename_i x y J
     obtain rfl := W.lit_inv; obtain rfl := Y.lit_inv
     obtain rfl := ya M
     exact ⟨run_equalIn_string w d f.type x y J, _, J, by simp, by simp⟩
    ·simp at M
   obtain ⟨hqr, Z, N, U, O⟩ := K
   have e1 : (Op.eqFields (d + 1) A B (f :: fs)).run P w = (if (!q) = true then (Pure.pure false : Sem Bool) else Op.eqFields (d + 1) A B fs).run P w := by
    simp only [Op.eqFields]
    rw [if_pos hn]
    simp only [Sem.run_bind, Cs N U O h0a, Cs N U O h0b, hqr, Result.andThen_ok]
   rw [e1]
   cases q with
   | false => rfl
   | true =>
    rw [yl3]
    refine Eq.trans ?_ <| ih (n + 1) xs I as bs A B r' ha' hb' (fun j hj => by have := hA (j + 1) (by simpa using hj); rw [show n + 1 + j = n + (j + 1) by omega]; simpa using this)
     (fun j hj => by have := hB (j + 1) (by simpa using hj); rw [show n + 1 + j = n + (j + 1) by omega]; simpa using this) hr
    rfl
theorem VR.agg_inv {G : Gh} {w : World} {cs : List AV} {cv : Value} (h : VR G w (.agg cs) cv) : ∃ cvs : Array Value, cv = .agg cvs ∧ nC G w cs cvs := by
 cases h with
 | agg _ cvs H h => exact ⟨cvs, rfl, H, h⟩
theorem x4 {G : Gh} {w : World} {t : TypeId} {xs J : List AV} {A B : Array Value} {r : Bool} (h : mA P t xs J = some r) (U : nC G w xs A) (K : nC G w J B) (x y : Operand) :
  (Op.equalIn 10000 t (.agg A) (.agg B)).run P w = .ok r w ∧ P.eqGuardType P.depth t = false := by
 unfold mA at h
 split at h
 ·rename_i fs N
  obtain ⟨H, h⟩ := aA.1 h
  simp only [yb, yq] at H
  have M : P.fieldsOf t = fs := by simp [Program.fieldsOf, N]
  refine ⟨?_, H.2⟩
  rw [show (10000 : Nat) = 9999 + 1 from rfl, run_equalIn_agg w 9999 t A B (by rw [M]; exact N) H.1, M]
  have O : ∀ (C : Array Value) (j : Nat), C.toList.getD j undef = C.getD j undef := by
   intro C j; simp [yi, yj]
  exact Hd 9998 G w fs.toList 0 xs J A.toList B.toList A B r ⟨by simpa using U.1, fun j y I => by rw [O]; exact U.2 j y I⟩ ⟨by simpa using K.1, fun j y I => by rw [O]; exact K.2 j y I⟩
   (fun j _ => by simp) (fun j _ => by simp) h
 ·simp at h
theorem VR.tree_slice {G : Gh} {w : World} {β : Bool} {p : PV} {I : Value} {e : Bool} (N : VR G w (.imm β p) I) (h : j5 p = some e) : ∃ a l c, I = .slice a l c ∧ (e = false → a.isNone = false) := by
 cases N with
 | imm _ _ _ M hs =>
  cases M with
  | lit _ _ => cases h
  | intsNil k a => simp only [j5, Option.some.injEq] at h; subst h; exact ⟨_, _, _, rfl, fun h => by cases h⟩
  | ints k xs B o cap H K => exact ⟨_, _, _, rfl, fun _ => rfl⟩
  | slNil k a => simp only [j5, Option.some.injEq] at h; subst h; exact ⟨_, _, _, rfl, fun h => by cases h⟩
  | sl e' xs B o cap cv he H J K h3 h4 => exact ⟨_, _, _, rfl, fun _ => rfl⟩
  | agg _ _ _ _ => cases h
 | unkB b => cases h
 | dead _ _ _ => cases h
theorem JK {t : TypeId} (h : zY P t = true) : ∃ e, P.underlying t = some (.slice e) := by
 unfold zY at h
 split at h
 ·rename_i e H; exact ⟨e, H⟩
 ·cases h
theorem fW {G : Gh} {w : World} (op : BinOp) (t : TypeId) (x y : Operand) (a b : Option Addr) (l c H I : Nat) : (eqGuard op t x y (.slice a l c) (.slice b H I)).run P w = .ok () w := by
 unfold eqGuard
 split <;> rfl
theorem CL {w : World} (d : Nat) {t e : TypeId} {a : Option Addr} {l c : Nat} (H : P.underlying t = some (.slice e)) : (Op.equalIn (d + 1) t (.slice a l c) (.slice none 0 0)).run P w = .ok a.isNone w := by
 cases a <;> simp [Op.equalIn, run_underlying H]
theorem l3 {G : Gh} {w : World} {op : BinOp} {t : TypeId} {a : Option Addr} {l c : Nat} (hs : zY P t = true) :
  (binOp .eql t (.slice a l c) (.slice none 0 0)).run P w = .ok (.bool a.isNone) w ∧ (binOp .neq t (.slice a l c) (.slice none 0 0)).run P w = .ok (.bool (!a.isNone)) w := by
 obtain ⟨e, H⟩ := JK hs
 have h : (Op.equal t (.slice a l c) (.slice none 0 0)).run P w = .ok a.isNone w := CL 9999 H
 constructor
 ·simp only [binOp, Sem.run_bind, h, Result.andThen_ok]; rfl
 ·simp only [binOp, Sem.run_bind, h, Result.andThen_ok]; rfl
theorem Ns {G : Gh} {w : World} {op : BinOp} {t : TypeId} {x y : Operand} {a b r : AV} {N U : Value} (h : rU P op t a b = some r) (H : VR G w a N) (I : VR G w b U) :
    ∃ cv, (eqGuard op t x y N U).run P w = .ok () w ∧ (binOp op t N U).run P w = .ok cv w ∧ VR G w r cv := by
  unfold rU at h
  split at h
  · rename_i β p
    obtain rfl := I.lit_inv
    split at h
    · obtain ⟨hs, h⟩ := aA.1 h
      obtain ⟨e, Z, rfl⟩ := yc.1 h
      obtain ⟨O, l, c, rfl, hn⟩ := H.tree_slice Z
      refine ⟨.bool O.isNone, fW (G := G) _ t x y _ _ _ _ _ _, (l3 (G := G) (op := .eql) hs).1, ?_⟩
      cases e with
      | true => exact .unkB _
      | false => rw [hn rfl]; exact .lit _ rfl
    · obtain ⟨hs, h⟩ := aA.1 h
      obtain ⟨e, Z, rfl⟩ := yc.1 h
      obtain ⟨O, l, c, rfl, hn⟩ := H.tree_slice Z
      refine ⟨.bool (!O.isNone), fW (G := G) _ t x y _ _ _ _ _ _, (l3 (G := G) (op := .neq) hs).2, ?_⟩
      cases e with
      | true => exact .unkB _
      | false => rw [hn rfl]; exact .lit _ rfl
    · cases h
  · obtain rfl := H.lit_inv; obtain rfl := I.lit_inv
    split at h
    · obtain ⟨hs, h⟩ := aA.1 h
      obtain rfl := ya h
      exact ⟨.bool true, fW (G := G) _ t x y _ _ _ _ _ _, (l3 (G := G) (op := .eql) hs).1, .lit _ rfl⟩
    · obtain ⟨hs, h⟩ := aA.1 h
      obtain rfl := ya h
      exact ⟨.bool false, fW (G := G) _ t x y _ _ _ _ _ _, (l3 (G := G) (op := .neq) hs).2, .lit _ rfl⟩
    · cases h
  · rename_i a b _
    obtain ⟨Y, h⟩ := aA.1 h
    obtain ⟨v, hv, rfl⟩ := yc.1 h
    obtain rfl := H.lit_inv; obtain rfl := I.lit_inv
    obtain ⟨J, K⟩ := KA (P := P) (x := x) (y := y) (w := w) Y hv
    exact ⟨v, J, K, .lit v (Ga hv)⟩
  · rename_i as bs
    obtain ⟨A, rfl, hA⟩ := H.agg_inv
    obtain ⟨B, rfl, hB⟩ := I.agg_inv
    split at h
    · obtain ⟨q, W, rfl⟩ := yc.1 h
      obtain ⟨J, K⟩ := x4 W hA hB x y
      exact ⟨.bool q, run_eqGuard_agg w _ t x y A B K, by rw [run_eql_struct, J]; rfl, .lit _ rfl⟩
    · obtain ⟨q, W, rfl⟩ := yc.1 h
      obtain ⟨J, K⟩ := x4 W hA hB x y
      exact ⟨.bool (!q), run_eqGuard_agg w _ t x y A B K, by rw [run_neq_struct, J]; rfl, .lit _ rfl⟩
    · simp at h
  all_goals first
    | (simp at h; done)
    | (obtain rfl := I.lit_inv
       have hp : ∃ p, N = .pointer (some p) := by cases H <;> exact ⟨_, rfl⟩
       obtain ⟨p, rfl⟩ := hp
       split at h
       · obtain ⟨M, h⟩ := aA.1 h
         have V : P.underlying t = some (.pointer (P.pointee t)) := by
           unfold GG at M; split at M <;> simp_all [Program.pointee]
         simp only [Option.some.injEq] at h; subst h
         exact ⟨.bool false, by rw [eqGuard_at_pointer]; rfl, by rw [run_eql_pointer_nil w t _ V]; rfl, .lit _ rfl⟩
       · obtain ⟨M, h⟩ := aA.1 h
         have V : P.underlying t = some (.pointer (P.pointee t)) := by
           unfold GG at M; split at M <;> simp_all [Program.pointee]
         simp only [Option.some.injEq] at h; subst h
         exact ⟨.bool true, by rw [eqGuard_at_pointer]; rfl, by rw [run_neq_pointer_nil w t _ V]; rfl, .lit _ rfl⟩
       · simp at h)
end
end Go.Ab
end
section
namespace Go.Ab
variable [b4]
section
variable {P : Program}
theorem bind_some {α β : Type} {x : Option α} {f : α → Option β} {y : β} : x.bind f = some y ↔ ∃ a, x = some a ∧ f a = some y := yd2
theorem By {α : Type} {c : Bool} {a b : α} : (bif c then some a else none) = some b ↔ c = true ∧ a = b := by cases c <;> simp
theorem bJ {a b : Nat} : Nat.beq a b = true ↔ a = b := ⟨Nat.eq_of_beq_eq_true, fun h => by subst h; exact yp3 a⟩
theorem cU {a b : Nat} : Nat.ble a b = true ↔ a ≤ b := by rw [Nat.ble_eq]
theorem wQ {t : TypeId} {b : Bool} (h : isAgg? P t = some b) (w : World) : (isAgg t).run P w = .ok b w := by
 unfold isAgg? at h
 split at h
 ·rename_i d; simp only [isAgg, Sem.run_bind, run_underlying d, Result.andThen_ok]; obtain rfl := ya h; rfl
 ·rename_i d; simp only [isAgg, Sem.run_bind, run_underlying d, Result.andThen_ok]; obtain rfl := ya h; rfl
 ·rename_i H I J d
  obtain rfl := ya h
  simp only [isAgg, Sem.run_bind, run_underlying d, Result.andThen_ok]
  cases H <;> first | rfl | exact absurd rfl (I _) | exact absurd rfl (J _ _)
 ·simp at h
theorem N3 {t : TypeId} {n : Nat} (h : iN P t = some n) : ∃ i, P.info? t = some i ∧ i.size = n := by
 unfold iN at h
 obtain ⟨i, H, hn⟩ := yc.1 h
 exact ⟨i, H, hn⟩
theorem eD {t : TypeId} {n : Nat} (h : iN P t = some n) (w : World) : (sizeOf t).run P w = .ok n w := by
 obtain ⟨i, H, rfl⟩ := N3 h
 simp [sizeOf, typeInfo, H]
theorem dA (B o n : Nat) : (⟨B, o, none⟩ : Addr).add n = ⟨B, o + n, none⟩ := by
 unfold Addr.add; split <;> simp_all
theorem lI {t : TypeId} {n B o : Nat} (I : isAgg? P t = some true) (hn : iN P t = some n) {w : World} (f : Nat → Value) (h : ∀ j, j < n → cl w B (o + j) = some (f j)) :
  (loadVar t ⟨B, o, none⟩).run P w = .ok (.agg ((List.range n).map f).toArray) w := by
 have H := run_loadCells (P := P) w ⟨B, o, none⟩ n f (fun j J => by rw [dA]; exact h j J)
 simp only [loadVar, Sem.run_bind, wQ I, eD hn, Result.andThen_ok, if_true, H, Sem.run_pure]
theorem iM {t : TypeId} {B o : Nat} (H : isAgg? P t = some false) {w : World} {v : Value} (h : cl w B o = some v) :
  (loadVar t ⟨B, o, none⟩).run P w = .ok v w := by
 have I : w.cell? ⟨B, o, none⟩ = some v := h
 simp only [loadVar, Sem.run_bind, wQ H, Result.andThen_ok, yi2, if_false, run_load, I]
theorem PR.lit_inv {w : World} {H : Nat → Nat → Prop} {v cv : Value} (h : PR w H (.lit v) cv) : cv = v := by cases h; rfl
theorem pU {G : Gh} {w : World} {β : Bool} {l : LK} {q : PV} {a : AV} {v : Value} (h : fT β l q = some a) (J : PR w (G.prot β) q v) : VR G w a v := by
 unfold fT at h
 split at h
 ·rw [bind_some] at h; obtain ⟨x, H, h⟩ := h
  obtain rfl := ya h
  unfold PV.int? at H
  split at H
  ·rename_i K n
   rw [By] at H; obtain ⟨I, H⟩ := H
   subst H; rw [jL] at I; subst I
   rw [J.lit_inv]; exact .lit _ rfl
  ·simp at H
 ·rw [bind_some] at h; obtain ⟨x, H, h⟩ := h
  obtain rfl := ya h
  unfold PV.bool? at H
  split at H
  ·obtain rfl := ya H
   rw [J.lit_inv]; exact .lit _ rfl
  ·simp at H
 ·rw [bind_some] at h; obtain ⟨x, H, h⟩ := h
  obtain rfl := ya h
  unfold PV.str? at H
  split at H
  ·obtain rfl := ya H
   rw [J.lit_inv]; exact .lit _ rfl
  ·simp at H
 ·rw [bind_some] at h; obtain ⟨x, H, h⟩ := h
  obtain rfl := ya h
  unfold PV.ints? at H
  split at H
  ·rename_i K xs
   rw [By] at H; obtain ⟨I, H⟩ := H
   subst H; rw [jL] at I; subst I
   exact .imm β _ v J rfl
  ·simp at H
 ·rw [bind_some] at h; obtain ⟨x, H, h⟩ := h
  obtain rfl := ya h
  unfold PV.sl? at H
  split at H
  ·rename_i e' xs
   rw [By] at H; obtain ⟨I, H⟩ := H
   subst H; rw [bJ] at I; subst I
   exact .imm β _ v J rfl
  ·simp at H
theorem mO {G : Gh} {w : World} {β : Bool} {cs : List PV} : ∀ {ls : List LK} {c : Nat} {as : List AV}, gA β cs ls c = some as →
  as.length = ls.length ∧ ∀ (f : Nat → Value), (∀ (j : Nat) (y : PV), cs[c + j]? = some y → j < ls.length → PR w (G.prot β) y (f j)) →
   (∀ j, j < ls.length → ∃ y, cs[c + j]? = some y) ∧ ∀ (j : Nat) (y : AV), as[j]? = some y → VR G w y (f j)
 | [], c, as, h => by
  simp [gA] at h; subst h
  exact ⟨rfl, fun f _ => ⟨fun j I => absurd I (by simp), fun j y H => by simp at H⟩⟩
 | l :: r, c, as, h => by
  simp only [gA] at h
  rw [bind_some] at h; obtain ⟨q, M, h⟩ := h
  rw [bind_some] at h; obtain ⟨a, Y, h⟩ := h
  rw [bind_some] at h; obtain ⟨V, J, h⟩ := h
  obtain rfl := ya h
  obtain ⟨N, O⟩ := mO (G := G) (w := w) J
  refine ⟨by simp [N], fun f K => ?_⟩
  obtain ⟨W, U⟩ := O (fun j => f (j + 1)) (fun j y H I => K (j + 1) y (by rw [show c + (j + 1) = c + 1 + j by omega]; exact H) (by simpa using I))
  refine ⟨fun j I => ?_, fun j y H => ?_⟩
  ·cases j with
   | zero => exact ⟨q, M⟩
   | succ j => obtain ⟨y, H⟩ := W j (by simpa using I); exact ⟨y, by rw [show c + (j + 1) = c + 1 + j by omega]; exact H⟩
  ·cases j with
   | zero => simp at H; subst H; exact pU Y (K 0 q M (by simp))
   | succ j => exact U j y (by simpa using H)
theorem G6 {G : Gh} {w : World} {β : Bool} {t : TypeId} {p : PV} {c B o : Nat} {a : AV} {cv : Nat → Value} (h : L4 P β t p c = some a)
  (U : ∀ j y, p.cells[j]? = some y → cl w B (o + j) = some (cv j)) (hr : ∀ j y, p.cells[j]? = some y → PR w (G.prot β) y (cv j)) :
  ∃ v, (loadVar t ⟨B, o + c, none⟩).run P w = .ok v w ∧ VR G w a v := by
 unfold L4 at h
 split at h
 ·rename_i H
  rw [bind_some] at h; obtain ⟨ls, Z, h⟩ := h
  rw [bind_some] at h; obtain ⟨n, hn, h⟩ := h
  rw [aA] at h; obtain ⟨N, h⟩ := h
  obtain rfl := bJ.1 N
  rw [bind_some] at h; obtain ⟨as, M, h⟩ := h
  obtain rfl := ya h
  obtain ⟨J, Y⟩ := mO (G := G) (w := w) M
  obtain ⟨V, W⟩ := Y (fun j => cv (c + j)) (fun j y I _ => hr _ y I)
  refine ⟨_, lI H hn (fun j => cv (c + j)) (fun j K => ?_), .agg _ _ (by simp [J]) fun j y I => ?_⟩
  ·obtain ⟨y, I⟩ := V j K
   rw [show o + c + j = o + (c + j) by omega]; exact U _ y I
  ·have K : j < ls.length := by rw [← J]; exact (yd.1 I).1
   have := W j y I
   simpa [yj, K] using this
 ·rename_i H
  rw [bind_some] at h; obtain ⟨l, J, h⟩ := h
  rw [bind_some] at h; obtain ⟨q, O, h⟩ := h
  exact ⟨cv c, iM H (U c q O), pU h (hr c q O)⟩
 ·simp at h
theorem box?_some {mem : aH} {b g : Nat} {x : a9} (h : box? mem b g = some x) : mem[b]? = some (some x) ∧ x.gen = g := by
 unfold box? at h
 split at h
 ·rename_i y e
  cases H : Nat.beq y.gen g <;> cases I : y.row.isOwn <;> simp [H, I] at h
  subst h; exact ⟨e, bJ.1 H⟩
 ·simp at h
theorem box?_own {mem : aH} {b g : Nat} {x : a9} (h : box? mem b g = some x) : x.row.isOwn = false := by
 unfold box? at h
 split at h
 ·rename_i y e
  cases I : Nat.beq y.gen g <;> cases H : y.row.isOwn <;> simp [I, H] at h
  subst h; exact H
 ·simp at h
theorem boxO?_some {mem : aH} {b g : Nat} {x : a9} (h : boxO? mem b g = some x) : mem[b]? = some (some x) ∧ x.gen = g ∧ x.row.isOwn = true := by
 unfold boxO? at h
 split at h
 ·rename_i y e
  cases I : Nat.beq y.gen g <;> cases H : y.row.isOwn <;> simp [I, H] at h
  subst h; exact ⟨e, bJ.1 I, H⟩
 ·simp at h
theorem aF.at_ptr' {G : Gh} {w : World} {mem : aH} (hM : aF G w mem) {b g i c : Nat} {x : a9} {cv : Value} (hm : mem[b]? = some (some x)) (H : x.gen = g) (h : VR G w (.ptr b g i c) cv) :
  ∃ B, cv = .pointer (some ⟨B, i * x.row.e + c, none⟩) ∧ G.loc b g = some ⟨some B, x.row.e, x.row.len⟩ ∧ G.mine B ∧ B < w.heap.size ∧
   fS w B ∧ gI G w B x.row ∧ (x.frz = false → ∀ β o, ¬ G.prot β B o) := by
 subst H
 have J := hM.box b x hm
 obtain ⟨o, I, hr⟩ := J.loc
 cases h with
 | ptr _ _ _ _ L B hL hB =>
  rw [I] at hL
  obtain rfl := ya hL
  simp only at hB; subst hB
  obtain ⟨K, M, O, N, U⟩ := hr
  exact ⟨B, rfl, I, K, M, O, N, U⟩
theorem aF.at_ptr {G : Gh} {w : World} {mem : aH} (hM : aF G w mem) {b g i c : Nat} {x : a9} {cv : Value} (H : box? mem b g = some x) (h : VR G w (.ptr b g i c) cv) :
  ∃ B, cv = .pointer (some ⟨B, i * x.row.e + c, none⟩) ∧ G.loc b g = some ⟨some B, x.row.e, x.row.len⟩ ∧ G.mine B ∧ B < w.heap.size ∧
   fS w B ∧ gI G w B x.row ∧ (x.frz = false → ∀ β o, ¬ G.prot β B o) := hM.at_ptr' (box?_some H).1 (box?_some H).2 h
theorem CB {G : Gh} {w : World} {mem : aH} {t : TypeId} {a : AV} {out : dE} {cv : Value} (hM : aF G w mem) (h : i7 P t mem a = some out) (ha : VR G w a cv) :
  ∃ v rd, out = { v, rd } ∧ ∃ H, (Instr.loadAt t cv).run P w = .ok H w ∧ VR G w v H := by
 unfold i7 at h
 split at h
 ·rename_i β p c
  obtain ⟨v, O, rfl⟩ := yc.1 h
  refine ⟨v, [], rfl, ?_⟩
  cases ha with
  | el _ _ _ B o f h hr =>
   obtain ⟨H, U, J⟩ := G6 (P := P) (w := w) (o := o) (B := B) O (fun j y W => (h j y W).1) hr
   exact ⟨H, by simp [Instr.loadAt, Instr.sureAddr, U], J⟩
 ·rename_i b g i c
  rw [bind_some] at h; obtain ⟨x, hx, h⟩ := h
  obtain ⟨B, rfl, hl, hmine, hB, hfz, M, hpr⟩ := hM.at_ptr hx ha
  have V : ∀ H, (loadVar t ⟨B, i * x.row.e + c, none⟩).run P w = .ok H w → (Instr.loadAt t (.pointer (some ⟨B, i * x.row.e + c, none⟩))).run P w = .ok H w := by
   intro H hh; simp [Instr.loadAt, Instr.sureAddr, hh]
  obtain ⟨gen, frz, row⟩ := x
  split at h
  ·rename_i e cs I
   simp only at I; subst I
   rw [bind_some] at h; obtain ⟨ag, N, h⟩ := h
   obtain ⟨_, K⟩ := M
   cases ag with
   | true =>
    simp only [yl] at h
    rw [bind_some] at h; obtain ⟨n, hn, h⟩ := h
    rw [aA] at h; obtain ⟨hle, h⟩ := h
    have hle := cU.1 hle
    obtain rfl := ya h
    refine ⟨_, _, rfl, _, V _ (lI N hn (fun j => (cl w B (i * e + c + j)).getD undef) (fun j hj => ?_)), .agg _ _ ?_ ?_⟩
    ·obtain ⟨v, O, _, _⟩ := K (i * e + c + j) (cs[i * e + c + j]'(by omega)) (yf _)
     show cl w B _ = _
     simp only [Row.e]; rw [O]; rfl
    ·simp; omega
    ·intro j y W
     have hj : j < n := by have := (yd.1 W).1; simp at this; omega
     have hy' : cs[i * e + c + j]? = some y := by
      rw [yf1 hj, yz] at W; exact W
     obtain ⟨v, O, _, J⟩ := K _ y hy'
     simpa [yj, hj, O] using J
   | false =>
    simp only [yk] at h
    obtain ⟨v, O, rfl⟩ := yc.1 h
    obtain ⟨u, Y, _, J⟩ := K _ v O
    exact ⟨_, _, rfl, u, V _ (iM N Y), J⟩
  ·rename_i k xs I
   simp only at I; subst I
   rw [aA] at h; obtain ⟨hc0, h⟩ := h
   obtain rfl := bJ.1 hc0
   rw [aA] at h; obtain ⟨N, h⟩ := h
   obtain ⟨v, O, rfl⟩ := yc.1 h
   have hc := M i v O
   have Z : isAgg? P t = some false := by
    cases hh : isAgg? P t with
    | none => simp [hh] at N
    | some q => cases q <;> simp [hh] at N ⊢
   exact ⟨_, _, rfl, _, V _ (iM Z (by simpa [Row.e] using hc)), .lit _ rfl⟩
  ·rename_i β e xs I
   simp only at I; subst I
   rw [bind_some] at h; obtain ⟨p, hp, h⟩ := h
   obtain ⟨v, O, rfl⟩ := yc.1 h
   obtain ⟨_, K⟩ := M
   obtain ⟨H, U, J⟩ := G6 (P := P) (w := w) (G := G) (o := i * e) (B := B) (cv := fun j => (cl w B (i * e + j)).getD undef) O
    (fun j y W => by obtain ⟨u, Y, _, _⟩ := K i p j y hp W; rw [Y]; rfl)
    (fun j y W => by obtain ⟨u, Y, _, hpr⟩ := K i p j y hp W; rw [Y]; exact hpr)
   exact ⟨_, _, rfl, H, V _ U, J⟩
  ·simp at h
 ·simp at h
end
end Go.Ab
end
section
namespace Go.Ab
variable [b4]
section
variable {P : Program}
theorem BN {α : Type} {xs : List α} {i : Int} {v : α} (h : eC xs i = some v) : 0 ≤ i ∧ i.toNat < xs.length ∧ xs[i.toNat]? = some v := by
 unfold eC at h
 cases H : decide (0 ≤ i) <;> simp only [H, yl, yk, reduceCtorEq] at h
 exact ⟨of_decide_eq_true H, (yd.1 h).1, h⟩
theorem gH (k : IntKind) (i : Int) (w : World) : (asIntOf (.int k i)).run P w = .ok (k, i) w := rfl
theorem dS {t H : TypeId} {s B o len cap : Nat} {k : IntKind} {i : Int} (K : P.underlying t = some (.slice H)) (hs : iN P H = some s) (J : 0 ≤ i) (I : i < (len : Int)) (w : World) :
  (Instr.indexAt t (.slice (some ⟨B, o, none⟩) len cap) (.int k i)).run P w = .ok (.pointer (some ⟨B, o + i.toNat * s, none⟩)) w := by
 simp only [Instr.indexAt, Sem.run_bind, gH, Result.andThen_ok, run_underlying K, Sem.run_pure, J, I, and_self, if_true, eD hs, dA]
theorem Ai {t H : TypeId} {s B o n : Nat} {k : IntKind} {i : Int} (K : P.underlying t = some (.array n H)) (hs : iN P H = some s) (J : 0 ≤ i) (I : i < (n : Int)) (w : World) :
  (Instr.indexAt t (.pointer (some ⟨B, o, none⟩)) (.int k i)).run P w = .ok (.pointer (some ⟨B, o + i.toNat * s, none⟩)) w := by
 simp only [Instr.indexAt, Sem.run_bind, gH, Result.andThen_ok, run_underlying K, Sem.run_pure, J, I, and_self, if_true, eD hs, dA, Instr.sureAddr]
theorem aF.at_ms {G : Gh} {w : World} {mem : aH} (hM : aF G w mem) {b g o n : Nat} {x : a9} {cv : Value} (Y : box? mem b g = some x) (h : VR G w (.ms b g o n) cv) :
  (∃ B cap, cv = .slice (some ⟨B, o * x.row.e, none⟩) n cap ∧ n ≤ cap ∧ o + n ≤ x.row.len ∧ G.loc b g = some ⟨some B, x.row.e, x.row.len⟩ ∧ Bk w B ((o + cap) * x.row.e) ∧ G.mine B ∧ B < w.heap.size ∧
   fS w B ∧ gI G w B x.row ∧ (x.frz = false → ∀ β o, ¬ G.prot β B o)) ∨
  (cv = .slice none 0 0 ∧ o = 0 ∧ n = 0 ∧ x.row.len = 0 ∧ G.loc b g = some ⟨none, x.row.e, x.row.len⟩) ∨
  (∃ B J, cv = .slice (some ⟨B, J, none⟩) 0 0 ∧ 1 ≤ o ∧ n = 0 ∧ o ≤ x.row.len ∧ G.loc b g = some ⟨some B, x.row.e, x.row.len⟩) := by
 obtain ⟨hm, rfl⟩ := box?_some Y
 have K := hM.box b x hm
 obtain ⟨J, I, hr⟩ := K.loc
 cases h with
 | ms _ _ _ _ cap L B hL hB hn H V =>
  rw [I] at hL
  obtain rfl := ya hL
  simp only at hB; subst hB
  obtain ⟨M, N, U, O, W⟩ := hr
  exact .inl ⟨B, cap, rfl, hn, H, I, V, M, N, U, O, W⟩
 | msNil _ _ L hL hB =>
  rw [I] at hL
  obtain rfl := ya hL
  simp only at hB; subst hB
  exact .inr (.inl ⟨rfl, rfl, rfl, hr.1, I⟩)
 | msZ _ _ _ B J L hL hB Z H =>
  rw [I] at hL
  obtain rfl := ya hL
  simp only at hB; subst hB
  exact .inr (.inr ⟨B, J, rfl, Z, rfl, H, I⟩)
theorem aF.at_msw {G : Gh} {w : World} {mem : aH} (hM : aF G w mem) {b g : Nat} {x : a9} {cv : Value} (V : box? mem b g = some x) (h : VR G w (.msw b g) cv) :
  (∃ B cap, cv = .slice (some ⟨B, 0, none⟩) x.row.len cap ∧ x.row.len ≤ cap ∧ G.loc b g = some ⟨some B, x.row.e, x.row.len⟩ ∧ Bk w B (cap * x.row.e) ∧ G.mine B ∧ B < w.heap.size ∧
   fS w B ∧ gI G w B x.row ∧ (x.frz = false → ∀ β o, ¬ G.prot β B o)) ∨
  (cv = .slice none 0 0 ∧ x.row.len = 0 ∧ x.row.isCells = false ∧ G.loc b g = some ⟨none, x.row.e, x.row.len⟩) := by
 obtain ⟨hm, rfl⟩ := box?_some V
 have I := hM.box b x hm
 obtain ⟨oo, H, hr⟩ := I.loc
 cases h with
 | msw _ _ cap L B hL hB hn O =>
  rw [H] at hL
  obtain rfl := ya hL
  simp only at hB; subst hB
  obtain ⟨J, K, N, M, U⟩ := hr
  exact .inl ⟨B, cap, rfl, hn, H, O, J, K, N, M, U⟩
 | mswNil _ _ L hL hB hn =>
  rw [H] at hL
  obtain rfl := ya hL
  simp only at hB; subst hB
  exact .inr ⟨rfl, hr.1, hr.2, H⟩
theorem HS {G : Gh} {w : World} {mem : aH} {t : TypeId} {x : AV} {k : IntKind} {i : Int} {out : dE} {cv : Value} (hM : aF G w mem) (h : gV P t mem x i = some out) (Y : VR G w x cv) :
  ∃ v rd, out = { v, rd } ∧ ∃ V, (Instr.indexAt t cv (.int k i)).run P w = .ok V w ∧ VR G w v V := by
 unfold gV at h
 split at h
 ·rename_i et O
  rw [bind_some] at h; obtain ⟨s, hs, h⟩ := h
  split at h
  ·rename_i β kk xs
   rw [aA] at h; obtain ⟨H, h⟩ := h
   obtain rfl := bJ.1 H
   rw [bind_some] at h; obtain ⟨v, hv, h⟩ := h
   obtain rfl := ya h
   obtain ⟨M, I, Z⟩ := BN hv
   refine ⟨_, _, rfl, ?_⟩
   cases Y with
   | imm _ _ _ hp =>
    cases hp with
    | intsNil => simp at I
    | ints _ _ B o cap W hh =>
     refine ⟨_, dS O hs M (by omega) w, ?_⟩
     have := hh _ _ Z
     refine .el β _ 0 B (o + i.toNat * 1) (fun _ => .int kk v) (fun j y K => ?_) (fun j y K => ?_)
     ·cases j with
      | zero => simpa using this
      | succ j => simp [PV.cells] at K
     ·cases j with
      | zero => simp [PV.cells] at K; subst K; exact .lit _ rfl
      | succ j => simp [PV.cells] at K
  ·rename_i β e xs
   rw [aA] at h; obtain ⟨H, h⟩ := h
   obtain rfl := bJ.1 H
   rw [bind_some] at h; obtain ⟨v, hv, h⟩ := h
   obtain rfl := ya h
   obtain ⟨M, I, Z⟩ := BN hv
   refine ⟨_, _, rfl, ?_⟩
   cases Y with
   | imm _ _ _ hp =>
    cases hp with
    | slNil => simp at I
    | sl _ _ B o cap cv he W hlen hh h1' hr =>
     refine ⟨_, dS O hs M (by omega) w, ?_⟩
     exact .el β _ 0 B (o + i.toNat * s) (fun j => cv i.toNat j) (fun j y K => hh _ _ _ _ Z K) (fun j y K => hr _ _ _ _ Z K)
  ·rename_i b g o n
   rw [bind_some] at h; obtain ⟨bx, N, h⟩ := h
   rw [aA] at h; obtain ⟨J, h⟩ := h
   simp only [yb, decide_eq_true_eq] at J
   obtain ⟨⟨H, M⟩, I⟩ := J
   obtain rfl := bJ.1 H
   obtain rfl := ya h
   refine ⟨_, _, rfl, ?_⟩
   rcases hM.at_ms N Y with ⟨B, cap, rfl, hn, hon, U, _⟩ | ⟨rfl, rfl, rfl, _⟩ | ⟨B, oo, rfl, _, rfl, _⟩
   ·refine ⟨_, dS O hs M I w, ?_⟩
    have := VR.ptr (G := G) (w := w) b g (o + i.toNat) 0 _ B U rfl
    simpa [yk1] using this
   ·simp at I; omega
   ·simp at I; omega
  ·rename_i b g
   rw [bind_some] at h; obtain ⟨bx, N, h⟩ := h
   rw [aA] at h; obtain ⟨J, h⟩ := h
   simp only [yb, decide_eq_true_eq] at J
   obtain ⟨⟨H, M⟩, I⟩ := J
   obtain rfl := bJ.1 H
   obtain rfl := ya h
   refine ⟨_, _, rfl, ?_⟩
   rcases hM.at_msw N Y with ⟨B, cap, rfl, hn, U, _⟩ | ⟨rfl, hz, _⟩
   ·refine ⟨_, dS O hs M I w, ?_⟩
    have := VR.ptr (G := G) (w := w) b g i.toNat 0 _ B U rfl
    simpa using this
   ·rw [hz] at I; simp at I; omega
  ·simp at h
 ·rename_i n et O
  rw [bind_some] at h; obtain ⟨s, hs, h⟩ := h
  split at h
  ·rename_i b g j c
   rw [aA] at h; obtain ⟨J, h⟩ := h
   simp only [yb, decide_eq_true_eq] at J
   obtain rfl := ya h
   refine ⟨_, _, rfl, ?_⟩
   cases Y with
   | ptr _ _ _ _ L B U hb =>
    refine ⟨_, Ai O hs J.1 J.2 w, ?_⟩
    rw [yc3]
    exact .ptr b g j _ L B U hb
  ·simp at h
 ·simp at h
theorem iX {y d : Nat} {i : Option Int} {n : Nat} (h : zI y i d = some n) : (i = none ∧ n = d) ∨ (∃ z, i = some z ∧ 0 ≤ z ∧ z ≤ (y : Int) ∧ n = z.toNat) := by
 cases i with
 | none => exact .inl ⟨rfl, (ya h).symm⟩
 | some z =>
  simp only [zI] at h
  rw [aA] at h
  obtain ⟨H, h⟩ := h
  simp only [yb, decide_eq_true_eq] at H
  exact .inr ⟨z, rfl, H.1, H.2, (ya h).symm⟩
def m7 (o : Option Int) (v : Option Value) : Prop :=
 match o, v with
 | none, none => True
 | some i, some v => ∃ k, v = .int k i
 | _, _ => False
theorem b7 {isSlice : Bool} {len cap : Nat} {lo hi mx : Option Int} {M Y vm : Option Value} {l h : Nat} (H : fR len lo hi mx = some (l, h)) (hc : len ≤ cap)
  (W : m7 lo M) (hh : m7 hi Y) (hm : m7 mx vm) (w : World) :
  ∃ m, (Instr.sliceBounds isSlice len cap M Y vm).run P w = .ok (l, h, m) w ∧ l ≤ h ∧ h ≤ len ∧ h ≤ m ∧ m ≤ cap := by
 unfold fR at H
 rw [aA] at H; obtain ⟨hg, H⟩ := H
 rw [bind_some] at H; obtain ⟨m, h1, H⟩ := H
 rw [bind_some] at H; obtain ⟨h', h2, H⟩ := H
 rw [bind_some] at H; obtain ⟨l', h3, H⟩ := H
 simp only [Option.some.injEq, Prod.mk.injEq] at H
 obtain ⟨rfl, rfl⟩ := H
 rcases iX h1 with ⟨rfl, rfl⟩ | ⟨O, rfl, Z, zm1, rfl⟩
 ·have : vm = none := by cases vm <;> simp_all [m7]
  subst this
  rcases iX h2 with ⟨rfl, rfl⟩ | ⟨I, rfl, J, zh1, rfl⟩
  ·have : Y = none := by cases Y <;> simp_all [m7]
   subst this
   rcases iX h3 with ⟨rfl, rfl⟩ | ⟨zl, rfl, N, V, rfl⟩
   ·have : M = none := by cases M <;> simp_all [m7]
    subst this
    exact ⟨cap, by simp [Instr.sliceBounds], by omega, by omega, by omega, by omega⟩
   ·cases M with
    | none => simp [m7] at W
    | some v =>
     obtain ⟨k, rfl⟩ := W
     exact ⟨cap, by simp [Instr.sliceBounds, Instr.sliceBound, gH, N, V], by omega, by omega, by omega, by omega⟩
  ·cases Y with
   | none => simp [m7] at hh
   | some v =>
    obtain ⟨k, rfl⟩ := hh
    have K : I ≤ (cap : Int) := by omega
    rcases iX h3 with ⟨rfl, rfl⟩ | ⟨zl, rfl, N, V, rfl⟩
    ·have : M = none := by cases M <;> simp_all [m7]
     subst this
     exact ⟨cap, by simp [Instr.sliceBounds, Instr.sliceBound, gH, J, K], by omega, by omega, by omega, by omega⟩
    ·cases M with
     | none => simp [m7] at W
     | some v =>
      obtain ⟨k, rfl⟩ := W
      have e : ((I.toNat : Nat) : Int) = I := by omega
      have U : zl ≤ I := by omega
      have mz : ¬ (max I 0 < zl) := by omega
      exact ⟨cap, by simp [Instr.sliceBounds, Instr.sliceBound, gH, J, K, N, e, U, mz], by omega, by omega, by omega, by omega⟩
 ·cases vm with
  | none => simp [m7] at hm
  | some v =>
   obtain ⟨km, rfl⟩ := hm
   have zm2 : O ≤ (cap : Int) := by omega
   have em : ((O.toNat : Nat) : Int) = O := by omega
   rcases iX h2 with ⟨rfl, rfl⟩ | ⟨I, rfl, J, zh1, rfl⟩
   ·simp at hg
   ·cases Y with
    | none => simp [m7] at hh
    | some v =>
     obtain ⟨k, rfl⟩ := hh
     have K : I ≤ O := by omega
     rcases iX h3 with ⟨rfl, rfl⟩ | ⟨zl, rfl, N, V, rfl⟩
     ·have : M = none := by cases M <;> simp_all [m7]
      subst this
      have mz : ¬ (max O 0 < I) := by omega
      exact ⟨O.toNat, by simp [Instr.sliceBounds, Instr.sliceBound, gH, J, K, Z, zm2, em, mz], by omega, by omega, by omega, by omega⟩
     ·cases M with
      | none => simp [m7] at W
      | some v =>
       obtain ⟨k, rfl⟩ := W
       have e : ((I.toNat : Nat) : Int) = I := by omega
       have U : zl ≤ I := by omega
       have mz : ¬ (max O 0 < I) := by omega
       have mz2 : ¬ (max I 0 < zl) := by omega
       have mp : I ≤ max O 0 := by omega
       have mp2 : zl ≤ max I 0 := by omega
       exact ⟨O.toNat, by simp [Instr.sliceBounds, Instr.sliceBound, gH, J, K, Z, zm2, em, N, e, U, mz, mz2, mp, mp2], by omega, by omega, by omega, by omega⟩
end
end Go.Ab
end
section
namespace Go.Ab
variable [b4]
section
variable {P : Program}
def O3 (G : Gh) (w : World) (P : Program) (s : Sem Value) (out : dE) : Prop := out.wr = [] ∧ out.push = [] ∧ ∃ cv, s.run P w = .ok cv w ∧ VR G w out.v cv
theorem aU {t I : TypeId} {s : Nat} (N : P.underlying t = some (.slice I)) (hs : iN P I = some s) {a : Option Addr} {len cap : Nat} {J H K : Option Value} {l h m : Nat} {w : World}
  (M : (Instr.sliceBounds true len cap J H K).run P w = .ok (l, h, m) w) :
  (Instr.sliceAt t (.slice a len cap) J H K).run P w = .ok (.slice (if m = l then a else a.map (·.add (l * s))) (h - l) (m - l)) w := by
 simp only [Instr.sliceAt, Instr.slice, Sem.run_bind, run_underlying N, Result.andThen_ok, M, eD hs, Sem.run_pure]
theorem A8 {t : TypeId} (K : P.underlying t = some .string) {s : ByteArray} {I H : Option Value} {l h m : Nat} {w : World}
  (J : (Instr.sliceBounds false s.size s.size I H none).run P w = .ok (l, h, m) w) :
  (Instr.sliceAt t (.string s) I H none).run P w = .ok (.string (s.extract l h)) w := by
 simp [Instr.sliceAt, Instr.slice, run_underlying K, J]
theorem CK {t I : TypeId} {s n B o : Nat} (N : P.underlying t = some (.array n I)) (hs : iN P I = some s) {J H K : Option Value} {l h m : Nat} {w : World}
  (M : (Instr.sliceBounds false n n J H K).run P w = .ok (l, h, m) w) :
  (Instr.sliceAt t (.pointer (some ⟨B, o, none⟩)) J H K).run P w = .ok (.slice (some (if m = l then ⟨B, o, none⟩ else ⟨B, o + l * s, none⟩)) (h - l) (m - l)) w := by
 simp only [Instr.sliceAt, Instr.sureAddr, Sem.run_bind, run_underlying N, Result.andThen_ok, M, eD hs, Sem.run_pure, dA]
theorem kH {α : Type} {xs : List α} {l h i : Nat} {x : α} (H : ((xs.take h).drop l)[i]? = some x) : xs[l + i]? = some x ∧ l + i < h := by
 rw [yz] at H
 have I : l + i < h := by
  rcases yc2 (l + i) h with J | J
  ·exact J
  ·rw [ya1 (by simp; omega)] at H; cases H
 exact ⟨by rw [yf1 I] at H; exact H, I⟩
theorem Az {G : Gh} {w : World} {b g o n cap l h m : Nat} {B e N : Nat} (H : G.loc b g = some ⟨some B, e, N⟩) (J : Bk w B ((o + cap) * e)) (V : o + n ≤ N)
  (h1 : l ≤ h) (h2 : h ≤ n) (h3 : h ≤ m) (h4 : m ≤ cap) :
  VR G w (.ms b g (o + l) (h - l)) (.slice (if m = l then (some ⟨B, o * e, none⟩ : Option Addr) else (some (⟨B, o * e, none⟩ : Addr)).map (·.add (l * e))) (h - l) (m - l)) := by
 have K : Bk w B ((o + l + (m - l)) * e) := fun j U => J j (yh1 U (yz1 _ (by omega)))
 by_cases I : m = l
 ·rw [if_pos I]
  have W : h - l = 0 := by omega
  have O : m - l = 0 := by omega
  rw [W, O]
  by_cases M : l = 0
  ·subst M
   rw [O] at K
   exact .ms b g o 0 0 _ B H rfl (by omega) (by simp; omega) (by simpa using K)
  ·exact .msZ b g (o + l) B _ _ H rfl (by omega) (by simp; omega)
 ·rw [if_neg I]
  simp only [yg, dA]
  have := VR.ms (G := G) (w := w) b g (o + l) (h - l) (m - l) _ B H rfl (by omega) (by simp; omega) K
  simpa [yk1] using this
theorem HD {G : Gh} {w : World} {mem : aH} {t : TypeId} {x : AV} {lo hi mx : Option Int} {vl vh vm : Option Value} {out : dE} {cv : Value} (hM : aF G w mem) (h : fU P t mem x lo hi mx = some out) (I : VR G w x cv)
  (hl : m7 lo vl) (hh : m7 hi vh) (hm : m7 mx vm) : O3 G w P (Instr.sliceAt t cv vl vh vm) out := by
 unfold fU at h
 split at h
 ·rename_i V
  split at h
  ·rename_i s
   rw [aA] at h; obtain ⟨hmx, h⟩ := h
   obtain ⟨⟨l, K⟩, M, rfl⟩ := yc.1 h
   obtain rfl := I.lit_inv
   have : mx = none := by cases mx <;> simp_all
   subst this
   have : vm = none := by cases vm <;> simp_all [m7]
   subst this
   obtain ⟨m, hr, _⟩ := b7 (P := P) (isSlice := false) M (yy _) hl hh hm w
   exact ⟨rfl, rfl, _, A8 V hr, .lit _ rfl⟩
  ·simp at h
 ·rename_i et V
  rw [bind_some] at h; obtain ⟨s, hs, h⟩ := h
  split at h
  ·rename_i β k xs
   rw [aA] at h; obtain ⟨N, h⟩ := h
   obtain rfl := bJ.1 N
   obtain ⟨⟨l, K⟩, M, rfl⟩ := yc.1 h
   cases I with
   | imm _ _ _ hp =>
    cases hp with
    | intsNil _ a =>
     obtain ⟨m, hr, W, U, Z, Y⟩ := b7 (P := P) (isSlice := true) (cap := 0) M (by simp) hl hh hm w
     refine ⟨rfl, rfl, _, aU V hs (a := a) (len := 0) (cap := 0) hr, ?_⟩
     simp at U
     obtain rfl : l = 0 := by omega
     obtain rfl : K = 0 := by omega
     obtain rfl : m = 0 := by omega
     exact .imm β _ _ (by simpa using PR.intsNil k _) rfl
    | ints _ _ B o cap hcap hh' =>
     obtain ⟨m, hr, W, U, Z, Y⟩ := b7 (P := P) (isSlice := true) (cap := cap) M hcap hl hh hm w
     refine ⟨rfl, rfl, _, aU V hs hr, .imm β _ _ ?_ rfl⟩
     have J : ((xs.take K).drop l).length = K - l := by simp; omega
     by_cases hml : m = l
     ·have : (xs.take K).drop l = [] := yo (by omega)
      rw [if_pos hml, this, show K - l = ([] : List Int).length by simp; omega]
      exact .ints k [] B o _ (by simp) (fun i x I => by simp at I)
     ·rw [if_neg hml, ← J]
      simp only [yg, dA, ye3]
      refine .ints k _ B (o + l) _ (by rw [J]; omega) (fun i x I => ?_)
      obtain ⟨I, _⟩ := kH I
      rw [yc3]; exact hh' _ _ I
  ·rename_i β e xs
   rw [aA] at h; obtain ⟨N, h⟩ := h
   obtain rfl := bJ.1 N
   obtain ⟨⟨l, K⟩, M, rfl⟩ := yc.1 h
   cases I with
   | imm _ _ _ hp =>
    cases hp with
    | slNil _ a =>
     obtain ⟨m, hr, W, U, Z, Y⟩ := b7 (P := P) (isSlice := true) (cap := 0) M (by simp) hl hh hm w
     refine ⟨rfl, rfl, _, aU V hs (a := a) (len := 0) (cap := 0) hr, ?_⟩
     simp at U
     obtain rfl : l = 0 := by omega
     obtain rfl : K = 0 := by omega
     obtain rfl : m = 0 := by omega
     exact .imm β _ _ (by simpa using PR.slNil s _) rfl
    | sl _ _ B o cap cv he hcap hlen0 hh' h1' hr' =>
     obtain ⟨m, hr, W, U, Z, Y⟩ := b7 (P := P) (isSlice := true) (cap := cap) M hcap hl hh hm w
     refine ⟨rfl, rfl, _, aU V hs hr, .imm β _ _ ?_ rfl⟩
     have J : ((xs.take K).drop l).length = K - l := by simp; omega
     by_cases hml : m = l
     ·have : (xs.take K).drop l = [] := yo (by omega)
      rw [if_pos hml, this, show K - l = ([] : List PV).length by simp; omega]
      exact .sl s [] B o _ cv he (by simp) (fun x I => by simp at I) (fun i x c y I => by simp at I) (fun i x c y I => by simp at I) (fun i x c y I => by simp at I)
     ·rw [if_neg hml, ← J]
      simp only [yg, dA]
      refine .sl s _ B (o + l * s) _ (fun i c => cv (l + i) c) he (by rw [J]; omega) (fun x I => hlen0 x (yy2 (List.mem_of_mem_drop I))) (fun i x c y I hy => ?_) (fun i x c y I hy => h1' _ _ _ _ (kH I).1 hy) (fun i x c y I hy => ?_)
      ·obtain ⟨I, _⟩ := kH I
       have := hh' _ _ _ _ I hy
       rw [show o + l * s + i * s + c = o + (l + i) * s + c by rw [yk1]; omega]; exact this
      ·obtain ⟨I, _⟩ := kH I
       exact hr' _ _ _ _ I hy
  ·rename_i b g o n
   rw [bind_some] at h; obtain ⟨bx, hbx, h⟩ := h
   rw [aA] at h; obtain ⟨N, h⟩ := h
   obtain rfl := bJ.1 N
   obtain ⟨⟨l, K⟩, M, rfl⟩ := yc.1 h
   rcases hM.at_ms hbx I with ⟨B, cap, rfl, hn, hon, H, O, _⟩ | ⟨rfl, rfl, rfl, hz, H⟩ | ⟨B, oo, rfl, ho, rfl, hon, H⟩
   ·obtain ⟨m, hr, W, U, Z, Y⟩ := b7 (P := P) (isSlice := true) (cap := cap) M hn hl hh hm w
    exact ⟨rfl, rfl, _, aU V hs hr, Az H O hon W U Z Y⟩
   ·obtain ⟨m, hr, W, U, Z, Y⟩ := b7 (P := P) (isSlice := true) (cap := 0) M (by simp) hl hh hm w
    refine ⟨rfl, rfl, _, aU V hs (a := none) hr, ?_⟩
    obtain rfl : l = 0 := by omega
    obtain rfl : K = 0 := by omega
    obtain rfl : m = 0 := by omega
    exact .msNil b g _ H rfl
   ·obtain ⟨m, hr, W, U, Z, Y⟩ := b7 (P := P) (isSlice := true) (cap := 0) M (by simp) hl hh hm w
    refine ⟨rfl, rfl, _, aU V hs hr, ?_⟩
    obtain rfl : l = 0 := by omega
    obtain rfl : K = 0 := by omega
    obtain rfl : m = 0 := by omega
    exact .msZ b g o B oo _ H rfl ho hon
  ·rename_i b g
   rw [bind_some] at h; obtain ⟨bx, hbx, h⟩ := h
   rw [aA] at h; obtain ⟨N, h⟩ := h
   obtain rfl := bJ.1 N
   obtain ⟨⟨l, K⟩, M, rfl⟩ := yc.1 h
   rcases hM.at_msw hbx I with ⟨B, cap, rfl, hn, H, O, _⟩ | ⟨rfl, hz, _, H⟩
   ·obtain ⟨m, hr, W, U, Z, Y⟩ := b7 (P := P) (isSlice := true) (cap := cap) M hn hl hh hm w
    have := Az (o := 0) (n := bx.row.len) H (by simpa using O) (by simp) W U Z Y
    exact ⟨rfl, rfl, _, aU V hs hr, by simpa using this⟩
   ·rw [hz] at M
    obtain ⟨m, hr, W, U, Z, Y⟩ := b7 (P := P) (isSlice := true) (cap := 0) M (by simp) hl hh hm w
    refine ⟨rfl, rfl, _, aU V hs (a := none) hr, ?_⟩
    obtain rfl : l = 0 := by omega
    obtain rfl : K = 0 := by omega
    obtain rfl : m = 0 := by omega
    exact .msNil b g _ H rfl
  ·obtain ⟨⟨l, K⟩, M, rfl⟩ := yc.1 h
   obtain rfl := I.lit_inv
   obtain ⟨m, hr, W, U, Z, Y⟩ := b7 (P := P) (isSlice := true) (cap := 0) M (by simp) hl hh hm w
   refine ⟨rfl, rfl, _, aU V hs (a := none) hr, ?_⟩
   obtain rfl : l = 0 := by omega
   obtain rfl : K = 0 := by omega
   obtain rfl : m = 0 := by omega
   exact .lit _ rfl
  ·simp at h
 ·rename_i n et V
  rw [bind_some] at h; obtain ⟨s, hs, h⟩ := h
  split at h
  ·rename_i b g c
   rw [aA] at h; obtain ⟨N, h⟩ := h
   obtain rfl := bJ.1 N
   rw [bind_some] at h; obtain ⟨bx, hbx, h⟩ := h
   obtain ⟨B, rfl, H, hmine, hB, hfz, hrow, hpr⟩ := hM.at_ptr hbx I
   obtain ⟨gen, frz, row⟩ := bx
   split at h
   ·rename_i cs hrw
    simp only at hrw; subst hrw
    rw [aA] at h; obtain ⟨hle, h⟩ := h
    have hle := cU.1 hle
    obtain ⟨⟨l, K⟩, M, rfl⟩ := yc.1 h
    obtain ⟨m, hr, W, U, Z, Y⟩ := b7 (P := P) (isSlice := false) (cap := n) M (yy _) hl hh hm w
    have O : Bk w B ((c + n) * 1) := fun j hj => by
     obtain ⟨v, hv, _⟩ := hrow.2 j (cs[j]'(by omega)) (yf _)
     rw [hv]; rfl
    have J : (Row.cells 1 cs).len = cs.length := rfl
    have := Az (o := c) (n := n) H O (by rw [J]; exact hle) W U Z Y
    refine ⟨rfl, rfl, _, CK V hs hr, ?_⟩
    simp only [Row.e, ye3, yd3, yc1, dA, yg] at this ⊢
    split
    ·rename_i e; simpa [e] using this
    ·rename_i e; simpa [e] using this
   ·simp at h
  ·simp at h
 ·simp at h
end
end Go.Ab
end
section
namespace Go.Ab
variable [b4]
section
variable {P : Program}
theorem It {G : Gh} {w : World} {mem : aH} {t ty : TypeId} {x : AV} {n : Nat × List Nat} {cv : Value} (hM : aF G w mem) (h : lenOf P t mem x = some n) (I : VR G w x cv) :
  (Builtin.len_ #[t] ty #[cv]).run P w = .ok (.int .i64 (n.1 : Int)) w := by
 unfold lenOf at h
 split at h
 ·rename_i K
  split at h
  ·obtain rfl := ya h
   obtain rfl := I.lit_inv
   simp [Builtin.len_, run_underlying K, goInt]
  ·simp at h
 ·rename_i et K
  have H : ∀ (a : Option Addr) (l c : Nat), (Builtin.len_ #[t] ty #[.slice a l c]).run P w = .ok (.int .i64 (l : Int)) w := by
   intro a l c; simp [Builtin.len_, run_underlying K, goInt]
  split at h
  ·obtain rfl := ya h
   cases I with | imm _ _ _ J => cases J <;> exact H _ _ _
  ·obtain rfl := ya h
   cases I with | imm _ _ _ J => cases J <;> exact H _ _ _
  ·obtain rfl := ya h
   cases I <;> exact H _ _ _
  ·obtain ⟨bx, M, rfl⟩ := yc.1 h
   rcases hM.at_msw M I with ⟨B, cap, rfl, _⟩ | ⟨rfl, N, _⟩
   ·exact H _ _ _
   ·rw [H]; simp [N]
  ·obtain rfl := ya h
   obtain rfl := I.lit_inv
   exact H _ _ _
  ·simp at h
 ·simp at h
theorem vR {G : Gh} {w : World} {f : Int → Int → Int} {k : IntKind} {op : Value → Value → Sem Value} (J : ∀ a b, (op (.int k a) (.int k b)) = pure (.int k (f a b))) :
  ∀ {xs : List AV} {vs : List Value} {a r : Int}, kS f k xs a = some r → (xs.length = vs.length ∧ ∀ (j : Nat) (y : AV), xs[j]? = some y → VR G w y (vs.getD j undef)) →
   (vs.foldlM op (.int k a)).run P w = .ok (.int k r) w := by
 intro xs
 induction xs with
 | nil =>
  intro vs a r h H
  simp [kS] at h; subst h
  have := yo H.1.symm
  subst this; rfl
 | cons x xs O =>
  intro vs a r h H
  cases vs with
  | nil => simp at H
  | cons v vs =>
   have M := H.2 0 x rfl
   simp only [List.getD_cons_zero] at M
   have K : xs.length = vs.length ∧ ∀ (j : Nat) (y : AV), xs[j]? = some y → VR G w y (vs.getD j undef) := ⟨by simpa using H.1, fun j y U => by simpa using H.2 (j + 1) y (by simpa using U)⟩
   unfold kS at h
   split at h
   ·simp_all
   ·rename_i k' b r' a' I
    simp only [List.cons.injEq] at I
    obtain ⟨rfl, rfl⟩ := I
    rw [aA] at h; obtain ⟨N, h⟩ := h
    rw [jL] at N; subst N
    obtain rfl := M.lit_inv
    rw [List.foldlM_cons, J]
    simp only [Sem.run_bind, Sem.run_pure, Result.andThen_ok]
    exact O h K
   ·simp at h
theorem d9 (C : Array Value) (j : Nat) : C.toList.getD j undef = C.getD j undef := by
 simp [yi, yj]
theorem x3 {s : TypeId} {f : Nat} {q : Nat × Nat × TypeId} (h : kZ P s f = some q) :
  ∃ fs x, P.underlying s = some (.struct fs) ∧ fs[f]? = some x ∧ x.offset = q.1 ∧ iN P x.type = some q.2.1 ∧ x.type = q.2.2 ∧ 1 ≤ q.2.1 := by
 unfold kZ at h
 split at h
 ·rename_i fs J
  rw [bind_some] at h; obtain ⟨x, H, h⟩ := h
  rw [bind_some] at h; obtain ⟨n, hn, h⟩ := h
  rw [aA] at h; obtain ⟨I, h⟩ := h
  obtain rfl := ya h
  exact ⟨fs, x, J, H, rfl, hn, rfl, cU.1 I⟩
 ·simp at h
theorem B6 {s : TypeId} {f : Nat} {q : Nat × Nat × TypeId} (h : kZ P s f = some q) (B o : Nat) (w : World) :
  (Instr.fieldAt s (.pointer (some ⟨B, o, none⟩)) f).run P w = .ok (.pointer (some ⟨B, o + q.1, none⟩)) w := by
 obtain ⟨fs, x, K, I, J, hn, ht, h1⟩ := x3 h
 have H : ¬ (q.2.1 = 0) := by omega
 simp only [Instr.fieldAt, Sem.run_bind, run_underlying K, Result.andThen_ok, I, Instr.sureAddr, Sem.run_pure, fieldPlace, eD hn, H, if_false, dA, J]
theorem Jh {t : TypeId} {n : Nat} {ag : Bool} (H : isAgg? P t = some ag) (hn : iN P t = some n) {cs : Array Value} {o : Nat} (w : World) (I : ag = true ∨ o < cs.size) :
  (part t cs o).run P w = .ok (if ag = true then .agg (cs.extract o (o + n)) else cs.getD o undef) w := by
 cases ag with
 | true => simp only [part, Sem.run_bind, wQ H, Result.andThen_ok, if_true, eD hn, Sem.run_pure]
 | false =>
  have J : o < cs.size := by rcases I with h | h; cases h; exact h
  simp only [part, Sem.run_bind, wQ H, Result.andThen_ok, yi2, if_false, yl1 J, Sem.run_pure, yj, Option.getD_some]
theorem Hj {G : Gh} {w : World} {s : TypeId} {f : Nat} {q : Nat × Nat × TypeId} {cs : List AV} {cv : Value} {ag : Bool} {v : AV} (h : kZ P s f = some q) (K : isAgg? P q.2.2 = some ag)
  (hx : VR G w (.agg cs) cv) (I : (bif ag then guardB (Nat.ble (q.1 + q.2.1) cs.length) (some (AV.agg ((cs.drop q.1).take q.2.1))) else cs[q.1]?) = some v) :
  ∃ M, (Instr.field s cv f).run P w = .ok M w ∧ VR G w v M := by
 obtain ⟨fs, x, Z, N, ho, hn, ht, h1⟩ := x3 h
 obtain ⟨cvs, rfl, W, V⟩ := hx.agg_inv
 rw [← ht] at K
 have J : ∀ (H : ag = true ∨ q.1 < cvs.size), (Instr.field s (.agg cvs) f).run P w = .ok (if ag = true then .agg (cvs.extract q.1 (q.1 + q.2.1)) else cvs.getD q.1 undef) w := by
  intro H
  have := Jh (P := P) K hn (cs := cvs) (o := q.1) w H
  simp only [Instr.field, Sem.run_bind, run_underlying Z, Result.andThen_ok, N, asAgg, Sem.run_pure, ho, this]
 cases ag with
 | true =>
  simp only [yl] at I
  rw [aA] at I; obtain ⟨H, I⟩ := I
  have H := cU.1 H
  obtain rfl := ya I
  refine ⟨_, J (.inl rfl), ?_⟩
  rw [if_pos rfl]
  refine .agg _ _ (by simp; omega) fun j y O => ?_
  have Y : j < q.2.1 := by have := (yd.1 O).1; simp at this; omega
  rw [yf1 Y, yz] at O
  have := V _ y O
  have U : q.1 + j < cvs.size := by omega
  simp only [yj] at this ⊢
  rw [Array.getElem?_extract]
  rw [if_pos (by omega)]
  exact this
 | false =>
  simp only [yk] at I
  have U := (yd.1 I).1
  exact ⟨_, J (.inr (by omega)), by simpa using V _ v I⟩
theorem GI {ρ : Operand → Option AV} : ∀ {xs : List Operand} {vs : List AV}, m6 ρ xs = some vs → vs.length = xs.length ∧ ∀ (j : Nat) (y : AV), vs[j]? = some y → ∃ x, xs[j]? = some x ∧ ρ x = some y
 | [], vs, h => by simp [m6] at h; subst h; exact ⟨rfl, fun j y H => by simp at H⟩
 | x :: r, vs, h => by
  simp only [m6] at h
  rw [bind_some] at h; obtain ⟨v, N, h⟩ := h
  obtain ⟨M, I, rfl⟩ := yc.1 h
  obtain ⟨J, K⟩ := GI I
  refine ⟨by simp [J], fun j y H => ?_⟩
  cases j with
  | zero => simp at H; subst H; exact ⟨x, rfl, N⟩
  | succ j => simpa using K j y (by simpa using H)
theorem AT {G : Gh} {w : World} {ρ : Operand → Option AV} {a : Act} (N : Ny G w ρ a) {xs : Array Operand} {vs : List AV} (h : m6 ρ xs.toList = some vs) : nC G w vs (xs.map a.eval) := by
 obtain ⟨J, K⟩ := GI h
 refine ⟨by simpa using J, fun j y I => ?_⟩
 obtain ⟨x, M, O⟩ := K j y I
 have H : xs[j]? = some x := by simpa using M
 have hj := (ym2.1 H).1
 have := N x y O
 simp only [yj, Array.getElem?_map, H, yg, Option.getD_some]
 exact this
theorem Cp {ρ : Operand → Option AV} : ∀ {xs : List (Nat × Operand)} {vs : List (Nat × AV)}, kC ρ xs = some vs →
  vs.length = xs.length ∧ ∀ (j : Nat) (q : Nat × AV), vs[j]? = some q → ∃ x, xs[j]? = some (q.1, x) ∧ ρ x = some q.2
 | [], vs, h => by simp [kC] at h; subst h; exact ⟨rfl, fun j y J => by simp at J⟩
 | (i, x) :: r, vs, h => by
  simp only [kC] at h
  rw [bind_some] at h; obtain ⟨v, O, h⟩ := h
  obtain ⟨N, H, rfl⟩ := yc.1 h
  obtain ⟨K, M⟩ := Cp H
  refine ⟨by simp [K], fun j q I => ?_⟩
  cases j with
  | zero => simp at I; subst I; exact ⟨x, rfl, O⟩
  | succ j => simpa using M j q (by simpa using I)
def gW (G : Gh) (w : World) (as : List AV) (vs : List Value) : Prop := as.length = vs.length ∧ ∀ (j : Nat) (y : AV), as[j]? = some y → VR G w y (vs.getD j undef)
def Pf (G : Gh) (w : World) (ps : List (Nat × AV)) (qs : List (Nat × Value)) : Prop := ps.length = qs.length ∧ ∀ (j : Nat) (p : Nat × AV), ps[j]? = some p → ∃ v, qs[j]? = some (p.1, v) ∧ VR G w p.2 v
theorem yX {G : Gh} {w : World} {ρ : Operand → Option AV} {a : Act} (M : Ny G w ρ a) {xs : Array (Nat × Operand)} {vs : List (Nat × AV)} (h : kC ρ xs.toList = some vs) :
  Pf G w vs (xs.map fun (i, x) => (i, a.eval x)).toList := by
 obtain ⟨I, J⟩ := Cp h
 refine ⟨by simpa using I, fun j q O => ?_⟩
 obtain ⟨x, K, N⟩ := J j q O
 refine ⟨a.eval x, ?_, M x _ N⟩
 have H : xs[j]? = some (q.1, x) := by simpa using K
 simp [H]
theorem gW.set {G : Gh} {w : World} {as : List AV} {vs : List Value} (h : gW G w as vs) {i : Nat} {a : AV} {v : Value} (J : VR G w a v) : gW G w (as.set i a) (vs.set i v) := by
 refine ⟨by simp [h.1], fun j y H => ?_⟩
 by_cases e : j = i
 ·subst e
  have I : j < as.length := by have := (yd.1 H).1; simpa using this
  rw [yw I] at H
  simp at H; subst H
  rw [yi, yw (by rw [← h.1]; exact I)]; exact J
 ·rw [yp (fun x => e x.symm)] at H
  rw [yi, yp (fun x => e x.symm), ← yi]; exact h.2 j y H
def a6 : List Value → Nat → List Value → List Value
 | cs, _, [] => cs
 | cs, i, v :: r => a6 (cs.set i v) (i + 1) r
theorem gW.setCells {G : Gh} {w : World} : ∀ {xs : List AV} {I : List Value} {as : List AV} {vs : List Value} {i : Nat}, gW G w as vs → gW G w xs I → gW G w (setCells as i xs) (a6 vs i I)
 | [], I, as, vs, i, h, H => by
  have := yo H.1.symm
  subst this; exact h
 | x :: xs, [], as, vs, i, h, H => by simp [gW] at H
 | x :: xs, y :: I, as, vs, i, h, H => by
  have J := H.2 0 x rfl
  simp only [List.getD_cons_zero] at J
  simp only [Go.Ab.setCells, a6]
  exact gW.setCells (h.set J) ⟨by simpa using H.1, fun j z K => by simpa using H.2 (j + 1) z (by simpa using K)⟩
theorem lH {as : List AV} : ∀ {xs : List AV} {i : Nat} {as : List AV}, (setCells as i xs).length = as.length
 | [], i, as => rfl
 | x :: xs, i, as => by rw [Go.Ab.setCells, lH (as := as)]; simp
theorem gU : ∀ {xs : List Value} {i : Nat} {as : List Value}, (a6 as i xs).length = as.length
 | [], i, as => rfl
 | x :: xs, i, as => by rw [a6, gU]; simp
theorem Bi : ∀ (vs : List Value) (H n : Nat) (cs : Array Value), ((vs.zipIdx n).foldl (fun cs (c, j) => cs.setIfInBounds (H + j) c) cs).toList = a6 cs.toList (H + n) vs
 | [], H, n, cs => rfl
 | v :: vs, H, n, cs => by
  simp only [List.zipIdx_cons, List.foldl_cons, a6]
  rw [Bi vs H (n + 1)]
  simp [yc3]
theorem gW.one {G : Gh} {w : World} {a : AV} {v : Value} (h : VR G w a v) : gW G w [a] [v] :=
 ⟨rfl, fun j y H => by cases j with | zero => simp at H; subst H; exact h | succ j => simp at H⟩
theorem VR.cells {G : Gh} {w : World} {a : AV} {v : Value} (h : VR G w a v) : gW G w a.cells v.cells.toList := by
 cases h with
 | agg cs cvs J h => exact ⟨by simpa [AV.cells, Value.cells] using J, fun j y hy => by simp only [Value.cells]; rw [d9]; exact h j y (by simpa [AV.cells] using hy)⟩
 | lit v U =>
  have : v.cells = #[v] := by cases v <;> first | rfl | simp [j7] at U
  rw [this]; exact gW.one (.lit v U)
 | imm β p v h hs =>
  have : v.cells = #[v] := by cases h <;> first | rfl | simp [PV.isSl] at hs
  rw [this]; exact gW.one (.imm β p v h hs)
 | unkB b => exact gW.one (.unkB b)
 | dead v O N =>
  have : v.cells = #[v] := by cases v <;> first | rfl | simp [j7] at N
  rw [this]; exact gW.one (.dead v O N)
 | ptr b g i c L B H I => exact gW.one (.ptr b g i c L B H I)
 | ms b g o n cap L B H I hn K M => exact gW.one (.ms b g o n cap L B H I hn K M)
 | msNil b g L H I => exact gW.one (.msNil b g L H I)
 | msZ b g o B Z L H I ho K => exact gW.one (.msZ b g o B Z L H I ho K)
 | msw b g cap L B H I hn M => exact gW.one (.msw b g cap L B H I hn M)
 | mswNil b g L H I hn => exact gW.one (.mswNil b g L H I hn)
 | el β p c B o cv h hr => exact gW.one (.el β p c B o cv h hr)
 | fn f W V fv cv O N M Y => exact gW.one (.fn f W V fv cv O N M Y)
 | tup cs cvs J h => exact gW.one (.tup cs cvs J h)
theorem y3 {G : Gh} {w : World} {J : Nat → Option (Nat × Nat)} : ∀ {ps : List (Nat × AV)} {qs : List (Nat × Value)} {cs I : List AV} {cvs : Array Value}, CG J cs ps = some I → gW G w cs cvs.toList → Pf G w ps qs →
  ∃ H, Instr.fill J cvs qs = some H ∧ gW G w I H.toList
 | [], qs, cs, I, cvs, h, O, K => by
  have := yo K.1.symm
  subst this
  simp [CG] at h; subst h
  exact ⟨cvs, rfl, O⟩
 | (i, v) :: r, [], cs, I, cvs, h, O, K => by simp [Pf] at K
 | (i, v) :: r, (i', u) :: qs, cs, I, cvs, h, O, K => by
  obtain ⟨u', Z, hv⟩ := K.2 0 (i, v) rfl
  simp only [yq2, Option.some.injEq, Prod.mk.injEq] at Z
  obtain ⟨rfl, rfl⟩ := Z
  simp only [CG] at h
  rw [bind_some] at h; obtain ⟨q, hq, h⟩ := h
  rw [aA] at h; obtain ⟨M, h⟩ := h
  simp only [yb] at M
  have h1 := bJ.1 M.1
  have h2 := cU.1 M.2
  have N := hv.cells
  have V : u.cells.size = q.2 := by rw [← h1]; simpa using N.1.symm
  have hcz : cs.length = cvs.size := by simpa using O.1
  have U : (u.cells.zipIdx.foldl (fun cs (c, j) => cs.setIfInBounds (q.1 + j) c) cvs).toList = a6 cvs.toList q.1 u.cells.toList := by
   have := Bi u.cells.toList q.1 0 cvs
   rw [ym1] at this
   rw [← this, ← Array.foldl_toList]
   simp
  obtain ⟨H, hf, Y⟩ := y3 (cvs := u.cells.zipIdx.foldl (fun cs (c, j) => cs.setIfInBounds (q.1 + j) c) cvs) h (by rw [U]; exact O.setCells N)
   ⟨by simpa using K.1, fun j p W => by simpa using K.2 (j + 1) p (by simpa using W)⟩
  refine ⟨H, ?_, Y⟩
  simp only [Instr.fill, hq]
  rw [if_neg (by simp [V]; omega)]
  exact hf
theorem Fw : ∀ {fs : List Field} {ps : List (Nat × Nat)}, places? P fs = some ps → ∀ w : World, (fs.mapM fun f => (do pure (f.offset, ← sizeOf f.type) : Sem (Nat × Nat))).run P w = .ok ps w
 | [], ps, h, w => by simp [places?] at h; subst h; rfl
 | f :: r, ps, h, w => by
  simp only [places?] at h
  rw [bind_some] at h; obtain ⟨n, hn, h⟩ := h
  obtain ⟨I, H, rfl⟩ := yc.1 h
  have J := Fw H w
  simp only [List.mapM_cons, Sem.run_bind, eD hn, Result.andThen_ok, Sem.run_pure, J]
theorem Lu {G : Gh} {w : World} : ∀ {vs : List Value} {as : List AV}, Ih vs = some as → gW G w as vs
 | [], as, h => by simp [Ih] at h; subst h; exact ⟨rfl, fun j y H => by simp at H⟩
 | v :: r, as, h => by
  simp only [Ih] at h
  rw [aA] at h; obtain ⟨M, h⟩ := h
  obtain ⟨K, I, rfl⟩ := yc.1 h
  have J := Lu (G := G) (w := w) I
  exact ⟨by simp [J.1], fun j y H => by
   cases j with
   | zero => simp at H; subst H; exact .lit v M
   | succ j => simpa using J.2 j y (by simpa using H)⟩
theorem k8 {G : Gh} {w : World} {v : Value} {a : AV} (h : yN v = some a) : VR G w a v := by
 unfold yN at h
 split at h
 ·rename_i cs
  obtain ⟨as, I, rfl⟩ := yc.1 h
  have := Lu (G := G) (w := w) I
  exact .agg as cs (by simpa using this.1) (fun j y J => by rw [← d9]; exact this.2 j y J)
 ·rename_i H
  obtain rfl := ya h
  exact .lit v (by cases v <;> first | rfl | exact absurd rfl (H _))
theorem j1 {t : TypeId} {z : AV} (h : zero? P t = some z) : ∃ i v, P.info? t = some i ∧ i.zero = some v ∧ yN v = some z := by
 unfold zero? at h
 rw [bind_some] at h; obtain ⟨v, H, h⟩ := h
 rw [bind_some] at H; obtain ⟨i, I, H⟩ := H
 exact ⟨i, v, I, H, h⟩
theorem Jf {t : TypeId} {z : AV} (h : zero? P t = some z) (G : Gh) (w : World) : ∃ v, (zeroValue t).run P w = .ok v w ∧ VR G w z v ∧ (∀ H, (zeroValue t).run P H = .ok v H) ∧ yN v = some z := by
 obtain ⟨i, v, I, K, J⟩ := j1 h
 exact ⟨v, by simp [zeroValue, typeInfo, I, K], k8 J, fun H => by simp [zeroValue, typeInfo, I, K], J⟩
theorem HF {G : Gh} {w : World} {t : TypeId} {ps : List (Nat × AV)} {qs : Array (Nat × Value)} {v : AV} (h : BB P t ps = some v) (Z : Pf G w ps qs.toList) :
  ∃ cv, (Instr.build t qs).run P w = .ok cv w ∧ VR G w v cv := by
 unfold BB at h
 rw [bind_some] at h; obtain ⟨z, hz, h⟩ := h
 obtain ⟨zv, I, J, _⟩ := Jf hz G w
 split at h
 ·rename_i fs U
  rw [bind_some] at h; obtain ⟨Y, O, h⟩ := h
  obtain ⟨cs, H, rfl⟩ := yc.1 h
  obtain ⟨cvs, N, K⟩ := y3 H J.cells Z
  refine ⟨.agg cvs, ?_, .agg cs cvs (by simpa using K.1) (fun j y V => by rw [← d9]; exact K.2 j y V)⟩
  have W : (fs.mapM fun f => (do pure (f.offset, ← sizeOf f.type) : Sem (Nat × Nat))).run P w = .ok Y.toArray w := by
   rw [Array.mapM_eq_mapM_toList, Sem.run_map, Fw O w]
   rfl
  have M : Instr.fill (fun i => Y.toArray[i]?) zv.cells qs.toList = some cvs := by rw [← N]; congr 1; funext i; simp
  simp only [Instr.build, Sem.run_bind, I, Result.andThen_ok, run_underlying U, W, M, Sem.run_pure]
 ·rename_i n e U
  rw [bind_some] at h; obtain ⟨s, hs, h⟩ := h
  obtain ⟨cs, H, rfl⟩ := yc.1 h
  obtain ⟨cvs, N, K⟩ := y3 H J.cells Z
  refine ⟨.agg cvs, ?_, .agg cs cvs (by simpa using K.1) (fun j y V => by rw [← d9]; exact K.2 j y V)⟩
  simp only [Instr.build, Sem.run_bind, I, Result.andThen_ok, run_underlying U, eD hs, N, Sem.run_pure]
 ·simp at h
end
end Go.Ab
end
