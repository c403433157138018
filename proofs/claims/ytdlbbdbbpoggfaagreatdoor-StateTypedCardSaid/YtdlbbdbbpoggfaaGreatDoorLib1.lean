/- The evaluator. -/
import Derived.Orders
import Derived.Laws.Sem
import Derived.WalkKit
import Derived.Deep.AppendSrc
set_option linter.unusedVariables false
set_option linter.unusedSectionVars false
set_option linter.unusedSimpArgs false
section
namespace Go.Ab
theorem ya : type_of% @Option.bind_some := @Option.bind_some
theorem yb : type_of% @Option.some.inj := @Option.some.inj
theorem yc : type_of% @Bool.and_eq_true := @Bool.and_eq_true
theorem yd : type_of% @List.getElem?_eq_getElem := @List.getElem?_eq_getElem
theorem ye : type_of% @cond_false := @cond_false
theorem yf : type_of% @Option.map_eq_some_iff := @Option.map_eq_some_iff
theorem yg : type_of% @cond_true := @cond_true
theorem yh : type_of% @List.getElem?_eq_some_iff := @List.getElem?_eq_some_iff
theorem yi : type_of% @List.length_append := @List.length_append
theorem yj : type_of% @List.mem_of_getElem? := @List.mem_of_getElem?
theorem yk : type_of% @List.mem_cons_of_mem := @List.mem_cons_of_mem
theorem yl : type_of% @List.getD_eq_getElem?_getD := @List.getD_eq_getElem?_getD
theorem ym : type_of% @Array.getD_eq_getD_getElem? := @Array.getD_eq_getD_getElem?
theorem yn : type_of% @List.mem_cons_self := @List.mem_cons_self
theorem yo : type_of% @Option.map_some := @Option.map_some
theorem yp : type_of% @List.eq_nil_of_length_eq_zero := @List.eq_nil_of_length_eq_zero
theorem yq : type_of% @List.getElem?_append_left := @List.getElem?_append_left
theorem yt : type_of% @List.getElem?_append_right := @List.getElem?_append_right
theorem yu : type_of% @Bool.true_and := @Bool.true_and
theorem yw : type_of% @Bool.not_true := @Bool.not_true
theorem yx : type_of% @List.all_eq_true := @List.all_eq_true
theorem yy : type_of% @Bool.not_eq_true' := @Bool.not_eq_true'
theorem yz : type_of% @Nat.le_refl := @Nat.le_refl
theorem ya1 : type_of% @List.getElem?_eq_none := @List.getElem?_eq_none
theorem yb1 : type_of% @Int.toNat_natCast := @Int.toNat_natCast
theorem yc1 : type_of% @List.cons.inj := @List.cons.inj
theorem yd1 : type_of% @List.getElem?_drop := @List.getElem?_drop
theorem ye1 : type_of% @List.length_cons := @List.length_cons
theorem yf1 : type_of% @List.getElem?_set_self := @List.getElem?_set_self
theorem yg1 : type_of% @List.getElem?_set_ne := @List.getElem?_set_ne
theorem yh1 : type_of% @List.getElem?_map := @List.getElem?_map
theorem yi1 : type_of% @List.getElem?_take_of_lt := @List.getElem?_take_of_lt
theorem yj1 : type_of% @Nat.zero_add := @Nat.zero_add
theorem yk1 : type_of% @Array.getElem?_toList := @Array.getElem?_toList
theorem yl1 : type_of% @List.drop_zero := @List.drop_zero
theorem ym1 : type_of% @List.mem_singleton := @List.mem_singleton
theorem yn1 : type_of% @Array.getElem?_eq_getElem := @Array.getElem?_eq_getElem
theorem yo1 : type_of% @Option.bind_eq_some_iff := @Option.bind_eq_some_iff
theorem yp1 : type_of% @List.getElem_of_mem := @List.getElem_of_mem
theorem yq1 : type_of% @List.mem_cons := @List.mem_cons
theorem yr1 : type_of% @List.mem_append_left := @List.mem_append_left
theorem ys1 : type_of% @List.mem_append_right := @List.mem_append_right
theorem yt1 : type_of% @Nat.add_mul := @Nat.add_mul
theorem yu1 : type_of% @List.append_nil := @List.append_nil
theorem yv1 : type_of% @Array.length_toList := @Array.length_toList
theorem yw1 : type_of% @List.append_assoc := @List.append_assoc
theorem yx1 : type_of% @List.getElem?_cons_succ := @List.getElem?_cons_succ
theorem yy1 : type_of% @List.mem_append := @List.mem_append
theorem yz1 : type_of% @List.length_singleton := @List.length_singleton
theorem ya2 : type_of% @Nat.lt_or_ge := @Nat.lt_or_ge
theorem yb2 : type_of% @Nat.mul_le_mul_right := @Nat.mul_le_mul_right
theorem yc2 : type_of% @Bool.or_eq_true := @Bool.or_eq_true
theorem yd2 : type_of% @Bool.and_self := @Bool.and_self
theorem ye2 : type_of% @List.length_map := @List.length_map
theorem yf2 : type_of% @List.take_length := @List.take_length
theorem yg2 : type_of% @Bool.false_eq_true := @Bool.false_eq_true
theorem yh2 : type_of% @List.length_eq_one_iff := @List.length_eq_one_iff
theorem yi2 : type_of% @List.map_cons := @List.map_cons
theorem yj2 : type_of% @List.length_range := @List.length_range
theorem yk2 : type_of% @List.getElem?_replicate := @List.getElem?_replicate
theorem yl2 : type_of% @List.length_take := @List.length_take
theorem ym2 : type_of% @List.mem_or_eq_of_mem_set := @List.mem_or_eq_of_mem_set
theorem yn2 : type_of% @Nat.lt_of_lt_of_le := @Nat.lt_of_lt_of_le
theorem yo2 : type_of% @List.getElem?_take := @List.getElem?_take
theorem yp2 : type_of% @Nat.add_zero := @Nat.add_zero
theorem yq2 : type_of% @Nat.mul_comm := @Nat.mul_comm
theorem yr2 : type_of% @List.all_eq_not_any_not := @List.all_eq_not_any_not
theorem ys2 : type_of% @Array.getElem?_eq_some_iff := @Array.getElem?_eq_some_iff
theorem yt2 : type_of% @Nat.le_trans := @Nat.le_trans
theorem yu2 : type_of% @List.getElem_mem := @List.getElem_mem
theorem yv2 : type_of% @List.take_add_one := @List.take_add_one
theorem yw2 : type_of% @Nat.ble_eq_true_of_le := @Nat.ble_eq_true_of_le
theorem yx2 : type_of% @Bool.not_false := @Bool.not_false
theorem yy2 : type_of% @List.getElem?_cons_zero := @List.getElem?_cons_zero
theorem yz2 : type_of% @Array.toArray_toList := @Array.toArray_toList
theorem ya3 : type_of% @Array.getElem?_append_left := @Array.getElem?_append_left
theorem yb3 : type_of% @List.take_of_length_le := @List.take_of_length_le
theorem yc3 : type_of% @List.mem_map := @List.mem_map
theorem yd3 : type_of% @List.length_nil := @List.length_nil
theorem ye3 : type_of% @List.all_cons := @List.all_cons
theorem yf3 : type_of% @Nat.add_assoc := @Nat.add_assoc
theorem yg3 : type_of% @List.length_replicate := @List.length_replicate
theorem yh3 : type_of% @List.mem_replicate := @List.mem_replicate
theorem yi3 : type_of% @Nat.mul_one := @Nat.mul_one
theorem yj3 : type_of% @Array.getElem?_replicate := @Array.getElem?_replicate
theorem yk3 : type_of% @Nat.add_sub_cancel_left := @Nat.add_sub_cancel_left
theorem yl3 : type_of% @Bool.false_or := @Bool.false_or
theorem ym3 : type_of% @List.map_take := @List.map_take
theorem yn3 : type_of% @List.map_drop := @List.map_drop
theorem yo3 : type_of% @List.drop_left := @List.drop_left
theorem yp3 : type_of% @List.cons_append := @List.cons_append
theorem yq3 : type_of% @List.getElem_zip := @List.getElem_zip
theorem yr3 : type_of% @Bool.cond_eq_ite := @Bool.cond_eq_ite
theorem ys3 : type_of% @Nat.beq_refl := @Nat.beq_refl
theorem yt3 : type_of% @Bool.and_true := @Bool.and_true
class cD where
 tab : Nat → Option (Int × Int)
noncomputable section
def kU {α : Type} (l : List α) : Nat → Option α := List.rec (fun _ => none) (fun a _ ih n => Nat.rec (some a) (fun m _ => ih m) n) l
def BW {α : Type} (v : α) (l : List α) : Nat → List α := List.rec (fun _ => []) (fun a r ih n => Nat.rec (v :: r) (fun m _ => a :: ih m) n) l
theorem bU {α : Type} : ∀ (l : List α) (n : Nat), kU l n = l[n]?
 | [], n => by simp [kU]
 | a :: r, 0 => rfl
 | a :: r, n + 1 => by rw [yx1, ← bU r n]; rfl
theorem eF {α : Type} (v : α) : ∀ (l : List α) (n : Nat), BW v l n = l.set n v
 | [], n => by simp [BW]
 | a :: r, 0 => rfl
 | a :: r, n + 1 => by rw [List.set_cons_succ, ← eF v r n]; rfl
inductive PV where
 | lit (v : Value)
 | ints (k : IntKind) (xs : List Int)
 | sl (e : Nat) (xs : List PV)
 | agg (cs : List PV)
 deriving Inhabited
inductive AV where
 | lit (v : Value)
 | imm (β : Bool) (p : PV)
 | ptr (b g i c : Nat)
 | ms (b g o n : Nat)
 | msw (b g : Nat)
 | el (β : Bool) (p : PV) (c : Nat)
 | fn (f : Fn) (first cap : List AV)
 | agg (cs : List AV)
 | tup (vs : List AV)
 deriving Inhabited
inductive cI where
 | ints (k : IntKind) (xs : List Int)
 | pvs (β : Bool) (e : Nat) (xs : List PV)
 | cells (e : Nat) (cs : List AV)
 deriving Inhabited
structure d8 where
 gen : Nat
 frz : Bool
 row : cI
 deriving Inhabited
abbrev a9 := List (Option d8)
structure St where
 tmps : List AV
 mem : a9
structure mR where
 live : List (Nat × List Nat) := []
 raw : List (Nat × Nat) := []
 boxed : List (Nat × Nat) := []
 vars : List (Nat × Nat) := []
 hint : List (Nat × Nat × Int) := []
def dW {α : Type} (n : Nat) : List (Nat × α) → Option α
 | [] => none
 | (m, x) :: r => bif Nat.beq m n then some x else dW n r
def cG (a b : Nat) : List (Nat × Nat) → Bool
 | [] => false
 | (m, x) :: r => (Nat.beq m a && Nat.beq x b) || cG a b r
def gT (n : Nat) : List Nat → Bool
 | [] => false
 | m :: r => Nat.beq m n || gT n r
def guardB {α : Type} (c : Bool) (x : Option α) : Option α := bif c then x else none
def aD {α : Type} (xs : List α) (i : Int) : Option α := bif decide (0 ≤ i) then xs[i.toNat]? else none
def gV (a b : IntKind) : Bool :=
 match a, b with
 | .i8, .i8 | .i16, .i16 | .i32, .i32 | .i64, .i64 | .u8, .u8 | .u16, .u16 | .u32, .u32 | .u64, .u64 => true
 | _, _ => false
def PV.int? (k : IntKind) : PV → Option Int
 | .lit (.int k' n) => bif gV k k' then some n else none
 | _ => none
def PV.bool? : PV → Option Bool
 | .lit (.bool b) => some b
 | _ => none
def PV.str? : PV → Option ByteArray
 | .lit (.string s) => some s
 | _ => none
def PV.ints? (k : IntKind) : PV → Option (List Int)
 | .ints k' xs => bif gV k k' then some xs else none
 | _ => none
def PV.sl? (e : Nat) : PV → Option (List PV)
 | .sl e' xs => bif Nat.beq e e' then some xs else none
 | _ => none
def PV.cells : PV → List PV
 | .agg cs => cs
 | p => [p]
inductive LK where
 | int (k : IntKind) | bool | str | ints (k : IntKind) | sl (t : TypeId) (e : Nat)
section
variable (P : Program)
def k7 (t : TypeId) : Option Nat := (P.info? t).map (·.size)
def lW (t : TypeId) : Option Nat := (P.info? t).map (·.bytes)
def intKind? (t : TypeId) : Option IntKind :=
 match P.underlying t with
 | some (.int k) => some k
 | _ => none
def elemOf? (t : TypeId) : Option TypeId :=
 match P.underlying t with
 | some (.slice e) => some e
 | _ => none
def isAgg? (t : TypeId) : Option Bool :=
 match P.underlying t with
 | some (.struct _) => some true
 | some (.array _ _) => some true
 | some _ => some false
 | none => none
def leaf? (t : TypeId) : Option LK :=
 match P.underlying t with
 | some (.int k) => some (.int k)
 | some .bool => some .bool
 | some .string => some .str
 | some (.slice e) =>
  match intKind? P e with
  | some k => some (.ints k)
  | none => (k7 P e).map (.sl e)
 | _ => none
def H3 (leaves : TypeId → Option (List LK)) : List Field → Option (List LK)
 | [] => some []
 | f :: r => (leaves f.type).bind fun a => (H3 leaves r).map (a ++ ·)
def leaves? : Nat → TypeId → Option (List LK)
 | 0, _ => none
 | n + 1, t =>
  match P.underlying t with
  | some (.struct fs) => H3 (leaves? n) fs.toList
  | _ => (leaf? P t).map fun l => [l]
def jQ (β : Bool) (l : LK) (q : PV) : Option AV :=
 match l with
 | .int k => (q.int? k).bind fun x => some (.lit (.int k x))
 | .bool => q.bool?.bind fun x => some (.lit (.bool x))
 | .str => q.str?.bind fun x => some (.lit (.string x))
 | .ints k => (q.ints? k).bind fun x => some (.imm β (.ints k x))
 | .sl _ e => (q.sl? e).bind fun x => some (.imm β (.sl e x))
def f8 (β : Bool) (cs : List PV) : List LK → Nat → Option (List AV)
 | [], _ => some []
 | l :: r, c => (cs[c]?).bind fun q => (jQ β l q).bind fun a => (f8 β cs r (c + 1)).bind fun as => some (a :: as)
def Le (β : Bool) (t : TypeId) (p : PV) (c : Nat) : Option AV :=
 match isAgg? P t with
 | some true => (leaves? P 8 t).bind fun ls => (k7 P t).bind fun n => guardB (Nat.beq n ls.length) ((f8 β p.cells ls c).bind fun as => some (.agg as))
 | some false => (leaf? P t).bind fun l => (p.cells[c]?).bind fun q => jQ β l q
 | none => none
def mJ : Value → Bool
 | .agg _ => false
 | _ => true
def G8 : List Value → Option (List AV)
 | [] => some []
 | v :: r => guardB (mJ v) ((G8 r).map (.lit v :: ·))
def vM : Value → Option AV
 | .agg cs => (G8 cs.toList).map .agg
 | v => some (.lit v)
def zero? (t : TypeId) : Option AV := ((P.info? t).bind (·.zero)).bind vM
def AV.dead : AV := .imm false (.agg [])
def AV.unkB : AV := .imm true (.lit (.bool false))
open Classical in
def amb {α : Type} (a b : Option α) : Option α := if a = b then a else none
def AV.goneV : AV := .imm true (.agg [])
def fW : AV → Bool
 | .imm true (.agg _) => true
 | _ => false
def AV.cells : AV → List AV
 | .agg cs => cs
 | v => [v]
inductive aO where
 | ints (k : IntKind) (xs : List Int)
 | pvs (β : Bool) (e : Nat) (xs : List PV)
 | avs (e : Nat) (cs : List AV)
def bD (e : Nat) (n : Nat) : Nat := bif Nat.beq e 0 then 0 else bif Nat.beq e 1 then n else n / e
def aO.len : aO → Nat
 | .ints _ xs => xs.length
 | .pvs _ _ xs => xs.length
 | .avs e cs => bD e cs.length
def aO.imm? : aO → Option AV
 | .ints k xs => some (.imm false (.ints k xs))
 | .pvs β e xs => some (.imm β (.sl e xs))
 | .avs _ _ => none
def aO.row : aO → cI
 | .ints k xs => .ints k xs
 | .pvs β e xs => .pvs β e xs
 | .avs e cs => .cells e cs
def eR (k : IntKind) : List AV → Option (List Int)
 | [] => some []
 | .lit (.int k' x) :: r => bif gV k k' then (eR k r).map (x :: ·) else none
 | _ :: _ => none
def cI.len : cI → Nat
 | .ints _ xs => xs.length
 | .pvs _ _ xs => xs.length
 | .cells e cs => bD e cs.length
def cI.e : cI → Nat
 | .ints _ _ => 1
 | .pvs _ e _ => e
 | .cells e _ => e
def aO.e : aO → Nat
 | .ints _ _ => 1
 | .pvs _ e _ => e
 | .avs e _ => e
def cI.all : cI → aO
 | .ints k xs => .ints k xs
 | .pvs β e xs => .pvs β e xs
 | .cells e cs => .avs e cs
def cI.sub (o n : Nat) : cI → Option aO
 | .ints k xs => guardB (Nat.ble (o + n) xs.length) (some (.ints k ((xs.drop o).take n)))
 | .pvs β e xs => guardB (Nat.ble (o + n) xs.length) (some (.pvs β e ((xs.drop o).take n)))
 | .cells e cs => guardB (Nat.ble ((o + n) * e) cs.length) (some (.avs e ((cs.drop (o * e)).take (n * e))))
def box? (mem : a9) (b g : Nat) : Option d8 :=
 match mem[b]? with
 | some (some x) => bif Nat.beq x.gen g then some x else none
 | _ => none
def cE (s : ByteArray) : List Int := s.data.toList.map fun b => (b.toNat : Int)
def oG (xs : List Int) : ByteArray := ⟨(xs.map fun n => UInt8.ofNat n.toNat).toArray⟩
def MG : LK → Bool
 | .int _ => true
 | .bool => true
 | .str => true
 | _ => false
def J2 (et : TypeId) : Bool :=
 match leaves? P 8 et with
 | some ls => ls.all MG
 | none => false
def KN : PV → Bool
 | .lit _ => true
 | _ => false
def AK (p : PV) : Bool := p.cells.all KN
def view (et : TypeId) (mem : a9) : AV → Option (aO × List Nat)
 | .imm _ (.ints k xs) => some (.ints k xs, [])
 | .imm β (.sl e xs) => some (.pvs (bif J2 P et && xs.all AK then false else β) e xs, [])
 | .ms b g o n => (box? mem b g).bind fun x => (x.row.sub o n).map fun v => (v, [b])
 | .msw b g => (box? mem b g).bind fun x => some (x.row.all, [b])
 | .lit (.string s) => some (.ints .u8 (cE s), [])
 | .lit (.slice none 0 0) =>
  match intKind? P et with
  | some k => some (.ints k [], [])
  | none => (k7 P et).map fun e => (.pvs false e [], [])
 | _ => none
def lenOf (t : TypeId) (mem : a9) (x : AV) : Option (Nat × List Nat) :=
 match P.underlying t with
 | some .string =>
  match x with
  | .lit (.string s) => some (s.size, [])
  | _ => none
 | some (.slice _) =>
  match x with
  | .imm _ (.ints _ xs) => some (xs.length, [])
  | .imm _ (.sl _ xs) => some (xs.length, [])
  | .ms b g o n => some (n, [])
  | .msw b g => (box? mem b g).map fun x => (x.row.len, [b])
  | .lit (.slice none 0 0) => some (0, [])
  | _ => none
 | _ => none
def JR : AV → Bool
 | .lit v => v.oneCell'
 | .agg _ => false
 | .tup _ => false
 | _ => true
def kF : List AV → Bool
 | [] => true
 | v :: r => JR v && kF r
def iY {α : Type} (e : Nat) : Nat → List α → List (List α)
 | 0, _ => []
 | n + 1, cs => cs.take e :: iY e n (cs.drop e)
def CY (t : TypeId) (cs : List PV) : Option PV :=
 match isAgg? P t with
 | some true => some (.agg cs)
 | some false => (match cs with | [c] => some c | _ => none)
 | none => none
def fO {α β : Type} (f : α → Option (Bool × β × List Nat)) : List α → Option (Bool × List β × List Nat)
 | [] => some (false, [], [])
 | v :: r => (f v).bind fun a => (fO f r).bind fun q => some (a.1 || q.1, a.2.1 :: q.2.1, a.2.2 ++ q.2.2)
def cS {α β γ : Type} (f : γ → α → Option (Bool × β × List Nat)) : List γ → List α → Option (Bool × List β × List Nat)
 | [], [] => some (false, [], [])
 | l :: ls, v :: r => (f l v).bind fun a => (cS f ls r).bind fun q => some (a.1 || q.1, a.2.1 :: q.2.1, a.2.2 ++ q.2.2)
 | _, _ => none
def bK (mem : a9) : Nat → LK → AV → Option (Bool × PV × List Nat)
 | 0, _, _ => none
 | n + 1, l, v =>
  match l, v with
  | .int k, .lit (.int k' x) => guardB (gV k k') (some (false, .lit (.int k' x), []))
  | .bool, .lit (.bool b) => some (false, .lit (.bool b), [])
  | .str, .lit (.string s) => some (false, .lit (.string s), [])
  | .ints k, .imm β (.ints k' xs) => guardB (gV k k') (some (β, .ints k' xs, []))
  | .ints k, .lit (.slice none 0 0) => some (false, .ints k [], [])
  | .ints k, .msw b g => (box? mem b g).bind fun x => treeInts k b x.row.all
  | .ints k, .ms b g o m => (box? mem b g).bind fun x => (x.row.sub o m).bind fun w => treeInts k b w
  | .sl _ e, .imm β (.sl e' xs) => guardB (Nat.beq e e') (some (β, .sl e' xs, []))
  | .sl _ e, .lit (.slice none 0 0) => some (false, .sl e [], [])
  | .sl t e, .msw b g => (box? mem b g).bind fun x => treeSl (bK mem n) t e b x.row.all
  | .sl t e, .ms b g o m => (box? mem b g).bind fun x => (x.row.sub o m).bind fun w => treeSl (bK mem n) t e b w
  | _, _ => none
 where
 treeInts (k : IntKind) (b : Nat) (w : aO) : Option (Bool × PV × List Nat) :=
  match w with
  | .ints k' xs => guardB (gV k k') (some (false, .ints k' xs, [b]))
  | .avs e cs => guardB (Nat.beq e 1) ((eR k cs).map fun xs => (false, .ints k xs, [b]))
  | _ => none
 treeSl (f : LK → AV → Option (Bool × PV × List Nat)) (t : TypeId) (e b : Nat) (w : aO) : Option (Bool × PV × List Nat) :=
  match w with
  | .pvs β e' xs => guardB (Nat.beq e e') (some (β, .sl e' xs, [b]))
  | .avs e' cs => guardB (Nat.beq e e' && Nat.ble 1 e) ((leaves? P 8 t).bind fun ls =>
    (fO (fun vs => (cS f ls vs).bind fun q => (CY P t q.2.1).map fun p => (q.1, p, q.2.2)) (iY e (bD e cs.length) cs)).map fun q => (q.1, .sl e q.2.1, b :: q.2.2))
  | _ => none
def iQ : Nat := 6
def qJ (mem : a9) (t : TypeId) (v : AV) : Option (Bool × PV × List Nat) :=
 (leaves? P 8 t).bind fun ls => (cS (bK P mem iQ) ls v.cells).bind fun r => (CY P t r.2.1).map fun p => (r.1, p, r.2.2)
def bW (mem : a9) : List Nat → List (Nat × d8)
 | [] => []
 | b :: r => match mem[b]? with
  | some (some x) => (b, { x with frz := true }) :: bW mem r
  | _ => bW mem r
def gW : List AV → List AV
 | [] => []
 | v :: r => v.cells ++ gW r
def eZ : List Nat → Bool
 | [] => true
 | _ => false
def mW (e : Nat) : List AV → Bool
 | [] => true
 | v :: r => Nat.beq v.cells.length e && mW e r
def mA (vars : Bool) (mem : a9) (t : TypeId) (vs : List AV) : Option (aO × List Nat) :=
 match intKind? P t with
 | some k => (eR k vs).map fun xs => (.ints k xs, [])
 | none => (k7 P t).bind fun e =>
  bif vars then guardB (mW e vs && Nat.ble 1 e && kF (gW vs)) (some (.avs e (gW vs), []))
  else (fO (qJ P mem t) vs).map fun r => (.pvs r.1 e r.2.1, r.2.2)
def CC (t : TypeId) (β : Bool) (e : Nat) : List PV → Option (List AV)
 | [] => some []
 | p :: r => (Le P β t p 0).bind fun v => guardB (Nat.beq v.cells.length e) ((CC t β e r).map (v.cells ++ ·))
def aO.toAvs (t : TypeId) : aO → Option (List AV)
 | .ints k xs => some (xs.map fun x => .lit (.int k x))
 | .pvs β e xs => CC P t β e xs
 | .avs e cs => some cs
structure eM where
 v : AV
 rd : List Nat := []
 wr : List (Nat × d8) := []
 push : a9 := []
abbrev bZ := FuncId → List AV → a9 → Option (AV × a9)
def aQ (mem : a9) : List (Nat × d8) → a9
 | [] => mem
 | (b, x) :: r => aQ (mem.set b (some x)) r
def eM.apply (o : eM) (mem : a9) : a9 := aQ mem o.wr ++ o.push
def o8 (op : BinOp) (x y : Value) : Option Value :=
 match x, y with
 | .int k a, .int k' b =>
  match op with
  | .shl => guardB (decide (0 ≤ b)) (some (.int k (k.wrap (a * 2 ^ (min b.toNat k.bits)))))
  | .shr => guardB (decide (0 ≤ b)) (some (.int k (a.fdiv (2 ^ (min b.toNat k.bits)))))
  | .add => guardB (gV k k') (some (.int k (k.wrap (a + b))))
  | .sub => guardB (gV k k') (some (.int k (k.wrap (a - b))))
  | .mul => guardB (gV k k') (some (.int k (k.wrap (a * b))))
  | .quo => guardB (gV k k') (guardB (!(b == 0)) (some (.int k (k.wrap (a.tdiv b)))))
  | .rem => guardB (gV k k') (guardB (!(b == 0)) (some (.int k (a.tmod b))))
  | .and => guardB (gV k k') (some (.int k (k.wrap (BitVec.ofInt k.bits a &&& BitVec.ofInt k.bits b).toNat)))
  | .or => guardB (gV k k') (some (.int k (k.wrap (BitVec.ofInt k.bits a ||| BitVec.ofInt k.bits b).toNat)))
  | .xor => guardB (gV k k') (some (.int k (k.wrap (BitVec.ofInt k.bits a ^^^ BitVec.ofInt k.bits b).toNat)))
  | .andNot => guardB (gV k k') (some (.int k (k.wrap (BitVec.ofInt k.bits a &&& ~~~BitVec.ofInt k.bits b).toNat)))
  | .eql => guardB (gV k k') (some (.bool (a == b)))
  | .neq => guardB (gV k k') (some (.bool (a != b)))
  | .lss => guardB (gV k k') (some (.bool (decide (a < b))))
  | .leq => guardB (gV k k') (some (.bool (decide (a ≤ b))))
  | .gtr => guardB (gV k k') (some (.bool (decide (a > b))))
  | .geq => guardB (gV k k') (some (.bool (decide (a ≥ b))))
 | .bool a, .bool b =>
  match op with
  | .eql => some (.bool (a == b))
  | .neq => some (.bool (!(a == b)))
  | _ => none
 | .string a, .string b =>
  match op with
  | .eql => some (.bool (a.toList == b.toList))
  | .neq => some (.bool (!(a.toList == b.toList)))
  | _ => none
 | _, _ => none
def FD (op : UnOp) (x : Value) : Option Value :=
 match op, x with
 | .neg, .int k n => some (.int k (k.wrap (0 - n)))
 | .xor, .int k n => some (.int k (k.wrap (BitVec.ofInt k.bits (if k.signed then -1 else k.max) ^^^ BitVec.ofInt k.bits n).toNat))
 | .not, .bool b => some (.bool (!b))
 | _, _ => none
def Ap (t : TypeId) (a b : AV) : Option Bool :=
 match P.underlying t, a, b with
 | some (.int _), .lit (.int k a), .lit (.int k' b) => guardB (gV k k') (some (a == b))
 | some .bool, .lit (.bool a), .lit (.bool b) => some (a == b)
 | some .string, .lit (.string a), .lit (.string b) => some (a.toList == b.toList)
 | _, _, _ => none
def jY : List Field → Nat → List AV → List AV → Option Bool
 | [], _, [], [] => some true
 | f :: fs, n, a :: as, b :: bs => guardB ((f.name != "_") && Nat.beq f.offset n) ((Ap P f.type a b).bind fun q => (jY fs (n + 1) as bs).map fun r => q && r)
 | _, _, _, _ => none
def lM (t : TypeId) (a b : List AV) : Option Bool :=
 match P.underlying t with
 | some (.struct fs) => guardB ((!(P.stoodInHeld t)) && (!(P.eqGuardType P.depth t))) (jY P fs.toList 0 a b)
 | _ => none
def FE (t : TypeId) : Bool :=
 match P.underlying t with
 | some (.pointer _) => true
 | _ => false
def Hn (t : TypeId) : Bool :=
 match P.underlying t with
 | some .bool => true
 | _ => false
def Dp (t : TypeId) (a b : Value) : Bool :=
 match a, b with
 | .bool _, .bool _ => Hn P t
 | _, _ => true
def w8 (t : TypeId) : Bool :=
 match P.underlying t with
 | some (.slice _) => true
 | _ => false
def jT : PV → Option Bool
 | .ints _ xs => some xs.isEmpty
 | .sl _ xs => some xs.isEmpty
 | _ => none
def qH (op : BinOp) (t : TypeId) (x y : AV) : Option AV :=
 match x, y with
 | .imm _ p, .lit (.slice none 0 0) =>
  match op with
  | .eql => guardB (w8 P t) ((jT p).map fun e => bif e then .unkB else .lit (.bool false))
  | .neq => guardB (w8 P t) ((jT p).map fun e => bif e then .unkB else .lit (.bool true))
  | _ => none
 | .lit (.slice none 0 0), .lit (.slice none 0 0) =>
  match op with
  | .eql => guardB (w8 P t) (some (.lit (.bool true)))
  | .neq => guardB (w8 P t) (some (.lit (.bool false)))
  | _ => none
 | .lit a, .lit b => guardB (Dp P t a b) ((o8 op a b).map .lit)
 | .agg a, .agg b =>
  match op with
  | .eql => (lM P t a b).map fun r => .lit (.bool r)
  | .neq => (lM P t a b).map fun r => .lit (.bool (!r))
  | _ => none
 | .ptr _ _ _ _, .lit (.pointer none) | .el _ _ _, .lit (.pointer none) =>
  match op with
  | .eql => guardB (FE P t) (some (.lit (.bool false)))
  | .neq => guardB (FE P t) (some (.lit (.bool true)))
  | _ => none
 | _, _ => none
def setCells : List AV → Nat → List AV → List AV
 | cs, _, [] => cs
 | cs, i, v :: r => setCells (cs.set i v) (i + 1) r
def nY : List PV → Nat → List PV → List PV
 | cs, _, [] => cs
 | cs, i, v :: r => nY (cs.set i v) (i + 1) r
def wN (y : Nat) : Option Int → Nat → Option Nat
 | none, d => some d
 | some i, _ => guardB (decide (0 ≤ i) && decide (i ≤ (y : Int))) (some i.toNat)
def iC (len : Nat) (lo hi mx : Option Int) : Option (Nat × Nat) :=
 guardB (mx.isNone || hi.isSome)
  ((wN len mx len).bind fun m => (wN m hi len).bind fun h => (wN h lo 0).bind fun l => some (l, h))
def Kk : Option AV → Option (Option Int)
 | none => some none
 | some (.lit (.int _ n)) => some (some n)
 | some _ => none
def O4 (k : IntKind) (x y : Int) : Int := bif decide (y < x) then y else x
def OB (k : IntKind) (x y : Int) : Int := bif decide (y > x) then y else x
def kE (f : Int → Int → Int) (k : IntKind) : List AV → Int → Option Int
 | [], a => some a
 | .lit (.int k' b) :: r, a => guardB (gV k k') (kE f k r (f a b))
 | _, _ => none
def cT : Nat := 4294967296
def aO.app (t : TypeId) (x y : aO) : Option aO :=
 match x, y with
 | .ints k xs, .ints k' ys => guardB (gV k k') (some (.ints k (xs ++ ys)))
 | .pvs β e xs, .pvs β' e' ys => guardB (Nat.beq e e') (some (.pvs (β || β') e (xs ++ ys)))
 | .avs e xs, y => (y.toAvs P t).bind fun ys => guardB (kF ys && Nat.beq e y.e && Nat.ble 1 e) (some (.avs e (xs ++ ys)))
 | _, _ => none
def zI (tx : TypeId) (y : AV) : Bool :=
 match P.underlying tx, y with
 | some .string, .lit (.string _) => true
 | some (.slice _), .lit (.string _) => false
 | some (.slice _), _ => true
 | _, _ => false
def oU (vars : Bool) (et : TypeId) (v : aO) : Option cI :=
 bif vars then guardB (Nat.ble 1 v.len) ((v.toAvs P et).bind fun cs => guardB (kF cs) (some (.cells v.e cs))) else
 match v with
 | .avs _ _ => none
 | v => some v.row
def jV (boxed vars : Bool) (t tx : TypeId) (mem : a9) (rs : Nat) (x y : AV) : Option eM :=
 (elemOf? P t).bind fun et => (k7 P et).bind fun s => (lW P et).bind fun bytes => (zero? P et).bind fun z =>
 (view P et mem y).bind fun yv =>
 guardB (Nat.beq s yv.1.e && zI P tx y && Nat.ble bytes 4096 && Nat.ble 1 s && Nat.beq z.cells.length s)
 (match x with
 | .lit (.slice none 0 0) =>
  guardB (Nat.ble yv.1.len cT) (
  bif boxed then (oU P vars et yv.1).map fun row => { v := .msw rs 0, rd := yv.2, wr := [(rs, { gen := 0, frz := false, row })] }
  else yv.1.imm?.map fun v => { v, rd := yv.2 })
 | .msw b g => (box? mem b g).bind fun bx => (bx.row.all.app P et yv.1).bind fun zv =>
  guardB (!bx.frz && Nat.beq s bx.row.e && Nat.ble zv.len cT)
   (some { v := .msw b (g + 1), rd := b :: yv.2, wr := [(b, { gen := g + 1, frz := false, row := zv.row })] })
 | .ms b g 0 n => (box? mem b g).bind fun bx => (bx.row.sub 0 n).bind fun xv => (xv.app P et yv.1).bind fun zv =>
  guardB (!bx.frz && Nat.beq s bx.row.e && Nat.ble zv.len cT)
   (some { v := .msw b (g + 1), rd := b :: yv.2, wr := [(b, { gen := g + 1, frz := false, row := zv.row })] })
 | _ => none)
def i7 (t : TypeId) (mem : a9) (x : AV) (i : Int) : Option eM :=
 match P.underlying t with
 | some (.slice et) => (k7 P et).bind fun s =>
  match x with
  | .imm β (.ints k xs) => guardB (Nat.beq s 1) ((aD xs i).bind fun v => some { v := .el β (.lit (.int k v)) 0 })
  | .imm β (.sl e xs) => guardB (Nat.beq s e) ((aD xs i).bind fun v => some { v := .el β v 0 })
  | .ms b g o n => (box? mem b g).bind fun bx => guardB (Nat.beq s bx.row.e && decide (0 ≤ i) && decide (i < (n : Int))) (some { v := .ptr b g (o + i.toNat) 0, rd := [b] })
  | .msw b g => (box? mem b g).bind fun bx => guardB (Nat.beq s bx.row.e && decide (0 ≤ i) && decide (i < (bx.row.len : Int))) (some { v := .ptr b g i.toNat 0, rd := [b] })
  | _ => none
 | some (.array n e) => (k7 P e).bind fun s =>
  match x with
  | .ptr b g j c => guardB (decide (0 ≤ i) && decide (i < (n : Int))) (some { v := .ptr b g j (c + i.toNat * s) })
  | _ => none
 | _ => none
def jJ (t : TypeId) (mem : a9) (a : AV) : Option eM :=
 match a with
 | .el β p c => (Le P β t p c).map fun v => { v }
 | .ptr b g i c => (box? mem b g).bind fun bx =>
  match bx.row with
  | .cells e cs =>
   (isAgg? P t).bind fun ag => bif ag then (k7 P t).bind fun n => guardB (Nat.ble (i * e + c + n) cs.length) (some { v := .agg ((cs.drop (i * e + c)).take n), rd := [b] })
    else (cs[i * e + c]?).map fun v => { v, rd := [b] }
  | .ints k xs => guardB (Nat.beq c 0) (guardB (match isAgg? P t with | some false => true | _ => false) ((xs[i]?).map fun x => { v := .lit (.int k x), rd := [b] }))
  | .pvs β e xs => (xs[i]?).bind fun x => (Le P β t x c).map fun v => { v, rd := [b] }
 | _ => none
def jO (t : TypeId) (mem : a9) (a x : AV) : Option eM :=
 match a with
 | .ptr b g i c => (box? mem b g).bind fun bx => (k7 P t).bind fun n => guardB (!bx.frz && Nat.beq x.cells.length n)
  (match bx.row with
  | .cells e cs => guardB (Nat.ble (i * e + c + n) cs.length && kF x.cells) (some { v := .lit undef, rd := [b], wr := [(b, { bx with row := .cells e (setCells cs (i * e + c) x.cells) })] })
  | .ints k xs =>
   match x with
   | .lit (.int k' v) => guardB (gV k k' && Nat.beq c 0 && Nat.ble (i + 1) xs.length) (some { v := .lit undef, rd := [b], wr := [(b, { bx with row := .ints k (xs.set i v) })] })
   | _ => none
  | .pvs β e xs => (xs[i]?).bind fun p => (qJ P mem t x).bind fun q => guardB (Nat.ble (c + n) e && Nat.beq p.cells.length e && !gT b q.2.2)
    (some { v := .lit undef, rd := b :: q.2.2, wr := bW mem q.2.2 ++ [(b, { bx with row := .pvs (β || q.1) e (xs.set i (bif Nat.beq n e && Nat.beq c 0 then q.2.1 else .agg (nY p.cells c q.2.1.cells))) })] }))
 | _ => none
def gR (t : TypeId) (mem : a9) (x : AV) (lo hi mx : Option Int) : Option eM :=
 match P.underlying t with
 | some .string =>
  match x with
  | .lit (.string s) => guardB mx.isNone ((iC s.size lo hi none).map fun b => { v := .lit (.string (s.extract b.1 b.2)) })
  | _ => none
 | some (.slice et) => (k7 P et).bind fun s =>
  match x with
  | .imm β (.ints k xs) => guardB (Nat.beq s 1) ((iC xs.length lo hi mx).map fun b => { v := .imm β (.ints k ((xs.take b.2).drop b.1)) })
  | .imm β (.sl e xs) => guardB (Nat.beq s e) ((iC xs.length lo hi mx).map fun b => { v := .imm β (.sl e ((xs.take b.2).drop b.1)) })
  | .ms b g o n => (box? mem b g).bind fun bx => guardB (Nat.beq s bx.row.e) ((iC n lo hi mx).map fun q => { v := .ms b g (o + q.1) (q.2 - q.1), rd := [b] })
  | .msw b g => (box? mem b g).bind fun bx => guardB (Nat.beq s bx.row.e) ((iC bx.row.len lo hi mx).map fun q => { v := .ms b g q.1 (q.2 - q.1), rd := [b] })
  | .lit (.slice none 0 0) => (iC 0 lo hi mx).map fun _ => { v := .lit (.slice none 0 0) }
  | _ => none
 | some (.array n e) => (k7 P e).bind fun s =>
  match x with
  | .ptr b g 0 c => guardB (Nat.beq s 1) ((box? mem b g).bind fun bx =>
    match bx.row with
    | .cells 1 cs => guardB (Nat.ble (c + n) cs.length) ((iC n lo hi mx).map fun q => { v := .ms b g (c + q.1) (q.2 - q.1), rd := [b] })
    | _ => none)
  | _ => none
 | _ => none
def kL (s : TypeId) (f : Nat) : Option (Nat × Nat × TypeId) :=
 match P.underlying s with
 | some (.struct fs) => (fs[f]?).bind fun x => (k7 P x.type).bind fun n => guardB (Nat.ble 1 n) (some (x.offset, n, x.type))
 | _ => none
def Be (k8 : Nat → Option (Nat × Nat)) (cs : List AV) : List (Nat × AV) → Option (List AV)
 | [] => some cs
 | (i, v) :: r => (k8 i).bind fun q => guardB (Nat.beq v.cells.length q.2 && Nat.ble (q.1 + q.2) cs.length) (Be k8 (setCells cs q.1 v.cells) r)
def places? : List Field → Option (List (Nat × Nat))
 | [] => some []
 | f :: r => (k7 P f.type).bind fun n => (places? r).map ((f.offset, n) :: ·)
def AB (t : TypeId) (parts : List (Nat × AV)) : Option AV :=
 (zero? P t).bind fun z =>
 match P.underlying t with
 | some (.struct fs) => (places? P fs.toList).bind fun ps => (Be (fun i => ps[i]?) z.cells parts).map .agg
 | some (.array _ e) => (k7 P e).bind fun n => (Be (fun i => some (i * n, n)) z.cells parts).map .agg
 | _ => none
def qO (vs : List AV) : List (Nat × AV) → List AV
 | [] => vs
 | (i, v) :: r => qO (vs.set i v) r
def pB (n : Nat) : List (Nat × AV) → Bool
 | [] => true
 | (i, _) :: r => Nat.ble (i + 1) n && pB n r
def Ay (ρ : Operand → Option AV) : List Operand → Option (List AV)
 | [] => some []
 | x :: r => (ρ x).bind fun v => (Ay ρ r).map (v :: ·)
def kR (ρ : Operand → Option AV) : List (Nat × Operand) → Option (List (Nat × AV))
 | [] => some []
 | (i, x) :: r => (ρ x).bind fun v => (kR ρ r).map ((i, v) :: ·)
def Cr (ρ : Operand → Option AV) : Option Operand → Option (Option Int)
 | none => some none
 | some x => (ρ x).bind fun v => Kk (some v)
mutual
def AV.refs : AV → List Nat
 | .ptr b _ _ _ => [b]
 | .ms b _ _ _ => [b]
 | .msw b _ => [b]
 | .fn _ fi ca => AV.refsAll fi ++ AV.refsAll ca
 | .agg cs => AV.refsAll cs
 | .tup vs => AV.refsAll vs
 | .lit _ => []
 | .imm _ _ => []
 | .el _ _ _ => []
def AV.refsAll : List AV → List Nat
 | [] => []
 | v :: r => v.refs ++ AV.refsAll r
end
def cI.refs : cI → List Nat
 | .cells _ cs => AV.refsAll cs
 | _ => []
def Av (mem : a9) (b : Nat) : List Nat :=
 match mem[b]? with
 | some (some x) => x.row.refs
 | _ => []
def fN (mem : a9) : Nat → List Nat → List Nat → List Nat
 | 0, _, seen => seen
 | _, [], seen => seen
 | n + 1, b :: todo, seen => bif gT b seen then fN mem n todo seen else fN mem n (todo ++ Av mem b) (seen ++ [b])
def rD (b : Nat) : List Nat → Nat → Option Nat
 | [], _ => none
 | m :: r, n => bif Nat.beq m b then some n else rD b r (n + 1)
def mX (mem : a9) (b : Nat) : Option Nat :=
 match mem[b]? with
 | some (some x) => some x.gen
 | _ => none
abbrev k9 := Nat → Nat → Option (Nat × Nat)
mutual
def AV.ren (f : k9) : AV → AV
 | .ptr b g i c => match f b g with | some q => .ptr q.1 q.2 i c | none => .dead
 | .ms b g o n => match f b g with | some q => .ms q.1 q.2 o n | none => .dead
 | .msw b g => match f b g with | some q => .msw q.1 q.2 | none => .dead
 | .fn h fi ca => .fn h (AV.renAll f fi) (AV.renAll f ca)
 | .agg cs => .agg (AV.renAll f cs)
 | .tup vs => .tup (AV.renAll f vs)
 | .lit v => .lit v
 | .imm β p => .imm β p
 | .el β p c => .el β p c
def AV.renAll (f : k9) : List AV → List AV
 | [] => []
 | v :: r => v.ren f :: AV.renAll f r
end
def cI.ren (f : k9) : cI → cI
 | .cells e cs => .cells e (AV.renAll f cs)
 | .ints k xs => .ints k xs
 | .pvs β e xs => .pvs β e xs
def cI.isCells : cI → Bool
 | .cells _ _ => true
 | _ => false
def fZ (mem : a9) (ids : List Nat) : k9 := fun b g =>
 match mX mem b with
 | some h => bif Nat.beq h g then (rD b ids 0).map fun j => (j, 0) else none
 | none => none
def eQ (f : k9) (mem : a9) : List Nat → a9
 | [] => []
 | b :: r => (match mem[b]? with
  | some (some x) => some { gen := 0, frz := x.frz, row := x.row.ren f }
  | _ => none) :: eQ f mem r
def Po : List Nat → List Nat → Bool
 | [], _ => true
 | b :: r, ids => gT b ids && Po r ids
def vP : List Nat → List Nat → Bool
 | [], _ => true
 | b :: r, ids => (!gT b ids) && vP r ids
def dF : List Nat → Bool
 | [] => true
 | b :: r => (!gT b r) && dF r
def iI : Nat → Nat → List Nat
 | _, 0 => []
 | a, n + 1 => a :: iI (a + 1) n
def cZ (mem : a9) (n : Nat) : Nat := (mem.length + 1) * (mem.length + 1) + n
def rG (mem : a9) : List (Option Bool) := mem.map fun x => x.map (·.row.isCells)
def nG : List (Option Bool) → a9 → Bool
 | [], _ => true
 | some k :: r, some x :: m => (bif k then x.row.isCells && Nat.beq x.gen 0 else !x.row.isCells) && nG r m
 | none :: r, none :: m => nG r m
 | _, _ => false
def sN : Nat → Nat → List Nat → Bool
 | _, 0, _ => true
 | i, n + 1, b :: r => Nat.beq b i && sN (i + 1) n r
 | _, _ + 1, [] => false
def rQ (old : List (Option Bool)) (vs : List AV) (mem : a9) : Option (List AV × a9) :=
 let ids := fN mem (cZ mem (old.length + (AV.refsAll vs).length)) (iI 0 old.length ++ AV.refsAll vs) []
 guardB (nG old mem && dF ids && sN 0 old.length ids) (some (AV.renAll (fZ mem ids) vs, eQ (fZ mem ids) mem ids))
def AV.frz (m : Nat) (mem : a9) : AV → AV
 | .msw b g => bif Nat.ble m b then
   (match box? mem b g with
   | some x => (match x.row with
    | .ints k xs => .imm false (.ints k xs)
    | .pvs β e xs => .imm β (.sl e xs)
    | .cells _ _ => .msw b g)
   | none => .msw b g)
  else .msw b g
 | v => v
def AV.frzAll (m : Nat) (mem : a9) : List AV → List AV
 | [] => []
 | v :: r => v.frz m mem :: AV.frzAll m mem r
def kT (m : Nat) (mem : a9) : AV → AV
 | .tup vs => .tup (AV.frzAll m mem vs)
 | .agg vs => .agg (AV.frzAll m mem vs)
 | v => v.frz m mem
mutual
def AV.lent : AV → Bool
 | .imm β _ => β
 | .el β _ _ => β
 | .fn _ fi ca => AV.lentAny fi || AV.lentAny ca
 | .agg cs => AV.lentAny cs
 | .tup vs => AV.lentAny vs
 | .lit _ => false
 | .ptr _ _ _ _ => false
 | .ms _ _ _ _ => false
 | .msw _ _ => false
def AV.lentAny : List AV → Bool
 | [] => false
 | v :: r => v.lent || AV.lentAny r
end
def gN : a9 → Bool
 | [] => false
 | some x :: r => (match x.row with | .cells _ cs => AV.lentAny cs | .pvs β _ _ => β | .ints _ _ => false) || gN r
 | none :: r => gN r
def f9 (mem : a9) (l : LK) (v : AV) : Option (AV × List Nat) :=
 match v with
 | .msw _ _ | .ms _ _ _ _ => (bK P mem iQ l v).map fun q => (.imm true q.2.1, q.2.2)
 | v => some (v, [])
def bQ (mem : a9) : List LK → List AV → Option (List AV × List Nat)
 | [], [] => some ([], [])
 | l :: ls, v :: vs => (f9 P mem l v).bind fun a => (bQ mem ls vs).bind fun r => some (a.1 :: r.1, a.2 ++ r.2)
 | _, _ => none
def Ga : List AV → Bool
 | [] => false
 | .msw _ _ :: _ => true
 | .ms _ _ _ _ :: _ => true
 | _ :: r => Ga r
def lend (mem : a9) (t : TypeId) (v : AV) : Option (AV × List Nat) :=
 match v with
 | .msw _ _ | .ms _ _ _ _ => (leaf? P t).bind fun l => f9 P mem l v
 | .agg cs => bif Ga cs then (leaves? P 8 t).bind fun ls => (bQ P mem ls cs).map fun r => (.agg r.1, r.2) else some (.agg cs, [])
 | v => some (v, [])
def fS (mem : a9) : List TypeId → List AV → Option (List AV × List Nat)
 | [], [] => some ([], [])
 | t :: ts, v :: r => (lend P mem t v).bind fun a => (fS mem ts r).bind fun b => some (a.1 :: b.1, a.2 ++ b.2)
 | _, _ => none
def Iz (keep : Bool) (mem : a9) (ts : List TypeId) (vs : List AV) : Option (List AV × List Nat) := bif keep then some (vs, []) else fS P mem ts vs
def cH (mem sub : a9) (ids : List Nat) : k9 := fun b g =>
 bif Nat.beq g 0 then
  (match ids[b]? with
  | some a => (match sub[b]?, mX mem a with
   | some (some x), some h => some (a, bif x.row.isCells then h else h + 1)
   | _, _ => none)
  | none => bif Nat.blt b sub.length then some (mem.length + (b - ids.length), 0) else none)
 else none
def bF (f : k9) (mem : a9) : List Nat → a9 → List (Nat × d8)
 | a :: ids, some x :: r => (a, { gen := (match mX mem a with | some h => bif x.row.isCells then h else h + 1 | none => 0), frz := x.frz, row := x.row.ren f }) :: bF f mem ids r
 | _ :: ids, none :: r => bF f mem ids r
 | _, _ => []
def eE (f : k9) : a9 → a9
 | [] => []
 | some x :: r => some { gen := 0, frz := x.frz, row := x.row.ren f } :: eE f r
 | none :: r => none :: eE f r
def fG (m : Nat) : List Nat → Bool
 | [] => true
 | b :: r => Nat.blt b m && fG m r
def lJ : a9 → List Nat
 | [] => []
 | some x :: r => x.row.refs ++ lJ r
 | none :: r => lJ r
def z7 (C : bZ) (raw keep : Bool) (g : FuncId) (ts : List TypeId) (fi args ca : List AV) (mem : a9) : Option eM :=
 (Iz P keep mem ts args).bind fun la =>
 let all := fi ++ la.1 ++ ca
 let ids := fN mem (cZ mem (AV.refsAll all).length) (AV.refsAll all) []
 guardB (dF ids && vP la.2 ids)
 ((C g (AV.renAll (fZ mem ids) all) (eQ (fZ mem ids) mem ids)).bind fun q =>
  let m := ids.length
  let r := bif raw then q.1 else kT m q.2 q.1
  guardB (Nat.ble m q.2.length && (eZ la.2 || !(q.1.lent || gN q.2)))
  (bif fG m r.refs && fG m (lJ (q.2.take m)) then
   some { v := r.ren (cH mem (q.2.take m) ids), rd := la.2 ++ ids, wr := bF (cH mem (q.2.take m) ids) mem ids q.2 }
  else
   some { v := q.1.ren (cH mem q.2 ids), rd := la.2 ++ ids, wr := bF (cH mem q.2 ids) mem ids q.2, push := eE (cH mem q.2 ids) (q.2.drop m) }))
def Bc (t tx : TypeId) (mem : a9) (rs : Nat) (n : Int) : Option eM :=
 match P.underlying tx with
 | some (.int _) => (elemOf? P t).bind fun et => (zero? P et).bind fun z =>
  match intKind? P et with
  | none => (qJ P mem et z).bind fun q => (k7 P et).bind fun e => (lW P et).bind fun bytes =>
   guardB (decide (1 ≤ n) && Nat.ble n.toNat cT && (Nat.ble 1 e && Nat.ble bytes 4096 && Nat.beq z.cells.length e && eZ q.2.2)) (some { v := .msw rs 0, wr := [(rs, { gen := 0, frz := false, row := .pvs q.1 e (List.replicate n.toNat q.2.1) })] })
  | some _ => none
 | _ => none
def eH (boxed vars : Bool) (b : Builtin) (ts : List TypeId) (mem : a9) (rs : Nat) (args : List AV) : Option eM :=
 match b, ts, args with
 | .len, [t], [x] => (lenOf P t mem x).map fun n => { v := .lit (.int .i64 (n.1 : Int)), rd := n.2 }
 | .append, [t, tx], [.lit (.slice none 0 0), .lit (.int _ n)] => Bc P t tx mem rs n
 | .append, [t, tx], [x, y] => jV P boxed vars t tx mem rs x y
 | .cap, [t], [.lit (.slice none 0 0)] => (match P.underlying t with | some (.slice _) => some { v := .lit (.int .i64 0) } | _ => none)
 | .min, _, .lit (.int k a) :: r => (kE (O4 k) k r a).map fun v => { v := .lit (.int k v) }
 | .max, _, .lit (.int k a) :: r => (kE (OB k) k r a).map fun v => { v := .lit (.int k v) }
 | _, _, _ => none
def p6 (boxed : Bool) (rs : Nat) (v : aO) : Option eM :=
 bif boxed then some { v := .msw rs 0, wr := [(rs, { gen := 0, frz := false, row := v.row })] } else v.imm?.map fun a => { v := a }
def kH (boxed : Bool) (src dst : TypeId) (mem : a9) (rs : Nat) (x : AV) : Option eM :=
 match P.underlying src, P.underlying dst, x with
 | some (.int _), some (.int k), .lit (.int _ n) => some { v := .lit (.int k (k.wrap n)) }
 | some .string, some .string, .lit (.string s) => some { v := .lit (.string s) }
 | some (.slice e), some .string, x =>
  match P.underlying e with
  | some (.int .u8) => (view P e mem x).bind fun v => guardB (zI P src x && (match k7 P e with | some 1 => true | _ => false)) <|
   match v.1 with
   | .ints .u8 xs => some { v := .lit (.string (oG xs)), rd := v.2 }
   | _ => none
  | _ => none
 | some (.slice _), some (.slice e), .msw b g =>
  match P.underlying e with
  | some (.int .u8) => guardB (Nat.beq src dst) ((box? mem b g).bind fun x => guardB (Nat.ble 1 x.row.len) (some { v := .msw b g, rd := [b] }))
  | _ => none
 | _, _, _ => none
def Fp (c a b : AV) : Option AV :=
 match c with
 | .lit (.bool t) =>
  match a, b with
  | .lit (.bool x), .lit (.bool y) => some (.lit (.bool (bif t then x else y)))
  | _, _ => bif t then some a else some b
 | _ => none
def Eo (ρ : Operand → Option AV) (c a b : Operand) : Option eM :=
 (ρ c).bind fun c => (ρ a).bind fun a => (ρ b).bind fun b => (Fp c a b).map fun v => { v }
def z8 (rs : Nat) (t : TypeId) : Option eM :=
 (zero? P t).bind fun z => guardB (Nat.ble 1 z.cells.length && kF z.cells) (some { v := .ptr rs 0 0 0, wr := [(rs, { gen := 0, frz := false, row := .cells 1 z.cells })] })
def HI (ρ : Operand → Option AV) (rs : Nat) (t : TypeId) (x : Operand) : Option eM :=
 (ρ x).bind fun v => (k7 P t).bind fun n => guardB (Nat.beq v.cells.length n && Nat.ble 1 n && kF v.cells) (some { v := .ptr rs 0 0 0, wr := [(rs, { gen := 0, frz := false, row := .cells 1 v.cells })] })
def zF (ρ : Operand → Option AV) (t : TypeId) (parts : Array (Nat × Operand)) : Option eM :=
 (kR ρ parts.toList).bind fun ps => (AB P t ps).map fun v => { v }
def fA (boxed vars : Bool) (ρ : Operand → Option AV) (mem : a9) (rs : Nat) (t : TypeId) (len : Nat) (parts : Array (Nat × Operand)) : Option eM :=
 (elemOf? P t).bind fun et => (zero? P et).bind fun z => (k7 P et).bind fun s => (kR ρ parts.toList).bind fun ps =>
   guardB (pB len ps && Nat.ble len 4096 && Nat.ble 1 s && Nat.ble s 4096 && mW s (z :: ps.map (·.2))) ((mA P vars mem et (qO (List.replicate len z) ps)).bind fun w => guardB (Nat.beq w.1.e s) <|
    (p6 (boxed || Nat.beq len 0) rs w.1).map fun o => { v := o.v, rd := w.2, wr := bW mem w.2 ++ o.wr })
def zO (ρ : Operand → Option AV) (mem : a9) (t : TypeId) (a x : Operand) : Option eM :=
 (ρ a).bind fun a => (ρ x).bind fun x => jO P t mem a x
def Iq (ρ : Operand → Option AV) (x : Operand) : Option eM :=
 (ρ x).bind fun v =>
  match v with
  | .ptr b g i c => some { v }
  | .el β p c => some { v }
  | .fn (.func f) fi ca => some { v }
  | _ => none
def Ie (ρ : Operand → Option AV) (op : BinOp) (t : TypeId) (x y : Operand) : Option eM :=
 (ρ x).bind fun x => (ρ y).bind fun y => (qH P op t x y).map fun v => { v }
def NN (ρ : Operand → Option AV) (op : UnOp) (x : Operand) : Option eM :=
 (ρ x).bind fun x =>
  match x with
  | .lit a => (FD op a).map fun v => { v := .lit v }
  | _ => none
def CB (ρ : Operand → Option AV) (fn : Fn) (first cap : Array Operand) : Option eM :=
 (Ay ρ first.toList).bind fun fi => (Ay ρ cap.toList).map fun ca => { v := .fn fn fi ca }
def AH (boxed : Bool) (ρ : Operand → Option AV) (mem : a9) (rs : Nat) (t : TypeId) (l c : Operand) : Option eM :=
 (elemOf? P t).bind fun et => (zero? P et).bind fun z => (ρ l).bind fun l => (ρ c).bind fun c =>
  match l, c with
  | .lit (.int _ n), .lit (.int _ n') => guardB (n == n' && decide (0 ≤ n) && Nat.ble n.toNat cT) (
    match intKind? P et with
    | some k => (k7 P et).bind fun e => (lW P et).bind fun bytes => (eR k [z]).bind fun zs => guardB (Nat.beq e 1 && Nat.ble bytes 4096) (p6 boxed rs (.ints k (List.replicate n.toNat (zs.headD 0))))
    | none => (qJ P mem et z).bind fun q => (k7 P et).bind fun e => (lW P et).bind fun bytes =>
      guardB (Nat.ble 1 e && Nat.ble bytes 4096 && Nat.beq z.cells.length e && eZ q.2.2) (p6 boxed rs (.pvs q.1 e (List.replicate n.toNat q.2.1))))
  | _, _ => none
def zG (ρ : Operand → Option AV) (mem : a9) (t : TypeId) (x : Operand) (lo hi mx : Option Operand) : Option eM :=
 (ρ x).bind fun x => (Cr ρ lo).bind fun lo => (Cr ρ hi).bind fun hi => (Cr ρ mx).bind fun mx => gR P t mem x lo hi mx
def kM (ρ : Operand → Option AV) (s : TypeId) (x : Operand) (f : Nat) : Option eM :=
 (ρ x).bind fun x => (kL P s f).bind fun q =>
  match x with
  | .ptr b g i c => some { v := .ptr b g i (c + q.1) }
  | .el β p c => some { v := .el β p (c + q.1) }
  | _ => none
def yY (ρ : Operand → Option AV) (s : TypeId) (x : Operand) (f : Nat) : Option eM :=
 (ρ x).bind fun x => (kL P s f).bind fun q =>
  match x with
  | .agg cs => (isAgg? P q.2.2).bind fun ag => bif ag then guardB (Nat.ble (q.1 + q.2.1) cs.length) (some { v := .agg ((cs.drop q.1).take q.2.1) }) else (cs[q.1]?).map fun v => { v }
  | _ => none
def z9 (ρ : Operand → Option AV) (mem : a9) (t : TypeId) (x ix : Operand) : Option eM :=
 (ρ x).bind fun x => (ρ ix).bind fun ix =>
  match ix with
  | .lit (.int _ i) => i7 P t mem x i
  | _ => none
def oV (ρ : Operand → Option AV) (t : TypeId) (x ix : Operand) : Option eM :=
 (ρ x).bind fun x => (ρ ix).bind fun ix =>
  match x, ix with
  | .agg cs, .lit (.int _ i) =>
   match P.underlying t with
   | some (.array n e) => (isAgg? P e).bind fun ag => (k7 P e).bind fun s => guardB (!ag && Nat.beq s 1 && decide (0 ≤ i) && decide (i < (n : Int))) ((cs[i.toNat]?).map fun v => { v })
   | _ => none
  | .lit (.string s), .lit (.int _ i) =>
   match P.underlying t with
   | some .string => (aD (cE s) i).map fun n => { v := .lit (.int .u8 n) }
   | _ => none
  | _, _ => none
def oL (ρ : Operand → Option AV) (t : Operand) (ix : Nat) : Option eM :=
 (ρ t).bind fun t =>
  match t with
  | .tup vs => (vs[ix]?).map fun v => { v }
  | _ => none
def Ep (C : bZ) (boxed raw vars : Bool) (ρ : Operand → Option AV) (mem : a9) (rs : Nat) (c : Call) : Option eM :=
 (Ay ρ c.args.toList).bind fun args =>
  match c.callee with
  | .builtin b => eH P boxed vars b c.argTypes.toList mem rs args
  | .value f => (ρ f).bind fun f =>
   match f with
   | .fn (.func g) fi ca => z7 P C raw vars g c.argTypes.toList fi args ca mem
   | _ => none
  | .invoke _ _ => none
def rO : Operand → Bool
 | .const (.slice none 0 0) => true
 | _ => false
def pZ (t : TypeId) : Option PV :=
 (elemOf? P t).bind fun et =>
 match intKind? P et with
 | some k => some (.ints k [])
 | none => (k7 P et).bind fun e => guardB (Nat.ble 1 e) (some (.sl e []))
def GZ : PV → Option cI
 | .ints k xs => some (.ints k xs)
 | .sl e xs => some (.pvs false e xs)
 | _ => none
def qM (boxed vars : Bool) (ρ : Operand → Option AV) (t : TypeId) (rs : Nat) (x : Operand) : Option eM :=
 bif rO x && boxed && !vars then (pZ P t).bind fun p => (GZ p).map fun row => { v := .msw rs 0, wr := [(rs, { gen := 0, frz := false, row })] }
 else (ρ x).bind fun v =>
  match v with
  | .lit (.slice none 0 0) => bif boxed then some { v } else (pZ P t).map fun p => { v := .imm false p }
  | v => some { v }
def I0 (C : bZ) (boxed raw vars : Bool) (o : Oper) (ρ : Operand → Option AV) (mem : a9) (rs : Nat) : Option eM :=
 match o.op with
 | .move x => qM P boxed vars ρ o.type rs x
 | .assign x => qM P boxed vars ρ o.type rs x
 | .pick c a b => Eo ρ c a b
 | .alloc t => z8 P rs t
 | .box t x => HI P ρ rs t x
 | .build t parts => zF P ρ t parts
 | .buildSlice t len parts => fA P boxed vars ρ mem rs t len parts
 | .load t a => (ρ a).bind fun a => jJ P t mem a
 | .store t a x => zO P ρ mem t a x
 | .nilCheck x => Iq ρ x
 | .binOp op t x y _ => Ie P ρ op t x y
 | .unOp op _ x => NN ρ op x
 | .convert src dst x => (ρ x).bind fun x => kH P boxed src dst mem rs x
 | .makeFunc fn first cap => CB ρ fn first cap
 | .makeSlice t l c => AH P boxed ρ mem rs t l c
 | .slice t x lo hi mx => zG P ρ mem t x lo hi mx
 | .fieldAddr s x f => kM P ρ s x f
 | .field s x f => yY P ρ s x f
 | .indexAddr t x ix => z9 P ρ mem t x ix
 | .index t x ix => oV P ρ t x ix
 | .extract t ix => oL ρ t ix
 | .call c => Ep P C boxed raw vars ρ mem rs c
 | _ => none
structure Tr where
 i : Nat
 rd : List Nat
 wr : List Nat
 push : Bool
 rc : Bool
 wk : Nat → Bool
def m8 : AV → Option (Nat × Nat × Nat × Nat)
 | .ptr b g i c => some (b, g, i, c)
 | _ => none
def g8 (x : d8) : Option (Nat × Nat × List (Option (Nat × Nat × Nat × Nat))) :=
 match x.row with
 | .cells e cs => some (x.gen, e, cs.map m8)
 | _ => none
def bB (mem : a9) (b : Nat) : Option (Nat × Nat × List (Option (Nat × Nat × Nat × Nat))) :=
 match mem[b]? with
 | some (some x) => g8 x
 | _ => none
def Qy (x y : Option (Nat × Nat × Nat × Nat)) : Bool :=
 match x, y with
 | none, none => true
 | some (a, b, c, d), some (a', b', c', d') => Nat.beq a a' && Nat.beq b b' && Nat.beq c c' && Nat.beq d d'
 | _, _ => false
def Ob : List (Option (Nat × Nat × Nat × Nat)) → List (Option (Nat × Nat × Nat × Nat)) → Bool
 | [], [] => true
 | x :: xs, y :: ys => Qy x y && Ob xs ys
 | _, _ => false
def GX (x y : Option (Nat × Nat × List (Option (Nat × Nat × Nat × Nat)))) : Bool :=
 match x, y with
 | some (g, e, l), some (g', e', l') => Nat.beq g g' && Nat.beq e e' && Ob l l'
 | _, _ => false
def oO (mem : a9) (wr : List (Nat × d8)) (b : Nat) : Bool := wr.all fun q => !(Nat.beq q.1 b) || GX (g8 q.2) (bB mem b)
def JX : Op → Bool
 | .load _ _ => true
 | _ => false
def Mb (op : Op) (mem : a9) (v : AV) (rd : List Nat) : Bool :=
 JX op && (match m8 v with | some _ => true | none => false) && (match rd with | [b] => (match bB mem b with | some _ => true | none => false) | _ => false)
def Kg (L : Nat) (all : List Tr) (b : Nat) : Bool := Nat.blt b L && all.all fun u => !(gT b u.wr) || u.wk b
def Fi (L : Nat) (all : List Tr) (t : Tr) : Tr := bif t.rc && (match t.rd with | [b] => Kg L all b | _ => false) then { t with rd := [] } else t
variable [cD]
def B9 (tmps : List AV) (t : Nat) : Option AV := (kU tmps t).bind fun v => bif fW v then none else some v
def fP (tmps : List AV) : Operand → Option AV
 | .tmp t => B9 tmps t
 | .const v => vM v
 | .func f => some (.fn (.func f) [] [])
 | .global g => (cD.tab g).map fun q => .el true (.agg [.lit (.int .i64 q.1), .lit (.int .i64 q.2)]) 0
def lA (tmps : List AV) (dst : Option Tmp) (v : AV) : List AV :=
 match dst with
 | some d => BW v tmps d
 | none => tmps
def d9 : Op → Bool
 | .move x | .assign x => rO x
 | .alloc _ | .box _ _ | .buildSlice _ _ _ | .convert _ _ _ | .makeSlice _ _ _ => true
 | .call { callee := .builtin .append, .. } => true
 | _ => false
def nK : List Oper → Nat
 | [] => 0
 | o :: r => (bif d9 o.op then 1 else 0) + nK r
def vV (mem : a9) (rs : Nat) : Bool :=
 match mem[rs]? with
 | some none => true
 | _ => false
def KA : Option d8 → Bool
 | none => true
 | some _ => false
def trim : a9 → a9
 | [] => []
 | x :: r => match trim r with
  | [] => bif KA x then [] else [x]
  | y => x :: y
def eM.tr (mk : Bool) (rs : Nat) (o : eM) (i : Nat) (op : Op) (mem : a9) : Tr := { i, rc := Mb op mem o.v o.rd, wk := oO mem o.wr, rd := o.rd, wr := bif mk then rs :: o.wr.map (·.1) else o.wr.map (·.1), push := match o.push with | [] => false | _ => true }
variable {R : Type}
def AR (a b : Nat) : List (Nat × Nat × Int) → Option Int
 | [] => none
 | (m, x, v) :: r => bif Nat.beq m a && Nat.beq x b then some v else AR a b r
def wI (h : Option Int) (v : AV) (k : AV → Option R) : Option R :=
 match h with
 | none => k v
 | some x => match v with
  | .lit (.int kd y) => guardB (decide (y = x)) (k (.lit (.int kd x)))
  | .lit (.bool b) => bif decide (x = 0) then guardB (!b) (k (.lit (.bool false))) else guardB b (k (.lit (.bool true)))
  | v => k v
def qK (C : bZ) (an : mR) (rid : Nat) (ds : List (Option Tmp)) : List Oper → Nat → Nat → St → List Tr → (St → List Tr → Option R) → Option R
 | [], _, _, st, tr, k => k st tr
 | o :: rest, i, rs, st, tr, k =>
  let rs' := bif d9 o.op then rs + 1 else rs
  let run (st : St) : Option R := guardB (bif d9 o.op then vV st.mem rs else true) ((I0 P C (cG rid i an.boxed) (cG rid i an.raw) (cG rid i an.vars) o (fP st.tmps) st.mem rs).bind fun out =>
   wI (AR rid i an.hint) out.v fun v => qK C an rid ds rest (i + 1) rs' { tmps := lA st.tmps o.dst v, mem := out.apply st.mem } (out.tr (d9 o.op) rs i o.op st.mem :: tr) k)
  let skip (st : St) : Option R := qK C an rid ds rest (i + 1) rs' { tmps := lA st.tmps o.dst (.lit undef), mem := st.mem } tr k
  match o.guard with
  | none => run st
  | some (j, want) =>
   match ds[j]? with
   | some (some d) =>
    match kU st.tmps d with
    | some (.lit (.bool b)) =>
     bif b then (bif want then run else skip) { st with tmps := BW (.lit (.bool true)) st.tmps d }
     else (bif want then skip else run) { st with tmps := BW (.lit (.bool false)) st.tmps d }
    | some (.lit (.tuple _)) => skip st
    | _ => none
   | _ => none
def AQ (acc : List Nat) : List Edge → Nat
 | [] => 0
 | e :: r => bif Region.binds .any e then 2 ^ e.on ||| acc.getD e.on 0 ||| AQ acc r else AQ acc r
def Ao : List Oper → List Nat → List Nat
 | [], acc => acc
 | o :: r, acc => Ao r (acc ++ [AQ acc o.after.toList])
def zY (i : Nat) : List Edge → Bool
 | [] => true
 | e :: r => (!(Region.binds .any e) || Nat.blt e.on i) && zY i r
def iM : List Oper → Nat → Bool
 | [], _ => true
 | o :: r, i => zY i o.after.toList && iM r (i + 1)
def d7 (bs : List Nat) (i j : Nat) : Bool := (bs.getD j 0).testBit i || (bs.getD i 0).testBit j
def yN (ops : Array Oper) (i j : Nat) : Bool :=
 match ops[i]?, ops[j]? with
 | some x, some y => x.apart ops y
 | _, _ => false
def NX (bs : List Nat) (L : Nat) (a : Tr) : List Tr → Bool
 | [] => true
 | b :: r => !(a.push && b.push) && (d7 bs a.i b.i || (vP a.wr b.rd && vP a.rd b.wr && vP a.wr b.wr && (!a.push || (fG L b.rd && fG L b.wr)) && (!b.push || (fG L a.rd && fG L a.wr)))) && NX bs L a r
def KK (bs : List Nat) (L : Nat) : List Tr → Bool
 | [] => true
 | a :: r => NX bs L a r && KK bs L r
def mG (o : Oper) : Bool :=
 match o.op with
 | .call c => (match c.callee with | .builtin _ => false | _ => true)
 | _ => false
def sC (bs : List Nat) (i : Nat) : List Oper → Nat → Bool
 | [], _ => true
 | o :: r, j => (Nat.beq i j || d7 bs i j || !(mG o)) && sC bs i r (j + 1)
def Ho (ops : Array Oper) (bs : List Nat) : List Tr → Bool
 | [] => true
 | a :: r => (!a.push || sC bs a.i ops.toList 0) && Ho ops bs r
def zZ (ops : Array Oper) (bs : List Nat) (i : Nat) : List Nat → Bool
 | [] => true
 | j :: r => (d7 bs i j || yN ops i j) && zZ ops bs i r
def y7 (ops : Array Oper) (bs : List Nat) : List Nat → Bool
 | [] => true
 | i :: r => zZ ops bs i r && y7 ops bs r
def GH (ops : Array Oper) (L : Nat) (tr : List Tr) : Bool :=
 let bs := Ao ops.toList []
 iM ops.toList 0 && KK bs L (tr.map (Fi L tr)) && Ho ops bs tr && y7 ops bs (iI 0 ops.size)
def pJ (C : bZ) (an : mR) (rid : Nat) (ops : Array Oper) (draw : Bool) (st : St) (k : St → Option R) : Option R :=
 qK P C an rid (ops.toList.map (·.dst)) ops.toList 0 st.mem.length { st with mem := st.mem ++ List.replicate (nK ops.toList) none } [] fun st' tr =>
  guardB (!draw || GH ops (st.mem.length + nK ops.toList) tr) (k { st' with mem := trim st'.mem })
inductive Ex where
 | normal | exit (id : Nat) | ret
def cV (live : List Nat) : List AV → Nat → List AV
 | [], _ => []
 | v :: r, i => (bif gT i live then v else .goneV) :: cV live r (i + 1)
def HP (old : List (Option Bool)) (live : List Nat) (st : St) : Option St :=
 (rQ old (cV live st.tmps 0) st.mem).map fun q => { tmps := q.1, mem := q.2 }
def vC (old : List (Option Bool)) (live : List Nat) (body : St → (Ex → St → Option R) → Option R) : Nat → St → (Ex → St → Option R) → Option R
 | 0, _, _ => none
 | n + 1, st, k => (HP old live st).bind fun st1 => body st1 fun e st' =>
  match e with
  | .normal => vC old live body n st' k
  | .exit id => k (.exit id) st'
  | .ret => k .ret st'
def eG (C : bZ) (an : mR) (n : Nat) (old : List (Option Bool)) : Code → Nat → St → (Ex → St → Option R) → Option R
 | .skip, _, st, k => k .normal st
 | .ret, _, st, k => k .ret st
 | .exit id, _, st, k => k (.exit id) st
 | .seq a b, bid, st, k => eG C an n old a bid st fun e st' =>
  match e with
  | .normal => eG C an n old b bid st' k
  | .exit id => k (.exit id) st'
  | .ret => k .ret st'
 | .cond c x y, bid, st, k =>
  match fP st.tmps c with
  | some (.lit (.bool t)) => bif t then eG C an n old x bid st k else eG C an n old y bid st k
  | some (.imm true (.lit (.bool false))) => amb (eG C an n old x bid st k) (eG C an n old y bid st k)
  | _ => none
 | .block id c, _, st, k => eG C an n old c id st fun e st' =>
  match e with
  | .normal => k .normal st'
  | .exit j => bif Nat.beq j id then k .normal st' else k (.exit j) st'
  | .ret => k .ret st'
 | .loop c, bid, st, k => (dW bid an.live).bind fun live => vC old live (fun st k => eG C an n old c bid st k) n st k
 | .region rid ops draw, _, st, k => pJ P C an rid ops draw st (fun st' => k .normal st')
 | _, _, _, _ => none
def BX (tmps : List AV) (mem : a9) : List ResultVar → Option (List AV)
 | [] => some []
 | .tmp t :: r => (B9 tmps t).bind fun v => (BX tmps mem r).map (v :: ·)
 | .cell a t :: r => (B9 tmps a).bind fun a => (jJ P t mem a).bind fun o => (BX tmps mem r).map (o.v :: ·)
def qP : List AV → AV
 | [v] => v
 | vs => .tup vs
def Ew (fn : Func) (old : List (Option Bool)) (e : Ex) (st : St) : Option (AV × a9) :=
 match e with
 | .exit _ => none
 | _ => (BX P st.tmps st.mem fn.results.toList).bind fun vs => (rQ old [qP vs] st.mem).bind fun q =>
  match q.1 with
  | [v] => some (v, q.2)
  | _ => none
end
end
end Go.Ab
end
section
namespace Go.Ab
abbrev cl (w : World) (B o : Nat) : Option Value := w.cell? ⟨B, o, none⟩
inductive PR (w : World) (pr : Nat → Nat → Prop) : PV → Value → Prop
 | lit (v : Value) (h : v.oneCell' = true) : PR w pr (.lit v) v
 | intsNil (k : IntKind) (a : Option Addr) : PR w pr (.ints k []) (.slice a 0 0)
 | ints (k : IntKind) (xs : List Int) (B o cap : Nat) (hcap : xs.length ≤ cap)
   (h : ∀ i x, xs[i]? = some x → cl w B (o + i) = some (.int k x) ∧ pr B (o + i)) : PR w pr (.ints k xs) (.slice (some ⟨B, o, none⟩) xs.length cap)
 | slNil (e : Nat) (a : Option Addr) : PR w pr (.sl e []) (.slice a 0 0)
 | sl (e : Nat) (xs : List PV) (B o cap : Nat) (cv : Nat → Nat → Value) (he : 1 ≤ e) (hcap : xs.length ≤ cap) (hlen : ∀ x ∈ xs, x.cells.length = e)
   (h : ∀ i x c y, xs[i]? = some x → x.cells[c]? = some y → cl w B (o + i * e + c) = some (cv i c) ∧ pr B (o + i * e + c))
   (h1 : ∀ i x c y, xs[i]? = some x → x.cells[c]? = some y → (cv i c).oneCell' = true)
   (hr : ∀ i x c y, xs[i]? = some x → x.cells[c]? = some y → PR w pr y (cv i c)) : PR w pr (.sl e xs) (.slice (some ⟨B, o, none⟩) xs.length cap)
 | agg (cs : List PV) (cvs : Array Value) (hlen : cs.length = cvs.size) (h : ∀ j y, cs[j]? = some y → PR w pr y (cvs.getD j undef)) : PR w pr (.agg cs) (.agg cvs)
def PV.isSl : PV → Bool
 | .ints _ _ => true
 | .sl _ _ => true
 | _ => false
structure yW where
 blk : Option Nat
 e : Nat
 n : Nat
structure Gh where
 loc : Nat → Nat → Option yW
 prot : Bool → Nat → Nat → Prop
 mine : Nat → Prop
def Cp (w : World) (B k : Nat) : Prop := ∀ j, j < k → (cl w B j).isSome = true
inductive VR (G : Gh) (w : World) : AV → Value → Prop
 | lit (v : Value) (h : mJ v = true) : VR G w (.lit v) v
 | imm (β : Bool) (p : PV) (v : Value) (h : PR w (G.prot β) p v) (hs : p.isSl = true) : VR G w (.imm β p) v
 | unkB (b : Bool) : VR G w (.imm true (.lit (.bool false))) (.bool b)
 | dead (v : Value) (h1 : v.oneCell' = true) (h2 : mJ v = true) : VR G w (.imm false (.agg [])) v
 | ptr (b g i c : Nat) (L : yW) (B : Nat) (hl : G.loc b g = some L) (hb : L.blk = some B) : VR G w (.ptr b g i c) (.pointer (some ⟨B, i * L.e + c, none⟩))
 | ms (b g o n cap : Nat) (L : yW) (B : Nat) (hl : G.loc b g = some L) (hb : L.blk = some B) (hn : n ≤ cap) (hon : o + n ≤ L.n) (hf : Cp w B ((o + cap) * L.e)) :
   VR G w (.ms b g o n) (.slice (some ⟨B, o * L.e, none⟩) n cap)
 | msNil (b g : Nat) (L : yW) (hl : G.loc b g = some L) (hb : L.blk = none) : VR G w (.ms b g 0 0) (.slice none 0 0)
 | msZ (b g o B oo : Nat) (L : yW) (hl : G.loc b g = some L) (hb : L.blk = some B) (ho : 1 ≤ o) (hon : o ≤ L.n) : VR G w (.ms b g o 0) (.slice (some ⟨B, oo, none⟩) 0 0)
 | msw (b g cap : Nat) (L : yW) (B : Nat) (hl : G.loc b g = some L) (hb : L.blk = some B) (hn : L.n ≤ cap) (hf : Cp w B (cap * L.e)) :
   VR G w (.msw b g) (.slice (some ⟨B, 0, none⟩) L.n cap)
 | mswNil (b g : Nat) (L : yW) (hl : G.loc b g = some L) (hb : L.blk = none) (hn : L.n = 0) : VR G w (.msw b g) (.slice none 0 0)
 | el (β : Bool) (p : PV) (c B o : Nat) (cv : Nat → Value)
   (h : ∀ j y, p.cells[j]? = some y → cl w B (o + j) = some (cv j) ∧ G.prot β B (o + j))
   (hr : ∀ j y, p.cells[j]? = some y → PR w (G.prot β) y (cv j)) : VR G w (.el β p c) (.pointer (some ⟨B, o + c, none⟩))
 | fn (f : Fn) (fi ca : List AV) (fv cv : Array Value) (h1 : fi.length = fv.size) (h2 : ca.length = cv.size)
   (hf : ∀ (j : Nat) (y : AV), fi[j]? = some y → VR G w y (fv.getD j undef)) (hc : ∀ (j : Nat) (y : AV), ca[j]? = some y → VR G w y (cv.getD j undef)) : VR G w (.fn f fi ca) (.func f fv cv)
 | agg (cs : List AV) (cvs : Array Value) (hlen : cs.length = cvs.size) (h : ∀ (j : Nat) (y : AV), cs[j]? = some y → VR G w y (cvs.getD j undef)) : VR G w (.agg cs) (.agg cvs)
 | tup (cs : List AV) (cvs : Array Value) (hlen : cs.length = cvs.size) (h : ∀ (j : Nat) (y : AV), cs[j]? = some y → VR G w y (cvs.getD j undef)) : VR G w (.tup cs) (.tuple cvs)
structure Ev (G : Gh) (w w' : World) : Prop where
 size : w.heap.size ≤ w'.heap.size
 out : w'.output = w.output
 os : w'.os = w.os
 away : ∀ B, B < w.heap.size → ¬ G.mine B → w'.heap[B]? = w.heap[B]?
 some : ∀ B o, (cl w B o).isSome = true → (cl w' B o).isSome = true
 prot : ∀ β B o, G.prot β B o → cl w' B o = cl w B o
 fz : ∀ B o, (cl w B o).isSome = true → w'.frozen? ⟨B, o, none⟩ = w.frozen? ⟨B, o, none⟩
 tape : w'.tape = w.tape
structure eA (G G' : Gh) : Prop where
 mine : G'.mine = G.mine
 prot : ∀ β B o, G.prot β B o → G'.prot β B o
 loc : ∀ b g L, G.loc b g = some L → G'.loc b g = some L
 new : ∀ β B o, G'.prot β B o → G.prot β B o ∨ G.mine B
theorem eA.refl (G : Gh) : eA G G := ⟨rfl, fun _ _ _ h => h, fun _ _ _ h => h, fun _ _ _ h => .inl h⟩
theorem eA.trans {G A H : Gh} (h : eA G A) (z : eA A H) : eA G H :=
 ⟨z.mine.trans h.mine, fun _ _ _ x => z.prot _ _ _ (h.prot _ _ _ x), fun _ _ _ x => z.loc _ _ _ (h.loc _ _ _ x), fun _ _ _ x => (z.new _ _ _ x).elim (h.new _ _ _) (fun y => .inr (by rw [← h.mine]; exact y))⟩
theorem Ev.refl (G : Gh) (w : World) : Ev G w w := ⟨yz _, rfl, rfl, fun _ _ _ => rfl, fun _ _ h => h, fun _ _ _ _ => rfl, fun _ _ _ => rfl, rfl⟩
theorem Ev.trans {G A : Gh} {w J H : World} (h : Ev G w J) (K : eA G A) (z : Ev A J H) : Ev G w H where
 size := yt2 h.size z.size
 out := z.out.trans h.out
 os := z.os.trans h.os
 away B hb hm := (z.away B (yn2 hb h.size) (by rw [K.mine]; exact hm)).trans (h.away B hb hm)
 some B o x := z.some B o (h.some B o x)
 prot β B o x := (z.prot β B o (K.prot _ _ _ x)).trans (h.prot β B o x)
 fz B o x := (z.fz B o (h.some B o x)).trans (h.fz B o x)
 tape := z.tape.trans h.tape
theorem Ev.of_eq {G : Gh} {w z : World} (A : z.heap = w.heap) (K : z.output = w.output) (J : z.os = w.os) (ht : z.tape = w.tape) : Ev G w z := by
 have H : ∀ a, z.cell? a = w.cell? a := fun a => by unfold World.cell?; rw [A]
 exact ⟨by rw [A]; exact yz _, K, J, fun B _ _ => by rw [A], fun B o h => by rw [cl, H]; exact h, fun _ _ _ _ => H _, fun _ _ _ => by unfold World.frozen?; rw [A], ht⟩
theorem PR.mono {w N : World} {J H : Nat → Nat → Prop} (M : ∀ B o, J B o → H B o) (O : ∀ B o, J B o → cl N B o = cl w B o)
  {p : PV} {v : Value} (h : PR w J p v) : PR N H p v := by
 induction h with
 | lit v h => exact .lit v h
 | intsNil k a => exact .intsNil k a
 | ints k xs B o cap A h => exact .ints k xs B o cap A fun i x hx => ⟨(O _ _ (h i x hx).2).trans (h i x hx).1, M _ _ (h i x hx).2⟩
 | slNil e a => exact .slNil e a
 | sl e xs B o cap cv U A z h h1 hr K =>
  exact .sl e xs B o cap cv U A z (fun i x c y h1 h2 => ⟨(O _ _ (h i x c y h1 h2).2).trans (h i x c y h1 h2).1, M _ _ (h i x c y h1 h2).2⟩) h1 (fun i x c y h1 h2 => K i x c y h1 h2)
 | agg cs cvs z h K => exact .agg cs cvs z fun j y V => K j y V
theorem Cp.mono {G : Gh} {w z : World} (A : Ev G w z) {B k : Nat} (h : Cp w B k) : Cp z B k := fun j H => A.some B j (h j H)
theorem VR.mono {G W : Gh} {w V : World} (H : eA G W) (K : Ev G w V) {a : AV} {v : Value} (h : VR G w a v) : VR W V a v := by
 induction h with
 | lit v h => exact .lit v h
 | imm β p v h hs => exact .imm β p v (h.mono (H.prot β) (K.prot β)) hs
 | unkB b => exact .unkB b
 | dead v h1 h2 => exact .dead v h1 h2
 | ptr b g i c L B hl A => exact .ptr b g i c L B (H.loc _ _ _ hl) A
 | ms b g o n cap L B hl A hn J hf => exact .ms b g o n cap L B (H.loc _ _ _ hl) A hn J (hf.mono K)
 | msNil b g L hl A => exact .msNil b g L (H.loc _ _ _ hl) A
 | msZ b g o B Z L hl A ho J => exact .msZ b g o B Z L (H.loc _ _ _ hl) A ho J
 | msw b g cap L B hl A hn hf => exact .msw b g cap L B (H.loc _ _ _ hl) A hn (hf.mono K)
 | mswNil b g L hl A hn => exact .mswNil b g L (H.loc _ _ _ hl) A hn
 | el β p c B o cv h hr =>
  exact .el β p c B o cv (fun j y M => ⟨(K.prot _ _ _ (h j y M).2).trans (h j y M).1, H.prot _ _ _ (h j y M).2⟩) (fun j y M => (hr j y M).mono (H.prot β) (K.prot β))
 | fn f Y ca fv cv h1 h2 hf hc U N => exact .fn f Y ca fv cv h1 h2 U N
 | agg cs cvs z h O => exact .agg cs cvs z O
 | tup cs cvs z h O => exact .tup cs cvs z O
def o6 (G : Gh) (w : World) (as : List AV) (vs : Array Value) : Prop := as.length = vs.size ∧ ∀ (j : Nat) (y : AV), as[j]? = some y → VR G w y (vs.getD j undef)
theorem o6.mono {G A : Gh} {w z : World} (K : eA G A) (H : Ev G w z) {as : List AV} {vs : Array Value} (h : o6 G w as vs) : o6 A z as vs :=
 ⟨h.1, fun j y J => (h.2 j y J).mono K H⟩
def pX (G : Gh) (w : World) (B : Nat) : cI → Prop
 | .ints k xs => ∀ i x, xs[i]? = some x → cl w B i = some (.int k x)
 | .pvs β e xs => (∀ x ∈ xs, x.cells.length = e) ∧ ∀ (i : Nat) (x : PV) (c : Nat) (y : PV), xs[i]? = some x → x.cells[c]? = some y → ∃ v, cl w B (i * e + c) = some v ∧ v.oneCell' = true ∧ PR w (G.prot β) y v
 | .cells e cs => cs.length = e * bD e cs.length ∧ ∀ (j : Nat) (y : AV), cs[j]? = some y → ∃ v, cl w B j = some v ∧ v.oneCell' = true ∧ VR G w y v
def jI (w : World) (B : Nat) : Prop := ∃ c el lo hi, w.heap[B]? = some (.cells c el (lo, hi)) ∧ (lo = hi ∨ c.size ≤ lo)
theorem jI.cell {w : World} {B : Nat} (h : jI w B) {o : Nat} (z : (cl w B o).isSome = true) : w.frozen? ⟨B, o, none⟩ = false := by
 obtain ⟨c, el, lo, hi, A, hf⟩ := h
 unfold cl World.cell? at z
 simp only [A, Option.isSome_none, yg2, if_false] at z
 have H : o < c.size := by
  rcases ya2 o c.size with h | h
  ·exact h
  ·rw [Array.getElem?_eq_none h] at z; cases z
 unfold World.frozen?
 simp only [A, Bool.and_eq_false_iff, decide_eq_false_iff_not]
 omega
theorem jI.of_heap {w z : World} {B : Nat} (h : jI w B) (K : z.heap[B]? = w.heap[B]?) : jI z B := by
 obtain ⟨c, el, A, J, H, hf⟩ := h
 exact ⟨c, el, A, J, by rw [K]; exact H, hf⟩
structure Pq (G : Gh) (w : World) (b : Nat) (x : d8) : Prop where
 e : 1 ≤ x.row.e
 loc : ∃ o, G.loc b x.gen = some ⟨o, x.row.e, x.row.len⟩ ∧
  match o with
  | none => x.row.len = 0 ∧ x.row.isCells = false
  | some B => G.mine B ∧ B < w.heap.size ∧ jI w B ∧ pX G w B x.row ∧ (x.frz = false → ∀ β o, ¬ G.prot β B o)
variable [cD]
def n9 (G : Gh) (w : World) : Prop := ∀ (g : Nat) (q : Int × Int), cD.tab g = some q → (cl w g 0 = some (.int .i64 q.1) ∧ G.prot true g 0) ∧ cl w g 1 = some (.int .i64 q.2) ∧ G.prot true g 1
theorem n9.mono {G K : Gh} {w A : World} (h : n9 G w) (H : ∀ B o, G.prot true B o → K.prot true B o) (J : ∀ B o, G.prot true B o → cl A B o = cl w B o) : n9 K A := fun g q z =>
 ⟨⟨(J _ _ (h g q z).1.2).trans (h g q z).1.1, H _ _ (h g q z).1.2⟩, (J _ _ (h g q z).2.2).trans (h g q z).2.1, H _ _ (h g q z).2.2⟩
structure aT (G : Gh) (w : World) (mem : a9) : Prop where
 box : ∀ (b : Nat) (x : d8), mem[b]? = some (some x) → Pq G w b x
 unset : ∀ b g, (∀ x : d8, mem[b]? ≠ some (some x)) → G.loc b g = none
 gens : ∀ (b : Nat) (x : d8) (g : Nat), mem[b]? = some (some x) → x.gen < g → G.loc b g = none
 apart : ∀ (b b' : Nat) (x x' : d8) (L L' : yW) (B : Nat), mem[b]? = some (some x) → mem[b']? = some (some x') → G.loc b x.gen = some L → G.loc b' x'.gen = some L' →
  L.blk = some B → L'.blk = some B → b = b'
 own : ∀ B, w.heap.size ≤ B → G.mine B
 lab : ∀ B o, G.prot false B o → G.prot true B o
 away : ∀ β B o, G.prot β B o → B < w.heap.size
 glob : n9 G w
theorem pX.mono {G N : Gh} {w K : World} (O : eA G N) (M : Ev G w K) {B : Nat} (z : ∀ o, (cl w B o).isSome = true → cl K B o = cl w B o) {r : cI} (h : pX G w B r) : pX N K B r := by
 cases r with
 | ints k xs => exact fun i x hx => by rw [z i (by rw [h i x hx]; rfl)]; exact h i x hx
 | pvs β e xs =>
  refine ⟨h.1, fun i x c y h1 h2 => ?_⟩
  obtain ⟨v, H, A, J⟩ := h.2 i x c y h1 h2
  exact ⟨v, by rw [z _ (by rw [H]; rfl)]; exact H, A, J.mono (O.prot β) (M.prot β)⟩
 | cells e cs =>
  refine ⟨h.1, fun j y U => ?_⟩
  obtain ⟨v, H, A, J⟩ := h.2 j y U
  exact ⟨v, by rw [z _ (by rw [H]; rfl)]; exact H, A, J.mono O M⟩
end Go.Ab
end
section
namespace Go.Ab
variable [cD]
theorem iL {w z : World} {B : Nat} (h : z.heap[B]? = w.heap[B]?) (o : Nat) : cl z B o = cl w B o := by
 unfold cl World.cell?; simp only [h]
theorem Dt {w z : World} {B : Nat} (h : z.heap[B]? = w.heap[B]?) (o : Nat) : z.frozen? ⟨B, o, none⟩ = w.frozen? ⟨B, o, none⟩ := by
 unfold World.frozen?; simp only [h]
theorem Cw {w : World} {B o : Nat} (h : (cl w B o).isSome = true) : B < w.heap.size := by
 obtain ⟨u, z⟩ := Option.isSome_iff_exists.1 h
 exact World.block_lt_of_cell? (a := ⟨B, o, none⟩) _ z
def Gh.put (G : Gh) (b g : Nat) (L : yW) : Gh := { G with loc := fun b' g' => if b' = b ∧ g' = g then some L else G.loc b' g' }
theorem Gh.put_self (G : Gh) (b g : Nat) (L : yW) : (G.put b g L).loc b g = some L := by simp [Gh.put]
theorem Gh.put_ne (G : Gh) {b g z g' : Nat} (L : yW) (h : ¬ (z = b ∧ g' = g)) : (G.put b g L).loc z g' = G.loc z g' := by simp [Gh.put, h]
theorem eA.put {G : Gh} {b g : Nat} {L : yW} (h : G.loc b g = none ∨ G.loc b g = some L) : eA G (G.put b g L) := by
 refine ⟨rfl, fun _ _ _ x => x, fun A g' L' z => ?_, fun _ _ _ x => .inl x⟩
 by_cases e : A = b ∧ g' = g
 ·obtain ⟨rfl, rfl⟩ := e
  rw [Gh.put_self]
  rcases h with h | h <;> rw [h] at z <;> simp_all
 ·rw [Gh.put_ne _ _ e]; exact z
theorem aT.upd {G : Gh} {w Z : World} {mem : a9} {b : Nat} {x' : d8} {L : yW} (hM : aT G w mem) (J : Ev G w Z) (hb : b < mem.length)
  (U : G.loc b x'.gen = none ∨ G.loc b x'.gen = some L)
  (K : ∀ (z : Nat) (y : d8) (Y : yW) (B : Nat), z ≠ b → mem[z]? = some (some y) → G.loc z y.gen = some Y → Y.blk = some B → Z.heap[B]? = w.heap[B]?)
  (A : ∀ B, L.blk = some B → ∀ (z : Nat) (y : d8) (Y : yW), z ≠ b → mem[z]? = some (some y) → G.loc z y.gen = some Y → Y.blk ≠ some B)
  (W : ∀ g, x'.gen < g → G.loc b g = none)
  (V : Pq (G.put b x'.gen L) Z b x') : aT (G.put b x'.gen L) Z (mem.set b (some x')) := by
 have hg := eA.put U
 have H : ∀ (z : Nat) (y : d8), (mem.set b (some x'))[z]? = some (some y) → (z = b ∧ y = x') ∨ (z ≠ b ∧ mem[z]? = some (some y)) := by
  intro z y h
  by_cases e : z = b
  ·subst e; rw [yf1 hb] at h; left; exact ⟨rfl, by simpa using h.symm⟩
  ·rw [yg1 (fun x => e x.symm)] at h; right; exact ⟨e, h⟩
 refine ⟨fun z y h => ?_, fun z g h => ?_, fun z y g h O => ?_, fun b1 b2 y1 y2 L1 L2 B h1 h2 N M k1 k2 => ?_, fun B h => hM.own B (yt2 J.size h), hM.lab, fun β B o h => yn2 (hM.away β B o h) J.size, hM.glob.mono (hg.prot true) (J.prot true)⟩
 ·rcases H z y h with ⟨rfl, rfl⟩ | ⟨e, h⟩
  ·exact V
  ·have hx := hM.box z y h
   obtain ⟨o, hl, hm⟩ := hx.loc
   refine ⟨hx.e, o, hg.loc _ _ _ hl, ?_⟩
   cases o with
   | none => exact hm
   | some B =>
    obtain ⟨hm1, hm2, hm3, hm4, hm5⟩ := hm
    have hh := K z y _ B e h hl rfl
    exact ⟨hm1, yn2 hm2 J.size, hm3.of_heap hh, hm4.mono hg J (fun o _ => iL hh o), hm5⟩
 ·by_cases e : z = b
  ·subst e; exact absurd (yf1 hb) (h x')
  ·rw [Gh.put_ne _ _ (fun x => e x.1)]
   exact hM.unset z g fun x hx => h x (by rw [yg1 (fun x => e x.symm)]; exact hx)
 ·rcases H z y h with ⟨rfl, rfl⟩ | ⟨e, h⟩
  ·rw [Gh.put_ne _ _ (fun x => by omega)]; exact W g O
  ·rw [Gh.put_ne _ _ (fun x => e x.1)]; exact hM.gens z y g h O
 ·rcases H b1 y1 h1 with ⟨f1, f1'⟩ | ⟨e1, g1⟩ <;> rcases H b2 y2 h2 with ⟨f2, f2'⟩ | ⟨e2, g2⟩
  ·rw [f1, f2]
  ·subst f1 f1'
   rw [Gh.put_self] at N; rw [Gh.put_ne _ _ (fun x => e2 x.1)] at M
   obtain rfl : L = L1 := by simpa using N
   exact absurd k2 (A B k1 b2 y2 L2 e2 g2 M)
  ·subst f2 f2'
   rw [Gh.put_self] at M; rw [Gh.put_ne _ _ (fun x => e1 x.1)] at N
   obtain rfl : L = L2 := by simpa using M
   exact absurd k1 (A B k2 b1 y1 L1 e1 g1 N)
  ·rw [Gh.put_ne _ _ (fun x => e1 x.1)] at N; rw [Gh.put_ne _ _ (fun x => e2 x.1)] at M
   exact hM.apart b1 b2 y1 y2 L1 L2 B g1 g2 N M k1 k2
theorem fL {w : World} {o : Obj} {B : Nat} (h : B < w.heap.size) : (w.alloc o).heap[B]? = w.heap[B]? := by
 simp only [World.alloc]; rw [Array.getElem?_push]; rw [if_neg (by omega)]
theorem Bo {w : World} {o : Obj} {B j : Nat} (h : B < w.heap.size) : cl (w.alloc o) B j = cl w B j := iL (fL h) j
theorem lI {w : World} {c : Array Value} {t : TypeId} {fr : Nat × Nat} {j : Nat} : cl (w.alloc (.cells c t fr)) w.heap.size j = c[j]? := by
 unfold cl World.cell? World.alloc; simp
theorem As (w : World) (c : Array Value) (t : TypeId) (a : Addr) : (w.alloc (.cells c t)).frozen? a = w.frozen? a := by
 by_cases h : a.block < w.heap.size
 ·unfold World.frozen?; simp only [fL h]
 ·have h2 : w.heap[a.block]? = none := by simp; omega
  by_cases z : a.block = w.heap.size
  ·have h1 : (w.alloc (.cells c t)).heap[a.block]? = some (.cells c t) := by rw [z]; show (w.heap.push (.cells c t))[w.heap.size]? = _; simp
   unfold World.frozen?; simp [h1, h2]
  ·have h1 : (w.alloc (.cells c t)).heap[a.block]? = none := by show (w.heap.push (.cells c t))[a.block]? = none; rw [Array.getElem?_eq_none]; simp; omega
   unfold World.frozen?; simp [h1, h2]
theorem jI.alloc {w : World} {c : Array Value} {t : TypeId} : jI (w.alloc (.cells c t)) w.heap.size := ⟨c, t, 0, 0, by show (w.heap.push _)[w.heap.size]? = _; simp, .inl rfl⟩
theorem Ev.alloc (G : Gh) (w : World) (o : Obj) (z : ∀ β B x, G.prot β B x → B < w.heap.size) (A : ∃ c t, o = .cells c t := by exact ⟨_, _, rfl⟩) : Ev G w (w.alloc o) where
 size := by simp
 out := rfl
 os := rfl
 away B hb _ := fL hb
 some B j h := by rw [Bo (Cw h)]; exact h
 prot β B j h := Bo (z β B j h)
 fz B o _ := by obtain ⟨c, t, rfl⟩ := A; exact As w c t _
 tape := rfl
theorem Ev.drew (G : Gh) (w : World) : Ev G w w.drew := Ev.of_eq rfl rfl rfl rfl
theorem dU {w : World} {B B' : Nat} (h : B' ≠ B) : ∀ (vs : List Value) (o : Nat) (w : World), (w.setCells B o vs).heap[B']? = w.heap[B']?
 | [], _, _ => rfl
 | v :: r, o, w => by
  rw [World.setCells, dU (w := w) h r]
  exact heap_setCell_other w ⟨B, o, none⟩ B' v h
theorem jX {B : Nat} : ∀ (vs : List Value) (o : Nat) (w : World), (w.setCells B o vs).heap.size = w.heap.size
 | [], _, _ => rfl
 | v :: r, o, w => by rw [World.setCells, jX r]; simp
theorem pP {B : Nat} : ∀ (vs : List Value) (o : Nat) (w : World), (w.setCells B o vs).output = w.output ∧ (w.setCells B o vs).os = w.os
 | [], _, _ => ⟨rfl, rfl⟩
 | v :: r, o, w => by rw [World.setCells]; exact pP r _ _
theorem vL {B : Nat} : ∀ (vs : List Value) (o : Nat) (w : World), (w.setCells B o vs).tape = w.tape
 | [], _, _ => rfl
 | v :: r, o, w => by rw [World.setCells]; exact vL r _ _
theorem mQ {w : World} {B o : Nat} {vs : List Value} (h : ∀ j, j < vs.length → (cl w B (o + j)).isSome = true) {j : Nat} (z : j < vs.length) :
  cl (w.setCells B o vs) B (o + j) = some vs[j] := World.cell?_setCells_in B vs o w h j z
theorem kZ {w : World} {B o : Nat} {vs : List Value} {j : Nat} (h : j < o ∨ o + vs.length ≤ j) : cl (w.setCells B o vs) B j = cl w B j :=
 World.cell?_setCells_out B vs o w ⟨B, j, none⟩ (fun _ _ => h)
theorem AL {w : World} {B o : Nat} {vs : List Value} (h : ∀ j, j < vs.length → (cl w B (o + j)).isSome = true) {B' j : Nat} (z : (cl w B' j).isSome = true) :
  (cl (w.setCells B o vs) B' j).isSome = true := by
 by_cases e : B' = B
 ·subst e
  by_cases A : j < o ∨ o + vs.length ≤ j
  ·rw [kZ A]; exact z
  ·obtain ⟨k, rfl⟩ : ∃ k, j = o + k := ⟨j - o, by omega⟩
   rw [mQ h (by omega)]; rfl
 ·rw [iL (dU (w := w) e vs o w)]; exact z
theorem BZ {w : World} {B o : Nat} {vs : List Value} (a : Addr) : (w.setCells B o vs).frozen? a = w.frozen? a := World.frozen?_setCells B vs o w a
theorem jI.setCell {w : World} {B o : Nat} {v : Value} (h : jI w B) : jI (w.setCell ⟨B, o, none⟩ v) B := by
 obtain ⟨c, el, z, H, A, hf⟩ := h
 refine ⟨c.setIfInBounds o v, el, z, H, ?_, by simpa using hf⟩
 unfold World.setCell
 simp [Array.getElem?_modify, A]
theorem jI.setCells {B : Nat} : ∀ {vs : List Value} {o : Nat} {w : World}, jI w B → jI (w.setCells B o vs) B
 | [], _, _, h => h
 | v :: r, o, w, h => by rw [World.setCells]; exact jI.setCells h.setCell
theorem Ev.setCells {G : Gh} {w : World} {B o : Nat} {vs : List Value} (hm : G.mine B) (h : ∀ j, j < vs.length → (cl w B (o + j)).isSome = true)
  (z : ∀ β j, ¬ G.prot β B j) : Ev G w (w.setCells B o vs) where
 size := by rw [jX]; exact yz _
 out := (pP vs o w).1
 os := (pP vs o w).2
 away B' hb hn := dU (w := w) (fun e : B' = B => hn (by rw [e]; exact hm)) vs o w
 some B' j hs := AL h hs
 prot β B' j hj := by
  by_cases e : B' = B
  ·subst e; exact absurd hj (z β j)
  ·exact iL (dU (w := w) e vs o w) j
 fz B o _ := BZ _
 tape := vL vs o w
theorem aT.make {G : Gh} {w : World} {mem : a9} {b : Nat} {row : cI} {c : Array Value} {t : TypeId} (hM : aT G w mem) (M : mem[b]? = some none)
  (Y : 1 ≤ row.e) (W : pX (G.put b 0 ⟨some w.heap.size, row.e, row.len⟩) (w.alloc (.cells c t)) w.heap.size row) :
  aT (G.put b 0 ⟨some w.heap.size, row.e, row.len⟩) (w.alloc (.cells c t)) (mem.set b (some { gen := 0, frz := false, row })) := by
 have K : b < mem.length := by
  rcases ya2 b mem.length with h | h
  ·exact h
  ·rw [ya1 h] at M; cases M
 have H : ∀ g, G.loc b g = none := fun g => hM.unset b g (fun x hx => by rw [M] at hx; cases hx)
 have N := Ev.alloc G w (.cells c t) hM.away
 refine hM.upd (x' := { gen := 0, frz := false, row }) N K (.inl (H 0)) ?_ ?_ (fun g _ => H g) ?_
 ·intro J y U B _ O hl A
  obtain ⟨o, z, hm⟩ := (hM.box J y O).loc
  rw [hl] at z
  obtain rfl : U = ⟨o, y.row.e, y.row.len⟩ := by simpa using z
  simp only at A; subst A
  exact fL hm.2.1
 ·intro B hB J y U _ O hl A
  simp only [Option.some.injEq] at hB; subst hB
  obtain ⟨o, z, hm⟩ := (hM.box J y O).loc
  rw [hl] at z
  obtain rfl : U = ⟨o, y.row.e, y.row.len⟩ := by simpa using z
  simp only at A; subst A
  exact absurd hm.2.1 (Nat.lt_irrefl _)
 ·refine ⟨Y, some w.heap.size, by simp [Gh.put], hM.own _ (yz _), by simp, jI.alloc, W, fun _ β o V => ?_⟩
  ·exact absurd (hM.away β _ o V) (Nat.lt_irrefl _)
theorem aT.ev {G : Gh} {w J : World} {mem : a9} (hM : aT G w mem) (z : Ev G w J) (hs : J.heap.size = w.heap.size ∨ w.heap.size ≤ J.heap.size)
  (A : ∀ B, B < w.heap.size → J.heap[B]? = w.heap[B]?) : aT G J mem where
 box b x h := by
  have hx := hM.box b x h
  obtain ⟨o, hl, hm⟩ := hx.loc
  refine ⟨hx.e, o, hl, ?_⟩
  cases o with
  | none => exact hm
  | some B =>
   obtain ⟨N, H, K, M, O⟩ := hm
   have U := A B H
   exact ⟨N, yn2 H z.size, K.of_heap U, M.mono (eA.refl G) z (fun o _ => iL U o), O⟩
 unset := hM.unset
 gens := hM.gens
 apart := hM.apart
 own B h := hM.own B (yt2 z.size h)
 lab := hM.lab
 away β B o h := yn2 (hM.away β B o h) z.size
 glob := hM.glob.mono (fun _ _ h => h) (z.prot true)
end Go.Ab
end
section
namespace Go.Ab
variable [cD]
theorem aB {α : Type} {c : Bool} {x : Option α} {y : α} : guardB c x = some y ↔ c = true ∧ x = some y := by
 cases c <;> simp [guardB]
theorem j0 {a b : IntKind} : gV a b = true ↔ a = b := by cases a <;> cases b <;> simp [gV]
section
variable {P : Program}
def mK (P : Program) (G : Gh) (w : World) (mem : a9) (o : Oper) (a : Act) (out : eM) : Prop :=
 ∃ G' w' nx cv, (execOp a.eval o).run P w = .ok nx w' ∧ (nx = .value cv ∨ (nx = .skip ∧ cv = undef)) ∧ VR G' w' out.v cv ∧ eA G G' ∧ Ev G w w' ∧ aT G' w' (out.apply mem)
theorem Ee (v : AV) (rd : List Nat) (mem : a9) : ({ v, rd } : eM).apply mem = mem := by simp [eM.apply, aQ]
theorem mK.pure {G : Gh} {w : World} {mem : a9} {o : Oper} {a : Act} {v : AV} {rd : List Nat} {cv : Value} (hM : aT G w mem)
  (h : (execOp a.eval o).run P w = .ok (.value cv) w) (z : VR G w v cv) : mK P G w mem o a { v, rd } :=
 ⟨G, w, .value cv, cv, h, .inl rfl, z, eA.refl G, Ev.refl G w, by rw [Ee]; exact hM⟩
def Pl (G : Gh) (w : World) (ρ : Operand → Option AV) (a : Act) : Prop := ∀ x v, ρ x = some v → VR G w v (a.eval x)
theorem VR.lit_inv {G : Gh} {w : World} {v cv : Value} (h : VR G w (.lit v) cv) : cv = v := by cases h; rfl
theorem GA (w : World) {t : TypeId} (a b : Bool) (h : P.underlying t = some .bool) : (binOp .eql t (.bool a) (.bool b)).run P w = .ok (.bool (a == b)) w := by
 have : (Op.equal t (.bool a) (.bool b)).run P w = .ok (a == b) w := run_equalIn_bool w 9999 t a b h
 simp only [binOp]; simp [this]
theorem Hl (w : World) {t : TypeId} (a b : Bool) (h : P.underlying t = some .bool) : (binOp .neq t (.bool a) (.bool b)).run P w = .ok (.bool (!(a == b))) w := by
 have : (Op.equal t (.bool a) (.bool b)).run P w = .ok (a == b) w := run_equalIn_bool w 9999 t a b h
 simp only [binOp]; simp [this]
theorem JF {op : BinOp} {t : TypeId} {x y : Operand} {a b r : Value} {w : World} (z : Dp P t a b = true) (h : o8 op a b = some r) :
  (eqGuard op t x y a b).run P w = .ok () w ∧ (binOp op t a b).run P w = .ok r w := by
 unfold o8 at h
 split at h
 ·rename_i k a k' b
  refine ⟨by rw [eqGuard_at_int]; rfl, ?_⟩
  split at h <;> simp only [aB, Option.some.injEq, decide_eq_true_eq, yy, beq_eq_false_iff_ne, ne_eq] at h
  ·obtain ⟨J, rfl⟩ := h
   simp [binOp, Op.shift, Int.not_lt.2 J]
  ·obtain ⟨J, rfl⟩ := h
   simp [binOp, Op.shift, Int.not_lt.2 J]
  all_goals
   first
   | (obtain ⟨A, H, rfl⟩ := h; rw [j0] at A; subst A; simp [binOp, Op.intDiv, H])
   | (obtain ⟨A, rfl⟩ := h; rw [j0] at A; subst A; simp [binOp, Op.intArith, Op.intBits, Op.intCmp])
 ·rename_i a b
  have H : P.underlying t = some .bool := by
   simp only [Dp, Hn] at z
   split at z <;> simp_all
  refine ⟨by rw [eqGuard_at_bool]; rfl, ?_⟩
  split at h <;> simp only [Option.some.injEq, reduceCtorEq] at h
  ·subst h; exact GA w a b H
  ·subst h; exact Hl w a b H
 ·rename_i a b
  refine ⟨by rw [eqGuard_at_string]; rfl, ?_⟩
  split at h <;> simp only [Option.some.injEq, reduceCtorEq] at h
  ·subst h; simp [binOp, Op.stringOp]
  ·subst h; simp [binOp, Op.stringOp]
 ·simp at h
theorem Fc {op : BinOp} {a b r : Value} (h : o8 op a b = some r) : mJ r = true := by
 unfold o8 at h
 repeat' split at h
 all_goals (simp only [aB, Option.some.injEq, reduceCtorEq] at h)
 all_goals first
  | (subst h; rfl)
  | (obtain ⟨_, rfl⟩ := h; rfl)
  | (obtain ⟨_, _, rfl⟩ := h; rfl)
theorem Gp {op : UnOp} {a r : Value} (h : FD op a = some r) : mJ r = true := by
 unfold FD at h
 split at h <;> simp only [Option.some.injEq, reduceCtorEq] at h <;> subst h <;> rfl
theorem Mk {op : UnOp} {a r : Value} {w : World} (h : FD op a = some r) : (Op.unary op a).run P w = .ok r w := by
 unfold FD at h
 split at h <;> simp only [Option.some.injEq, reduceCtorEq] at h <;> subst h <;> simp [Op.unary, Op.intArith, Op.intBits]
theorem BQ {t : TypeId} {d : TypeDesc} (A : P.underlying t = some d) (h1 : ∀ fs, d ≠ .struct fs) (h2 : ∀ n e, d ≠ .array n e) {cs : Array Value} {o : Nat} {v : Value} (z : cs[o]? = some v) (w : World) :
  (part t cs o).run P w = .ok v w := by
 have h : (isAgg t).run P w = .ok false w := by
  simp only [isAgg, Sem.run_bind, run_underlying A, Result.andThen_ok]
  rfl
 simp only [part, Sem.run_bind, h, Result.andThen_ok, yg2, if_false, z]
 rfl
theorem Gu (d : Nat) (G : Gh) (w : World) : ∀ (fs : List Field) (n : Nat) (xs ys : List AV) (as bs : List Value) (A B : Array Value) (r : Bool),
  (xs.length = as.length ∧ ∀ (j : Nat) (y : AV), xs[j]? = some y → VR G w y (as.getD j undef)) → (ys.length = bs.length ∧ ∀ (j : Nat) (y : AV), ys[j]? = some y → VR G w y (bs.getD j undef)) →
  (∀ j : Nat, j < as.length → A[n + j]? = as[j]?) → (∀ j : Nat, j < bs.length → B[n + j]? = bs[j]?) → jY P fs n xs ys = some r →
  (Op.eqFields (d + 1) A B fs).run P w = .ok r w := by
 intro fs
 induction fs with
 | nil =>
  intro n xs ys as bs A B r _ _ _ _ h
  cases xs <;> cases ys <;> simp [jY] at h
  subst h
  simp [Op.eqFields]
 | cons f fs ih =>
  intro n xs ys as bs A B r V W hA hB h
  cases xs with
  | nil => simp [jY] at h
  | cons x xs =>
  cases ys with
  | nil => simp [jY] at h
  | cons y ys =>
  cases as with
  | nil => simp at V
  | cons a as =>
  cases bs with
  | nil => simp at W
  | cons b bs =>
   have h1 := V.2 0 x rfl
   have h2 := W.2 0 y rfl
   simp only [List.getD_cons_zero] at h1 h2
   have ha' : xs.length = as.length ∧ ∀ (j : Nat) (y : AV), xs[j]? = some y → VR G w y (as.getD j undef) := ⟨by simpa using V.1, fun j y hy => by simpa using V.2 (j + 1) y (by simpa using hy)⟩
   have hb' : ys.length = bs.length ∧ ∀ (j : Nat) (y : AV), ys[j]? = some y → VR G w y (bs.getD j undef) := ⟨by simpa using W.1, fun j y hy => by simpa using W.2 (j + 1) y (by simpa using hy)⟩
   simp only [jY, aB, yc, bne_iff_ne, ne_eq] at h
   obtain ⟨⟨hn, z⟩, h⟩ := h
   have z := Nat.eq_of_beq_eq_true z
   obtain ⟨q, K, h⟩ := yo1.1 h
   obtain ⟨r', hr, rfl⟩ := yf.1 h
   have Y : A[f.offset]? = some a := by rw [z]; simpa using hA 0 (by simp)
   have h0b : B[f.offset]? = some b := by rw [z]; simpa using hB 0 (by simp)
   have J : (Op.equalIn (d + 1) f.type a b).run P w = .ok q w ∧ ∃ U, P.underlying f.type = some U ∧ (∀ fs, U ≠ .struct fs) ∧ (∀ n e, U ≠ .array n e) := by
    unfold Ap at K
    split at K
    ·rename_i k1 k x k' y H
     obtain ⟨hk, hq2⟩ := aB.1 K
     rw [j0] at hk; subst hk
     obtain rfl := h1.lit_inv; obtain rfl := h2.lit_inv
     obtain rfl := yb hq2
     exact ⟨run_equalIn_int w d f.type k k1 x y H, _, H, by simp, by simp⟩
    ·rename_i x y H
     obtain rfl := h1.lit_inv; obtain rfl := h2.lit_inv
     obtain rfl := yb K
     exact ⟨run_equalIn_bool w d f.type x y H, _, H, by simp, by simp⟩
    ·rename_i x y H
     obtain rfl := h1.lit_inv; obtain rfl := h2.lit_inv
     obtain rfl := yb K
     exact ⟨run_equalIn_string w d f.type x y H, _, H, by simp, by simp⟩
    ·simp at K
   obtain ⟨Z, U, O, N, M⟩ := J
   have e1 : (Op.eqFields (d + 1) A B (f :: fs)).run P w = (if (!q) = true then (Pure.pure false : Sem Bool) else Op.eqFields (d + 1) A B fs).run P w := by
    simp only [Op.eqFields]
    rw [if_pos hn]
    simp only [Sem.run_bind, BQ O N M Y, BQ O N M h0b, Z, Result.andThen_ok]
   rw [e1]
   cases q with
   | false => rfl
   | true =>
    rw [yu]
    refine Eq.trans ?_ <| ih (n + 1) xs ys as bs A B r' ha' hb' (fun j hj => by have := hA (j + 1) (by simpa using hj); rw [show n + 1 + j = n + (j + 1) by omega]; simpa using this)
     (fun j hj => by have := hB (j + 1) (by simpa using hj); rw [show n + 1 + j = n + (j + 1) by omega]; simpa using this) hr
    rfl
theorem VR.agg_inv {G : Gh} {w : World} {cs : List AV} {cv : Value} (h : VR G w (.agg cs) cv) : ∃ cvs : Array Value, cv = .agg cvs ∧ o6 G w cs cvs := by
 cases h with
 | agg _ cvs z h => exact ⟨cvs, rfl, z, h⟩
theorem vB {G : Gh} {w : World} {t : TypeId} {xs ys : List AV} {A B : Array Value} {r : Bool} (h : lM P t xs ys = some r) (K : o6 G w xs A) (M : o6 G w ys B) (x y : Operand) :
  (Op.equalIn 10000 t (.agg A) (.agg B)).run P w = .ok r w ∧ P.eqGuardType P.depth t = false := by
 unfold lM at h
 split at h
 ·rename_i fs J
  obtain ⟨z, h⟩ := aB.1 h
  simp only [yc, yy] at z
  have hf : P.fieldsOf t = fs := by simp [Program.fieldsOf, J]
  refine ⟨?_, z.2⟩
  rw [show (10000 : Nat) = 9999 + 1 from rfl, run_equalIn_agg w 9999 t A B (by rw [hf]; exact J) z.1, hf]
  have N : ∀ (C : Array Value) (j : Nat), C.toList.getD j undef = C.getD j undef := by
   intro C j; simp [yl, ym]
  exact Gu 9998 G w fs.toList 0 xs ys A.toList B.toList A B r ⟨by simpa using K.1, fun j y H => by rw [N]; exact K.2 j y H⟩ ⟨by simpa using M.1, fun j y H => by rw [N]; exact M.2 j y H⟩
   (fun j _ => by simp) (fun j _ => by simp) h
 ·simp at h
theorem VR.tree_slice {G : Gh} {w : World} {β : Bool} {p : PV} {H : Value} {e : Bool} (J : VR G w (.imm β p) H) (h : jT p = some e) : ∃ a l c, H = .slice a l c ∧ (e = false → a.isNone = false) := by
 cases J with
 | imm _ _ _ K hs =>
  cases K with
  | lit _ _ => cases h
  | intsNil k a => simp only [jT, Option.some.injEq] at h; subst h; exact ⟨_, _, _, rfl, fun h => by cases h⟩
  | ints k xs B o cap z h2 => exact ⟨_, _, _, rfl, fun _ => rfl⟩
  | slNil k a => simp only [jT, Option.some.injEq] at h; subst h; exact ⟨_, _, _, rfl, fun h => by cases h⟩
  | sl e' xs B o cap cv he z A h2 h3 h4 => exact ⟨_, _, _, rfl, fun _ => rfl⟩
  | agg _ _ _ _ => cases h
 | unkB b => cases h
 | dead _ _ _ => cases h
theorem HX {t : TypeId} (h : w8 P t = true) : ∃ e, P.underlying t = some (.slice e) := by
 unfold w8 at h
 split at h
 ·rename_i e z; exact ⟨e, z⟩
 ·cases h
theorem fQ {G : Gh} {w : World} (op : BinOp) (t : TypeId) (x y : Operand) (a b : Option Addr) (l c z h : Nat) : (eqGuard op t x y (.slice a l c) (.slice b z h)).run P w = .ok () w := by
 unfold eqGuard
 split <;> rfl
theorem B7 {w : World} (d : Nat) {t e : TypeId} {a : Option Addr} {l c : Nat} (h : P.underlying t = some (.slice e)) : (Op.equalIn (d + 1) t (.slice a l c) (.slice none 0 0)).run P w = .ok a.isNone w := by
 cases a <;> simp [Op.equalIn, run_underlying h]
theorem lH {G : Gh} {w : World} {op : BinOp} {t : TypeId} {a : Option Addr} {l c : Nat} (A : w8 P t = true) :
  (binOp .eql t (.slice a l c) (.slice none 0 0)).run P w = .ok (.bool a.isNone) w ∧ (binOp .neq t (.slice a l c) (.slice none 0 0)).run P w = .ok (.bool (!a.isNone)) w := by
 obtain ⟨e, z⟩ := HX A
 have h : (Op.equal t (.slice a l c) (.slice none 0 0)).run P w = .ok a.isNone w := B7 9999 z
 constructor
 ·simp only [binOp, Sem.run_bind, h, Result.andThen_ok]; rfl
 ·simp only [binOp, Sem.run_bind, h, Result.andThen_ok]; rfl
theorem Nv {G : Gh} {w : World} {op : BinOp} {t : TypeId} {x y : Operand} {a b r : AV} {M V : Value} (h : qH P op t a b = some r) (H : VR G w a M) (K : VR G w b V) :
    ∃ cv, (eqGuard op t x y M V).run P w = .ok () w ∧ (binOp op t M V).run P w = .ok cv w ∧ VR G w r cv := by
  unfold qH at h
  split at h
  · rename_i β p
    obtain rfl := K.lit_inv
    split at h
    · obtain ⟨z, h⟩ := aB.1 h
      obtain ⟨e, Y, rfl⟩ := yf.1 h
      obtain ⟨O, l, c, rfl, hn⟩ := H.tree_slice Y
      refine ⟨.bool O.isNone, fQ (G := G) _ t x y _ _ _ _ _ _, (lH (G := G) (op := .eql) z).1, ?_⟩
      cases e with
      | true => exact .unkB _
      | false => rw [hn rfl]; exact .lit _ rfl
    · obtain ⟨z, h⟩ := aB.1 h
      obtain ⟨e, Y, rfl⟩ := yf.1 h
      obtain ⟨O, l, c, rfl, hn⟩ := H.tree_slice Y
      refine ⟨.bool (!O.isNone), fQ (G := G) _ t x y _ _ _ _ _ _, (lH (G := G) (op := .neq) z).2, ?_⟩
      cases e with
      | true => exact .unkB _
      | false => rw [hn rfl]; exact .lit _ rfl
    · cases h
  · obtain rfl := H.lit_inv; obtain rfl := K.lit_inv
    split at h
    · obtain ⟨z, h⟩ := aB.1 h
      obtain rfl := yb h
      exact ⟨.bool true, fQ (G := G) _ t x y _ _ _ _ _ _, (lH (G := G) (op := .eql) z).1, .lit _ rfl⟩
    · obtain ⟨z, h⟩ := aB.1 h
      obtain rfl := yb h
      exact ⟨.bool false, fQ (G := G) _ t x y _ _ _ _ _ _, (lH (G := G) (op := .neq) z).2, .lit _ rfl⟩
    · cases h
  · rename_i a b _
    obtain ⟨W, h⟩ := aB.1 h
    obtain ⟨v, Z, rfl⟩ := yf.1 h
    obtain rfl := H.lit_inv; obtain rfl := K.lit_inv
    obtain ⟨h1, h2⟩ := JF (P := P) (x := x) (y := y) (w := w) W Z
    exact ⟨v, h1, h2, .lit v (Fc Z)⟩
  · rename_i as bs
    obtain ⟨A, rfl, hA⟩ := H.agg_inv
    obtain ⟨B, rfl, hB⟩ := K.agg_inv
    split at h
    · obtain ⟨q, N, rfl⟩ := yf.1 h
      obtain ⟨h1, h2⟩ := vB N hA hB x y
      exact ⟨.bool q, run_eqGuard_agg w _ t x y A B h2, by rw [run_eql_struct, h1]; rfl, .lit _ rfl⟩
    · obtain ⟨q, N, rfl⟩ := yf.1 h
      obtain ⟨h1, h2⟩ := vB N hA hB x y
      exact ⟨.bool (!q), run_eqGuard_agg w _ t x y A B h2, by rw [run_neq_struct, h1]; rfl, .lit _ rfl⟩
    · simp at h
  all_goals first
    | (simp at h; done)
    | (obtain rfl := K.lit_inv
       have hp : ∃ p, M = .pointer (some p) := by cases H <;> exact ⟨_, rfl⟩
       obtain ⟨p, rfl⟩ := hp
       split at h
       · obtain ⟨J, h⟩ := aB.1 h
         have U : P.underlying t = some (.pointer (P.pointee t)) := by
           unfold FE at J; split at J <;> simp_all [Program.pointee]
         simp only [Option.some.injEq] at h; subst h
         exact ⟨.bool false, by rw [eqGuard_at_pointer]; rfl, by rw [run_eql_pointer_nil w t _ U]; rfl, .lit _ rfl⟩
       · obtain ⟨J, h⟩ := aB.1 h
         have U : P.underlying t = some (.pointer (P.pointee t)) := by
           unfold FE at J; split at J <;> simp_all [Program.pointee]
         simp only [Option.some.injEq] at h; subst h
         exact ⟨.bool true, by rw [eqGuard_at_pointer]; rfl, by rw [run_neq_pointer_nil w t _ U]; rfl, .lit _ rfl⟩
       · simp at h)
end
end Go.Ab
end
section
namespace Go.Ab
variable [cD]
section
variable {P : Program}
theorem bind_some {α β : Type} {x : Option α} {f : α → Option β} {y : β} : x.bind f = some y ↔ ∃ a, x = some a ∧ f a = some y := yo1
theorem Am {α : Type} {c : Bool} {a b : α} : (bif c then some a else none) = some b ↔ c = true ∧ a = b := by cases c <;> simp
theorem cY {a b : Nat} : Nat.beq a b = true ↔ a = b := ⟨Nat.eq_of_beq_eq_true, fun h => by subst h; exact ys3 a⟩
theorem eT {a b : Nat} : Nat.ble a b = true ↔ a ≤ b := by rw [Nat.ble_eq]
theorem sB {t : TypeId} {b : Bool} (h : isAgg? P t = some b) (w : World) : (isAgg t).run P w = .ok b w := by
 unfold isAgg? at h
 split at h
 ·rename_i d; simp only [isAgg, Sem.run_bind, run_underlying d, Result.andThen_ok]; obtain rfl := yb h; rfl
 ·rename_i d; simp only [isAgg, Sem.run_bind, run_underlying d, Result.andThen_ok]; obtain rfl := yb h; rfl
 ·rename_i z h1 h2 d
  obtain rfl := yb h
  simp only [isAgg, Sem.run_bind, run_underlying d, Result.andThen_ok]
  cases z <;> first | rfl | exact absurd rfl (h1 _) | exact absurd rfl (h2 _ _)
 ·simp at h
theorem Nk {t : TypeId} {n : Nat} (h : k7 P t = some n) : ∃ i, P.info? t = some i ∧ i.size = n := by
 unfold k7 at h
 obtain ⟨i, z, hn⟩ := yf.1 h
 exact ⟨i, z, hn⟩
theorem dV {t : TypeId} {n : Nat} (h : k7 P t = some n) (w : World) : (sizeOf t).run P w = .ok n w := by
 obtain ⟨i, z, rfl⟩ := Nk h
 simp [sizeOf, typeInfo, z]
theorem dK (B o n : Nat) : (⟨B, o, none⟩ : Addr).add n = ⟨B, o + n, none⟩ := by
 unfold Addr.add; split <;> simp_all
theorem p9 {t : TypeId} {n B o : Nat} (z : isAgg? P t = some true) (hn : k7 P t = some n) {w : World} (f : Nat → Value) (h : ∀ j, j < n → cl w B (o + j) = some (f j)) :
  (loadVar t ⟨B, o, none⟩).run P w = .ok (.agg ((List.range n).map f).toArray) w := by
 have hl := run_loadCells (P := P) w ⟨B, o, none⟩ n f (fun j A => by rw [dK]; exact h j A)
 simp only [loadVar, Sem.run_bind, sB z, dV hn, Result.andThen_ok, if_true, hl, Sem.run_pure]
theorem kY {t : TypeId} {B o : Nat} (A : isAgg? P t = some false) {w : World} {v : Value} (h : cl w B o = some v) :
  (loadVar t ⟨B, o, none⟩).run P w = .ok v w := by
 have z : w.cell? ⟨B, o, none⟩ = some v := h
 simp only [loadVar, Sem.run_bind, sB A, Result.andThen_ok, yg2, if_false, run_load, z]
theorem PR.lit_inv {w : World} {z : Nat → Nat → Prop} {v cv : Value} (h : PR w z (.lit v) cv) : cv = v := by cases h; rfl
theorem pY {G : Gh} {w : World} {β : Bool} {l : LK} {q : PV} {a : AV} {v : Value} (h : jQ β l q = some a) (A : PR w (G.prot β) q v) : VR G w a v := by
 unfold jQ at h
 split at h
 ·rw [bind_some] at h; obtain ⟨x, hx, h⟩ := h
  obtain rfl := yb h
  unfold PV.int? at hx
  split at hx
  ·rename_i H n
   rw [Am] at hx; obtain ⟨z, hx⟩ := hx
   subst hx; rw [j0] at z; subst z
   rw [A.lit_inv]; exact .lit _ rfl
  ·simp at hx
 ·rw [bind_some] at h; obtain ⟨x, hx, h⟩ := h
  obtain rfl := yb h
  unfold PV.bool? at hx
  split at hx
  ·obtain rfl := yb hx
   rw [A.lit_inv]; exact .lit _ rfl
  ·simp at hx
 ·rw [bind_some] at h; obtain ⟨x, hx, h⟩ := h
  obtain rfl := yb h
  unfold PV.str? at hx
  split at hx
  ·obtain rfl := yb hx
   rw [A.lit_inv]; exact .lit _ rfl
  ·simp at hx
 ·rw [bind_some] at h; obtain ⟨x, hx, h⟩ := h
  obtain rfl := yb h
  unfold PV.ints? at hx
  split at hx
  ·rename_i H xs
   rw [Am] at hx; obtain ⟨z, hx⟩ := hx
   subst hx; rw [j0] at z; subst z
   exact .imm β _ v A rfl
  ·simp at hx
 ·rw [bind_some] at h; obtain ⟨x, hx, h⟩ := h
  obtain rfl := yb h
  unfold PV.sl? at hx
  split at hx
  ·rename_i e' xs
   rw [Am] at hx; obtain ⟨z, hx⟩ := hx
   subst hx; rw [cY] at z; subst z
   exact .imm β _ v A rfl
  ·simp at hx
theorem lY {G : Gh} {w : World} {β : Bool} {cs : List PV} : ∀ {H : List LK} {c : Nat} {as : List AV}, f8 β cs H c = some as →
  as.length = H.length ∧ ∀ (f : Nat → Value), (∀ (j : Nat) (y : PV), cs[c + j]? = some y → j < H.length → PR w (G.prot β) y (f j)) →
   (∀ j, j < H.length → ∃ y, cs[c + j]? = some y) ∧ ∀ (j : Nat) (y : AV), as[j]? = some y → VR G w y (f j)
 | [], c, as, h => by
  simp [f8] at h; subst h
  exact ⟨rfl, fun f _ => ⟨fun j A => absurd A (by simp), fun j y z => by simp at z⟩⟩
 | l :: r, c, as, h => by
  simp only [f8] at h
  rw [bind_some] at h; obtain ⟨q, K, h⟩ := h
  rw [bind_some] at h; obtain ⟨a, M, h⟩ := h
  rw [bind_some] at h; obtain ⟨V, J, h⟩ := h
  obtain rfl := yb h
  obtain ⟨hl, U⟩ := lY (G := G) (w := w) J
  refine ⟨by simp [hl], fun f hf => ?_⟩
  obtain ⟨N, O⟩ := U (fun j => f (j + 1)) (fun j y z A => hf (j + 1) y (by rw [show c + (j + 1) = c + 1 + j by omega]; exact z) (by simpa using A))
  refine ⟨fun j A => ?_, fun j y z => ?_⟩
  ·cases j with
   | zero => exact ⟨q, K⟩
   | succ j => obtain ⟨y, z⟩ := N j (by simpa using A); exact ⟨y, by rw [show c + (j + 1) = c + 1 + j by omega]; exact z⟩
  ·cases j with
   | zero => simp at z; subst z; exact pY M (hf 0 q K (by simp))
   | succ j => exact O j y (by simpa using z)
theorem F0 {G : Gh} {w : World} {β : Bool} {t : TypeId} {p : PV} {c B o : Nat} {a : AV} {cv : Nat → Value} (h : Le P β t p c = some a)
  (O : ∀ j y, p.cells[j]? = some y → cl w B (o + j) = some (cv j)) (N : ∀ j y, p.cells[j]? = some y → PR w (G.prot β) y (cv j)) :
  ∃ v, (loadVar t ⟨B, o + c, none⟩).run P w = .ok v w ∧ VR G w a v := by
 unfold Le at h
 split at h
 ·rename_i z
  rw [bind_some] at h; obtain ⟨V, W, h⟩ := h
  rw [bind_some] at h; obtain ⟨n, hn, h⟩ := h
  rw [aB] at h; obtain ⟨J, h⟩ := h
  obtain rfl := cY.1 J
  rw [bind_some] at h; obtain ⟨as, K, h⟩ := h
  obtain rfl := yb h
  obtain ⟨hl, hf⟩ := lY (G := G) (w := w) K
  obtain ⟨U, Y⟩ := hf (fun j => cv (c + j)) (fun j y A _ => N _ y A)
  refine ⟨_, p9 z hn (fun j => cv (c + j)) (fun j H => ?_), .agg _ _ (by simp [hl]) fun j y A => ?_⟩
  ·obtain ⟨y, A⟩ := U j H
   rw [show o + c + j = o + (c + j) by omega]; exact O _ y A
  ·have H : j < V.length := by rw [← hl]; exact (yh.1 A).1
   have := Y j y A
   simpa [ym, H] using this
 ·rename_i z
  rw [bind_some] at h; obtain ⟨l, hl, h⟩ := h
  rw [bind_some] at h; obtain ⟨q, M, h⟩ := h
  exact ⟨cv c, kY z (O c q M), pY h (N c q M)⟩
 ·simp at h
theorem box?_some {mem : a9} {b g : Nat} {x : d8} (h : box? mem b g = some x) : mem[b]? = some (some x) ∧ x.gen = g := by
 unfold box? at h
 split at h
 ·rename_i y e
  cases z : Nat.beq y.gen g <;> simp [z] at h
  subst h; exact ⟨e, cY.1 z⟩
 ·simp at h
theorem aT.at_ptr {G : Gh} {w : World} {mem : a9} (hM : aT G w mem) {b g i c : Nat} {x : d8} {cv : Value} (hx : box? mem b g = some x) (h : VR G w (.ptr b g i c) cv) :
  ∃ B, cv = .pointer (some ⟨B, i * x.row.e + c, none⟩) ∧ G.loc b g = some ⟨some B, x.row.e, x.row.len⟩ ∧ G.mine B ∧ B < w.heap.size ∧
   jI w B ∧ pX G w B x.row ∧ (x.frz = false → ∀ β o, ¬ G.prot β B o) := by
 obtain ⟨hm, rfl⟩ := box?_some hx
 have A := hM.box b x hm
 obtain ⟨o, hl, z⟩ := A.loc
 cases h with
 | ptr _ _ _ _ L B hL hB =>
  rw [hl] at hL
  obtain rfl := yb hL
  simp only at hB; subst hB
  obtain ⟨h1, h2, J, K, H⟩ := z
  exact ⟨B, rfl, hl, h1, h2, J, K, H⟩
theorem BM {G : Gh} {w : World} {mem : a9} {t : TypeId} {a : AV} {out : eM} {cv : Value} (hM : aT G w mem) (h : jJ P t mem a = some out) (ha : VR G w a cv) :
  ∃ v rd, out = { v, rd } ∧ ∃ z, (Instr.loadAt t cv).run P w = .ok z w ∧ VR G w v z := by
 unfold jJ at h
 split at h
 ·rename_i β p c
  obtain ⟨v, M, rfl⟩ := yf.1 h
  refine ⟨v, [], rfl, ?_⟩
  cases ha with
  | el _ _ _ B o f h hr =>
   obtain ⟨z, O, H⟩ := F0 (P := P) (w := w) (o := o) (B := B) M (fun j y V => (h j y V).1) hr
   exact ⟨z, by simp [Instr.loadAt, Instr.sureAddr, O], H⟩
 ·rename_i b g i c
  rw [bind_some] at h; obtain ⟨x, hx, h⟩ := h
  obtain ⟨B, rfl, hl, hmine, hB, hfz, N, W⟩ := hM.at_ptr hx ha
  have U : ∀ z, (loadVar t ⟨B, i * x.row.e + c, none⟩).run P w = .ok z w → (Instr.loadAt t (.pointer (some ⟨B, i * x.row.e + c, none⟩))).run P w = .ok z w := by
   intro z hh; simp [Instr.loadAt, Instr.sureAddr, hh]
  obtain ⟨gen, frz, row⟩ := x
  split at h
  ·rename_i e cs A
   simp only at A; subst A
   rw [bind_some] at h; obtain ⟨ag, K, h⟩ := h
   obtain ⟨_, J⟩ := N
   cases ag with
   | true =>
    simp only [yg] at h
    rw [bind_some] at h; obtain ⟨n, hn, h⟩ := h
    rw [aB] at h; obtain ⟨Z, h⟩ := h
    have Z := eT.1 Z
    obtain rfl := yb h
    refine ⟨_, _, rfl, _, U _ (p9 K hn (fun j => (cl w B (i * e + c + j)).getD undef) (fun j hj => ?_)), .agg _ _ ?_ ?_⟩
    ·obtain ⟨v, M, _, _⟩ := J (i * e + c + j) (cs[i * e + c + j]'(by omega)) (yd _)
     show cl w B _ = _
     simp only [cI.e]; rw [M]; rfl
    ·simp; omega
    ·intro j y V
     have hj : j < n := by have := (yh.1 V).1; simp at this; omega
     have hy' : cs[i * e + c + j]? = some y := by
      rw [yi1 hj, yd1] at V; exact V
     obtain ⟨v, M, _, H⟩ := J _ y hy'
     simpa [ym, hj, M] using H
   | false =>
    simp only [ye] at h
    obtain ⟨v, M, rfl⟩ := yf.1 h
    obtain ⟨u, Y, _, H⟩ := J _ v M
    exact ⟨_, _, rfl, u, U _ (kY K Y), H⟩
  ·rename_i k xs A
   simp only at A; subst A
   rw [aB] at h; obtain ⟨hc0, h⟩ := h
   obtain rfl := cY.1 hc0
   rw [aB] at h; obtain ⟨K, h⟩ := h
   obtain ⟨v, M, rfl⟩ := yf.1 h
   have hc := N i v M
   have hag' : isAgg? P t = some false := by
    cases hh : isAgg? P t with
    | none => simp [hh] at K
    | some q => cases q <;> simp [hh] at K ⊢
   exact ⟨_, _, rfl, _, U _ (kY hag' (by simpa [cI.e] using hc)), .lit _ rfl⟩
  ·rename_i β e xs A
   simp only at A; subst A
   rw [bind_some] at h; obtain ⟨p, hp, h⟩ := h
   obtain ⟨v, M, rfl⟩ := yf.1 h
   obtain ⟨_, J⟩ := N
   obtain ⟨z, O, H⟩ := F0 (P := P) (w := w) (G := G) (o := i * e) (B := B) (cv := fun j => (cl w B (i * e + j)).getD undef) M
    (fun j y V => by obtain ⟨u, Y, _, _⟩ := J i p j y hp V; rw [Y]; rfl)
    (fun j y V => by obtain ⟨u, Y, _, W⟩ := J i p j y hp V; rw [Y]; exact W)
   exact ⟨_, _, rfl, z, U _ O, H⟩
 ·simp at h
end
end Go.Ab
end
section
namespace Go.Ab
variable [cD]
section
variable {P : Program}
theorem Ai {α : Type} {xs : List α} {i : Int} {v : α} (h : aD xs i = some v) : 0 ≤ i ∧ i.toNat < xs.length ∧ xs[i.toNat]? = some v := by
 unfold aD at h
 cases z : decide (0 ≤ i) <;> simp only [z, yg, ye, reduceCtorEq] at h
 exact ⟨of_decide_eq_true z, (yh.1 h).1, h⟩
theorem f7 (k : IntKind) (i : Int) (w : World) : (asIntOf (.int k i)).run P w = .ok (k, i) w := rfl
theorem fR {t h : TypeId} {s B o len cap : Nat} {k : IntKind} {i : Int} (z : P.underlying t = some (.slice h)) (H : k7 P h = some s) (A : 0 ≤ i) (h1 : i < (len : Int)) (w : World) :
  (Instr.indexAt t (.slice (some ⟨B, o, none⟩) len cap) (.int k i)).run P w = .ok (.pointer (some ⟨B, o + i.toNat * s, none⟩)) w := by
 simp only [Instr.indexAt, Sem.run_bind, f7, Result.andThen_ok, run_underlying z, Sem.run_pure, A, h1, and_self, if_true, dV H, dK]
theorem yS {t h : TypeId} {s B o n : Nat} {k : IntKind} {i : Int} (z : P.underlying t = some (.array n h)) (H : k7 P h = some s) (A : 0 ≤ i) (h1 : i < (n : Int)) (w : World) :
  (Instr.indexAt t (.pointer (some ⟨B, o, none⟩)) (.int k i)).run P w = .ok (.pointer (some ⟨B, o + i.toNat * s, none⟩)) w := by
 simp only [Instr.indexAt, Sem.run_bind, f7, Result.andThen_ok, run_underlying z, Sem.run_pure, A, h1, and_self, if_true, dV H, dK, Instr.sureAddr]
theorem aT.at_ms {G : Gh} {w : World} {mem : a9} (hM : aT G w mem) {b g o n : Nat} {x : d8} {cv : Value} (hx : box? mem b g = some x) (h : VR G w (.ms b g o n) cv) :
  (∃ B cap, cv = .slice (some ⟨B, o * x.row.e, none⟩) n cap ∧ n ≤ cap ∧ o + n ≤ x.row.len ∧ G.loc b g = some ⟨some B, x.row.e, x.row.len⟩ ∧ Cp w B ((o + cap) * x.row.e) ∧ G.mine B ∧ B < w.heap.size ∧
   jI w B ∧ pX G w B x.row ∧ (x.frz = false → ∀ β o, ¬ G.prot β B o)) ∨
  (cv = .slice none 0 0 ∧ o = 0 ∧ n = 0 ∧ x.row.len = 0 ∧ G.loc b g = some ⟨none, x.row.e, x.row.len⟩) ∨
  (∃ B A, cv = .slice (some ⟨B, A, none⟩) 0 0 ∧ 1 ≤ o ∧ n = 0 ∧ o ≤ x.row.len ∧ G.loc b g = some ⟨some B, x.row.e, x.row.len⟩) := by
 obtain ⟨hm, rfl⟩ := box?_some hx
 have J := hM.box b x hm
 obtain ⟨A, hl, H⟩ := J.loc
 cases h with
 | ms _ _ _ _ cap L B hL hB hn z hf =>
  rw [hl] at hL
  obtain rfl := yb hL
  simp only at hB; subst hB
  obtain ⟨h1, h2, M, O, K⟩ := H
  exact .inl ⟨B, cap, rfl, hn, z, hl, hf, h1, h2, M, O, K⟩
 | msNil _ _ L hL hB =>
  rw [hl] at hL
  obtain rfl := yb hL
  simp only at hB; subst hB
  exact .inr (.inl ⟨rfl, rfl, rfl, H.1, hl⟩)
 | msZ _ _ _ B A L hL hB N z =>
  rw [hl] at hL
  obtain rfl := yb hL
  simp only at hB; subst hB
  exact .inr (.inr ⟨B, A, rfl, N, rfl, z, hl⟩)
theorem aT.at_msw {G : Gh} {w : World} {mem : a9} (hM : aT G w mem) {b g : Nat} {x : d8} {cv : Value} (hx : box? mem b g = some x) (h : VR G w (.msw b g) cv) :
  (∃ B cap, cv = .slice (some ⟨B, 0, none⟩) x.row.len cap ∧ x.row.len ≤ cap ∧ G.loc b g = some ⟨some B, x.row.e, x.row.len⟩ ∧ Cp w B (cap * x.row.e) ∧ G.mine B ∧ B < w.heap.size ∧
   jI w B ∧ pX G w B x.row ∧ (x.frz = false → ∀ β o, ¬ G.prot β B o)) ∨
  (cv = .slice none 0 0 ∧ x.row.len = 0 ∧ x.row.isCells = false ∧ G.loc b g = some ⟨none, x.row.e, x.row.len⟩) := by
 obtain ⟨hm, rfl⟩ := box?_some hx
 have A := hM.box b x hm
 obtain ⟨oo, hl, z⟩ := A.loc
 cases h with
 | msw _ _ cap L B hL hB hn hf =>
  rw [hl] at hL
  obtain rfl := yb hL
  simp only at hB; subst hB
  obtain ⟨h1, h2, J, K, H⟩ := z
  exact .inl ⟨B, cap, rfl, hn, hl, hf, h1, h2, J, K, H⟩
 | mswNil _ _ L hL hB hn =>
  rw [hl] at hL
  obtain rfl := yb hL
  simp only at hB; subst hB
  exact .inr ⟨rfl, z.1, z.2, hl⟩
theorem Ha {G : Gh} {w : World} {mem : a9} {t : TypeId} {x : AV} {k : IntKind} {i : Int} {out : eM} {cv : Value} (hM : aT G w mem) (h : i7 P t mem x i = some out) (hx : VR G w x cv) :
  ∃ v rd, out = { v, rd } ∧ ∃ O, (Instr.indexAt t cv (.int k i)).run P w = .ok O w ∧ VR G w v O := by
 unfold i7 at h
 split at h
 ·rename_i et M
  rw [bind_some] at h; obtain ⟨s, N, h⟩ := h
  split at h
  ·rename_i β kk xs
   rw [aB] at h; obtain ⟨z, h⟩ := h
   obtain rfl := cY.1 z
   rw [bind_some] at h; obtain ⟨v, W, h⟩ := h
   obtain rfl := yb h
   obtain ⟨J, h1, h2⟩ := Ai W
   refine ⟨_, _, rfl, ?_⟩
   cases hx with
   | imm _ _ _ V =>
    cases V with
    | intsNil => simp at h1
    | ints _ _ B o cap U Y =>
     refine ⟨_, fR M N J (by omega) w, ?_⟩
     have := Y _ _ h2
     refine .el β _ 0 B (o + i.toNat * 1) (fun _ => .int kk v) (fun j y H => ?_) (fun j y H => ?_)
     ·cases j with
      | zero => simpa using this
      | succ j => simp [PV.cells] at H
     ·cases j with
      | zero => simp [PV.cells] at H; subst H; exact .lit _ rfl
      | succ j => simp [PV.cells] at H
  ·rename_i β e xs
   rw [aB] at h; obtain ⟨z, h⟩ := h
   obtain rfl := cY.1 z
   rw [bind_some] at h; obtain ⟨v, W, h⟩ := h
   obtain rfl := yb h
   obtain ⟨J, h1, h2⟩ := Ai W
   refine ⟨_, _, rfl, ?_⟩
   cases hx with
   | imm _ _ _ V =>
    cases V with
    | slNil => simp at h1
    | sl _ _ B o cap cv he U Z Y h1' hr =>
     refine ⟨_, fR M N J (by omega) w, ?_⟩
     exact .el β _ 0 B (o + i.toNat * s) (fun j => cv i.toNat j) (fun j y H => Y _ _ _ _ h2 H) (fun j y H => hr _ _ _ _ h2 H)
  ·rename_i b g o n
   rw [bind_some] at h; obtain ⟨bx, K, h⟩ := h
   rw [aB] at h; obtain ⟨A, h⟩ := h
   simp only [yc, decide_eq_true_eq] at A
   obtain ⟨⟨z, J⟩, h1⟩ := A
   obtain rfl := cY.1 z
   obtain rfl := yb h
   refine ⟨_, _, rfl, ?_⟩
   rcases hM.at_ms K hx with ⟨B, cap, rfl, hn, hon, hl, _⟩ | ⟨rfl, rfl, rfl, _⟩ | ⟨B, oo, rfl, _, rfl, _⟩
   ·refine ⟨_, fR M N J h1 w, ?_⟩
    have := VR.ptr (G := G) (w := w) b g (o + i.toNat) 0 _ B hl rfl
    simpa [yt1] using this
   ·simp at h1; omega
   ·simp at h1; omega
  ·rename_i b g
   rw [bind_some] at h; obtain ⟨bx, K, h⟩ := h
   rw [aB] at h; obtain ⟨A, h⟩ := h
   simp only [yc, decide_eq_true_eq] at A
   obtain ⟨⟨z, J⟩, h1⟩ := A
   obtain rfl := cY.1 z
   obtain rfl := yb h
   refine ⟨_, _, rfl, ?_⟩
   rcases hM.at_msw K hx with ⟨B, cap, rfl, hn, hl, _⟩ | ⟨rfl, hz, _⟩
   ·refine ⟨_, fR M N J h1 w, ?_⟩
    have := VR.ptr (G := G) (w := w) b g i.toNat 0 _ B hl rfl
    simpa using this
   ·rw [hz] at h1; simp at h1; omega
  ·simp at h
 ·rename_i n et M
  rw [bind_some] at h; obtain ⟨s, N, h⟩ := h
  split at h
  ·rename_i b g j c
   rw [aB] at h; obtain ⟨A, h⟩ := h
   simp only [yc, decide_eq_true_eq] at A
   obtain rfl := yb h
   refine ⟨_, _, rfl, ?_⟩
   cases hx with
   | ptr _ _ _ _ L B hl hb =>
    refine ⟨_, yS M N A.1 A.2 w, ?_⟩
    rw [yf3]
    exact .ptr b g j _ L B hl hb
  ·simp at h
 ·simp at h
theorem iR {y d : Nat} {i : Option Int} {n : Nat} (h : wN y i d = some n) : (i = none ∧ n = d) ∨ (∃ z, i = some z ∧ 0 ≤ z ∧ z ≤ (y : Int) ∧ n = z.toNat) := by
 cases i with
 | none => exact .inl ⟨rfl, (yb h).symm⟩
 | some z =>
  simp only [wN] at h
  rw [aB] at h
  obtain ⟨A, h⟩ := h
  simp only [yc, decide_eq_true_eq] at A
  exact .inr ⟨z, rfl, A.1, A.2, (yb h).symm⟩
def pT (o : Option Int) (v : Option Value) : Prop :=
 match o, v with
 | none, none => True
 | some i, some v => ∃ k, v = .int k i
 | _, _ => False
theorem dJ {isSlice : Bool} {len cap : Nat} {lo hi mx : Option Int} {K V Y : Option Value} {l h : Nat} (z : iC len lo hi mx = some (l, h)) (hc : len ≤ cap)
  (hl : pT lo K) (hh : pT hi V) (hm : pT mx Y) (w : World) :
  ∃ m, (Instr.sliceBounds isSlice len cap K V Y).run P w = .ok (l, h, m) w ∧ l ≤ h ∧ h ≤ len ∧ h ≤ m ∧ m ≤ cap := by
 unfold iC at z
 rw [aB] at z; obtain ⟨hg, z⟩ := z
 rw [bind_some] at z; obtain ⟨m, h1, z⟩ := z
 rw [bind_some] at z; obtain ⟨h', h2, z⟩ := z
 rw [bind_some] at z; obtain ⟨l', h3, z⟩ := z
 simp only [Option.some.injEq, Prod.mk.injEq] at z
 obtain ⟨rfl, rfl⟩ := z
 rcases iR h1 with ⟨rfl, rfl⟩ | ⟨N, rfl, zm0, zm1, rfl⟩
 ·have : Y = none := by cases Y <;> simp_all [pT]
  subst this
  rcases iR h2 with ⟨rfl, rfl⟩ | ⟨A, rfl, H, zh1, rfl⟩
  ·have : V = none := by cases V <;> simp_all [pT]
   subst this
   rcases iR h3 with ⟨rfl, rfl⟩ | ⟨zl, rfl, J, U, rfl⟩
   ·have : K = none := by cases K <;> simp_all [pT]
    subst this
    exact ⟨cap, by simp [Instr.sliceBounds], by omega, by omega, by omega, by omega⟩
   ·cases K with
    | none => simp [pT] at hl
    | some v =>
     obtain ⟨k, rfl⟩ := hl
     exact ⟨cap, by simp [Instr.sliceBounds, Instr.sliceBound, f7, J, U], by omega, by omega, by omega, by omega⟩
  ·cases V with
   | none => simp [pT] at hh
   | some v =>
    obtain ⟨k, rfl⟩ := hh
    have M : A ≤ (cap : Int) := by omega
    rcases iR h3 with ⟨rfl, rfl⟩ | ⟨zl, rfl, J, U, rfl⟩
    ·have : K = none := by cases K <;> simp_all [pT]
     subst this
     exact ⟨cap, by simp [Instr.sliceBounds, Instr.sliceBound, f7, H, M], by omega, by omega, by omega, by omega⟩
    ·cases K with
     | none => simp [pT] at hl
     | some v =>
      obtain ⟨k, rfl⟩ := hl
      have e : ((A.toNat : Nat) : Int) = A := by omega
      have O : zl ≤ A := by omega
      have W : ¬ (max A 0 < zl) := by omega
      exact ⟨cap, by simp [Instr.sliceBounds, Instr.sliceBound, f7, H, M, J, e, O, W], by omega, by omega, by omega, by omega⟩
 ·cases Y with
  | none => simp [pT] at hm
  | some v =>
   obtain ⟨km, rfl⟩ := hm
   have Z : N ≤ (cap : Int) := by omega
   have em : ((N.toNat : Nat) : Int) = N := by omega
   rcases iR h2 with ⟨rfl, rfl⟩ | ⟨A, rfl, H, zh1, rfl⟩
   ·simp at hg
   ·cases V with
    | none => simp [pT] at hh
    | some v =>
     obtain ⟨k, rfl⟩ := hh
     have M : A ≤ N := by omega
     rcases iR h3 with ⟨rfl, rfl⟩ | ⟨zl, rfl, J, U, rfl⟩
     ·have : K = none := by cases K <;> simp_all [pT]
      subst this
      have W : ¬ (max N 0 < A) := by omega
      exact ⟨N.toNat, by simp [Instr.sliceBounds, Instr.sliceBound, f7, H, M, zm0, Z, em, W], by omega, by omega, by omega, by omega⟩
     ·cases K with
      | none => simp [pT] at hl
      | some v =>
       obtain ⟨k, rfl⟩ := hl
       have e : ((A.toNat : Nat) : Int) = A := by omega
       have O : zl ≤ A := by omega
       have W : ¬ (max N 0 < A) := by omega
       have mz2 : ¬ (max A 0 < zl) := by omega
       have mp : A ≤ max N 0 := by omega
       have mp2 : zl ≤ max A 0 := by omega
       exact ⟨N.toNat, by simp [Instr.sliceBounds, Instr.sliceBound, f7, H, M, zm0, Z, em, J, e, O, W, mz2, mp, mp2], by omega, by omega, by omega, by omega⟩
end
end Go.Ab
end
section
namespace Go.Ab
variable [cD]
section
variable {P : Program}
def PS (G : Gh) (w : World) (P : Program) (s : Sem Value) (out : eM) : Prop := out.wr = [] ∧ out.push = [] ∧ ∃ cv, s.run P w = .ok cv w ∧ VR G w out.v cv
theorem bX {t J : TypeId} {s : Nat} (M : P.underlying t = some (.slice J)) (N : k7 P J = some s) {a : Option Addr} {len cap : Nat} {z H A : Option Value} {l h m : Nat} {w : World}
  (K : (Instr.sliceBounds true len cap z H A).run P w = .ok (l, h, m) w) :
  (Instr.sliceAt t (.slice a len cap) z H A).run P w = .ok (.slice (if m = l then a else a.map (·.add (l * s))) (h - l) (m - l)) w := by
 simp only [Instr.sliceAt, Instr.slice, Sem.run_bind, run_underlying M, Result.andThen_ok, K, dV N, Sem.run_pure]
theorem Ar {t : TypeId} (J : P.underlying t = some .string) {s : ByteArray} {z A : Option Value} {l h m : Nat} {w : World}
  (H : (Instr.sliceBounds false s.size s.size z A none).run P w = .ok (l, h, m) w) :
  (Instr.sliceAt t (.string s) z A none).run P w = .ok (.string (s.extract l h)) w := by
 simp [Instr.sliceAt, Instr.slice, run_underlying J, H]
theorem BY {t J : TypeId} {s n B o : Nat} (M : P.underlying t = some (.array n J)) (N : k7 P J = some s) {z H A : Option Value} {l h m : Nat} {w : World}
  (K : (Instr.sliceBounds false n n z H A).run P w = .ok (l, h, m) w) :
  (Instr.sliceAt t (.pointer (some ⟨B, o, none⟩)) z H A).run P w = .ok (.slice (some (if m = l then ⟨B, o, none⟩ else ⟨B, o + l * s, none⟩)) (h - l) (m - l)) w := by
 simp only [Instr.sliceAt, Instr.sureAddr, Sem.run_bind, run_underlying M, Result.andThen_ok, K, dV N, Sem.run_pure, dK]
theorem j9 {α : Type} {xs : List α} {l h i : Nat} {x : α} (hx : ((xs.take h).drop l)[i]? = some x) : xs[l + i]? = some x ∧ l + i < h := by
 rw [yd1] at hx
 have z : l + i < h := by
  rcases ya2 (l + i) h with A | A
  ·exact A
  ·rw [ya1 (by simp; omega)] at hx; cases hx
 exact ⟨by rw [yi1 z] at hx; exact hx, z⟩
theorem GD {G : Gh} {w : World} {b g o n cap l h m : Nat} {B e N : Nat} (z : G.loc b g = some ⟨some B, e, N⟩) (H : Cp w B ((o + cap) * e)) (O : o + n ≤ N)
  (h1 : l ≤ h) (h2 : h ≤ n) (h3 : h ≤ m) (h4 : m ≤ cap) :
  VR G w (.ms b g (o + l) (h - l)) (.slice (if m = l then (some ⟨B, o * e, none⟩ : Option Addr) else (some (⟨B, o * e, none⟩ : Addr)).map (·.add (l * e))) (h - l) (m - l)) := by
 have hf : Cp w B ((o + l + (m - l)) * e) := fun j M => H j (yn2 M (yb2 _ (by omega)))
 by_cases A : m = l
 ·rw [if_pos A]
  have U : h - l = 0 := by omega
  have K : m - l = 0 := by omega
  rw [U, K]
  by_cases J : l = 0
  ·subst J
   rw [K] at hf
   exact .ms b g o 0 0 _ B z rfl (by omega) (by simp; omega) (by simpa using hf)
  ·exact .msZ b g (o + l) B _ _ z rfl (by omega) (by simp; omega)
 ·rw [if_neg A]
  simp only [yo, dK]
  have := VR.ms (G := G) (w := w) b g (o + l) (h - l) (m - l) _ B z rfl (by omega) (by simp; omega) hf
  simpa [yt1] using this
theorem Gq {G : Gh} {w : World} {mem : a9} {t : TypeId} {x : AV} {lo hi mx : Option Int} {vl vh vm : Option Value} {out : eM} {cv : Value} (hM : aT G w mem) (h : gR P t mem x lo hi mx = some out) (hx : VR G w x cv)
  (hl : pT lo vl) (W : pT hi vh) (hm : pT mx vm) : PS G w P (Instr.sliceAt t cv vl vh vm) out := by
 unfold gR at h
 split at h
 ·rename_i O
  split at h
  ·rename_i s
   rw [aB] at h; obtain ⟨hmx, h⟩ := h
   obtain ⟨⟨l, J⟩, M, rfl⟩ := yf.1 h
   obtain rfl := hx.lit_inv
   have : mx = none := by cases mx <;> simp_all
   subst this
   have : vm = none := by cases vm <;> simp_all [pT]
   subst this
   obtain ⟨m, H, _⟩ := dJ (P := P) (isSlice := false) M (yz _) hl W hm w
   exact ⟨rfl, rfl, _, Ar O H, .lit _ rfl⟩
  ·simp at h
 ·rename_i et O
  rw [bind_some] at h; obtain ⟨s, Y, h⟩ := h
  split at h
  ·rename_i β k xs
   rw [aB] at h; obtain ⟨K, h⟩ := h
   obtain rfl := cY.1 K
   obtain ⟨⟨l, J⟩, M, rfl⟩ := yf.1 h
   cases hx with
   | imm _ _ _ hp =>
    cases hp with
    | intsNil _ a =>
     obtain ⟨m, H, h1, h2, U, V⟩ := dJ (P := P) (isSlice := true) (cap := 0) M (by simp) hl W hm w
     refine ⟨rfl, rfl, _, bX O Y (a := a) (len := 0) (cap := 0) H, ?_⟩
     simp at h2
     obtain rfl : l = 0 := by omega
     obtain rfl : J = 0 := by omega
     obtain rfl : m = 0 := by omega
     exact .imm β _ _ (by simpa using PR.intsNil k _) rfl
    | ints _ _ B o cap hcap hh' =>
     obtain ⟨m, H, h1, h2, U, V⟩ := dJ (P := P) (isSlice := true) (cap := cap) M hcap hl W hm w
     refine ⟨rfl, rfl, _, bX O Y H, .imm β _ _ ?_ rfl⟩
     have A : ((xs.take J).drop l).length = J - l := by simp; omega
     by_cases Z : m = l
     ·have : (xs.take J).drop l = [] := yp (by omega)
      rw [if_pos Z, this, show J - l = ([] : List Int).length by simp; omega]
      exact .ints k [] B o _ (by simp) (fun i x hx => by simp at hx)
     ·rw [if_neg Z, ← A]
      simp only [yo, dK, yi3]
      refine .ints k _ B (o + l) _ (by rw [A]; omega) (fun i x hx => ?_)
      obtain ⟨hx, _⟩ := j9 hx
      rw [yf3]; exact hh' _ _ hx
  ·rename_i β e xs
   rw [aB] at h; obtain ⟨K, h⟩ := h
   obtain rfl := cY.1 K
   obtain ⟨⟨l, J⟩, M, rfl⟩ := yf.1 h
   cases hx with
   | imm _ _ _ hp =>
    cases hp with
    | slNil _ a =>
     obtain ⟨m, H, h1, h2, U, V⟩ := dJ (P := P) (isSlice := true) (cap := 0) M (by simp) hl W hm w
     refine ⟨rfl, rfl, _, bX O Y (a := a) (len := 0) (cap := 0) H, ?_⟩
     simp at h2
     obtain rfl : l = 0 := by omega
     obtain rfl : J = 0 := by omega
     obtain rfl : m = 0 := by omega
     exact .imm β _ _ (by simpa using PR.slNil s _) rfl
    | sl _ _ B o cap cv he hcap hlen0 hh' h1' hr' =>
     obtain ⟨m, H, h1, h2, U, V⟩ := dJ (P := P) (isSlice := true) (cap := cap) M hcap hl W hm w
     refine ⟨rfl, rfl, _, bX O Y H, .imm β _ _ ?_ rfl⟩
     have A : ((xs.take J).drop l).length = J - l := by simp; omega
     by_cases Z : m = l
     ·have : (xs.take J).drop l = [] := yp (by omega)
      rw [if_pos Z, this, show J - l = ([] : List PV).length by simp; omega]
      exact .sl s [] B o _ cv he (by simp) (fun x hx => by simp at hx) (fun i x c y hx => by simp at hx) (fun i x c y hx => by simp at hx) (fun i x c y hx => by simp at hx)
     ·rw [if_neg Z, ← A]
      simp only [yo, dK]
      refine .sl s _ B (o + l * s) _ (fun i c => cv (l + i) c) he (by rw [A]; omega) (fun x hx => hlen0 x (List.mem_of_mem_take (List.mem_of_mem_drop hx))) (fun i x c y hx hy => ?_) (fun i x c y hx hy => h1' _ _ _ _ (j9 hx).1 hy) (fun i x c y hx hy => ?_)
      ·obtain ⟨hx, _⟩ := j9 hx
       have := hh' _ _ _ _ hx hy
       rw [show o + l * s + i * s + c = o + (l + i) * s + c by rw [yt1]; omega]; exact this
      ·obtain ⟨hx, _⟩ := j9 hx
       exact hr' _ _ _ _ hx hy
  ·rename_i b g o n
   rw [bind_some] at h; obtain ⟨bx, hbx, h⟩ := h
   rw [aB] at h; obtain ⟨K, h⟩ := h
   obtain rfl := cY.1 K
   obtain ⟨⟨l, J⟩, M, rfl⟩ := yf.1 h
   rcases hM.at_ms hbx hx with ⟨B, cap, rfl, hn, hon, z, N, _⟩ | ⟨rfl, rfl, rfl, hz, z⟩ | ⟨B, oo, rfl, ho, rfl, hon, z⟩
   ·obtain ⟨m, H, h1, h2, U, V⟩ := dJ (P := P) (isSlice := true) (cap := cap) M hn hl W hm w
    exact ⟨rfl, rfl, _, bX O Y H, GD z N hon h1 h2 U V⟩
   ·obtain ⟨m, H, h1, h2, U, V⟩ := dJ (P := P) (isSlice := true) (cap := 0) M (by simp) hl W hm w
    refine ⟨rfl, rfl, _, bX O Y (a := none) H, ?_⟩
    obtain rfl : l = 0 := by omega
    obtain rfl : J = 0 := by omega
    obtain rfl : m = 0 := by omega
    exact .msNil b g _ z rfl
   ·obtain ⟨m, H, h1, h2, U, V⟩ := dJ (P := P) (isSlice := true) (cap := 0) M (by simp) hl W hm w
    refine ⟨rfl, rfl, _, bX O Y H, ?_⟩
    obtain rfl : l = 0 := by omega
    obtain rfl : J = 0 := by omega
    obtain rfl : m = 0 := by omega
    exact .msZ b g o B oo _ z rfl ho hon
  ·rename_i b g
   rw [bind_some] at h; obtain ⟨bx, hbx, h⟩ := h
   rw [aB] at h; obtain ⟨K, h⟩ := h
   obtain rfl := cY.1 K
   obtain ⟨⟨l, J⟩, M, rfl⟩ := yf.1 h
   rcases hM.at_msw hbx hx with ⟨B, cap, rfl, hn, z, N, _⟩ | ⟨rfl, hz, _, z⟩
   ·obtain ⟨m, H, h1, h2, U, V⟩ := dJ (P := P) (isSlice := true) (cap := cap) M hn hl W hm w
    have := GD (o := 0) (n := bx.row.len) z (by simpa using N) (by simp) h1 h2 U V
    exact ⟨rfl, rfl, _, bX O Y H, by simpa using this⟩
   ·rw [hz] at M
    obtain ⟨m, H, h1, h2, U, V⟩ := dJ (P := P) (isSlice := true) (cap := 0) M (by simp) hl W hm w
    refine ⟨rfl, rfl, _, bX O Y (a := none) H, ?_⟩
    obtain rfl : l = 0 := by omega
    obtain rfl : J = 0 := by omega
    obtain rfl : m = 0 := by omega
    exact .msNil b g _ z rfl
  ·obtain ⟨⟨l, J⟩, M, rfl⟩ := yf.1 h
   obtain rfl := hx.lit_inv
   obtain ⟨m, H, h1, h2, U, V⟩ := dJ (P := P) (isSlice := true) (cap := 0) M (by simp) hl W hm w
   refine ⟨rfl, rfl, _, bX O Y (a := none) H, ?_⟩
   obtain rfl : l = 0 := by omega
   obtain rfl : J = 0 := by omega
   obtain rfl : m = 0 := by omega
   exact .lit _ rfl
  ·simp at h
 ·rename_i n et O
  rw [bind_some] at h; obtain ⟨s, Y, h⟩ := h
  split at h
  ·rename_i b g c
   rw [aB] at h; obtain ⟨K, h⟩ := h
   obtain rfl := cY.1 K
   rw [bind_some] at h; obtain ⟨bx, hbx, h⟩ := h
   obtain ⟨B, rfl, z, hmine, hB, hfz, hrow, hpr⟩ := hM.at_ptr hbx hx
   obtain ⟨gen, frz, row⟩ := bx
   split at h
   ·rename_i cs hrw
    simp only at hrw; subst hrw
    rw [aB] at h; obtain ⟨hle, h⟩ := h
    have hle := eT.1 hle
    obtain ⟨⟨l, J⟩, M, rfl⟩ := yf.1 h
    obtain ⟨m, H, h1, h2, U, V⟩ := dJ (P := P) (isSlice := false) (cap := n) M (yz _) hl W hm w
    have N : Cp w B ((c + n) * 1) := fun j hj => by
     obtain ⟨v, hv, _⟩ := hrow.2 j (cs[j]'(by omega)) (yd _)
     rw [hv]; rfl
    have A : (cI.cells 1 cs).len = cs.length := rfl
    have := GD (o := c) (n := n) z N (by rw [A]; exact hle) h1 h2 U V
    refine ⟨rfl, rfl, _, BY O Y H, ?_⟩
    simp only [cI.e, yi3, Nat.zero_mul, yj1, dK, yo] at this ⊢
    split
    ·rename_i e; simpa [e] using this
    ·rename_i e; simpa [e] using this
   ·simp at h
  ·simp at h
 ·simp at h
end
end Go.Ab
end
section
namespace Go.Ab
variable [cD]
section
variable {P : Program}
theorem Iw {G : Gh} {w : World} {mem : a9} {t ty : TypeId} {x : AV} {n : Nat × List Nat} {cv : Value} (hM : aT G w mem) (h : lenOf P t mem x = some n) (hx : VR G w x cv) :
  (Builtin.len_ #[t] ty #[cv]).run P w = .ok (.int .i64 (n.1 : Int)) w := by
 unfold lenOf at h
 split at h
 ·rename_i H
  split at h
  ·obtain rfl := yb h
   obtain rfl := hx.lit_inv
   simp [Builtin.len_, run_underlying H, goInt]
  ·simp at h
 ·rename_i et H
  have z : ∀ (a : Option Addr) (l c : Nat), (Builtin.len_ #[t] ty #[.slice a l c]).run P w = .ok (.int .i64 (l : Int)) w := by
   intro a l c; simp [Builtin.len_, run_underlying H, goInt]
  split at h
  ·obtain rfl := yb h
   cases hx with | imm _ _ _ A => cases A <;> exact z _ _ _
  ·obtain rfl := yb h
   cases hx with | imm _ _ _ A => cases A <;> exact z _ _ _
  ·obtain rfl := yb h
   cases hx <;> exact z _ _ _
  ·obtain ⟨bx, J, rfl⟩ := yf.1 h
   rcases hM.at_msw J hx with ⟨B, cap, rfl, _⟩ | ⟨rfl, K, _⟩
   ·exact z _ _ _
   ·rw [z]; simp [K]
  ·obtain rfl := yb h
   obtain rfl := hx.lit_inv
   exact z _ _ _
  ·simp at h
 ·simp at h
theorem rN {G : Gh} {w : World} {f : Int → Int → Int} {k : IntKind} {op : Value → Value → Sem Value} (H : ∀ a b, (op (.int k a) (.int k b)) = pure (.int k (f a b))) :
  ∀ {xs : List AV} {vs : List Value} {a r : Int}, kE f k xs a = some r → (xs.length = vs.length ∧ ∀ (j : Nat) (y : AV), xs[j]? = some y → VR G w y (vs.getD j undef)) →
   (vs.foldlM op (.int k a)).run P w = .ok (.int k r) w := by
 intro xs
 induction xs with
 | nil =>
  intro vs a r h z
  simp [kE] at h; subst h
  have := yp z.1.symm
  subst this; rfl
 | cons x xs M =>
  intro vs a r h z
  cases vs with
  | nil => simp at z
  | cons v vs =>
   have h1 := z.2 0 x rfl
   simp only [List.getD_cons_zero] at h1
   have J : xs.length = vs.length ∧ ∀ (j : Nat) (y : AV), xs[j]? = some y → VR G w y (vs.getD j undef) := ⟨by simpa using z.1, fun j y N => by simpa using z.2 (j + 1) y (by simpa using N)⟩
   unfold kE at h
   split at h
   ·simp_all
   ·rename_i k' b r' a' A
    simp only [List.cons.injEq] at A
    obtain ⟨rfl, rfl⟩ := A
    rw [aB] at h; obtain ⟨K, h⟩ := h
    rw [j0] at K; subst K
    obtain rfl := h1.lit_inv
    rw [List.foldlM_cons, H]
    simp only [Sem.run_bind, Sem.run_pure, Result.andThen_ok]
    exact M h J
   ·simp at h
theorem dR (C : Array Value) (j : Nat) : C.toList.getD j undef = C.getD j undef := by
 simp [yl, ym]
theorem vR {s : TypeId} {f : Nat} {q : Nat × Nat × TypeId} (h : kL P s f = some q) :
  ∃ fs x, P.underlying s = some (.struct fs) ∧ fs[f]? = some x ∧ x.offset = q.1 ∧ k7 P x.type = some q.2.1 ∧ x.type = q.2.2 ∧ 1 ≤ q.2.1 := by
 unfold kL at h
 split at h
 ·rename_i fs z
  rw [bind_some] at h; obtain ⟨x, hx, h⟩ := h
  rw [bind_some] at h; obtain ⟨n, hn, h⟩ := h
  rw [aB] at h; obtain ⟨h1, h⟩ := h
  obtain rfl := yb h
  exact ⟨fs, x, z, hx, rfl, hn, rfl, eT.1 h1⟩
 ·simp at h
theorem BJ {s : TypeId} {f : Nat} {q : Nat × Nat × TypeId} (h : kL P s f = some q) (B o : Nat) (w : World) :
  (Instr.fieldAt s (.pointer (some ⟨B, o, none⟩)) f).run P w = .ok (.pointer (some ⟨B, o + q.1, none⟩)) w := by
 obtain ⟨fs, x, A, hx, H, hn, ht, h1⟩ := vR h
 have z : ¬ (q.2.1 = 0) := by omega
 simp only [Instr.fieldAt, Sem.run_bind, run_underlying A, Result.andThen_ok, hx, Instr.sureAddr, Sem.run_pure, fieldPlace, dV hn, z, if_false, dK, H]
theorem Hx {t : TypeId} {n : Nat} {ag : Bool} (z : isAgg? P t = some ag) (hn : k7 P t = some n) {cs : Array Value} {o : Nat} (w : World) (A : ag = true ∨ o < cs.size) :
  (part t cs o).run P w = .ok (if ag = true then .agg (cs.extract o (o + n)) else cs.getD o undef) w := by
 cases ag with
 | true => simp only [part, Sem.run_bind, sB z, Result.andThen_ok, if_true, dV hn, Sem.run_pure]
 | false =>
  have H : o < cs.size := by rcases A with h | h; cases h; exact h
  simp only [part, Sem.run_bind, sB z, Result.andThen_ok, yg2, if_false, yn1 H, Sem.run_pure, ym, Option.getD_some]
theorem Hh {G : Gh} {w : World} {s : TypeId} {f : Nat} {q : Nat × Nat × TypeId} {cs : List AV} {cv : Value} {ag : Bool} {v : AV} (h : kL P s f = some q) (J : isAgg? P q.2.2 = some ag)
  (hx : VR G w (.agg cs) cv) (A : (bif ag then guardB (Nat.ble (q.1 + q.2.1) cs.length) (some (AV.agg ((cs.drop q.1).take q.2.1))) else cs[q.1]?) = some v) :
  ∃ K, (Instr.field s cv f).run P w = .ok K w ∧ VR G w v K := by
 obtain ⟨fs, x, W, N, Z, hn, ht, h1⟩ := vR h
 obtain ⟨cvs, rfl, U, V⟩ := hx.agg_inv
 rw [← ht] at J
 have H : ∀ (z : ag = true ∨ q.1 < cvs.size), (Instr.field s (.agg cvs) f).run P w = .ok (if ag = true then .agg (cvs.extract q.1 (q.1 + q.2.1)) else cvs.getD q.1 undef) w := by
  intro z
  have := Hx (P := P) J hn (cs := cvs) (o := q.1) w z
  simp only [Instr.field, Sem.run_bind, run_underlying W, Result.andThen_ok, N, asAgg, Sem.run_pure, Z, this]
 cases ag with
 | true =>
  simp only [yg] at A
  rw [aB] at A; obtain ⟨z, A⟩ := A
  have z := eT.1 z
  obtain rfl := yb A
  refine ⟨_, H (.inl rfl), ?_⟩
  rw [if_pos rfl]
  refine .agg _ _ (by simp; omega) fun j y O => ?_
  have Y : j < q.2.1 := by have := (yh.1 O).1; simp at this; omega
  rw [yi1 Y, yd1] at O
  have := V _ y O
  have M : q.1 + j < cvs.size := by omega
  simp only [ym] at this ⊢
  rw [Array.getElem?_extract]
  rw [if_pos (by omega)]
  exact this
 | false =>
  simp only [ye] at A
  have M := (yh.1 A).1
  exact ⟨_, H (.inr (by omega)), by simpa using V _ v A⟩
theorem F5 {ρ : Operand → Option AV} : ∀ {xs : List Operand} {vs : List AV}, Ay ρ xs = some vs → vs.length = xs.length ∧ ∀ (j : Nat) (y : AV), vs[j]? = some y → ∃ x, xs[j]? = some x ∧ ρ x = some y
 | [], vs, h => by simp [Ay] at h; subst h; exact ⟨rfl, fun j y z => by simp at z⟩
 | x :: r, vs, h => by
  simp only [Ay] at h
  rw [bind_some] at h; obtain ⟨v, K, h⟩ := h
  obtain ⟨H, A, rfl⟩ := yf.1 h
  obtain ⟨hl, J⟩ := F5 A
  refine ⟨by simp [hl], fun j y z => ?_⟩
  cases j with
  | zero => simp at z; subst z; exact ⟨x, rfl, K⟩
  | succ j => simpa using J j y (by simpa using z)
theorem CJ {G : Gh} {w : World} {ρ : Operand → Option AV} {a : Act} (H : Pl G w ρ a) {xs : Array Operand} {vs : List AV} (h : Ay ρ xs.toList = some vs) : o6 G w vs (xs.map a.eval) := by
 obtain ⟨hl, K⟩ := F5 h
 refine ⟨by simpa using hl, fun j y J => ?_⟩
 obtain ⟨x, hx, A⟩ := K j y J
 have z : xs[j]? = some x := by simpa using hx
 have hj := (ys2.1 z).1
 have := H x y A
 simp only [ym, Array.getElem?_map, z, yo, Option.getD_some]
 exact this
theorem A6 {ρ : Operand → Option AV} : ∀ {xs : List (Nat × Operand)} {vs : List (Nat × AV)}, kR ρ xs = some vs →
  vs.length = xs.length ∧ ∀ (j : Nat) (q : Nat × AV), vs[j]? = some q → ∃ x, xs[j]? = some (q.1, x) ∧ ρ x = some q.2
 | [], vs, h => by simp [kR] at h; subst h; exact ⟨rfl, fun j y M => by simp at M⟩
 | (i, x) :: r, vs, h => by
  simp only [kR] at h
  rw [bind_some] at h; obtain ⟨v, K, h⟩ := h
  obtain ⟨H, A, rfl⟩ := yf.1 h
  obtain ⟨hl, J⟩ := A6 A
  refine ⟨by simp [hl], fun j q z => ?_⟩
  cases j with
  | zero => simp at z; subst z; exact ⟨x, rfl, K⟩
  | succ j => simpa using J j q (by simpa using z)
def jH (G : Gh) (w : World) (as : List AV) (vs : List Value) : Prop := as.length = vs.length ∧ ∀ (j : Nat) (y : AV), as[j]? = some y → VR G w y (vs.getD j undef)
def Pe (G : Gh) (w : World) (ps : List (Nat × AV)) (qs : List (Nat × Value)) : Prop := ps.length = qs.length ∧ ∀ (j : Nat) (p : Nat × AV), ps[j]? = some p → ∃ v, qs[j]? = some (p.1, v) ∧ VR G w p.2 v
theorem CG {G : Gh} {w : World} {ρ : Operand → Option AV} {a : Act} (J : Pl G w ρ a) {xs : Array (Nat × Operand)} {vs : List (Nat × AV)} (h : kR ρ xs.toList = some vs) :
  Pe G w vs (xs.map fun (i, x) => (i, a.eval x)).toList := by
 obtain ⟨hl, K⟩ := A6 h
 refine ⟨by simpa using hl, fun j q A => ?_⟩
 obtain ⟨x, hx, H⟩ := K j q A
 refine ⟨a.eval x, ?_, J x _ H⟩
 have z : xs[j]? = some (q.1, x) := by simpa using hx
 simp [z]
theorem jH.set {G : Gh} {w : World} {as : List AV} {vs : List Value} (h : jH G w as vs) {i : Nat} {a : AV} {v : Value} (H : VR G w a v) : jH G w (as.set i a) (vs.set i v) := by
 refine ⟨by simp [h.1], fun j y z => ?_⟩
 by_cases e : j = i
 ·subst e
  have A : j < as.length := by have := (yh.1 z).1; simpa using this
  rw [yf1 A] at z
  simp at z; subst z
  rw [yl, yf1 (by rw [← h.1]; exact A)]; exact H
 ·rw [yg1 (fun x => e x.symm)] at z
  rw [yl, yg1 (fun x => e x.symm), ← yl]; exact h.2 j y z
def bE : List Value → Nat → List Value → List Value
 | cs, _, [] => cs
 | cs, i, v :: r => bE (cs.set i v) (i + 1) r
theorem jH.setCells {G : Gh} {w : World} : ∀ {xs : List AV} {ys : List Value} {as : List AV} {vs : List Value} {i : Nat}, jH G w as vs → jH G w xs ys → jH G w (setCells as i xs) (bE vs i ys)
 | [], ys, as, vs, i, h, hx => by
  have := yp hx.1.symm
  subst this; exact h
 | x :: xs, [], as, vs, i, h, hx => by simp [jH] at hx
 | x :: xs, y :: ys, as, vs, i, h, hx => by
  have A := hx.2 0 x rfl
  simp only [List.getD_cons_zero] at A
  simp only [Go.Ab.setCells, bE]
  exact jH.setCells (h.set A) ⟨by simpa using hx.1, fun j z H => by simpa using hx.2 (j + 1) z (by simpa using H)⟩
theorem kQ {as : List AV} : ∀ {xs : List AV} {i : Nat} {as : List AV}, (setCells as i xs).length = as.length
 | [], i, as => rfl
 | x :: xs, i, as => by rw [Go.Ab.setCells, kQ (as := as)]; simp
theorem gK : ∀ {xs : List Value} {i : Nat} {as : List Value}, (bE as i xs).length = as.length
 | [], i, as => rfl
 | x :: xs, i, as => by rw [bE, gK]; simp
theorem Aq : ∀ (vs : List Value) (h n : Nat) (cs : Array Value), ((vs.zipIdx n).foldl (fun cs (c, j) => cs.setIfInBounds (h + j) c) cs).toList = bE cs.toList (h + n) vs
 | [], h, n, cs => rfl
 | v :: vs, h, n, cs => by
  simp only [List.zipIdx_cons, List.foldl_cons, bE]
  rw [Aq vs h (n + 1)]
  simp [yf3]
theorem jH.one {G : Gh} {w : World} {a : AV} {v : Value} (h : VR G w a v) : jH G w [a] [v] :=
 ⟨rfl, fun j y z => by cases j with | zero => simp at z; subst z; exact h | succ j => simp at z⟩
theorem VR.cells {G : Gh} {w : World} {a : AV} {v : Value} (h : VR G w a v) : jH G w a.cells v.cells.toList := by
 cases h with
 | agg cs cvs z h => exact ⟨by simpa [AV.cells, Value.cells] using z, fun j y Y => by simp only [Value.cells]; rw [dR]; exact h j y (by simpa [AV.cells] using Y)⟩
 | lit v J =>
  have : v.cells = #[v] := by cases v <;> first | rfl | simp [mJ] at J
  rw [this]; exact jH.one (.lit v J)
 | imm β p v h K =>
  have : v.cells = #[v] := by cases h <;> first | rfl | simp [PV.isSl] at K
  rw [this]; exact jH.one (.imm β p v h K)
 | unkB b => exact jH.one (.unkB b)
 | dead v h1 h2 =>
  have : v.cells = #[v] := by cases v <;> first | rfl | simp [mJ] at h2
  rw [this]; exact jH.one (.dead v h1 h2)
 | ptr b g i c L B hl A => exact jH.one (.ptr b g i c L B hl A)
 | ms b g o n cap L B hl A hn H hf => exact jH.one (.ms b g o n cap L B hl A hn H hf)
 | msNil b g L hl A => exact jH.one (.msNil b g L hl A)
 | msZ b g o B N L hl A Z H => exact jH.one (.msZ b g o B N L hl A Z H)
 | msw b g cap L B hl A hn hf => exact jH.one (.msw b g cap L B hl A hn hf)
 | mswNil b g L hl A hn => exact jH.one (.mswNil b g L hl A hn)
 | el β p c B o cv h O => exact jH.one (.el β p c B o cv h O)
 | fn f M U W cv h1 h2 hf V => exact jH.one (.fn f M U W cv h1 h2 hf V)
 | tup cs cvs z h => exact jH.one (.tup cs cvs z h)
theorem v8 {G : Gh} {w : World} {k8 : Nat → Option (Nat × Nat)} : ∀ {ps : List (Nat × AV)} {qs : List (Nat × Value)} {cs A : List AV} {cvs : Array Value}, Be k8 cs ps = some A → jH G w cs cvs.toList → Pe G w ps qs →
  ∃ z, Instr.fill k8 cvs qs = some z ∧ jH G w A z.toList
 | [], qs, cs, A, cvs, h, N, H => by
  have := yp H.1.symm
  subst this
  simp [Be] at h; subst h
  exact ⟨cvs, rfl, N⟩
 | (i, v) :: r, [], cs, A, cvs, h, N, H => by simp [Pe] at H
 | (i, v) :: r, (i', u) :: qs, cs, A, cvs, h, N, H => by
  obtain ⟨u', W, hv⟩ := H.2 0 (i, v) rfl
  simp only [yy2, Option.some.injEq, Prod.mk.injEq] at W
  obtain ⟨rfl, rfl⟩ := W
  simp only [Be] at h
  rw [bind_some] at h; obtain ⟨q, Y, h⟩ := h
  rw [aB] at h; obtain ⟨J, h⟩ := h
  simp only [yc] at J
  have h1 := cY.1 J.1
  have h2 := eT.1 J.2
  have M := hv.cells
  have U : u.cells.size = q.2 := by rw [← h1]; simpa using M.1.symm
  have Z : cs.length = cvs.size := by simpa using N.1
  have K : (u.cells.zipIdx.foldl (fun cs (c, j) => cs.setIfInBounds (q.1 + j) c) cvs).toList = bE cvs.toList q.1 u.cells.toList := by
   have := Aq u.cells.toList q.1 0 cvs
   rw [yp2] at this
   rw [← this, ← Array.foldl_toList]
   simp
  obtain ⟨z, hf, V⟩ := v8 (cvs := u.cells.zipIdx.foldl (fun cs (c, j) => cs.setIfInBounds (q.1 + j) c) cvs) h (by rw [K]; exact N.setCells M)
   ⟨by simpa using H.1, fun j p O => by simpa using H.2 (j + 1) p (by simpa using O)⟩
  refine ⟨z, ?_, V⟩
  simp only [Instr.fill, Y]
  rw [if_neg (by simp [U]; omega)]
  exact hf
theorem Dv : ∀ {fs : List Field} {ps : List (Nat × Nat)}, places? P fs = some ps → ∀ w : World, (fs.mapM fun f => (do pure (f.offset, ← sizeOf f.type) : Sem (Nat × Nat))).run P w = .ok ps w
 | [], ps, h, w => by simp [places?] at h; subst h; rfl
 | f :: r, ps, h, w => by
  simp only [places?] at h
  rw [bind_some] at h; obtain ⟨n, hn, h⟩ := h
  obtain ⟨H, z, rfl⟩ := yf.1 h
  have A := Dv z w
  simp only [List.mapM_cons, Sem.run_bind, dV hn, Result.andThen_ok, Sem.run_pure, A]
theorem Lc {G : Gh} {w : World} : ∀ {vs : List Value} {as : List AV}, G8 vs = some as → jH G w as vs
 | [], as, h => by simp [G8] at h; subst h; exact ⟨rfl, fun j y z => by simp at z⟩
 | v :: r, as, h => by
  simp only [G8] at h
  rw [aB] at h; obtain ⟨h1, h⟩ := h
  obtain ⟨J, A, rfl⟩ := yf.1 h
  have H := Lc (G := G) (w := w) A
  exact ⟨by simp [H.1], fun j y z => by
   cases j with
   | zero => simp at z; subst z; exact .lit v h1
   | succ j => simpa using H.2 j y (by simpa using z)⟩
theorem oQ {G : Gh} {w : World} {v : Value} {a : AV} (h : vM v = some a) : VR G w a v := by
 unfold vM at h
 split at h
 ·rename_i cs
  obtain ⟨as, z, rfl⟩ := yf.1 h
  have := Lc (G := G) (w := w) z
  exact .agg as cs (by simpa using this.1) (fun j y H => by rw [← dR]; exact this.2 j y H)
 ·rename_i A
  obtain rfl := yb h
  exact .lit v (by cases v <;> first | rfl | exact absurd rfl (A _))
theorem oP {t : TypeId} {z : AV} (h : zero? P t = some z) : ∃ i v, P.info? t = some i ∧ i.zero = some v ∧ vM v = some z := by
 unfold zero? at h
 rw [bind_some] at h; obtain ⟨v, A, h⟩ := h
 rw [bind_some] at A; obtain ⟨i, H, A⟩ := A
 exact ⟨i, v, H, A, h⟩
theorem Ia {t : TypeId} {z : AV} (h : zero? P t = some z) (G : Gh) (w : World) : ∃ v, (zeroValue t).run P w = .ok v w ∧ VR G w z v ∧ (∀ A, (zeroValue t).run P A = .ok v A) ∧ vM v = some z := by
 obtain ⟨i, v, J, H, K⟩ := oP h
 exact ⟨v, by simp [zeroValue, typeInfo, J, H], oQ K, fun A => by simp [zeroValue, typeInfo, J, H], K⟩
theorem Gn {G : Gh} {w : World} {t : TypeId} {ps : List (Nat × AV)} {qs : Array (Nat × Value)} {v : AV} (h : AB P t ps = some v) (W : Pe G w ps qs.toList) :
  ∃ cv, (Instr.build t qs).run P w = .ok cv w ∧ VR G w v cv := by
 unfold AB at h
 rw [bind_some] at h; obtain ⟨z, Z, h⟩ := h
 obtain ⟨zv, H, K, _⟩ := Ia Z G w
 split at h
 ·rename_i fs M
  rw [bind_some] at h; obtain ⟨Y, O, h⟩ := h
  obtain ⟨cs, A, rfl⟩ := yf.1 h
  obtain ⟨cvs, hf, J⟩ := v8 A K.cells W
  refine ⟨.agg cvs, ?_, .agg cs cvs (by simpa using J.1) (fun j y U => by rw [← dR]; exact J.2 j y U)⟩
  have N : (fs.mapM fun f => (do pure (f.offset, ← sizeOf f.type) : Sem (Nat × Nat))).run P w = .ok Y.toArray w := by
   rw [Array.mapM_eq_mapM_toList, Sem.run_map, Dv O w]
   rfl
  have V : Instr.fill (fun i => Y.toArray[i]?) zv.cells qs.toList = some cvs := by rw [← hf]; congr 1; funext i; simp
  simp only [Instr.build, Sem.run_bind, H, Result.andThen_ok, run_underlying M, N, V, Sem.run_pure]
 ·rename_i n e M
  rw [bind_some] at h; obtain ⟨s, hs, h⟩ := h
  obtain ⟨cs, A, rfl⟩ := yf.1 h
  obtain ⟨cvs, hf, J⟩ := v8 A K.cells W
  refine ⟨.agg cvs, ?_, .agg cs cvs (by simpa using J.1) (fun j y U => by rw [← dR]; exact J.2 j y U)⟩
  simp only [Instr.build, Sem.run_bind, H, Result.andThen_ok, run_underlying M, dV hs, hf, Sem.run_pure]
 ·simp at h
end
end Go.Ab
end
section
namespace Go.Ab
variable [cD]
section
variable {P : Program}
def bL (G : Gh) (w : World) (v : aO) (vs : List Value) : Prop :=
 vs.length = v.len * v.e ∧ (∀ u ∈ vs, u.oneCell' = true) ∧
 match v with
 | .ints k xs => ∀ (i : Nat) (x : Int), xs[i]? = some x → vs[i]? = some (.int k x)
 | .pvs β e xs => (∀ x ∈ xs, x.cells.length = e) ∧ ∀ (i : Nat) (x : PV) (c : Nat) (y : PV), xs[i]? = some x → x.cells[c]? = some y → ∃ u, vs[i * e + c]? = some u ∧ PR w (G.prot β) y u
 | .avs e cs => cs.length = e * bD e cs.length ∧ ∀ (j : Nat) (y : AV), cs[j]? = some y → ∃ u, vs[j]? = some u ∧ VR G w y u
theorem oJ (r : cI) : r.all.e = r.e := by cases r <;> rfl
theorem dB (r : cI) : r.all.len = r.len := by cases r <;> rfl
theorem iG (v : aO) : v.row.e = v.e := by cases v <;> rfl
theorem fB (v : aO) : v.row.len = v.len := by cases v <;> rfl
theorem jF (v : aO) : v.row.all = v := by cases v <;> rfl
theorem H0 (r : cI) : r.all.row = r := by cases r <;> rfl
theorem f6 {e n : Nat} (he : 1 ≤ e) (k : Nat) : bD e (k * e) = k := by
 unfold bD
 have h : Nat.beq e 0 = false := by
  cases e with
  | zero => omega
  | succ e => rfl
 rw [h]; simp only [ye]
 cases h1 : Nat.beq e 1 with
 | true => rw [Nat.eq_of_beq_eq_true h1]; simp
 | false => simp only [ye]; exact Nat.mul_div_cancel k (by omega)
theorem pX.toList {G : Gh} {w : World} {B : Nat} {r : cI} (V : 1 ≤ r.e) (h : pX G w B r) :
  ∃ vs : List Value, bL G w r.all vs ∧ ∀ j, j < vs.length → cl w B j = vs[j]? := by
 cases r with
 | ints k xs =>
  refine ⟨xs.map (.int k), ⟨by simp [aO.len, aO.e, cI.all], by simp [Value.oneCell'], fun i x hx => by simp [hx]⟩, fun j z => ?_⟩
  simp at z
  rw [h j xs[j] (yd z)]; simp [z]
 | pvs β e xs =>
  obtain ⟨h1, h2⟩ := h
  have J : ∀ j, j < xs.length * e → ∃ v, cl w B j = some v ∧ v.oneCell' = true := by
   intro j z
   have W : j / e < xs.length := by rw [Nat.div_lt_iff_lt_mul (by simp [cI.e] at V; omega)]; exact z
   have U : j % e < (xs[j / e]).cells.length := by rw [h1 _ (yu2 _)]; exact Nat.mod_lt _ (by simp [cI.e] at V; omega)
   obtain ⟨v, A, H, _⟩ := h2 (j / e) (xs[j / e]) (j % e) ((xs[j / e]).cells[j % e]) (yd _) (yd _)
   rw [show j / e * e + j % e = j by rw [yq2]; exact Nat.div_add_mod j e] at A
   exact ⟨v, A, H⟩
  refine ⟨(List.range (xs.length * e)).map (fun j => (cl w B j).getD undef), ⟨by simp [aO.len, aO.e, cI.all], ?_, h1, ?_⟩, ?_⟩
  ·intro u O
   obtain ⟨j, z, rfl⟩ := yc3.1 O
   obtain ⟨v, A, H⟩ := J j (by simpa using z)
   rw [A]; exact H
  ·intro i x c y hx K
   have W := (yh.1 hx).1
   have U := (yh.1 K).1
   obtain ⟨v, A, _, N⟩ := h2 i x c y hx K
   have M : i * e + c < xs.length * e := by
    rw [h1 x (yj hx)] at U
    calc i * e + c < i * e + e := by omega
     _ = (i + 1) * e := by rw [yt1]; simp
     _ ≤ xs.length * e := yb2 _ W
   exact ⟨v, by simp [M, A], N⟩
  ·intro j z
   simp at z
   obtain ⟨v, A, _⟩ := J j z
   simp [z, A]
 | cells e cs =>
  obtain ⟨h1, h2⟩ := h
  refine ⟨(List.range cs.length).map (fun j => (cl w B j).getD undef), ⟨?_, ?_, h1, ?_⟩, ?_⟩
  ·simp only [aO.len, aO.e, cI.all, ye2, yj2]
   rw [yq2]; exact h1
  ·intro u O
   obtain ⟨j, z, rfl⟩ := yc3.1 O
   obtain ⟨v, A, H, _⟩ := h2 j (cs[j]'(by simpa using z)) (yd _)
   rw [A]; exact H
  ·intro j y K
   have z := (yh.1 K).1
   obtain ⟨v, A, _, N⟩ := h2 j y K
   exact ⟨v, by simp [z, A], N⟩
  ·intro j z
   simp at z
   obtain ⟨v, A, _⟩ := h2 j (cs[j]) (yd _)
   simp [z, A]
theorem pX.ofList {G : Gh} {w : World} {B : Nat} {r : cI} {vs : List Value} (h : bL G w r.all vs) (H : ∀ j u, vs[j]? = some u → cl w B j = some u) : pX G w B r := by
 obtain ⟨hl, h1, h⟩ := h
 cases r with
 | ints k xs => exact fun i x hx => H _ _ (h i x hx)
 | pvs β e xs =>
  refine ⟨h.1, fun i x c y hx J => ?_⟩
  obtain ⟨u, z, A⟩ := h.2 i x c y hx J
  exact ⟨u, H _ _ z, h1 u (yj z), A⟩
 | cells e cs =>
  refine ⟨h.1, fun j y J => ?_⟩
  obtain ⟨u, z, A⟩ := h.2 j y J
  exact ⟨u, H _ _ z, h1 u (yj z), A⟩
theorem bL.mono {G M : Gh} {w J : World} (N : eA G M) (K : Ev G w J) {v : aO} {vs : List Value} (h : bL G w v vs) : bL M J v vs := by
 obtain ⟨hl, h1, h⟩ := h
 refine ⟨hl, h1, ?_⟩
 cases v with
 | ints k xs => exact h
 | pvs β e xs => exact ⟨h.1, fun i x c y hx H => by obtain ⟨u, A, z⟩ := h.2 i x c y hx H; exact ⟨u, A, z.mono (N.prot β) (K.prot β)⟩⟩
 | avs e cs => exact ⟨h.1, fun j y H => by obtain ⟨u, A, z⟩ := h.2 j y H; exact ⟨u, A, z.mono N K⟩⟩
theorem OG {G : Gh} {w : World} {β : Bool} {t : TypeId} {p : PV} {c : Nat} {a : AV} (h : Le P β t p c = some a) {cv : Nat → Value} (K : ∀ j y, p.cells[j]? = some y → PR w (G.prot β) y (cv j)) :
  ∀ (j : Nat) (y : AV), a.cells[j]? = some y → VR G w y (cv (c + j)) ∧ ∃ q, p.cells[c + j]? = some q := by
 unfold Le at h
 split at h
 ·rw [bind_some] at h; obtain ⟨ls, O, h⟩ := h
  rw [bind_some] at h; obtain ⟨n, hn, h⟩ := h
  rw [aB] at h; obtain ⟨V, h⟩ := h
  rw [bind_some] at h; obtain ⟨as, H, h⟩ := h
  obtain rfl := yb h
  obtain ⟨hl, hf⟩ := lY (G := G) (w := w) H
  obtain ⟨N, U⟩ := hf (fun j => cv (c + j)) (fun j y z _ => K _ y z)
  intro j y z
  have z : as[j]? = some y := z
  exact ⟨U j y z, N j (by rw [← hl]; exact (yh.1 z).1)⟩
 ·rw [bind_some] at h; obtain ⟨l, hl, h⟩ := h
  rw [bind_some] at h; obtain ⟨q, J, h⟩ := h
  have M := pY (G := G) (w := w) h (K c q J)
  intro j y z
  have A : a.cells = [a] := by
   unfold jQ at h
   split at h <;> (rw [bind_some] at h; obtain ⟨x, _, h⟩ := h; obtain rfl := yb h; rfl)
  rw [A] at z
  cases j with
  | zero => simp at z; subst z; exact ⟨M, q, J⟩
  | succ j => simp at z
 ·simp at h
theorem BO {G : Gh} {w : World} {β : Bool} {t : TypeId} {e : Nat} : ∀ {xs : List PV} {cs : List AV} {vs : List Value}, CC P t β e xs = some cs → vs.length = xs.length * e →
  (∀ (i : Nat) (x : PV) (c : Nat) (y : PV), xs[i]? = some x → x.cells[c]? = some y → ∃ u, vs[i * e + c]? = some u ∧ PR w (G.prot β) y u) → jH G w cs vs
 | [], cs, vs, h, hl, _ => by
  simp [CC] at h; subst h
  simp at hl; subst hl
  exact ⟨rfl, fun j y z => by simp at z⟩
 | p :: r, cs, vs, h, hl, O => by
  simp only [CC] at h
  rw [bind_some] at h; obtain ⟨v, W, h⟩ := h
  rw [aB] at h; obtain ⟨N, h⟩ := h
  have N := cY.1 N
  obtain ⟨V, M, rfl⟩ := yf.1 h
  have A : vs.length = e + r.length * e := by rw [hl]; simp [yt1, Nat.add_comm]
  have U := BO (G := G) (w := w) (vs := vs.drop e) M (by simp [A]) (fun i x c y hx z => by
   obtain ⟨u, H, J⟩ := O (i + 1) x c y (by simpa using hx) z
   refine ⟨u, ?_, J⟩
   rw [yd1, show e + (i * e + c) = (i + 1) * e + c by rw [yt1]; omega]; exact H)
  have K := OG (P := P) (G := G) (w := w) W (cv := fun j => vs.getD j undef) (fun j y z => by
   obtain ⟨u, H, J⟩ := O 0 p j y rfl z
   simp only [Nat.zero_mul, yj1] at H
   rw [yl, H]; exact J)
  refine ⟨by rw [yi, N, U.1]; simp; omega, fun j y z => ?_⟩
  by_cases Y : j < v.cells.length
  ·rw [yq Y] at z
   simpa using (K j y z).1
  ·rw [yt (by omega)] at z
   have := U.2 _ y z
   rw [yl, yd1] at this
   rw [yl, show j = e + (j - v.cells.length) by omega]
   exact this
theorem FA : ∀ {cs : List AV}, kF cs = true → ∀ v ∈ cs, JR v = true
 | v :: r, h, u, z => by
  simp only [kF, yc] at h
  cases z with
  | head => exact h.1
  | tail _ z => exact FA h.2 u z
theorem NA {G : Gh} {w : World} {a : AV} {v : Value} (h : VR G w a v) (h1 : JR a = true) : v.oneCell' = true := by
 cases h with
 | lit v hv => exact h1
 | imm β p v z A => cases z <;> first | rfl | simp [PV.isSl] at A
 | dead v h h' => exact h
 | agg => simp [JR] at h1
 | tup => simp [JR] at h1
 | _ => rfl
theorem jH.ones {G : Gh} {w : World} {cs : List AV} {vs : List Value} (h : jH G w cs vs) (h1 : kF cs = true) : ∀ u ∈ vs, u.oneCell' = true := by
 intro u H
 obtain ⟨j, A, rfl⟩ := yp1 H
 have z : j < cs.length := by rw [h.1]; exact A
 have := h.2 j cs[j] (yd z)
 rw [yl, yd A] at this
 exact NA this (FA h1 _ (yu2 _))
theorem BI {G : Gh} {w : World} {t : TypeId} {v : aO} {cs : List AV} {vs : List Value} (h : v.toAvs P t = some cs) (z : bL G w v vs) : jH G w cs vs := by
 obtain ⟨hl, h1, z⟩ := z
 cases v with
 | ints k xs =>
  obtain rfl := yb h
  simp only [aO.len, aO.e, yi3] at hl
  refine ⟨by simp [hl], fun j y A => ?_⟩
  obtain ⟨x, hx, rfl⟩ : ∃ x, xs[j]? = some x ∧ AV.lit (.int k x) = y := by simpa using A
  rw [yl, z j x hx]; exact .lit _ rfl
 | pvs β e xs => exact BO h hl z.2
 | avs e K =>
  obtain rfl := yb h
  simp only [aO.len, aO.e] at hl
  refine ⟨by rw [hl, yq2]; exact z.1, fun j y A => ?_⟩
  obtain ⟨u, J, H⟩ := z.2 j y A
  rw [yl, J]; exact H
theorem jH.append {G : Gh} {w : World} {a b : List AV} {u v : List Value} (h : jH G w a u) (A : jH G w b v) : jH G w (a ++ b) (u ++ v) := by
 refine ⟨by simp [h.1, A.1], fun j y z => ?_⟩
 by_cases H : j < a.length
 ·rw [yq H] at z
  rw [yl, yq (by rw [← h.1]; exact H), ← yl]; exact h.2 j y z
 ·rw [yt (by omega)] at z
  rw [yl, yt (by rw [← h.1]; omega), ← yl, ← h.1]; exact A.2 _ y z
theorem PR.weak {w : World} {G : Gh} (z : ∀ B o, G.prot false B o → G.prot true B o) {β β' : Bool} {p : PV} {v : Value} (h : PR w (G.prot β) p v) : PR w (G.prot (β || β')) p v := by
 cases β <;> cases β' <;> first | exact h | exact h.mono (fun _ _ x => z _ _ x) (fun _ _ _ => rfl)
theorem PR.weak' {w : World} {G : Gh} (z : ∀ B o, G.prot false B o → G.prot true B o) {β β' : Bool} {p : PV} {v : Value} (h : PR w (G.prot β) p v) : PR w (G.prot (β' || β)) p v := by
 rw [Bool.or_comm]; exact h.weak z
theorem FQ {G : Gh} {w : World} (N : ∀ B o, G.prot false B o → G.prot true B o) {t : TypeId} {x y z : aO} {vs us : List Value} (h : x.app P t y = some z) (hx : bL G w x vs) (W : bL G w y us) :
  bL G w z (vs ++ us) ∧ z.e = x.e ∧ z.e = y.e ∧ z.len = x.len + y.len := by
 unfold aO.app at h
 split at h
 ·rename_i k xs k' ys
  rw [aB] at h; obtain ⟨hk, h⟩ := h
  rw [j0] at hk; subst hk
  obtain rfl := yb h
  obtain ⟨J, o1, U⟩ := hx; obtain ⟨V, o2, Z⟩ := W
  simp only [aO.len, aO.e, yi3] at J V
  refine ⟨⟨by simp [aO.len, aO.e, J, V], fun u H => (yy1.1 H).elim (o1 u) (o2 u), fun i x hx => ?_⟩, rfl, rfl, by simp [aO.len]⟩
  by_cases hi : i < xs.length
  ·rw [yq hi] at hx; rw [yq (by omega)]; exact U i x hx
  ·rw [yt (by omega)] at hx; rw [yt (by omega), J]; exact Z _ x hx
 ·rename_i β e xs β' e' ys
  rw [aB] at h; obtain ⟨he, h⟩ := h
  obtain rfl := cY.1 he
  obtain rfl := yb h
  obtain ⟨J, o1, U⟩ := hx; obtain ⟨V, o2, Z⟩ := W
  simp only [aO.len, aO.e] at J V
  refine ⟨⟨by simp [aO.len, aO.e, J, V, yt1], fun u H => (yy1.1 H).elim (o1 u) (o2 u), fun x hx => (yy1.1 hx).elim (U.1 x) (Z.1 x), fun i x c y hx W => ?_⟩, rfl, rfl, by simp [aO.len]⟩
  by_cases hi : i < xs.length
  ·rw [yq hi] at hx
   obtain ⟨u, H, Y⟩ := U.2 i x c y hx W
   exact ⟨u, by rw [yq (yh.1 H).1]; exact H, Y.weak N⟩
  ·rw [yt (by omega)] at hx
   obtain ⟨u, H, Y⟩ := Z.2 _ x c y hx W
   refine ⟨u, ?_, Y.weak' N⟩
   have e1 : i * e = xs.length * e + (i - xs.length) * e := by rw [← yt1]; congr 1; omega
   rw [yt (by rw [J, e1]; omega), J, show i * e + c - xs.length * e = (i - xs.length) * e + c by omega]; exact H
 ·rename_i e xs
  rw [bind_some] at h; obtain ⟨ys, hys, h⟩ := h
  rw [aB] at h; obtain ⟨hc, h⟩ := h
  obtain rfl := yb h
  simp only [yc] at hc
  obtain ⟨⟨hones, he⟩, O⟩ := hc
  obtain rfl := cY.1 he
  have O := eT.1 O
  have hL := BI hys W
  obtain ⟨J, o1, U⟩ := hx; obtain ⟨V, o2, Z⟩ := W
  replace J : vs.length = bD y.e xs.length * y.e := J
  have hcx : xs.length = bD y.e xs.length * y.e := by rw [yq2]; exact U.1
  have hcy : ys.length = y.len * y.e := by rw [hL.1]; exact V
  have K : (xs ++ ys).length = (bD y.e xs.length + y.len) * y.e := by rw [yi, hcy, yt1]; omega
  have A : bD y.e (xs ++ ys).length = bD y.e xs.length + y.len := by rw [K]; exact f6 (n := 0) O _
  have hxv : jH G w xs vs := ⟨by rw [J]; exact hcx, fun j z hz => by obtain ⟨u, H, Y⟩ := U.2 j z hz; rw [yl, H]; exact Y⟩
  have M := hxv.append hL
  refine ⟨⟨?_, fun u H => (yy1.1 H).elim (o1 u) (o2 u), ?_, fun j z hz => ?_⟩, rfl, rfl, ?_⟩
  ·show (vs ++ us).length = bD y.e (xs ++ ys).length * y.e
   rw [A, ← K, M.1]
  ·rw [A, yq2]; exact K
  ·have hj : j < (vs ++ us).length := by rw [← M.1]; exact (yh.1 hz).1
   have := M.2 j z hz
   rw [yl, yd hj] at this
   exact ⟨_, yd hj, this⟩
  ·exact A
 ·simp at h
end
end Go.Ab
end
section
namespace Go.Ab
variable [cD]
section
variable {P : Program}
theorem F6 {e i c n : Nat} (hc : c < e) (h : i < n) : i * e + c < n * e := by
 calc i * e + c < i * e + e := by omega
  _ = (i + 1) * e := by rw [yt1]; simp
  _ ≤ n * e := yb2 _ h
theorem L4 {e i c : Nat} (h : c < e) : (i * e + c) / e = i ∧ (i * e + c) % e = c := by
 constructor
 ·rw [yq2, Nat.mul_add_div (by omega), Nat.div_eq_of_lt h]; simp
 ·rw [yq2, Nat.mul_add_mod, Nat.mod_eq_of_lt h]
theorem Ik {P : Program} (w : World) {size : Nat} {z H : TypeId} (h : P.underlying z = some (.slice H)) (a : Option Addr) : Src P size z (.slice a 0 0) 0 [] w := by
 cases a with
 | none => exact Src.ofNil w h 0
 | some a => exact Src.ofSlice w h a 0 0 [] (by simp) (fun j u A => by simp at A) (by simp)
theorem PR.view {w : World} {G : Gh} {β : Bool} {e : Nat} {xs : List PV} {cv : Value} (h : PR w (G.prot β) (.sl e xs) cv) :
  (xs = [] ∧ ∃ a, cv = .slice a 0 0) ∨ ∃ B o cap vs, cv = .slice (some ⟨B, o, none⟩) xs.length cap ∧ 1 ≤ e ∧ xs.length ≤ cap ∧ bL G w (.pvs β e xs) vs ∧ ∀ j u, vs[j]? = some u → cl w B (o + j) = some u ∧ G.prot β B (o + j) := by
 cases h with
 | slNil _ a => exact .inl ⟨rfl, a, rfl⟩
 | sl _ _ B o cap cv V N z h h1 U =>
  have J : ∀ j, j < xs.length * e → ∃ x y, xs[j / e]? = some x ∧ x.cells[j % e]? = some y := by
   intro j A
   have O : j / e < xs.length := by rw [Nat.div_lt_iff_lt_mul (by omega)]; exact A
   have M : j % e < (xs[j / e]).cells.length := by rw [z _ (yu2 _)]; exact Nat.mod_lt _ (by omega)
   exact ⟨_, _, yd O, yd M⟩
  refine .inr ⟨B, o, cap, (List.range (xs.length * e)).map (fun j => cv (j / e) (j % e)), rfl, V, N, ⟨by simp [aO.len, aO.e], ?_, z, ?_⟩, ?_⟩
  ·intro u K
   obtain ⟨j, A, rfl⟩ := yc3.1 K
   obtain ⟨x, y, hx, H⟩ := J j (by simpa using A)
   exact h1 _ x _ y hx H
  ·intro i x c y hx H
   have O := (yh.1 hx).1
   have M := (yh.1 H).1
   rw [z x (yj hx)] at M
   obtain ⟨Y, W⟩ := L4 (i := i) M
   exact ⟨cv i c, by simp [F6 M O, Y, W], U i x c y hx H⟩
  ·intro j u K
   have A : j < xs.length * e := by have := (yh.1 K).1; simpa using this
   simp [A] at K; subst K
   obtain ⟨x, y, hx, H⟩ := J j A
   have := h _ x _ y hx H
   rw [show o + j / e * e + j % e = o + j by rw [yf3, yq2, Nat.div_add_mod]] at this
   exact this
theorem r5 {G : Gh} {w : World} {r : cI} {o n : Nat} {v : aO} {vs : List Value} (W : 1 ≤ r.e) (h : r.sub o n = some v) (K : bL G w r.all vs) :
  bL G w v ((vs.drop (o * r.e)).take (n * r.e)) ∧ v.e = r.e ∧ v.len = n ∧ o + n ≤ r.len := by
 obtain ⟨hl, h1, K⟩ := K
 have J : ∀ u ∈ (vs.drop (o * r.e)).take (n * r.e), u.oneCell' = true := fun u N => h1 u (List.mem_of_mem_drop (List.mem_of_mem_take N))
 cases r with
 | ints k xs =>
  simp only [cI.sub] at h
  rw [aB] at h; obtain ⟨z, h⟩ := h
  have z := eT.1 z
  obtain rfl := yb h
  simp only [cI.all, aO.len, aO.e, yi3] at hl
  refine ⟨⟨by simp [aO.len, aO.e, cI.e, hl], J, fun i x hx => ?_⟩, rfl, by simp [aO.len]; omega, z⟩
  have U : i < n := by have := (yh.1 hx).1; simp at this; omega
  rw [yi1 U, yd1] at hx
  simp only [cI.e, yi3]
  rw [yi1 U, yd1]
  exact K _ _ hx
 | pvs β e xs =>
  simp only [cI.sub] at h
  rw [aB] at h; obtain ⟨z, h⟩ := h
  have z := eT.1 z
  obtain rfl := yb h
  simp only [cI.all, aO.len, aO.e] at hl
  simp only [cI.e] at W
  have H : ((xs.drop o).take n).length = n := by simp; omega
  refine ⟨⟨?_, J, fun x hx => K.1 x (List.mem_of_mem_drop (List.mem_of_mem_take hx)), fun i x c y hx M => ?_⟩, rfl, H, z⟩
  ·simp only [aO.len, aO.e, H, cI.e, yl2, List.length_drop, hl]
   rw [← Nat.mul_sub_right_distrib]
   exact Nat.min_eq_left (yb2 _ (by omega))
  ·have U : i < n := by have := (yh.1 hx).1; omega
   rw [yi1 U, yd1] at hx
   obtain ⟨u, N, V⟩ := K.2 _ x c y hx M
   have Z := (yh.1 M).1
   rw [K.1 x (yj hx)] at Z
   refine ⟨u, ?_, V⟩
   simp only [cI.e]
   rw [yi1 (F6 Z U), yd1, show o * e + (i * e + c) = (o + i) * e + c by rw [yt1]; omega]
   exact N
 | cells e cs =>
  simp only [cI.sub] at h
  rw [aB] at h; obtain ⟨z, h⟩ := h
  have z := eT.1 z
  obtain rfl := yb h
  simp only [cI.e] at W
  have O : cs.length = bD e cs.length * e := by rw [yq2]; exact K.1
  replace hl : vs.length = bD e cs.length * e := hl
  have Y : o + n ≤ bD e cs.length := by
   rw [O] at z
   exact Nat.le_of_mul_le_mul_right z (by omega)
  have H : ((cs.drop (o * e)).take (n * e)).length = n * e := by
   simp only [yl2, List.length_drop]; rw [yt1] at z; omega
  have A : bD e ((cs.drop (o * e)).take (n * e)).length = n := by rw [H]; exact f6 (n := 0) W n
  refine ⟨⟨?_, J, ?_, fun j y M => ?_⟩, rfl, A, Y⟩
  ·show _ = bD e ((cs.drop (o * e)).take (n * e)).length * e
   rw [A]
   simp only [cI.e, yl2, List.length_drop, hl]
   rw [← O]; rw [yt1] at z; omega
  ·rw [A, H, yq2]
  ·have hj : j < n * e := by have := (yh.1 M).1; omega
   rw [yi1 hj, yd1] at M
   obtain ⟨u, N, V⟩ := K.2 _ y M
   refine ⟨u, ?_, V⟩
   simp only [cI.e]
   rw [yi1 hj, yd1]; exact N
theorem Di (G : Gh) (w : World) (s : ByteArray) : bL G w (.ints .u8 (cE s)) (byteCells s) := by
 refine ⟨by simp [aO.len, aO.e, cE, byteCells], fun u z => ?_, fun i x hx => ?_⟩
 ·obtain ⟨b, _, rfl⟩ := yc3.1 z; rfl
 ·unfold cE at hx
  unfold byteCells
  rw [yh1] at hx ⊢
  obtain ⟨b, h, rfl⟩ := yf.1 hx
  rw [h]; rfl
theorem bL.unmark {G : Gh} {w : World} {β β' : Bool} {e : Nat} {xs : List PV} {vs : List Value} (hf : xs.all AK = true) (h : bL G w (.pvs β e xs) vs) : bL G w (.pvs β' e xs) vs := by
 refine ⟨h.1, h.2.1, h.2.2.1, fun i x c y hx z => ?_⟩
 obtain ⟨u, H, A⟩ := h.2.2.2 i x c y hx z
 refine ⟨u, H, ?_⟩
 have h1 := yx.1 hf x (yj hx)
 have h2 := yx.1 h1 y (yj z)
 cases y with
 | lit v =>
  cases A with
  | lit _ h => exact .lit _ h
 | ints _ _ => cases h2
 | sl _ _ => cases h2
 | agg _ => cases h2
theorem bL.unmarkIf {G : Gh} {w : World} {c β : Bool} {e : Nat} {xs : List PV} {vs : List Value} (h : bL G w (.pvs β e xs) vs) : bL G w (.pvs (bif c && xs.all AK then false else β) e xs) vs := by
 cases z : (c && xs.all AK) with
 | false => exact h
 | true => exact h.unmark (yc _ _ ▸ z).2
theorem Em {G : Gh} {w : World} {mem : a9} {et tx : TypeId} {y : AV} {v : aO × List Nat} {cv : Value} (hM : aT G w mem) (h : view P et mem y = some v) (hy : VR G w y cv) (hs : k7 P et = some v.1.e) (J : zI P tx y = true) :
  ∃ Y, Src P v.1.e tx cv v.1.len Y w ∧ bL G w v.1 Y := by
 have A : (∀ s, y ≠ .lit (.string s)) → ∃ e', P.underlying tx = some (.slice e') := by
  intro hne
  unfold zI at J
  split at J
  ·rename_i s _; exact absurd rfl (hne s)
  ·simp at J
  ·exact ⟨_, by assumption⟩
  ·simp at J
 unfold view at h
 split at h
 ·rename_i β k xs
  obtain rfl := yb h
  obtain ⟨e', K⟩ := A (by simp)
  cases hy with
  | imm _ _ _ hp =>
   cases hp with
   | intsNil _ a => exact ⟨[], Ik w K a, by simp [aO.len, aO.e], by simp, fun i x hx => by simp at hx⟩
   | ints _ _ B o cap hcap hh =>
    refine ⟨xs.map (.int k), Src.ofSlice w K ⟨B, o, none⟩ _ cap _ (by simp [aO.len, aO.e]) (fun j u M => ?_) (by simp [Value.oneCell']), by simp [aO.len, aO.e], by simp [Value.oneCell'], fun i x hx => by simp [hx]⟩
    obtain ⟨x, hx, rfl⟩ : ∃ x, xs[j]? = some x ∧ Value.int k x = u := by simpa using M
    rw [dK]; exact (hh j x hx).1
 ·rename_i β e xs
  obtain rfl := yb h
  obtain ⟨e', K⟩ := A (by simp)
  cases hy with
  | imm _ _ _ hp =>
   rcases hp.view with ⟨rfl, a, rfl⟩ | ⟨B, o, cap, vs, rfl, he, hcap, Z, hc⟩
   ·exact ⟨[], Ik w K a, by simp [aO.len, aO.e], by simp, fun x hx => by simp at hx, fun i x c y hx => by simp at hx⟩
   ·exact ⟨vs, Src.ofSlice w K ⟨B, o, none⟩ _ cap vs Z.1 (fun j u M => by rw [dK]; exact (hc j u M).1) Z.2.1, Z.unmarkIf⟩
 ·rename_i b g o n
  rw [bind_some] at h; obtain ⟨N, U, h⟩ := h
  obtain ⟨vw, z, rfl⟩ := yf.1 h
  obtain ⟨e', K⟩ := A (by simp)
  have he := (hM.box b N (box?_some U).1).e
  rcases hM.at_ms U hy with ⟨B, cap, rfl, hn, hon, hl, hf, _, _, _, V, _⟩ | ⟨rfl, rfl, rfl, hz, hl⟩ | ⟨B, oo, rfl, ho, rfl, hon, hl⟩
  ·obtain ⟨vs, W, hcl⟩ := V.toList he
   obtain ⟨Z, hve, hvl, _⟩ := r5 he z W
   refine ⟨_, ?_, Z⟩
   simp only at hs ⊢
   rw [hve, hvl]
   refine Src.ofSlice w K ⟨B, o * N.row.e, none⟩ n cap _ (by rw [Z.1, hve, hvl]) (fun j u M => ?_) Z.2.1
   rw [dK]
   have hj : j < n * N.row.e := by
    have := (yh.1 M).1
    rw [Z.1, hve, hvl] at this; exact this
   rw [yi1 hj, yd1] at M
   have := hcl _ (yh.1 M).1
   rw [M] at this; exact this
  ·have O : vw.len = 0 ∧ vw.e = N.row.e := by
    obtain ⟨gen, frz, row⟩ := N
    cases row <;> simp only [cI.sub] at z <;> rw [aB] at z <;> obtain ⟨_, z⟩ := z <;> obtain rfl := yb z <;> simp [aO.len, aO.e, cI.e, bD]
   have H : bL G w vw [] := by
    refine ⟨by simp [O.1], by simp, ?_⟩
    obtain ⟨gen, frz, row⟩ := N
    cases row <;> simp only [cI.sub] at z <;> rw [aB] at z <;> obtain ⟨_, z⟩ := z <;> obtain rfl := yb z <;> simp [bD]
   refine ⟨[], ?_, H⟩
   simp only; rw [O.1]
   exact Src.ofNil w K 0
  ·have O : vw.len = 0 ∧ vw.e = N.row.e := by
    obtain ⟨gen, frz, row⟩ := N
    cases row <;> simp only [cI.sub] at z <;> rw [aB] at z <;> obtain ⟨_, z⟩ := z <;> obtain rfl := yb z <;> simp [aO.len, aO.e, cI.e, bD]
   have H : bL G w vw [] := by
    refine ⟨by simp [O.1], by simp, ?_⟩
    obtain ⟨gen, frz, row⟩ := N
    cases row <;> simp only [cI.sub] at z <;> rw [aB] at z <;> obtain ⟨_, z⟩ := z <;> obtain rfl := yb z <;> simp [bD]
   refine ⟨[], ?_, H⟩
   simp only; rw [O.1]
   exact Src.ofSlice w K ⟨B, oo, none⟩ 0 0 [] (by simp) (fun j u M => by simp at M) (by simp)
 ·rename_i b g
  rw [bind_some] at h; obtain ⟨N, U, h⟩ := h
  obtain rfl := yb h
  obtain ⟨e', K⟩ := A (by simp)
  have he := (hM.box b N (box?_some U).1).e
  rcases hM.at_msw U hy with ⟨B, cap, rfl, hn, hl, hf, _, _, _, V, _⟩ | ⟨rfl, hz, hnc, hl⟩
  ·obtain ⟨vs, W, hcl⟩ := V.toList he
   refine ⟨vs, ?_, W⟩
   simp only [oJ, dB]
   refine Src.ofSlice w K ⟨B, 0, none⟩ _ cap vs (by rw [W.1, oJ, dB]) (fun j u M => ?_) W.2.1
   rw [dK, yj1]
   have := hcl _ (yh.1 M).1
   rw [M] at this; exact this
  ·have H : bL G w N.row.all [] := by
    refine ⟨by rw [dB, hz]; simp, by simp, ?_⟩
    obtain ⟨gen, frz, row⟩ := N
    cases row with
    | ints k xs => simp only [cI.len] at hz; have := yp hz; subst this; simp [cI.all]
    | pvs β e xs => simp only [cI.len] at hz; have := yp hz; subst this; simp [cI.all]
    | cells e cs => simp [cI.isCells] at hnc
   refine ⟨[], ?_, H⟩
   simp only [dB, hz]
   exact Src.ofNil w K 0
 ·rename_i s
  obtain rfl := yb h
  obtain rfl := hy.lit_inv
  have K : P.underlying tx = some .string := by
   unfold zI at J; split at J <;> simp_all
  refine ⟨byteCells s, ?_, Di G w s⟩
  have := Src.ofString (P := P) w K s
  simpa [aO.len, aO.e, cE] using this
 ·obtain ⟨e', K⟩ := A (by simp)
  obtain rfl := hy.lit_inv
  split at h
  ·obtain rfl := yb h
   exact ⟨[], Src.ofNil w K 0, by simp [aO.len, aO.e], by simp, fun i x hx => by simp at hx⟩
  ·obtain ⟨e, he, rfl⟩ := yf.1 h
   exact ⟨[], Src.ofNil w K 0, by simp [aO.len, aO.e], by simp, fun x hx => by simp at hx, fun i x c y hx => by simp at hx⟩
 ·simp at h
end
end Go.Ab
end
