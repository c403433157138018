/- The evaluator. -/
import Derived.Orders
import Derived.Laws.Sem
import Derived.WalkKit
import Derived.Deep.AppendSrc
set_option linter.unusedVariables false
set_option linter.unusedSectionVars false
set_option linter.unusedSimpArgs false
section
namespace Go.Ab
theorem ya : type_of% @Option.bind_some := @Option.bind_some
theorem yb : type_of% @Option.some.inj := @Option.some.inj
theorem yc : type_of% @Bool.and_eq_true := @Bool.and_eq_true
theorem yd : type_of% @List.getElem?_eq_getElem := @List.getElem?_eq_getElem
theorem ye : type_of% @cond_false := @cond_false
theorem yf : type_of% @Option.map_eq_some_iff := @Option.map_eq_some_iff
theorem yg : type_of% @cond_true := @cond_true
theorem yh : type_of% @List.getElem?_eq_some_iff := @List.getElem?_eq_some_iff
theorem yi : type_of% @List.length_append := @List.length_append
theorem yj : type_of% @List.mem_of_getElem? := @List.mem_of_getElem?
theorem yk : type_of% @List.mem_cons_of_mem := @List.mem_cons_of_mem
theorem yl : type_of% @List.getD_eq_getElem?_getD := @List.getD_eq_getElem?_getD
theorem ym : type_of% @Array.getD_eq_getD_getElem? := @Array.getD_eq_getD_getElem?
theorem yn : type_of% @List.mem_cons_self := @List.mem_cons_self
theorem yo : type_of% @Option.map_some := @Option.map_some
theorem yp : type_of% @List.eq_nil_of_length_eq_zero := @List.eq_nil_of_length_eq_zero
theorem yq : type_of% @List.getElem?_append_left := @List.getElem?_append_left
theorem yt : type_of% @List.getElem?_append_right := @List.getElem?_append_right
theorem yu : type_of% @Bool.true_and := @Bool.true_and
theorem yw : type_of% @Bool.not_true := @Bool.not_true
theorem yx : type_of% @List.all_eq_true := @List.all_eq_true
theorem yy : type_of% @Bool.not_eq_true' := @Bool.not_eq_true'
theorem yz : type_of% @Nat.le_refl := @Nat.le_refl
theorem ya1 : type_of% @List.getElem?_eq_none := @List.getElem?_eq_none
theorem yb1 : type_of% @Int.toNat_natCast := @Int.toNat_natCast
theorem yc1 : type_of% @List.cons.inj := @List.cons.inj
theorem yd1 : type_of% @List.getElem?_drop := @List.getElem?_drop
theorem ye1 : type_of% @List.length_cons := @List.length_cons
theorem yf1 : type_of% @List.getElem?_set_self := @List.getElem?_set_self
theorem yg1 : type_of% @List.getElem?_set_ne := @List.getElem?_set_ne
theorem yh1 : type_of% @List.getElem?_map := @List.getElem?_map
theorem yi1 : type_of% @List.getElem?_take_of_lt := @List.getElem?_take_of_lt
theorem yj1 : type_of% @Nat.zero_add := @Nat.zero_add
theorem yk1 : type_of% @Array.getElem?_toList := @Array.getElem?_toList
theorem yl1 : type_of% @List.drop_zero := @List.drop_zero
theorem ym1 : type_of% @List.mem_singleton := @List.mem_singleton
theorem yn1 : type_of% @Array.getElem?_eq_getElem := @Array.getElem?_eq_getElem
theorem yo1 : type_of% @Option.bind_eq_some_iff := @Option.bind_eq_some_iff
theorem yp1 : type_of% @List.getElem_of_mem := @List.getElem_of_mem
theorem yq1 : type_of% @List.mem_cons := @List.mem_cons
theorem yr1 : type_of% @List.mem_append_left := @List.mem_append_left
theorem ys1 : type_of% @List.mem_append_right := @List.mem_append_right
theorem yt1 : type_of% @Nat.add_mul := @Nat.add_mul
theorem yu1 : type_of% @List.append_nil := @List.append_nil
theorem yv1 : type_of% @Array.length_toList := @Array.length_toList
theorem yw1 : type_of% @List.append_assoc := @List.append_assoc
theorem yx1 : type_of% @List.getElem?_cons_succ := @List.getElem?_cons_succ
theorem yy1 : type_of% @List.length_singleton := @List.length_singleton
theorem yz1 : type_of% @Nat.lt_or_ge := @Nat.lt_or_ge
theorem ya2 : type_of% @Nat.mul_le_mul_right := @Nat.mul_le_mul_right
theorem yb2 : type_of% @List.mem_append := @List.mem_append
theorem yc2 : type_of% @Bool.or_eq_true := @Bool.or_eq_true
theorem yd2 : type_of% @Bool.and_self := @Bool.and_self
theorem ye2 : type_of% @List.length_map := @List.length_map
theorem yf2 : type_of% @Bool.false_eq_true := @Bool.false_eq_true
theorem yg2 : type_of% @List.length_eq_one_iff := @List.length_eq_one_iff
theorem yh2 : type_of% @List.map_cons := @List.map_cons
theorem yi2 : type_of% @List.take_length := @List.take_length
theorem yj2 : type_of% @List.length_range := @List.length_range
theorem yk2 : type_of% @List.getElem?_replicate := @List.getElem?_replicate
theorem yl2 : type_of% @List.length_take := @List.length_take
theorem ym2 : type_of% @List.mem_or_eq_of_mem_set := @List.mem_or_eq_of_mem_set
theorem yn2 : type_of% @Nat.lt_of_lt_of_le := @Nat.lt_of_lt_of_le
theorem yo2 : type_of% @List.getElem?_take := @List.getElem?_take
theorem yp2 : type_of% @Nat.add_zero := @Nat.add_zero
theorem yq2 : type_of% @Nat.mul_comm := @Nat.mul_comm
theorem yr2 : type_of% @List.all_eq_not_any_not := @List.all_eq_not_any_not
theorem ys2 : type_of% @Array.getElem?_eq_some_iff := @Array.getElem?_eq_some_iff
theorem yt2 : type_of% @Nat.le_trans := @Nat.le_trans
theorem yu2 : type_of% @List.getElem_mem := @List.getElem_mem
theorem yv2 : type_of% @Nat.ble_eq_true_of_le := @Nat.ble_eq_true_of_le
theorem yw2 : type_of% @Bool.not_false := @Bool.not_false
theorem yx2 : type_of% @List.getElem?_cons_zero := @List.getElem?_cons_zero
theorem yy2 : type_of% @Array.toArray_toList := @Array.toArray_toList
theorem yz2 : type_of% @Array.getElem?_append_left := @Array.getElem?_append_left
theorem ya3 : type_of% @List.take_of_length_le := @List.take_of_length_le
theorem yb3 : type_of% @List.take_add_one := @List.take_add_one
theorem yc3 : type_of% @List.mem_map := @List.mem_map
theorem yd3 : type_of% @List.length_nil := @List.length_nil
theorem ye3 : type_of% @List.all_cons := @List.all_cons
theorem yf3 : type_of% @Nat.add_assoc := @Nat.add_assoc
theorem yg3 : type_of% @List.length_replicate := @List.length_replicate
theorem yh3 : type_of% @List.mem_replicate := @List.mem_replicate
theorem yi3 : type_of% @Nat.mul_one := @Nat.mul_one
theorem yj3 : type_of% @Array.getElem?_replicate := @Array.getElem?_replicate
theorem yk3 : type_of% @Nat.add_sub_cancel_left := @Nat.add_sub_cancel_left
theorem yl3 : type_of% @Bool.false_or := @Bool.false_or
theorem ym3 : type_of% @List.map_take := @List.map_take
theorem yn3 : type_of% @List.map_drop := @List.map_drop
theorem yo3 : type_of% @List.drop_left := @List.drop_left
theorem yp3 : type_of% @List.cons_append := @List.cons_append
theorem yq3 : type_of% @List.getElem_zip := @List.getElem_zip
theorem yr3 : type_of% @Bool.cond_eq_ite := @Bool.cond_eq_ite
theorem ys3 : type_of% @Nat.beq_refl := @Nat.beq_refl
theorem yt3 : type_of% @Bool.and_true := @Bool.and_true
class cD where
 tab : Nat → Option (Int × Int)
noncomputable section
def kO {α : Type} (l : List α) : Nat → Option α := List.rec (fun _ => none) (fun a _ ih n => Nat.rec (some a) (fun m _ => ih m) n) l
def B4 {α : Type} (v : α) (l : List α) : Nat → List α := List.rec (fun _ => []) (fun a r ih n => Nat.rec (v :: r) (fun m _ => a :: ih m) n) l
theorem bU {α : Type} : ∀ (l : List α) (n : Nat), kO l n = l[n]?
 | [], n => by simp [kO]
 | a :: r, 0 => rfl
 | a :: r, n + 1 => by rw [yx1, ← bU r n]; rfl
theorem eF {α : Type} (v : α) : ∀ (l : List α) (n : Nat), B4 v l n = l.set n v
 | [], n => by simp [B4]
 | a :: r, 0 => rfl
 | a :: r, n + 1 => by rw [List.set_cons_succ, ← eF v r n]; rfl
inductive PV where
 | lit (v : Value)
 | ints (k : IntKind) (xs : List Int)
 | sl (e : Nat) (xs : List PV)
 | agg (cs : List PV)
 deriving Inhabited
inductive AV where
 | lit (v : Value)
 | imm (β : Bool) (p : PV)
 | ptr (b g i c : Nat)
 | ms (b g o n : Nat)
 | msw (b g : Nat)
 | el (β : Bool) (p : PV) (c : Nat)
 | fn (f : Fn) (first cap : List AV)
 | agg (cs : List AV)
 | tup (vs : List AV)
 deriving Inhabited
inductive cI where
 | ints (k : IntKind) (xs : List Int)
 | pvs (β : Bool) (e : Nat) (xs : List PV)
 | cells (e : Nat) (cs : List AV)
 deriving Inhabited
structure d8 where
 gen : Nat
 frz : Bool
 row : cI
 deriving Inhabited
abbrev a9 := List (Option d8)
structure St where
 tmps : List AV
 mem : a9
structure mQ where
 live : List (Nat × List Nat) := []
 raw : List (Nat × Nat) := []
 boxed : List (Nat × Nat) := []
 vars : List (Nat × Nat) := []
 hint : List (Nat × Nat × Int) := []
def dU {α : Type} (n : Nat) : List (Nat × α) → Option α
 | [] => none
 | (m, x) :: r => bif Nat.beq m n then some x else dU n r
def cH (a b : Nat) : List (Nat × Nat) → Bool
 | [] => false
 | (m, x) :: r => (Nat.beq m a && Nat.beq x b) || cH a b r
def gW (n : Nat) : List Nat → Bool
 | [] => false
 | m :: r => Nat.beq m n || gW n r
def guardB {α : Type} (c : Bool) (x : Option α) : Option α := bif c then x else none
def aD {α : Type} (xs : List α) (i : Int) : Option α := bif decide (0 ≤ i) then xs[i.toNat]? else none
def gV (a b : IntKind) : Bool :=
 match a, b with
 | .i8, .i8 | .i16, .i16 | .i32, .i32 | .i64, .i64 | .u8, .u8 | .u16, .u16 | .u32, .u32 | .u64, .u64 => true
 | _, _ => false
def PV.int? (k : IntKind) : PV → Option Int
 | .lit (.int k' n) => bif gV k k' then some n else none
 | _ => none
def PV.bool? : PV → Option Bool
 | .lit (.bool b) => some b
 | _ => none
def PV.str? : PV → Option ByteArray
 | .lit (.string s) => some s
 | _ => none
def PV.ints? (k : IntKind) : PV → Option (List Int)
 | .ints k' xs => bif gV k k' then some xs else none
 | _ => none
def PV.sl? (e : Nat) : PV → Option (List PV)
 | .sl e' xs => bif Nat.beq e e' then some xs else none
 | _ => none
def PV.cells : PV → List PV
 | .agg cs => cs
 | p => [p]
inductive LK where
 | int (k : IntKind) | bool | str | ints (k : IntKind) | sl (t : TypeId) (e : Nat)
section
variable (P : Program)
def k6 (t : TypeId) : Option Nat := (P.info? t).map (·.size)
def mJ (t : TypeId) : Option Nat := (P.info? t).map (·.bytes)
def intKind? (t : TypeId) : Option IntKind :=
 match P.underlying t with
 | some (.int k) => some k
 | _ => none
def elemOf? (t : TypeId) : Option TypeId :=
 match P.underlying t with
 | some (.slice e) => some e
 | _ => none
def isAgg? (t : TypeId) : Option Bool :=
 match P.underlying t with
 | some (.struct _) => some true
 | some (.array _ _) => some true
 | some _ => some false
 | none => none
def leaf? (t : TypeId) : Option LK :=
 match P.underlying t with
 | some (.int k) => some (.int k)
 | some .bool => some .bool
 | some .string => some .str
 | some (.slice e) =>
  match intKind? P e with
  | some k => some (.ints k)
  | none => (k6 P e).map (.sl e)
 | _ => none
def HN (leaves : TypeId → Option (List LK)) : List Field → Option (List LK)
 | [] => some []
 | f :: r => (leaves f.type).bind fun a => (HN leaves r).map (a ++ ·)
def leaves? : Nat → TypeId → Option (List LK)
 | 0, _ => none
 | n + 1, t =>
  match P.underlying t with
  | some (.struct fs) => HN (leaves? n) fs.toList
  | _ => (leaf? P t).map fun l => [l]
def jT (β : Bool) (l : LK) (q : PV) : Option AV :=
 match l with
 | .int k => (q.int? k).bind fun x => some (.lit (.int k x))
 | .bool => q.bool?.bind fun x => some (.lit (.bool x))
 | .str => q.str?.bind fun x => some (.lit (.string x))
 | .ints k => (q.ints? k).bind fun x => some (.imm β (.ints k x))
 | .sl _ e => (q.sl? e).bind fun x => some (.imm β (.sl e x))
def f8 (β : Bool) (cs : List PV) : List LK → Nat → Option (List AV)
 | [], _ => some []
 | l :: r, c => (cs[c]?).bind fun q => (jT β l q).bind fun a => (f8 β cs r (c + 1)).bind fun as => some (a :: as)
def Lc (β : Bool) (t : TypeId) (p : PV) (c : Nat) : Option AV :=
 match isAgg? P t with
 | some true => (leaves? P 8 t).bind fun ls => (k6 P t).bind fun n => guardB (Nat.beq n ls.length) ((f8 β p.cells ls c).bind fun as => some (.agg as))
 | some false => (leaf? P t).bind fun l => (p.cells[c]?).bind fun q => jT β l q
 | none => none
def lR : Value → Bool
 | .agg _ => false
 | _ => true
def Gt : List Value → Option (List AV)
 | [] => some []
 | v :: r => guardB (lR v) ((Gt r).map (.lit v :: ·))
def vK : Value → Option AV
 | .agg cs => (Gt cs.toList).map .agg
 | v => some (.lit v)
def zero? (t : TypeId) : Option AV := ((P.info? t).bind (·.zero)).bind vK
def AV.dead : AV := .imm false (.agg [])
def AV.unkB : AV := .imm true (.lit (.bool false))
open Classical in
def amb {α : Type} (a b : Option α) : Option α := if a = b then a else none
def AV.goneV : AV := .imm true (.agg [])
def fY : AV → Bool
 | .imm true (.agg _) => true
 | _ => false
def AV.cells : AV → List AV
 | .agg cs => cs
 | v => [v]
inductive aN where
 | ints (k : IntKind) (xs : List Int)
 | pvs (β : Bool) (e : Nat) (xs : List PV)
 | avs (e : Nat) (cs : List AV)
def bD (e : Nat) (n : Nat) : Nat := bif Nat.beq e 0 then 0 else bif Nat.beq e 1 then n else n / e
def aN.len : aN → Nat
 | .ints _ xs => xs.length
 | .pvs _ _ xs => xs.length
 | .avs e cs => bD e cs.length
def aN.imm? : aN → Option AV
 | .ints k xs => some (.imm false (.ints k xs))
 | .pvs β e xs => some (.imm β (.sl e xs))
 | .avs _ _ => none
def aN.row : aN → cI
 | .ints k xs => .ints k xs
 | .pvs β e xs => .pvs β e xs
 | .avs e cs => .cells e cs
def eS (k : IntKind) : List AV → Option (List Int)
 | [] => some []
 | .lit (.int k' x) :: r => bif gV k k' then (eS k r).map (x :: ·) else none
 | _ :: _ => none
def cI.len : cI → Nat
 | .ints _ xs => xs.length
 | .pvs _ _ xs => xs.length
 | .cells e cs => bD e cs.length
def cI.e : cI → Nat
 | .ints _ _ => 1
 | .pvs _ e _ => e
 | .cells e _ => e
def aN.e : aN → Nat
 | .ints _ _ => 1
 | .pvs _ e _ => e
 | .avs e _ => e
def cI.all : cI → aN
 | .ints k xs => .ints k xs
 | .pvs β e xs => .pvs β e xs
 | .cells e cs => .avs e cs
def cI.sub (o n : Nat) : cI → Option aN
 | .ints k xs => guardB (Nat.ble (o + n) xs.length) (some (.ints k ((xs.drop o).take n)))
 | .pvs β e xs => guardB (Nat.ble (o + n) xs.length) (some (.pvs β e ((xs.drop o).take n)))
 | .cells e cs => guardB (Nat.ble ((o + n) * e) cs.length) (some (.avs e ((cs.drop (o * e)).take (n * e))))
def box? (mem : a9) (b g : Nat) : Option d8 :=
 match mem[b]? with
 | some (some x) => bif Nat.beq x.gen g then some x else none
 | _ => none
def cE (s : ByteArray) : List Int := s.data.toList.map fun b => (b.toNat : Int)
def n9 (xs : List Int) : ByteArray := ⟨(xs.map fun n => UInt8.ofNat n.toNat).toArray⟩
def MY : LK → Bool
 | .int _ => true
 | .bool => true
 | .str => true
 | _ => false
def Jw (et : TypeId) : Bool :=
 match leaves? P 8 et with
 | some ls => ls.all MY
 | none => false
def KE : PV → Bool
 | .lit _ => true
 | _ => false
def AC (p : PV) : Bool := p.cells.all KE
def view (et : TypeId) (mem : a9) : AV → Option (aN × List Nat)
 | .imm _ (.ints k xs) => some (.ints k xs, [])
 | .imm β (.sl e xs) => some (.pvs (bif Jw P et && xs.all AC then false else β) e xs, [])
 | .ms b g o n => (box? mem b g).bind fun x => (x.row.sub o n).map fun v => (v, [b])
 | .msw b g => (box? mem b g).bind fun x => some (x.row.all, [b])
 | .lit (.string s) => some (.ints .u8 (cE s), [])
 | .lit (.slice none 0 0) =>
  match intKind? P et with
  | some k => some (.ints k [], [])
  | none => (k6 P et).map fun e => (.pvs false e [], [])
 | _ => none
def lenOf (t : TypeId) (mem : a9) (x : AV) : Option (Nat × List Nat) :=
 match P.underlying t with
 | some .string =>
  match x with
  | .lit (.string s) => some (s.size, [])
  | _ => none
 | some (.slice _) =>
  match x with
  | .imm _ (.ints _ xs) => some (xs.length, [])
  | .imm _ (.sl _ xs) => some (xs.length, [])
  | .ms b g o n => some (n, [])
  | .msw b g => (box? mem b g).map fun x => (x.row.len, [b])
  | .lit (.slice none 0 0) => some (0, [])
  | _ => none
 | _ => none
def JL : AV → Bool
 | .lit v => v.oneCell'
 | .agg _ => false
 | .tup _ => false
 | _ => true
def kM : List AV → Bool
 | [] => true
 | v :: r => JL v && kM r
def jA {α : Type} (e : Nat) : Nat → List α → List (List α)
 | 0, _ => []
 | n + 1, cs => cs.take e :: jA e n (cs.drop e)
def Dg (t : TypeId) (cs : List PV) : Option PV :=
 match isAgg? P t with
 | some true => some (.agg cs)
 | some false => (match cs with | [c] => some c | _ => none)
 | none => none
def fS {α β : Type} (f : α → Option (Bool × β × List Nat)) : List α → Option (Bool × List β × List Nat)
 | [] => some (false, [], [])
 | v :: r => (f v).bind fun a => (fS f r).bind fun q => some (a.1 || q.1, a.2.1 :: q.2.1, a.2.2 ++ q.2.2)
def cS {α β γ : Type} (f : γ → α → Option (Bool × β × List Nat)) : List γ → List α → Option (Bool × List β × List Nat)
 | [], [] => some (false, [], [])
 | l :: ls, v :: r => (f l v).bind fun a => (cS f ls r).bind fun q => some (a.1 || q.1, a.2.1 :: q.2.1, a.2.2 ++ q.2.2)
 | _, _ => none
def bK (mem : a9) : Nat → LK → AV → Option (Bool × PV × List Nat)
 | 0, _, _ => none
 | n + 1, l, v =>
  match l, v with
  | .int k, .lit (.int k' x) => guardB (gV k k') (some (false, .lit (.int k' x), []))
  | .bool, .lit (.bool b) => some (false, .lit (.bool b), [])
  | .str, .lit (.string s) => some (false, .lit (.string s), [])
  | .ints k, .imm β (.ints k' xs) => guardB (gV k k') (some (β, .ints k' xs, []))
  | .ints k, .lit (.slice none 0 0) => some (false, .ints k [], [])
  | .ints k, .msw b g => (box? mem b g).bind fun x => treeInts k b x.row.all
  | .ints k, .ms b g o m => (box? mem b g).bind fun x => (x.row.sub o m).bind fun w => treeInts k b w
  | .sl _ e, .imm β (.sl e' xs) => guardB (Nat.beq e e') (some (β, .sl e' xs, []))
  | .sl _ e, .lit (.slice none 0 0) => some (false, .sl e [], [])
  | .sl t e, .msw b g => (box? mem b g).bind fun x => treeSl (bK mem n) t e b x.row.all
  | .sl t e, .ms b g o m => (box? mem b g).bind fun x => (x.row.sub o m).bind fun w => treeSl (bK mem n) t e b w
  | _, _ => none
 where
 treeInts (k : IntKind) (b : Nat) (w : aN) : Option (Bool × PV × List Nat) :=
  match w with
  | .ints k' xs => guardB (gV k k') (some (false, .ints k' xs, [b]))
  | .avs e cs => guardB (Nat.beq e 1) ((eS k cs).map fun xs => (false, .ints k xs, [b]))
  | _ => none
 treeSl (f : LK → AV → Option (Bool × PV × List Nat)) (t : TypeId) (e b : Nat) (w : aN) : Option (Bool × PV × List Nat) :=
  match w with
  | .pvs β e' xs => guardB (Nat.beq e e') (some (β, .sl e' xs, [b]))
  | .avs e' cs => guardB (Nat.beq e e' && Nat.ble 1 e) ((leaves? P 8 t).bind fun ls =>
    (fS (fun vs => (cS f ls vs).bind fun q => (Dg P t q.2.1).map fun p => (q.1, p, q.2.2)) (jA e (bD e cs.length) cs)).map fun q => (q.1, .sl e q.2.1, b :: q.2.2))
  | _ => none
def iP : Nat := 6
def qJ (mem : a9) (t : TypeId) (v : AV) : Option (Bool × PV × List Nat) :=
 (leaves? P 8 t).bind fun ls => (cS (bK P mem iP) ls v.cells).bind fun r => (Dg P t r.2.1).map fun p => (r.1, p, r.2.2)
def bV (mem : a9) : List Nat → List (Nat × d8)
 | [] => []
 | b :: r => match mem[b]? with
  | some (some x) => (b, { x with frz := true }) :: bV mem r
  | _ => bV mem r
def gX : List AV → List AV
 | [] => []
 | v :: r => v.cells ++ gX r
def e8 : List Nat → Bool
 | [] => true
 | _ => false
def mU (e : Nat) : List AV → Bool
 | [] => true
 | v :: r => Nat.beq v.cells.length e && mU e r
def lS (vars : Bool) (mem : a9) (t : TypeId) (vs : List AV) : Option (aN × List Nat) :=
 match intKind? P t with
 | some k => (eS k vs).map fun xs => (.ints k xs, [])
 | none => (k6 P t).bind fun e =>
  bif vars then guardB (mU e vs && Nat.ble 1 e && kM (gX vs)) (some (.avs e (gX vs), []))
  else (fS (qJ P mem t) vs).map fun r => (.pvs r.1 e r.2.1, r.2.2)
def E2 (t : TypeId) (β : Bool) (e : Nat) : List PV → Option (List AV)
 | [] => some []
 | p :: r => (Lc P β t p 0).bind fun v => guardB (Nat.beq v.cells.length e) ((E2 t β e r).map (v.cells ++ ·))
def aN.toAvs (t : TypeId) : aN → Option (List AV)
 | .ints k xs => some (xs.map fun x => .lit (.int k x))
 | .pvs β e xs => E2 P t β e xs
 | .avs e cs => some cs
structure eL where
 v : AV
 rd : List Nat := []
 wr : List (Nat × d8) := []
 push : a9 := []
abbrev bZ := FuncId → List AV → a9 → Option (AV × a9)
def aP (mem : a9) : List (Nat × d8) → a9
 | [] => mem
 | (b, x) :: r => aP (mem.set b (some x)) r
def eL.apply (o : eL) (mem : a9) : a9 := aP mem o.wr ++ o.push
def p0 (op : BinOp) (x y : Value) : Option Value :=
 match x, y with
 | .int k a, .int k' b =>
  match op with
  | .shl => guardB (decide (0 ≤ b)) (some (.int k (k.wrap (a * 2 ^ (min b.toNat k.bits)))))
  | .shr => guardB (decide (0 ≤ b)) (some (.int k (a.fdiv (2 ^ (min b.toNat k.bits)))))
  | .add => guardB (gV k k') (some (.int k (k.wrap (a + b))))
  | .sub => guardB (gV k k') (some (.int k (k.wrap (a - b))))
  | .mul => guardB (gV k k') (some (.int k (k.wrap (a * b))))
  | .quo => guardB (gV k k') (guardB (!(b == 0)) (some (.int k (k.wrap (a.tdiv b)))))
  | .rem => guardB (gV k k') (guardB (!(b == 0)) (some (.int k (a.tmod b))))
  | .and => guardB (gV k k') (some (.int k (k.wrap (BitVec.ofInt k.bits a &&& BitVec.ofInt k.bits b).toNat)))
  | .or => guardB (gV k k') (some (.int k (k.wrap (BitVec.ofInt k.bits a ||| BitVec.ofInt k.bits b).toNat)))
  | .xor => guardB (gV k k') (some (.int k (k.wrap (BitVec.ofInt k.bits a ^^^ BitVec.ofInt k.bits b).toNat)))
  | .andNot => guardB (gV k k') (some (.int k (k.wrap (BitVec.ofInt k.bits a &&& ~~~BitVec.ofInt k.bits b).toNat)))
  | .eql => guardB (gV k k') (some (.bool (a == b)))
  | .neq => guardB (gV k k') (some (.bool (a != b)))
  | .lss => guardB (gV k k') (some (.bool (decide (a < b))))
  | .leq => guardB (gV k k') (some (.bool (decide (a ≤ b))))
  | .gtr => guardB (gV k k') (some (.bool (decide (a > b))))
  | .geq => guardB (gV k k') (some (.bool (decide (a ≥ b))))
 | .bool a, .bool b =>
  match op with
  | .eql => some (.bool (a == b))
  | .neq => some (.bool (!(a == b)))
  | _ => none
 | .string a, .string b =>
  match op with
  | .eql => some (.bool (a.toList == b.toList))
  | .neq => some (.bool (!(a.toList == b.toList)))
  | _ => none
 | _, _ => none
def FJ (op : UnOp) (x : Value) : Option Value :=
 match op, x with
 | .neg, .int k n => some (.int k (k.wrap (0 - n)))
 | .xor, .int k n => some (.int k (k.wrap (BitVec.ofInt k.bits (if k.signed then -1 else k.max) ^^^ BitVec.ofInt k.bits n).toNat))
 | .not, .bool b => some (.bool (!b))
 | _, _ => none
def AW (t : TypeId) (a b : AV) : Option Bool :=
 match P.underlying t, a, b with
 | some (.int _), .lit (.int k a), .lit (.int k' b) => guardB (gV k k') (some (a == b))
 | some .bool, .lit (.bool a), .lit (.bool b) => some (a == b)
 | some .string, .lit (.string a), .lit (.string b) => some (a.toList == b.toList)
 | _, _, _ => none
def jW : List Field → Nat → List AV → List AV → Option Bool
 | [], _, [], [] => some true
 | f :: fs, n, a :: as, b :: bs => guardB ((f.name != "_") && Nat.beq f.offset n) ((AW P f.type a b).bind fun q => (jW fs (n + 1) as bs).map fun r => q && r)
 | _, _, _, _ => none
def lM (t : TypeId) (a b : List AV) : Option Bool :=
 match P.underlying t with
 | some (.struct fs) => guardB ((!(P.stoodInHeld t)) && (!(P.eqGuardType P.depth t))) (jW P fs.toList 0 a b)
 | _ => none
def F8 (t : TypeId) : Bool :=
 match P.underlying t with
 | some (.pointer _) => true
 | _ => false
def Gs (t : TypeId) : Bool :=
 match P.underlying t with
 | some .bool => true
 | _ => false
def Dn (t : TypeId) (a b : Value) : Bool :=
 match a, b with
 | .bool _, .bool _ => Gs P t
 | _, _ => true
def z7 (t : TypeId) : Bool :=
 match P.underlying t with
 | some (.slice _) => true
 | _ => false
def jN : PV → Option Bool
 | .ints _ xs => some xs.isEmpty
 | .sl _ xs => some xs.isEmpty
 | _ => none
def qH (op : BinOp) (t : TypeId) (x y : AV) : Option AV :=
 match x, y with
 | .imm _ p, .lit (.slice none 0 0) =>
  match op with
  | .eql => guardB (z7 P t) ((jN p).map fun e => bif e then .unkB else .lit (.bool false))
  | .neq => guardB (z7 P t) ((jN p).map fun e => bif e then .unkB else .lit (.bool true))
  | _ => none
 | .lit (.slice none 0 0), .lit (.slice none 0 0) =>
  match op with
  | .eql => guardB (z7 P t) (some (.lit (.bool true)))
  | .neq => guardB (z7 P t) (some (.lit (.bool false)))
  | _ => none
 | .lit a, .lit b => guardB (Dn P t a b) ((p0 op a b).map .lit)
 | .agg a, .agg b =>
  match op with
  | .eql => (lM P t a b).map fun r => .lit (.bool r)
  | .neq => (lM P t a b).map fun r => .lit (.bool (!r))
  | _ => none
 | .ptr _ _ _ _, .lit (.pointer none) | .el _ _ _, .lit (.pointer none) =>
  match op with
  | .eql => guardB (F8 P t) (some (.lit (.bool false)))
  | .neq => guardB (F8 P t) (some (.lit (.bool true)))
  | _ => none
 | _, _ => none
def setCells : List AV → Nat → List AV → List AV
 | cs, _, [] => cs
 | cs, i, v :: r => setCells (cs.set i v) (i + 1) r
def nL : List PV → Nat → List PV → List PV
 | cs, _, [] => cs
 | cs, i, v :: r => nL (cs.set i v) (i + 1) r
def wW (y : Nat) : Option Int → Nat → Option Nat
 | none, d => some d
 | some i, _ => guardB (decide (0 ≤ i) && decide (i ≤ (y : Int))) (some i.toNat)
def iG (len : Nat) (lo hi mx : Option Int) : Option (Nat × Nat) :=
 guardB (mx.isNone || hi.isSome)
  ((wW len mx len).bind fun m => (wW m hi len).bind fun h => (wW h lo 0).bind fun l => some (l, h))
def JQ : Option AV → Option (Option Int)
 | none => some none
 | some (.lit (.int _ n)) => some (some n)
 | some _ => none
def OC (k : IntKind) (x y : Int) : Int := bif decide (y < x) then y else x
def Ob (k : IntKind) (x y : Int) : Int := bif decide (y > x) then y else x
def kL (f : Int → Int → Int) (k : IntKind) : List AV → Int → Option Int
 | [], a => some a
 | .lit (.int k' b) :: r, a => guardB (gV k k') (kL f k r (f a b))
 | _, _ => none
def cT : Nat := 4294967296
def aN.app (t : TypeId) (x y : aN) : Option aN :=
 match x, y with
 | .ints k xs, .ints k' ys => guardB (gV k k') (some (.ints k (xs ++ ys)))
 | .pvs β e xs, .pvs β' e' ys => guardB (Nat.beq e e') (some (.pvs (β || β') e (xs ++ ys)))
 | .avs e xs, y => (y.toAvs P t).bind fun ys => guardB (kM ys && Nat.beq e y.e && Nat.ble 1 e) (some (.avs e (xs ++ ys)))
 | _, _ => none
def yQ (tx : TypeId) (y : AV) : Bool :=
 match P.underlying tx, y with
 | some .string, .lit (.string _) => true
 | some (.slice _), .lit (.string _) => false
 | some (.slice _), _ => true
 | _, _ => false
def oC (vars : Bool) (et : TypeId) (v : aN) : Option cI :=
 bif vars then guardB (Nat.ble 1 v.len) ((v.toAvs P et).bind fun cs => guardB (kM cs) (some (.cells v.e cs))) else
 match v with
 | .avs _ _ => none
 | v => some v.row
def kB (boxed vars : Bool) (t tx : TypeId) (mem : a9) (rs : Nat) (x y : AV) : Option eL :=
 (elemOf? P t).bind fun et => (k6 P et).bind fun s => (mJ P et).bind fun bytes => (zero? P et).bind fun z =>
 (view P et mem y).bind fun yv =>
 guardB (Nat.beq s yv.1.e && yQ P tx y && Nat.ble bytes 4096 && Nat.ble 1 s && Nat.beq z.cells.length s)
 (match x with
 | .lit (.slice none 0 0) =>
  guardB (Nat.ble yv.1.len cT) (
  bif boxed then (oC P vars et yv.1).map fun row => { v := .msw rs 0, rd := yv.2, wr := [(rs, { gen := 0, frz := false, row })] }
  else yv.1.imm?.map fun v => { v, rd := yv.2 })
 | .msw b g => (box? mem b g).bind fun bx => (bx.row.all.app P et yv.1).bind fun zv =>
  guardB (!bx.frz && Nat.beq s bx.row.e && Nat.ble zv.len cT)
   (some { v := .msw b (g + 1), rd := b :: yv.2, wr := [(b, { gen := g + 1, frz := false, row := zv.row })] })
 | .ms b g 0 n => (box? mem b g).bind fun bx => (bx.row.sub 0 n).bind fun xv => (xv.app P et yv.1).bind fun zv =>
  guardB (!bx.frz && Nat.beq s bx.row.e && Nat.ble zv.len cT)
   (some { v := .msw b (g + 1), rd := b :: yv.2, wr := [(b, { gen := g + 1, frz := false, row := zv.row })] })
 | _ => none)
def jG (t : TypeId) (mem : a9) (x : AV) (i : Int) : Option eL :=
 match P.underlying t with
 | some (.slice et) => (k6 P et).bind fun s =>
  match x with
  | .imm β (.ints k xs) => guardB (Nat.beq s 1) ((aD xs i).bind fun v => some { v := .el β (.lit (.int k v)) 0 })
  | .imm β (.sl e xs) => guardB (Nat.beq s e) ((aD xs i).bind fun v => some { v := .el β v 0 })
  | .ms b g o n => (box? mem b g).bind fun bx => guardB (Nat.beq s bx.row.e && decide (0 ≤ i) && decide (i < (n : Int))) (some { v := .ptr b g (o + i.toNat) 0, rd := [b] })
  | .msw b g => (box? mem b g).bind fun bx => guardB (Nat.beq s bx.row.e && decide (0 ≤ i) && decide (i < (bx.row.len : Int))) (some { v := .ptr b g i.toNat 0, rd := [b] })
  | _ => none
 | some (.array n e) => (k6 P e).bind fun s =>
  match x with
  | .ptr b g j c => guardB (decide (0 ≤ i) && decide (i < (n : Int))) (some { v := .ptr b g j (c + i.toNat * s) })
  | _ => none
 | _ => none
def jJ (t : TypeId) (mem : a9) (a : AV) : Option eL :=
 match a with
 | .el β p c => (Lc P β t p c).map fun v => { v }
 | .ptr b g i c => (box? mem b g).bind fun bx =>
  match bx.row with
  | .cells e cs =>
   (isAgg? P t).bind fun ag => bif ag then (k6 P t).bind fun n => guardB (Nat.ble (i * e + c + n) cs.length) (some { v := .agg ((cs.drop (i * e + c)).take n), rd := [b] })
    else (cs[i * e + c]?).map fun v => { v, rd := [b] }
  | .ints k xs => guardB (Nat.beq c 0) (guardB (match isAgg? P t with | some false => true | _ => false) ((xs[i]?).map fun x => { v := .lit (.int k x), rd := [b] }))
  | .pvs β e xs => (xs[i]?).bind fun x => (Lc P β t x c).map fun v => { v, rd := [b] }
 | _ => none
def jO (t : TypeId) (mem : a9) (a x : AV) : Option eL :=
 match a with
 | .ptr b g i c => (box? mem b g).bind fun bx => (k6 P t).bind fun n => guardB (!bx.frz && Nat.beq x.cells.length n)
  (match bx.row with
  | .cells e cs => guardB (Nat.ble (i * e + c + n) cs.length && kM x.cells) (some { v := .lit undef, rd := [b], wr := [(b, { bx with row := .cells e (setCells cs (i * e + c) x.cells) })] })
  | .ints k xs =>
   match x with
   | .lit (.int k' v) => guardB (gV k k' && Nat.beq c 0 && Nat.ble (i + 1) xs.length) (some { v := .lit undef, rd := [b], wr := [(b, { bx with row := .ints k (xs.set i v) })] })
   | _ => none
  | .pvs β e xs => (xs[i]?).bind fun p => (qJ P mem t x).bind fun q => guardB (Nat.ble (c + n) e && Nat.beq p.cells.length e && !gW b q.2.2)
    (some { v := .lit undef, rd := b :: q.2.2, wr := bV mem q.2.2 ++ [(b, { bx with row := .pvs (β || q.1) e (xs.set i (bif Nat.beq n e && Nat.beq c 0 then q.2.1 else .agg (nL p.cells c q.2.1.cells))) })] }))
 | _ => none
def gQ (t : TypeId) (mem : a9) (x : AV) (lo hi mx : Option Int) : Option eL :=
 match P.underlying t with
 | some .string =>
  match x with
  | .lit (.string s) => guardB mx.isNone ((iG s.size lo hi none).map fun b => { v := .lit (.string (s.extract b.1 b.2)) })
  | _ => none
 | some (.slice et) => (k6 P et).bind fun s =>
  match x with
  | .imm β (.ints k xs) => guardB (Nat.beq s 1) ((iG xs.length lo hi mx).map fun b => { v := .imm β (.ints k ((xs.take b.2).drop b.1)) })
  | .imm β (.sl e xs) => guardB (Nat.beq s e) ((iG xs.length lo hi mx).map fun b => { v := .imm β (.sl e ((xs.take b.2).drop b.1)) })
  | .ms b g o n => (box? mem b g).bind fun bx => guardB (Nat.beq s bx.row.e) ((iG n lo hi mx).map fun q => { v := .ms b g (o + q.1) (q.2 - q.1), rd := [b] })
  | .msw b g => (box? mem b g).bind fun bx => guardB (Nat.beq s bx.row.e) ((iG bx.row.len lo hi mx).map fun q => { v := .ms b g q.1 (q.2 - q.1), rd := [b] })
  | .lit (.slice none 0 0) => (iG 0 lo hi mx).map fun _ => { v := .lit (.slice none 0 0) }
  | _ => none
 | some (.array n e) => (k6 P e).bind fun s =>
  match x with
  | .ptr b g 0 c => guardB (Nat.beq s 1) ((box? mem b g).bind fun bx =>
    match bx.row with
    | .cells 1 cs => guardB (Nat.ble (c + n) cs.length) ((iG n lo hi mx).map fun q => { v := .ms b g (c + q.1) (q.2 - q.1), rd := [b] })
    | _ => none)
  | _ => none
 | _ => none
def kG (s : TypeId) (f : Nat) : Option (Nat × Nat × TypeId) :=
 match P.underlying s with
 | some (.struct fs) => (fs[f]?).bind fun x => (k6 P x.type).bind fun n => guardB (Nat.ble 1 n) (some (x.offset, n, x.type))
 | _ => none
def Bp (k7 : Nat → Option (Nat × Nat)) (cs : List AV) : List (Nat × AV) → Option (List AV)
 | [] => some cs
 | (i, v) :: r => (k7 i).bind fun q => guardB (Nat.beq v.cells.length q.2 && Nat.ble (q.1 + q.2) cs.length) (Bp k7 (setCells cs q.1 v.cells) r)
def places? : List Field → Option (List (Nat × Nat))
 | [] => some []
 | f :: r => (k6 P f.type).bind fun n => (places? r).map ((f.offset, n) :: ·)
def AA (t : TypeId) (parts : List (Nat × AV)) : Option AV :=
 (zero? P t).bind fun z =>
 match P.underlying t with
 | some (.struct fs) => (places? P fs.toList).bind fun ps => (Bp (fun i => ps[i]?) z.cells parts).map .agg
 | some (.array _ e) => (k6 P e).bind fun n => (Bp (fun i => some (i * n, n)) z.cells parts).map .agg
 | _ => none
def qM (vs : List AV) : List (Nat × AV) → List AV
 | [] => vs
 | (i, v) :: r => qM (vs.set i v) r
def pW (n : Nat) : List (Nat × AV) → Bool
 | [] => true
 | (i, _) :: r => Nat.ble (i + 1) n && pW n r
def AQ (ρ : Operand → Option AV) : List Operand → Option (List AV)
 | [] => some []
 | x :: r => (ρ x).bind fun v => (AQ ρ r).map (v :: ·)
def kQ (ρ : Operand → Option AV) : List (Nat × Operand) → Option (List (Nat × AV))
 | [] => some []
 | (i, x) :: r => (ρ x).bind fun v => (kQ ρ r).map ((i, v) :: ·)
def CA (ρ : Operand → Option AV) : Option Operand → Option (Option Int)
 | none => some none
 | some x => (ρ x).bind fun v => JQ (some v)
mutual
def AV.refs : AV → List Nat
 | .ptr b _ _ _ => [b]
 | .ms b _ _ _ => [b]
 | .msw b _ => [b]
 | .fn _ fi ca => AV.refsAll fi ++ AV.refsAll ca
 | .agg cs => AV.refsAll cs
 | .tup vs => AV.refsAll vs
 | .lit _ => []
 | .imm _ _ => []
 | .el _ _ _ => []
def AV.refsAll : List AV → List Nat
 | [] => []
 | v :: r => v.refs ++ AV.refsAll r
end
def cI.refs : cI → List Nat
 | .cells _ cs => AV.refsAll cs
 | _ => []
def AD (mem : a9) (b : Nat) : List Nat :=
 match mem[b]? with
 | some (some x) => x.row.refs
 | _ => []
def fO (mem : a9) : Nat → List Nat → List Nat → List Nat
 | 0, _, seen => seen
 | _, [], seen => seen
 | n + 1, b :: todo, seen => bif gW b seen then fO mem n todo seen else fO mem n (todo ++ AD mem b) (seen ++ [b])
def rX (b : Nat) : List Nat → Nat → Option Nat
 | [], _ => none
 | m :: r, n => bif Nat.beq m b then some n else rX b r (n + 1)
def mY (mem : a9) (b : Nat) : Option Nat :=
 match mem[b]? with
 | some (some x) => some x.gen
 | _ => none
abbrev lI := Nat → Nat → Option (Nat × Nat)
mutual
def AV.ren (f : lI) : AV → AV
 | .ptr b g i c => match f b g with | some q => .ptr q.1 q.2 i c | none => .dead
 | .ms b g o n => match f b g with | some q => .ms q.1 q.2 o n | none => .dead
 | .msw b g => match f b g with | some q => .msw q.1 q.2 | none => .dead
 | .fn h fi ca => .fn h (AV.renAll f fi) (AV.renAll f ca)
 | .agg cs => .agg (AV.renAll f cs)
 | .tup vs => .tup (AV.renAll f vs)
 | .lit v => .lit v
 | .imm β p => .imm β p
 | .el β p c => .el β p c
def AV.renAll (f : lI) : List AV → List AV
 | [] => []
 | v :: r => v.ren f :: AV.renAll f r
end
def cI.ren (f : lI) : cI → cI
 | .cells e cs => .cells e (AV.renAll f cs)
 | .ints k xs => .ints k xs
 | .pvs β e xs => .pvs β e xs
def cI.isCells : cI → Bool
 | .cells _ _ => true
 | _ => false
def fX (mem : a9) (ids : List Nat) : lI := fun b g =>
 match mY mem b with
 | some h => bif Nat.beq h g then (rX b ids 0).map fun j => (j, 0) else none
 | none => none
def eQ (f : lI) (mem : a9) : List Nat → a9
 | [] => []
 | b :: r => (match mem[b]? with
  | some (some x) => some { gen := 0, frz := x.frz, row := x.row.ren f }
  | _ => none) :: eQ f mem r
def Pg : List Nat → List Nat → Bool
 | [], _ => true
 | b :: r, ids => gW b ids && Pg r ids
def vL : List Nat → List Nat → Bool
 | [], _ => true
 | b :: r, ids => (!gW b ids) && vL r ids
def dB : List Nat → Bool
 | [] => true
 | b :: r => (!gW b r) && dB r
def iJ : Nat → Nat → List Nat
 | _, 0 => []
 | a, n + 1 => a :: iJ (a + 1) n
def c7 (mem : a9) (n : Nat) : Nat := (mem.length + 1) * (mem.length + 1) + n
def rT (mem : a9) : List (Option Bool) := mem.map fun x => x.map (·.row.isCells)
def mZ : List (Option Bool) → a9 → Bool
 | [], _ => true
 | some k :: r, some x :: m => (bif k then x.row.isCells && Nat.beq x.gen 0 else !x.row.isCells) && mZ r m
 | none :: r, none :: m => mZ r m
 | _, _ => false
def sF : Nat → Nat → List Nat → Bool
 | _, 0, _ => true
 | i, n + 1, b :: r => Nat.beq b i && sF (i + 1) n r
 | _, _ + 1, [] => false
def rQ (old : List (Option Bool)) (vs : List AV) (mem : a9) : Option (List AV × a9) :=
 let ids := fO mem (c7 mem (old.length + (AV.refsAll vs).length)) (iJ 0 old.length ++ AV.refsAll vs) []
 guardB (mZ old mem && dB ids && sF 0 old.length ids) (some (AV.renAll (fX mem ids) vs, eQ (fX mem ids) mem ids))
def AV.frz (m : Nat) (mem : a9) : AV → AV
 | .msw b g => bif Nat.ble m b then
   (match box? mem b g with
   | some x => (match x.row with
    | .ints k xs => .imm false (.ints k xs)
    | .pvs β e xs => .imm β (.sl e xs)
    | .cells _ _ => .msw b g)
   | none => .msw b g)
  else .msw b g
 | v => v
def AV.frzAll (m : Nat) (mem : a9) : List AV → List AV
 | [] => []
 | v :: r => v.frz m mem :: AV.frzAll m mem r
def kT (m : Nat) (mem : a9) : AV → AV
 | .tup vs => .tup (AV.frzAll m mem vs)
 | .agg vs => .agg (AV.frzAll m mem vs)
 | v => v.frz m mem
mutual
def AV.lent : AV → Bool
 | .imm β _ => β
 | .el β _ _ => β
 | .fn _ fi ca => AV.lentAny fi || AV.lentAny ca
 | .agg cs => AV.lentAny cs
 | .tup vs => AV.lentAny vs
 | .lit _ => false
 | .ptr _ _ _ _ => false
 | .ms _ _ _ _ => false
 | .msw _ _ => false
def AV.lentAny : List AV → Bool
 | [] => false
 | v :: r => v.lent || AV.lentAny r
end
def gL : a9 → Bool
 | [] => false
 | some x :: r => (match x.row with | .cells _ cs => AV.lentAny cs | .pvs β _ _ => β | .ints _ _ => false) || gL r
 | none :: r => gL r
def gA (mem : a9) (l : LK) (v : AV) : Option (AV × List Nat) :=
 match v with
 | .msw _ _ | .ms _ _ _ _ => (bK P mem iP l v).map fun q => (.imm true q.2.1, q.2.2)
 | v => some (v, [])
def bP (mem : a9) : List LK → List AV → Option (List AV × List Nat)
 | [], [] => some ([], [])
 | l :: ls, v :: vs => (gA P mem l v).bind fun a => (bP mem ls vs).bind fun r => some (a.1 :: r.1, a.2 ++ r.2)
 | _, _ => none
def FA : List AV → Bool
 | [] => false
 | .msw _ _ :: _ => true
 | .ms _ _ _ _ :: _ => true
 | _ :: r => FA r
def lend (mem : a9) (t : TypeId) (v : AV) : Option (AV × List Nat) :=
 match v with
 | .msw _ _ | .ms _ _ _ _ => (leaf? P t).bind fun l => gA P mem l v
 | .agg cs => bif FA cs then (leaves? P 8 t).bind fun ls => (bP P mem ls cs).map fun r => (.agg r.1, r.2) else some (.agg cs, [])
 | v => some (v, [])
def fQ (mem : a9) : List TypeId → List AV → Option (List AV × List Nat)
 | [], [] => some ([], [])
 | t :: ts, v :: r => (lend P mem t v).bind fun a => (fQ mem ts r).bind fun b => some (a.1 :: b.1, a.2 ++ b.2)
 | _, _ => none
def HP (keep : Bool) (mem : a9) (ts : List TypeId) (vs : List AV) : Option (List AV × List Nat) := bif keep then some (vs, []) else fQ P mem ts vs
def cG (mem sub : a9) (ids : List Nat) : lI := fun b g =>
 bif Nat.beq g 0 then
  (match ids[b]? with
  | some a => (match sub[b]?, mY mem a with
   | some (some x), some h => some (a, bif x.row.isCells then h else h + 1)
   | _, _ => none)
  | none => bif Nat.blt b sub.length then some (mem.length + (b - ids.length), 0) else none)
 else none
def bF (f : lI) (mem : a9) : List Nat → a9 → List (Nat × d8)
 | a :: ids, some x :: r => (a, { gen := (match mY mem a with | some h => bif x.row.isCells then h else h + 1 | none => 0), frz := x.frz, row := x.row.ren f }) :: bF f mem ids r
 | _ :: ids, none :: r => bF f mem ids r
 | _, _ => []
def eH (f : lI) : a9 → a9
 | [] => []
 | some x :: r => some { gen := 0, frz := x.frz, row := x.row.ren f } :: eH f r
 | none :: r => none :: eH f r
def fI (m : Nat) : List Nat → Bool
 | [] => true
 | b :: r => Nat.blt b m && fI m r
def lE : a9 → List Nat
 | [] => []
 | some x :: r => x.row.refs ++ lE r
 | none :: r => lE r
def z1 (C : bZ) (raw keep : Bool) (g : FuncId) (ts : List TypeId) (fi args ca : List AV) (mem : a9) : Option eL :=
 (HP P keep mem ts args).bind fun la =>
 let all := fi ++ la.1 ++ ca
 let ids := fO mem (c7 mem (AV.refsAll all).length) (AV.refsAll all) []
 guardB (dB ids && vL la.2 ids)
 ((C g (AV.renAll (fX mem ids) all) (eQ (fX mem ids) mem ids)).bind fun q =>
  let m := ids.length
  let r := bif raw then q.1 else kT m q.2 q.1
  guardB (Nat.ble m q.2.length && (e8 la.2 || !(q.1.lent || gL q.2)))
  (bif fI m r.refs && fI m (lE (q.2.take m)) then
   some { v := r.ren (cG mem (q.2.take m) ids), rd := la.2 ++ ids, wr := bF (cG mem (q.2.take m) ids) mem ids q.2 }
  else
   some { v := q.1.ren (cG mem q.2 ids), rd := la.2 ++ ids, wr := bF (cG mem q.2 ids) mem ids q.2, push := eH (cG mem q.2 ids) (q.2.drop m) }))
def BG (t tx : TypeId) (mem : a9) (rs : Nat) (n : Int) : Option eL :=
 match P.underlying tx with
 | some (.int _) => (elemOf? P t).bind fun et => (zero? P et).bind fun z =>
  match intKind? P et with
  | none => (qJ P mem et z).bind fun q => (k6 P et).bind fun e => (mJ P et).bind fun bytes =>
   guardB (decide (1 ≤ n) && Nat.ble n.toNat cT && (Nat.ble 1 e && Nat.ble bytes 4096 && Nat.beq z.cells.length e && e8 q.2.2)) (some { v := .msw rs 0, wr := [(rs, { gen := 0, frz := false, row := .pvs q.1 e (List.replicate n.toNat q.2.1) })] })
  | some _ => none
 | _ => none
def eE (boxed vars : Bool) (b : Builtin) (ts : List TypeId) (mem : a9) (rs : Nat) (args : List AV) : Option eL :=
 match b, ts, args with
 | .len, [t], [x] => (lenOf P t mem x).map fun n => { v := .lit (.int .i64 (n.1 : Int)), rd := n.2 }
 | .append, [t, tx], [.lit (.slice none 0 0), .lit (.int _ n)] => BG P t tx mem rs n
 | .append, [t, tx], [x, y] => kB P boxed vars t tx mem rs x y
 | .cap, [t], [.lit (.slice none 0 0)] => (match P.underlying t with | some (.slice _) => some { v := .lit (.int .i64 0) } | _ => none)
 | .min, _, .lit (.int k a) :: r => (kL (OC k) k r a).map fun v => { v := .lit (.int k v) }
 | .max, _, .lit (.int k a) :: r => (kL (Ob k) k r a).map fun v => { v := .lit (.int k v) }
 | _, _, _ => none
def p9 (boxed : Bool) (rs : Nat) (v : aN) : Option eL :=
 bif boxed then some { v := .msw rs 0, wr := [(rs, { gen := 0, frz := false, row := v.row })] } else v.imm?.map fun a => { v := a }
def kJ (boxed : Bool) (src dst : TypeId) (mem : a9) (rs : Nat) (x : AV) : Option eL :=
 match P.underlying src, P.underlying dst, x with
 | some (.int _), some (.int k), .lit (.int _ n) => some { v := .lit (.int k (k.wrap n)) }
 | some .string, some .string, .lit (.string s) => some { v := .lit (.string s) }
 | some (.slice e), some .string, x =>
  match P.underlying e with
  | some (.int .u8) => (view P e mem x).bind fun v => guardB (yQ P src x && (match k6 P e with | some 1 => true | _ => false)) <|
   match v.1 with
   | .ints .u8 xs => some { v := .lit (.string (n9 xs)), rd := v.2 }
   | _ => none
  | _ => none
 | some (.slice _), some (.slice e), .msw b g =>
  match P.underlying e with
  | some (.int .u8) => guardB (Nat.beq src dst) ((box? mem b g).bind fun x => guardB (Nat.ble 1 x.row.len) (some { v := .msw b g, rd := [b] }))
  | _ => none
 | _, _, _ => none
def FN (c a b : AV) : Option AV :=
 match c with
 | .lit (.bool t) =>
  match a, b with
  | .lit (.bool x), .lit (.bool y) => some (.lit (.bool (bif t then x else y)))
  | _, _ => bif t then some a else some b
 | _ => none
def Dz (ρ : Operand → Option AV) (c a b : Operand) : Option eL :=
 (ρ c).bind fun c => (ρ a).bind fun a => (ρ b).bind fun b => (FN c a b).map fun v => { v }
def zV (rs : Nat) (t : TypeId) : Option eL :=
 (zero? P t).bind fun z => guardB (Nat.ble 1 z.cells.length && kM z.cells) (some { v := .ptr rs 0 0 0, wr := [(rs, { gen := 0, frz := false, row := .cells 1 z.cells })] })
def Ht (ρ : Operand → Option AV) (rs : Nat) (t : TypeId) (x : Operand) : Option eL :=
 (ρ x).bind fun v => (k6 P t).bind fun n => guardB (Nat.beq v.cells.length n && Nat.ble 1 n && kM v.cells) (some { v := .ptr rs 0 0 0, wr := [(rs, { gen := 0, frz := false, row := .cells 1 v.cells })] })
def z0 (ρ : Operand → Option AV) (t : TypeId) (parts : Array (Nat × Operand)) : Option eL :=
 (kQ ρ parts.toList).bind fun ps => (AA P t ps).map fun v => { v }
def fC (boxed vars : Bool) (ρ : Operand → Option AV) (mem : a9) (rs : Nat) (t : TypeId) (len : Nat) (parts : Array (Nat × Operand)) : Option eL :=
 (elemOf? P t).bind fun et => (zero? P et).bind fun z => (k6 P et).bind fun s => (kQ ρ parts.toList).bind fun ps =>
   guardB (pW len ps && Nat.ble len 4096 && Nat.ble 1 s && Nat.ble s 4096 && mU s (z :: ps.map (·.2))) ((lS P vars mem et (qM (List.replicate len z) ps)).bind fun w => guardB (Nat.beq w.1.e s) <|
    (p9 (boxed || Nat.beq len 0) rs w.1).map fun o => { v := o.v, rd := w.2, wr := bV mem w.2 ++ o.wr })
def yN (ρ : Operand → Option AV) (mem : a9) (t : TypeId) (a x : Operand) : Option eL :=
 (ρ a).bind fun a => (ρ x).bind fun x => jO P t mem a x
def IJ (ρ : Operand → Option AV) (x : Operand) : Option eL :=
 (ρ x).bind fun v =>
  match v with
  | .ptr b g i c => some { v }
  | .el β p c => some { v }
  | .fn (.func f) fi ca => some { v }
  | _ => none
def I0 (ρ : Operand → Option AV) (op : BinOp) (t : TypeId) (x y : Operand) : Option eL :=
 (ρ x).bind fun x => (ρ y).bind fun y => (qH P op t x y).map fun v => { v }
def MH (ρ : Operand → Option AV) (op : UnOp) (x : Operand) : Option eL :=
 (ρ x).bind fun x =>
  match x with
  | .lit a => (FJ op a).map fun v => { v := .lit v }
  | _ => none
def E6 (ρ : Operand → Option AV) (fn : Fn) (first cap : Array Operand) : Option eL :=
 (AQ ρ first.toList).bind fun fi => (AQ ρ cap.toList).map fun ca => { v := .fn fn fi ca }
def AU (boxed : Bool) (ρ : Operand → Option AV) (mem : a9) (rs : Nat) (t : TypeId) (l c : Operand) : Option eL :=
 (elemOf? P t).bind fun et => (zero? P et).bind fun z => (ρ l).bind fun l => (ρ c).bind fun c =>
  match l, c with
  | .lit (.int _ n), .lit (.int _ n') => guardB (n == n' && decide (0 ≤ n) && Nat.ble n.toNat cT) (
    match intKind? P et with
    | some k => (k6 P et).bind fun e => (mJ P et).bind fun bytes => (eS k [z]).bind fun zs => guardB (Nat.beq e 1 && Nat.ble bytes 4096) (p9 boxed rs (.ints k (List.replicate n.toNat (zs.headD 0))))
    | none => (qJ P mem et z).bind fun q => (k6 P et).bind fun e => (mJ P et).bind fun bytes =>
      guardB (Nat.ble 1 e && Nat.ble bytes 4096 && Nat.beq z.cells.length e && e8 q.2.2) (p9 boxed rs (.pvs q.1 e (List.replicate n.toNat q.2.1))))
  | _, _ => none
def zW (ρ : Operand → Option AV) (mem : a9) (t : TypeId) (x : Operand) (lo hi mx : Option Operand) : Option eL :=
 (ρ x).bind fun x => (CA ρ lo).bind fun lo => (CA ρ hi).bind fun hi => (CA ρ mx).bind fun mx => gQ P t mem x lo hi mx
def kI (ρ : Operand → Option AV) (s : TypeId) (x : Operand) (f : Nat) : Option eL :=
 (ρ x).bind fun x => (kG P s f).bind fun q =>
  match x with
  | .ptr b g i c => some { v := .ptr b g i (c + q.1) }
  | .el β p c => some { v := .el β p (c + q.1) }
  | _ => none
def z5 (ρ : Operand → Option AV) (s : TypeId) (x : Operand) (f : Nat) : Option eL :=
 (ρ x).bind fun x => (kG P s f).bind fun q =>
  match x with
  | .agg cs => (isAgg? P q.2.2).bind fun ag => bif ag then guardB (Nat.ble (q.1 + q.2.1) cs.length) (some { v := .agg ((cs.drop q.1).take q.2.1) }) else (cs[q.1]?).map fun v => { v }
  | _ => none
def yZ (ρ : Operand → Option AV) (mem : a9) (t : TypeId) (x ix : Operand) : Option eL :=
 (ρ x).bind fun x => (ρ ix).bind fun ix =>
  match ix with
  | .lit (.int _ i) => jG P t mem x i
  | _ => none
def oG (ρ : Operand → Option AV) (t : TypeId) (x ix : Operand) : Option eL :=
 (ρ x).bind fun x => (ρ ix).bind fun ix =>
  match x, ix with
  | .agg cs, .lit (.int _ i) =>
   match P.underlying t with
   | some (.array n e) => (isAgg? P e).bind fun ag => (k6 P e).bind fun s => guardB (!ag && Nat.beq s 1 && decide (0 ≤ i) && decide (i < (n : Int))) ((cs[i.toNat]?).map fun v => { v })
   | _ => none
  | .lit (.string s), .lit (.int _ i) =>
   match P.underlying t with
   | some .string => (aD (cE s) i).map fun n => { v := .lit (.int .u8 n) }
   | _ => none
  | _, _ => none
def oH (ρ : Operand → Option AV) (t : Operand) (ix : Nat) : Option eL :=
 (ρ t).bind fun t =>
  match t with
  | .tup vs => (vs[ix]?).map fun v => { v }
  | _ => none
def Ee (C : bZ) (boxed raw vars : Bool) (ρ : Operand → Option AV) (mem : a9) (rs : Nat) (c : Call) : Option eL :=
 (AQ ρ c.args.toList).bind fun args =>
  match c.callee with
  | .builtin b => eE P boxed vars b c.argTypes.toList mem rs args
  | .value f => (ρ f).bind fun f =>
   match f with
   | .fn (.func g) fi ca => z1 P C raw vars g c.argTypes.toList fi args ca mem
   | _ => none
  | .invoke _ _ => none
def qY : Operand → Bool
 | .const (.slice none 0 0) => true
 | _ => false
def pI (t : TypeId) : Option PV :=
 (elemOf? P t).bind fun et =>
 match intKind? P et with
 | some k => some (.ints k [])
 | none => (k6 P et).bind fun e => guardB (Nat.ble 1 e) (some (.sl e []))
def GQ : PV → Option cI
 | .ints k xs => some (.ints k xs)
 | .sl e xs => some (.pvs false e xs)
 | _ => none
def rU (boxed vars : Bool) (ρ : Operand → Option AV) (t : TypeId) (rs : Nat) (x : Operand) : Option eL :=
 bif qY x && boxed && !vars then (pI P t).bind fun p => (GQ p).map fun row => { v := .msw rs 0, wr := [(rs, { gen := 0, frz := false, row })] }
 else (ρ x).bind fun v =>
  match v with
  | .lit (.slice none 0 0) => bif boxed then some { v } else (pI P t).map fun p => { v := .imm false p }
  | v => some { v }
def Iy (C : bZ) (boxed raw vars : Bool) (o : Oper) (ρ : Operand → Option AV) (mem : a9) (rs : Nat) : Option eL :=
 match o.op with
 | .move x => rU P boxed vars ρ o.type rs x
 | .assign x => rU P boxed vars ρ o.type rs x
 | .pick c a b => Dz ρ c a b
 | .alloc t => zV P rs t
 | .box t x => Ht P ρ rs t x
 | .build t parts => z0 P ρ t parts
 | .buildSlice t len parts => fC P boxed vars ρ mem rs t len parts
 | .load t a => (ρ a).bind fun a => jJ P t mem a
 | .store t a x => yN P ρ mem t a x
 | .nilCheck x => IJ ρ x
 | .binOp op t x y _ => I0 P ρ op t x y
 | .unOp op _ x => MH ρ op x
 | .convert src dst x => (ρ x).bind fun x => kJ P boxed src dst mem rs x
 | .makeFunc fn first cap => E6 ρ fn first cap
 | .makeSlice t l c => AU P boxed ρ mem rs t l c
 | .slice t x lo hi mx => zW P ρ mem t x lo hi mx
 | .fieldAddr s x f => kI P ρ s x f
 | .field s x f => z5 P ρ s x f
 | .indexAddr t x ix => yZ P ρ mem t x ix
 | .index t x ix => oG P ρ t x ix
 | .extract t ix => oH ρ t ix
 | .call c => Ee P C boxed raw vars ρ mem rs c
 | _ => none
structure Tr where
 i : Nat
 rd : List Nat
 wr : List Nat
 push : Bool
 rc : Bool
 wk : Nat → Bool
def m6 : AV → Option (Nat × Nat × Nat × Nat)
 | .ptr b g i c => some (b, g, i, c)
 | _ => none
def gZ (x : d8) : Option (Nat × Nat × List (Option (Nat × Nat × Nat × Nat))) :=
 match x.row with
 | .cells e cs => some (x.gen, e, cs.map m6)
 | _ => none
def bB (mem : a9) (b : Nat) : Option (Nat × Nat × List (Option (Nat × Nat × Nat × Nat))) :=
 match mem[b]? with
 | some (some x) => gZ x
 | _ => none
def Qo (x y : Option (Nat × Nat × Nat × Nat)) : Bool :=
 match x, y with
 | none, none => true
 | some (a, b, c, d), some (a', b', c', d') => Nat.beq a a' && Nat.beq b b' && Nat.beq c c' && Nat.beq d d'
 | _, _ => false
def OF : List (Option (Nat × Nat × Nat × Nat)) → List (Option (Nat × Nat × Nat × Nat)) → Bool
 | [], [] => true
 | x :: xs, y :: ys => Qo x y && OF xs ys
 | _, _ => false
def GY (x y : Option (Nat × Nat × List (Option (Nat × Nat × Nat × Nat)))) : Bool :=
 match x, y with
 | some (g, e, l), some (g', e', l') => Nat.beq g g' && Nat.beq e e' && OF l l'
 | _, _ => false
def oF (mem : a9) (wr : List (Nat × d8)) (b : Nat) : Bool := wr.all fun q => !(Nat.beq q.1 b) || GY (gZ q.2) (bB mem b)
def JF : Op → Bool
 | .load _ _ => true
 | _ => false
def Mm (op : Op) (mem : a9) (v : AV) (rd : List Nat) : Bool :=
 JF op && (match m6 v with | some _ => true | none => false) && (match rd with | [b] => (match bB mem b with | some _ => true | none => false) | _ => false)
def J5 (L : Nat) (all : List Tr) (b : Nat) : Bool := Nat.blt b L && all.all fun u => !(gW b u.wr) || u.wk b
def Ff (L : Nat) (all : List Tr) (t : Tr) : Tr := bif t.rc && (match t.rd with | [b] => J5 L all b | _ => false) then { t with rd := [] } else t
variable [cD]
def BY (tmps : List AV) (t : Nat) : Option AV := (kO tmps t).bind fun v => bif fY v then none else some v
def fR (tmps : List AV) : Operand → Option AV
 | .tmp t => BY tmps t
 | .const v => vK v
 | .func f => some (.fn (.func f) [] [])
 | .global g => (cD.tab g).map fun q => .el true (.agg [.lit (.int .i64 q.1), .lit (.int .i64 q.2)]) 0
def lD (tmps : List AV) (dst : Option Tmp) (v : AV) : List AV :=
 match dst with
 | some d => B4 v tmps d
 | none => tmps
def eA : Op → Bool
 | .move x | .assign x => qY x
 | .alloc _ | .box _ _ | .buildSlice _ _ _ | .convert _ _ _ | .makeSlice _ _ _ => true
 | .call { callee := .builtin .append, .. } => true
 | _ => false
def nY : List Oper → Nat
 | [] => 0
 | o :: r => (bif eA o.op then 1 else 0) + nY r
def vH (mem : a9) (rs : Nat) : Bool :=
 match mem[rs]? with
 | some none => true
 | _ => false
def KG : Option d8 → Bool
 | none => true
 | some _ => false
def trim : a9 → a9
 | [] => []
 | x :: r => match trim r with
  | [] => bif KG x then [] else [x]
  | y => x :: y
def eL.tr (mk : Bool) (rs : Nat) (o : eL) (i : Nat) (op : Op) (mem : a9) : Tr := { i, rc := Mm op mem o.v o.rd, wk := oF mem o.wr, rd := o.rd, wr := bif mk then rs :: o.wr.map (·.1) else o.wr.map (·.1), push := match o.push with | [] => false | _ => true }
variable {R : Type}
def A2 (a b : Nat) : List (Nat × Nat × Int) → Option Int
 | [] => none
 | (m, x, v) :: r => bif Nat.beq m a && Nat.beq x b then some v else A2 a b r
def wP (h : Option Int) (v : AV) (k : AV → Option R) : Option R :=
 match h with
 | none => k v
 | some x => match v with
  | .lit (.int kd y) => guardB (decide (y = x)) (k (.lit (.int kd x)))
  | .lit (.bool b) => bif decide (x = 0) then guardB (!b) (k (.lit (.bool false))) else guardB b (k (.lit (.bool true)))
  | v => k v
def qK (C : bZ) (an : mQ) (rid : Nat) (ds : List (Option Tmp)) : List Oper → Nat → Nat → St → List Tr → (St → List Tr → Option R) → Option R
 | [], _, _, st, tr, k => k st tr
 | o :: rest, i, rs, st, tr, k =>
  let rs' := bif eA o.op then rs + 1 else rs
  let run (st : St) : Option R := guardB (bif eA o.op then vH st.mem rs else true) ((Iy P C (cH rid i an.boxed) (cH rid i an.raw) (cH rid i an.vars) o (fR st.tmps) st.mem rs).bind fun out =>
   wP (A2 rid i an.hint) out.v fun v => qK C an rid ds rest (i + 1) rs' { tmps := lD st.tmps o.dst v, mem := out.apply st.mem } (out.tr (eA o.op) rs i o.op st.mem :: tr) k)
  let skip (st : St) : Option R := qK C an rid ds rest (i + 1) rs' { tmps := lD st.tmps o.dst (.lit undef), mem := st.mem } tr k
  match o.guard with
  | none => run st
  | some (j, want) =>
   match ds[j]? with
   | some (some d) =>
    match kO st.tmps d with
    | some (.lit (.bool b)) =>
     bif b then (bif want then run else skip) { st with tmps := B4 (.lit (.bool true)) st.tmps d }
     else (bif want then skip else run) { st with tmps := B4 (.lit (.bool false)) st.tmps d }
    | some (.lit (.tuple _)) => skip st
    | _ => none
   | _ => none
def AE (acc : List Nat) : List Edge → Nat
 | [] => 0
 | e :: r => bif Region.binds .any e then 2 ^ e.on ||| acc.getD e.on 0 ||| AE acc r else AE acc r
def Az : List Oper → List Nat → List Nat
 | [], acc => acc
 | o :: r, acc => Az r (acc ++ [AE acc o.after.toList])
def zL (i : Nat) : List Edge → Bool
 | [] => true
 | e :: r => (!(Region.binds .any e) || Nat.blt e.on i) && zL i r
def iS : List Oper → Nat → Bool
 | [], _ => true
 | o :: r, i => zL i o.after.toList && iS r (i + 1)
def dZ (bs : List Nat) (i j : Nat) : Bool := (bs.getD j 0).testBit i || (bs.getD i 0).testBit j
def zT (ops : Array Oper) (i j : Nat) : Bool :=
 match ops[i]?, ops[j]? with
 | some x, some y => x.apart ops y
 | _, _ => false
def Ow (bs : List Nat) (L : Nat) (a : Tr) : List Tr → Bool
 | [] => true
 | b :: r => !(a.push && b.push) && (dZ bs a.i b.i || (vL a.wr b.rd && vL a.rd b.wr && vL a.wr b.wr && (!a.push || (fI L b.rd && fI L b.wr)) && (!b.push || (fI L a.rd && fI L a.wr)))) && Ow bs L a r
def KQ (bs : List Nat) (L : Nat) : List Tr → Bool
 | [] => true
 | a :: r => Ow bs L a r && KQ bs L r
def mC (o : Oper) : Bool :=
 match o.op with
 | .call c => (match c.callee with | .builtin _ => false | _ => true)
 | _ => false
def sQ (bs : List Nat) (i : Nat) : List Oper → Nat → Bool
 | [], _ => true
 | o :: r, j => (Nat.beq i j || dZ bs i j || !(mC o)) && sQ bs i r (j + 1)
def Hk (ops : Array Oper) (bs : List Nat) : List Tr → Bool
 | [] => true
 | a :: r => (!a.push || sQ bs a.i ops.toList 0) && Hk ops bs r
def w7 (ops : Array Oper) (bs : List Nat) (i : Nat) : List Nat → Bool
 | [] => true
 | j :: r => (dZ bs i j || zT ops i j) && w7 ops bs i r
def z9 (ops : Array Oper) (bs : List Nat) : List Nat → Bool
 | [] => true
 | i :: r => w7 ops bs i r && z9 ops bs r
def He (ops : Array Oper) (L : Nat) (tr : List Tr) : Bool :=
 let bs := Az ops.toList []
 iS ops.toList 0 && KQ bs L (tr.map (Ff L tr)) && Hk ops bs tr && z9 ops bs (iJ 0 ops.size)
def pJ (C : bZ) (an : mQ) (rid : Nat) (ops : Array Oper) (draw : Bool) (st : St) (k : St → Option R) : Option R :=
 qK P C an rid (ops.toList.map (·.dst)) ops.toList 0 st.mem.length { st with mem := st.mem ++ List.replicate (nY ops.toList) none } [] fun st' tr =>
  guardB (!draw || He ops (st.mem.length + nY ops.toList) tr) (k { st' with mem := trim st'.mem })
inductive Ex where
 | normal | exit (id : Nat) | ret
def cV (live : List Nat) : List AV → Nat → List AV
 | [], _ => []
 | v :: r, i => (bif gW i live then v else .goneV) :: cV live r (i + 1)
def Hv (old : List (Option Bool)) (live : List Nat) (st : St) : Option St :=
 (rQ old (cV live st.tmps 0) st.mem).map fun q => { tmps := q.1, mem := q.2 }
def vU (old : List (Option Bool)) (live : List Nat) (body : St → (Ex → St → Option R) → Option R) : Nat → St → (Ex → St → Option R) → Option R
 | 0, _, _ => none
 | n + 1, st, k => (Hv old live st).bind fun st1 => body st1 fun e st' =>
  match e with
  | .normal => vU old live body n st' k
  | .exit id => k (.exit id) st'
  | .ret => k .ret st'
def eG (C : bZ) (an : mQ) (n : Nat) (old : List (Option Bool)) : Code → Nat → St → (Ex → St → Option R) → Option R
 | .skip, _, st, k => k .normal st
 | .ret, _, st, k => k .ret st
 | .exit id, _, st, k => k (.exit id) st
 | .seq a b, bid, st, k => eG C an n old a bid st fun e st' =>
  match e with
  | .normal => eG C an n old b bid st' k
  | .exit id => k (.exit id) st'
  | .ret => k .ret st'
 | .cond c x y, bid, st, k =>
  match fR st.tmps c with
  | some (.lit (.bool t)) => bif t then eG C an n old x bid st k else eG C an n old y bid st k
  | some (.imm true (.lit (.bool false))) => amb (eG C an n old x bid st k) (eG C an n old y bid st k)
  | _ => none
 | .block id c, _, st, k => eG C an n old c id st fun e st' =>
  match e with
  | .normal => k .normal st'
  | .exit j => bif Nat.beq j id then k .normal st' else k (.exit j) st'
  | .ret => k .ret st'
 | .loop c, bid, st, k => (dU bid an.live).bind fun live => vU old live (fun st k => eG C an n old c bid st k) n st k
 | .region rid ops draw, _, st, k => pJ P C an rid ops draw st (fun st' => k .normal st')
 | _, _, _, _ => none
def B7 (tmps : List AV) (mem : a9) : List ResultVar → Option (List AV)
 | [] => some []
 | .tmp t :: r => (BY tmps t).bind fun v => (B7 tmps mem r).map (v :: ·)
 | .cell a t :: r => (BY tmps a).bind fun a => (jJ P t mem a).bind fun o => (B7 tmps mem r).map (o.v :: ·)
def q5 : List AV → AV
 | [v] => v
 | vs => .tup vs
def CV (fn : Func) (old : List (Option Bool)) (e : Ex) (st : St) : Option (AV × a9) :=
 match e with
 | .exit _ => none
 | _ => (B7 P st.tmps st.mem fn.results.toList).bind fun vs => (rQ old [q5 vs] st.mem).bind fun q =>
  match q.1 with
  | [v] => some (v, q.2)
  | _ => none
end
end
end Go.Ab
end
section
namespace Go.Ab
abbrev cl (w : World) (B o : Nat) : Option Value := w.cell? ⟨B, o, none⟩
inductive PR (w : World) (pr : Nat → Nat → Prop) : PV → Value → Prop
 | lit (v : Value) (h : v.oneCell' = true) : PR w pr (.lit v) v
 | intsNil (k : IntKind) (a : Option Addr) : PR w pr (.ints k []) (.slice a 0 0)
 | ints (k : IntKind) (xs : List Int) (B o cap : Nat) (hcap : xs.length ≤ cap)
   (h : ∀ i x, xs[i]? = some x → cl w B (o + i) = some (.int k x) ∧ pr B (o + i)) : PR w pr (.ints k xs) (.slice (some ⟨B, o, none⟩) xs.length cap)
 | slNil (e : Nat) (a : Option Addr) : PR w pr (.sl e []) (.slice a 0 0)
 | sl (e : Nat) (xs : List PV) (B o cap : Nat) (cv : Nat → Nat → Value) (he : 1 ≤ e) (hcap : xs.length ≤ cap) (hlen : ∀ x ∈ xs, x.cells.length = e)
   (h : ∀ i x c y, xs[i]? = some x → x.cells[c]? = some y → cl w B (o + i * e + c) = some (cv i c) ∧ pr B (o + i * e + c))
   (h1 : ∀ i x c y, xs[i]? = some x → x.cells[c]? = some y → (cv i c).oneCell' = true)
   (hr : ∀ i x c y, xs[i]? = some x → x.cells[c]? = some y → PR w pr y (cv i c)) : PR w pr (.sl e xs) (.slice (some ⟨B, o, none⟩) xs.length cap)
 | agg (cs : List PV) (cvs : Array Value) (hlen : cs.length = cvs.size) (h : ∀ j y, cs[j]? = some y → PR w pr y (cvs.getD j undef)) : PR w pr (.agg cs) (.agg cvs)
def PV.isSl : PV → Bool
 | .ints _ _ => true
 | .sl _ _ => true
 | _ => false
structure wZ where
 blk : Option Nat
 e : Nat
 n : Nat
structure Gh where
 loc : Nat → Nat → Option wZ
 prot : Bool → Nat → Nat → Prop
 mine : Nat → Prop
def Er (w : World) (B k : Nat) : Prop := ∀ j, j < k → (cl w B j).isSome = true
inductive VR (G : Gh) (w : World) : AV → Value → Prop
 | lit (v : Value) (h : lR v = true) : VR G w (.lit v) v
 | imm (β : Bool) (p : PV) (v : Value) (h : PR w (G.prot β) p v) (hs : p.isSl = true) : VR G w (.imm β p) v
 | unkB (b : Bool) : VR G w (.imm true (.lit (.bool false))) (.bool b)
 | dead (v : Value) (h1 : v.oneCell' = true) (h2 : lR v = true) : VR G w (.imm false (.agg [])) v
 | ptr (b g i c : Nat) (L : wZ) (B : Nat) (hl : G.loc b g = some L) (hb : L.blk = some B) : VR G w (.ptr b g i c) (.pointer (some ⟨B, i * L.e + c, none⟩))
 | ms (b g o n cap : Nat) (L : wZ) (B : Nat) (hl : G.loc b g = some L) (hb : L.blk = some B) (hn : n ≤ cap) (hon : o + n ≤ L.n) (hf : Er w B ((o + cap) * L.e)) :
   VR G w (.ms b g o n) (.slice (some ⟨B, o * L.e, none⟩) n cap)
 | msNil (b g : Nat) (L : wZ) (hl : G.loc b g = some L) (hb : L.blk = none) : VR G w (.ms b g 0 0) (.slice none 0 0)
 | msZ (b g o B oo : Nat) (L : wZ) (hl : G.loc b g = some L) (hb : L.blk = some B) (ho : 1 ≤ o) (hon : o ≤ L.n) : VR G w (.ms b g o 0) (.slice (some ⟨B, oo, none⟩) 0 0)
 | msw (b g cap : Nat) (L : wZ) (B : Nat) (hl : G.loc b g = some L) (hb : L.blk = some B) (hn : L.n ≤ cap) (hf : Er w B (cap * L.e)) :
   VR G w (.msw b g) (.slice (some ⟨B, 0, none⟩) L.n cap)
 | mswNil (b g : Nat) (L : wZ) (hl : G.loc b g = some L) (hb : L.blk = none) (hn : L.n = 0) : VR G w (.msw b g) (.slice none 0 0)
 | el (β : Bool) (p : PV) (c B o : Nat) (cv : Nat → Value)
   (h : ∀ j y, p.cells[j]? = some y → cl w B (o + j) = some (cv j) ∧ G.prot β B (o + j))
   (hr : ∀ j y, p.cells[j]? = some y → PR w (G.prot β) y (cv j)) : VR G w (.el β p c) (.pointer (some ⟨B, o + c, none⟩))
 | fn (f : Fn) (fi ca : List AV) (fv cv : Array Value) (h1 : fi.length = fv.size) (h2 : ca.length = cv.size)
   (hf : ∀ (j : Nat) (y : AV), fi[j]? = some y → VR G w y (fv.getD j undef)) (hc : ∀ (j : Nat) (y : AV), ca[j]? = some y → VR G w y (cv.getD j undef)) : VR G w (.fn f fi ca) (.func f fv cv)
 | agg (cs : List AV) (cvs : Array Value) (hlen : cs.length = cvs.size) (h : ∀ (j : Nat) (y : AV), cs[j]? = some y → VR G w y (cvs.getD j undef)) : VR G w (.agg cs) (.agg cvs)
 | tup (cs : List AV) (cvs : Array Value) (hlen : cs.length = cvs.size) (h : ∀ (j : Nat) (y : AV), cs[j]? = some y → VR G w y (cvs.getD j undef)) : VR G w (.tup cs) (.tuple cvs)
structure Ev (G : Gh) (w w' : World) : Prop where
 size : w.heap.size ≤ w'.heap.size
 out : w'.output = w.output
 os : w'.os = w.os
 away : ∀ B, B < w.heap.size → ¬ G.mine B → w'.heap[B]? = w.heap[B]?
 some : ∀ B o, (cl w B o).isSome = true → (cl w' B o).isSome = true
 prot : ∀ β B o, G.prot β B o → cl w' B o = cl w B o
 fz : ∀ B o, (cl w B o).isSome = true → w'.frozen? ⟨B, o, none⟩ = w.frozen? ⟨B, o, none⟩
 tape : w'.tape = w.tape
structure d9 (G G' : Gh) : Prop where
 mine : G'.mine = G.mine
 prot : ∀ β B o, G.prot β B o → G'.prot β B o
 loc : ∀ b g L, G.loc b g = some L → G'.loc b g = some L
 new : ∀ β B o, G'.prot β B o → G.prot β B o ∨ G.mine B
theorem d9.refl (G : Gh) : d9 G G := ⟨rfl, fun _ _ _ h => h, fun _ _ _ h => h, fun _ _ _ h => .inl h⟩
theorem d9.trans {G A H : Gh} (h : d9 G A) (z : d9 A H) : d9 G H :=
 ⟨z.mine.trans h.mine, fun _ _ _ x => z.prot _ _ _ (h.prot _ _ _ x), fun _ _ _ x => z.loc _ _ _ (h.loc _ _ _ x), fun _ _ _ x => (z.new _ _ _ x).elim (h.new _ _ _) (fun y => .inr (by rw [← h.mine]; exact y))⟩
theorem Ev.refl (G : Gh) (w : World) : Ev G w w := ⟨yz _, rfl, rfl, fun _ _ _ => rfl, fun _ _ h => h, fun _ _ _ _ => rfl, fun _ _ _ => rfl, rfl⟩
theorem Ev.trans {G A : Gh} {w H K : World} (h : Ev G w H) (J : d9 G A) (z : Ev A H K) : Ev G w K where
 size := yt2 h.size z.size
 out := z.out.trans h.out
 os := z.os.trans h.os
 away B hb hm := (z.away B (yn2 hb h.size) (by rw [J.mine]; exact hm)).trans (h.away B hb hm)
 some B o x := z.some B o (h.some B o x)
 prot β B o x := (z.prot β B o (J.prot _ _ _ x)).trans (h.prot β B o x)
 fz B o x := (z.fz B o (h.some B o x)).trans (h.fz B o x)
 tape := z.tape.trans h.tape
theorem Ev.of_eq {G : Gh} {w z : World} (A : z.heap = w.heap) (J : z.output = w.output) (K : z.os = w.os) (ht : z.tape = w.tape) : Ev G w z := by
 have H : ∀ a, z.cell? a = w.cell? a := fun a => by unfold World.cell?; rw [A]
 exact ⟨by rw [A]; exact yz _, J, K, fun B _ _ => by rw [A], fun B o h => by rw [cl, H]; exact h, fun _ _ _ _ => H _, fun _ _ _ => by unfold World.frozen?; rw [A], ht⟩
theorem PR.mono {w N : World} {K H : Nat → Nat → Prop} (M : ∀ B o, K B o → H B o) (O : ∀ B o, K B o → cl N B o = cl w B o)
  {p : PV} {v : Value} (h : PR w K p v) : PR N H p v := by
 induction h with
 | lit v h => exact .lit v h
 | intsNil k a => exact .intsNil k a
 | ints k xs B o cap A h => exact .ints k xs B o cap A fun i x hx => ⟨(O _ _ (h i x hx).2).trans (h i x hx).1, M _ _ (h i x hx).2⟩
 | slNil e a => exact .slNil e a
 | sl e xs B o cap cv V A z h h1 hr J =>
  exact .sl e xs B o cap cv V A z (fun i x c y h1 h2 => ⟨(O _ _ (h i x c y h1 h2).2).trans (h i x c y h1 h2).1, M _ _ (h i x c y h1 h2).2⟩) h1 (fun i x c y h1 h2 => J i x c y h1 h2)
 | agg cs cvs z h J => exact .agg cs cvs z fun j y U => J j y U
theorem Er.mono {G : Gh} {w z : World} (A : Ev G w z) {B k : Nat} (h : Er w B k) : Er z B k := fun j H => A.some B j (h j H)
theorem VR.mono {G W : Gh} {w V : World} (H : d9 G W) (M : Ev G w V) {a : AV} {v : Value} (h : VR G w a v) : VR W V a v := by
 induction h with
 | lit v h => exact .lit v h
 | imm β p v h Z => exact .imm β p v (h.mono (H.prot β) (M.prot β)) Z
 | unkB b => exact .unkB b
 | dead v h1 h2 => exact .dead v h1 h2
 | ptr b g i c L B hl A => exact .ptr b g i c L B (H.loc _ _ _ hl) A
 | ms b g o n cap L B hl A hn J hf => exact .ms b g o n cap L B (H.loc _ _ _ hl) A hn J (hf.mono M)
 | msNil b g L hl A => exact .msNil b g L (H.loc _ _ _ hl) A
 | msZ b g o B Y L hl A ho J => exact .msZ b g o B Y L (H.loc _ _ _ hl) A ho J
 | msw b g cap L B hl A hn hf => exact .msw b g cap L B (H.loc _ _ _ hl) A hn (hf.mono M)
 | mswNil b g L hl A hn => exact .mswNil b g L (H.loc _ _ _ hl) A hn
 | el β p c B o cv h hr =>
  exact .el β p c B o cv (fun j y K => ⟨(M.prot _ _ _ (h j y K).2).trans (h j y K).1, H.prot _ _ _ (h j y K).2⟩) (fun j y K => (hr j y K).mono (H.prot β) (M.prot β))
 | fn f fi ca fv cv h1 h2 hf hc U N => exact .fn f fi ca fv cv h1 h2 U N
 | agg cs cvs z h O => exact .agg cs cvs z O
 | tup cs cvs z h O => exact .tup cs cvs z O
def pX (G : Gh) (w : World) (as : List AV) (vs : Array Value) : Prop := as.length = vs.size ∧ ∀ (j : Nat) (y : AV), as[j]? = some y → VR G w y (vs.getD j undef)
theorem pX.mono {G A : Gh} {w z : World} (J : d9 G A) (H : Ev G w z) {as : List AV} {vs : Array Value} (h : pX G w as vs) : pX A z as vs :=
 ⟨h.1, fun j y K => (h.2 j y K).mono J H⟩
def o4 (G : Gh) (w : World) (B : Nat) : cI → Prop
 | .ints k xs => ∀ i x, xs[i]? = some x → cl w B i = some (.int k x)
 | .pvs β e xs => (∀ x ∈ xs, x.cells.length = e) ∧ ∀ (i : Nat) (x : PV) (c : Nat) (y : PV), xs[i]? = some x → x.cells[c]? = some y → ∃ v, cl w B (i * e + c) = some v ∧ v.oneCell' = true ∧ PR w (G.prot β) y v
 | .cells e cs => cs.length = e * bD e cs.length ∧ ∀ (j : Nat) (y : AV), cs[j]? = some y → ∃ v, cl w B j = some v ∧ v.oneCell' = true ∧ VR G w y v
def jI (w : World) (B : Nat) : Prop := ∃ c el lo hi, w.heap[B]? = some (.cells c el (lo, hi)) ∧ (lo = hi ∨ c.size ≤ lo)
theorem jI.cell {w : World} {B : Nat} (h : jI w B) {o : Nat} (z : (cl w B o).isSome = true) : w.frozen? ⟨B, o, none⟩ = false := by
 obtain ⟨c, el, lo, hi, A, hf⟩ := h
 unfold cl World.cell? at z
 simp only [A, Option.isSome_none, yf2, if_false] at z
 have H : o < c.size := by
  rcases yz1 o c.size with h | h
  ·exact h
  ·rw [Array.getElem?_eq_none h] at z; cases z
 unfold World.frozen?
 simp only [A, Bool.and_eq_false_iff, decide_eq_false_iff_not]
 omega
theorem jI.of_heap {w z : World} {B : Nat} (h : jI w B) (K : z.heap[B]? = w.heap[B]?) : jI z B := by
 obtain ⟨c, el, A, J, H, hf⟩ := h
 exact ⟨c, el, A, J, by rw [K]; exact H, hf⟩
structure Pz (G : Gh) (w : World) (b : Nat) (x : d8) : Prop where
 e : 1 ≤ x.row.e
 loc : ∃ o, G.loc b x.gen = some ⟨o, x.row.e, x.row.len⟩ ∧
  match o with
  | none => x.row.len = 0 ∧ x.row.isCells = false
  | some B => G.mine B ∧ B < w.heap.size ∧ jI w B ∧ o4 G w B x.row ∧ (x.frz = false → ∀ β o, ¬ G.prot β B o)
variable [cD]
def oS (G : Gh) (w : World) : Prop := ∀ (g : Nat) (q : Int × Int), cD.tab g = some q → (cl w g 0 = some (.int .i64 q.1) ∧ G.prot true g 0) ∧ cl w g 1 = some (.int .i64 q.2) ∧ G.prot true g 1
theorem oS.mono {G H : Gh} {w A : World} (h : oS G w) (J : ∀ B o, G.prot true B o → H.prot true B o) (K : ∀ B o, G.prot true B o → cl A B o = cl w B o) : oS H A := fun g q z =>
 ⟨⟨(K _ _ (h g q z).1.2).trans (h g q z).1.1, J _ _ (h g q z).1.2⟩, (K _ _ (h g q z).2.2).trans (h g q z).2.1, J _ _ (h g q z).2.2⟩
structure aT (G : Gh) (w : World) (mem : a9) : Prop where
 box : ∀ (b : Nat) (x : d8), mem[b]? = some (some x) → Pz G w b x
 unset : ∀ b g, (∀ x : d8, mem[b]? ≠ some (some x)) → G.loc b g = none
 gens : ∀ (b : Nat) (x : d8) (g : Nat), mem[b]? = some (some x) → x.gen < g → G.loc b g = none
 apart : ∀ (b b' : Nat) (x x' : d8) (L L' : wZ) (B : Nat), mem[b]? = some (some x) → mem[b']? = some (some x') → G.loc b x.gen = some L → G.loc b' x'.gen = some L' →
  L.blk = some B → L'.blk = some B → b = b'
 own : ∀ B, w.heap.size ≤ B → G.mine B
 lab : ∀ B o, G.prot false B o → G.prot true B o
 away : ∀ β B o, G.prot β B o → B < w.heap.size
 glob : oS G w
theorem o4.mono {G N : Gh} {w K : World} (M : d9 G N) (O : Ev G w K) {B : Nat} (z : ∀ o, (cl w B o).isSome = true → cl K B o = cl w B o) {r : cI} (h : o4 G w B r) : o4 N K B r := by
 cases r with
 | ints k xs => exact fun i x hx => by rw [z i (by rw [h i x hx]; rfl)]; exact h i x hx
 | pvs β e xs =>
  refine ⟨h.1, fun i x c y h1 h2 => ?_⟩
  obtain ⟨v, H, A, J⟩ := h.2 i x c y h1 h2
  exact ⟨v, by rw [z _ (by rw [H]; rfl)]; exact H, A, J.mono (M.prot β) (O.prot β)⟩
 | cells e cs =>
  refine ⟨h.1, fun j y U => ?_⟩
  obtain ⟨v, H, A, J⟩ := h.2 j y U
  exact ⟨v, by rw [z _ (by rw [H]; rfl)]; exact H, A, J.mono M O⟩
end Go.Ab
end
section
namespace Go.Ab
variable [cD]
theorem iI {w z : World} {B : Nat} (h : z.heap[B]? = w.heap[B]?) (o : Nat) : cl z B o = cl w B o := by
 unfold cl World.cell?; simp only [h]
theorem Dp {w z : World} {B : Nat} (h : z.heap[B]? = w.heap[B]?) (o : Nat) : z.frozen? ⟨B, o, none⟩ = w.frozen? ⟨B, o, none⟩ := by
 unfold World.frozen?; simp only [h]
theorem Db {w : World} {B o : Nat} (h : (cl w B o).isSome = true) : B < w.heap.size := by
 obtain ⟨u, z⟩ := Option.isSome_iff_exists.1 h
 exact World.block_lt_of_cell? (a := ⟨B, o, none⟩) _ z
def Gh.put (G : Gh) (b g : Nat) (L : wZ) : Gh := { G with loc := fun b' g' => if b' = b ∧ g' = g then some L else G.loc b' g' }
theorem Gh.put_self (G : Gh) (b g : Nat) (L : wZ) : (G.put b g L).loc b g = some L := by simp [Gh.put]
theorem Gh.put_ne (G : Gh) {b g z g' : Nat} (L : wZ) (h : ¬ (z = b ∧ g' = g)) : (G.put b g L).loc z g' = G.loc z g' := by simp [Gh.put, h]
theorem d9.put {G : Gh} {b g : Nat} {L : wZ} (h : G.loc b g = none ∨ G.loc b g = some L) : d9 G (G.put b g L) := by
 refine ⟨rfl, fun _ _ _ x => x, fun A g' L' z => ?_, fun _ _ _ x => .inl x⟩
 by_cases e : A = b ∧ g' = g
 ·obtain ⟨rfl, rfl⟩ := e
  rw [Gh.put_self]
  rcases h with h | h <;> rw [h] at z <;> simp_all
 ·rw [Gh.put_ne _ _ e]; exact z
theorem aT.upd {G : Gh} {w Z : World} {mem : a9} {b : Nat} {x' : d8} {L : wZ} (hM : aT G w mem) (J : Ev G w Z) (hb : b < mem.length)
  (O : G.loc b x'.gen = none ∨ G.loc b x'.gen = some L)
  (K : ∀ (z : Nat) (y : d8) (W : wZ) (B : Nat), z ≠ b → mem[z]? = some (some y) → G.loc z y.gen = some W → W.blk = some B → Z.heap[B]? = w.heap[B]?)
  (A : ∀ B, L.blk = some B → ∀ (z : Nat) (y : d8) (W : wZ), z ≠ b → mem[z]? = some (some y) → G.loc z y.gen = some W → W.blk ≠ some B)
  (U : ∀ g, x'.gen < g → G.loc b g = none)
  (Y : Pz (G.put b x'.gen L) Z b x') : aT (G.put b x'.gen L) Z (mem.set b (some x')) := by
 have hg := d9.put O
 have H : ∀ (z : Nat) (y : d8), (mem.set b (some x'))[z]? = some (some y) → (z = b ∧ y = x') ∨ (z ≠ b ∧ mem[z]? = some (some y)) := by
  intro z y h
  by_cases e : z = b
  ·subst e; rw [yf1 hb] at h; left; exact ⟨rfl, by simpa using h.symm⟩
  ·rw [yg1 (fun x => e x.symm)] at h; right; exact ⟨e, h⟩
 refine ⟨fun z y h => ?_, fun z g h => ?_, fun z y g h V => ?_, fun b1 b2 y1 y2 L1 L2 B h1 h2 N M k1 k2 => ?_, fun B h => hM.own B (yt2 J.size h), hM.lab, fun β B o h => yn2 (hM.away β B o h) J.size, hM.glob.mono (hg.prot true) (J.prot true)⟩
 ·rcases H z y h with ⟨rfl, rfl⟩ | ⟨e, h⟩
  ·exact Y
  ·have hx := hM.box z y h
   obtain ⟨o, hl, hm⟩ := hx.loc
   refine ⟨hx.e, o, hg.loc _ _ _ hl, ?_⟩
   cases o with
   | none => exact hm
   | some B =>
    obtain ⟨hm1, hm2, hm3, hm4, hm5⟩ := hm
    have hh := K z y _ B e h hl rfl
    exact ⟨hm1, yn2 hm2 J.size, hm3.of_heap hh, hm4.mono hg J (fun o _ => iI hh o), hm5⟩
 ·by_cases e : z = b
  ·subst e; exact absurd (yf1 hb) (h x')
  ·rw [Gh.put_ne _ _ (fun x => e x.1)]
   exact hM.unset z g fun x hx => h x (by rw [yg1 (fun x => e x.symm)]; exact hx)
 ·rcases H z y h with ⟨rfl, rfl⟩ | ⟨e, h⟩
  ·rw [Gh.put_ne _ _ (fun x => by omega)]; exact U g V
  ·rw [Gh.put_ne _ _ (fun x => e x.1)]; exact hM.gens z y g h V
 ·rcases H b1 y1 h1 with ⟨f1, f1'⟩ | ⟨e1, g1⟩ <;> rcases H b2 y2 h2 with ⟨f2, f2'⟩ | ⟨e2, g2⟩
  ·rw [f1, f2]
  ·subst f1 f1'
   rw [Gh.put_self] at N; rw [Gh.put_ne _ _ (fun x => e2 x.1)] at M
   obtain rfl : L = L1 := by simpa using N
   exact absurd k2 (A B k1 b2 y2 L2 e2 g2 M)
  ·subst f2 f2'
   rw [Gh.put_self] at M; rw [Gh.put_ne _ _ (fun x => e1 x.1)] at N
   obtain rfl : L = L2 := by simpa using M
   exact absurd k1 (A B k2 b1 y1 L1 e1 g1 N)
  ·rw [Gh.put_ne _ _ (fun x => e1 x.1)] at N; rw [Gh.put_ne _ _ (fun x => e2 x.1)] at M
   exact hM.apart b1 b2 y1 y2 L1 L2 B g1 g2 N M k1 k2
theorem fL {w : World} {o : Obj} {B : Nat} (h : B < w.heap.size) : (w.alloc o).heap[B]? = w.heap[B]? := by
 simp only [World.alloc]; rw [Array.getElem?_push]; rw [if_neg (by omega)]
theorem Bs {w : World} {o : Obj} {B j : Nat} (h : B < w.heap.size) : cl (w.alloc o) B j = cl w B j := iI (fL h) j
theorem lC {w : World} {c : Array Value} {t : TypeId} {fr : Nat × Nat} {j : Nat} : cl (w.alloc (.cells c t fr)) w.heap.size j = c[j]? := by
 unfold cl World.cell? World.alloc; simp
theorem A0 (w : World) (c : Array Value) (t : TypeId) (a : Addr) : (w.alloc (.cells c t)).frozen? a = w.frozen? a := by
 by_cases h : a.block < w.heap.size
 ·unfold World.frozen?; simp only [fL h]
 ·have h2 : w.heap[a.block]? = none := by simp; omega
  by_cases z : a.block = w.heap.size
  ·have h1 : (w.alloc (.cells c t)).heap[a.block]? = some (.cells c t) := by rw [z]; show (w.heap.push (.cells c t))[w.heap.size]? = _; simp
   unfold World.frozen?; simp [h1, h2]
  ·have h1 : (w.alloc (.cells c t)).heap[a.block]? = none := by show (w.heap.push (.cells c t))[a.block]? = none; rw [Array.getElem?_eq_none]; simp; omega
   unfold World.frozen?; simp [h1, h2]
theorem jI.alloc {w : World} {c : Array Value} {t : TypeId} : jI (w.alloc (.cells c t)) w.heap.size := ⟨c, t, 0, 0, by show (w.heap.push _)[w.heap.size]? = _; simp, .inl rfl⟩
theorem Ev.alloc (G : Gh) (w : World) (o : Obj) (A : ∀ β B x, G.prot β B x → B < w.heap.size) (z : ∃ c t, o = .cells c t := by exact ⟨_, _, rfl⟩) : Ev G w (w.alloc o) where
 size := by simp
 out := rfl
 os := rfl
 away B hb _ := fL hb
 some B j h := by rw [Bs (Db h)]; exact h
 prot β B j h := Bs (A β B j h)
 fz B o _ := by obtain ⟨c, t, rfl⟩ := z; exact A0 w c t _
 tape := rfl
theorem Ev.drew (G : Gh) (w : World) : Ev G w w.drew := Ev.of_eq rfl rfl rfl rfl
theorem dR {w : World} {B B' : Nat} (h : B' ≠ B) : ∀ (vs : List Value) (o : Nat) (w : World), (w.setCells B o vs).heap[B']? = w.heap[B']?
 | [], _, _ => rfl
 | v :: r, o, w => by
  rw [World.setCells, dR (w := w) h r]
  exact heap_setCell_other w ⟨B, o, none⟩ B' v h
theorem j9 {B : Nat} : ∀ (vs : List Value) (o : Nat) (w : World), (w.setCells B o vs).heap.size = w.heap.size
 | [], _, _ => rfl
 | v :: r, o, w => by rw [World.setCells, j9 r]; simp
theorem pB {B : Nat} : ∀ (vs : List Value) (o : Nat) (w : World), (w.setCells B o vs).output = w.output ∧ (w.setCells B o vs).os = w.os
 | [], _, _ => ⟨rfl, rfl⟩
 | v :: r, o, w => by rw [World.setCells]; exact pB r _ _
theorem vT {B : Nat} : ∀ (vs : List Value) (o : Nat) (w : World), (w.setCells B o vs).tape = w.tape
 | [], _, _ => rfl
 | v :: r, o, w => by rw [World.setCells]; exact vT r _ _
theorem lW {w : World} {B o : Nat} {vs : List Value} (h : ∀ j, j < vs.length → (cl w B (o + j)).isSome = true) {j : Nat} (z : j < vs.length) :
  cl (w.setCells B o vs) B (o + j) = some vs[j] := World.cell?_setCells_in B vs o w h j z
theorem kV {w : World} {B o : Nat} {vs : List Value} {j : Nat} (h : j < o ∨ o + vs.length ≤ j) : cl (w.setCells B o vs) B j = cl w B j :=
 World.cell?_setCells_out B vs o w ⟨B, j, none⟩ (fun _ _ => h)
theorem Ax {w : World} {B o : Nat} {vs : List Value} (h : ∀ j, j < vs.length → (cl w B (o + j)).isSome = true) {B' j : Nat} (z : (cl w B' j).isSome = true) :
  (cl (w.setCells B o vs) B' j).isSome = true := by
 by_cases e : B' = B
 ·subst e
  by_cases A : j < o ∨ o + vs.length ≤ j
  ·rw [kV A]; exact z
  ·obtain ⟨k, rfl⟩ : ∃ k, j = o + k := ⟨j - o, by omega⟩
   rw [lW h (by omega)]; rfl
 ·rw [iI (dR (w := w) e vs o w)]; exact z
theorem BV {w : World} {B o : Nat} {vs : List Value} (a : Addr) : (w.setCells B o vs).frozen? a = w.frozen? a := World.frozen?_setCells B vs o w a
theorem jI.setCell {w : World} {B o : Nat} {v : Value} (h : jI w B) : jI (w.setCell ⟨B, o, none⟩ v) B := by
 obtain ⟨c, el, z, H, A, hf⟩ := h
 refine ⟨c.setIfInBounds o v, el, z, H, ?_, by simpa using hf⟩
 unfold World.setCell
 simp [Array.getElem?_modify, A]
theorem jI.setCells {B : Nat} : ∀ {vs : List Value} {o : Nat} {w : World}, jI w B → jI (w.setCells B o vs) B
 | [], _, _, h => h
 | v :: r, o, w, h => by rw [World.setCells]; exact jI.setCells h.setCell
theorem Ev.setCells {G : Gh} {w : World} {B o : Nat} {vs : List Value} (hm : G.mine B) (h : ∀ j, j < vs.length → (cl w B (o + j)).isSome = true)
  (z : ∀ β j, ¬ G.prot β B j) : Ev G w (w.setCells B o vs) where
 size := by rw [j9]; exact yz _
 out := (pB vs o w).1
 os := (pB vs o w).2
 away B' hb hn := dR (w := w) (fun e : B' = B => hn (by rw [e]; exact hm)) vs o w
 some B' j hs := Ax h hs
 prot β B' j hj := by
  by_cases e : B' = B
  ·subst e; exact absurd hj (z β j)
  ·exact iI (dR (w := w) e vs o w) j
 fz B o _ := BV _
 tape := vT vs o w
theorem aT.make {G : Gh} {w : World} {mem : a9} {b : Nat} {row : cI} {c : Array Value} {t : TypeId} (hM : aT G w mem) (K : mem[b]? = some none)
  (Y : 1 ≤ row.e) (W : o4 (G.put b 0 ⟨some w.heap.size, row.e, row.len⟩) (w.alloc (.cells c t)) w.heap.size row) :
  aT (G.put b 0 ⟨some w.heap.size, row.e, row.len⟩) (w.alloc (.cells c t)) (mem.set b (some { gen := 0, frz := false, row })) := by
 have O : b < mem.length := by
  rcases yz1 b mem.length with h | h
  ·exact h
  ·rw [ya1 h] at K; cases K
 have A : ∀ g, G.loc b g = none := fun g => hM.unset b g (fun x hx => by rw [K] at hx; cases hx)
 have N := Ev.alloc G w (.cells c t) hM.away
 refine hM.upd (x' := { gen := 0, frz := false, row }) N O (.inl (A 0)) ?_ ?_ (fun g _ => A g) ?_
 ·intro M y U B _ J hl H
  obtain ⟨o, z, hm⟩ := (hM.box M y J).loc
  rw [hl] at z
  obtain rfl : U = ⟨o, y.row.e, y.row.len⟩ := by simpa using z
  simp only at H; subst H
  exact fL hm.2.1
 ·intro B hB M y U _ J hl H
  simp only [Option.some.injEq] at hB; subst hB
  obtain ⟨o, z, hm⟩ := (hM.box M y J).loc
  rw [hl] at z
  obtain rfl : U = ⟨o, y.row.e, y.row.len⟩ := by simpa using z
  simp only at H; subst H
  exact absurd hm.2.1 (Nat.lt_irrefl _)
 ·refine ⟨Y, some w.heap.size, by simp [Gh.put], hM.own _ (yz _), by simp, jI.alloc, W, fun _ β o V => ?_⟩
  ·exact absurd (hM.away β _ o V) (Nat.lt_irrefl _)
theorem aT.ev {G : Gh} {w H : World} {mem : a9} (hM : aT G w mem) (z : Ev G w H) (hs : H.heap.size = w.heap.size ∨ w.heap.size ≤ H.heap.size)
  (A : ∀ B, B < w.heap.size → H.heap[B]? = w.heap[B]?) : aT G H mem where
 box b x h := by
  have hx := hM.box b x h
  obtain ⟨o, hl, hm⟩ := hx.loc
  refine ⟨hx.e, o, hl, ?_⟩
  cases o with
  | none => exact hm
  | some B =>
   obtain ⟨O, J, M, N, K⟩ := hm
   have U := A B J
   exact ⟨O, yn2 J z.size, M.of_heap U, N.mono (d9.refl G) z (fun o _ => iI U o), K⟩
 unset := hM.unset
 gens := hM.gens
 apart := hM.apart
 own B h := hM.own B (yt2 z.size h)
 lab := hM.lab
 away β B o h := yn2 (hM.away β B o h) z.size
 glob := hM.glob.mono (fun _ _ h => h) (z.prot true)
end Go.Ab
end
section
namespace Go.Ab
variable [cD]
theorem aB {α : Type} {c : Bool} {x : Option α} {y : α} : guardB c x = some y ↔ c = true ∧ x = some y := by
 cases c <;> simp [guardB]
theorem jX {a b : IntKind} : gV a b = true ↔ a = b := by cases a <;> cases b <;> simp [gV]
section
variable {P : Program}
def lQ (P : Program) (G : Gh) (w : World) (mem : a9) (o : Oper) (a : Act) (out : eL) : Prop :=
 ∃ G' w' nx cv, (execOp a.eval o).run P w = .ok nx w' ∧ (nx = .value cv ∨ (nx = .skip ∧ cv = undef)) ∧ VR G' w' out.v cv ∧ d9 G G' ∧ Ev G w w' ∧ aT G' w' (out.apply mem)
theorem Ez (v : AV) (rd : List Nat) (mem : a9) : ({ v, rd } : eL).apply mem = mem := by simp [eL.apply, aP]
theorem lQ.pure {G : Gh} {w : World} {mem : a9} {o : Oper} {a : Act} {v : AV} {rd : List Nat} {cv : Value} (hM : aT G w mem)
  (h : (execOp a.eval o).run P w = .ok (.value cv) w) (z : VR G w v cv) : lQ P G w mem o a { v, rd } :=
 ⟨G, w, .value cv, cv, h, .inl rfl, z, d9.refl G, Ev.refl G w, by rw [Ez]; exact hM⟩
def Px (G : Gh) (w : World) (ρ : Operand → Option AV) (a : Act) : Prop := ∀ x v, ρ x = some v → VR G w v (a.eval x)
theorem VR.lit_inv {G : Gh} {w : World} {v cv : Value} (h : VR G w (.lit v) cv) : cv = v := by cases h; rfl
theorem Gu (w : World) {t : TypeId} (a b : Bool) (h : P.underlying t = some .bool) : (binOp .eql t (.bool a) (.bool b)).run P w = .ok (.bool (a == b)) w := by
 have : (Op.equal t (.bool a) (.bool b)).run P w = .ok (a == b) w := run_equalIn_bool w 9999 t a b h
 simp only [binOp]; simp [this]
theorem GX (w : World) {t : TypeId} (a b : Bool) (h : P.underlying t = some .bool) : (binOp .neq t (.bool a) (.bool b)).run P w = .ok (.bool (!(a == b))) w := by
 have : (Op.equal t (.bool a) (.bool b)).run P w = .ok (a == b) w := run_equalIn_bool w 9999 t a b h
 simp only [binOp]; simp [this]
theorem Kp {op : BinOp} {t : TypeId} {x y : Operand} {a b r : Value} {w : World} (z : Dn P t a b = true) (h : p0 op a b = some r) :
  (eqGuard op t x y a b).run P w = .ok () w ∧ (binOp op t a b).run P w = .ok r w := by
 unfold p0 at h
 split at h
 ·rename_i k a k' b
  refine ⟨by rw [eqGuard_at_int]; rfl, ?_⟩
  split at h <;> simp only [aB, Option.some.injEq, decide_eq_true_eq, yy, beq_eq_false_iff_ne, ne_eq] at h
  ·obtain ⟨J, rfl⟩ := h
   simp [binOp, Op.shift, Int.not_lt.2 J]
  ·obtain ⟨J, rfl⟩ := h
   simp [binOp, Op.shift, Int.not_lt.2 J]
  all_goals
   first
   | (obtain ⟨A, H, rfl⟩ := h; rw [jX] at A; subst A; simp [binOp, Op.intDiv, H])
   | (obtain ⟨A, rfl⟩ := h; rw [jX] at A; subst A; simp [binOp, Op.intArith, Op.intBits, Op.intCmp])
 ·rename_i a b
  have H : P.underlying t = some .bool := by
   simp only [Dn, Gs] at z
   split at z <;> simp_all
  refine ⟨by rw [eqGuard_at_bool]; rfl, ?_⟩
  split at h <;> simp only [Option.some.injEq, reduceCtorEq] at h
  ·subst h; exact Gu w a b H
  ·subst h; exact GX w a b H
 ·rename_i a b
  refine ⟨by rw [eqGuard_at_string]; rfl, ?_⟩
  split at h <;> simp only [Option.some.injEq, reduceCtorEq] at h
  ·subst h; simp [binOp, Op.stringOp]
  ·subst h; simp [binOp, Op.stringOp]
 ·simp at h
theorem Fl {op : BinOp} {a b r : Value} (h : p0 op a b = some r) : lR r = true := by
 unfold p0 at h
 repeat' split at h
 all_goals (simp only [aB, Option.some.injEq, reduceCtorEq] at h)
 all_goals first
  | (subst h; rfl)
  | (obtain ⟨_, rfl⟩ := h; rfl)
  | (obtain ⟨_, _, rfl⟩ := h; rfl)
theorem GI {op : UnOp} {a r : Value} (h : FJ op a = some r) : lR r = true := by
 unfold FJ at h
 split at h <;> simp only [Option.some.injEq, reduceCtorEq] at h <;> subst h <;> rfl
theorem L6 {op : UnOp} {a r : Value} {w : World} (h : FJ op a = some r) : (Op.unary op a).run P w = .ok r w := by
 unfold FJ at h
 split at h <;> simp only [Option.some.injEq, reduceCtorEq] at h <;> subst h <;> simp [Op.unary, Op.intArith, Op.intBits]
theorem Bk {t : TypeId} {d : TypeDesc} (z : P.underlying t = some d) (h1 : ∀ fs, d ≠ .struct fs) (h2 : ∀ n e, d ≠ .array n e) {cs : Array Value} {o : Nat} {v : Value} (A : cs[o]? = some v) (w : World) :
  (part t cs o).run P w = .ok v w := by
 have h : (isAgg t).run P w = .ok false w := by
  simp only [isAgg, Sem.run_bind, run_underlying z, Result.andThen_ok]
  rfl
 simp only [part, Sem.run_bind, h, Result.andThen_ok, yf2, if_false, A]
 rfl
theorem GT (d : Nat) (G : Gh) (w : World) : ∀ (fs : List Field) (n : Nat) (xs ys : List AV) (as bs : List Value) (A B : Array Value) (r : Bool),
  (xs.length = as.length ∧ ∀ (j : Nat) (y : AV), xs[j]? = some y → VR G w y (as.getD j undef)) → (ys.length = bs.length ∧ ∀ (j : Nat) (y : AV), ys[j]? = some y → VR G w y (bs.getD j undef)) →
  (∀ j : Nat, j < as.length → A[n + j]? = as[j]?) → (∀ j : Nat, j < bs.length → B[n + j]? = bs[j]?) → jW P fs n xs ys = some r →
  (Op.eqFields (d + 1) A B fs).run P w = .ok r w := by
 intro fs
 induction fs with
 | nil =>
  intro n xs ys as bs A B r _ _ _ _ h
  cases xs <;> cases ys <;> simp [jW] at h
  subst h
  simp [Op.eqFields]
 | cons f fs ih =>
  intro n xs ys as bs A B r U V hA hB h
  cases xs with
  | nil => simp [jW] at h
  | cons x xs =>
  cases ys with
  | nil => simp [jW] at h
  | cons y ys =>
  cases as with
  | nil => simp at U
  | cons a as =>
  cases bs with
  | nil => simp at V
  | cons b bs =>
   have h1 := U.2 0 x rfl
   have h2 := V.2 0 y rfl
   simp only [List.getD_cons_zero] at h1 h2
   have ha' : xs.length = as.length ∧ ∀ (j : Nat) (y : AV), xs[j]? = some y → VR G w y (as.getD j undef) := ⟨by simpa using U.1, fun j y Z => by simpa using U.2 (j + 1) y (by simpa using Z)⟩
   have hb' : ys.length = bs.length ∧ ∀ (j : Nat) (y : AV), ys[j]? = some y → VR G w y (bs.getD j undef) := ⟨by simpa using V.1, fun j y Z => by simpa using V.2 (j + 1) y (by simpa using Z)⟩
   simp only [jW, aB, yc, bne_iff_ne, ne_eq] at h
   obtain ⟨⟨hn, z⟩, h⟩ := h
   have z := Nat.eq_of_beq_eq_true z
   obtain ⟨q, K, h⟩ := yo1.1 h
   obtain ⟨r', hr, rfl⟩ := yf.1 h
   have h0a : A[f.offset]? = some a := by rw [z]; simpa using hA 0 (by simp)
   have h0b : B[f.offset]? = some b := by rw [z]; simpa using hB 0 (by simp)
   have J : (Op.equalIn (d + 1) f.type a b).run P w = .ok q w ∧ ∃ W, P.underlying f.type = some W ∧ (∀ fs, W ≠ .struct fs) ∧ (∀ n e, W ≠ .array n e) := by
    unfold AW at K
    split at K
    ·rename_i k1 k x k' y H
     obtain ⟨hk, hq2⟩ := aB.1 K
     rw [jX] at hk; subst hk
     obtain rfl := h1.lit_inv; obtain rfl := h2.lit_inv
     obtain rfl := yb hq2
     exact ⟨run_equalIn_int w d f.type k k1 x y H, _, H, by simp, by simp⟩
    ·rename_i x y H
     obtain rfl := h1.lit_inv; obtain rfl := h2.lit_inv
     obtain rfl := yb K
     exact ⟨run_equalIn_bool w d f.type x y H, _, H, by simp, by simp⟩
    ·rename_i x y H
     obtain rfl := h1.lit_inv; obtain rfl := h2.lit_inv
     obtain rfl := yb K
     exact ⟨run_equalIn_string w d f.type x y H, _, H, by simp, by simp⟩
    ·simp at K
   obtain ⟨hqr, W, N, O, M⟩ := J
   have e1 : (Op.eqFields (d + 1) A B (f :: fs)).run P w = (if (!q) = true then (Pure.pure false : Sem Bool) else Op.eqFields (d + 1) A B fs).run P w := by
    simp only [Op.eqFields]
    rw [if_pos hn]
    simp only [Sem.run_bind, Bk N O M h0a, Bk N O M h0b, hqr, Result.andThen_ok]
   rw [e1]
   cases q with
   | false => rfl
   | true =>
    rw [yu]
    refine Eq.trans ?_ <| ih (n + 1) xs ys as bs A B r' ha' hb' (fun j Y => by have := hA (j + 1) (by simpa using Y); rw [show n + 1 + j = n + (j + 1) by omega]; simpa using this)
     (fun j Y => by have := hB (j + 1) (by simpa using Y); rw [show n + 1 + j = n + (j + 1) by omega]; simpa using this) hr
    rfl
theorem VR.agg_inv {G : Gh} {w : World} {cs : List AV} {cv : Value} (h : VR G w (.agg cs) cv) : ∃ cvs : Array Value, cv = .agg cvs ∧ pX G w cs cvs := by
 cases h with
 | agg _ cvs z h => exact ⟨cvs, rfl, z, h⟩
theorem vO {G : Gh} {w : World} {t : TypeId} {xs ys : List AV} {A B : Array Value} {r : Bool} (h : lM P t xs ys = some r) (J : pX G w xs A) (M : pX G w ys B) (x y : Operand) :
  (Op.equalIn 10000 t (.agg A) (.agg B)).run P w = .ok r w ∧ P.eqGuardType P.depth t = false := by
 unfold lM at h
 split at h
 ·rename_i fs K
  obtain ⟨H, h⟩ := aB.1 h
  simp only [yc, yy] at H
  have hf : P.fieldsOf t = fs := by simp [Program.fieldsOf, K]
  refine ⟨?_, H.2⟩
  rw [show (10000 : Nat) = 9999 + 1 from rfl, run_equalIn_agg w 9999 t A B (by rw [hf]; exact K) H.1, hf]
  have N : ∀ (C : Array Value) (j : Nat), C.toList.getD j undef = C.getD j undef := by
   intro C j; simp [yl, ym]
  exact GT 9998 G w fs.toList 0 xs ys A.toList B.toList A B r ⟨by simpa using J.1, fun j y z => by rw [N]; exact J.2 j y z⟩ ⟨by simpa using M.1, fun j y z => by rw [N]; exact M.2 j y z⟩
   (fun j _ => by simp) (fun j _ => by simp) h
 ·simp at h
theorem VR.tree_slice {G : Gh} {w : World} {β : Bool} {p : PV} {H : Value} {e : Bool} (J : VR G w (.imm β p) H) (h : jN p = some e) : ∃ a l c, H = .slice a l c ∧ (e = false → a.isNone = false) := by
 cases J with
 | imm _ _ _ K hs =>
  cases K with
  | lit _ _ => cases h
  | intsNil k a => simp only [jN, Option.some.injEq] at h; subst h; exact ⟨_, _, _, rfl, fun h => by cases h⟩
  | ints k xs B o cap z h2 => exact ⟨_, _, _, rfl, fun _ => rfl⟩
  | slNil k a => simp only [jN, Option.some.injEq] at h; subst h; exact ⟨_, _, _, rfl, fun h => by cases h⟩
  | sl e' xs B o cap cv he z A h2 h3 h4 => exact ⟨_, _, _, rfl, fun _ => rfl⟩
  | agg _ _ _ _ => cases h
 | unkB b => cases h
 | dead _ _ _ => cases h
theorem Ic {t : TypeId} (h : z7 P t = true) : ∃ e, P.underlying t = some (.slice e) := by
 unfold z7 at h
 split at h
 ·rename_i e z; exact ⟨e, z⟩
 ·cases h
theorem fP {G : Gh} {w : World} (op : BinOp) (t : TypeId) (x y : Operand) (a b : Option Addr) (l c h z : Nat) : (eqGuard op t x y (.slice a l c) (.slice b h z)).run P w = .ok () w := by
 unfold eqGuard
 split <;> rfl
theorem B5 {w : World} (d : Nat) {t e : TypeId} {a : Option Addr} {l c : Nat} (h : P.underlying t = some (.slice e)) : (Op.equalIn (d + 1) t (.slice a l c) (.slice none 0 0)).run P w = .ok a.isNone w := by
 cases a <;> simp [Op.equalIn, run_underlying h]
theorem k9 {G : Gh} {w : World} {op : BinOp} {t : TypeId} {a : Option Addr} {l c : Nat} (A : z7 P t = true) :
  (binOp .eql t (.slice a l c) (.slice none 0 0)).run P w = .ok (.bool a.isNone) w ∧ (binOp .neq t (.slice a l c) (.slice none 0 0)).run P w = .ok (.bool (!a.isNone)) w := by
 obtain ⟨e, z⟩ := Ic A
 have h : (Op.equal t (.slice a l c) (.slice none 0 0)).run P w = .ok a.isNone w := B5 9999 z
 constructor
 ·simp only [binOp, Sem.run_bind, h, Result.andThen_ok]; rfl
 ·simp only [binOp, Sem.run_bind, h, Result.andThen_ok]; rfl
theorem Mz {G : Gh} {w : World} {op : BinOp} {t : TypeId} {x y : Operand} {a b r : AV} {M W : Value} (h : qH P op t a b = some r) (H : VR G w a M) (J : VR G w b W) :
    ∃ cv, (eqGuard op t x y M W).run P w = .ok () w ∧ (binOp op t M W).run P w = .ok cv w ∧ VR G w r cv := by
  unfold qH at h
  split at h
  · rename_i β p
    obtain rfl := J.lit_inv
    split at h
    · obtain ⟨z, h⟩ := aB.1 h
      obtain ⟨e, V, rfl⟩ := yf.1 h
      obtain ⟨Y, l, c, rfl, hn⟩ := H.tree_slice V
      refine ⟨.bool Y.isNone, fP (G := G) _ t x y _ _ _ _ _ _, (k9 (G := G) (op := .eql) z).1, ?_⟩
      cases e with
      | true => exact .unkB _
      | false => rw [hn rfl]; exact .lit _ rfl
    · obtain ⟨z, h⟩ := aB.1 h
      obtain ⟨e, V, rfl⟩ := yf.1 h
      obtain ⟨Y, l, c, rfl, hn⟩ := H.tree_slice V
      refine ⟨.bool (!Y.isNone), fP (G := G) _ t x y _ _ _ _ _ _, (k9 (G := G) (op := .neq) z).2, ?_⟩
      cases e with
      | true => exact .unkB _
      | false => rw [hn rfl]; exact .lit _ rfl
    · cases h
  · obtain rfl := H.lit_inv; obtain rfl := J.lit_inv
    split at h
    · obtain ⟨z, h⟩ := aB.1 h
      obtain rfl := yb h
      exact ⟨.bool true, fP (G := G) _ t x y _ _ _ _ _ _, (k9 (G := G) (op := .eql) z).1, .lit _ rfl⟩
    · obtain ⟨z, h⟩ := aB.1 h
      obtain rfl := yb h
      exact ⟨.bool false, fP (G := G) _ t x y _ _ _ _ _ _, (k9 (G := G) (op := .neq) z).2, .lit _ rfl⟩
    · cases h
  · rename_i a b _
    obtain ⟨N, h⟩ := aB.1 h
    obtain ⟨v, Z, rfl⟩ := yf.1 h
    obtain rfl := H.lit_inv; obtain rfl := J.lit_inv
    obtain ⟨h1, h2⟩ := Kp (P := P) (x := x) (y := y) (w := w) N Z
    exact ⟨v, h1, h2, .lit v (Fl Z)⟩
  · rename_i as bs
    obtain ⟨A, rfl, hA⟩ := H.agg_inv
    obtain ⟨B, rfl, hB⟩ := J.agg_inv
    split at h
    · obtain ⟨q, O, rfl⟩ := yf.1 h
      obtain ⟨h1, h2⟩ := vO O hA hB x y
      exact ⟨.bool q, run_eqGuard_agg w _ t x y A B h2, by rw [run_eql_struct, h1]; rfl, .lit _ rfl⟩
    · obtain ⟨q, O, rfl⟩ := yf.1 h
      obtain ⟨h1, h2⟩ := vO O hA hB x y
      exact ⟨.bool (!q), run_eqGuard_agg w _ t x y A B h2, by rw [run_neq_struct, h1]; rfl, .lit _ rfl⟩
    · simp at h
  all_goals first
    | (simp at h; done)
    | (obtain rfl := J.lit_inv
       have hp : ∃ p, M = .pointer (some p) := by cases H <;> exact ⟨_, rfl⟩
       obtain ⟨p, rfl⟩ := hp
       split at h
       · obtain ⟨K, h⟩ := aB.1 h
         have U : P.underlying t = some (.pointer (P.pointee t)) := by
           unfold F8 at K; split at K <;> simp_all [Program.pointee]
         simp only [Option.some.injEq] at h; subst h
         exact ⟨.bool false, by rw [eqGuard_at_pointer]; rfl, by rw [run_eql_pointer_nil w t _ U]; rfl, .lit _ rfl⟩
       · obtain ⟨K, h⟩ := aB.1 h
         have U : P.underlying t = some (.pointer (P.pointee t)) := by
           unfold F8 at K; split at K <;> simp_all [Program.pointee]
         simp only [Option.some.injEq] at h; subst h
         exact ⟨.bool true, by rw [eqGuard_at_pointer]; rfl, by rw [run_neq_pointer_nil w t _ U]; rfl, .lit _ rfl⟩
       · simp at h)
end
end Go.Ab
end
section
namespace Go.Ab
variable [cD]
section
variable {P : Program}
theorem bind_some {α β : Type} {x : Option α} {f : α → Option β} {y : β} : x.bind f = some y ↔ ∃ a, x = some a ∧ f a = some y := yo1
theorem AZ {α : Type} {c : Bool} {a b : α} : (bif c then some a else none) = some b ↔ c = true ∧ a = b := by cases c <;> simp
theorem cX {a b : Nat} : Nat.beq a b = true ↔ a = b := ⟨Nat.eq_of_beq_eq_true, fun h => by subst h; exact ys3 a⟩
theorem eT {a b : Nat} : Nat.ble a b = true ↔ a ≤ b := by rw [Nat.ble_eq]
theorem sV {t : TypeId} {b : Bool} (h : isAgg? P t = some b) (w : World) : (isAgg t).run P w = .ok b w := by
 unfold isAgg? at h
 split at h
 ·rename_i d; simp only [isAgg, Sem.run_bind, run_underlying d, Result.andThen_ok]; obtain rfl := yb h; rfl
 ·rename_i d; simp only [isAgg, Sem.run_bind, run_underlying d, Result.andThen_ok]; obtain rfl := yb h; rfl
 ·rename_i z h1 h2 d
  obtain rfl := yb h
  simp only [isAgg, Sem.run_bind, run_underlying d, Result.andThen_ok]
  cases z <;> first | rfl | exact absurd rfl (h1 _) | exact absurd rfl (h2 _ _)
 ·simp at h
theorem MA {t : TypeId} {n : Nat} (h : k6 P t = some n) : ∃ i, P.info? t = some i ∧ i.size = n := by
 unfold k6 at h
 obtain ⟨i, z, hn⟩ := yf.1 h
 exact ⟨i, z, hn⟩
theorem dX {t : TypeId} {n : Nat} (h : k6 P t = some n) (w : World) : (sizeOf t).run P w = .ok n w := by
 obtain ⟨i, z, rfl⟩ := MA h
 simp [sizeOf, typeInfo, z]
theorem dJ (B o n : Nat) : (⟨B, o, none⟩ : Addr).add n = ⟨B, o + n, none⟩ := by
 unfold Addr.add; split <;> simp_all
theorem p6 {t : TypeId} {n B o : Nat} (z : isAgg? P t = some true) (hn : k6 P t = some n) {w : World} (f : Nat → Value) (h : ∀ j, j < n → cl w B (o + j) = some (f j)) :
  (loadVar t ⟨B, o, none⟩).run P w = .ok (.agg ((List.range n).map f).toArray) w := by
 have hl := run_loadCells (P := P) w ⟨B, o, none⟩ n f (fun j A => by rw [dJ]; exact h j A)
 simp only [loadVar, Sem.run_bind, sV z, dX hn, Result.andThen_ok, if_true, hl, Sem.run_pure]
theorem kP {t : TypeId} {B o : Nat} (z : isAgg? P t = some false) {w : World} {v : Value} (h : cl w B o = some v) :
  (loadVar t ⟨B, o, none⟩).run P w = .ok v w := by
 have A : w.cell? ⟨B, o, none⟩ = some v := h
 simp only [loadVar, Sem.run_bind, sV z, Result.andThen_ok, yf2, if_false, run_load, A]
theorem PR.lit_inv {w : World} {z : Nat → Nat → Prop} {v cv : Value} (h : PR w z (.lit v) cv) : cv = v := by cases h; rfl
theorem o7 {G : Gh} {w : World} {β : Bool} {l : LK} {q : PV} {a : AV} {v : Value} (h : jT β l q = some a) (A : PR w (G.prot β) q v) : VR G w a v := by
 unfold jT at h
 split at h
 ·rw [bind_some] at h; obtain ⟨x, hx, h⟩ := h
  obtain rfl := yb h
  unfold PV.int? at hx
  split at hx
  ·rename_i H n
   rw [AZ] at hx; obtain ⟨z, hx⟩ := hx
   subst hx; rw [jX] at z; subst z
   rw [A.lit_inv]; exact .lit _ rfl
  ·simp at hx
 ·rw [bind_some] at h; obtain ⟨x, hx, h⟩ := h
  obtain rfl := yb h
  unfold PV.bool? at hx
  split at hx
  ·obtain rfl := yb hx
   rw [A.lit_inv]; exact .lit _ rfl
  ·simp at hx
 ·rw [bind_some] at h; obtain ⟨x, hx, h⟩ := h
  obtain rfl := yb h
  unfold PV.str? at hx
  split at hx
  ·obtain rfl := yb hx
   rw [A.lit_inv]; exact .lit _ rfl
  ·simp at hx
 ·rw [bind_some] at h; obtain ⟨x, hx, h⟩ := h
  obtain rfl := yb h
  unfold PV.ints? at hx
  split at hx
  ·rename_i H xs
   rw [AZ] at hx; obtain ⟨z, hx⟩ := hx
   subst hx; rw [jX] at z; subst z
   exact .imm β _ v A rfl
  ·simp at hx
 ·rw [bind_some] at h; obtain ⟨x, hx, h⟩ := h
  obtain rfl := yb h
  unfold PV.sl? at hx
  split at hx
  ·rename_i e' xs
   rw [AZ] at hx; obtain ⟨z, hx⟩ := hx
   subst hx; rw [cX] at z; subst z
   exact .imm β _ v A rfl
  ·simp at hx
theorem lZ {G : Gh} {w : World} {β : Bool} {cs : List PV} : ∀ {H : List LK} {c : Nat} {as : List AV}, f8 β cs H c = some as →
  as.length = H.length ∧ ∀ (f : Nat → Value), (∀ (j : Nat) (y : PV), cs[c + j]? = some y → j < H.length → PR w (G.prot β) y (f j)) →
   (∀ j, j < H.length → ∃ y, cs[c + j]? = some y) ∧ ∀ (j : Nat) (y : AV), as[j]? = some y → VR G w y (f j)
 | [], c, as, h => by
  simp [f8] at h; subst h
  exact ⟨rfl, fun f _ => ⟨fun j A => absurd A (by simp), fun j y z => by simp at z⟩⟩
 | l :: r, c, as, h => by
  simp only [f8] at h
  rw [bind_some] at h; obtain ⟨q, K, h⟩ := h
  rw [bind_some] at h; obtain ⟨a, M, h⟩ := h
  rw [bind_some] at h; obtain ⟨N, J, h⟩ := h
  obtain rfl := yb h
  obtain ⟨hl, O⟩ := lZ (G := G) (w := w) J
  refine ⟨by simp [hl], fun f hf => ?_⟩
  obtain ⟨V, U⟩ := O (fun j => f (j + 1)) (fun j y z A => hf (j + 1) y (by rw [show c + (j + 1) = c + 1 + j by omega]; exact z) (by simpa using A))
  refine ⟨fun j A => ?_, fun j y z => ?_⟩
  ·cases j with
   | zero => exact ⟨q, K⟩
   | succ j => obtain ⟨y, z⟩ := V j (by simpa using A); exact ⟨y, by rw [show c + (j + 1) = c + 1 + j by omega]; exact z⟩
  ·cases j with
   | zero => simp at z; subst z; exact o7 M (hf 0 q K (by simp))
   | succ j => exact U j y (by simpa using z)
theorem Fo {G : Gh} {w : World} {β : Bool} {t : TypeId} {p : PV} {c B o : Nat} {a : AV} {cv : Nat → Value} (h : Lc P β t p c = some a)
  (O : ∀ j y, p.cells[j]? = some y → cl w B (o + j) = some (cv j)) (N : ∀ j y, p.cells[j]? = some y → PR w (G.prot β) y (cv j)) :
  ∃ v, (loadVar t ⟨B, o + c, none⟩).run P w = .ok v w ∧ VR G w a v := by
 unfold Lc at h
 split at h
 ·rename_i z
  rw [bind_some] at h; obtain ⟨W, V, h⟩ := h
  rw [bind_some] at h; obtain ⟨n, hn, h⟩ := h
  rw [aB] at h; obtain ⟨K, h⟩ := h
  obtain rfl := cX.1 K
  rw [bind_some] at h; obtain ⟨as, J, h⟩ := h
  obtain rfl := yb h
  obtain ⟨hl, hf⟩ := lZ (G := G) (w := w) J
  obtain ⟨Y, U⟩ := hf (fun j => cv (c + j)) (fun j y A _ => N _ y A)
  refine ⟨_, p6 z hn (fun j => cv (c + j)) (fun j H => ?_), .agg _ _ (by simp [hl]) fun j y A => ?_⟩
  ·obtain ⟨y, A⟩ := Y j H
   rw [show o + c + j = o + (c + j) by omega]; exact O _ y A
  ·have H : j < W.length := by rw [← hl]; exact (yh.1 A).1
   have := U j y A
   simpa [ym, H] using this
 ·rename_i z
  rw [bind_some] at h; obtain ⟨l, hl, h⟩ := h
  rw [bind_some] at h; obtain ⟨q, M, h⟩ := h
  exact ⟨cv c, kP z (O c q M), o7 h (N c q M)⟩
 ·simp at h
theorem box?_some {mem : a9} {b g : Nat} {x : d8} (h : box? mem b g = some x) : mem[b]? = some (some x) ∧ x.gen = g := by
 unfold box? at h
 split at h
 ·rename_i y e
  cases z : Nat.beq y.gen g <;> simp [z] at h
  subst h; exact ⟨e, cX.1 z⟩
 ·simp at h
theorem aT.at_ptr {G : Gh} {w : World} {mem : a9} (hM : aT G w mem) {b g i c : Nat} {x : d8} {cv : Value} (hx : box? mem b g = some x) (h : VR G w (.ptr b g i c) cv) :
  ∃ B, cv = .pointer (some ⟨B, i * x.row.e + c, none⟩) ∧ G.loc b g = some ⟨some B, x.row.e, x.row.len⟩ ∧ G.mine B ∧ B < w.heap.size ∧
   jI w B ∧ o4 G w B x.row ∧ (x.frz = false → ∀ β o, ¬ G.prot β B o) := by
 obtain ⟨hm, rfl⟩ := box?_some hx
 have z := hM.box b x hm
 obtain ⟨o, hl, H⟩ := z.loc
 cases h with
 | ptr _ _ _ _ L B hL hB =>
  rw [hl] at hL
  obtain rfl := yb hL
  simp only at hB; subst hB
  obtain ⟨h1, h2, K, A, J⟩ := H
  exact ⟨B, rfl, hl, h1, h2, K, A, J⟩
theorem BD {G : Gh} {w : World} {mem : a9} {t : TypeId} {a : AV} {out : eL} {cv : Value} (hM : aT G w mem) (h : jJ P t mem a = some out) (ha : VR G w a cv) :
  ∃ v rd, out = { v, rd } ∧ ∃ z, (Instr.loadAt t cv).run P w = .ok z w ∧ VR G w v z := by
 unfold jJ at h
 split at h
 ·rename_i β p c
  obtain ⟨v, K, rfl⟩ := yf.1 h
  refine ⟨v, [], rfl, ?_⟩
  cases ha with
  | el _ _ _ B o f h hr =>
   obtain ⟨z, M, H⟩ := Fo (P := P) (w := w) (o := o) (B := B) K (fun j y V => (h j y V).1) hr
   exact ⟨z, by simp [Instr.loadAt, Instr.sureAddr, M], H⟩
 ·rename_i b g i c
  rw [bind_some] at h; obtain ⟨x, hx, h⟩ := h
  obtain ⟨B, rfl, hl, hmine, hB, hfz, O, Y⟩ := hM.at_ptr hx ha
  have U : ∀ z, (loadVar t ⟨B, i * x.row.e + c, none⟩).run P w = .ok z w → (Instr.loadAt t (.pointer (some ⟨B, i * x.row.e + c, none⟩))).run P w = .ok z w := by
   intro z hh; simp [Instr.loadAt, Instr.sureAddr, hh]
  obtain ⟨gen, frz, row⟩ := x
  split at h
  ·rename_i e cs A
   simp only at A; subst A
   rw [bind_some] at h; obtain ⟨ag, N, h⟩ := h
   obtain ⟨_, J⟩ := O
   cases ag with
   | true =>
    simp only [yg] at h
    rw [bind_some] at h; obtain ⟨n, hn, h⟩ := h
    rw [aB] at h; obtain ⟨W, h⟩ := h
    have W := eT.1 W
    obtain rfl := yb h
    refine ⟨_, _, rfl, _, U _ (p6 N hn (fun j => (cl w B (i * e + c + j)).getD undef) (fun j hj => ?_)), .agg _ _ ?_ ?_⟩
    ·obtain ⟨v, K, _, _⟩ := J (i * e + c + j) (cs[i * e + c + j]'(by omega)) (yd _)
     show cl w B _ = _
     simp only [cI.e]; rw [K]; rfl
    ·simp; omega
    ·intro j y V
     have hj : j < n := by have := (yh.1 V).1; simp at this; omega
     have hy' : cs[i * e + c + j]? = some y := by
      rw [yi1 hj, yd1] at V; exact V
     obtain ⟨v, K, _, H⟩ := J _ y hy'
     simpa [ym, hj, K] using H
   | false =>
    simp only [ye] at h
    obtain ⟨v, K, rfl⟩ := yf.1 h
    obtain ⟨u, Z, _, H⟩ := J _ v K
    exact ⟨_, _, rfl, u, U _ (kP N Z), H⟩
  ·rename_i k xs A
   simp only at A; subst A
   rw [aB] at h; obtain ⟨hc0, h⟩ := h
   obtain rfl := cX.1 hc0
   rw [aB] at h; obtain ⟨N, h⟩ := h
   obtain ⟨v, K, rfl⟩ := yf.1 h
   have hc := O i v K
   have hag' : isAgg? P t = some false := by
    cases hh : isAgg? P t with
    | none => simp [hh] at N
    | some q => cases q <;> simp [hh] at N ⊢
   exact ⟨_, _, rfl, _, U _ (kP hag' (by simpa [cI.e] using hc)), .lit _ rfl⟩
  ·rename_i β e xs A
   simp only at A; subst A
   rw [bind_some] at h; obtain ⟨p, hp, h⟩ := h
   obtain ⟨v, K, rfl⟩ := yf.1 h
   obtain ⟨_, J⟩ := O
   obtain ⟨z, M, H⟩ := Fo (P := P) (w := w) (G := G) (o := i * e) (B := B) (cv := fun j => (cl w B (i * e + j)).getD undef) K
    (fun j y V => by obtain ⟨u, Z, _, _⟩ := J i p j y hp V; rw [Z]; rfl)
    (fun j y V => by obtain ⟨u, Z, _, Y⟩ := J i p j y hp V; rw [Z]; exact Y)
   exact ⟨_, _, rfl, z, U _ M, H⟩
 ·simp at h
end
end Go.Ab
end
section
namespace Go.Ab
variable [cD]
section
variable {P : Program}
theorem AH {α : Type} {xs : List α} {i : Int} {v : α} (h : aD xs i = some v) : 0 ≤ i ∧ i.toNat < xs.length ∧ xs[i.toNat]? = some v := by
 unfold aD at h
 cases z : decide (0 ≤ i) <;> simp only [z, yg, ye, reduceCtorEq] at h
 exact ⟨of_decide_eq_true z, (yh.1 h).1, h⟩
theorem f7 (k : IntKind) (i : Int) (w : World) : (asIntOf (.int k i)).run P w = .ok (k, i) w := rfl
theorem fN {t h : TypeId} {s B o len cap : Nat} {k : IntKind} {i : Int} (A : P.underlying t = some (.slice h)) (H : k6 P h = some s) (z : 0 ≤ i) (h1 : i < (len : Int)) (w : World) :
  (Instr.indexAt t (.slice (some ⟨B, o, none⟩) len cap) (.int k i)).run P w = .ok (.pointer (some ⟨B, o + i.toNat * s, none⟩)) w := by
 simp only [Instr.indexAt, Sem.run_bind, f7, Result.andThen_ok, run_underlying A, Sem.run_pure, z, h1, and_self, if_true, dX H, dJ]
theorem z6 {t h : TypeId} {s B o n : Nat} {k : IntKind} {i : Int} (A : P.underlying t = some (.array n h)) (H : k6 P h = some s) (z : 0 ≤ i) (h1 : i < (n : Int)) (w : World) :
  (Instr.indexAt t (.pointer (some ⟨B, o, none⟩)) (.int k i)).run P w = .ok (.pointer (some ⟨B, o + i.toNat * s, none⟩)) w := by
 simp only [Instr.indexAt, Sem.run_bind, f7, Result.andThen_ok, run_underlying A, Sem.run_pure, z, h1, and_self, if_true, dX H, dJ, Instr.sureAddr]
theorem aT.at_ms {G : Gh} {w : World} {mem : a9} (hM : aT G w mem) {b g o n : Nat} {x : d8} {cv : Value} (hx : box? mem b g = some x) (h : VR G w (.ms b g o n) cv) :
  (∃ B cap, cv = .slice (some ⟨B, o * x.row.e, none⟩) n cap ∧ n ≤ cap ∧ o + n ≤ x.row.len ∧ G.loc b g = some ⟨some B, x.row.e, x.row.len⟩ ∧ Er w B ((o + cap) * x.row.e) ∧ G.mine B ∧ B < w.heap.size ∧
   jI w B ∧ o4 G w B x.row ∧ (x.frz = false → ∀ β o, ¬ G.prot β B o)) ∨
  (cv = .slice none 0 0 ∧ o = 0 ∧ n = 0 ∧ x.row.len = 0 ∧ G.loc b g = some ⟨none, x.row.e, x.row.len⟩) ∨
  (∃ B A, cv = .slice (some ⟨B, A, none⟩) 0 0 ∧ 1 ≤ o ∧ n = 0 ∧ o ≤ x.row.len ∧ G.loc b g = some ⟨some B, x.row.e, x.row.len⟩) := by
 obtain ⟨hm, rfl⟩ := box?_some hx
 have J := hM.box b x hm
 obtain ⟨A, hl, H⟩ := J.loc
 cases h with
 | ms _ _ _ _ cap L B hL hB hn z hf =>
  rw [hl] at hL
  obtain rfl := yb hL
  simp only at hB; subst hB
  obtain ⟨h1, h2, O, K, N⟩ := H
  exact .inl ⟨B, cap, rfl, hn, z, hl, hf, h1, h2, O, K, N⟩
 | msNil _ _ L hL hB =>
  rw [hl] at hL
  obtain rfl := yb hL
  simp only at hB; subst hB
  exact .inr (.inl ⟨rfl, rfl, rfl, H.1, hl⟩)
 | msZ _ _ _ B A L hL hB M z =>
  rw [hl] at hL
  obtain rfl := yb hL
  simp only at hB; subst hB
  exact .inr (.inr ⟨B, A, rfl, M, rfl, z, hl⟩)
theorem aT.at_msw {G : Gh} {w : World} {mem : a9} (hM : aT G w mem) {b g : Nat} {x : d8} {cv : Value} (hx : box? mem b g = some x) (h : VR G w (.msw b g) cv) :
  (∃ B cap, cv = .slice (some ⟨B, 0, none⟩) x.row.len cap ∧ x.row.len ≤ cap ∧ G.loc b g = some ⟨some B, x.row.e, x.row.len⟩ ∧ Er w B (cap * x.row.e) ∧ G.mine B ∧ B < w.heap.size ∧
   jI w B ∧ o4 G w B x.row ∧ (x.frz = false → ∀ β o, ¬ G.prot β B o)) ∨
  (cv = .slice none 0 0 ∧ x.row.len = 0 ∧ x.row.isCells = false ∧ G.loc b g = some ⟨none, x.row.e, x.row.len⟩) := by
 obtain ⟨hm, rfl⟩ := box?_some hx
 have A := hM.box b x hm
 obtain ⟨oo, hl, z⟩ := A.loc
 cases h with
 | msw _ _ cap L B hL hB hn hf =>
  rw [hl] at hL
  obtain rfl := yb hL
  simp only at hB; subst hB
  obtain ⟨h1, h2, K, H, J⟩ := z
  exact .inl ⟨B, cap, rfl, hn, hl, hf, h1, h2, K, H, J⟩
 | mswNil _ _ L hL hB hn =>
  rw [hl] at hL
  obtain rfl := yb hL
  simp only at hB; subst hB
  exact .inr ⟨rfl, z.1, z.2, hl⟩
theorem GA {G : Gh} {w : World} {mem : a9} {t : TypeId} {x : AV} {k : IntKind} {i : Int} {out : eL} {cv : Value} (hM : aT G w mem) (h : jG P t mem x i = some out) (hx : VR G w x cv) :
  ∃ v rd, out = { v, rd } ∧ ∃ U, (Instr.indexAt t cv (.int k i)).run P w = .ok U w ∧ VR G w v U := by
 unfold jG at h
 split at h
 ·rename_i et N
  rw [bind_some] at h; obtain ⟨s, M, h⟩ := h
  split at h
  ·rename_i β kk xs
   rw [aB] at h; obtain ⟨z, h⟩ := h
   obtain rfl := cX.1 z
   rw [bind_some] at h; obtain ⟨v, V, h⟩ := h
   obtain rfl := yb h
   obtain ⟨J, h1, h2⟩ := AH V
   refine ⟨_, _, rfl, ?_⟩
   cases hx with
   | imm _ _ _ W =>
    cases W with
    | intsNil => simp at h1
    | ints _ _ B o cap O Y =>
     refine ⟨_, fN N M J (by omega) w, ?_⟩
     have := Y _ _ h2
     refine .el β _ 0 B (o + i.toNat * 1) (fun _ => .int kk v) (fun j y A => ?_) (fun j y A => ?_)
     ·cases j with
      | zero => simpa using this
      | succ j => simp [PV.cells] at A
     ·cases j with
      | zero => simp [PV.cells] at A; subst A; exact .lit _ rfl
      | succ j => simp [PV.cells] at A
  ·rename_i β e xs
   rw [aB] at h; obtain ⟨z, h⟩ := h
   obtain rfl := cX.1 z
   rw [bind_some] at h; obtain ⟨v, V, h⟩ := h
   obtain rfl := yb h
   obtain ⟨J, h1, h2⟩ := AH V
   refine ⟨_, _, rfl, ?_⟩
   cases hx with
   | imm _ _ _ W =>
    cases W with
    | slNil => simp at h1
    | sl _ _ B o cap cv he O Z Y h1' hr =>
     refine ⟨_, fN N M J (by omega) w, ?_⟩
     exact .el β _ 0 B (o + i.toNat * s) (fun j => cv i.toNat j) (fun j y A => Y _ _ _ _ h2 A) (fun j y A => hr _ _ _ _ h2 A)
  ·rename_i b g o n
   rw [bind_some] at h; obtain ⟨bx, K, h⟩ := h
   rw [aB] at h; obtain ⟨H, h⟩ := h
   simp only [yc, decide_eq_true_eq] at H
   obtain ⟨⟨z, J⟩, h1⟩ := H
   obtain rfl := cX.1 z
   obtain rfl := yb h
   refine ⟨_, _, rfl, ?_⟩
   rcases hM.at_ms K hx with ⟨B, cap, rfl, hn, hon, hl, _⟩ | ⟨rfl, rfl, rfl, _⟩ | ⟨B, oo, rfl, _, rfl, _⟩
   ·refine ⟨_, fN N M J h1 w, ?_⟩
    have := VR.ptr (G := G) (w := w) b g (o + i.toNat) 0 _ B hl rfl
    simpa [yt1] using this
   ·simp at h1; omega
   ·simp at h1; omega
  ·rename_i b g
   rw [bind_some] at h; obtain ⟨bx, K, h⟩ := h
   rw [aB] at h; obtain ⟨H, h⟩ := h
   simp only [yc, decide_eq_true_eq] at H
   obtain ⟨⟨z, J⟩, h1⟩ := H
   obtain rfl := cX.1 z
   obtain rfl := yb h
   refine ⟨_, _, rfl, ?_⟩
   rcases hM.at_msw K hx with ⟨B, cap, rfl, hn, hl, _⟩ | ⟨rfl, hz, _⟩
   ·refine ⟨_, fN N M J h1 w, ?_⟩
    have := VR.ptr (G := G) (w := w) b g i.toNat 0 _ B hl rfl
    simpa using this
   ·rw [hz] at h1; simp at h1; omega
  ·simp at h
 ·rename_i n et N
  rw [bind_some] at h; obtain ⟨s, M, h⟩ := h
  split at h
  ·rename_i b g j c
   rw [aB] at h; obtain ⟨H, h⟩ := h
   simp only [yc, decide_eq_true_eq] at H
   obtain rfl := yb h
   refine ⟨_, _, rfl, ?_⟩
   cases hx with
   | ptr _ _ _ _ L B hl hb =>
    refine ⟨_, z6 N M H.1 H.2 w, ?_⟩
    rw [yf3]
    exact .ptr b g j _ L B hl hb
  ·simp at h
 ·simp at h
theorem iR {y d : Nat} {i : Option Int} {n : Nat} (h : wW y i d = some n) : (i = none ∧ n = d) ∨ (∃ z, i = some z ∧ 0 ≤ z ∧ z ≤ (y : Int) ∧ n = z.toNat) := by
 cases i with
 | none => exact .inl ⟨rfl, (yb h).symm⟩
 | some z =>
  simp only [wW] at h
  rw [aB] at h
  obtain ⟨A, h⟩ := h
  simp only [yc, decide_eq_true_eq] at A
  exact .inr ⟨z, rfl, A.1, A.2, (yb h).symm⟩
def pD (o : Option Int) (v : Option Value) : Prop :=
 match o, v with
 | none, none => True
 | some i, some v => ∃ k, v = .int k i
 | _, _ => False
theorem dH {isSlice : Bool} {len cap : Nat} {lo hi mx : Option Int} {K V W : Option Value} {l h : Nat} (A : iG len lo hi mx = some (l, h)) (hc : len ≤ cap)
  (hl : pD lo K) (hh : pD hi V) (hm : pD mx W) (w : World) :
  ∃ m, (Instr.sliceBounds isSlice len cap K V W).run P w = .ok (l, h, m) w ∧ l ≤ h ∧ h ≤ len ∧ h ≤ m ∧ m ≤ cap := by
 unfold iG at A
 rw [aB] at A; obtain ⟨hg, A⟩ := A
 rw [bind_some] at A; obtain ⟨m, h1, A⟩ := A
 rw [bind_some] at A; obtain ⟨h', h2, A⟩ := A
 rw [bind_some] at A; obtain ⟨l', h3, A⟩ := A
 simp only [Option.some.injEq, Prod.mk.injEq] at A
 obtain ⟨rfl, rfl⟩ := A
 rcases iR h1 with ⟨rfl, rfl⟩ | ⟨N, rfl, Y, zm1, rfl⟩
 ·have : W = none := by cases W <;> simp_all [pD]
  subst this
  rcases iR h2 with ⟨rfl, rfl⟩ | ⟨z, rfl, M, zh1, rfl⟩
  ·have : V = none := by cases V <;> simp_all [pD]
   subst this
   rcases iR h3 with ⟨rfl, rfl⟩ | ⟨zl, rfl, J, O, rfl⟩
   ·have : K = none := by cases K <;> simp_all [pD]
    subst this
    exact ⟨cap, by simp [Instr.sliceBounds], by omega, by omega, by omega, by omega⟩
   ·cases K with
    | none => simp [pD] at hl
    | some v =>
     obtain ⟨k, rfl⟩ := hl
     exact ⟨cap, by simp [Instr.sliceBounds, Instr.sliceBound, f7, J, O], by omega, by omega, by omega, by omega⟩
  ·cases V with
   | none => simp [pD] at hh
   | some v =>
    obtain ⟨k, rfl⟩ := hh
    have H : z ≤ (cap : Int) := by omega
    rcases iR h3 with ⟨rfl, rfl⟩ | ⟨zl, rfl, J, O, rfl⟩
    ·have : K = none := by cases K <;> simp_all [pD]
     subst this
     exact ⟨cap, by simp [Instr.sliceBounds, Instr.sliceBound, f7, M, H], by omega, by omega, by omega, by omega⟩
    ·cases K with
     | none => simp [pD] at hl
     | some v =>
      obtain ⟨k, rfl⟩ := hl
      have e : ((z.toNat : Nat) : Int) = z := by omega
      have U : zl ≤ z := by omega
      have Z : ¬ (max z 0 < zl) := by omega
      exact ⟨cap, by simp [Instr.sliceBounds, Instr.sliceBound, f7, M, H, J, e, U, Z], by omega, by omega, by omega, by omega⟩
 ·cases W with
  | none => simp [pD] at hm
  | some v =>
   obtain ⟨km, rfl⟩ := hm
   have zm2 : N ≤ (cap : Int) := by omega
   have em : ((N.toNat : Nat) : Int) = N := by omega
   rcases iR h2 with ⟨rfl, rfl⟩ | ⟨z, rfl, M, zh1, rfl⟩
   ·simp at hg
   ·cases V with
    | none => simp [pD] at hh
    | some v =>
     obtain ⟨k, rfl⟩ := hh
     have H : z ≤ N := by omega
     rcases iR h3 with ⟨rfl, rfl⟩ | ⟨zl, rfl, J, O, rfl⟩
     ·have : K = none := by cases K <;> simp_all [pD]
      subst this
      have Z : ¬ (max N 0 < z) := by omega
      exact ⟨N.toNat, by simp [Instr.sliceBounds, Instr.sliceBound, f7, M, H, Y, zm2, em, Z], by omega, by omega, by omega, by omega⟩
     ·cases K with
      | none => simp [pD] at hl
      | some v =>
       obtain ⟨k, rfl⟩ := hl
       have e : ((z.toNat : Nat) : Int) = z := by omega
       have U : zl ≤ z := by omega
       have Z : ¬ (max N 0 < z) := by omega
       have mz2 : ¬ (max z 0 < zl) := by omega
       have mp : z ≤ max N 0 := by omega
       have mp2 : zl ≤ max z 0 := by omega
       exact ⟨N.toNat, by simp [Instr.sliceBounds, Instr.sliceBound, f7, M, H, Y, zm2, em, J, e, U, Z, mz2, mp, mp2], by omega, by omega, by omega, by omega⟩
end
end Go.Ab
end
section
namespace Go.Ab
variable [cD]
section
variable {P : Program}
def PP (G : Gh) (w : World) (P : Program) (s : Sem Value) (out : eL) : Prop := out.wr = [] ∧ out.push = [] ∧ ∃ cv, s.run P w = .ok cv w ∧ VR G w out.v cv
theorem bX {t H : TypeId} {s : Nat} (M : P.underlying t = some (.slice H)) (N : k6 P H = some s) {a : Option Addr} {len cap : Nat} {z J A : Option Value} {l h m : Nat} {w : World}
  (K : (Instr.sliceBounds true len cap z J A).run P w = .ok (l, h, m) w) :
  (Instr.sliceAt t (.slice a len cap) z J A).run P w = .ok (.slice (if m = l then a else a.map (·.add (l * s))) (h - l) (m - l)) w := by
 simp only [Instr.sliceAt, Instr.slice, Sem.run_bind, run_underlying M, Result.andThen_ok, K, dX N, Sem.run_pure]
theorem As {t : TypeId} (J : P.underlying t = some .string) {s : ByteArray} {z A : Option Value} {l h m : Nat} {w : World}
  (H : (Instr.sliceBounds false s.size s.size z A none).run P w = .ok (l, h, m) w) :
  (Instr.sliceAt t (.string s) z A none).run P w = .ok (.string (s.extract l h)) w := by
 simp [Instr.sliceAt, Instr.slice, run_underlying J, H]
theorem B8 {t H : TypeId} {s n B o : Nat} (M : P.underlying t = some (.array n H)) (N : k6 P H = some s) {z J A : Option Value} {l h m : Nat} {w : World}
  (K : (Instr.sliceBounds false n n z J A).run P w = .ok (l, h, m) w) :
  (Instr.sliceAt t (.pointer (some ⟨B, o, none⟩)) z J A).run P w = .ok (.slice (some (if m = l then ⟨B, o, none⟩ else ⟨B, o + l * s, none⟩)) (h - l) (m - l)) w := by
 simp only [Instr.sliceAt, Instr.sureAddr, Sem.run_bind, run_underlying M, Result.andThen_ok, K, dX N, Sem.run_pure, dJ]
theorem j7 {α : Type} {xs : List α} {l h i : Nat} {x : α} (hx : ((xs.take h).drop l)[i]? = some x) : xs[l + i]? = some x ∧ l + i < h := by
 rw [yd1] at hx
 have z : l + i < h := by
  rcases yz1 (l + i) h with A | A
  ·exact A
  ·rw [ya1 (by simp; omega)] at hx; cases hx
 exact ⟨by rw [yi1 z] at hx; exact hx, z⟩
theorem Hi {G : Gh} {w : World} {b g o n cap l h m : Nat} {B e N : Nat} (z : G.loc b g = some ⟨some B, e, N⟩) (H : Er w B ((o + cap) * e)) (O : o + n ≤ N)
  (h1 : l ≤ h) (h2 : h ≤ n) (h3 : h ≤ m) (h4 : m ≤ cap) :
  VR G w (.ms b g (o + l) (h - l)) (.slice (if m = l then (some ⟨B, o * e, none⟩ : Option Addr) else (some (⟨B, o * e, none⟩ : Addr)).map (·.add (l * e))) (h - l) (m - l)) := by
 have hf : Er w B ((o + l + (m - l)) * e) := fun j M => H j (yn2 M (ya2 _ (by omega)))
 by_cases A : m = l
 ·rw [if_pos A]
  have U : h - l = 0 := by omega
  have K : m - l = 0 := by omega
  rw [U, K]
  by_cases J : l = 0
  ·subst J
   rw [K] at hf
   exact .ms b g o 0 0 _ B z rfl (by omega) (by simp; omega) (by simpa using hf)
  ·exact .msZ b g (o + l) B _ _ z rfl (by omega) (by simp; omega)
 ·rw [if_neg A]
  simp only [yo, dJ]
  have := VR.ms (G := G) (w := w) b g (o + l) (h - l) (m - l) _ B z rfl (by omega) (by simp; omega) hf
  simpa [yt1] using this
theorem Ho {G : Gh} {w : World} {mem : a9} {t : TypeId} {x : AV} {lo hi mx : Option Int} {vl vh vm : Option Value} {out : eL} {cv : Value} (hM : aT G w mem) (h : gQ P t mem x lo hi mx = some out) (hx : VR G w x cv)
  (hl : pD lo vl) (Y : pD hi vh) (hm : pD mx vm) : PP G w P (Instr.sliceAt t cv vl vh vm) out := by
 unfold gQ at h
 split at h
 ·rename_i O
  split at h
  ·rename_i s
   rw [aB] at h; obtain ⟨hmx, h⟩ := h
   obtain ⟨⟨l, J⟩, M, rfl⟩ := yf.1 h
   obtain rfl := hx.lit_inv
   have : mx = none := by cases mx <;> simp_all
   subst this
   have : vm = none := by cases vm <;> simp_all [pD]
   subst this
   obtain ⟨m, H, _⟩ := dH (P := P) (isSlice := false) M (yz _) hl Y hm w
   exact ⟨rfl, rfl, _, As O H, .lit _ rfl⟩
  ·simp at h
 ·rename_i et O
  rw [bind_some] at h; obtain ⟨s, W, h⟩ := h
  split at h
  ·rename_i β k xs
   rw [aB] at h; obtain ⟨K, h⟩ := h
   obtain rfl := cX.1 K
   obtain ⟨⟨l, J⟩, M, rfl⟩ := yf.1 h
   cases hx with
   | imm _ _ _ hp =>
    cases hp with
    | intsNil _ a =>
     obtain ⟨m, H, h1, h2, V, U⟩ := dH (P := P) (isSlice := true) (cap := 0) M (by simp) hl Y hm w
     refine ⟨rfl, rfl, _, bX O W (a := a) (len := 0) (cap := 0) H, ?_⟩
     simp at h2
     obtain rfl : l = 0 := by omega
     obtain rfl : J = 0 := by omega
     obtain rfl : m = 0 := by omega
     exact .imm β _ _ (by simpa using PR.intsNil k _) rfl
    | ints _ _ B o cap hcap hh' =>
     obtain ⟨m, H, h1, h2, V, U⟩ := dH (P := P) (isSlice := true) (cap := cap) M hcap hl Y hm w
     refine ⟨rfl, rfl, _, bX O W H, .imm β _ _ ?_ rfl⟩
     have A : ((xs.take J).drop l).length = J - l := by simp; omega
     by_cases hml : m = l
     ·have : (xs.take J).drop l = [] := yp (by omega)
      rw [if_pos hml, this, show J - l = ([] : List Int).length by simp; omega]
      exact .ints k [] B o _ (by simp) (fun i x hx => by simp at hx)
     ·rw [if_neg hml, ← A]
      simp only [yo, dJ, yi3]
      refine .ints k _ B (o + l) _ (by rw [A]; omega) (fun i x hx => ?_)
      obtain ⟨hx, _⟩ := j7 hx
      rw [yf3]; exact hh' _ _ hx
  ·rename_i β e xs
   rw [aB] at h; obtain ⟨K, h⟩ := h
   obtain rfl := cX.1 K
   obtain ⟨⟨l, J⟩, M, rfl⟩ := yf.1 h
   cases hx with
   | imm _ _ _ hp =>
    cases hp with
    | slNil _ a =>
     obtain ⟨m, H, h1, h2, V, U⟩ := dH (P := P) (isSlice := true) (cap := 0) M (by simp) hl Y hm w
     refine ⟨rfl, rfl, _, bX O W (a := a) (len := 0) (cap := 0) H, ?_⟩
     simp at h2
     obtain rfl : l = 0 := by omega
     obtain rfl : J = 0 := by omega
     obtain rfl : m = 0 := by omega
     exact .imm β _ _ (by simpa using PR.slNil s _) rfl
    | sl _ _ B o cap cv he hcap hlen0 hh' h1' hr' =>
     obtain ⟨m, H, h1, h2, V, U⟩ := dH (P := P) (isSlice := true) (cap := cap) M hcap hl Y hm w
     refine ⟨rfl, rfl, _, bX O W H, .imm β _ _ ?_ rfl⟩
     have A : ((xs.take J).drop l).length = J - l := by simp; omega
     by_cases hml : m = l
     ·have : (xs.take J).drop l = [] := yp (by omega)
      rw [if_pos hml, this, show J - l = ([] : List PV).length by simp; omega]
      exact .sl s [] B o _ cv he (by simp) (fun x hx => by simp at hx) (fun i x c y hx => by simp at hx) (fun i x c y hx => by simp at hx) (fun i x c y hx => by simp at hx)
     ·rw [if_neg hml, ← A]
      simp only [yo, dJ]
      refine .sl s _ B (o + l * s) _ (fun i c => cv (l + i) c) he (by rw [A]; omega) (fun x hx => hlen0 x (List.mem_of_mem_take (List.mem_of_mem_drop hx))) (fun i x c y hx hy => ?_) (fun i x c y hx hy => h1' _ _ _ _ (j7 hx).1 hy) (fun i x c y hx hy => ?_)
      ·obtain ⟨hx, _⟩ := j7 hx
       have := hh' _ _ _ _ hx hy
       rw [show o + l * s + i * s + c = o + (l + i) * s + c by rw [yt1]; omega]; exact this
      ·obtain ⟨hx, _⟩ := j7 hx
       exact hr' _ _ _ _ hx hy
  ·rename_i b g o n
   rw [bind_some] at h; obtain ⟨bx, Z, h⟩ := h
   rw [aB] at h; obtain ⟨K, h⟩ := h
   obtain rfl := cX.1 K
   obtain ⟨⟨l, J⟩, M, rfl⟩ := yf.1 h
   rcases hM.at_ms Z hx with ⟨B, cap, rfl, hn, hon, z, N, _⟩ | ⟨rfl, rfl, rfl, hz, z⟩ | ⟨B, oo, rfl, ho, rfl, hon, z⟩
   ·obtain ⟨m, H, h1, h2, V, U⟩ := dH (P := P) (isSlice := true) (cap := cap) M hn hl Y hm w
    exact ⟨rfl, rfl, _, bX O W H, Hi z N hon h1 h2 V U⟩
   ·obtain ⟨m, H, h1, h2, V, U⟩ := dH (P := P) (isSlice := true) (cap := 0) M (by simp) hl Y hm w
    refine ⟨rfl, rfl, _, bX O W (a := none) H, ?_⟩
    obtain rfl : l = 0 := by omega
    obtain rfl : J = 0 := by omega
    obtain rfl : m = 0 := by omega
    exact .msNil b g _ z rfl
   ·obtain ⟨m, H, h1, h2, V, U⟩ := dH (P := P) (isSlice := true) (cap := 0) M (by simp) hl Y hm w
    refine ⟨rfl, rfl, _, bX O W H, ?_⟩
    obtain rfl : l = 0 := by omega
    obtain rfl : J = 0 := by omega
    obtain rfl : m = 0 := by omega
    exact .msZ b g o B oo _ z rfl ho hon
  ·rename_i b g
   rw [bind_some] at h; obtain ⟨bx, Z, h⟩ := h
   rw [aB] at h; obtain ⟨K, h⟩ := h
   obtain rfl := cX.1 K
   obtain ⟨⟨l, J⟩, M, rfl⟩ := yf.1 h
   rcases hM.at_msw Z hx with ⟨B, cap, rfl, hn, z, N, _⟩ | ⟨rfl, hz, _, z⟩
   ·obtain ⟨m, H, h1, h2, V, U⟩ := dH (P := P) (isSlice := true) (cap := cap) M hn hl Y hm w
    have := Hi (o := 0) (n := bx.row.len) z (by simpa using N) (by simp) h1 h2 V U
    exact ⟨rfl, rfl, _, bX O W H, by simpa using this⟩
   ·rw [hz] at M
    obtain ⟨m, H, h1, h2, V, U⟩ := dH (P := P) (isSlice := true) (cap := 0) M (by simp) hl Y hm w
    refine ⟨rfl, rfl, _, bX O W (a := none) H, ?_⟩
    obtain rfl : l = 0 := by omega
    obtain rfl : J = 0 := by omega
    obtain rfl : m = 0 := by omega
    exact .msNil b g _ z rfl
  ·obtain ⟨⟨l, J⟩, M, rfl⟩ := yf.1 h
   obtain rfl := hx.lit_inv
   obtain ⟨m, H, h1, h2, V, U⟩ := dH (P := P) (isSlice := true) (cap := 0) M (by simp) hl Y hm w
   refine ⟨rfl, rfl, _, bX O W (a := none) H, ?_⟩
   obtain rfl : l = 0 := by omega
   obtain rfl : J = 0 := by omega
   obtain rfl : m = 0 := by omega
   exact .lit _ rfl
  ·simp at h
 ·rename_i n et O
  rw [bind_some] at h; obtain ⟨s, W, h⟩ := h
  split at h
  ·rename_i b g c
   rw [aB] at h; obtain ⟨K, h⟩ := h
   obtain rfl := cX.1 K
   rw [bind_some] at h; obtain ⟨bx, Z, h⟩ := h
   obtain ⟨B, rfl, z, hmine, hB, hfz, hrow, hpr⟩ := hM.at_ptr Z hx
   obtain ⟨gen, frz, row⟩ := bx
   split at h
   ·rename_i cs hrw
    simp only at hrw; subst hrw
    rw [aB] at h; obtain ⟨hle, h⟩ := h
    have hle := eT.1 hle
    obtain ⟨⟨l, J⟩, M, rfl⟩ := yf.1 h
    obtain ⟨m, H, h1, h2, V, U⟩ := dH (P := P) (isSlice := false) (cap := n) M (yz _) hl Y hm w
    have N : Er w B ((c + n) * 1) := fun j hj => by
     obtain ⟨v, hv, _⟩ := hrow.2 j (cs[j]'(by omega)) (yd _)
     rw [hv]; rfl
    have A : (cI.cells 1 cs).len = cs.length := rfl
    have := Hi (o := c) (n := n) z N (by rw [A]; exact hle) h1 h2 V U
    refine ⟨rfl, rfl, _, B8 O W H, ?_⟩
    simp only [cI.e, yi3, Nat.zero_mul, yj1, dJ, yo] at this ⊢
    split
    ·rename_i e; simpa [e] using this
    ·rename_i e; simpa [e] using this
   ·simp at h
  ·simp at h
 ·simp at h
end
end Go.Ab
end
section
namespace Go.Ab
variable [cD]
section
variable {P : Program}
theorem IT {G : Gh} {w : World} {mem : a9} {t ty : TypeId} {x : AV} {n : Nat × List Nat} {cv : Value} (hM : aT G w mem) (h : lenOf P t mem x = some n) (hx : VR G w x cv) :
  (Builtin.len_ #[t] ty #[cv]).run P w = .ok (.int .i64 (n.1 : Int)) w := by
 unfold lenOf at h
 split at h
 ·rename_i H
  split at h
  ·obtain rfl := yb h
   obtain rfl := hx.lit_inv
   simp [Builtin.len_, run_underlying H, goInt]
  ·simp at h
 ·rename_i et H
  have z : ∀ (a : Option Addr) (l c : Nat), (Builtin.len_ #[t] ty #[.slice a l c]).run P w = .ok (.int .i64 (l : Int)) w := by
   intro a l c; simp [Builtin.len_, run_underlying H, goInt]
  split at h
  ·obtain rfl := yb h
   cases hx with | imm _ _ _ A => cases A <;> exact z _ _ _
  ·obtain rfl := yb h
   cases hx with | imm _ _ _ A => cases A <;> exact z _ _ _
  ·obtain rfl := yb h
   cases hx <;> exact z _ _ _
  ·obtain ⟨bx, J, rfl⟩ := yf.1 h
   rcases hM.at_msw J hx with ⟨B, cap, rfl, _⟩ | ⟨rfl, K, _⟩
   ·exact z _ _ _
   ·rw [z]; simp [K]
  ·obtain rfl := yb h
   obtain rfl := hx.lit_inv
   exact z _ _ _
  ·simp at h
 ·simp at h
theorem rW {G : Gh} {w : World} {f : Int → Int → Int} {k : IntKind} {op : Value → Value → Sem Value} (J : ∀ a b, (op (.int k a) (.int k b)) = pure (.int k (f a b))) :
  ∀ {xs : List AV} {vs : List Value} {a r : Int}, kL f k xs a = some r → (xs.length = vs.length ∧ ∀ (j : Nat) (y : AV), xs[j]? = some y → VR G w y (vs.getD j undef)) →
   (vs.foldlM op (.int k a)).run P w = .ok (.int k r) w := by
 intro xs
 induction xs with
 | nil =>
  intro vs a r h z
  simp [kL] at h; subst h
  have := yp z.1.symm
  subst this; rfl
 | cons x xs N =>
  intro vs a r h z
  cases vs with
  | nil => simp at z
  | cons v vs =>
   have h1 := z.2 0 x rfl
   simp only [List.getD_cons_zero] at h1
   have H : xs.length = vs.length ∧ ∀ (j : Nat) (y : AV), xs[j]? = some y → VR G w y (vs.getD j undef) := ⟨by simpa using z.1, fun j y M => by simpa using z.2 (j + 1) y (by simpa using M)⟩
   unfold kL at h
   split at h
   ·simp_all
   ·rename_i k' b r' a' A
    simp only [List.cons.injEq] at A
    obtain ⟨rfl, rfl⟩ := A
    rw [aB] at h; obtain ⟨K, h⟩ := h
    rw [jX] at K; subst K
    obtain rfl := h1.lit_inv
    rw [List.foldlM_cons, J]
    simp only [Sem.run_bind, Sem.run_pure, Result.andThen_ok]
    exact N h H
   ·simp at h
theorem dQ (C : Array Value) (j : Nat) : C.toList.getD j undef = C.getD j undef := by
 simp [yl, ym]
theorem vP {s : TypeId} {f : Nat} {q : Nat × Nat × TypeId} (h : kG P s f = some q) :
  ∃ fs x, P.underlying s = some (.struct fs) ∧ fs[f]? = some x ∧ x.offset = q.1 ∧ k6 P x.type = some q.2.1 ∧ x.type = q.2.2 ∧ 1 ≤ q.2.1 := by
 unfold kG at h
 split at h
 ·rename_i fs z
  rw [bind_some] at h; obtain ⟨x, hx, h⟩ := h
  rw [bind_some] at h; obtain ⟨n, hn, h⟩ := h
  rw [aB] at h; obtain ⟨h1, h⟩ := h
  obtain rfl := yb h
  exact ⟨fs, x, z, hx, rfl, hn, rfl, eT.1 h1⟩
 ·simp at h
theorem Bo {s : TypeId} {f : Nat} {q : Nat × Nat × TypeId} (h : kG P s f = some q) (B o : Nat) (w : World) :
  (Instr.fieldAt s (.pointer (some ⟨B, o, none⟩)) f).run P w = .ok (.pointer (some ⟨B, o + q.1, none⟩)) w := by
 obtain ⟨fs, x, H, hx, A, hn, ht, h1⟩ := vP h
 have z : ¬ (q.2.1 = 0) := by omega
 simp only [Instr.fieldAt, Sem.run_bind, run_underlying H, Result.andThen_ok, hx, Instr.sureAddr, Sem.run_pure, fieldPlace, dX hn, z, if_false, dJ, A]
theorem IF {t : TypeId} {n : Nat} {ag : Bool} (z : isAgg? P t = some ag) (hn : k6 P t = some n) {cs : Array Value} {o : Nat} (w : World) (A : ag = true ∨ o < cs.size) :
  (part t cs o).run P w = .ok (if ag = true then .agg (cs.extract o (o + n)) else cs.getD o undef) w := by
 cases ag with
 | true => simp only [part, Sem.run_bind, sV z, Result.andThen_ok, if_true, dX hn, Sem.run_pure]
 | false =>
  have H : o < cs.size := by rcases A with h | h; cases h; exact h
  simp only [part, Sem.run_bind, sV z, Result.andThen_ok, yf2, if_false, yn1 H, Sem.run_pure, ym, Option.getD_some]
theorem GG {G : Gh} {w : World} {s : TypeId} {f : Nat} {q : Nat × Nat × TypeId} {cs : List AV} {cv : Value} {ag : Bool} {v : AV} (h : kG P s f = some q) (J : isAgg? P q.2.2 = some ag)
  (hx : VR G w (.agg cs) cv) (A : (bif ag then guardB (Nat.ble (q.1 + q.2.1) cs.length) (some (AV.agg ((cs.drop q.1).take q.2.1))) else cs[q.1]?) = some v) :
  ∃ K, (Instr.field s cv f).run P w = .ok K w ∧ VR G w v K := by
 obtain ⟨fs, x, Z, O, Y, hn, ht, h1⟩ := vP h
 obtain ⟨cvs, rfl, U, V⟩ := hx.agg_inv
 rw [← ht] at J
 have H : ∀ (z : ag = true ∨ q.1 < cvs.size), (Instr.field s (.agg cvs) f).run P w = .ok (if ag = true then .agg (cvs.extract q.1 (q.1 + q.2.1)) else cvs.getD q.1 undef) w := by
  intro z
  have := IF (P := P) J hn (cs := cvs) (o := q.1) w z
  simp only [Instr.field, Sem.run_bind, run_underlying Z, Result.andThen_ok, O, asAgg, Sem.run_pure, Y, this]
 cases ag with
 | true =>
  simp only [yg] at A
  rw [aB] at A; obtain ⟨z, A⟩ := A
  have z := eT.1 z
  obtain rfl := yb A
  refine ⟨_, H (.inl rfl), ?_⟩
  rw [if_pos rfl]
  refine .agg _ _ (by simp; omega) fun j y M => ?_
  have W : j < q.2.1 := by have := (yh.1 M).1; simp at this; omega
  rw [yi1 W, yd1] at M
  have := V _ y M
  have N : q.1 + j < cvs.size := by omega
  simp only [ym] at this ⊢
  rw [Array.getElem?_extract]
  rw [if_pos (by omega)]
  exact this
 | false =>
  simp only [ye] at A
  have N := (yh.1 A).1
  exact ⟨_, H (.inr (by omega)), by simpa using V _ v A⟩
theorem Fr {ρ : Operand → Option AV} : ∀ {xs : List Operand} {vs : List AV}, AQ ρ xs = some vs → vs.length = xs.length ∧ ∀ (j : Nat) (y : AV), vs[j]? = some y → ∃ x, xs[j]? = some x ∧ ρ x = some y
 | [], vs, h => by simp [AQ] at h; subst h; exact ⟨rfl, fun j y z => by simp at z⟩
 | x :: r, vs, h => by
  simp only [AQ] at h
  rw [bind_some] at h; obtain ⟨v, H, h⟩ := h
  obtain ⟨J, A, rfl⟩ := yf.1 h
  obtain ⟨hl, K⟩ := Fr A
  refine ⟨by simp [hl], fun j y z => ?_⟩
  cases j with
  | zero => simp at z; subst z; exact ⟨x, rfl, H⟩
  | succ j => simpa using K j y (by simpa using z)
theorem Ed {G : Gh} {w : World} {ρ : Operand → Option AV} {a : Act} (A : Px G w ρ a) {xs : Array Operand} {vs : List AV} (h : AQ ρ xs.toList = some vs) : pX G w vs (xs.map a.eval) := by
 obtain ⟨hl, J⟩ := Fr h
 refine ⟨by simpa using hl, fun j y K => ?_⟩
 obtain ⟨x, hx, H⟩ := J j y K
 have z : xs[j]? = some x := by simpa using hx
 have hj := (ys2.1 z).1
 have := A x y H
 simp only [ym, Array.getElem?_map, z, yo, Option.getD_some]
 exact this
theorem BH {ρ : Operand → Option AV} : ∀ {xs : List (Nat × Operand)} {vs : List (Nat × AV)}, kQ ρ xs = some vs →
  vs.length = xs.length ∧ ∀ (j : Nat) (q : Nat × AV), vs[j]? = some q → ∃ x, xs[j]? = some (q.1, x) ∧ ρ x = some q.2
 | [], vs, h => by simp [kQ] at h; subst h; exact ⟨rfl, fun j y M => by simp at M⟩
 | (i, x) :: r, vs, h => by
  simp only [kQ] at h
  rw [bind_some] at h; obtain ⟨v, H, h⟩ := h
  obtain ⟨J, A, rfl⟩ := yf.1 h
  obtain ⟨hl, K⟩ := BH A
  refine ⟨by simp [hl], fun j q z => ?_⟩
  cases j with
  | zero => simp at z; subst z; exact ⟨x, rfl, H⟩
  | succ j => simpa using K j q (by simpa using z)
def jH (G : Gh) (w : World) (as : List AV) (vs : List Value) : Prop := as.length = vs.length ∧ ∀ (j : Nat) (y : AV), as[j]? = some y → VR G w y (vs.getD j undef)
def Pw (G : Gh) (w : World) (ps : List (Nat × AV)) (qs : List (Nat × Value)) : Prop := ps.length = qs.length ∧ ∀ (j : Nat) (p : Nat × AV), ps[j]? = some p → ∃ v, qs[j]? = some (p.1, v) ∧ VR G w p.2 v
theorem Dv {G : Gh} {w : World} {ρ : Operand → Option AV} {a : Act} (H : Px G w ρ a) {xs : Array (Nat × Operand)} {vs : List (Nat × AV)} (h : kQ ρ xs.toList = some vs) :
  Pw G w vs (xs.map fun (i, x) => (i, a.eval x)).toList := by
 obtain ⟨hl, K⟩ := BH h
 refine ⟨by simpa using hl, fun j q A => ?_⟩
 obtain ⟨x, hx, J⟩ := K j q A
 refine ⟨a.eval x, ?_, H x _ J⟩
 have z : xs[j]? = some (q.1, x) := by simpa using hx
 simp [z]
theorem jH.set {G : Gh} {w : World} {as : List AV} {vs : List Value} (h : jH G w as vs) {i : Nat} {a : AV} {v : Value} (H : VR G w a v) : jH G w (as.set i a) (vs.set i v) := by
 refine ⟨by simp [h.1], fun j y z => ?_⟩
 by_cases e : j = i
 ·subst e
  have A : j < as.length := by have := (yh.1 z).1; simpa using this
  rw [yf1 A] at z
  simp at z; subst z
  rw [yl, yf1 (by rw [← h.1]; exact A)]; exact H
 ·rw [yg1 (fun x => e x.symm)] at z
  rw [yl, yg1 (fun x => e x.symm), ← yl]; exact h.2 j y z
def bE : List Value → Nat → List Value → List Value
 | cs, _, [] => cs
 | cs, i, v :: r => bE (cs.set i v) (i + 1) r
theorem jH.setCells {G : Gh} {w : World} : ∀ {xs : List AV} {ys : List Value} {as : List AV} {vs : List Value} {i : Nat}, jH G w as vs → jH G w xs ys → jH G w (setCells as i xs) (bE vs i ys)
 | [], ys, as, vs, i, h, hx => by
  have := yp hx.1.symm
  subst this; exact h
 | x :: xs, [], as, vs, i, h, hx => by simp [jH] at hx
 | x :: xs, y :: ys, as, vs, i, h, hx => by
  have A := hx.2 0 x rfl
  simp only [List.getD_cons_zero] at A
  simp only [Go.Ab.setCells, bE]
  exact jH.setCells (h.set A) ⟨by simpa using hx.1, fun j z H => by simpa using hx.2 (j + 1) z (by simpa using H)⟩
theorem kS {as : List AV} : ∀ {xs : List AV} {i : Nat} {as : List AV}, (setCells as i xs).length = as.length
 | [], i, as => rfl
 | x :: xs, i, as => by rw [Go.Ab.setCells, kS (as := as)]; simp
theorem gI : ∀ {xs : List Value} {i : Nat} {as : List Value}, (bE as i xs).length = as.length
 | [], i, as => rfl
 | x :: xs, i, as => by rw [bE, gI]; simp
theorem Ap : ∀ (vs : List Value) (h n : Nat) (cs : Array Value), ((vs.zipIdx n).foldl (fun cs (c, j) => cs.setIfInBounds (h + j) c) cs).toList = bE cs.toList (h + n) vs
 | [], h, n, cs => rfl
 | v :: vs, h, n, cs => by
  simp only [List.zipIdx_cons, List.foldl_cons, bE]
  rw [Ap vs h (n + 1)]
  simp [yf3]
theorem jH.one {G : Gh} {w : World} {a : AV} {v : Value} (h : VR G w a v) : jH G w [a] [v] :=
 ⟨rfl, fun j y z => by cases j with | zero => simp at z; subst z; exact h | succ j => simp at z⟩
theorem VR.cells {G : Gh} {w : World} {a : AV} {v : Value} (h : VR G w a v) : jH G w a.cells v.cells.toList := by
 cases h with
 | agg cs cvs z h => exact ⟨by simpa [AV.cells, Value.cells] using z, fun j y N => by simp only [Value.cells]; rw [dQ]; exact h j y (by simpa [AV.cells] using N)⟩
 | lit v J =>
  have : v.cells = #[v] := by cases v <;> first | rfl | simp [lR] at J
  rw [this]; exact jH.one (.lit v J)
 | imm β p v h K =>
  have : v.cells = #[v] := by cases h <;> first | rfl | simp [PV.isSl] at K
  rw [this]; exact jH.one (.imm β p v h K)
 | unkB b => exact jH.one (.unkB b)
 | dead v h1 h2 =>
  have : v.cells = #[v] := by cases v <;> first | rfl | simp [lR] at h2
  rw [this]; exact jH.one (.dead v h1 h2)
 | ptr b g i c L B hl A => exact jH.one (.ptr b g i c L B hl A)
 | ms b g o n cap L B hl A hn H hf => exact jH.one (.ms b g o n cap L B hl A hn H hf)
 | msNil b g L hl A => exact jH.one (.msNil b g L hl A)
 | msZ b g o B M L hl A O H => exact jH.one (.msZ b g o B M L hl A O H)
 | msw b g cap L B hl A hn hf => exact jH.one (.msw b g cap L B hl A hn hf)
 | mswNil b g L hl A hn => exact jH.one (.mswNil b g L hl A hn)
 | el β p c B o cv h V => exact jH.one (.el β p c B o cv h V)
 | fn f Z Y U cv h1 h2 hf W => exact jH.one (.fn f Z Y U cv h1 h2 hf W)
 | tup cs cvs z h => exact jH.one (.tup cs cvs z h)
theorem wQ {G : Gh} {w : World} {k7 : Nat → Option (Nat × Nat)} : ∀ {ps : List (Nat × AV)} {qs : List (Nat × Value)} {cs A : List AV} {cvs : Array Value}, Bp k7 cs ps = some A → jH G w cs cvs.toList → Pw G w ps qs →
  ∃ z, Instr.fill k7 cvs qs = some z ∧ jH G w A z.toList
 | [], qs, cs, A, cvs, h, N, H => by
  have := yp H.1.symm
  subst this
  simp [Bp] at h; subst h
  exact ⟨cvs, rfl, N⟩
 | (i, v) :: r, [], cs, A, cvs, h, N, H => by simp [Pw] at H
 | (i, v) :: r, (i', u) :: qs, cs, A, cvs, h, N, H => by
  obtain ⟨u', W, Y⟩ := H.2 0 (i, v) rfl
  simp only [yx2, Option.some.injEq, Prod.mk.injEq] at W
  obtain ⟨rfl, rfl⟩ := W
  simp only [Bp] at h
  rw [bind_some] at h; obtain ⟨q, hq, h⟩ := h
  rw [aB] at h; obtain ⟨J, h⟩ := h
  simp only [yc] at J
  have h1 := cX.1 J.1
  have h2 := eT.1 J.2
  have K := Y.cells
  have U : u.cells.size = q.2 := by rw [← h1]; simpa using K.1.symm
  have Z : cs.length = cvs.size := by simpa using N.1
  have M : (u.cells.zipIdx.foldl (fun cs (c, j) => cs.setIfInBounds (q.1 + j) c) cvs).toList = bE cvs.toList q.1 u.cells.toList := by
   have := Ap u.cells.toList q.1 0 cvs
   rw [yp2] at this
   rw [← this, ← Array.foldl_toList]
   simp
  obtain ⟨z, hf, V⟩ := wQ (cvs := u.cells.zipIdx.foldl (fun cs (c, j) => cs.setIfInBounds (q.1 + j) c) cvs) h (by rw [M]; exact N.setCells K)
   ⟨by simpa using H.1, fun j p O => by simpa using H.2 (j + 1) p (by simpa using O)⟩
  refine ⟨z, ?_, V⟩
  simp only [Instr.fill, hq]
  rw [if_neg (by simp [U]; omega)]
  exact hf
theorem Dj : ∀ {fs : List Field} {ps : List (Nat × Nat)}, places? P fs = some ps → ∀ w : World, (fs.mapM fun f => (do pure (f.offset, ← sizeOf f.type) : Sem (Nat × Nat))).run P w = .ok ps w
 | [], ps, h, w => by simp [places?] at h; subst h; rfl
 | f :: r, ps, h, w => by
  simp only [places?] at h
  rw [bind_some] at h; obtain ⟨n, hn, h⟩ := h
  obtain ⟨H, z, rfl⟩ := yf.1 h
  have A := Dj z w
  simp only [List.mapM_cons, Sem.run_bind, dX hn, Result.andThen_ok, Sem.run_pure, A]
theorem K6 {G : Gh} {w : World} : ∀ {vs : List Value} {as : List AV}, Gt vs = some as → jH G w as vs
 | [], as, h => by simp [Gt] at h; subst h; exact ⟨rfl, fun j y z => by simp at z⟩
 | v :: r, as, h => by
  simp only [Gt] at h
  rw [aB] at h; obtain ⟨h1, h⟩ := h
  obtain ⟨J, A, rfl⟩ := yf.1 h
  have H := K6 (G := G) (w := w) A
  exact ⟨by simp [H.1], fun j y z => by
   cases j with
   | zero => simp at z; subst z; exact .lit v h1
   | succ j => simpa using H.2 j y (by simpa using z)⟩
theorem oV {G : Gh} {w : World} {v : Value} {a : AV} (h : vK v = some a) : VR G w a v := by
 unfold vK at h
 split at h
 ·rename_i cs
  obtain ⟨as, A, rfl⟩ := yf.1 h
  have := K6 (G := G) (w := w) A
  exact .agg as cs (by simpa using this.1) (fun j y H => by rw [← dQ]; exact this.2 j y H)
 ·rename_i z
  obtain rfl := yb h
  exact .lit v (by cases v <;> first | rfl | exact absurd rfl (z _))
theorem oB {t : TypeId} {z : AV} (h : zero? P t = some z) : ∃ i v, P.info? t = some i ∧ i.zero = some v ∧ vK v = some z := by
 unfold zero? at h
 rw [bind_some] at h; obtain ⟨v, A, h⟩ := h
 rw [bind_some] at A; obtain ⟨i, H, A⟩ := A
 exact ⟨i, v, H, A, h⟩
theorem HB {t : TypeId} {z : AV} (h : zero? P t = some z) (G : Gh) (w : World) : ∃ v, (zeroValue t).run P w = .ok v w ∧ VR G w z v ∧ (∀ A, (zeroValue t).run P A = .ok v A) ∧ vK v = some z := by
 obtain ⟨i, v, J, K, H⟩ := oB h
 exact ⟨v, by simp [zeroValue, typeInfo, J, K], oV H, fun A => by simp [zeroValue, typeInfo, J, K], H⟩
theorem G7 {G : Gh} {w : World} {t : TypeId} {ps : List (Nat × AV)} {qs : Array (Nat × Value)} {v : AV} (h : AA P t ps = some v) (W : Pw G w ps qs.toList) :
  ∃ cv, (Instr.build t qs).run P w = .ok cv w ∧ VR G w v cv := by
 unfold AA at h
 rw [bind_some] at h; obtain ⟨z, hz, h⟩ := h
 obtain ⟨zv, H, K, _⟩ := HB hz G w
 split at h
 ·rename_i fs O
  rw [bind_some] at h; obtain ⟨Y, V, h⟩ := h
  obtain ⟨cs, A, rfl⟩ := yf.1 h
  obtain ⟨cvs, hf, J⟩ := wQ A K.cells W
  refine ⟨.agg cvs, ?_, .agg cs cvs (by simpa using J.1) (fun j y M => by rw [← dQ]; exact J.2 j y M)⟩
  have N : (fs.mapM fun f => (do pure (f.offset, ← sizeOf f.type) : Sem (Nat × Nat))).run P w = .ok Y.toArray w := by
   rw [Array.mapM_eq_mapM_toList, Sem.run_map, Dj V w]
   rfl
  have U : Instr.fill (fun i => Y.toArray[i]?) zv.cells qs.toList = some cvs := by rw [← hf]; congr 1; funext i; simp
  simp only [Instr.build, Sem.run_bind, H, Result.andThen_ok, run_underlying O, N, U, Sem.run_pure]
 ·rename_i n e O
  rw [bind_some] at h; obtain ⟨s, Z, h⟩ := h
  obtain ⟨cs, A, rfl⟩ := yf.1 h
  obtain ⟨cvs, hf, J⟩ := wQ A K.cells W
  refine ⟨.agg cvs, ?_, .agg cs cvs (by simpa using J.1) (fun j y M => by rw [← dQ]; exact J.2 j y M)⟩
  simp only [Instr.build, Sem.run_bind, H, Result.andThen_ok, run_underlying O, dX Z, hf, Sem.run_pure]
 ·simp at h
end
end Go.Ab
end
section
namespace Go.Ab
variable [cD]
section
variable {P : Program}
def bL (G : Gh) (w : World) (v : aN) (vs : List Value) : Prop :=
 vs.length = v.len * v.e ∧ (∀ u ∈ vs, u.oneCell' = true) ∧
 match v with
 | .ints k xs => ∀ (i : Nat) (x : Int), xs[i]? = some x → vs[i]? = some (.int k x)
 | .pvs β e xs => (∀ x ∈ xs, x.cells.length = e) ∧ ∀ (i : Nat) (x : PV) (c : Nat) (y : PV), xs[i]? = some x → x.cells[c]? = some y → ∃ u, vs[i * e + c]? = some u ∧ PR w (G.prot β) y u
 | .avs e cs => cs.length = e * bD e cs.length ∧ ∀ (j : Nat) (y : AV), cs[j]? = some y → ∃ u, vs[j]? = some u ∧ VR G w y u
theorem oE (r : cI) : r.all.e = r.e := by cases r <;> rfl
theorem dE (r : cI) : r.all.len = r.len := by cases r <;> rfl
theorem iL (v : aN) : v.row.e = v.e := by cases v <;> rfl
theorem fE (v : aN) : v.row.len = v.len := by cases v <;> rfl
theorem i0 (v : aN) : v.row.all = v := by cases v <;> rfl
theorem Hz (r : cI) : r.all.row = r := by cases r <;> rfl
theorem fZ {e n : Nat} (he : 1 ≤ e) (k : Nat) : bD e (k * e) = k := by
 unfold bD
 have h : Nat.beq e 0 = false := by
  cases e with
  | zero => omega
  | succ e => rfl
 rw [h]; simp only [ye]
 cases h1 : Nat.beq e 1 with
 | true => rw [Nat.eq_of_beq_eq_true h1]; simp
 | false => simp only [ye]; exact Nat.mul_div_cancel k (by omega)
theorem o4.toList {G : Gh} {w : World} {B : Nat} {r : cI} (W : 1 ≤ r.e) (h : o4 G w B r) :
  ∃ vs : List Value, bL G w r.all vs ∧ ∀ j, j < vs.length → cl w B j = vs[j]? := by
 cases r with
 | ints k xs =>
  refine ⟨xs.map (.int k), ⟨by simp [aN.len, aN.e, cI.all], by simp [Value.oneCell'], fun i x hx => by simp [hx]⟩, fun j z => ?_⟩
  simp at z
  rw [h j xs[j] (yd z)]; simp [z]
 | pvs β e xs =>
  obtain ⟨h1, h2⟩ := h
  have K : ∀ j, j < xs.length * e → ∃ v, cl w B j = some v ∧ v.oneCell' = true := by
   intro j z
   have U : j / e < xs.length := by rw [Nat.div_lt_iff_lt_mul (by simp [cI.e] at W; omega)]; exact z
   have V : j % e < (xs[j / e]).cells.length := by rw [h1 _ (yu2 _)]; exact Nat.mod_lt _ (by simp [cI.e] at W; omega)
   obtain ⟨v, A, H, _⟩ := h2 (j / e) (xs[j / e]) (j % e) ((xs[j / e]).cells[j % e]) (yd _) (yd _)
   rw [show j / e * e + j % e = j by rw [yq2]; exact Nat.div_add_mod j e] at A
   exact ⟨v, A, H⟩
  refine ⟨(List.range (xs.length * e)).map (fun j => (cl w B j).getD undef), ⟨by simp [aN.len, aN.e, cI.all], ?_, h1, ?_⟩, ?_⟩
  ·intro u O
   obtain ⟨j, z, rfl⟩ := yc3.1 O
   obtain ⟨v, A, H⟩ := K j (by simpa using z)
   rw [A]; exact H
  ·intro i x c y hx J
   have U := (yh.1 hx).1
   have V := (yh.1 J).1
   obtain ⟨v, A, _, M⟩ := h2 i x c y hx J
   have N : i * e + c < xs.length * e := by
    rw [h1 x (yj hx)] at V
    calc i * e + c < i * e + e := by omega
     _ = (i + 1) * e := by rw [yt1]; simp
     _ ≤ xs.length * e := ya2 _ U
   exact ⟨v, by simp [N, A], M⟩
  ·intro j z
   simp at z
   obtain ⟨v, A, _⟩ := K j z
   simp [z, A]
 | cells e cs =>
  obtain ⟨h1, h2⟩ := h
  refine ⟨(List.range cs.length).map (fun j => (cl w B j).getD undef), ⟨?_, ?_, h1, ?_⟩, ?_⟩
  ·simp only [aN.len, aN.e, cI.all, ye2, yj2]
   rw [yq2]; exact h1
  ·intro u O
   obtain ⟨j, z, rfl⟩ := yc3.1 O
   obtain ⟨v, A, H, _⟩ := h2 j (cs[j]'(by simpa using z)) (yd _)
   rw [A]; exact H
  ·intro j y J
   have z := (yh.1 J).1
   obtain ⟨v, A, _, M⟩ := h2 j y J
   exact ⟨v, by simp [z, A], M⟩
  ·intro j z
   simp at z
   obtain ⟨v, A, _⟩ := h2 j (cs[j]) (yd _)
   simp [z, A]
theorem o4.ofList {G : Gh} {w : World} {B : Nat} {r : cI} {vs : List Value} (h : bL G w r.all vs) (J : ∀ j u, vs[j]? = some u → cl w B j = some u) : o4 G w B r := by
 obtain ⟨hl, h1, h⟩ := h
 cases r with
 | ints k xs => exact fun i x hx => J _ _ (h i x hx)
 | pvs β e xs =>
  refine ⟨h.1, fun i x c y hx H => ?_⟩
  obtain ⟨u, z, A⟩ := h.2 i x c y hx H
  exact ⟨u, J _ _ z, h1 u (yj z), A⟩
 | cells e cs =>
  refine ⟨h.1, fun j y H => ?_⟩
  obtain ⟨u, z, A⟩ := h.2 j y H
  exact ⟨u, J _ _ z, h1 u (yj z), A⟩
theorem bL.mono {G M : Gh} {w K : World} (J : d9 G M) (N : Ev G w K) {v : aN} {vs : List Value} (h : bL G w v vs) : bL M K v vs := by
 obtain ⟨hl, h1, h⟩ := h
 refine ⟨hl, h1, ?_⟩
 cases v with
 | ints k xs => exact h
 | pvs β e xs => exact ⟨h.1, fun i x c y hx A => by obtain ⟨u, H, z⟩ := h.2 i x c y hx A; exact ⟨u, H, z.mono (J.prot β) (N.prot β)⟩⟩
 | avs e cs => exact ⟨h.1, fun j y A => by obtain ⟨u, H, z⟩ := h.2 j y A; exact ⟨u, H, z.mono J N⟩⟩
theorem Oy {G : Gh} {w : World} {β : Bool} {t : TypeId} {p : PV} {c : Nat} {a : AV} (h : Lc P β t p c = some a) {cv : Nat → Value} (K : ∀ j y, p.cells[j]? = some y → PR w (G.prot β) y (cv j)) :
  ∀ (j : Nat) (y : AV), a.cells[j]? = some y → VR G w y (cv (c + j)) ∧ ∃ q, p.cells[c + j]? = some q := by
 unfold Lc at h
 split at h
 ·rw [bind_some] at h; obtain ⟨ls, O, h⟩ := h
  rw [bind_some] at h; obtain ⟨n, hn, h⟩ := h
  rw [aB] at h; obtain ⟨V, h⟩ := h
  rw [bind_some] at h; obtain ⟨as, H, h⟩ := h
  obtain rfl := yb h
  obtain ⟨hl, hf⟩ := lZ (G := G) (w := w) H
  obtain ⟨U, N⟩ := hf (fun j => cv (c + j)) (fun j y z _ => K _ y z)
  intro j y z
  have z : as[j]? = some y := z
  exact ⟨N j y z, U j (by rw [← hl]; exact (yh.1 z).1)⟩
 ·rw [bind_some] at h; obtain ⟨l, hl, h⟩ := h
  rw [bind_some] at h; obtain ⟨q, J, h⟩ := h
  have M := o7 (G := G) (w := w) h (K c q J)
  intro j y z
  have A : a.cells = [a] := by
   unfold jT at h
   split at h <;> (rw [bind_some] at h; obtain ⟨x, _, h⟩ := h; obtain rfl := yb h; rfl)
  rw [A] at z
  cases j with
  | zero => simp at z; subst z; exact ⟨M, q, J⟩
  | succ j => simp at z
 ·simp at h
theorem BP {G : Gh} {w : World} {β : Bool} {t : TypeId} {e : Nat} : ∀ {xs : List PV} {cs : List AV} {vs : List Value}, E2 P t β e xs = some cs → vs.length = xs.length * e →
  (∀ (i : Nat) (x : PV) (c : Nat) (y : PV), xs[i]? = some x → x.cells[c]? = some y → ∃ u, vs[i * e + c]? = some u ∧ PR w (G.prot β) y u) → jH G w cs vs
 | [], cs, vs, h, hl, _ => by
  simp [E2] at h; subst h
  simp at hl; subst hl
  exact ⟨rfl, fun j y z => by simp at z⟩
 | p :: r, cs, vs, h, hl, U => by
  simp only [E2] at h
  rw [bind_some] at h; obtain ⟨v, V, h⟩ := h
  rw [aB] at h; obtain ⟨N, h⟩ := h
  have N := cX.1 N
  obtain ⟨Y, J, rfl⟩ := yf.1 h
  have A : vs.length = e + r.length * e := by rw [hl]; simp [yt1, Nat.add_comm]
  have O := BP (G := G) (w := w) (vs := vs.drop e) J (by simp [A]) (fun i x c y hx z => by
   obtain ⟨u, H, K⟩ := U (i + 1) x c y (by simpa using hx) z
   refine ⟨u, ?_, K⟩
   rw [yd1, show e + (i * e + c) = (i + 1) * e + c by rw [yt1]; omega]; exact H)
  have M := Oy (P := P) (G := G) (w := w) V (cv := fun j => vs.getD j undef) (fun j y z => by
   obtain ⟨u, H, K⟩ := U 0 p j y rfl z
   simp only [Nat.zero_mul, yj1] at H
   rw [yl, H]; exact K)
  refine ⟨by rw [yi, N, O.1]; simp; omega, fun j y z => ?_⟩
  by_cases W : j < v.cells.length
  ·rw [yq W] at z
   simpa using (M j y z).1
  ·rw [yt (by omega)] at z
   have := O.2 _ y z
   rw [yl, yd1] at this
   rw [yl, show j = e + (j - v.cells.length) by omega]
   exact this
theorem Fz : ∀ {cs : List AV}, kM cs = true → ∀ v ∈ cs, JL v = true
 | v :: r, h, u, z => by
  simp only [kM, yc] at h
  cases z with
  | head => exact h.1
  | tail _ z => exact Fz h.2 u z
theorem NG {G : Gh} {w : World} {a : AV} {v : Value} (h : VR G w a v) (h1 : JL a = true) : v.oneCell' = true := by
 cases h with
 | lit v hv => exact h1
 | imm β p v A z => cases A <;> first | rfl | simp [PV.isSl] at z
 | dead v h h' => exact h
 | agg => simp [JL] at h1
 | tup => simp [JL] at h1
 | _ => rfl
theorem jH.ones {G : Gh} {w : World} {cs : List AV} {vs : List Value} (h : jH G w cs vs) (h1 : kM cs = true) : ∀ u ∈ vs, u.oneCell' = true := by
 intro u H
 obtain ⟨j, A, rfl⟩ := yp1 H
 have z : j < cs.length := by rw [h.1]; exact A
 have := h.2 j cs[j] (yd z)
 rw [yl, yd A] at this
 exact NG this (Fz h1 _ (yu2 _))
theorem BU {G : Gh} {w : World} {t : TypeId} {v : aN} {cs : List AV} {vs : List Value} (h : v.toAvs P t = some cs) (z : bL G w v vs) : jH G w cs vs := by
 obtain ⟨hl, h1, z⟩ := z
 cases v with
 | ints k xs =>
  obtain rfl := yb h
  simp only [aN.len, aN.e, yi3] at hl
  refine ⟨by simp [hl], fun j y A => ?_⟩
  obtain ⟨x, hx, rfl⟩ : ∃ x, xs[j]? = some x ∧ AV.lit (.int k x) = y := by simpa using A
  rw [yl, z j x hx]; exact .lit _ rfl
 | pvs β e xs => exact BP h hl z.2
 | avs e J =>
  obtain rfl := yb h
  simp only [aN.len, aN.e] at hl
  refine ⟨by rw [hl, yq2]; exact z.1, fun j y A => ?_⟩
  obtain ⟨u, K, H⟩ := z.2 j y A
  rw [yl, K]; exact H
theorem jH.append {G : Gh} {w : World} {a b : List AV} {u v : List Value} (h : jH G w a u) (A : jH G w b v) : jH G w (a ++ b) (u ++ v) := by
 refine ⟨by simp [h.1, A.1], fun j y z => ?_⟩
 by_cases H : j < a.length
 ·rw [yq H] at z
  rw [yl, yq (by rw [← h.1]; exact H), ← yl]; exact h.2 j y z
 ·rw [yt (by omega)] at z
  rw [yl, yt (by rw [← h.1]; omega), ← yl, ← h.1]; exact A.2 _ y z
theorem PR.weak {w : World} {G : Gh} (z : ∀ B o, G.prot false B o → G.prot true B o) {β β' : Bool} {p : PV} {v : Value} (h : PR w (G.prot β) p v) : PR w (G.prot (β || β')) p v := by
 cases β <;> cases β' <;> first | exact h | exact h.mono (fun _ _ x => z _ _ x) (fun _ _ _ => rfl)
theorem PR.weak' {w : World} {G : Gh} (z : ∀ B o, G.prot false B o → G.prot true B o) {β β' : Bool} {p : PV} {v : Value} (h : PR w (G.prot β) p v) : PR w (G.prot (β' || β)) p v := by
 rw [Bool.or_comm]; exact h.weak z
theorem Ga {G : Gh} {w : World} (N : ∀ B o, G.prot false B o → G.prot true B o) {t : TypeId} {x y z : aN} {vs us : List Value} (h : x.app P t y = some z) (hx : bL G w x vs) (U : bL G w y us) :
  bL G w z (vs ++ us) ∧ z.e = x.e ∧ z.e = y.e ∧ z.len = x.len + y.len := by
 unfold aN.app at h
 split at h
 ·rename_i k xs k' ys
  rw [aB] at h; obtain ⟨hk, h⟩ := h
  rw [jX] at hk; subst hk
  obtain rfl := yb h
  obtain ⟨H, o1, V⟩ := hx; obtain ⟨O, Y, y2⟩ := U
  simp only [aN.len, aN.e, yi3] at H O
  refine ⟨⟨by simp [aN.len, aN.e, H, O], fun u J => (yb2.1 J).elim (o1 u) (Y u), fun i x hx => ?_⟩, rfl, rfl, by simp [aN.len]⟩
  by_cases hi : i < xs.length
  ·rw [yq hi] at hx; rw [yq (by omega)]; exact V i x hx
  ·rw [yt (by omega)] at hx; rw [yt (by omega), H]; exact y2 _ x hx
 ·rename_i β e xs β' e' ys
  rw [aB] at h; obtain ⟨he, h⟩ := h
  obtain rfl := cX.1 he
  obtain rfl := yb h
  obtain ⟨H, o1, V⟩ := hx; obtain ⟨O, Y, y2⟩ := U
  simp only [aN.len, aN.e] at H O
  refine ⟨⟨by simp [aN.len, aN.e, H, O, yt1], fun u J => (yb2.1 J).elim (o1 u) (Y u), fun x hx => (yb2.1 hx).elim (V.1 x) (y2.1 x), fun i x c y hx U => ?_⟩, rfl, rfl, by simp [aN.len]⟩
  by_cases hi : i < xs.length
  ·rw [yq hi] at hx
   obtain ⟨u, J, Z⟩ := V.2 i x c y hx U
   exact ⟨u, by rw [yq (yh.1 J).1]; exact J, Z.weak N⟩
  ·rw [yt (by omega)] at hx
   obtain ⟨u, J, Z⟩ := y2.2 _ x c y hx U
   refine ⟨u, ?_, Z.weak' N⟩
   have e1 : i * e = xs.length * e + (i - xs.length) * e := by rw [← yt1]; congr 1; omega
   rw [yt (by rw [H, e1]; omega), H, show i * e + c - xs.length * e = (i - xs.length) * e + c by omega]; exact J
 ·rename_i e xs
  rw [bind_some] at h; obtain ⟨ys, hys, h⟩ := h
  rw [aB] at h; obtain ⟨hc, h⟩ := h
  obtain rfl := yb h
  simp only [yc] at hc
  obtain ⟨⟨hones, he⟩, W⟩ := hc
  obtain rfl := cX.1 he
  have W := eT.1 W
  have hL := BU hys U
  obtain ⟨H, o1, V⟩ := hx; obtain ⟨O, Y, y2⟩ := U
  replace H : vs.length = bD y.e xs.length * y.e := H
  have hcx : xs.length = bD y.e xs.length * y.e := by rw [yq2]; exact V.1
  have hcy : ys.length = y.len * y.e := by rw [hL.1]; exact O
  have M : (xs ++ ys).length = (bD y.e xs.length + y.len) * y.e := by rw [yi, hcy, yt1]; omega
  have A : bD y.e (xs ++ ys).length = bD y.e xs.length + y.len := by rw [M]; exact fZ (n := 0) W _
  have hxv : jH G w xs vs := ⟨by rw [H]; exact hcx, fun j z hz => by obtain ⟨u, J, Z⟩ := V.2 j z hz; rw [yl, J]; exact Z⟩
  have K := hxv.append hL
  refine ⟨⟨?_, fun u J => (yb2.1 J).elim (o1 u) (Y u), ?_, fun j z hz => ?_⟩, rfl, rfl, ?_⟩
  ·show (vs ++ us).length = bD y.e (xs ++ ys).length * y.e
   rw [A, ← M, K.1]
  ·rw [A, yq2]; exact M
  ·have hj : j < (vs ++ us).length := by rw [← K.1]; exact (yh.1 hz).1
   have := K.2 j z hz
   rw [yl, yd hj] at this
   exact ⟨_, yd hj, this⟩
  ·exact A
 ·simp at h
end
end Go.Ab
end
section
namespace Go.Ab
variable [cD]
section
variable {P : Program}
theorem Ge {e i c n : Nat} (hc : c < e) (h : i < n) : i * e + c < n * e := by
 calc i * e + c < i * e + e := by omega
  _ = (i + 1) * e := by rw [yt1]; simp
  _ ≤ n * e := ya2 _ h
theorem Mr {e i c : Nat} (h : c < e) : (i * e + c) / e = i ∧ (i * e + c) % e = c := by
 constructor
 ·rw [yq2, Nat.mul_add_div (by omega), Nat.div_eq_of_lt h]; simp
 ·rw [yq2, Nat.mul_add_mod, Nat.mod_eq_of_lt h]
theorem IY {P : Program} (w : World) {size : Nat} {h H : TypeId} (z : P.underlying h = some (.slice H)) (a : Option Addr) : Src P size h (.slice a 0 0) 0 [] w := by
 cases a with
 | none => exact Src.ofNil w z 0
 | some a => exact Src.ofSlice w z a 0 0 [] (by simp) (fun j u A => by simp at A) (by simp)
theorem PR.view {w : World} {G : Gh} {β : Bool} {e : Nat} {xs : List PV} {cv : Value} (h : PR w (G.prot β) (.sl e xs) cv) :
  (xs = [] ∧ ∃ a, cv = .slice a 0 0) ∨ ∃ B o cap vs, cv = .slice (some ⟨B, o, none⟩) xs.length cap ∧ 1 ≤ e ∧ xs.length ≤ cap ∧ bL G w (.pvs β e xs) vs ∧ ∀ j u, vs[j]? = some u → cl w B (o + j) = some u ∧ G.prot β B (o + j) := by
 cases h with
 | slNil _ a => exact .inl ⟨rfl, a, rfl⟩
 | sl _ _ B o cap cv Y K z h h1 V =>
  have J : ∀ j, j < xs.length * e → ∃ x y, xs[j / e]? = some x ∧ x.cells[j % e]? = some y := by
   intro j A
   have O : j / e < xs.length := by rw [Nat.div_lt_iff_lt_mul (by omega)]; exact A
   have N : j % e < (xs[j / e]).cells.length := by rw [z _ (yu2 _)]; exact Nat.mod_lt _ (by omega)
   exact ⟨_, _, yd O, yd N⟩
  refine .inr ⟨B, o, cap, (List.range (xs.length * e)).map (fun j => cv (j / e) (j % e)), rfl, Y, K, ⟨by simp [aN.len, aN.e], ?_, z, ?_⟩, ?_⟩
  ·intro u M
   obtain ⟨j, A, rfl⟩ := yc3.1 M
   obtain ⟨x, y, hx, H⟩ := J j (by simpa using A)
   exact h1 _ x _ y hx H
  ·intro i x c y hx H
   have O := (yh.1 hx).1
   have N := (yh.1 H).1
   rw [z x (yj hx)] at N
   obtain ⟨W, U⟩ := Mr (i := i) N
   exact ⟨cv i c, by simp [Ge N O, W, U], V i x c y hx H⟩
  ·intro j u M
   have A : j < xs.length * e := by have := (yh.1 M).1; simpa using this
   simp [A] at M; subst M
   obtain ⟨x, y, hx, H⟩ := J j A
   have := h _ x _ y hx H
   rw [show o + j / e * e + j % e = o + j by rw [yf3, yq2, Nat.div_add_mod]] at this
   exact this
theorem sO {G : Gh} {w : World} {r : cI} {o n : Nat} {v : aN} {vs : List Value} (Y : 1 ≤ r.e) (h : r.sub o n = some v) (K : bL G w r.all vs) :
  bL G w v ((vs.drop (o * r.e)).take (n * r.e)) ∧ v.e = r.e ∧ v.len = n ∧ o + n ≤ r.len := by
 obtain ⟨hl, h1, K⟩ := K
 have J : ∀ u ∈ (vs.drop (o * r.e)).take (n * r.e), u.oneCell' = true := fun u U => h1 u (List.mem_of_mem_drop (List.mem_of_mem_take U))
 cases r with
 | ints k xs =>
  simp only [cI.sub] at h
  rw [aB] at h; obtain ⟨z, h⟩ := h
  have z := eT.1 z
  obtain rfl := yb h
  simp only [cI.all, aN.len, aN.e, yi3] at hl
  refine ⟨⟨by simp [aN.len, aN.e, cI.e, hl], J, fun i x hx => ?_⟩, rfl, by simp [aN.len]; omega, z⟩
  have N : i < n := by have := (yh.1 hx).1; simp at this; omega
  rw [yi1 N, yd1] at hx
  simp only [cI.e, yi3]
  rw [yi1 N, yd1]
  exact K _ _ hx
 | pvs β e xs =>
  simp only [cI.sub] at h
  rw [aB] at h; obtain ⟨z, h⟩ := h
  have z := eT.1 z
  obtain rfl := yb h
  simp only [cI.all, aN.len, aN.e] at hl
  simp only [cI.e] at Y
  have H : ((xs.drop o).take n).length = n := by simp; omega
  refine ⟨⟨?_, J, fun x hx => K.1 x (List.mem_of_mem_drop (List.mem_of_mem_take hx)), fun i x c y hx M => ?_⟩, rfl, H, z⟩
  ·simp only [aN.len, aN.e, H, cI.e, yl2, List.length_drop, hl]
   rw [← Nat.mul_sub_right_distrib]
   exact Nat.min_eq_left (ya2 _ (by omega))
  ·have N : i < n := by have := (yh.1 hx).1; omega
   rw [yi1 N, yd1] at hx
   obtain ⟨u, U, V⟩ := K.2 _ x c y hx M
   have hc := (yh.1 M).1
   rw [K.1 x (yj hx)] at hc
   refine ⟨u, ?_, V⟩
   simp only [cI.e]
   rw [yi1 (Ge hc N), yd1, show o * e + (i * e + c) = (o + i) * e + c by rw [yt1]; omega]
   exact U
 | cells e cs =>
  simp only [cI.sub] at h
  rw [aB] at h; obtain ⟨z, h⟩ := h
  have z := eT.1 z
  obtain rfl := yb h
  simp only [cI.e] at Y
  have O : cs.length = bD e cs.length * e := by rw [yq2]; exact K.1
  replace hl : vs.length = bD e cs.length * e := hl
  have W : o + n ≤ bD e cs.length := by
   rw [O] at z
   exact Nat.le_of_mul_le_mul_right z (by omega)
  have H : ((cs.drop (o * e)).take (n * e)).length = n * e := by
   simp only [yl2, List.length_drop]; rw [yt1] at z; omega
  have A : bD e ((cs.drop (o * e)).take (n * e)).length = n := by rw [H]; exact fZ (n := 0) Y n
  refine ⟨⟨?_, J, ?_, fun j y M => ?_⟩, rfl, A, W⟩
  ·show _ = bD e ((cs.drop (o * e)).take (n * e)).length * e
   rw [A]
   simp only [cI.e, yl2, List.length_drop, hl]
   rw [← O]; rw [yt1] at z; omega
  ·rw [A, H, yq2]
  ·have Z : j < n * e := by have := (yh.1 M).1; omega
   rw [yi1 Z, yd1] at M
   obtain ⟨u, U, V⟩ := K.2 _ y M
   refine ⟨u, ?_, V⟩
   simp only [cI.e]
   rw [yi1 Z, yd1]; exact U
theorem Dw (G : Gh) (w : World) (s : ByteArray) : bL G w (.ints .u8 (cE s)) (byteCells s) := by
 refine ⟨by simp [aN.len, aN.e, cE, byteCells], fun u z => ?_, fun i x hx => ?_⟩
 ·obtain ⟨b, _, rfl⟩ := yc3.1 z; rfl
 ·unfold cE at hx
  unfold byteCells
  rw [yh1] at hx ⊢
  obtain ⟨b, h, rfl⟩ := yf.1 hx
  rw [h]; rfl
theorem bL.unmark {G : Gh} {w : World} {β β' : Bool} {e : Nat} {xs : List PV} {vs : List Value} (hf : xs.all AC = true) (h : bL G w (.pvs β e xs) vs) : bL G w (.pvs β' e xs) vs := by
 refine ⟨h.1, h.2.1, h.2.2.1, fun i x c y hx z => ?_⟩
 obtain ⟨u, H, A⟩ := h.2.2.2 i x c y hx z
 refine ⟨u, H, ?_⟩
 have h1 := yx.1 hf x (yj hx)
 have h2 := yx.1 h1 y (yj z)
 cases y with
 | lit v =>
  cases A with
  | lit _ h => exact .lit _ h
 | ints _ _ => cases h2
 | sl _ _ => cases h2
 | agg _ => cases h2
theorem bL.unmarkIf {G : Gh} {w : World} {c β : Bool} {e : Nat} {xs : List PV} {vs : List Value} (h : bL G w (.pvs β e xs) vs) : bL G w (.pvs (bif c && xs.all AC then false else β) e xs) vs := by
 cases z : (c && xs.all AC) with
 | false => exact h
 | true => exact h.unmark (yc _ _ ▸ z).2
theorem CE {G : Gh} {w : World} {mem : a9} {et tx : TypeId} {y : AV} {v : aN × List Nat} {cv : Value} (hM : aT G w mem) (h : view P et mem y = some v) (hy : VR G w y cv) (hs : k6 P et = some v.1.e) (J : yQ P tx y = true) :
  ∃ Y, Src P v.1.e tx cv v.1.len Y w ∧ bL G w v.1 Y := by
 have A : (∀ s, y ≠ .lit (.string s)) → ∃ e', P.underlying tx = some (.slice e') := by
  intro hne
  unfold yQ at J
  split at J
  ·rename_i s _; exact absurd rfl (hne s)
  ·simp at J
  ·exact ⟨_, by assumption⟩
  ·simp at J
 unfold view at h
 split at h
 ·rename_i β k xs
  obtain rfl := yb h
  obtain ⟨e', K⟩ := A (by simp)
  cases hy with
  | imm _ _ _ hp =>
   cases hp with
   | intsNil _ a => exact ⟨[], IY w K a, by simp [aN.len, aN.e], by simp, fun i x hx => by simp at hx⟩
   | ints _ _ B o cap hcap hh =>
    refine ⟨xs.map (.int k), Src.ofSlice w K ⟨B, o, none⟩ _ cap _ (by simp [aN.len, aN.e]) (fun j u N => ?_) (by simp [Value.oneCell']), by simp [aN.len, aN.e], by simp [Value.oneCell'], fun i x hx => by simp [hx]⟩
    obtain ⟨x, hx, rfl⟩ : ∃ x, xs[j]? = some x ∧ Value.int k x = u := by simpa using N
    rw [dJ]; exact (hh j x hx).1
 ·rename_i β e xs
  obtain rfl := yb h
  obtain ⟨e', K⟩ := A (by simp)
  cases hy with
  | imm _ _ _ hp =>
   rcases hp.view with ⟨rfl, a, rfl⟩ | ⟨B, o, cap, vs, rfl, he, hcap, Z, hc⟩
   ·exact ⟨[], IY w K a, by simp [aN.len, aN.e], by simp, fun x hx => by simp at hx, fun i x c y hx => by simp at hx⟩
   ·exact ⟨vs, Src.ofSlice w K ⟨B, o, none⟩ _ cap vs Z.1 (fun j u N => by rw [dJ]; exact (hc j u N).1) Z.2.1, Z.unmarkIf⟩
 ·rename_i b g o n
  rw [bind_some] at h; obtain ⟨M, V, h⟩ := h
  obtain ⟨vw, z, rfl⟩ := yf.1 h
  obtain ⟨e', K⟩ := A (by simp)
  have he := (hM.box b M (box?_some V).1).e
  rcases hM.at_ms V hy with ⟨B, cap, rfl, hn, hon, hl, hf, _, _, _, W, _⟩ | ⟨rfl, rfl, rfl, hz, hl⟩ | ⟨B, oo, rfl, ho, rfl, hon, hl⟩
  ·obtain ⟨vs, O, hcl⟩ := W.toList he
   obtain ⟨Z, hve, hvl, _⟩ := sO he z O
   refine ⟨_, ?_, Z⟩
   simp only at hs ⊢
   rw [hve, hvl]
   refine Src.ofSlice w K ⟨B, o * M.row.e, none⟩ n cap _ (by rw [Z.1, hve, hvl]) (fun j u N => ?_) Z.2.1
   rw [dJ]
   have hj : j < n * M.row.e := by
    have := (yh.1 N).1
    rw [Z.1, hve, hvl] at this; exact this
   rw [yi1 hj, yd1] at N
   have := hcl _ (yh.1 N).1
   rw [N] at this; exact this
  ·have U : vw.len = 0 ∧ vw.e = M.row.e := by
    obtain ⟨gen, frz, row⟩ := M
    cases row <;> simp only [cI.sub] at z <;> rw [aB] at z <;> obtain ⟨_, z⟩ := z <;> obtain rfl := yb z <;> simp [aN.len, aN.e, cI.e, bD]
   have H : bL G w vw [] := by
    refine ⟨by simp [U.1], by simp, ?_⟩
    obtain ⟨gen, frz, row⟩ := M
    cases row <;> simp only [cI.sub] at z <;> rw [aB] at z <;> obtain ⟨_, z⟩ := z <;> obtain rfl := yb z <;> simp [bD]
   refine ⟨[], ?_, H⟩
   simp only; rw [U.1]
   exact Src.ofNil w K 0
  ·have U : vw.len = 0 ∧ vw.e = M.row.e := by
    obtain ⟨gen, frz, row⟩ := M
    cases row <;> simp only [cI.sub] at z <;> rw [aB] at z <;> obtain ⟨_, z⟩ := z <;> obtain rfl := yb z <;> simp [aN.len, aN.e, cI.e, bD]
   have H : bL G w vw [] := by
    refine ⟨by simp [U.1], by simp, ?_⟩
    obtain ⟨gen, frz, row⟩ := M
    cases row <;> simp only [cI.sub] at z <;> rw [aB] at z <;> obtain ⟨_, z⟩ := z <;> obtain rfl := yb z <;> simp [bD]
   refine ⟨[], ?_, H⟩
   simp only; rw [U.1]
   exact Src.ofSlice w K ⟨B, oo, none⟩ 0 0 [] (by simp) (fun j u N => by simp at N) (by simp)
 ·rename_i b g
  rw [bind_some] at h; obtain ⟨M, V, h⟩ := h
  obtain rfl := yb h
  obtain ⟨e', K⟩ := A (by simp)
  have he := (hM.box b M (box?_some V).1).e
  rcases hM.at_msw V hy with ⟨B, cap, rfl, hn, hl, hf, _, _, _, W, _⟩ | ⟨rfl, hz, hnc, hl⟩
  ·obtain ⟨vs, O, hcl⟩ := W.toList he
   refine ⟨vs, ?_, O⟩
   simp only [oE, dE]
   refine Src.ofSlice w K ⟨B, 0, none⟩ _ cap vs (by rw [O.1, oE, dE]) (fun j u N => ?_) O.2.1
   rw [dJ, yj1]
   have := hcl _ (yh.1 N).1
   rw [N] at this; exact this
  ·have H : bL G w M.row.all [] := by
    refine ⟨by rw [dE, hz]; simp, by simp, ?_⟩
    obtain ⟨gen, frz, row⟩ := M
    cases row with
    | ints k xs => simp only [cI.len] at hz; have := yp hz; subst this; simp [cI.all]
    | pvs β e xs => simp only [cI.len] at hz; have := yp hz; subst this; simp [cI.all]
    | cells e cs => simp [cI.isCells] at hnc
   refine ⟨[], ?_, H⟩
   simp only [dE, hz]
   exact Src.ofNil w K 0
 ·rename_i s
  obtain rfl := yb h
  obtain rfl := hy.lit_inv
  have K : P.underlying tx = some .string := by
   unfold yQ at J; split at J <;> simp_all
  refine ⟨byteCells s, ?_, Dw G w s⟩
  have := Src.ofString (P := P) w K s
  simpa [aN.len, aN.e, cE] using this
 ·obtain ⟨e', K⟩ := A (by simp)
  obtain rfl := hy.lit_inv
  split at h
  ·obtain rfl := yb h
   exact ⟨[], Src.ofNil w K 0, by simp [aN.len, aN.e], by simp, fun i x hx => by simp at hx⟩
  ·obtain ⟨e, he, rfl⟩ := yf.1 h
   exact ⟨[], Src.ofNil w K 0, by simp [aN.len, aN.e], by simp, fun x hx => by simp at hx, fun i x c y hx => by simp at hx⟩
 ·simp at h
end
end Go.Ab
end
