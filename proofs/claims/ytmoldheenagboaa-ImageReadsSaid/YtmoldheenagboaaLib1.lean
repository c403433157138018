/- The evaluator. -/
import Derived.Orders
import Derived.Laws.Sem
import Derived.WalkKit
import Derived.Deep.AppendSrc
set_option linter.unusedVariables false
set_option linter.unusedSectionVars false
set_option linter.unusedSimpArgs false
section
namespace Go.Ab
theorem ya : type_of% @Option.some.inj := @Option.some.inj
theorem yb : type_of% @Option.bind_some := @Option.bind_some
theorem yc : type_of% @Bool.and_eq_true := @Bool.and_eq_true
theorem yd : type_of% @Option.map_eq_some_iff := @Option.map_eq_some_iff
theorem ye : type_of% @List.getElem?_eq_getElem := @List.getElem?_eq_getElem
theorem yf : type_of% @List.getElem?_eq_some_iff := @List.getElem?_eq_some_iff
theorem yg : type_of% @cond_true := @cond_true
theorem yh : type_of% @cond_false := @cond_false
theorem yi : type_of% @List.mem_cons_of_mem := @List.mem_cons_of_mem
theorem yj : type_of% @List.length_append := @List.length_append
theorem yk : type_of% @Array.getD_eq_getD_getElem? := @Array.getD_eq_getD_getElem?
theorem yl : type_of% @List.getD_eq_getElem?_getD := @List.getD_eq_getElem?_getD
theorem ym : type_of% @List.mem_cons_self := @List.mem_cons_self
theorem yn : type_of% @Option.map_some := @Option.map_some
theorem yo : type_of% @List.getElem?_append_left := @List.getElem?_append_left
theorem yp : type_of% @List.eq_nil_of_length_eq_zero := @List.eq_nil_of_length_eq_zero
theorem yq : type_of% @List.getElem?_append_right := @List.getElem?_append_right
theorem yt : type_of% @List.mem_of_getElem? := @List.mem_of_getElem?
theorem yu : type_of% @Nat.le_refl := @Nat.le_refl
theorem yw : type_of% @List.length_cons := @List.length_cons
theorem yx : type_of% @List.cons.inj := @List.cons.inj
theorem yy : type_of% @List.getElem?_eq_none := @List.getElem?_eq_none
theorem yz : type_of% @Bool.not_eq_true' := @Bool.not_eq_true'
theorem ya1 : type_of% @List.getElem?_drop := @List.getElem?_drop
theorem yb1 : type_of% @List.mem_singleton := @List.mem_singleton
theorem yc1 : type_of% @List.getElem?_map := @List.getElem?_map
theorem yd1 : type_of% @List.getElem?_set_ne := @List.getElem?_set_ne
theorem ye1 : type_of% @List.getElem?_set_self := @List.getElem?_set_self
theorem yf1 : type_of% @List.mem_cons := @List.mem_cons
theorem yg1 : type_of% @List.getElem?_take_of_lt := @List.getElem?_take_of_lt
theorem yh1 : type_of% @Nat.zero_add := @Nat.zero_add
theorem yi1 : type_of% @Array.getElem?_eq_getElem := @Array.getElem?_eq_getElem
theorem yj1 : type_of% @List.mem_append := @List.mem_append
theorem yk1 : type_of% @List.mem_append_left := @List.mem_append_left
theorem yl1 : type_of% @List.mem_append_right := @List.mem_append_right
theorem ym1 : type_of% @Array.getElem?_toList := @Array.getElem?_toList
theorem yn1 : type_of% @Nat.add_mul := @Nat.add_mul
theorem yo1 : type_of% @Nat.mul_le_mul_right := @Nat.mul_le_mul_right
theorem yp1 : type_of% @List.append_nil := @List.append_nil
theorem yq1 : type_of% @List.length_nil := @List.length_nil
theorem yr1 : type_of% @Nat.lt_of_lt_of_le := @Nat.lt_of_lt_of_le
theorem ys1 : type_of% @List.getElem?_cons_succ := @List.getElem?_cons_succ
theorem yt1 : type_of% @Nat.le_trans := @Nat.le_trans
theorem yu1 : type_of% @Nat.lt_or_ge := @Nat.lt_or_ge
theorem yv1 : type_of% @Array.length_toList := @Array.length_toList
theorem yw1 : type_of% @List.getElem_of_mem := @List.getElem_of_mem
theorem yx1 : type_of% @Bool.or_eq_true := @Bool.or_eq_true
theorem yy1 : type_of% @Bool.false_eq_true := @Bool.false_eq_true
theorem yz1 : type_of% @Option.bind_eq_some_iff := @Option.bind_eq_some_iff
theorem ya2 : type_of% @List.length_map := @List.length_map
theorem yb2 : type_of% @List.length_eq_one_iff := @List.length_eq_one_iff
theorem yc2 : type_of% @List.map_cons := @List.map_cons
theorem yd2 : type_of% @List.getElem?_replicate := @List.getElem?_replicate
theorem ye2 : type_of% @List.append_assoc := @List.append_assoc
theorem yf2 : type_of% @Nat.add_zero := @Nat.add_zero
theorem yg2 : type_of% @Nat.mul_comm := @Nat.mul_comm
theorem yh2 : type_of% @List.getElem?_take := @List.getElem?_take
theorem yi2 : type_of% @List.all_eq_true := @List.all_eq_true
theorem yj2 : type_of% @Int.eq_ofNat_of_zero_le := @Int.eq_ofNat_of_zero_le
theorem yk2 : type_of% @Array.getElem?_eq_some_iff := @Array.getElem?_eq_some_iff
theorem yl2 : type_of% @Array.getElem?_append_left := @Array.getElem?_append_left
theorem ym2 : type_of% @List.length_take := @List.length_take
theorem yn2 : type_of% @List.getElem?_cons_zero := @List.getElem?_cons_zero
theorem yo2 : type_of% @Array.toArray_toList := @Array.toArray_toList
theorem yp2 : type_of% @List.mem_flatMap := @List.mem_flatMap
theorem yq2 : type_of% @Int.toNat_natCast := @Int.toNat_natCast
theorem yr2 : type_of% @List.mem_or_eq_of_mem_set := @List.mem_or_eq_of_mem_set
theorem ys2 : type_of% @List.drop_eq_getElem_cons := @List.drop_eq_getElem_cons
theorem yt2 : type_of% @Array.getElem?_modify := @Array.getElem?_modify
theorem yu2 : type_of% @List.mem_map := @List.mem_map
theorem yv2 : type_of% @Nat.ble_eq_true_of_le := @Nat.ble_eq_true_of_le
theorem yw2 : type_of% @Array.getElem?_replicate := @Array.getElem?_replicate
theorem yx2 : type_of% @List.cons_append := @List.cons_append
theorem yy2 : type_of% @Nat.mul_one := @Nat.mul_one
theorem yz2 : type_of% @Int.tdiv_eq_ediv_of_nonneg := @Int.tdiv_eq_ediv_of_nonneg
theorem ya3 : type_of% @List.getElem_mem := @List.getElem_mem
theorem yb3 : type_of% @Nat.add_assoc := @Nat.add_assoc
theorem yc3 : type_of% @List.length_replicate := @List.length_replicate
theorem yd3 : type_of% @List.mem_replicate := @List.mem_replicate
theorem ye3 : type_of% @Nat.add_sub_cancel_left := @Nat.add_sub_cancel_left
theorem yf3 : type_of% @Nat.mod_eq_of_lt := @Nat.mod_eq_of_lt
theorem yg3 : type_of% @Array.getElem?_eq_none := @Array.getElem?_eq_none
theorem yh3 : type_of% @List.flatMap_cons := @List.flatMap_cons
theorem yi3 : type_of% @List.map_take := @List.map_take
theorem yj3 : type_of% @List.map_drop := @List.map_drop
theorem yk3 : type_of% @List.all_cons := @List.all_cons
theorem yl3 : type_of% @List.drop_zero := @List.drop_zero
theorem ym3 : type_of% @Nat.beq_refl := @Nat.beq_refl
theorem yn3 : type_of% @Bool.and_self := @Bool.and_self
class b8 where
 tab : Nat → Option (Int × Int)
noncomputable section
def iB {α : Type} (l : List α) : Nat → Option α := List.rec (fun _ => none) (fun a _ ih n => Nat.rec (some a) (fun m _ => ih m) n) l
def AD {α : Type} (v : α) (l : List α) : Nat → List α := List.rec (fun _ => []) (fun a r ih n => Nat.rec (v :: r) (fun m _ => a :: ih m) n) l
theorem bO {α : Type} : ∀ (l : List α) (n : Nat), iB l n = l[n]?
 | [], n => by simp [iB]
 | a :: r, 0 => rfl
 | a :: r, n + 1 => by rw [ys1, ← bO r n]; rfl
theorem dM {α : Type} (v : α) : ∀ (l : List α) (n : Nat), AD v l n = l.set n v
 | [], n => by simp [AD]
 | a :: r, 0 => rfl
 | a :: r, n + 1 => by rw [List.set_cons_succ, ← dM v r n]; rfl
inductive PV where
 | lit (v : Value)
 | ints (k : IntKind) (xs : List Int)
 | sl (e : Nat) (xs : List PV)
 | agg (cs : List PV)
 deriving Inhabited
inductive AV where
 | lit (v : Value)
 | imm (β : Bool) (p : PV)
 | ptr (b g i c : Nat)
 | ms (b g o n : Nat)
 | msw (b g : Nat)
 | el (β : Bool) (p : PV) (c : Nat)
 | fn (f : Fn) (first cap : List AV)
 | agg (cs : List AV)
 | tup (vs : List AV)
 deriving Inhabited
inductive Row where
 | ints (k : IntKind) (xs : List Int)
 | pvs (β : Bool) (e : Nat) (xs : List PV)
 | cells (e : Nat) (cs : List AV)
 deriving Inhabited
structure c7 where
 gen : Nat
 frz : Bool
 row : Row
 deriving Inhabited
abbrev aW := List (Option c7)
structure St where
 tmps : List AV
 mem : aW
structure dJ where
 live : List (Nat × List Nat) := []
 raw : List (Nat × Nat) := []
 boxed : List (Nat × Nat) := []
 vars : List (Nat × Nat) := []
 hint : List (Nat × Nat × Int) := []
def bR {α : Type} (n : Nat) : List (Nat × α) → Option α
 | [] => none
 | (m, x) :: r => bif Nat.beq m n then some x else bR n r
def cB (a b : Nat) : List (Nat × Nat) → Bool
 | [] => false
 | (m, x) :: r => (Nat.beq m a && Nat.beq x b) || cB a b r
def f7 (n : Nat) : List Nat → Bool
 | [] => false
 | m :: r => Nat.beq m n || f7 n r
def guardB {α : Type} (c : Bool) (x : Option α) : Option α := bif c then x else none
def c0 {α : Type} (xs : List α) (i : Int) : Option α := bif decide (0 ≤ i) then xs[i.toNat]? else none
def f6 (a b : IntKind) : Bool :=
 match a, b with
 | .i8, .i8 | .i16, .i16 | .i32, .i32 | .i64, .i64 | .u8, .u8 | .u16, .u16 | .u32, .u32 | .u64, .u64 => true
 | _, _ => false
def PV.int? (k : IntKind) : PV → Option Int
 | .lit (.int k' n) => bif f6 k k' then some n else none
 | _ => none
def PV.bool? : PV → Option Bool
 | .lit (.bool b) => some b
 | _ => none
def PV.str? : PV → Option ByteArray
 | .lit (.string s) => some s
 | _ => none
def PV.ints? (k : IntKind) : PV → Option (List Int)
 | .ints k' xs => bif f6 k k' then some xs else none
 | _ => none
def PV.sl? (e : Nat) : PV → Option (List PV)
 | .sl e' xs => bif Nat.beq e e' then some xs else none
 | _ => none
def PV.cells : PV → List PV
 | .agg cs => cs
 | p => [p]
inductive LK where
 | int (k : IntKind) | bool | str | ints (k : IntKind) | sl (t : TypeId) (e : Nat)
section
variable (P : Program)
def j0 (t : TypeId) : Option Nat := (P.info? t).map (·.size)
def kU (t : TypeId) : Option Nat := (P.info? t).map (·.bytes)
def intKind? (t : TypeId) : Option IntKind :=
 match P.underlying t with
 | some (.int k) => some k
 | _ => none
def elemOf? (t : TypeId) : Option TypeId :=
 match P.underlying t with
 | some (.slice e) => some e
 | _ => none
def isAgg? (t : TypeId) : Option Bool :=
 match P.underlying t with
 | some (.struct _) => some true
 | some (.array _ _) => some true
 | some _ => some false
 | none => none
def leaf? (t : TypeId) : Option LK :=
 match P.underlying t with
 | some (.int k) => some (.int k)
 | some .bool => some .bool
 | some .string => some .str
 | some (.slice e) =>
  match intKind? P e with
  | some k => some (.ints k)
  | none => (j0 P e).map (.sl e)
 | _ => none
def G6 (leaves : TypeId → Option (List LK)) : List Field → Option (List LK)
 | [] => some []
 | f :: r => (leaves f.type).bind fun a => (G6 leaves r).map (a ++ ·)
def leaves? : Nat → TypeId → Option (List LK)
 | 0, _ => none
 | n + 1, t =>
  match P.underlying t with
  | some (.struct fs) => G6 (leaves? n) fs.toList
  | _ => (leaf? P t).map fun l => [l]
def iX (β : Bool) (l : LK) (q : PV) : Option AV :=
 match l with
 | .int k => (q.int? k).bind fun x => some (.lit (.int k x))
 | .bool => q.bool?.bind fun x => some (.lit (.bool x))
 | .str => q.str?.bind fun x => some (.lit (.string x))
 | .ints k => (q.ints? k).bind fun x => some (.imm β (.ints k x))
 | .sl _ e => (q.sl? e).bind fun x => some (.imm β (.sl e x))
def e7 (β : Bool) (cs : List PV) : List LK → Nat → Option (List AV)
 | [], _ => some []
 | l :: r, c => (cs[c]?).bind fun q => (iX β l q).bind fun a => (e7 β cs r (c + 1)).bind fun as => some (a :: as)
def Ix (β : Bool) (t : TypeId) (p : PV) (c : Nat) : Option AV :=
 match isAgg? P t with
 | some true => (leaves? P 8 t).bind fun ls => (j0 P t).bind fun n => guardB (Nat.beq n ls.length) ((e7 β p.cells ls c).bind fun as => some (.agg as))
 | some false => (leaf? P t).bind fun l => (p.cells[c]?).bind fun q => iX β l q
 | none => none
def jT : Value → Bool
 | .agg _ => false
 | _ => true
def E0 : List Value → Option (List AV)
 | [] => some []
 | v :: r => guardB (jT v) ((E0 r).map (.lit v :: ·))
def rN : Value → Option AV
 | .agg cs => (E0 cs.toList).map .agg
 | v => some (.lit v)
def zero? (t : TypeId) : Option AV := ((P.info? t).bind (·.zero)).bind rN
def AV.dead : AV := .imm false (.agg [])
def AV.unkB : AV := .imm true (.lit (.bool false))
open Classical in
def amb {α : Type} (a b : Option α) : Option α := if a = b then a else none
def AV.goneV : AV := .imm true (.agg [])
def dV : AV → Bool
 | .imm true (.agg _) => true
 | _ => false
def AV.cells : AV → List AV
 | .agg cs => cs
 | v => [v]
inductive aM where
 | ints (k : IntKind) (xs : List Int)
 | pvs (β : Bool) (e : Nat) (xs : List PV)
 | avs (e : Nat) (cs : List AV)
def a6 (e : Nat) (n : Nat) : Nat := bif Nat.beq e 0 then 0 else bif Nat.beq e 1 then n else n / e
def aM.len : aM → Nat
 | .ints _ xs => xs.length
 | .pvs _ _ xs => xs.length
 | .avs e cs => a6 e cs.length
def aM.imm? : aM → Option AV
 | .ints k xs => some (.imm false (.ints k xs))
 | .pvs β e xs => some (.imm β (.sl e xs))
 | .avs _ _ => none
def aM.row : aM → Row
 | .ints k xs => .ints k xs
 | .pvs β e xs => .pvs β e xs
 | .avs e cs => .cells e cs
def d4 (k : IntKind) : List AV → Option (List Int)
 | [] => some []
 | .lit (.int k' x) :: r => bif f6 k k' then (d4 k r).map (x :: ·) else none
 | _ :: _ => none
def Row.len : Row → Nat
 | .ints _ xs => xs.length
 | .pvs _ _ xs => xs.length
 | .cells e cs => a6 e cs.length
def Row.e : Row → Nat
 | .ints _ _ => 1
 | .pvs _ e _ => e
 | .cells e _ => e
def aM.e : aM → Nat
 | .ints _ _ => 1
 | .pvs _ e _ => e
 | .avs e _ => e
def Row.all : Row → aM
 | .ints k xs => .ints k xs
 | .pvs β e xs => .pvs β e xs
 | .cells e cs => .avs e cs
def Row.sub (o n : Nat) : Row → Option aM
 | .ints k xs => guardB (Nat.ble (o + n) xs.length) (some (.ints k ((xs.drop o).take n)))
 | .pvs β e xs => guardB (Nat.ble (o + n) xs.length) (some (.pvs β e ((xs.drop o).take n)))
 | .cells e cs => guardB (Nat.ble ((o + n) * e) cs.length) (some (.avs e ((cs.drop (o * e)).take (n * e))))
def box? (mem : aW) (b g : Nat) : Option c7 :=
 match mem[b]? with
 | some (some x) => bif Nat.beq x.gen g then some x else none
 | _ => none
def fR (s : ByteArray) : List Int := s.data.toList.map fun b => (b.toNat : Int)
def c4 (xs : List Int) : ByteArray := ⟨(xs.map fun n => UInt8.ofNat n.toNat).toArray⟩
def Km : LK → Bool
 | .int _ => true
 | .bool => true
 | .str => true
 | _ => false
def Hq (et : TypeId) : Bool :=
 match leaves? P 8 et with
 | some ls => ls.all Km
 | none => false
def It : PV → Bool
 | .lit _ => true
 | _ => false
def yV (p : PV) : Bool := p.cells.all It
def view (et : TypeId) (mem : aW) : AV → Option (aM × List Nat)
 | .imm _ (.ints k xs) => some (.ints k xs, [])
 | .imm β (.sl e xs) => some (.pvs (bif Hq P et && xs.all yV then false else β) e xs, [])
 | .ms b g o n => (box? mem b g).bind fun x => (x.row.sub o n).map fun v => (v, [b])
 | .msw b g => (box? mem b g).bind fun x => some (x.row.all, [b])
 | .lit (.string s) => some (.ints .u8 (fR s), [])
 | .lit (.slice none 0 0) =>
  match intKind? P et with
  | some k => some (.ints k [], [])
  | none => (j0 P et).map fun e => (.pvs false e [], [])
 | _ => none
def lenOf (t : TypeId) (mem : aW) (x : AV) : Option (Nat × List Nat) :=
 match P.underlying t with
 | some .string =>
  match x with
  | .lit (.string s) => some (s.size, [])
  | _ => none
 | some (.slice _) =>
  match x with
  | .imm _ (.ints _ xs) => some (xs.length, [])
  | .imm _ (.sl _ xs) => some (xs.length, [])
  | .ms b g o n => some (n, [])
  | .msw b g => (box? mem b g).map fun x => (x.row.len, [b])
  | .lit (.slice none 0 0) => some (0, [])
  | _ => none
 | _ => none
def HL : AV → Bool
 | .lit v => v.oneCell'
 | .agg _ => false
 | .tup _ => false
 | _ => true
def jG : List AV → Bool
 | [] => true
 | v :: r => HL v && jG r
def gY {α : Type} (e : Nat) : Nat → List α → List (List α)
 | 0, _ => []
 | n + 1, cs => cs.take e :: gY e n (cs.drop e)
def BR (t : TypeId) (cs : List PV) : Option PV :=
 match isAgg? P t with
 | some true => some (.agg cs)
 | some false => (match cs with | [c] => some c | _ => none)
 | none => none
def eN {α β : Type} (f : α → Option (Bool × β × List Nat)) : List α → Option (Bool × List β × List Nat)
 | [] => some (false, [], [])
 | v :: r => (f v).bind fun a => (eN f r).bind fun q => some (a.1 || q.1, a.2.1 :: q.2.1, a.2.2 ++ q.2.2)
def cG {α β γ : Type} (f : γ → α → Option (Bool × β × List Nat)) : List γ → List α → Option (Bool × List β × List Nat)
 | [], [] => some (false, [], [])
 | l :: ls, v :: r => (f l v).bind fun a => (cG f ls r).bind fun q => some (a.1 || q.1, a.2.1 :: q.2.1, a.2.2 ++ q.2.2)
 | _, _ => none
def bD (mem : aW) : Nat → LK → AV → Option (Bool × PV × List Nat)
 | 0, _, _ => none
 | n + 1, l, v =>
  match l, v with
  | .int k, .lit (.int k' x) => guardB (f6 k k') (some (false, .lit (.int k' x), []))
  | .bool, .lit (.bool b) => some (false, .lit (.bool b), [])
  | .str, .lit (.string s) => some (false, .lit (.string s), [])
  | .ints k, .imm β (.ints k' xs) => guardB (f6 k k') (some (β, .ints k' xs, []))
  | .ints k, .lit (.slice none 0 0) => some (false, .ints k [], [])
  | .ints k, .msw b g => (box? mem b g).bind fun x => treeInts k b x.row.all
  | .ints k, .ms b g o m => (box? mem b g).bind fun x => (x.row.sub o m).bind fun w => treeInts k b w
  | .sl _ e, .imm β (.sl e' xs) => guardB (Nat.beq e e') (some (β, .sl e' xs, []))
  | .sl _ e, .lit (.slice none 0 0) => some (false, .sl e [], [])
  | .sl t e, .msw b g => (box? mem b g).bind fun x => treeSl (bD mem n) t e b x.row.all
  | .sl t e, .ms b g o m => (box? mem b g).bind fun x => (x.row.sub o m).bind fun w => treeSl (bD mem n) t e b w
  | _, _ => none
 where
 treeInts (k : IntKind) (b : Nat) (w : aM) : Option (Bool × PV × List Nat) :=
  match w with
  | .ints k' xs => guardB (f6 k k') (some (false, .ints k' xs, [b]))
  | .avs e cs => guardB (Nat.beq e 1) ((d4 k cs).map fun xs => (false, .ints k xs, [b]))
  | _ => none
 treeSl (f : LK → AV → Option (Bool × PV × List Nat)) (t : TypeId) (e b : Nat) (w : aM) : Option (Bool × PV × List Nat) :=
  match w with
  | .pvs β e' xs => guardB (Nat.beq e e') (some (β, .sl e' xs, [b]))
  | .avs e' cs => guardB (Nat.beq e e' && Nat.ble 1 e) ((leaves? P 8 t).bind fun ls =>
    (eN (fun vs => (cG f ls vs).bind fun q => (BR P t q.2.1).map fun p => (q.1, p, q.2.2)) (gY e (a6 e cs.length) cs)).map fun q => (q.1, .sl e q.2.1, b :: q.2.2))
  | _ => none
def gU : Nat := 6
def oZ (mem : aW) (t : TypeId) (v : AV) : Option (Bool × PV × List Nat) :=
 (leaves? P 8 t).bind fun ls => (cG (bD P mem gU) ls v.cells).bind fun r => (BR P t r.2.1).map fun p => (r.1, p, r.2.2)
def bS (mem : aW) : List Nat → List (Nat × c7)
 | [] => []
 | b :: r => match mem[b]? with
  | some (some x) => (b, { x with frz := true }) :: bS mem r
  | _ => bS mem r
def f0 : List AV → List AV
 | [] => []
 | v :: r => v.cells ++ f0 r
def eA : List Nat → Bool
 | [] => true
 | _ => false
def lP (e : Nat) : List AV → Bool
 | [] => true
 | v :: r => Nat.beq v.cells.length e && lP e r
def k7 (vars : Bool) (mem : aW) (t : TypeId) (vs : List AV) : Option (aM × List Nat) :=
 match intKind? P t with
 | some k => (d4 k vs).map fun xs => (.ints k xs, [])
 | none => (j0 P t).bind fun e =>
  bif vars then guardB (lP e vs && Nat.ble 1 e && jG (f0 vs)) (some (.avs e (f0 vs), []))
  else (eN (oZ P mem t) vs).map fun r => (.pvs r.1 e r.2.1, r.2.2)
def Cq (t : TypeId) (β : Bool) (e : Nat) : List PV → Option (List AV)
 | [] => some []
 | p :: r => (Ix P β t p 0).bind fun v => guardB (Nat.beq v.cells.length e) ((Cq t β e r).map (v.cells ++ ·))
def aM.toAvs (t : TypeId) : aM → Option (List AV)
 | .ints k xs => some (xs.map fun x => .lit (.int k x))
 | .pvs β e xs => Cq P t β e xs
 | .avs e cs => some cs
structure dX where
 v : AV
 rd : List Nat := []
 wr : List (Nat × c7) := []
 push : aW := []
abbrev bZ := FuncId → List AV → aW → Option (AV × aW)
def aN (mem : aW) : List (Nat × c7) → aW
 | [] => mem
 | (b, x) :: r => aN (mem.set b (some x)) r
def dX.apply (o : dX) (mem : aW) : aW := aN mem o.wr ++ o.push
def oK (op : BinOp) (x y : Value) : Option Value :=
 match x, y with
 | .int k a, .int k' b =>
  match op with
  | .shl => guardB (decide (0 ≤ b)) (some (.int k (k.wrap (a * 2 ^ (min b.toNat k.bits)))))
  | .shr => guardB (decide (0 ≤ b)) (some (.int k (a.fdiv (2 ^ (min b.toNat k.bits)))))
  | .add => guardB (f6 k k') (some (.int k (k.wrap (a + b))))
  | .sub => guardB (f6 k k') (some (.int k (k.wrap (a - b))))
  | .mul => guardB (f6 k k') (some (.int k (k.wrap (a * b))))
  | .quo => guardB (f6 k k') (guardB (!(b == 0)) (some (.int k (k.wrap (a.tdiv b)))))
  | .rem => guardB (f6 k k') (guardB (!(b == 0)) (some (.int k (a.tmod b))))
  | .and => guardB (f6 k k') (some (.int k (k.wrap (BitVec.ofInt k.bits a &&& BitVec.ofInt k.bits b).toNat)))
  | .or => guardB (f6 k k') (some (.int k (k.wrap (BitVec.ofInt k.bits a ||| BitVec.ofInt k.bits b).toNat)))
  | .xor => guardB (f6 k k') (some (.int k (k.wrap (BitVec.ofInt k.bits a ^^^ BitVec.ofInt k.bits b).toNat)))
  | .andNot => guardB (f6 k k') (some (.int k (k.wrap (BitVec.ofInt k.bits a &&& ~~~BitVec.ofInt k.bits b).toNat)))
  | .eql => guardB (f6 k k') (some (.bool (a == b)))
  | .neq => guardB (f6 k k') (some (.bool (a != b)))
  | .lss => guardB (f6 k k') (some (.bool (decide (a < b))))
  | .leq => guardB (f6 k k') (some (.bool (decide (a ≤ b))))
  | .gtr => guardB (f6 k k') (some (.bool (decide (a > b))))
  | .geq => guardB (f6 k k') (some (.bool (decide (a ≥ b))))
 | .bool a, .bool b =>
  match op with
  | .eql => some (.bool (a == b))
  | .neq => some (.bool (!(a == b)))
  | _ => none
 | .string a, .string b =>
  match op with
  | .eql => some (.bool (a.toList == b.toList))
  | .neq => some (.bool (!(a.toList == b.toList)))
  | _ => none
 | _, _ => none
def Di (op : UnOp) (x : Value) : Option Value :=
 match op, x with
 | .neg, .int k n => some (.int k (k.wrap (0 - n)))
 | .xor, .int k n => some (.int k (k.wrap (BitVec.ofInt k.bits (if k.signed then -1 else k.max) ^^^ BitVec.ofInt k.bits n).toNat))
 | .not, .bool b => some (.bool (!b))
 | _, _ => none
def zE (t : TypeId) (a b : AV) : Option Bool :=
 match P.underlying t, a, b with
 | some (.int _), .lit (.int k a), .lit (.int k' b) => guardB (f6 k k') (some (a == b))
 | some .bool, .lit (.bool a), .lit (.bool b) => some (a == b)
 | some .string, .lit (.string a), .lit (.string b) => some (a.toList == b.toList)
 | _, _, _ => none
def i6 : List Field → Nat → List AV → List AV → Option Bool
 | [], _, [], [] => some true
 | f :: fs, n, a :: as, b :: bs => guardB ((f.name != "_") && Nat.beq f.offset n) ((zE P f.type a b).bind fun q => (i6 fs (n + 1) as bs).map fun r => q && r)
 | _, _, _, _ => none
def kB (t : TypeId) (a b : List AV) : Option Bool :=
 match P.underlying t with
 | some (.struct fs) => guardB ((!(P.stoodInHeld t)) && (!(P.eqGuardType P.depth t))) (i6 P fs.toList 0 a b)
 | _ => none
def D9 (t : TypeId) : Bool :=
 match P.underlying t with
 | some (.pointer _) => true
 | _ => false
def Ff (t : TypeId) : Bool :=
 match P.underlying t with
 | some .bool => true
 | _ => false
def CH (t : TypeId) (a b : Value) : Bool :=
 match a, b with
 | .bool _, .bool _ => Ff P t
 | _, _ => true
def vL (t : TypeId) : Bool :=
 match P.underlying t with
 | some (.slice _) => true
 | _ => false
def iU : PV → Option Bool
 | .ints _ xs => some xs.isEmpty
 | .sl _ xs => some xs.isEmpty
 | _ => none
def oW (op : BinOp) (t : TypeId) (x y : AV) : Option AV :=
 match x, y with
 | .imm _ p, .lit (.slice none 0 0) =>
  match op with
  | .eql => guardB (vL P t) ((iU p).map fun e => bif e then .unkB else .lit (.bool false))
  | .neq => guardB (vL P t) ((iU p).map fun e => bif e then .unkB else .lit (.bool true))
  | _ => none
 | .lit (.slice none 0 0), .lit (.slice none 0 0) =>
  match op with
  | .eql => guardB (vL P t) (some (.lit (.bool true)))
  | .neq => guardB (vL P t) (some (.lit (.bool false)))
  | _ => none
 | .lit a, .lit b => guardB (CH P t a b) ((oK op a b).map .lit)
 | .agg a, .agg b =>
  match op with
  | .eql => (kB P t a b).map fun r => .lit (.bool r)
  | .neq => (kB P t a b).map fun r => .lit (.bool (!r))
  | _ => none
 | .ptr _ _ _ _, .lit (.pointer none) | .el _ _ _, .lit (.pointer none) =>
  match op with
  | .eql => guardB (D9 P t) (some (.lit (.bool false)))
  | .neq => guardB (D9 P t) (some (.lit (.bool true)))
  | _ => none
 | _, _ => none
def setCells : List AV → Nat → List AV → List AV
 | cs, _, [] => cs
 | cs, i, v :: r => setCells (cs.set i v) (i + 1) r
def mC : List PV → Nat → List PV → List PV
 | cs, _, [] => cs
 | cs, i, v :: r => mC (cs.set i v) (i + 1) r
def sW (y : Nat) : Option Int → Nat → Option Nat
 | none, d => some d
 | some i, _ => guardB (decide (0 ≤ i) && decide (i ≤ (y : Int))) (some i.toNat)
def gK (len : Nat) (lo hi mx : Option Int) : Option (Nat × Nat) :=
 guardB (mx.isNone || hi.isSome)
  ((sW len mx len).bind fun m => (sW m hi len).bind fun h => (sW h lo 0).bind fun l => some (l, h))
def HV : Option AV → Option (Option Int)
 | none => some none
 | some (.lit (.int _ n)) => some (some n)
 | some _ => none
def Lo (k : IntKind) (x y : Int) : Int := bif decide (y < x) then y else x
def Lr (k : IntKind) (x y : Int) : Int := bif decide (y > x) then y else x
def jF (f : Int → Int → Int) (k : IntKind) : List AV → Int → Option Int
 | [], a => some a
 | .lit (.int k' b) :: r, a => guardB (f6 k k') (jF f k r (f a b))
 | _, _ => none
def cJ : Nat := 4294967296
def aM.app (t : TypeId) (x y : aM) : Option aM :=
 match x, y with
 | .ints k xs, .ints k' ys => guardB (f6 k k') (some (.ints k (xs ++ ys)))
 | .pvs β e xs, .pvs β' e' ys => guardB (Nat.beq e e') (some (.pvs (β || β') e (xs ++ ys)))
 | .avs e xs, y => (y.toAvs P t).bind fun ys => guardB (jG ys && Nat.beq e y.e && Nat.ble 1 e) (some (.avs e (xs ++ ys)))
 | _, _ => none
def wH (tx : TypeId) (y : AV) : Bool :=
 match P.underlying tx, y with
 | some .string, .lit (.string _) => true
 | some (.slice _), .lit (.string _) => false
 | some (.slice _), _ => true
 | _, _ => false
def nD (vars : Bool) (et : TypeId) (v : aM) : Option Row :=
 bif vars then guardB (Nat.ble 1 v.len) ((v.toAvs P et).bind fun cs => guardB (jG cs) (some (.cells v.e cs))) else
 match v with
 | .avs _ _ => none
 | v => some v.row
def i7 (boxed vars : Bool) (t tx : TypeId) (mem : aW) (rs : Nat) (x y : AV) : Option dX :=
 (elemOf? P t).bind fun et => (j0 P et).bind fun s => (kU P et).bind fun bytes => (zero? P et).bind fun z =>
 (view P et mem y).bind fun yv =>
 guardB (Nat.beq s yv.1.e && wH P tx y && Nat.ble bytes 4096 && Nat.ble 1 s && Nat.beq z.cells.length s)
 (match x with
 | .lit (.slice none 0 0) =>
  guardB (Nat.ble yv.1.len cJ) (
  bif boxed then (nD P vars et yv.1).map fun row => { v := .msw rs 0, rd := yv.2, wr := [(rs, { gen := 0, frz := false, row })] }
  else yv.1.imm?.map fun v => { v, rd := yv.2 })
 | .msw b g => (box? mem b g).bind fun bx => (bx.row.all.app P et yv.1).bind fun zv =>
  guardB (!bx.frz && Nat.beq s bx.row.e && Nat.ble zv.len cJ)
   (some { v := .msw b (g + 1), rd := b :: yv.2, wr := [(b, { gen := g + 1, frz := false, row := zv.row })] })
 | .ms b g 0 n => (box? mem b g).bind fun bx => (bx.row.sub 0 n).bind fun xv => (xv.app P et yv.1).bind fun zv =>
  guardB (!bx.frz && Nat.beq s bx.row.e && Nat.ble zv.len cJ)
   (some { v := .msw b (g + 1), rd := b :: yv.2, wr := [(b, { gen := g + 1, frz := false, row := zv.row })] })
 | _ => none)
def iF (t : TypeId) (mem : aW) (x : AV) (i : Int) : Option dX :=
 match P.underlying t with
 | some (.slice et) => (j0 P et).bind fun s =>
  match x with
  | .imm β (.ints k xs) => guardB (Nat.beq s 1) ((c0 xs i).bind fun v => some { v := .el β (.lit (.int k v)) 0 })
  | .imm β (.sl e xs) => guardB (Nat.beq s e) ((c0 xs i).bind fun v => some { v := .el β v 0 })
  | .ms b g o n => (box? mem b g).bind fun bx => guardB (Nat.beq s bx.row.e && decide (0 ≤ i) && decide (i < (n : Int))) (some { v := .ptr b g (o + i.toNat) 0, rd := [b] })
  | .msw b g => (box? mem b g).bind fun bx => guardB (Nat.beq s bx.row.e && decide (0 ≤ i) && decide (i < (bx.row.len : Int))) (some { v := .ptr b g i.toNat 0, rd := [b] })
  | _ => none
 | some (.array n e) => (j0 P e).bind fun s =>
  match x with
  | .ptr b g j c => guardB (decide (0 ≤ i) && decide (i < (n : Int))) (some { v := .ptr b g j (c + i.toNat * s) })
  | _ => none
 | _ => none
def iN (t : TypeId) (mem : aW) (a : AV) : Option dX :=
 match a with
 | .el β p c => (Ix P β t p c).map fun v => { v }
 | .ptr b g i c => (box? mem b g).bind fun bx =>
  match bx.row with
  | .cells e cs =>
   (isAgg? P t).bind fun ag => bif ag then (j0 P t).bind fun n => guardB (Nat.ble (i * e + c + n) cs.length) (some { v := .agg ((cs.drop (i * e + c)).take n), rd := [b] })
    else (cs[i * e + c]?).map fun v => { v, rd := [b] }
  | .ints k xs => guardB (Nat.beq c 0) (guardB (match isAgg? P t with | some false => true | _ => false) ((xs[i]?).map fun x => { v := .lit (.int k x), rd := [b] }))
  | .pvs β e xs => (xs[i]?).bind fun x => (Ix P β t x c).map fun v => { v, rd := [b] }
 | _ => none
def iT (t : TypeId) (mem : aW) (a x : AV) : Option dX :=
 match a with
 | .ptr b g i c => (box? mem b g).bind fun bx => (j0 P t).bind fun n => guardB (!bx.frz && Nat.beq x.cells.length n)
  (match bx.row with
  | .cells e cs => guardB (Nat.ble (i * e + c + n) cs.length && jG x.cells) (some { v := .lit undef, rd := [b], wr := [(b, { bx with row := .cells e (setCells cs (i * e + c) x.cells) })] })
  | .ints k xs =>
   match x with
   | .lit (.int k' v) => guardB (f6 k k' && Nat.beq c 0 && Nat.ble (i + 1) xs.length) (some { v := .lit undef, rd := [b], wr := [(b, { bx with row := .ints k (xs.set i v) })] })
   | _ => none
  | .pvs β e xs => (xs[i]?).bind fun p => (oZ P mem t x).bind fun q => guardB (Nat.ble (c + n) e && Nat.beq p.cells.length e && !f7 b q.2.2)
    (some { v := .lit undef, rd := b :: q.2.2, wr := bS mem q.2.2 ++ [(b, { bx with row := .pvs (β || q.1) e (xs.set i (bif Nat.beq n e && Nat.beq c 0 then q.2.1 else .agg (mC p.cells c q.2.1.cells))) })] }))
 | _ => none
def fX (t : TypeId) (mem : aW) (x : AV) (lo hi mx : Option Int) : Option dX :=
 match P.underlying t with
 | some .string =>
  match x with
  | .lit (.string s) => guardB mx.isNone ((gK s.size lo hi none).map fun b => { v := .lit (.string (s.extract b.1 b.2)) })
  | _ => none
 | some (.slice et) => (j0 P et).bind fun s =>
  match x with
  | .imm β (.ints k xs) => guardB (Nat.beq s 1) ((gK xs.length lo hi mx).map fun b => { v := .imm β (.ints k ((xs.take b.2).drop b.1)) })
  | .imm β (.sl e xs) => guardB (Nat.beq s e) ((gK xs.length lo hi mx).map fun b => { v := .imm β (.sl e ((xs.take b.2).drop b.1)) })
  | .ms b g o n => (box? mem b g).bind fun bx => guardB (Nat.beq s bx.row.e) ((gK n lo hi mx).map fun q => { v := .ms b g (o + q.1) (q.2 - q.1), rd := [b] })
  | .msw b g => (box? mem b g).bind fun bx => guardB (Nat.beq s bx.row.e) ((gK bx.row.len lo hi mx).map fun q => { v := .ms b g q.1 (q.2 - q.1), rd := [b] })
  | .lit (.slice none 0 0) => (gK 0 lo hi mx).map fun _ => { v := .lit (.slice none 0 0) }
  | _ => none
 | some (.array n e) => (j0 P e).bind fun s =>
  match x with
  | .ptr b g 0 c => guardB (Nat.beq s 1) ((box? mem b g).bind fun bx =>
    match bx.row with
    | .cells 1 cs => guardB (Nat.ble (c + n) cs.length) ((gK n lo hi mx).map fun q => { v := .ms b g (c + q.1) (q.2 - q.1), rd := [b] })
    | _ => none)
  | _ => none
 | _ => none
def jI (s : TypeId) (f : Nat) : Option (Nat × Nat × TypeId) :=
 match P.underlying s with
 | some (.struct fs) => (fs[f]?).bind fun x => (j0 P x.type).bind fun n => guardB (Nat.ble 1 n) (some (x.offset, n, x.type))
 | _ => none
def zU (place : Nat → Option (Nat × Nat)) (cs : List AV) : List (Nat × AV) → Option (List AV)
 | [] => some cs
 | (i, v) :: r => (place i).bind fun q => guardB (Nat.beq v.cells.length q.2 && Nat.ble (q.1 + q.2) cs.length) (zU place (setCells cs q.1 v.cells) r)
def places? : List Field → Option (List (Nat × Nat))
 | [] => some []
 | f :: r => (j0 P f.type).bind fun n => (places? r).map ((f.offset, n) :: ·)
def yR (t : TypeId) (parts : List (Nat × AV)) : Option AV :=
 (zero? P t).bind fun z =>
 match P.underlying t with
 | some (.struct fs) => (places? P fs.toList).bind fun ps => (zU (fun i => ps[i]?) z.cells parts).map .agg
 | some (.array _ e) => (j0 P e).bind fun n => (zU (fun i => some (i * n, n)) z.cells parts).map .agg
 | _ => none
def pL (vs : List AV) : List (Nat × AV) → List AV
 | [] => vs
 | (i, v) :: r => pL (vs.set i v) r
def nT (n : Nat) : List (Nat × AV) → Bool
 | [] => true
 | (i, _) :: r => Nat.ble (i + 1) n && nT n r
def yT (ρ : Operand → Option AV) : List Operand → Option (List AV)
 | [] => some []
 | x :: r => (ρ x).bind fun v => (yT ρ r).map (v :: ·)
def jW (ρ : Operand → Option AV) : List (Nat × Operand) → Option (List (Nat × AV))
 | [] => some []
 | (i, x) :: r => (ρ x).bind fun v => (jW ρ r).map ((i, v) :: ·)
def A2 (ρ : Operand → Option AV) : Option Operand → Option (Option Int)
 | none => some none
 | some x => (ρ x).bind fun v => HV (some v)
mutual
def AV.refs : AV → List Nat
 | .ptr b _ _ _ => [b]
 | .ms b _ _ _ => [b]
 | .msw b _ => [b]
 | .fn _ fi ca => AV.refsAll fi ++ AV.refsAll ca
 | .agg cs => AV.refsAll cs
 | .tup vs => AV.refsAll vs
 | .lit _ => []
 | .imm _ _ => []
 | .el _ _ _ => []
def AV.refsAll : List AV → List Nat
 | [] => []
 | v :: r => v.refs ++ AV.refsAll r
end
def Row.refs : Row → List Nat
 | .cells _ cs => AV.refsAll cs
 | _ => []
def zC (mem : aW) (b : Nat) : List Nat :=
 match mem[b]? with
 | some (some x) => x.row.refs
 | _ => []
def eT (mem : aW) : Nat → List Nat → List Nat → List Nat
 | 0, _, seen => seen
 | _, [], seen => seen
 | n + 1, b :: todo, seen => bif f7 b seen then eT mem n todo seen else eT mem n (todo ++ zC mem b) (seen ++ [b])
def pY (b : Nat) : List Nat → Nat → Option Nat
 | [], _ => none
 | m :: r, n => bif Nat.beq m b then some n else pY b r (n + 1)
def lM (mem : aW) (b : Nat) : Option Nat :=
 match mem[b]? with
 | some (some x) => some x.gen
 | _ => none
abbrev j8 := Nat → Nat → Option (Nat × Nat)
mutual
def AV.ren (f : j8) : AV → AV
 | .ptr b g i c => match f b g with | some q => .ptr q.1 q.2 i c | none => .dead
 | .ms b g o n => match f b g with | some q => .ms q.1 q.2 o n | none => .dead
 | .msw b g => match f b g with | some q => .msw q.1 q.2 | none => .dead
 | .fn h fi ca => .fn h (AV.renAll f fi) (AV.renAll f ca)
 | .agg cs => .agg (AV.renAll f cs)
 | .tup vs => .tup (AV.renAll f vs)
 | .lit v => .lit v
 | .imm β p => .imm β p
 | .el β p c => .el β p c
def AV.renAll (f : j8) : List AV → List AV
 | [] => []
 | v :: r => v.ren f :: AV.renAll f r
end
def Row.ren (f : j8) : Row → Row
 | .cells e cs => .cells e (AV.renAll f cs)
 | .ints k xs => .ints k xs
 | .pvs β e xs => .pvs β e xs
def Row.isCells : Row → Bool
 | .cells _ _ => true
 | _ => false
def fB (mem : aW) (ids : List Nat) : j8 := fun b g =>
 match lM mem b with
 | some h => bif Nat.beq h g then (pY b ids 0).map fun j => (j, 0) else none
 | none => none
def dY (f : j8) (mem : aW) : List Nat → aW
 | [] => []
 | b :: r => (match mem[b]? with
  | some (some x) => some { gen := 0, frz := x.frz, row := x.row.ren f }
  | _ => none) :: dY f mem r
def Mi : List Nat → List Nat → Bool
 | [], _ => true
 | b :: r, ids => f7 b ids && Mi r ids
def rR : List Nat → List Nat → Bool
 | [], _ => true
 | b :: r, ids => (!f7 b ids) && rR r ids
def cW : List Nat → Bool
 | [] => true
 | b :: r => (!f7 b r) && cW r
def gH : Nat → Nat → List Nat
 | _, 0 => []
 | a, n + 1 => a :: gH (a + 1) n
def cL (mem : aW) (n : Nat) : Nat := (mem.length + 1) * (mem.length + 1) + n
def iM (mem : aW) : List (Option Bool) := mem.map fun x => x.map (·.row.isCells)
def lU : List (Option Bool) → aW → Bool
 | [], _ => true
 | some k :: r, some x :: m => (bif k then x.row.isCells && Nat.beq x.gen 0 else !x.row.isCells) && lU r m
 | none :: r, none :: m => lU r m
 | _, _ => false
def qL : Nat → Nat → List Nat → Bool
 | _, 0, _ => true
 | i, n + 1, b :: r => Nat.beq b i && qL (i + 1) n r
 | _, _ + 1, [] => false
def oU (old : List (Option Bool)) (vs : List AV) (mem : aW) : Option (List AV × aW) :=
 let ids := eT mem (cL mem (old.length + (AV.refsAll vs).length)) (gH 0 old.length ++ AV.refsAll vs) []
 guardB (lU old mem && cW ids && qL 0 old.length ids) (some (AV.renAll (fB mem ids) vs, dY (fB mem ids) mem ids))
def AV.frz (m : Nat) (mem : aW) : AV → AV
 | .msw b g => bif Nat.ble m b then
   (match box? mem b g with
   | some x => (match x.row with
    | .ints k xs => .imm false (.ints k xs)
    | .pvs β e xs => .imm β (.sl e xs)
    | .cells _ _ => .msw b g)
   | none => .msw b g)
  else .msw b g
 | v => v
def AV.frzAll (m : Nat) (mem : aW) : List AV → List AV
 | [] => []
 | v :: r => v.frz m mem :: AV.frzAll m mem r
def jR (m : Nat) (mem : aW) : AV → AV
 | .tup vs => .tup (AV.frzAll m mem vs)
 | .agg vs => .agg (AV.frzAll m mem vs)
 | v => v.frz m mem
mutual
def AV.lent : AV → Bool
 | .imm β _ => β
 | .el β _ _ => β
 | .fn _ fi ca => AV.lentAny fi || AV.lentAny ca
 | .agg cs => AV.lentAny cs
 | .tup vs => AV.lentAny vs
 | .lit _ => false
 | .ptr _ _ _ _ => false
 | .ms _ _ _ _ => false
 | .msw _ _ => false
def AV.lentAny : List AV → Bool
 | [] => false
 | v :: r => v.lent || AV.lentAny r
end
def fL : aW → Bool
 | [] => false
 | some x :: r => (match x.row with | .cells _ cs => AV.lentAny cs | .pvs β _ _ => β | .ints _ _ => false) || fL r
 | none :: r => fL r
def fD (mem : aW) (l : LK) (v : AV) : Option (AV × List Nat) :=
 match v with
 | .msw _ _ | .ms _ _ _ _ => (bD P mem gU l v).map fun q => (.imm true q.2.1, q.2.2)
 | v => some (v, [])
def bL (mem : aW) : List LK → List AV → Option (List AV × List Nat)
 | [], [] => some ([], [])
 | l :: ls, v :: vs => (fD P mem l v).bind fun a => (bL mem ls vs).bind fun r => some (a.1 :: r.1, a.2 ++ r.2)
 | _, _ => none
def Ea : List AV → Bool
 | [] => false
 | .msw _ _ :: _ => true
 | .ms _ _ _ _ :: _ => true
 | _ :: r => Ea r
def lend (mem : aW) (t : TypeId) (v : AV) : Option (AV × List Nat) :=
 match v with
 | .msw _ _ | .ms _ _ _ _ => (leaf? P t).bind fun l => fD P mem l v
 | .agg cs => bif Ea cs then (leaves? P 8 t).bind fun ls => (bL P mem ls cs).map fun r => (.agg r.1, r.2) else some (.agg cs, [])
 | v => some (v, [])
def eP (mem : aW) : List TypeId → List AV → Option (List AV × List Nat)
 | [], [] => some ([], [])
 | t :: ts, v :: r => (lend P mem t v).bind fun a => (eP mem ts r).bind fun b => some (a.1 :: b.1, a.2 ++ b.2)
 | _, _ => none
def G8 (keep : Bool) (mem : aW) (ts : List TypeId) (vs : List AV) : Option (List AV × List Nat) := bif keep then some (vs, []) else eP P mem ts vs
def cA (mem sub : aW) (ids : List Nat) : j8 := fun b g =>
 bif Nat.beq g 0 then
  (match ids[b]? with
  | some a => (match sub[b]?, lM mem a with
   | some (some x), some h => some (a, bif x.row.isCells then h else h + 1)
   | _, _ => none)
  | none => bif Nat.blt b sub.length then some (mem.length + (b - ids.length), 0) else none)
 else none
def a9 (f : j8) (mem : aW) : List Nat → aW → List (Nat × c7)
 | a :: ids, some x :: r => (a, { gen := (match lM mem a with | some h => bif x.row.isCells then h else h + 1 | none => 0), frz := x.frz, row := x.row.ren f }) :: a9 f mem ids r
 | _ :: ids, none :: r => a9 f mem ids r
 | _, _ => []
def dK (f : j8) : aW → aW
 | [] => []
 | some x :: r => some { gen := 0, frz := x.frz, row := x.row.ren f } :: dK f r
 | none :: r => none :: dK f r
def eE (m : Nat) : List Nat → Bool
 | [] => true
 | b :: r => Nat.blt b m && eE m r
def j7 : aW → List Nat
 | [] => []
 | some x :: r => x.row.refs ++ j7 r
 | none :: r => j7 r
def wM (C : bZ) (raw keep : Bool) (g : FuncId) (ts : List TypeId) (fi args ca : List AV) (mem : aW) : Option dX :=
 (G8 P keep mem ts args).bind fun la =>
 let all := fi ++ la.1 ++ ca
 let ids := eT mem (cL mem (AV.refsAll all).length) (AV.refsAll all) []
 guardB (cW ids && rR la.2 ids)
 ((C g (AV.renAll (fB mem ids) all) (dY (fB mem ids) mem ids)).bind fun q =>
  let m := ids.length
  let r := bif raw then q.1 else jR m q.2 q.1
  guardB (Nat.ble m q.2.length && (eA la.2 || !(q.1.lent || fL q.2)))
  (bif eE m r.refs && eE m (j7 (q.2.take m)) then
   some { v := r.ren (cA mem (q.2.take m) ids), rd := la.2 ++ ids, wr := a9 (cA mem (q.2.take m) ids) mem ids q.2 }
  else
   some { v := q.1.ren (cA mem q.2 ids), rd := la.2 ++ ids, wr := a9 (cA mem q.2 ids) mem ids q.2, push := dK (cA mem q.2 ids) (q.2.drop m) }))
def Ah (t tx : TypeId) (mem : aW) (rs : Nat) (n : Int) : Option dX :=
 match P.underlying tx with
 | some (.int _) => (elemOf? P t).bind fun et => (zero? P et).bind fun z =>
  match intKind? P et with
  | none => (oZ P mem et z).bind fun q => (j0 P et).bind fun e => (kU P et).bind fun bytes =>
   guardB (decide (1 ≤ n) && Nat.ble n.toNat cJ && (Nat.ble 1 e && Nat.ble bytes 4096 && Nat.beq z.cells.length e && eA q.2.2)) (some { v := .msw rs 0, wr := [(rs, { gen := 0, frz := false, row := .pvs q.1 e (List.replicate n.toNat q.2.1) })] })
  | some _ => none
 | _ => none
def dL (boxed vars : Bool) (b : Builtin) (ts : List TypeId) (mem : aW) (rs : Nat) (args : List AV) : Option dX :=
 match b, ts, args with
 | .len, [t], [x] => (lenOf P t mem x).map fun n => { v := .lit (.int .i64 (n.1 : Int)), rd := n.2 }
 | .append, [t, tx], [.lit (.slice none 0 0), .lit (.int _ n)] => Ah P t tx mem rs n
 | .append, [t, tx], [x, y] => i7 P boxed vars t tx mem rs x y
 | .cap, [t], [.lit (.slice none 0 0)] => (match P.underlying t with | some (.slice _) => some { v := .lit (.int .i64 0) } | _ => none)
 | .min, _, .lit (.int k a) :: r => (jF (Lo k) k r a).map fun v => { v := .lit (.int k v) }
 | .max, _, .lit (.int k a) :: r => (jF (Lr k) k r a).map fun v => { v := .lit (.int k v) }
 | _, _, _ => none
def oT (boxed : Bool) (rs : Nat) (v : aM) : Option dX :=
 bif boxed then some { v := .msw rs 0, wr := [(rs, { gen := 0, frz := false, row := v.row })] } else v.imm?.map fun a => { v := a }
def jM (boxed : Bool) (src dst : TypeId) (mem : aW) (rs : Nat) (x : AV) : Option dX :=
 match P.underlying src, P.underlying dst, x with
 | some (.int _), some (.int k), .lit (.int _ n) => some { v := .lit (.int k (k.wrap n)) }
 | some .string, some .string, .lit (.string s) => some { v := .lit (.string s) }
 | some (.slice e), some .string, x =>
  match P.underlying e with
  | some (.int .u8) => (view P e mem x).bind fun v => guardB (wH P src x && (match j0 P e with | some 1 => true | _ => false)) <|
   match v.1 with
   | .ints .u8 xs => some { v := .lit (.string (c4 xs)), rd := v.2 }
   | _ => none
  | _ => none
 | some (.slice _), some (.slice e), .msw b g =>
  match P.underlying e with
  | some (.int .u8) => guardB (Nat.beq src dst) ((box? mem b g).bind fun x => guardB (Nat.ble 1 x.row.len) (some { v := .msw b g, rd := [b] }))
  | _ => none
 | _, _, _ => none
def Eh (c a b : AV) : Option AV :=
 match c with
 | .lit (.bool t) =>
  match a, b with
  | .lit (.bool x), .lit (.bool y) => some (.lit (.bool (bif t then x else y)))
  | _, _ => bif t then some a else some b
 | _ => none
def BY (ρ : Operand → Option AV) (c a b : Operand) : Option dX :=
 (ρ c).bind fun c => (ρ a).bind fun a => (ρ b).bind fun b => (Eh c a b).map fun v => { v }
def s9 (rs : Nat) (t : TypeId) : Option dX :=
 (zero? P t).bind fun z => guardB (Nat.ble 1 z.cells.length && jG z.cells) (some { v := .ptr rs 0 0 0, wr := [(rs, { gen := 0, frz := false, row := .cells 1 z.cells })] })
def F5 (ρ : Operand → Option AV) (rs : Nat) (t : TypeId) (x : Operand) : Option dX :=
 (ρ x).bind fun v => (j0 P t).bind fun n => guardB (Nat.beq v.cells.length n && Nat.ble 1 n && jG v.cells) (some { v := .ptr rs 0 0 0, wr := [(rs, { gen := 0, frz := false, row := .cells 1 v.cells })] })
def u3 (ρ : Operand → Option AV) (t : TypeId) (parts : Array (Nat × Operand)) : Option dX :=
 (jW ρ parts.toList).bind fun ps => (yR P t ps).map fun v => { v }
def eC (boxed vars : Bool) (ρ : Operand → Option AV) (mem : aW) (rs : Nat) (t : TypeId) (len : Nat) (parts : Array (Nat × Operand)) : Option dX :=
 (elemOf? P t).bind fun et => (zero? P et).bind fun z => (j0 P et).bind fun s => (jW ρ parts.toList).bind fun ps =>
   guardB (nT len ps && Nat.ble len 4096 && Nat.ble 1 s && Nat.ble s 4096 && lP s (z :: ps.map (·.2))) ((k7 P vars mem et (pL (List.replicate len z) ps)).bind fun w => guardB (Nat.beq w.1.e s) <|
    (oT (boxed || Nat.beq len 0) rs w.1).map fun o => { v := o.v, rd := w.2, wr := bS mem w.2 ++ o.wr })
def vA (ρ : Operand → Option AV) (mem : aW) (t : TypeId) (a x : Operand) : Option dX :=
 (ρ a).bind fun a => (ρ x).bind fun x => iT P t mem a x
def FM (ρ : Operand → Option AV) (x : Operand) : Option dX :=
 (ρ x).bind fun v =>
  match v with
  | .ptr b g i c => some { v }
  | .el β p c => some { v }
  | .fn (.func f) fi ca => some { v }
  | _ => none
def Gm (ρ : Operand → Option AV) (op : BinOp) (t : TypeId) (x y : Operand) : Option dX :=
 (ρ x).bind fun x => (ρ y).bind fun y => (oW P op t x y).map fun v => { v }
def Lc (ρ : Operand → Option AV) (op : UnOp) (x : Operand) : Option dX :=
 (ρ x).bind fun x =>
  match x with
  | .lit a => (Di op a).map fun v => { v := .lit v }
  | _ => none
def A3 (ρ : Operand → Option AV) (fn : Fn) (first cap : Array Operand) : Option dX :=
 (yT ρ first.toList).bind fun fi => (yT ρ cap.toList).map fun ca => { v := .fn fn fi ca }
def yF (boxed : Bool) (ρ : Operand → Option AV) (mem : aW) (rs : Nat) (t : TypeId) (l c : Operand) : Option dX :=
 (elemOf? P t).bind fun et => (zero? P et).bind fun z => (ρ l).bind fun l => (ρ c).bind fun c =>
  match l, c with
  | .lit (.int _ n), .lit (.int _ n') => guardB (n == n' && decide (0 ≤ n) && Nat.ble n.toNat cJ) (
    match intKind? P et with
    | some k => (j0 P et).bind fun e => (kU P et).bind fun bytes => (d4 k [z]).bind fun zs => guardB (Nat.beq e 1 && Nat.ble bytes 4096) (oT boxed rs (.ints k (List.replicate n.toNat (zs.headD 0))))
    | none => (oZ P mem et z).bind fun q => (j0 P et).bind fun e => (kU P et).bind fun bytes =>
      guardB (Nat.ble 1 e && Nat.ble bytes 4096 && Nat.beq z.cells.length e && eA q.2.2) (oT boxed rs (.pvs q.1 e (List.replicate n.toNat q.2.1))))
  | _, _ => none
def wT (ρ : Operand → Option AV) (mem : aW) (t : TypeId) (x : Operand) (lo hi mx : Option Operand) : Option dX :=
 (ρ x).bind fun x => (A2 ρ lo).bind fun lo => (A2 ρ hi).bind fun hi => (A2 ρ mx).bind fun mx => fX P t mem x lo hi mx
def jH (ρ : Operand → Option AV) (s : TypeId) (x : Operand) (f : Nat) : Option dX :=
 (ρ x).bind fun x => (jI P s f).bind fun q =>
  match x with
  | .ptr b g i c => some { v := .ptr b g i (c + q.1) }
  | .el β p c => some { v := .el β p (c + q.1) }
  | _ => none
def u4 (ρ : Operand → Option AV) (s : TypeId) (x : Operand) (f : Nat) : Option dX :=
 (ρ x).bind fun x => (jI P s f).bind fun q =>
  match x with
  | .agg cs => (isAgg? P q.2.2).bind fun ag => bif ag then guardB (Nat.ble (q.1 + q.2.1) cs.length) (some { v := .agg ((cs.drop q.1).take q.2.1) }) else (cs[q.1]?).map fun v => { v }
  | _ => none
def v6 (ρ : Operand → Option AV) (mem : aW) (t : TypeId) (x ix : Operand) : Option dX :=
 (ρ x).bind fun x => (ρ ix).bind fun ix =>
  match ix with
  | .lit (.int _ i) => iF P t mem x i
  | _ => none
def mW (ρ : Operand → Option AV) (t : TypeId) (x ix : Operand) : Option dX :=
 (ρ x).bind fun x => (ρ ix).bind fun ix =>
  match x, ix with
  | .agg cs, .lit (.int _ i) =>
   match P.underlying t with
   | some (.array n e) => (isAgg? P e).bind fun ag => (j0 P e).bind fun s => guardB (!ag && Nat.beq s 1 && decide (0 ≤ i) && decide (i < (n : Int))) ((cs[i.toNat]?).map fun v => { v })
   | _ => none
  | .lit (.string s), .lit (.int _ i) =>
   match P.underlying t with
   | some .string => (c0 (fR s) i).map fun n => { v := .lit (.int .u8 n) }
   | _ => none
  | _, _ => none
def mM (ρ : Operand → Option AV) (t : Operand) (ix : Nat) : Option dX :=
 (ρ t).bind fun t =>
  match t with
  | .tup vs => (vs[ix]?).map fun v => { v }
  | _ => none
def CD (C : bZ) (boxed raw vars : Bool) (ρ : Operand → Option AV) (mem : aW) (rs : Nat) (c : Call) : Option dX :=
 (yT ρ c.args.toList).bind fun args =>
  match c.callee with
  | .builtin b => dL P boxed vars b c.argTypes.toList mem rs args
  | .value f => (ρ f).bind fun f =>
   match f with
   | .fn (.func g) fi ca => wM P C raw vars g c.argTypes.toList fi args ca mem
   | _ => none
  | .invoke _ _ => none
def pI : Operand → Bool
 | .const (.slice none 0 0) => true
 | _ => false
def n6 (t : TypeId) : Option PV :=
 (elemOf? P t).bind fun et =>
 match intKind? P et with
 | some k => some (.ints k [])
 | none => (j0 P et).bind fun e => guardB (Nat.ble 1 e) (some (.sl e []))
def Fb : PV → Option Row
 | .ints k xs => some (.ints k xs)
 | .sl e xs => some (.pvs false e xs)
 | _ => none
def pM (boxed vars : Bool) (ρ : Operand → Option AV) (t : TypeId) (rs : Nat) (x : Operand) : Option dX :=
 bif pI x && boxed && !vars then (n6 P t).bind fun p => (Fb p).map fun row => { v := .msw rs 0, wr := [(rs, { gen := 0, frz := false, row })] }
 else (ρ x).bind fun v =>
  match v with
  | .lit (.slice none 0 0) => bif boxed then some { v } else (n6 P t).map fun p => { v := .imm false p }
  | v => some { v }
def F1 (C : bZ) (boxed raw vars : Bool) (o : Oper) (ρ : Operand → Option AV) (mem : aW) (rs : Nat) : Option dX :=
 match o.op with
 | .move x => pM P boxed vars ρ o.type rs x
 | .assign x => pM P boxed vars ρ o.type rs x
 | .pick c a b => BY ρ c a b
 | .alloc t => s9 P rs t
 | .box t x => F5 P ρ rs t x
 | .build t parts => u3 P ρ t parts
 | .buildSlice t len parts => eC P boxed vars ρ mem rs t len parts
 | .load t a => (ρ a).bind fun a => iN P t mem a
 | .store t a x => vA P ρ mem t a x
 | .nilCheck x => FM ρ x
 | .binOp op t x y _ => Gm P ρ op t x y
 | .unOp op _ x => Lc ρ op x
 | .convert src dst x => (ρ x).bind fun x => jM P boxed src dst mem rs x
 | .makeFunc fn first cap => A3 ρ fn first cap
 | .makeSlice t l c => yF P boxed ρ mem rs t l c
 | .slice t x lo hi mx => wT P ρ mem t x lo hi mx
 | .fieldAddr s x f => jH P ρ s x f
 | .field s x f => u4 P ρ s x f
 | .indexAddr t x ix => v6 P ρ mem t x ix
 | .index t x ix => mW P ρ t x ix
 | .extract t ix => mM ρ t ix
 | .call c => CD P C boxed raw vars ρ mem rs c
 | _ => none
structure Tr where
 i : Nat
 rd : List Nat
 wr : List Nat
 push : Bool
 rc : Bool
 wk : Nat → Bool
def lR : AV → Option (Nat × Nat × Nat × Nat)
 | .ptr b g i c => some (b, g, i, c)
 | _ => none
def gB (x : c7) : Option (Nat × Nat × List (Option (Nat × Nat × Nat × Nat))) :=
 match x.row with
 | .cells e cs => some (x.gen, e, cs.map lR)
 | _ => none
def a0 (mem : aW) (b : Nat) : Option (Nat × Nat × List (Option (Nat × Nat × Nat × Nat))) :=
 match mem[b]? with
 | some (some x) => gB x
 | _ => none
def Oa (x y : Option (Nat × Nat × Nat × Nat)) : Bool :=
 match x, y with
 | none, none => true
 | some (a, b, c, d), some (a', b', c', d') => Nat.beq a a' && Nat.beq b b' && Nat.beq c c' && Nat.beq d d'
 | _, _ => false
def Lk : List (Option (Nat × Nat × Nat × Nat)) → List (Option (Nat × Nat × Nat × Nat)) → Bool
 | [], [] => true
 | x :: xs, y :: ys => Oa x y && Lk xs ys
 | _, _ => false
def Fu (x y : Option (Nat × Nat × List (Option (Nat × Nat × Nat × Nat)))) : Bool :=
 match x, y with
 | some (g, e, l), some (g', e', l') => Nat.beq g g' && Nat.beq e e' && Lk l l'
 | _, _ => false
def m9 (mem : aW) (wr : List (Nat × c7)) (b : Nat) : Bool := wr.all fun q => !(Nat.beq q.1 b) || Fu (gB q.2) (a0 mem b)
def Hu : Op → Bool
 | .load _ _ => true
 | _ => false
def JI (op : Op) (mem : aW) (v : AV) (rd : List Nat) : Bool :=
 Hu op && (match lR v with | some _ => true | none => false) && (match rd with | [b] => (match a0 mem b with | some _ => true | none => false) | _ => false)
def HE (L : Nat) (all : List Tr) (b : Nat) : Bool := Nat.blt b L && all.all fun u => !(f7 b u.wr) || u.wk b
def CU (L : Nat) (all : List Tr) (t : Tr) : Tr := bif t.rc && (match t.rd with | [b] => HE L all b | _ => false) then { t with rd := [] } else t
variable [b8]
def Au (tmps : List AV) (t : Nat) : Option AV := (iB tmps t).bind fun v => bif dV v then none else some v
def eQ (tmps : List AV) : Operand → Option AV
 | .tmp t => Au tmps t
 | .const v => rN v
 | .func f => some (.fn (.func f) [] [])
 | .global g => (b8.tab g).map fun q => .el true (.agg [.lit (.int .i64 q.1), .lit (.int .i64 q.2)]) 0
def j3 (tmps : List AV) (dst : Option Tmp) (v : AV) : List AV :=
 match dst with
 | some d => AD v tmps d
 | none => tmps
def dE : Op → Bool
 | .move x | .assign x => pI x
 | .alloc _ | .box _ _ | .buildSlice _ _ _ | .convert _ _ _ | .makeSlice _ _ _ => true
 | .call { callee := .builtin .append, .. } => true
 | _ => false
def mA : List Oper → Nat
 | [] => 0
 | o :: r => (bif dE o.op then 1 else 0) + mA r
def rV (mem : aW) (rs : Nat) : Bool :=
 match mem[rs]? with
 | some none => true
 | _ => false
def IN : Option c7 → Bool
 | none => true
 | some _ => false
def trim : aW → aW
 | [] => []
 | x :: r => match trim r with
  | [] => bif IN x then [] else [x]
  | y => x :: y
def dX.tr (mk : Bool) (rs : Nat) (o : dX) (i : Nat) (op : Op) (mem : aW) : Tr := { i, rc := JI op mem o.v o.rd, wk := m9 mem o.wr, rd := o.rd, wr := bif mk then rs :: o.wr.map (·.1) else o.wr.map (·.1), push := match o.push with | [] => false | _ => true }
variable {R : Type}
def y7 (a b : Nat) : List (Nat × Nat × Int) → Option Int
 | [] => none
 | (m, x, v) :: r => bif Nat.beq m a && Nat.beq x b then some v else y7 a b r
def s0 (h : Option Int) (v : AV) (k : AV → Option R) : Option R :=
 match h with
 | none => k v
 | some x => match v with
  | .lit (.int kd y) => guardB (decide (y = x)) (k (.lit (.int kd x)))
  | .lit (.bool b) => bif decide (x = 0) then guardB (!b) (k (.lit (.bool false))) else guardB b (k (.lit (.bool true)))
  | v => k v
def oX (C : bZ) (an : dJ) (rid : Nat) (ds : List (Option Tmp)) : List Oper → Nat → Nat → St → List Tr → (St → List Tr → Option R) → Option R
 | [], _, _, st, tr, k => k st tr
 | o :: rest, i, rs, st, tr, k =>
  let rs' := bif dE o.op then rs + 1 else rs
  let run (st : St) : Option R := guardB (bif dE o.op then rV st.mem rs else true) ((F1 P C (cB rid i an.boxed) (cB rid i an.raw) (cB rid i an.vars) o (eQ st.tmps) st.mem rs).bind fun out =>
   s0 (y7 rid i an.hint) out.v fun v => oX C an rid ds rest (i + 1) rs' { tmps := j3 st.tmps o.dst v, mem := out.apply st.mem } (out.tr (dE o.op) rs i o.op st.mem :: tr) k)
  let skip (st : St) : Option R := oX C an rid ds rest (i + 1) rs' { tmps := j3 st.tmps o.dst (.lit undef), mem := st.mem } tr k
  match o.guard with
  | none => run st
  | some (j, want) =>
   match ds[j]? with
   | some (some d) =>
    match iB st.tmps d with
    | some (.lit (.bool b)) =>
     bif b then (bif want then run else skip) { st with tmps := AD (.lit (.bool true)) st.tmps d }
     else (bif want then skip else run) { st with tmps := AD (.lit (.bool false)) st.tmps d }
    | some (.lit (.tuple _)) => skip st
    | _ => none
   | _ => none
def yE (acc : List Nat) : List Edge → Nat
 | [] => 0
 | e :: r => bif Region.binds .any e then 2 ^ e.on ||| acc.getD e.on 0 ||| yE acc r else yE acc r
def x9 : List Oper → List Nat → List Nat
 | [], acc => acc
 | o :: r, acc => x9 r (acc ++ [yE acc o.after.toList])
def vG (i : Nat) : List Edge → Bool
 | [] => true
 | e :: r => (!(Region.binds .any e) || Nat.blt e.on i) && vG i r
def gV : List Oper → Nat → Bool
 | [], _ => true
 | o :: r, i => vG i o.after.toList && gV r (i + 1)
def dC (bs : List Nat) (i j : Nat) : Bool := (bs.getD j 0).testBit i || (bs.getD i 0).testBit j
def vI (ops : Array Oper) (i j : Nat) : Bool :=
 match ops[i]?, ops[j]? with
 | some x, some y => x.apart ops y
 | _, _ => false
def LL (bs : List Nat) (L : Nat) (a : Tr) : List Tr → Bool
 | [] => true
 | b :: r => !(a.push && b.push) && (dC bs a.i b.i || (rR a.wr b.rd && rR a.rd b.wr && rR a.wr b.wr && (!a.push || (eE L b.rd && eE L b.wr)) && (!b.push || (eE L a.rd && eE L a.wr)))) && LL bs L a r
def IB (bs : List Nat) (L : Nat) : List Tr → Bool
 | [] => true
 | a :: r => LL bs L a r && IB bs L r
def kN (o : Oper) : Bool :=
 match o.op with
 | .call c => (match c.callee with | .builtin _ => false | _ => true)
 | _ => false
def qY (bs : List Nat) (i : Nat) : List Oper → Nat → Bool
 | [], _ => true
 | o :: r, j => (Nat.beq i j || dC bs i j || !(kN o)) && qY bs i r (j + 1)
def En (ops : Array Oper) (bs : List Nat) : List Tr → Bool
 | [] => true
 | a :: r => (!a.push || qY bs a.i ops.toList 0) && En ops bs r
def vS (ops : Array Oper) (bs : List Nat) (i : Nat) : List Nat → Bool
 | [] => true
 | j :: r => (dC bs i j || vI ops i j) && vS ops bs i r
def wB (ops : Array Oper) (bs : List Nat) : List Nat → Bool
 | [] => true
 | i :: r => vS ops bs i r && wB ops bs r
def Er (ops : Array Oper) (L : Nat) (tr : List Tr) : Bool :=
 let bs := x9 ops.toList []
 gV ops.toList 0 && IB bs L (tr.map (CU L tr)) && En ops bs tr && wB ops bs (gH 0 ops.size)
def oC (C : bZ) (an : dJ) (rid : Nat) (ops : Array Oper) (draw : Bool) (st : St) (k : St → Option R) : Option R :=
 oX P C an rid (ops.toList.map (·.dst)) ops.toList 0 st.mem.length { st with mem := st.mem ++ List.replicate (mA ops.toList) none } [] fun st' tr =>
  guardB (!draw || Er ops (st.mem.length + mA ops.toList) tr) (k { st' with mem := trim st'.mem })
inductive Ex where
 | normal | exit (id : Nat) | ret
def cI (live : List Nat) : List AV → Nat → List AV
 | [], _ => []
 | v :: r, i => (bif f7 i live then v else .goneV) :: cI live r (i + 1)
def FW (old : List (Option Bool)) (live : List Nat) (st : St) : Option St :=
 (oU old (cI live st.tmps 0) st.mem).map fun q => { tmps := q.1, mem := q.2 }
def sA (old : List (Option Bool)) (live : List Nat) (body : St → (Ex → St → Option R) → Option R) : Nat → St → (Ex → St → Option R) → Option R
 | 0, _, _ => none
 | n + 1, st, k => (FW old live st).bind fun st1 => body st1 fun e st' =>
  match e with
  | .normal => sA old live body n st' k
  | .exit id => k (.exit id) st'
  | .ret => k .ret st'
def dF (C : bZ) (an : dJ) (n : Nat) (old : List (Option Bool)) : Code → Nat → St → (Ex → St → Option R) → Option R
 | .skip, _, st, k => k .normal st
 | .ret, _, st, k => k .ret st
 | .exit id, _, st, k => k (.exit id) st
 | .seq a b, bid, st, k => dF C an n old a bid st fun e st' =>
  match e with
  | .normal => dF C an n old b bid st' k
  | .exit id => k (.exit id) st'
  | .ret => k .ret st'
 | .cond c x y, bid, st, k =>
  match eQ st.tmps c with
  | some (.lit (.bool t)) => bif t then dF C an n old x bid st k else dF C an n old y bid st k
  | some (.imm true (.lit (.bool false))) => amb (dF C an n old x bid st k) (dF C an n old y bid st k)
  | _ => none
 | .block id c, _, st, k => dF C an n old c id st fun e st' =>
  match e with
  | .normal => k .normal st'
  | .exit j => bif Nat.beq j id then k .normal st' else k (.exit j) st'
  | .ret => k .ret st'
 | .loop c, bid, st, k => (bR bid an.live).bind fun live => sA old live (fun st k => dF C an n old c bid st k) n st k
 | .region rid ops draw, _, st, k => oC P C an rid ops draw st (fun st' => k .normal st')
 | _, _, _, _ => none
def Ax (tmps : List AV) (mem : aW) : List ResultVar → Option (List AV)
 | [] => some []
 | .tmp t :: r => (Au tmps t).bind fun v => (Ax tmps mem r).map (v :: ·)
 | .cell a t :: r => (Au tmps a).bind fun a => (iN P t mem a).bind fun o => (Ax tmps mem r).map (o.v :: ·)
def pV : List AV → AV
 | [v] => v
 | vs => .tup vs
def BO (fn : Func) (old : List (Option Bool)) (e : Ex) (st : St) : Option (AV × aW) :=
 match e with
 | .exit _ => none
 | _ => (Ax P st.tmps st.mem fn.results.toList).bind fun vs => (oU old [pV vs] st.mem).bind fun q =>
  match q.1 with
  | [v] => some (v, q.2)
  | _ => none
end
end
end Go.Ab
end
section
namespace Go.Ab
abbrev cl (w : World) (B o : Nat) : Option Value := w.cell? ⟨B, o, none⟩
inductive PR (w : World) (pr : Nat → Nat → Prop) : PV → Value → Prop
 | lit (v : Value) (h : v.oneCell' = true) : PR w pr (.lit v) v
 | intsNil (k : IntKind) (a : Option Addr) : PR w pr (.ints k []) (.slice a 0 0)
 | ints (k : IntKind) (xs : List Int) (B o cap : Nat) (hcap : xs.length ≤ cap)
   (h : ∀ i x, xs[i]? = some x → cl w B (o + i) = some (.int k x) ∧ pr B (o + i)) : PR w pr (.ints k xs) (.slice (some ⟨B, o, none⟩) xs.length cap)
 | slNil (e : Nat) (a : Option Addr) : PR w pr (.sl e []) (.slice a 0 0)
 | sl (e : Nat) (xs : List PV) (B o cap : Nat) (cv : Nat → Nat → Value) (he : 1 ≤ e) (hcap : xs.length ≤ cap) (hlen : ∀ x ∈ xs, x.cells.length = e)
   (h : ∀ i x c y, xs[i]? = some x → x.cells[c]? = some y → cl w B (o + i * e + c) = some (cv i c) ∧ pr B (o + i * e + c))
   (h1 : ∀ i x c y, xs[i]? = some x → x.cells[c]? = some y → (cv i c).oneCell' = true)
   (hr : ∀ i x c y, xs[i]? = some x → x.cells[c]? = some y → PR w pr y (cv i c)) : PR w pr (.sl e xs) (.slice (some ⟨B, o, none⟩) xs.length cap)
 | agg (cs : List PV) (cvs : Array Value) (hlen : cs.length = cvs.size) (h : ∀ j y, cs[j]? = some y → PR w pr y (cvs.getD j undef)) : PR w pr (.agg cs) (.agg cvs)
def PV.isSl : PV → Bool
 | .ints _ _ => true
 | .sl _ _ => true
 | _ => false
structure rO where
 blk : Option Nat
 e : Nat
 n : Nat
structure Gh where
 loc : Nat → Nat → Option rO
 prot : Bool → Nat → Nat → Prop
 mine : Nat → Prop
def BH (w : World) (B k : Nat) : Prop := ∀ j, j < k → (cl w B j).isSome = true
inductive VR (G : Gh) (w : World) : AV → Value → Prop
 | lit (v : Value) (h : jT v = true) : VR G w (.lit v) v
 | imm (β : Bool) (p : PV) (v : Value) (h : PR w (G.prot β) p v) (hs : p.isSl = true) : VR G w (.imm β p) v
 | unkB (b : Bool) : VR G w (.imm true (.lit (.bool false))) (.bool b)
 | dead (v : Value) (h1 : v.oneCell' = true) (h2 : jT v = true) : VR G w (.imm false (.agg [])) v
 | ptr (b g i c : Nat) (L : rO) (B : Nat) (hl : G.loc b g = some L) (hb : L.blk = some B) : VR G w (.ptr b g i c) (.pointer (some ⟨B, i * L.e + c, none⟩))
 | ms (b g o n cap : Nat) (L : rO) (B : Nat) (hl : G.loc b g = some L) (hb : L.blk = some B) (hn : n ≤ cap) (hon : o + n ≤ L.n) (hf : BH w B ((o + cap) * L.e)) :
   VR G w (.ms b g o n) (.slice (some ⟨B, o * L.e, none⟩) n cap)
 | msNil (b g : Nat) (L : rO) (hl : G.loc b g = some L) (hb : L.blk = none) : VR G w (.ms b g 0 0) (.slice none 0 0)
 | msZ (b g o B oo : Nat) (L : rO) (hl : G.loc b g = some L) (hb : L.blk = some B) (ho : 1 ≤ o) (hon : o ≤ L.n) : VR G w (.ms b g o 0) (.slice (some ⟨B, oo, none⟩) 0 0)
 | msw (b g cap : Nat) (L : rO) (B : Nat) (hl : G.loc b g = some L) (hb : L.blk = some B) (hn : L.n ≤ cap) (hf : BH w B (cap * L.e)) :
   VR G w (.msw b g) (.slice (some ⟨B, 0, none⟩) L.n cap)
 | mswNil (b g : Nat) (L : rO) (hl : G.loc b g = some L) (hb : L.blk = none) (hn : L.n = 0) : VR G w (.msw b g) (.slice none 0 0)
 | el (β : Bool) (p : PV) (c B o : Nat) (cv : Nat → Value)
   (h : ∀ j y, p.cells[j]? = some y → cl w B (o + j) = some (cv j) ∧ G.prot β B (o + j))
   (hr : ∀ j y, p.cells[j]? = some y → PR w (G.prot β) y (cv j)) : VR G w (.el β p c) (.pointer (some ⟨B, o + c, none⟩))
 | fn (f : Fn) (fi ca : List AV) (fv cv : Array Value) (h1 : fi.length = fv.size) (h2 : ca.length = cv.size)
   (hf : ∀ (j : Nat) (y : AV), fi[j]? = some y → VR G w y (fv.getD j undef)) (hc : ∀ (j : Nat) (y : AV), ca[j]? = some y → VR G w y (cv.getD j undef)) : VR G w (.fn f fi ca) (.func f fv cv)
 | agg (cs : List AV) (cvs : Array Value) (hlen : cs.length = cvs.size) (h : ∀ (j : Nat) (y : AV), cs[j]? = some y → VR G w y (cvs.getD j undef)) : VR G w (.agg cs) (.agg cvs)
 | tup (cs : List AV) (cvs : Array Value) (hlen : cs.length = cvs.size) (h : ∀ (j : Nat) (y : AV), cs[j]? = some y → VR G w y (cvs.getD j undef)) : VR G w (.tup cs) (.tuple cvs)
structure Ev (G : Gh) (w w' : World) : Prop where
 size : w.heap.size ≤ w'.heap.size
 out : w'.output = w.output
 os : w'.os = w.os
 away : ∀ B, B < w.heap.size → ¬ G.mine B → w'.heap[B]? = w.heap[B]?
 some : ∀ B o, (cl w B o).isSome = true → (cl w' B o).isSome = true
 prot : ∀ β B o, G.prot β B o → cl w' B o = cl w B o
 fz : ∀ B o, (cl w B o).isSome = true → w'.frozen? ⟨B, o, none⟩ = w.frozen? ⟨B, o, none⟩
 tape : w'.tape = w.tape
structure dA (G G' : Gh) : Prop where
 mine : G'.mine = G.mine
 prot : ∀ β B o, G.prot β B o → G'.prot β B o
 loc : ∀ b g L, G.loc b g = some L → G'.loc b g = some L
 new : ∀ β B o, G'.prot β B o → G.prot β B o ∨ G.mine B
theorem dA.refl (G : Gh) : dA G G := ⟨rfl, fun _ _ _ h => h, fun _ _ _ h => h, fun _ _ _ h => .inl h⟩
theorem dA.trans {G J H : Gh} (h : dA G J) (z : dA J H) : dA G H :=
 ⟨z.mine.trans h.mine, fun _ _ _ x => z.prot _ _ _ (h.prot _ _ _ x), fun _ _ _ x => z.loc _ _ _ (h.loc _ _ _ x), fun _ _ _ x => (z.new _ _ _ x).elim (h.new _ _ _) (fun y => .inr (by rw [← h.mine]; exact y))⟩
theorem Ev.refl (G : Gh) (w : World) : Ev G w w := ⟨yu _, rfl, rfl, fun _ _ _ => rfl, fun _ _ h => h, fun _ _ _ _ => rfl, fun _ _ _ => rfl, rfl⟩
theorem Ev.trans {G N : Gh} {w H K : World} (h : Ev G w H) (J : dA G N) (z : Ev N H K) : Ev G w K where
 size := yt1 h.size z.size
 out := z.out.trans h.out
 os := z.os.trans h.os
 away B hb hm := (z.away B (yr1 hb h.size) (by rw [J.mine]; exact hm)).trans (h.away B hb hm)
 some B o x := z.some B o (h.some B o x)
 prot β B o x := (z.prot β B o (J.prot _ _ _ x)).trans (h.prot β B o x)
 fz B o x := (z.fz B o (h.some B o x)).trans (h.fz B o x)
 tape := z.tape.trans h.tape
theorem Ev.of_eq {G : Gh} {w z : World} (H : z.heap = w.heap) (O : z.output = w.output) (K : z.os = w.os) (N : z.tape = w.tape) : Ev G w z := by
 have J : ∀ a, z.cell? a = w.cell? a := fun a => by unfold World.cell?; rw [H]
 exact ⟨by rw [H]; exact yu _, O, K, fun B _ _ => by rw [H], fun B o h => by rw [cl, J]; exact h, fun _ _ _ _ => J _, fun _ _ _ => by unfold World.frozen?; rw [H], N⟩
theorem PR.mono {w Y : World} {V N : Nat → Nat → Prop} (Z : ∀ B o, V B o → N B o) (W : ∀ B o, V B o → cl Y B o = cl w B o)
  {p : PV} {v : Value} (h : PR w V p v) : PR Y N p v := by
 induction h with
 | lit v h => exact .lit v h
 | intsNil k a => exact .intsNil k a
 | ints k xs B o cap z h => exact .ints k xs B o cap z fun i x O => ⟨(W _ _ (h i x O).2).trans (h i x O).1, Z _ _ (h i x O).2⟩
 | slNil e a => exact .slNil e a
 | sl e xs B o cap cv he z H h J hr U =>
  exact .sl e xs B o cap cv he z H (fun i x c y J K => ⟨(W _ _ (h i x c y J K).2).trans (h i x c y J K).1, Z _ _ (h i x c y J K).2⟩) J (fun i x c y J K => U i x c y J K)
 | agg cs cvs H h U => exact .agg cs cvs H fun j y hy => U j y hy
theorem BH.mono {G : Gh} {w z : World} (J : Ev G w z) {B k : Nat} (h : BH w B k) : BH z B k := fun j H => J.some B j (h j H)
theorem VR.mono {G G' : Gh} {w w' : World} (K : dA G G') (U : Ev G w w') {a : AV} {v : Value} (h : VR G w a v) : VR G' w' a v := by
 induction h with
 | lit v h => exact .lit v h
 | imm β p v h hs => exact .imm β p v (h.mono (K.prot β) (U.prot β)) hs
 | unkB b => exact .unkB b
 | dead v Z h2 => exact .dead v Z h2
 | ptr b g i c L B z J => exact .ptr b g i c L B (K.loc _ _ _ z) J
 | ms b g o n cap L B z J O N W => exact .ms b g o n cap L B (K.loc _ _ _ z) J O N (W.mono U)
 | msNil b g L z J => exact .msNil b g L (K.loc _ _ _ z) J
 | msZ b g o B oo L z J ho N => exact .msZ b g o B oo L (K.loc _ _ _ z) J ho N
 | msw b g cap L B z J O W => exact .msw b g cap L B (K.loc _ _ _ z) J O (W.mono U)
 | mswNil b g L z J O => exact .mswNil b g L (K.loc _ _ _ z) J O
 | el β p c B o cv h hr =>
  exact .el β p c B o cv (fun j y V => ⟨(U.prot _ _ _ (h j y V).2).trans (h j y V).1, K.prot _ _ _ (h j y V).2⟩) (fun j y V => (hr j y V).mono (K.prot β) (U.prot β))
 | fn f fi ca fv cv Z h2 W hc ihf Y => exact .fn f fi ca fv cv Z h2 ihf Y
 | agg cs cvs H h ih => exact .agg cs cvs H ih
 | tup cs cvs H h ih => exact .tup cs cvs H ih
def nE (G : Gh) (w : World) (as : List AV) (vs : Array Value) : Prop := as.length = vs.size ∧ ∀ (j : Nat) (y : AV), as[j]? = some y → VR G w y (vs.getD j undef)
theorem nE.mono {G H : Gh} {w z : World} (K : dA G H) (N : Ev G w z) {as : List AV} {vs : Array Value} (h : nE G w as vs) : nE H z as vs :=
 ⟨h.1, fun j y J => (h.2 j y J).mono K N⟩
def nF (G : Gh) (w : World) (B : Nat) : Row → Prop
 | .ints k xs => ∀ i x, xs[i]? = some x → cl w B i = some (.int k x)
 | .pvs β e xs => (∀ x ∈ xs, x.cells.length = e) ∧ ∀ (i : Nat) (x : PV) (c : Nat) (y : PV), xs[i]? = some x → x.cells[c]? = some y → ∃ v, cl w B (i * e + c) = some v ∧ v.oneCell' = true ∧ PR w (G.prot β) y v
 | .cells e cs => cs.length = e * a6 e cs.length ∧ ∀ (j : Nat) (y : AV), cs[j]? = some y → ∃ v, cl w B j = some v ∧ v.oneCell' = true ∧ VR G w y v
def iH (w : World) (B : Nat) : Prop := ∃ c el lo hi, w.heap[B]? = some (.cells c el (lo, hi)) ∧ (lo = hi ∨ c.size ≤ lo)
theorem iH.cell {w : World} {B : Nat} (h : iH w B) {o : Nat} (z : (cl w B o).isSome = true) : w.frozen? ⟨B, o, none⟩ = false := by
 obtain ⟨c, el, lo, hi, H, hf⟩ := h
 unfold cl World.cell? at z
 simp only [H, Option.isSome_none, yy1, if_false] at z
 have J : o < c.size := by
  rcases yu1 o c.size with h | h
  ·exact h
  ·rw [yg3 h] at z; cases z
 unfold World.frozen?
 simp only [H, Bool.and_eq_false_iff, decide_eq_false_iff_not]
 omega
theorem iH.of_heap {w z : World} {B : Nat} (h : iH w B) (J : z.heap[B]? = w.heap[B]?) : iH z B := by
 obtain ⟨c, el, H, O, K, N⟩ := h
 exact ⟨c, el, H, O, by rw [J]; exact K, N⟩
structure L5 (G : Gh) (w : World) (b : Nat) (x : c7) : Prop where
 e : 1 ≤ x.row.e
 loc : ∃ o, G.loc b x.gen = some ⟨o, x.row.e, x.row.len⟩ ∧
  match o with
  | none => x.row.len = 0 ∧ x.row.isCells = false
  | some B => G.mine B ∧ B < w.heap.size ∧ iH w B ∧ nF G w B x.row ∧ (x.frz = false → ∀ β o, ¬ G.prot β B o)
variable [b8]
def oQ (G : Gh) (w : World) : Prop := ∀ (g : Nat) (q : Int × Int), b8.tab g = some q → (cl w g 0 = some (.int .i64 q.1) ∧ G.prot true g 0) ∧ cl w g 1 = some (.int .i64 q.2) ∧ G.prot true g 1
theorem oQ.mono {G N : Gh} {w H : World} (h : oQ G w) (J : ∀ B o, G.prot true B o → N.prot true B o) (K : ∀ B o, G.prot true B o → cl H B o = cl w B o) : oQ N H := fun g q z =>
 ⟨⟨(K _ _ (h g q z).1.2).trans (h g q z).1.1, J _ _ (h g q z).1.2⟩, (K _ _ (h g q z).2.2).trans (h g q z).2.1, J _ _ (h g q z).2.2⟩
structure aQ (G : Gh) (w : World) (mem : aW) : Prop where
 box : ∀ (b : Nat) (x : c7), mem[b]? = some (some x) → L5 G w b x
 unset : ∀ b g, (∀ x : c7, mem[b]? ≠ some (some x)) → G.loc b g = none
 gens : ∀ (b : Nat) (x : c7) (g : Nat), mem[b]? = some (some x) → x.gen < g → G.loc b g = none
 apart : ∀ (b b' : Nat) (x x' : c7) (L L' : rO) (B : Nat), mem[b]? = some (some x) → mem[b']? = some (some x') → G.loc b x.gen = some L → G.loc b' x'.gen = some L' →
  L.blk = some B → L'.blk = some B → b = b'
 own : ∀ B, w.heap.size ≤ B → G.mine B
 lab : ∀ B o, G.prot false B o → G.prot true B o
 away : ∀ β B o, G.prot β B o → B < w.heap.size
 glob : oQ G w
theorem nF.mono {G W : Gh} {w K : World} (V : dA G W) (O : Ev G w K) {B : Nat} (z : ∀ o, (cl w B o).isSome = true → cl K B o = cl w B o) {r : Row} (h : nF G w B r) : nF W K B r := by
 cases r with
 | ints k xs => exact fun i x U => by rw [z i (by rw [h i x U]; rfl)]; exact h i x U
 | pvs β e xs =>
  refine ⟨h.1, fun i x c y Y h2 => ?_⟩
  obtain ⟨v, J, H, N⟩ := h.2 i x c y Y h2
  exact ⟨v, by rw [z _ (by rw [J]; rfl)]; exact J, H, N.mono (V.prot β) (O.prot β)⟩
 | cells e cs =>
  refine ⟨h.1, fun j y Z => ?_⟩
  obtain ⟨v, J, H, N⟩ := h.2 j y Z
  exact ⟨v, by rw [z _ (by rw [J]; rfl)]; exact J, H, N.mono V O⟩
end Go.Ab
end
section
namespace Go.Ab
variable [b8]
theorem dU {w z : World} {B : Nat} (h : z.heap[B]? = w.heap[B]?) (o : Nat) : cl z B o = cl w B o := by
 unfold cl World.cell?; simp only [h]
theorem pJ {w z : World} {B : Nat} (h : z.heap[B]? = w.heap[B]?) (o : Nat) : z.frozen? ⟨B, o, none⟩ = w.frozen? ⟨B, o, none⟩ := by
 unfold World.frozen?; simp only [h]
theorem B3 {w : World} {B o : Nat} (h : (cl w B o).isSome = true) : B < w.heap.size := by
 obtain ⟨u, z⟩ := Option.isSome_iff_exists.1 h
 exact World.block_lt_of_cell? (a := ⟨B, o, none⟩) _ z
def Gh.put (G : Gh) (b g : Nat) (L : rO) : Gh := { G with loc := fun b' g' => if b' = b ∧ g' = g then some L else G.loc b' g' }
theorem Gh.put_self (G : Gh) (b g : Nat) (L : rO) : (G.put b g L).loc b g = some L := by simp [Gh.put]
theorem Gh.put_ne (G : Gh) {b g z g' : Nat} (L : rO) (h : ¬ (z = b ∧ g' = g)) : (G.put b g L).loc z g' = G.loc z g' := by simp [Gh.put, h]
theorem dA.put {G : Gh} {b g : Nat} {L : rO} (h : G.loc b g = none ∨ G.loc b g = some L) : dA G (G.put b g L) := by
 refine ⟨rfl, fun _ _ _ x => x, fun H g' L' z => ?_, fun _ _ _ x => .inl x⟩
 by_cases e : H = b ∧ g' = g
 ·obtain ⟨rfl, rfl⟩ := e
  rw [Gh.put_self]
  rcases h with h | h <;> rw [h] at z <;> simp_all
 ·rw [Gh.put_ne _ _ e]; exact z
theorem aQ.upd {G : Gh} {w w1 : World} {mem : aW} {b : Nat} {x' : c7} {L : rO} (O : aQ G w mem) (K : Ev G w w1) (hb : b < mem.length)
  (W : G.loc b x'.gen = none ∨ G.loc b x'.gen = some L)
  (N : ∀ (z : Nat) (y : c7) (Lb : rO) (B : Nat), z ≠ b → mem[z]? = some (some y) → G.loc z y.gen = some Lb → Lb.blk = some B → w1.heap[B]? = w.heap[B]?)
  (H : ∀ B, L.blk = some B → ∀ (z : Nat) (y : c7) (Lb : rO), z ≠ b → mem[z]? = some (some y) → G.loc z y.gen = some Lb → Lb.blk ≠ some B)
  (Z : ∀ g, x'.gen < g → G.loc b g = none)
  (Y : L5 (G.put b x'.gen L) w1 b x') : aQ (G.put b x'.gen L) w1 (mem.set b (some x')) := by
 have hg := dA.put W
 have J : ∀ (z : Nat) (y : c7), (mem.set b (some x'))[z]? = some (some y) → (z = b ∧ y = x') ∨ (z ≠ b ∧ mem[z]? = some (some y)) := by
  intro z y h
  by_cases e : z = b
  ·subst e; rw [ye1 hb] at h; left; exact ⟨rfl, by simpa using h.symm⟩
  ·rw [yd1 (fun x => e x.symm)] at h; right; exact ⟨e, h⟩
 refine ⟨fun z y h => ?_, fun z g h => ?_, fun z y g h hlt => ?_, fun b1 b2 y1 y2 L1 L2 B h1 h2 U V k1 k2 => ?_, fun B h => O.own B (yt1 K.size h), O.lab, fun β B o h => yr1 (O.away β B o h) K.size, O.glob.mono (hg.prot true) (K.prot true)⟩
 ·rcases J z y h with ⟨rfl, rfl⟩ | ⟨e, h⟩
  ·exact Y
  ·have hx := O.box z y h
   obtain ⟨o, hl, hm⟩ := hx.loc
   refine ⟨hx.e, o, hg.loc _ _ _ hl, ?_⟩
   cases o with
   | none => exact hm
   | some B =>
    obtain ⟨hm1, hm2, hm3, hm4, hm5⟩ := hm
    have hh := N z y _ B e h hl rfl
    exact ⟨hm1, yr1 hm2 K.size, hm3.of_heap hh, hm4.mono hg K (fun o _ => dU hh o), hm5⟩
 ·by_cases e : z = b
  ·subst e; exact absurd (ye1 hb) (h x')
  ·rw [Gh.put_ne _ _ (fun x => e x.1)]
   exact O.unset z g fun x hx => h x (by rw [yd1 (fun x => e x.symm)]; exact hx)
 ·rcases J z y h with ⟨rfl, rfl⟩ | ⟨e, h⟩
  ·rw [Gh.put_ne _ _ (fun x => by omega)]; exact Z g hlt
  ·rw [Gh.put_ne _ _ (fun x => e x.1)]; exact O.gens z y g h hlt
 ·rcases J b1 y1 h1 with ⟨f1, f1'⟩ | ⟨e1, g1⟩ <;> rcases J b2 y2 h2 with ⟨f2, f2'⟩ | ⟨e2, g2⟩
  ·rw [f1, f2]
  ·subst f1 f1'
   rw [Gh.put_self] at U; rw [Gh.put_ne _ _ (fun x => e2 x.1)] at V
   obtain rfl : L = L1 := by simpa using U
   exact absurd k2 (H B k1 b2 y2 L2 e2 g2 V)
  ·subst f2 f2'
   rw [Gh.put_self] at V; rw [Gh.put_ne _ _ (fun x => e1 x.1)] at U
   obtain rfl : L = L2 := by simpa using V
   exact absurd k1 (H B k2 b1 y1 L1 e1 g1 U)
  ·rw [Gh.put_ne _ _ (fun x => e1 x.1)] at U; rw [Gh.put_ne _ _ (fun x => e2 x.1)] at V
   exact O.apart b1 b2 y1 y2 L1 L2 B g1 g2 U V k1 k2
theorem eL {w : World} {o : Obj} {B : Nat} (h : B < w.heap.size) : (w.alloc o).heap[B]? = w.heap[B]? := by
 simp only [World.alloc]; rw [Array.getElem?_push]; rw [if_neg (by omega)]
theorem z8 {w : World} {o : Obj} {B j : Nat} (h : B < w.heap.size) : cl (w.alloc o) B j = cl w B j := dU (eL h) j
theorem j2 {w : World} {c : Array Value} {t : TypeId} {fr : Nat × Nat} {j : Nat} : cl (w.alloc (.cells c t fr)) w.heap.size j = c[j]? := by
 unfold cl World.cell? World.alloc; simp
theorem yZ (w : World) (c : Array Value) (t : TypeId) (a : Addr) : (w.alloc (.cells c t)).frozen? a = w.frozen? a := by
 by_cases h : a.block < w.heap.size
 ·unfold World.frozen?; simp only [eL h]
 ·have H : w.heap[a.block]? = none := by simp; omega
  by_cases J : a.block = w.heap.size
  ·have z : (w.alloc (.cells c t)).heap[a.block]? = some (.cells c t) := by rw [J]; show (w.heap.push (.cells c t))[w.heap.size]? = _; simp
   unfold World.frozen?; simp [z, H]
  ·have z : (w.alloc (.cells c t)).heap[a.block]? = none := by show (w.heap.push (.cells c t))[a.block]? = none; rw [yg3]; simp; omega
   unfold World.frozen?; simp [z, H]
theorem iH.alloc {w : World} {c : Array Value} {t : TypeId} : iH (w.alloc (.cells c t)) w.heap.size := ⟨c, t, 0, 0, by show (w.heap.push _)[w.heap.size]? = _; simp, .inl rfl⟩
theorem Ev.alloc (G : Gh) (w : World) (o : Obj) (z : ∀ β B x, G.prot β B x → B < w.heap.size) (H : ∃ c t, o = .cells c t := by exact ⟨_, _, rfl⟩) : Ev G w (w.alloc o) where
 size := by simp
 out := rfl
 os := rfl
 away B hb _ := eL hb
 some B j h := by rw [z8 (B3 h)]; exact h
 prot β B j h := z8 (z β B j h)
 fz B o _ := by obtain ⟨c, t, rfl⟩ := H; exact yZ w c t _
 tape := rfl
theorem Ev.drew (G : Gh) (w : World) : Ev G w w.drew := Ev.of_eq rfl rfl rfl rfl
theorem c5 {w : World} {B B' : Nat} (h : B' ≠ B) : ∀ (vs : List Value) (o : Nat) (w : World), (w.setCells B o vs).heap[B']? = w.heap[B']?
 | [], _, _ => rfl
 | v :: r, o, w => by
  rw [World.setCells, c5 (w := w) h r]
  exact heap_setCell_other w ⟨B, o, none⟩ B' v h
theorem jB {B : Nat} : ∀ (vs : List Value) (o : Nat) (w : World), (w.setCells B o vs).heap.size = w.heap.size
 | [], _, _ => rfl
 | v :: r, o, w => by rw [World.setCells, jB r]; simp
theorem nU {B : Nat} : ∀ (vs : List Value) (o : Nat) (w : World), (w.setCells B o vs).output = w.output ∧ (w.setCells B o vs).os = w.os
 | [], _, _ => ⟨rfl, rfl⟩
 | v :: r, o, w => by rw [World.setCells]; exact nU r _ _
theorem rJ {B : Nat} : ∀ (vs : List Value) (o : Nat) (w : World), (w.setCells B o vs).tape = w.tape
 | [], _, _ => rfl
 | v :: r, o, w => by rw [World.setCells]; exact rJ r _ _
theorem kH {w : World} {B o : Nat} {vs : List Value} (h : ∀ j, j < vs.length → (cl w B (o + j)).isSome = true) {j : Nat} (z : j < vs.length) :
  cl (w.setCells B o vs) B (o + j) = some vs[j] := World.cell?_setCells_in B vs o w h j z
theorem jV {w : World} {B o : Nat} {vs : List Value} {j : Nat} (h : j < o ∨ o + vs.length ≤ j) : cl (w.setCells B o vs) B j = cl w B j :=
 World.cell?_setCells_out B vs o w ⟨B, j, none⟩ (fun _ _ => h)
theorem zB {w : World} {B o : Nat} {vs : List Value} (h : ∀ j, j < vs.length → (cl w B (o + j)).isSome = true) {B' j : Nat} (z : (cl w B' j).isSome = true) :
  (cl (w.setCells B o vs) B' j).isSome = true := by
 by_cases e : B' = B
 ·subst e
  by_cases H : j < o ∨ o + vs.length ≤ j
  ·rw [jV H]; exact z
  ·obtain ⟨k, rfl⟩ : ∃ k, j = o + k := ⟨j - o, by omega⟩
   rw [kH h (by omega)]; rfl
 ·rw [dU (c5 (w := w) e vs o w)]; exact z
theorem Az {w : World} {B o : Nat} {vs : List Value} (a : Addr) : (w.setCells B o vs).frozen? a = w.frozen? a := World.frozen?_setCells B vs o w a
theorem iH.setCell {w : World} {B o : Nat} {v : Value} (h : iH w B) : iH (w.setCell ⟨B, o, none⟩ v) B := by
 obtain ⟨c, el, z, K, H, J⟩ := h
 refine ⟨c.setIfInBounds o v, el, z, K, ?_, by simpa using J⟩
 unfold World.setCell
 simp [yt2, H]
theorem iH.setCells {B : Nat} : ∀ {vs : List Value} {o : Nat} {w : World}, iH w B → iH (w.setCells B o vs) B
 | [], _, _, h => h
 | v :: r, o, w, h => by rw [World.setCells]; exact iH.setCells h.setCell
theorem Ev.setCells {G : Gh} {w : World} {B o : Nat} {vs : List Value} (H : G.mine B) (h : ∀ j, j < vs.length → (cl w B (o + j)).isSome = true)
  (z : ∀ β j, ¬ G.prot β B j) : Ev G w (w.setCells B o vs) where
 size := by rw [jB]; exact yu _
 out := (nU vs o w).1
 os := (nU vs o w).2
 away B' hb hn := c5 (w := w) (fun e : B' = B => hn (by rw [e]; exact H)) vs o w
 some B' j hs := zB h hs
 prot β B' j hj := by
  by_cases e : B' = B
  ·subst e; exact absurd hj (z β j)
  ·exact dU (c5 (w := w) e vs o w) j
 fz B o _ := Az _
 tape := rJ vs o w
theorem aQ.make {G : Gh} {w : World} {mem : aW} {b : Nat} {row : Row} {c : Array Value} {t : TypeId} (H : aQ G w mem) (hb : mem[b]? = some none)
  (he : 1 ≤ row.e) (hr : nF (G.put b 0 ⟨some w.heap.size, row.e, row.len⟩) (w.alloc (.cells c t)) w.heap.size row) :
  aQ (G.put b 0 ⟨some w.heap.size, row.e, row.len⟩) (w.alloc (.cells c t)) (mem.set b (some { gen := 0, frz := false, row })) := by
 have N : b < mem.length := by
  rcases yu1 b mem.length with h | h
  ·exact h
  ·rw [yy h] at hb; cases hb
 have K : ∀ g, G.loc b g = none := fun g => H.unset b g (fun x hx => by rw [hb] at hx; cases hx)
 have U := Ev.alloc G w (.cells c t) H.away
 refine H.upd (x' := { gen := 0, frz := false, row }) U N (.inl (K 0)) ?_ ?_ (fun g _ => K g) ?_
 ·intro O y Y B _ Z V J
  obtain ⟨o, z, W⟩ := (H.box O y Z).loc
  rw [V] at z
  obtain rfl : Y = ⟨o, y.row.e, y.row.len⟩ := by simpa using z
  simp only at J; subst J
  exact eL W.2.1
 ·intro B hB O y Y _ Z V J
  simp only [Option.some.injEq] at hB; subst hB
  obtain ⟨o, z, W⟩ := (H.box O y Z).loc
  rw [V] at z
  obtain rfl : Y = ⟨o, y.row.e, y.row.len⟩ := by simpa using z
  simp only at J; subst J
  exact absurd W.2.1 (Nat.lt_irrefl _)
 ·refine ⟨he, some w.heap.size, by simp [Gh.put], H.own _ (yu _), by simp, iH.alloc, hr, fun _ β o hp => ?_⟩
  ·exact absurd (H.away β _ o hp) (Nat.lt_irrefl _)
theorem aQ.ev {G : Gh} {w N : World} {mem : aW} (H : aQ G w mem) (z : Ev G w N) (hs : N.heap.size = w.heap.size ∨ w.heap.size ≤ N.heap.size)
  (J : ∀ B, B < w.heap.size → N.heap[B]? = w.heap[B]?) : aQ G N mem where
 box b x h := by
  have Z := H.box b x h
  obtain ⟨o, hl, hm⟩ := Z.loc
  refine ⟨Z.e, o, hl, ?_⟩
  cases o with
  | none => exact hm
  | some B =>
   obtain ⟨W, K, V, O, U⟩ := hm
   have Y := J B K
   exact ⟨W, yr1 K z.size, V.of_heap Y, O.mono (dA.refl G) z (fun o _ => dU Y o), U⟩
 unset := H.unset
 gens := H.gens
 apart := H.apart
 own B h := H.own B (yt1 z.size h)
 lab := H.lab
 away β B o h := yr1 (H.away β B o h) z.size
 glob := H.glob.mono (fun _ _ h => h) (z.prot true)
end Go.Ab
end
section
namespace Go.Ab
variable [b8]
theorem aA {α : Type} {c : Bool} {x : Option α} {y : α} : guardB c x = some y ↔ c = true ∧ x = some y := by
 cases c <;> simp [guardB]
theorem i9 {a b : IntKind} : f6 a b = true ↔ a = b := by cases a <;> cases b <;> simp [f6]
section
variable {P : Program}
def k5 (P : Program) (G : Gh) (w : World) (mem : aW) (o : Oper) (a : Act) (out : dX) : Prop :=
 ∃ G' w' nx cv, (execOp a.eval o).run P w = .ok nx w' ∧ (nx = .value cv ∨ (nx = .skip ∧ cv = undef)) ∧ VR G' w' out.v cv ∧ dA G G' ∧ Ev G w w' ∧ aQ G' w' (out.apply mem)
theorem Bw (v : AV) (rd : List Nat) (mem : aW) : ({ v, rd } : dX).apply mem = mem := by simp [dX.apply, aN]
theorem k5.pure {G : Gh} {w : World} {mem : aW} {o : Oper} {a : Act} {v : AV} {rd : List Nat} {cv : Value} (J : aQ G w mem)
  (z : (execOp a.eval o).run P w = .ok (.value cv) w) (H : VR G w v cv) : k5 P G w mem o a { v, rd } :=
 ⟨G, w, .value cv, cv, z, .inl rfl, H, dA.refl G, Ev.refl G w, by rw [Bw]; exact J⟩
def Mh (G : Gh) (w : World) (ρ : Operand → Option AV) (a : Act) : Prop := ∀ x v, ρ x = some v → VR G w v (a.eval x)
theorem VR.lit_inv {G : Gh} {w : World} {v cv : Value} (h : VR G w (.lit v) cv) : cv = v := by cases h; rfl
theorem E7 (w : World) {t : TypeId} (a b : Bool) (h : P.underlying t = some .bool) : (binOp .eql t (.bool a) (.bool b)).run P w = .ok (.bool (a == b)) w := by
 have : (Op.equal t (.bool a) (.bool b)).run P w = .ok (a == b) w := run_equalIn_bool w 9999 t a b h
 simp only [binOp]; simp [this]
theorem Fz (w : World) {t : TypeId} (a b : Bool) (h : P.underlying t = some .bool) : (binOp .neq t (.bool a) (.bool b)).run P w = .ok (.bool (!(a == b))) w := by
 have : (Op.equal t (.bool a) (.bool b)).run P w = .ok (a == b) w := run_equalIn_bool w 9999 t a b h
 simp only [binOp]; simp [this]
theorem HB {op : BinOp} {t : TypeId} {x y : Operand} {a b r : Value} {w : World} (z : CH P t a b = true) (h : oK op a b = some r) :
  (eqGuard op t x y a b).run P w = .ok () w ∧ (binOp op t a b).run P w = .ok r w := by
 unfold oK at h
 split at h
 ·rename_i k a k' b
  refine ⟨by rw [eqGuard_at_int]; rfl, ?_⟩
  split at h <;> simp only [aA, Option.some.injEq, decide_eq_true_eq, yz, beq_eq_false_iff_ne, ne_eq] at h
  ·obtain ⟨K, rfl⟩ := h
   simp [binOp, Op.shift, Int.not_lt.2 K]
  ·obtain ⟨K, rfl⟩ := h
   simp [binOp, Op.shift, Int.not_lt.2 K]
  all_goals
   first
   | (obtain ⟨H, J, rfl⟩ := h; rw [i9] at H; subst H; simp [binOp, Op.intDiv, J])
   | (obtain ⟨H, rfl⟩ := h; rw [i9] at H; subst H; simp [binOp, Op.intArith, Op.intBits, Op.intCmp])
 ·rename_i a b
  have J : P.underlying t = some .bool := by
   simp only [CH, Ff] at z
   split at z <;> simp_all
  refine ⟨by rw [eqGuard_at_bool]; rfl, ?_⟩
  split at h <;> simp only [Option.some.injEq, reduceCtorEq] at h
  ·subst h; exact E7 w a b J
  ·subst h; exact Fz w a b J
 ·rename_i a b
  refine ⟨by rw [eqGuard_at_string]; rfl, ?_⟩
  split at h <;> simp only [Option.some.injEq, reduceCtorEq] at h
  ·subst h; simp [binOp, Op.stringOp]
  ·subst h; simp [binOp, Op.stringOp]
 ·simp at h
theorem CX {op : BinOp} {a b r : Value} (h : oK op a b = some r) : jT r = true := by
 unfold oK at h
 repeat' split at h
 all_goals (simp only [aA, Option.some.injEq, reduceCtorEq] at h)
 all_goals first
  | (subst h; rfl)
  | (obtain ⟨_, rfl⟩ := h; rfl)
  | (obtain ⟨_, _, rfl⟩ := h; rfl)
theorem FL {op : UnOp} {a r : Value} (h : Di op a = some r) : jT r = true := by
 unfold Di at h
 split at h <;> simp only [Option.some.injEq, reduceCtorEq] at h <;> subst h <;> rfl
theorem Ja {op : UnOp} {a r : Value} {w : World} (h : Di op a = some r) : (Op.unary op a).run P w = .ok r w := by
 unfold Di at h
 split at h <;> simp only [Option.some.injEq, reduceCtorEq] at h <;> subst h <;> simp [Op.unary, Op.intArith, Op.intBits]
theorem zO {t : TypeId} {d : TypeDesc} (J : P.underlying t = some d) (h1 : ∀ fs, d ≠ .struct fs) (h2 : ∀ n e, d ≠ .array n e) {cs : Array Value} {o : Nat} {v : Value} (H : cs[o]? = some v) (w : World) :
  (part t cs o).run P w = .ok v w := by
 have z : (isAgg t).run P w = .ok false w := by
  simp only [isAgg, Sem.run_bind, run_underlying J, Result.andThen_ok]
  rfl
 simp only [part, Sem.run_bind, z, Result.andThen_ok, yy1, if_false, H]
 rfl
theorem FB (d : Nat) (G : Gh) (w : World) : ∀ (fs : List Field) (n : Nat) (xs H : List AV) (as bs : List Value) (A B : Array Value) (r : Bool),
  (xs.length = as.length ∧ ∀ (j : Nat) (y : AV), xs[j]? = some y → VR G w y (as.getD j undef)) → (H.length = bs.length ∧ ∀ (j : Nat) (y : AV), H[j]? = some y → VR G w y (bs.getD j undef)) →
  (∀ j : Nat, j < as.length → A[n + j]? = as[j]?) → (∀ j : Nat, j < bs.length → B[n + j]? = bs[j]?) → i6 P fs n xs H = some r →
  (Op.eqFields (d + 1) A B fs).run P w = .ok r w := by
 intro fs
 induction fs with
 | nil =>
  intro n xs H as bs A B r _ _ _ _ h
  cases xs <;> cases H <;> simp [i6] at h
  subst h
  simp [Op.eqFields]
 | cons f fs ih =>
  intro n xs H as bs A B r W Z hA hB h
  cases xs with
  | nil => simp [i6] at h
  | cons x xs =>
  cases H with
  | nil => simp [i6] at h
  | cons y H =>
  cases as with
  | nil => simp at W
  | cons a as =>
  cases bs with
  | nil => simp at Z
  | cons b bs =>
   have Y := W.2 0 x rfl
   have h2 := Z.2 0 y rfl
   simp only [List.getD_cons_zero] at Y h2
   have ha' : xs.length = as.length ∧ ∀ (j : Nat) (y : AV), xs[j]? = some y → VR G w y (as.getD j undef) := ⟨by simpa using W.1, fun j y hy => by simpa using W.2 (j + 1) y (by simpa using hy)⟩
   have hb' : H.length = bs.length ∧ ∀ (j : Nat) (y : AV), H[j]? = some y → VR G w y (bs.getD j undef) := ⟨by simpa using Z.1, fun j y hy => by simpa using Z.2 (j + 1) y (by simpa using hy)⟩
   simp only [i6, aA, yc, bne_iff_ne, ne_eq] at h
   obtain ⟨⟨hn, z⟩, h⟩ := h
   have z := Nat.eq_of_beq_eq_true z
   obtain ⟨q, N, h⟩ := yz1.1 h
   obtain ⟨r', hr, rfl⟩ := yd.1 h
   have h0a : A[f.offset]? = some a := by rw [z]; simpa using hA 0 (by simp)
   have h0b : B[f.offset]? = some b := by rw [z]; simpa using hB 0 (by simp)
   have K : (Op.equalIn (d + 1) f.type a b).run P w = .ok q w ∧ ∃ dd, P.underlying f.type = some dd ∧ (∀ fs, dd ≠ .struct fs) ∧ (∀ n e, dd ≠ .array n e) := by
    unfold zE at N
    split at N
    ·rename_i k1 k x k' y J
     obtain ⟨hk, hq2⟩ := aA.1 N
     rw [i9] at hk; subst hk
     obtain rfl := Y.lit_inv; obtain rfl := h2.lit_inv
     obtain rfl := ya hq2
     exact ⟨run_equalIn_int w d f.type k k1 x y J, _, J, by simp, by simp⟩
    ·rename_i x y J
     obtain rfl := Y.lit_inv; obtain rfl := h2.lit_inv
     obtain rfl := ya N
     exact ⟨run_equalIn_bool w d f.type x y J, _, J, by simp, by simp⟩
    ·rename_i x y J
     obtain rfl := Y.lit_inv; obtain rfl := h2.lit_inv
     obtain rfl := ya N
     exact ⟨run_equalIn_string w d f.type x y J, _, J, by simp, by simp⟩
    ·simp at N
   obtain ⟨hqr, dd, V, U, O⟩ := K
   have e1 : (Op.eqFields (d + 1) A B (f :: fs)).run P w = (if (!q) = true then (Pure.pure false : Sem Bool) else Op.eqFields (d + 1) A B fs).run P w := by
    simp only [Op.eqFields]
    rw [if_pos hn]
    simp only [Sem.run_bind, zO V U O h0a, zO V U O h0b, hqr, Result.andThen_ok]
   rw [e1]
   cases q with
   | false => rfl
   | true =>
    rw [Bool.true_and]
    refine Eq.trans ?_ <| ih (n + 1) xs H as bs A B r' ha' hb' (fun j hj => by have := hA (j + 1) (by simpa using hj); rw [show n + 1 + j = n + (j + 1) by omega]; simpa using this)
     (fun j hj => by have := hB (j + 1) (by simpa using hj); rw [show n + 1 + j = n + (j + 1) by omega]; simpa using this) hr
    rfl
theorem VR.agg_inv {G : Gh} {w : World} {cs : List AV} {cv : Value} (h : VR G w (.agg cs) cv) : ∃ cvs : Array Value, cv = .agg cvs ∧ nE G w cs cvs := by
 cases h with
 | agg _ cvs z h => exact ⟨cvs, rfl, z, h⟩
theorem rL {G : Gh} {w : World} {t : TypeId} {xs J : List AV} {A B : Array Value} {r : Bool} (h : kB P t xs J = some r) (K : nE G w xs A) (V : nE G w J B) (x y : Operand) :
  (Op.equalIn 10000 t (.agg A) (.agg B)).run P w = .ok r w ∧ P.eqGuardType P.depth t = false := by
 unfold kB at h
 split at h
 ·rename_i fs U
  obtain ⟨z, h⟩ := aA.1 h
  simp only [yc, yz] at z
  have O : P.fieldsOf t = fs := by simp [Program.fieldsOf, U]
  refine ⟨?_, z.2⟩
  rw [show (10000 : Nat) = 9999 + 1 from rfl, run_equalIn_agg w 9999 t A B (by rw [O]; exact U) z.1, O]
  have N : ∀ (C : Array Value) (j : Nat), C.toList.getD j undef = C.getD j undef := by
   intro C j; simp [yl, yk]
  exact FB 9998 G w fs.toList 0 xs J A.toList B.toList A B r ⟨by simpa using K.1, fun j y H => by rw [N]; exact K.2 j y H⟩ ⟨by simpa using V.1, fun j y H => by rw [N]; exact V.2 j y H⟩
   (fun j _ => by simp) (fun j _ => by simp) h
 ·simp at h
theorem VR.tree_slice {G : Gh} {w : World} {β : Bool} {p : PV} {H : Value} {e : Bool} (K : VR G w (.imm β p) H) (h : iU p = some e) : ∃ a l c, H = .slice a l c ∧ (e = false → a.isNone = false) := by
 cases K with
 | imm _ _ _ N hs =>
  cases N with
  | lit _ _ => cases h
  | intsNil k a => simp only [iU, Option.some.injEq] at h; subst h; exact ⟨_, _, _, rfl, fun h => by cases h⟩
  | ints k xs B o cap z O => exact ⟨_, _, _, rfl, fun _ => rfl⟩
  | slNil k a => simp only [iU, Option.some.injEq] at h; subst h; exact ⟨_, _, _, rfl, fun h => by cases h⟩
  | sl e' xs B o cap cv he z J O h3 h4 => exact ⟨_, _, _, rfl, fun _ => rfl⟩
  | agg _ _ _ _ => cases h
 | unkB b => cases h
 | dead _ _ _ => cases h
theorem Ga {t : TypeId} (h : vL P t = true) : ∃ e, P.underlying t = some (.slice e) := by
 unfold vL at h
 split at h
 ·rename_i e z; exact ⟨e, z⟩
 ·cases h
theorem eS {G : Gh} {w : World} (op : BinOp) (t : TypeId) (x y : Operand) (a b : Option Addr) (l c z H : Nat) : (eqGuard op t x y (.slice a l c) (.slice b z H)).run P w = .ok () w := by
 unfold eqGuard
 split <;> rfl
theorem AB {w : World} (d : Nat) {t e : TypeId} {a : Option Addr} {l c : Nat} (z : P.underlying t = some (.slice e)) : (Op.equalIn (d + 1) t (.slice a l c) (.slice none 0 0)).run P w = .ok a.isNone w := by
 cases a <;> simp [Op.equalIn, run_underlying z]
theorem j6 {G : Gh} {w : World} {op : BinOp} {t : TypeId} {a : Option Addr} {l c : Nat} (H : vL P t = true) :
  (binOp .eql t (.slice a l c) (.slice none 0 0)).run P w = .ok (.bool a.isNone) w ∧ (binOp .neq t (.slice a l c) (.slice none 0 0)).run P w = .ok (.bool (!a.isNone)) w := by
 obtain ⟨e, z⟩ := Ga H
 have h : (Op.equal t (.slice a l c) (.slice none 0 0)).run P w = .ok a.isNone w := AB 9999 z
 constructor
 ·simp only [binOp, Sem.run_bind, h, Result.andThen_ok]; rfl
 ·simp only [binOp, Sem.run_bind, h, Result.andThen_ok]; rfl
theorem KA {G : Gh} {w : World} {op : BinOp} {t : TypeId} {x y : Operand} {a b r : AV} {U V : Value} (h : oW P op t a b = some r) (H : VR G w a U) (O : VR G w b V) :
    ∃ cv, (eqGuard op t x y U V).run P w = .ok () w ∧ (binOp op t U V).run P w = .ok cv w ∧ VR G w r cv := by
  unfold oW at h
  split at h
  · rename_i β p
    obtain rfl := O.lit_inv
    split at h
    · obtain ⟨z, h⟩ := aA.1 h
      obtain ⟨e, Y, rfl⟩ := yd.1 h
      obtain ⟨aa, l, c, rfl, W⟩ := H.tree_slice Y
      refine ⟨.bool aa.isNone, eS (G := G) _ t x y _ _ _ _ _ _, (j6 (G := G) (op := .eql) z).1, ?_⟩
      cases e with
      | true => exact .unkB _
      | false => rw [W rfl]; exact .lit _ rfl
    · obtain ⟨z, h⟩ := aA.1 h
      obtain ⟨e, Y, rfl⟩ := yd.1 h
      obtain ⟨aa, l, c, rfl, W⟩ := H.tree_slice Y
      refine ⟨.bool (!aa.isNone), eS (G := G) _ t x y _ _ _ _ _ _, (j6 (G := G) (op := .neq) z).2, ?_⟩
      cases e with
      | true => exact .unkB _
      | false => rw [W rfl]; exact .lit _ rfl
    · cases h
  · obtain rfl := H.lit_inv; obtain rfl := O.lit_inv
    split at h
    · obtain ⟨z, h⟩ := aA.1 h
      obtain rfl := ya h
      exact ⟨.bool true, eS (G := G) _ t x y _ _ _ _ _ _, (j6 (G := G) (op := .eql) z).1, .lit _ rfl⟩
    · obtain ⟨z, h⟩ := aA.1 h
      obtain rfl := ya h
      exact ⟨.bool false, eS (G := G) _ t x y _ _ _ _ _ _, (j6 (G := G) (op := .neq) z).2, .lit _ rfl⟩
    · cases h
  · rename_i a b _
    obtain ⟨hok, h⟩ := aA.1 h
    obtain ⟨v, hv, rfl⟩ := yd.1 h
    obtain rfl := H.lit_inv; obtain rfl := O.lit_inv
    obtain ⟨J, N⟩ := HB (P := P) (x := x) (y := y) (w := w) hok hv
    exact ⟨v, J, N, .lit v (CX hv)⟩
  · rename_i as bs
    obtain ⟨A, rfl, hA⟩ := H.agg_inv
    obtain ⟨B, rfl, hB⟩ := O.agg_inv
    split at h
    · obtain ⟨q, Z, rfl⟩ := yd.1 h
      obtain ⟨J, N⟩ := rL Z hA hB x y
      exact ⟨.bool q, run_eqGuard_agg w _ t x y A B N, by rw [run_eql_struct, J]; rfl, .lit _ rfl⟩
    · obtain ⟨q, Z, rfl⟩ := yd.1 h
      obtain ⟨J, N⟩ := rL Z hA hB x y
      exact ⟨.bool (!q), run_eqGuard_agg w _ t x y A B N, by rw [run_neq_struct, J]; rfl, .lit _ rfl⟩
    · simp at h
  all_goals first
    | (simp at h; done)
    | (obtain rfl := O.lit_inv
       have hp : ∃ p, U = .pointer (some p) := by cases H <;> exact ⟨_, rfl⟩
       obtain ⟨p, rfl⟩ := hp
       split at h
       · obtain ⟨K, h⟩ := aA.1 h
         have hu : P.underlying t = some (.pointer (P.pointee t)) := by
           unfold D9 at K; split at K <;> simp_all [Program.pointee]
         simp only [Option.some.injEq] at h; subst h
         exact ⟨.bool false, by rw [eqGuard_at_pointer]; rfl, by rw [run_eql_pointer_nil w t _ hu]; rfl, .lit _ rfl⟩
       · obtain ⟨K, h⟩ := aA.1 h
         have hu : P.underlying t = some (.pointer (P.pointee t)) := by
           unfold D9 at K; split at K <;> simp_all [Program.pointee]
         simp only [Option.some.injEq] at h; subst h
         exact ⟨.bool true, by rw [eqGuard_at_pointer]; rfl, by rw [run_neq_pointer_nil w t _ hu]; rfl, .lit _ rfl⟩
       · simp at h)
end
end Go.Ab
end
section
namespace Go.Ab
variable [b8]
section
variable {P : Program}
theorem bind_some {α β : Type} {x : Option α} {f : α → Option β} {y : β} : x.bind f = some y ↔ ∃ a, x = some a ∧ f a = some y := yz1
theorem yL {α : Type} {c : Bool} {a b : α} : (bif c then some a else none) = some b ↔ c = true ∧ a = b := by cases c <;> simp
theorem cN {a b : Nat} : Nat.beq a b = true ↔ a = b := ⟨Nat.eq_of_beq_eq_true, fun h => by subst h; exact ym3 a⟩
theorem d5 {a b : Nat} : Nat.ble a b = true ↔ a ≤ b := by rw [Nat.ble_eq]
theorem qK {t : TypeId} {b : Bool} (h : isAgg? P t = some b) (w : World) : (isAgg t).run P w = .ok b w := by
 unfold isAgg? at h
 split at h
 ·rename_i d; simp only [isAgg, Sem.run_bind, run_underlying d, Result.andThen_ok]; obtain rfl := ya h; rfl
 ·rename_i d; simp only [isAgg, Sem.run_bind, run_underlying d, Result.andThen_ok]; obtain rfl := ya h; rfl
 ·rename_i J z H d
  obtain rfl := ya h
  simp only [isAgg, Sem.run_bind, run_underlying d, Result.andThen_ok]
  cases J <;> first | rfl | exact absurd rfl (z _) | exact absurd rfl (H _ _)
 ·simp at h
theorem KF {t : TypeId} {n : Nat} (h : j0 P t = some n) : ∃ i, P.info? t = some i ∧ i.size = n := by
 unfold j0 at h
 obtain ⟨i, H, z⟩ := yd.1 h
 exact ⟨i, H, z⟩
theorem c8 {t : TypeId} {n : Nat} (h : j0 P t = some n) (w : World) : (sizeOf t).run P w = .ok n w := by
 obtain ⟨i, z, rfl⟩ := KF h
 simp [sizeOf, typeInfo, z]
theorem cT (B o n : Nat) : (⟨B, o, none⟩ : Addr).add n = ⟨B, o + n, none⟩ := by
 unfold Addr.add; split <;> simp_all
theorem oN {t : TypeId} {n B o : Nat} (z : isAgg? P t = some true) (H : j0 P t = some n) {w : World} (f : Nat → Value) (h : ∀ j, j < n → cl w B (o + j) = some (f j)) :
  (loadVar t ⟨B, o, none⟩).run P w = .ok (.agg ((List.range n).map f).toArray) w := by
 have K := run_loadCells (P := P) w ⟨B, o, none⟩ n f (fun j J => by rw [cT]; exact h j J)
 simp only [loadVar, Sem.run_bind, qK z, c8 H, Result.andThen_ok, if_true, K, Sem.run_pure]
theorem jS {t : TypeId} {B o : Nat} (z : isAgg? P t = some false) {w : World} {v : Value} (h : cl w B o = some v) :
  (loadVar t ⟨B, o, none⟩).run P w = .ok v w := by
 have H : w.cell? ⟨B, o, none⟩ = some v := h
 simp only [loadVar, Sem.run_bind, qK z, Result.andThen_ok, yy1, if_false, run_load, H]
theorem PR.lit_inv {w : World} {z : Nat → Nat → Prop} {v cv : Value} (h : PR w z (.lit v) cv) : cv = v := by cases h; rfl
theorem oE {G : Gh} {w : World} {β : Bool} {l : LK} {q : PV} {a : AV} {v : Value} (h : iX β l q = some a) (J : PR w (G.prot β) q v) : VR G w a v := by
 unfold iX at h
 split at h
 ·rw [bind_some] at h; obtain ⟨x, z, h⟩ := h
  obtain rfl := ya h
  unfold PV.int? at z
  split at z
  ·rename_i K n
   rw [yL] at z; obtain ⟨H, z⟩ := z
   subst z; rw [i9] at H; subst H
   rw [J.lit_inv]; exact .lit _ rfl
  ·simp at z
 ·rw [bind_some] at h; obtain ⟨x, z, h⟩ := h
  obtain rfl := ya h
  unfold PV.bool? at z
  split at z
  ·obtain rfl := ya z
   rw [J.lit_inv]; exact .lit _ rfl
  ·simp at z
 ·rw [bind_some] at h; obtain ⟨x, z, h⟩ := h
  obtain rfl := ya h
  unfold PV.str? at z
  split at z
  ·obtain rfl := ya z
   rw [J.lit_inv]; exact .lit _ rfl
  ·simp at z
 ·rw [bind_some] at h; obtain ⟨x, z, h⟩ := h
  obtain rfl := ya h
  unfold PV.ints? at z
  split at z
  ·rename_i K xs
   rw [yL] at z; obtain ⟨H, z⟩ := z
   subst z; rw [i9] at H; subst H
   exact .imm β _ v J rfl
  ·simp at z
 ·rw [bind_some] at h; obtain ⟨x, z, h⟩ := h
  obtain rfl := ya h
  unfold PV.sl? at z
  split at z
  ·rename_i e' xs
   rw [yL] at z; obtain ⟨H, z⟩ := z
   subst z; rw [cN] at H; subst H
   exact .imm β _ v J rfl
  ·simp at z
theorem kZ {G : Gh} {w : World} {β : Bool} {cs : List PV} : ∀ {J : List LK} {c : Nat} {as : List AV}, e7 β cs J c = some as →
  as.length = J.length ∧ ∀ (f : Nat → Value), (∀ (j : Nat) (y : PV), cs[c + j]? = some y → j < J.length → PR w (G.prot β) y (f j)) →
   (∀ j, j < J.length → ∃ y, cs[c + j]? = some y) ∧ ∀ (j : Nat) (y : AV), as[j]? = some y → VR G w y (f j)
 | [], c, as, h => by
  simp [e7] at h; subst h
  exact ⟨rfl, fun f _ => ⟨fun j H => absurd H (by simp), fun j y z => by simp at z⟩⟩
 | l :: r, c, as, h => by
  simp only [e7] at h
  rw [bind_some] at h; obtain ⟨q, O, h⟩ := h
  rw [bind_some] at h; obtain ⟨a, U, h⟩ := h
  rw [bind_some] at h; obtain ⟨Y, K, h⟩ := h
  obtain rfl := ya h
  obtain ⟨V, Z⟩ := kZ (G := G) (w := w) K
  refine ⟨by simp [V], fun f N => ?_⟩
  obtain ⟨i1, W⟩ := Z (fun j => f (j + 1)) (fun j y z H => N (j + 1) y (by rw [show c + (j + 1) = c + 1 + j by omega]; exact z) (by simpa using H))
  refine ⟨fun j H => ?_, fun j y z => ?_⟩
  ·cases j with
   | zero => exact ⟨q, O⟩
   | succ j => obtain ⟨y, z⟩ := i1 j (by simpa using H); exact ⟨y, by rw [show c + (j + 1) = c + 1 + j by omega]; exact z⟩
  ·cases j with
   | zero => simp at z; subst z; exact oE U (N 0 q O (by simp))
   | succ j => exact W j y (by simpa using z)
theorem D2 {G : Gh} {w : World} {β : Bool} {t : TypeId} {p : PV} {c B o : Nat} {a : AV} {cv : Nat → Value} (h : Ix P β t p c = some a)
  (W : ∀ j y, p.cells[j]? = some y → cl w B (o + j) = some (cv j)) (U : ∀ j y, p.cells[j]? = some y → PR w (G.prot β) y (cv j)) :
  ∃ v, (loadVar t ⟨B, o + c, none⟩).run P w = .ok v w ∧ VR G w a v := by
 unfold Ix at h
 split at h
 ·rename_i z
  rw [bind_some] at h; obtain ⟨ls, Y, h⟩ := h
  rw [bind_some] at h; obtain ⟨n, Z, h⟩ := h
  rw [aA] at h; obtain ⟨N, h⟩ := h
  obtain rfl := cN.1 N
  rw [bind_some] at h; obtain ⟨as, O, h⟩ := h
  obtain rfl := ya h
  obtain ⟨J, hf⟩ := kZ (G := G) (w := w) O
  obtain ⟨f1, f2⟩ := hf (fun j => cv (c + j)) (fun j y H _ => U _ y H)
  refine ⟨_, oN z Z (fun j => cv (c + j)) (fun j K => ?_), .agg _ _ (by simp [J]) fun j y H => ?_⟩
  ·obtain ⟨y, H⟩ := f1 j K
   rw [show o + c + j = o + (c + j) by omega]; exact W _ y H
  ·have K : j < ls.length := by rw [← J]; exact (yf.1 H).1
   have := f2 j y H
   simpa [yk, K] using this
 ·rename_i z
  rw [bind_some] at h; obtain ⟨l, J, h⟩ := h
  rw [bind_some] at h; obtain ⟨q, V, h⟩ := h
  exact ⟨cv c, jS z (W c q V), oE h (U c q V)⟩
 ·simp at h
theorem box?_some {mem : aW} {b g : Nat} {x : c7} (h : box? mem b g = some x) : mem[b]? = some (some x) ∧ x.gen = g := by
 unfold box? at h
 split at h
 ·rename_i y e
  cases z : Nat.beq y.gen g <;> simp [z] at h
  subst h; exact ⟨e, cN.1 z⟩
 ·simp at h
theorem aQ.at_ptr {G : Gh} {w : World} {mem : aW} (V : aQ G w mem) {b g i c : Nat} {x : c7} {cv : Value} (N : box? mem b g = some x) (h : VR G w (.ptr b g i c) cv) :
  ∃ B, cv = .pointer (some ⟨B, i * x.row.e + c, none⟩) ∧ G.loc b g = some ⟨some B, x.row.e, x.row.len⟩ ∧ G.mine B ∧ B < w.heap.size ∧
   iH w B ∧ nF G w B x.row ∧ (x.frz = false → ∀ β o, ¬ G.prot β B o) := by
 obtain ⟨hm, rfl⟩ := box?_some N
 have hb := V.box b x hm
 obtain ⟨o, z, O⟩ := hb.loc
 cases h with
 | ptr _ _ _ _ L B H J =>
  rw [z] at H
  obtain rfl := ya H
  simp only at J; subst J
  obtain ⟨U, Y, Z, K, W⟩ := O
  exact ⟨B, rfl, z, U, Y, Z, K, W⟩
theorem zP {G : Gh} {w : World} {mem : aW} {t : TypeId} {a : AV} {out : dX} {cv : Value} (hM : aQ G w mem) (h : iN P t mem a = some out) (ha : VR G w a cv) :
  ∃ v rd, out = { v, rd } ∧ ∃ z, (Instr.loadAt t cv).run P w = .ok z w ∧ VR G w v z := by
 unfold iN at h
 split at h
 ·rename_i β p c
  obtain ⟨v, U, rfl⟩ := yd.1 h
  refine ⟨v, [], rfl, ?_⟩
  cases ha with
  | el _ _ _ B o f h hr =>
   obtain ⟨z, N, J⟩ := D2 (P := P) (w := w) (o := o) (B := B) U (fun j y Y => (h j y Y).1) hr
   exact ⟨z, by simp [Instr.loadAt, Instr.sureAddr, N], J⟩
 ·rename_i b g i c
  rw [bind_some] at h; obtain ⟨x, hx, h⟩ := h
  obtain ⟨B, rfl, hl, hmine, hB, hfz, V, hpr⟩ := hM.at_ptr hx ha
  have W : ∀ z, (loadVar t ⟨B, i * x.row.e + c, none⟩).run P w = .ok z w → (Instr.loadAt t (.pointer (some ⟨B, i * x.row.e + c, none⟩))).run P w = .ok z w := by
   intro z hh; simp [Instr.loadAt, Instr.sureAddr, hh]
  obtain ⟨gen, frz, row⟩ := x
  split at h
  ·rename_i e cs H
   simp only at H; subst H
   rw [bind_some] at h; obtain ⟨ag, O, h⟩ := h
   obtain ⟨_, K⟩ := V
   cases ag with
   | true =>
    simp only [yg] at h
    rw [bind_some] at h; obtain ⟨n, hn, h⟩ := h
    rw [aA] at h; obtain ⟨hle, h⟩ := h
    have hle := d5.1 hle
    obtain rfl := ya h
    refine ⟨_, _, rfl, _, W _ (oN O hn (fun j => (cl w B (i * e + c + j)).getD undef) (fun j hj => ?_)), .agg _ _ ?_ ?_⟩
    ·obtain ⟨v, U, _, _⟩ := K (i * e + c + j) (cs[i * e + c + j]'(by omega)) (ye _)
     show cl w B _ = _
     simp only [Row.e]; rw [U]; rfl
    ·simp; omega
    ·intro j y Y
     have hj : j < n := by have := (yf.1 Y).1; simp at this; omega
     have hy' : cs[i * e + c + j]? = some y := by
      rw [yg1 hj, ya1] at Y; exact Y
     obtain ⟨v, U, _, J⟩ := K _ y hy'
     simpa [yk, hj, U] using J
   | false =>
    simp only [yh] at h
    obtain ⟨v, U, rfl⟩ := yd.1 h
    obtain ⟨u, hu, _, J⟩ := K _ v U
    exact ⟨_, _, rfl, u, W _ (jS O hu), J⟩
  ·rename_i k xs H
   simp only at H; subst H
   rw [aA] at h; obtain ⟨hc0, h⟩ := h
   obtain rfl := cN.1 hc0
   rw [aA] at h; obtain ⟨O, h⟩ := h
   obtain ⟨v, U, rfl⟩ := yd.1 h
   have hc := V i v U
   have Z : isAgg? P t = some false := by
    cases hh : isAgg? P t with
    | none => simp [hh] at O
    | some q => cases q <;> simp [hh] at O ⊢
   exact ⟨_, _, rfl, _, W _ (jS Z (by simpa [Row.e] using hc)), .lit _ rfl⟩
  ·rename_i β e xs H
   simp only at H; subst H
   rw [bind_some] at h; obtain ⟨p, hp, h⟩ := h
   obtain ⟨v, U, rfl⟩ := yd.1 h
   obtain ⟨_, K⟩ := V
   obtain ⟨z, N, J⟩ := D2 (P := P) (w := w) (G := G) (o := i * e) (B := B) (cv := fun j => (cl w B (i * e + j)).getD undef) U
    (fun j y Y => by obtain ⟨u, hu, _, _⟩ := K i p j y hp Y; rw [hu]; rfl)
    (fun j y Y => by obtain ⟨u, hu, _, hpr⟩ := K i p j y hp Y; rw [hu]; exact hpr)
   exact ⟨_, _, rfl, z, W _ N, J⟩
 ·simp at h
end
end Go.Ab
end
section
namespace Go.Ab
variable [b8]
section
variable {P : Program}
theorem yM {α : Type} {xs : List α} {i : Int} {v : α} (h : c0 xs i = some v) : 0 ≤ i ∧ i.toNat < xs.length ∧ xs[i.toNat]? = some v := by
 unfold c0 at h
 cases z : decide (0 ≤ i) <;> simp only [z, yg, yh, reduceCtorEq] at h
 exact ⟨of_decide_eq_true z, (yf.1 h).1, h⟩
theorem fE (k : IntKind) (i : Int) (w : World) : (asIntOf (.int k i)).run P w = .ok (k, i) w := rfl
theorem eO {t z : TypeId} {s B o len cap : Nat} {k : IntKind} {i : Int} (H : P.underlying t = some (.slice z)) (J : j0 P z = some s) (N : 0 ≤ i) (K : i < (len : Int)) (w : World) :
  (Instr.indexAt t (.slice (some ⟨B, o, none⟩) len cap) (.int k i)).run P w = .ok (.pointer (some ⟨B, o + i.toNat * s, none⟩)) w := by
 simp only [Instr.indexAt, Sem.run_bind, fE, Result.andThen_ok, run_underlying H, Sem.run_pure, N, K, and_self, if_true, c8 J, cT]
theorem wX {t z : TypeId} {s B o n : Nat} {k : IntKind} {i : Int} (H : P.underlying t = some (.array n z)) (J : j0 P z = some s) (N : 0 ≤ i) (K : i < (n : Int)) (w : World) :
  (Instr.indexAt t (.pointer (some ⟨B, o, none⟩)) (.int k i)).run P w = .ok (.pointer (some ⟨B, o + i.toNat * s, none⟩)) w := by
 simp only [Instr.indexAt, Sem.run_bind, fE, Result.andThen_ok, run_underlying H, Sem.run_pure, N, K, and_self, if_true, c8 J, cT, Instr.sureAddr]
theorem aQ.at_ms {G : Gh} {w : World} {mem : aW} (hM : aQ G w mem) {b g o n : Nat} {x : c7} {cv : Value} (Z : box? mem b g = some x) (h : VR G w (.ms b g o n) cv) :
  (∃ B cap, cv = .slice (some ⟨B, o * x.row.e, none⟩) n cap ∧ n ≤ cap ∧ o + n ≤ x.row.len ∧ G.loc b g = some ⟨some B, x.row.e, x.row.len⟩ ∧ BH w B ((o + cap) * x.row.e) ∧ G.mine B ∧ B < w.heap.size ∧
   iH w B ∧ nF G w B x.row ∧ (x.frz = false → ∀ β o, ¬ G.prot β B o)) ∨
  (cv = .slice none 0 0 ∧ o = 0 ∧ n = 0 ∧ x.row.len = 0 ∧ G.loc b g = some ⟨none, x.row.e, x.row.len⟩) ∨
  (∃ B N, cv = .slice (some ⟨B, N, none⟩) 0 0 ∧ 1 ≤ o ∧ n = 0 ∧ o ≤ x.row.len ∧ G.loc b g = some ⟨some B, x.row.e, x.row.len⟩) := by
 obtain ⟨hm, rfl⟩ := box?_some Z
 have hb := hM.box b x hm
 obtain ⟨N, K, O⟩ := hb.loc
 cases h with
 | ms _ _ _ _ cap L B z H U J Y =>
  rw [K] at z
  obtain rfl := ya z
  simp only at H; subst H
  obtain ⟨h1, h2, h3, V, h5⟩ := O
  exact .inl ⟨B, cap, rfl, U, J, K, Y, h1, h2, h3, V, h5⟩
 | msNil _ _ L z H =>
  rw [K] at z
  obtain rfl := ya z
  simp only at H; subst H
  exact .inr (.inl ⟨rfl, rfl, rfl, O.1, K⟩)
 | msZ _ _ _ B N L z H W J =>
  rw [K] at z
  obtain rfl := ya z
  simp only at H; subst H
  exact .inr (.inr ⟨B, N, rfl, W, rfl, J, K⟩)
theorem aQ.at_msw {G : Gh} {w : World} {mem : aW} (Y : aQ G w mem) {b g : Nat} {x : c7} {cv : Value} (V : box? mem b g = some x) (h : VR G w (.msw b g) cv) :
  (∃ B cap, cv = .slice (some ⟨B, 0, none⟩) x.row.len cap ∧ x.row.len ≤ cap ∧ G.loc b g = some ⟨some B, x.row.e, x.row.len⟩ ∧ BH w B (cap * x.row.e) ∧ G.mine B ∧ B < w.heap.size ∧
   iH w B ∧ nF G w B x.row ∧ (x.frz = false → ∀ β o, ¬ G.prot β B o)) ∨
  (cv = .slice none 0 0 ∧ x.row.len = 0 ∧ x.row.isCells = false ∧ G.loc b g = some ⟨none, x.row.e, x.row.len⟩) := by
 obtain ⟨hm, rfl⟩ := box?_some V
 have hb := Y.box b x hm
 obtain ⟨oo, J, K⟩ := hb.loc
 cases h with
 | msw _ _ cap L B z H N U =>
  rw [J] at z
  obtain rfl := ya z
  simp only at H; subst H
  obtain ⟨W, h2, h3, O, Z⟩ := K
  exact .inl ⟨B, cap, rfl, N, J, U, W, h2, h3, O, Z⟩
 | mswNil _ _ L z H N =>
  rw [J] at z
  obtain rfl := ya z
  simp only at H; subst H
  exact .inr ⟨rfl, K.1, K.2, J⟩
theorem Fh {G : Gh} {w : World} {mem : aW} {t : TypeId} {x : AV} {k : IntKind} {i : Int} {out : dX} {cv : Value} (hM : aQ G w mem) (h : iF P t mem x i = some out) (Y : VR G w x cv) :
  ∃ v rd, out = { v, rd } ∧ ∃ cv', (Instr.indexAt t cv (.int k i)).run P w = .ok cv' w ∧ VR G w v cv' := by
 unfold iF at h
 split at h
 ·rename_i et V
  rw [bind_some] at h; obtain ⟨s, U, h⟩ := h
  split at h
  ·rename_i β kk xs
   rw [aA] at h; obtain ⟨z, h⟩ := h
   obtain rfl := cN.1 z
   rw [bind_some] at h; obtain ⟨v, hv, h⟩ := h
   obtain rfl := ya h
   obtain ⟨O, H, h2⟩ := yM hv
   refine ⟨_, _, rfl, ?_⟩
   cases Y with
   | imm _ _ _ hp =>
    cases hp with
    | intsNil => simp at H
    | ints _ _ B o cap Z hh =>
     refine ⟨_, eO V U O (by omega) w, ?_⟩
     have := hh _ _ h2
     refine .el β _ 0 B (o + i.toNat * 1) (fun _ => .int kk v) (fun j y K => ?_) (fun j y K => ?_)
     ·cases j with
      | zero => simpa using this
      | succ j => simp [PV.cells] at K
     ·cases j with
      | zero => simp [PV.cells] at K; subst K; exact .lit _ rfl
      | succ j => simp [PV.cells] at K
  ·rename_i β e xs
   rw [aA] at h; obtain ⟨z, h⟩ := h
   obtain rfl := cN.1 z
   rw [bind_some] at h; obtain ⟨v, hv, h⟩ := h
   obtain rfl := ya h
   obtain ⟨O, H, h2⟩ := yM hv
   refine ⟨_, _, rfl, ?_⟩
   cases Y with
   | imm _ _ _ hp =>
    cases hp with
    | slNil => simp at H
    | sl _ _ B o cap cv he Z hlen hh h1' hr =>
     refine ⟨_, eO V U O (by omega) w, ?_⟩
     exact .el β _ 0 B (o + i.toNat * s) (fun j => cv i.toNat j) (fun j y K => hh _ _ _ _ h2 K) (fun j y K => hr _ _ _ _ h2 K)
  ·rename_i b g o n
   rw [bind_some] at h; obtain ⟨bx, N, h⟩ := h
   rw [aA] at h; obtain ⟨J, h⟩ := h
   simp only [yc, decide_eq_true_eq] at J
   obtain ⟨⟨z, O⟩, H⟩ := J
   obtain rfl := cN.1 z
   obtain rfl := ya h
   refine ⟨_, _, rfl, ?_⟩
   rcases hM.at_ms N Y with ⟨B, cap, rfl, hn, hon, W, _⟩ | ⟨rfl, rfl, rfl, _⟩ | ⟨B, oo, rfl, _, rfl, _⟩
   ·refine ⟨_, eO V U O H w, ?_⟩
    have := VR.ptr (G := G) (w := w) b g (o + i.toNat) 0 _ B W rfl
    simpa [yn1] using this
   ·simp at H; omega
   ·simp at H; omega
  ·rename_i b g
   rw [bind_some] at h; obtain ⟨bx, N, h⟩ := h
   rw [aA] at h; obtain ⟨J, h⟩ := h
   simp only [yc, decide_eq_true_eq] at J
   obtain ⟨⟨z, O⟩, H⟩ := J
   obtain rfl := cN.1 z
   obtain rfl := ya h
   refine ⟨_, _, rfl, ?_⟩
   rcases hM.at_msw N Y with ⟨B, cap, rfl, hn, W, _⟩ | ⟨rfl, hz, _⟩
   ·refine ⟨_, eO V U O H w, ?_⟩
    have := VR.ptr (G := G) (w := w) b g i.toNat 0 _ B W rfl
    simpa using this
   ·rw [hz] at H; simp at H; omega
  ·simp at h
 ·rename_i n et V
  rw [bind_some] at h; obtain ⟨s, U, h⟩ := h
  split at h
  ·rename_i b g j c
   rw [aA] at h; obtain ⟨J, h⟩ := h
   simp only [yc, decide_eq_true_eq] at J
   obtain rfl := ya h
   refine ⟨_, _, rfl, ?_⟩
   cases Y with
   | ptr _ _ _ _ L B W hb =>
    refine ⟨_, wX V U J.1 J.2 w, ?_⟩
    rw [yb3]
    exact .ptr b g j _ L B W hb
  ·simp at h
 ·simp at h
theorem gQ {y d : Nat} {i : Option Int} {n : Nat} (h : sW y i d = some n) : (i = none ∧ n = d) ∨ (∃ z, i = some z ∧ 0 ≤ z ∧ z ≤ (y : Int) ∧ n = z.toNat) := by
 cases i with
 | none => exact .inl ⟨rfl, (ya h).symm⟩
 | some z =>
  simp only [sW] at h
  rw [aA] at h
  obtain ⟨H, h⟩ := h
  simp only [yc, decide_eq_true_eq] at H
  exact .inr ⟨z, rfl, H.1, H.2, (ya h).symm⟩
def n4 (o : Option Int) (v : Option Value) : Prop :=
 match o, v with
 | none, none => True
 | some i, some v => ∃ k, v = .int k i
 | _, _ => False
theorem cS {isSlice : Bool} {len cap : Nat} {lo hi mx : Option Int} {N vh vm : Option Value} {l h : Nat} (H : gK len lo hi mx = some (l, h)) (hc : len ≤ cap)
  (Z : n4 lo N) (hh : n4 hi vh) (hm : n4 mx vm) (w : World) :
  ∃ m, (Instr.sliceBounds isSlice len cap N vh vm).run P w = .ok (l, h, m) w ∧ l ≤ h ∧ h ≤ len ∧ h ≤ m ∧ m ≤ cap := by
 unfold gK at H
 rw [aA] at H; obtain ⟨hg, H⟩ := H
 rw [bind_some] at H; obtain ⟨m, h1, H⟩ := H
 rw [bind_some] at H; obtain ⟨h', h2, H⟩ := H
 rw [bind_some] at H; obtain ⟨l', h3, H⟩ := H
 simp only [Option.some.injEq, Prod.mk.injEq] at H
 obtain ⟨rfl, rfl⟩ := H
 rcases gQ h1 with ⟨rfl, rfl⟩ | ⟨U, rfl, zm0, zm1, rfl⟩
 ·have : vm = none := by cases vm <;> simp_all [n4]
  subst this
  rcases gQ h2 with ⟨rfl, rfl⟩ | ⟨z, rfl, O, zh1, rfl⟩
  ·have : vh = none := by cases vh <;> simp_all [n4]
   subst this
   rcases gQ h3 with ⟨rfl, rfl⟩ | ⟨Y, rfl, K, W, rfl⟩
   ·have : N = none := by cases N <;> simp_all [n4]
    subst this
    exact ⟨cap, by simp [Instr.sliceBounds], by omega, by omega, by omega, by omega⟩
   ·cases N with
    | none => simp [n4] at Z
    | some v =>
     obtain ⟨k, rfl⟩ := Z
     exact ⟨cap, by simp [Instr.sliceBounds, Instr.sliceBound, fE, K, W], by omega, by omega, by omega, by omega⟩
  ·cases vh with
   | none => simp [n4] at hh
   | some v =>
    obtain ⟨k, rfl⟩ := hh
    have J : z ≤ (cap : Int) := by omega
    rcases gQ h3 with ⟨rfl, rfl⟩ | ⟨Y, rfl, K, W, rfl⟩
    ·have : N = none := by cases N <;> simp_all [n4]
     subst this
     exact ⟨cap, by simp [Instr.sliceBounds, Instr.sliceBound, fE, O, J], by omega, by omega, by omega, by omega⟩
    ·cases N with
     | none => simp [n4] at Z
     | some v =>
      obtain ⟨k, rfl⟩ := Z
      have e : ((z.toNat : Nat) : Int) = z := by omega
      have V : Y ≤ z := by omega
      have mz : ¬ (max z 0 < Y) := by omega
      exact ⟨cap, by simp [Instr.sliceBounds, Instr.sliceBound, fE, O, J, K, e, V, mz], by omega, by omega, by omega, by omega⟩
 ·cases vm with
  | none => simp [n4] at hm
  | some v =>
   obtain ⟨km, rfl⟩ := hm
   have zm2 : U ≤ (cap : Int) := by omega
   have em : ((U.toNat : Nat) : Int) = U := by omega
   rcases gQ h2 with ⟨rfl, rfl⟩ | ⟨z, rfl, O, zh1, rfl⟩
   ·simp at hg
   ·cases vh with
    | none => simp [n4] at hh
    | some v =>
     obtain ⟨k, rfl⟩ := hh
     have J : z ≤ U := by omega
     rcases gQ h3 with ⟨rfl, rfl⟩ | ⟨Y, rfl, K, W, rfl⟩
     ·have : N = none := by cases N <;> simp_all [n4]
      subst this
      have mz : ¬ (max U 0 < z) := by omega
      exact ⟨U.toNat, by simp [Instr.sliceBounds, Instr.sliceBound, fE, O, J, zm0, zm2, em, mz], by omega, by omega, by omega, by omega⟩
     ·cases N with
      | none => simp [n4] at Z
      | some v =>
       obtain ⟨k, rfl⟩ := Z
       have e : ((z.toNat : Nat) : Int) = z := by omega
       have V : Y ≤ z := by omega
       have mz : ¬ (max U 0 < z) := by omega
       have mz2 : ¬ (max z 0 < Y) := by omega
       have mp : z ≤ max U 0 := by omega
       have mp2 : Y ≤ max z 0 := by omega
       exact ⟨U.toNat, by simp [Instr.sliceBounds, Instr.sliceBound, fE, O, J, zm0, zm2, em, K, e, V, mz, mz2, mp, mp2], by omega, by omega, by omega, by omega⟩
end
end Go.Ab
end
section
namespace Go.Ab
variable [b8]
section
variable {P : Program}
def MN (G : Gh) (w : World) (P : Program) (s : Sem Value) (out : dX) : Prop := out.wr = [] ∧ out.push = [] ∧ ∃ cv, s.run P w = .ok cv w ∧ VR G w out.v cv
theorem bT {t J : TypeId} {s : Nat} (N : P.underlying t = some (.slice J)) (O : j0 P J = some s) {a : Option Addr} {len cap : Nat} {z K H : Option Value} {l h m : Nat} {w : World}
  (U : (Instr.sliceBounds true len cap z K H).run P w = .ok (l, h, m) w) :
  (Instr.sliceAt t (.slice a len cap) z K H).run P w = .ok (.slice (if m = l then a else a.map (·.add (l * s))) (h - l) (m - l)) w := by
 simp only [Instr.sliceAt, Instr.slice, Sem.run_bind, run_underlying N, Result.andThen_ok, U, c8 O, Sem.run_pure]
theorem y6 {t : TypeId} (J : P.underlying t = some .string) {s : ByteArray} {z H : Option Value} {l h m : Nat} {w : World}
  (K : (Instr.sliceBounds false s.size s.size z H none).run P w = .ok (l, h, m) w) :
  (Instr.sliceAt t (.string s) z H none).run P w = .ok (.string (s.extract l h)) w := by
 simp [Instr.sliceAt, Instr.slice, run_underlying J, K]
theorem Ao {t J : TypeId} {s n B o : Nat} (N : P.underlying t = some (.array n J)) (O : j0 P J = some s) {z K H : Option Value} {l h m : Nat} {w : World}
  (U : (Instr.sliceBounds false n n z K H).run P w = .ok (l, h, m) w) :
  (Instr.sliceAt t (.pointer (some ⟨B, o, none⟩)) z K H).run P w = .ok (.slice (some (if m = l then ⟨B, o, none⟩ else ⟨B, o + l * s, none⟩)) (h - l) (m - l)) w := by
 simp only [Instr.sliceAt, Instr.sureAddr, Sem.run_bind, run_underlying N, Result.andThen_ok, U, c8 O, Sem.run_pure, cT]
theorem jA {α : Type} {xs : List α} {l h i : Nat} {x : α} (z : ((xs.take h).drop l)[i]? = some x) : xs[l + i]? = some x ∧ l + i < h := by
 rw [ya1] at z
 have H : l + i < h := by
  rcases yu1 (l + i) h with J | J
  ·exact J
  ·rw [yy (by simp; omega)] at z; cases z
 exact ⟨by rw [yg1 H] at z; exact z, H⟩
theorem Fd {G : Gh} {w : World} {b g o n cap l h m : Nat} {B e N : Nat} (z : G.loc b g = some ⟨some B, e, N⟩) (H : BH w B ((o + cap) * e)) (W : o + n ≤ N)
  (h1 : l ≤ h) (h2 : h ≤ n) (h3 : h ≤ m) (h4 : m ≤ cap) :
  VR G w (.ms b g (o + l) (h - l)) (.slice (if m = l then (some ⟨B, o * e, none⟩ : Option Addr) else (some (⟨B, o * e, none⟩ : Addr)).map (·.add (l * e))) (h - l) (m - l)) := by
 have K : BH w B ((o + l + (m - l)) * e) := fun j V => H j (yr1 V (yo1 _ (by omega)))
 by_cases J : m = l
 ·rw [if_pos J]
  have Y : h - l = 0 := by omega
  have U : m - l = 0 := by omega
  rw [Y, U]
  by_cases O : l = 0
  ·subst O
   rw [U] at K
   exact .ms b g o 0 0 _ B z rfl (by omega) (by simp; omega) (by simpa using K)
  ·exact .msZ b g (o + l) B _ _ z rfl (by omega) (by simp; omega)
 ·rw [if_neg J]
  simp only [yn, cT]
  have := VR.ms (G := G) (w := w) b g (o + l) (h - l) (m - l) _ B z rfl (by omega) (by simp; omega) K
  simpa [yn1] using this
theorem Fc {G : Gh} {w : World} {mem : aW} {t : TypeId} {x : AV} {lo hi mx : Option Int} {vl vh vm : Option Value} {out : dX} {cv : Value} (hM : aQ G w mem) (h : fX P t mem x lo hi mx = some out) (H : VR G w x cv)
  (hl : n4 lo vl) (hh : n4 hi vh) (hm : n4 mx vm) : MN G w P (Instr.sliceAt t cv vl vh vm) out := by
 unfold fX at h
 split at h
 ·rename_i Y
  split at h
  ·rename_i s
   rw [aA] at h; obtain ⟨hmx, h⟩ := h
   obtain ⟨⟨l, N⟩, U, rfl⟩ := yd.1 h
   obtain rfl := H.lit_inv
   have : mx = none := by cases mx <;> simp_all
   subst this
   have : vm = none := by cases vm <;> simp_all [n4]
   subst this
   obtain ⟨m, J, _⟩ := cS (P := P) (isSlice := false) U (yu _) hl hh hm w
   exact ⟨rfl, rfl, _, y6 Y J, .lit _ rfl⟩
  ·simp at h
 ·rename_i et Y
  rw [bind_some] at h; obtain ⟨s, hs, h⟩ := h
  split at h
  ·rename_i β k xs
   rw [aA] at h; obtain ⟨O, h⟩ := h
   obtain rfl := cN.1 O
   obtain ⟨⟨l, N⟩, U, rfl⟩ := yd.1 h
   cases H with
   | imm _ _ _ hp =>
    cases hp with
    | intsNil _ a =>
     obtain ⟨m, J, h1, W, h3, Z⟩ := cS (P := P) (isSlice := true) (cap := 0) U (by simp) hl hh hm w
     refine ⟨rfl, rfl, _, bT Y hs (a := a) (len := 0) (cap := 0) J, ?_⟩
     simp at W
     obtain rfl : l = 0 := by omega
     obtain rfl : N = 0 := by omega
     obtain rfl : m = 0 := by omega
     exact .imm β _ _ (by simpa using PR.intsNil k _) rfl
    | ints _ _ B o cap hcap hh' =>
     obtain ⟨m, J, h1, W, h3, Z⟩ := cS (P := P) (isSlice := true) (cap := cap) U hcap hl hh hm w
     refine ⟨rfl, rfl, _, bT Y hs J, .imm β _ _ ?_ rfl⟩
     have K : ((xs.take N).drop l).length = N - l := by simp; omega
     by_cases hml : m = l
     ·have : (xs.take N).drop l = [] := yp (by omega)
      rw [if_pos hml, this, show N - l = ([] : List Int).length by simp; omega]
      exact .ints k [] B o _ (by simp) (fun i x H => by simp at H)
     ·rw [if_neg hml, ← K]
      simp only [yn, cT, yy2]
      refine .ints k _ B (o + l) _ (by rw [K]; omega) (fun i x H => ?_)
      obtain ⟨H, _⟩ := jA H
      rw [yb3]; exact hh' _ _ H
  ·rename_i β e xs
   rw [aA] at h; obtain ⟨O, h⟩ := h
   obtain rfl := cN.1 O
   obtain ⟨⟨l, N⟩, U, rfl⟩ := yd.1 h
   cases H with
   | imm _ _ _ hp =>
    cases hp with
    | slNil _ a =>
     obtain ⟨m, J, h1, W, h3, Z⟩ := cS (P := P) (isSlice := true) (cap := 0) U (by simp) hl hh hm w
     refine ⟨rfl, rfl, _, bT Y hs (a := a) (len := 0) (cap := 0) J, ?_⟩
     simp at W
     obtain rfl : l = 0 := by omega
     obtain rfl : N = 0 := by omega
     obtain rfl : m = 0 := by omega
     exact .imm β _ _ (by simpa using PR.slNil s _) rfl
    | sl _ _ B o cap cv he hcap hlen0 hh' h1' hr' =>
     obtain ⟨m, J, h1, W, h3, Z⟩ := cS (P := P) (isSlice := true) (cap := cap) U hcap hl hh hm w
     refine ⟨rfl, rfl, _, bT Y hs J, .imm β _ _ ?_ rfl⟩
     have K : ((xs.take N).drop l).length = N - l := by simp; omega
     by_cases hml : m = l
     ·have : (xs.take N).drop l = [] := yp (by omega)
      rw [if_pos hml, this, show N - l = ([] : List PV).length by simp; omega]
      exact .sl s [] B o _ cv he (by simp) (fun x H => by simp at H) (fun i x c y H => by simp at H) (fun i x c y H => by simp at H) (fun i x c y H => by simp at H)
     ·rw [if_neg hml, ← K]
      simp only [yn, cT]
      refine .sl s _ B (o + l * s) _ (fun i c => cv (l + i) c) he (by rw [K]; omega) (fun x H => hlen0 x (List.mem_of_mem_take (List.mem_of_mem_drop H))) (fun i x c y H hy => ?_) (fun i x c y H hy => h1' _ _ _ _ (jA H).1 hy) (fun i x c y H hy => ?_)
      ·obtain ⟨H, _⟩ := jA H
       have := hh' _ _ _ _ H hy
       rw [show o + l * s + i * s + c = o + (l + i) * s + c by rw [yn1]; omega]; exact this
      ·obtain ⟨H, _⟩ := jA H
       exact hr' _ _ _ _ H hy
  ·rename_i b g o n
   rw [bind_some] at h; obtain ⟨bx, hbx, h⟩ := h
   rw [aA] at h; obtain ⟨O, h⟩ := h
   obtain rfl := cN.1 O
   obtain ⟨⟨l, N⟩, U, rfl⟩ := yd.1 h
   rcases hM.at_ms hbx H with ⟨B, cap, rfl, hn, hon, z, V, _⟩ | ⟨rfl, rfl, rfl, hz, z⟩ | ⟨B, oo, rfl, ho, rfl, hon, z⟩
   ·obtain ⟨m, J, h1, W, h3, Z⟩ := cS (P := P) (isSlice := true) (cap := cap) U hn hl hh hm w
    exact ⟨rfl, rfl, _, bT Y hs J, Fd z V hon h1 W h3 Z⟩
   ·obtain ⟨m, J, h1, W, h3, Z⟩ := cS (P := P) (isSlice := true) (cap := 0) U (by simp) hl hh hm w
    refine ⟨rfl, rfl, _, bT Y hs (a := none) J, ?_⟩
    obtain rfl : l = 0 := by omega
    obtain rfl : N = 0 := by omega
    obtain rfl : m = 0 := by omega
    exact .msNil b g _ z rfl
   ·obtain ⟨m, J, h1, W, h3, Z⟩ := cS (P := P) (isSlice := true) (cap := 0) U (by simp) hl hh hm w
    refine ⟨rfl, rfl, _, bT Y hs J, ?_⟩
    obtain rfl : l = 0 := by omega
    obtain rfl : N = 0 := by omega
    obtain rfl : m = 0 := by omega
    exact .msZ b g o B oo _ z rfl ho hon
  ·rename_i b g
   rw [bind_some] at h; obtain ⟨bx, hbx, h⟩ := h
   rw [aA] at h; obtain ⟨O, h⟩ := h
   obtain rfl := cN.1 O
   obtain ⟨⟨l, N⟩, U, rfl⟩ := yd.1 h
   rcases hM.at_msw hbx H with ⟨B, cap, rfl, hn, z, V, _⟩ | ⟨rfl, hz, _, z⟩
   ·obtain ⟨m, J, h1, W, h3, Z⟩ := cS (P := P) (isSlice := true) (cap := cap) U hn hl hh hm w
    have := Fd (o := 0) (n := bx.row.len) z (by simpa using V) (by simp) h1 W h3 Z
    exact ⟨rfl, rfl, _, bT Y hs J, by simpa using this⟩
   ·rw [hz] at U
    obtain ⟨m, J, h1, W, h3, Z⟩ := cS (P := P) (isSlice := true) (cap := 0) U (by simp) hl hh hm w
    refine ⟨rfl, rfl, _, bT Y hs (a := none) J, ?_⟩
    obtain rfl : l = 0 := by omega
    obtain rfl : N = 0 := by omega
    obtain rfl : m = 0 := by omega
    exact .msNil b g _ z rfl
  ·obtain ⟨⟨l, N⟩, U, rfl⟩ := yd.1 h
   obtain rfl := H.lit_inv
   obtain ⟨m, J, h1, W, h3, Z⟩ := cS (P := P) (isSlice := true) (cap := 0) U (by simp) hl hh hm w
   refine ⟨rfl, rfl, _, bT Y hs (a := none) J, ?_⟩
   obtain rfl : l = 0 := by omega
   obtain rfl : N = 0 := by omega
   obtain rfl : m = 0 := by omega
   exact .lit _ rfl
  ·simp at h
 ·rename_i n et Y
  rw [bind_some] at h; obtain ⟨s, hs, h⟩ := h
  split at h
  ·rename_i b g c
   rw [aA] at h; obtain ⟨O, h⟩ := h
   obtain rfl := cN.1 O
   rw [bind_some] at h; obtain ⟨bx, hbx, h⟩ := h
   obtain ⟨B, rfl, z, hmine, hB, hfz, hrow, hpr⟩ := hM.at_ptr hbx H
   obtain ⟨gen, frz, row⟩ := bx
   split at h
   ·rename_i cs hrw
    simp only at hrw; subst hrw
    rw [aA] at h; obtain ⟨hle, h⟩ := h
    have hle := d5.1 hle
    obtain ⟨⟨l, N⟩, U, rfl⟩ := yd.1 h
    obtain ⟨m, J, h1, W, h3, Z⟩ := cS (P := P) (isSlice := false) (cap := n) U (yu _) hl hh hm w
    have V : BH w B ((c + n) * 1) := fun j hj => by
     obtain ⟨v, hv, _⟩ := hrow.2 j (cs[j]'(by omega)) (ye _)
     rw [hv]; rfl
    have K : (Row.cells 1 cs).len = cs.length := rfl
    have := Fd (o := c) (n := n) z V (by rw [K]; exact hle) h1 W h3 Z
    refine ⟨rfl, rfl, _, Ao Y hs J, ?_⟩
    simp only [Row.e, yy2, Nat.zero_mul, yh1, cT, yn] at this ⊢
    split
    ·rename_i e; simpa [e] using this
    ·rename_i e; simpa [e] using this
   ·simp at h
  ·simp at h
 ·simp at h
end
end Go.Ab
end
section
namespace Go.Ab
variable [b8]
section
variable {P : Program}
theorem GF {G : Gh} {w : World} {mem : aW} {t ty : TypeId} {x : AV} {n : Nat × List Nat} {cv : Value} (O : aQ G w mem) (h : lenOf P t mem x = some n) (H : VR G w x cv) :
  (Builtin.len_ #[t] ty #[cv]).run P w = .ok (.int .i64 (n.1 : Int)) w := by
 unfold lenOf at h
 split at h
 ·rename_i J
  split at h
  ·obtain rfl := ya h
   obtain rfl := H.lit_inv
   simp [Builtin.len_, run_underlying J, goInt]
  ·simp at h
 ·rename_i et J
  have z : ∀ (a : Option Addr) (l c : Nat), (Builtin.len_ #[t] ty #[.slice a l c]).run P w = .ok (.int .i64 (l : Int)) w := by
   intro a l c; simp [Builtin.len_, run_underlying J, goInt]
  split at h
  ·obtain rfl := ya h
   cases H with | imm _ _ _ N => cases N <;> exact z _ _ _
  ·obtain rfl := ya h
   cases H with | imm _ _ _ N => cases N <;> exact z _ _ _
  ·obtain rfl := ya h
   cases H <;> exact z _ _ _
  ·obtain ⟨bx, K, rfl⟩ := yd.1 h
   rcases O.at_msw K H with ⟨B, cap, rfl, _⟩ | ⟨rfl, U, _⟩
   ·exact z _ _ _
   ·rw [z]; simp [U]
  ·obtain rfl := ya h
   obtain rfl := H.lit_inv
   exact z _ _ _
  ·simp at h
 ·simp at h
theorem o6 {G : Gh} {w : World} {f : Int → Int → Int} {k : IntKind} {op : Value → Value → Sem Value} (J : ∀ a b, (op (.int k a) (.int k b)) = pure (.int k (f a b))) :
  ∀ {xs : List AV} {vs : List Value} {a r : Int}, jF f k xs a = some r → (xs.length = vs.length ∧ ∀ (j : Nat) (y : AV), xs[j]? = some y → VR G w y (vs.getD j undef)) →
   (vs.foldlM op (.int k a)).run P w = .ok (.int k r) w := by
 intro xs
 induction xs with
 | nil =>
  intro vs a r h z
  simp [jF] at h; subst h
  have := yp z.1.symm
  subst this; rfl
 | cons x xs U =>
  intro vs a r h z
  cases vs with
  | nil => simp at z
  | cons v vs =>
   have O := z.2 0 x rfl
   simp only [List.getD_cons_zero] at O
   have K : xs.length = vs.length ∧ ∀ (j : Nat) (y : AV), xs[j]? = some y → VR G w y (vs.getD j undef) := ⟨by simpa using z.1, fun j y V => by simpa using z.2 (j + 1) y (by simpa using V)⟩
   unfold jF at h
   split at h
   ·simp_all
   ·rename_i k' b r' a' H
    simp only [List.cons.injEq] at H
    obtain ⟨rfl, rfl⟩ := H
    rw [aA] at h; obtain ⟨N, h⟩ := h
    rw [i9] at N; subst N
    obtain rfl := O.lit_inv
    rw [List.foldlM_cons, J]
    simp only [Sem.run_bind, Sem.run_pure, Result.andThen_ok]
    exact U h K
   ·simp at h
theorem cZ (C : Array Value) (j : Nat) : C.toList.getD j undef = C.getD j undef := by
 simp [yl, yk]
theorem rU {s : TypeId} {f : Nat} {q : Nat × Nat × TypeId} (h : jI P s f = some q) :
  ∃ fs x, P.underlying s = some (.struct fs) ∧ fs[f]? = some x ∧ x.offset = q.1 ∧ j0 P x.type = some q.2.1 ∧ x.type = q.2.2 ∧ 1 ≤ q.2.1 := by
 unfold jI at h
 split at h
 ·rename_i fs z
  rw [bind_some] at h; obtain ⟨x, K, h⟩ := h
  rw [bind_some] at h; obtain ⟨n, H, h⟩ := h
  rw [aA] at h; obtain ⟨J, h⟩ := h
  obtain rfl := ya h
  exact ⟨fs, x, z, K, rfl, H, rfl, d5.1 J⟩
 ·simp at h
theorem z9 {s : TypeId} {f : Nat} {q : Nat × Nat × TypeId} (h : jI P s f = some q) (B o : Nat) (w : World) :
  (Instr.fieldAt s (.pointer (some ⟨B, o, none⟩)) f).run P w = .ok (.pointer (some ⟨B, o + q.1, none⟩)) w := by
 obtain ⟨fs, x, H, N, K, J, ht, h1⟩ := rU h
 have z : ¬ (q.2.1 = 0) := by omega
 simp only [Instr.fieldAt, Sem.run_bind, run_underlying H, Result.andThen_ok, N, Instr.sureAddr, Sem.run_pure, fieldPlace, c8 J, z, if_false, cT, K]
theorem Gi {t : TypeId} {n : Nat} {ag : Bool} (z : isAgg? P t = some ag) (J : j0 P t = some n) {cs : Array Value} {o : Nat} (w : World) (H : ag = true ∨ o < cs.size) :
  (part t cs o).run P w = .ok (if ag = true then .agg (cs.extract o (o + n)) else cs.getD o undef) w := by
 cases ag with
 | true => simp only [part, Sem.run_bind, qK z, Result.andThen_ok, if_true, c8 J, Sem.run_pure]
 | false =>
  have K : o < cs.size := by rcases H with h | h; cases h; exact h
  simp only [part, Sem.run_bind, qK z, Result.andThen_ok, yy1, if_false, yi1 K, Sem.run_pure, yk, Option.getD_some]
theorem E6 {G : Gh} {w : World} {s : TypeId} {f : Nat} {q : Nat × Nat × TypeId} {cs : List AV} {cv : Value} {ag : Bool} {v : AV} (h : jI P s f = some q) (K : isAgg? P q.2.2 = some ag)
  (hx : VR G w (.agg cs) cv) (J : (bif ag then guardB (Nat.ble (q.1 + q.2.1) cs.length) (some (AV.agg ((cs.drop q.1).take q.2.1))) else cs[q.1]?) = some v) :
  ∃ N, (Instr.field s cv f).run P w = .ok N w ∧ VR G w v N := by
 obtain ⟨fs, x, hu, O, ho, Z, ht, h1⟩ := rU h
 obtain ⟨cvs, rfl, Y, W⟩ := hx.agg_inv
 rw [← ht] at K
 have H : ∀ (z : ag = true ∨ q.1 < cvs.size), (Instr.field s (.agg cvs) f).run P w = .ok (if ag = true then .agg (cvs.extract q.1 (q.1 + q.2.1)) else cvs.getD q.1 undef) w := by
  intro z
  have := Gi (P := P) K Z (cs := cvs) (o := q.1) w z
  simp only [Instr.field, Sem.run_bind, run_underlying hu, Result.andThen_ok, O, asAgg, Sem.run_pure, ho, this]
 cases ag with
 | true =>
  simp only [yg] at J
  rw [aA] at J; obtain ⟨z, J⟩ := J
  have z := d5.1 z
  obtain rfl := ya J
  refine ⟨_, H (.inl rfl), ?_⟩
  rw [if_pos rfl]
  refine .agg _ _ (by simp; omega) fun j y V => ?_
  have hj : j < q.2.1 := by have := (yf.1 V).1; simp at this; omega
  rw [yg1 hj, ya1] at V
  have := W _ y V
  have U : q.1 + j < cvs.size := by omega
  simp only [yk] at this ⊢
  rw [Array.getElem?_extract]
  rw [if_pos (by omega)]
  exact this
 | false =>
  simp only [yh] at J
  have U := (yf.1 J).1
  exact ⟨_, H (.inr (by omega)), by simpa using W _ v J⟩
theorem Dv {ρ : Operand → Option AV} : ∀ {xs : List Operand} {vs : List AV}, yT ρ xs = some vs → vs.length = xs.length ∧ ∀ (j : Nat) (y : AV), vs[j]? = some y → ∃ x, xs[j]? = some x ∧ ρ x = some y
 | [], vs, h => by simp [yT] at h; subst h; exact ⟨rfl, fun j y z => by simp at z⟩
 | x :: r, vs, h => by
  simp only [yT] at h
  rw [bind_some] at h; obtain ⟨v, J, h⟩ := h
  obtain ⟨K, H, rfl⟩ := yd.1 h
  obtain ⟨N, O⟩ := Dv H
  refine ⟨by simp [N], fun j y z => ?_⟩
  cases j with
  | zero => simp at z; subst z; exact ⟨x, rfl, J⟩
  | succ j => simpa using O j y (by simpa using z)
theorem Bx {G : Gh} {w : World} {ρ : Operand → Option AV} {a : Act} (N : Mh G w ρ a) {xs : Array Operand} {vs : List AV} (h : yT ρ xs.toList = some vs) : nE G w vs (xs.map a.eval) := by
 obtain ⟨O, U⟩ := Dv h
 refine ⟨by simpa using O, fun j y J => ?_⟩
 obtain ⟨x, K, H⟩ := U j y J
 have z : xs[j]? = some x := by simpa using K
 have hj := (yk2.1 z).1
 have := N x y H
 simp only [yk, Array.getElem?_map, z, yn, Option.getD_some]
 exact this
theorem Ad {ρ : Operand → Option AV} : ∀ {xs : List (Nat × Operand)} {vs : List (Nat × AV)}, jW ρ xs = some vs →
  vs.length = xs.length ∧ ∀ (j : Nat) (q : Nat × AV), vs[j]? = some q → ∃ x, xs[j]? = some (q.1, x) ∧ ρ x = some q.2
 | [], vs, h => by simp [jW] at h; subst h; exact ⟨rfl, fun j y K => by simp at K⟩
 | (i, x) :: r, vs, h => by
  simp only [jW] at h
  rw [bind_some] at h; obtain ⟨v, J, h⟩ := h
  obtain ⟨N, z, rfl⟩ := yd.1 h
  obtain ⟨O, U⟩ := Ad z
  refine ⟨by simp [O], fun j q H => ?_⟩
  cases j with
  | zero => simp at H; subst H; exact ⟨x, rfl, J⟩
  | succ j => simpa using U j q (by simpa using H)
def iK (G : Gh) (w : World) (as : List AV) (vs : List Value) : Prop := as.length = vs.length ∧ ∀ (j : Nat) (y : AV), as[j]? = some y → VR G w y (vs.getD j undef)
def L9 (G : Gh) (w : World) (ps : List (Nat × AV)) (qs : List (Nat × Value)) : Prop := ps.length = qs.length ∧ ∀ (j : Nat) (p : Nat × AV), ps[j]? = some p → ∃ v, qs[j]? = some (p.1, v) ∧ VR G w p.2 v
theorem Bv {G : Gh} {w : World} {ρ : Operand → Option AV} {a : Act} (N : Mh G w ρ a) {xs : Array (Nat × Operand)} {vs : List (Nat × AV)} (h : jW ρ xs.toList = some vs) :
  L9 G w vs (xs.map fun (i, x) => (i, a.eval x)).toList := by
 obtain ⟨O, U⟩ := Ad h
 refine ⟨by simpa using O, fun j q K => ?_⟩
 obtain ⟨x, J, H⟩ := U j q K
 refine ⟨a.eval x, ?_, N x _ H⟩
 have z : xs[j]? = some (q.1, x) := by simpa using J
 simp [z]
theorem iK.set {G : Gh} {w : World} {as : List AV} {vs : List Value} (h : iK G w as vs) {i : Nat} {a : AV} {v : Value} (J : VR G w a v) : iK G w (as.set i a) (vs.set i v) := by
 refine ⟨by simp [h.1], fun j y z => ?_⟩
 by_cases e : j = i
 ·subst e
  have H : j < as.length := by have := (yf.1 z).1; simpa using this
  rw [ye1 H] at z
  simp at z; subst z
  rw [yl, ye1 (by rw [← h.1]; exact H)]; exact J
 ·rw [yd1 (fun x => e x.symm)] at z
  rw [yl, yd1 (fun x => e x.symm), ← yl]; exact h.2 j y z
def a7 : List Value → Nat → List Value → List Value
 | cs, _, [] => cs
 | cs, i, v :: r => a7 (cs.set i v) (i + 1) r
theorem iK.setCells {G : Gh} {w : World} : ∀ {xs : List AV} {J : List Value} {as : List AV} {vs : List Value} {i : Nat}, iK G w as vs → iK G w xs J → iK G w (setCells as i xs) (a7 vs i J)
 | [], J, as, vs, i, h, H => by
  have := yp H.1.symm
  subst this; exact h
 | x :: xs, [], as, vs, i, h, H => by simp [iK] at H
 | x :: xs, y :: J, as, vs, i, h, H => by
  have K := H.2 0 x rfl
  simp only [List.getD_cons_zero] at K
  simp only [Go.Ab.setCells, a7]
  exact iK.setCells (h.set K) ⟨by simpa using H.1, fun j z N => by simpa using H.2 (j + 1) z (by simpa using N)⟩
theorem jX {as : List AV} : ∀ {xs : List AV} {i : Nat} {as : List AV}, (setCells as i xs).length = as.length
 | [], i, as => rfl
 | x :: xs, i, as => by rw [Go.Ab.setCells, jX (as := as)]; simp
theorem fQ : ∀ {xs : List Value} {i : Nat} {as : List Value}, (a7 as i xs).length = as.length
 | [], i, as => rfl
 | x :: xs, i, as => by rw [a7, fQ]; simp
theorem yP : ∀ (vs : List Value) (z n : Nat) (cs : Array Value), ((vs.zipIdx n).foldl (fun cs (c, j) => cs.setIfInBounds (z + j) c) cs).toList = a7 cs.toList (z + n) vs
 | [], z, n, cs => rfl
 | v :: vs, z, n, cs => by
  simp only [List.zipIdx_cons, List.foldl_cons, a7]
  rw [yP vs z (n + 1)]
  simp [yb3]
theorem iK.one {G : Gh} {w : World} {a : AV} {v : Value} (h : VR G w a v) : iK G w [a] [v] :=
 ⟨rfl, fun j y z => by cases j with | zero => simp at z; subst z; exact h | succ j => simp at z⟩
theorem VR.cells {G : Gh} {w : World} {a : AV} {v : Value} (h : VR G w a v) : iK G w a.cells v.cells.toList := by
 cases h with
 | agg cs cvs H h => exact ⟨by simpa [AV.cells, Value.cells] using H, fun j y hy => by simp only [Value.cells]; rw [cZ]; exact h j y (by simpa [AV.cells] using hy)⟩
 | lit v Y =>
  have : v.cells = #[v] := by cases v <;> first | rfl | simp [jT] at Y
  rw [this]; exact iK.one (.lit v Y)
 | imm β p v h W =>
  have : v.cells = #[v] := by cases h <;> first | rfl | simp [PV.isSl] at W
  rw [this]; exact iK.one (.imm β p v h W)
 | unkB b => exact iK.one (.unkB b)
 | dead v V U =>
  have : v.cells = #[v] := by cases v <;> first | rfl | simp [jT] at U
  rw [this]; exact iK.one (.dead v V U)
 | ptr b g i c L B z J => exact iK.one (.ptr b g i c L B z J)
 | ms b g o n cap L B z J N K O => exact iK.one (.ms b g o n cap L B z J N K O)
 | msNil b g L z J => exact iK.one (.msNil b g L z J)
 | msZ b g o B Z L z J ho K => exact iK.one (.msZ b g o B Z L z J ho K)
 | msw b g cap L B z J N O => exact iK.one (.msw b g cap L B z J N O)
 | mswNil b g L z J N => exact iK.one (.mswNil b g L z J N)
 | el β p c B o cv h hr => exact iK.one (.el β p c B o cv h hr)
 | fn f fi ca fv cv V U O hc => exact iK.one (.fn f fi ca fv cv V U O hc)
 | tup cs cvs H h => exact iK.one (.tup cs cvs H h)
theorem s4 {G : Gh} {w : World} {J : Nat → Option (Nat × Nat)} : ∀ {ps : List (Nat × AV)} {qs : List (Nat × Value)} {cs H : List AV} {cvs : Array Value}, zU J cs ps = some H → iK G w cs cvs.toList → L9 G w ps qs →
  ∃ z, Instr.fill J cvs qs = some z ∧ iK G w H z.toList
 | [], qs, cs, H, cvs, h, V, N => by
  have := yp N.1.symm
  subst this
  simp [zU] at h; subst h
  exact ⟨cvs, rfl, V⟩
 | (i, v) :: r, [], cs, H, cvs, h, V, N => by simp [L9] at N
 | (i, v) :: r, (i', u) :: qs, cs, H, cvs, h, V, N => by
  obtain ⟨u', hu, hv⟩ := N.2 0 (i, v) rfl
  simp only [yn2, Option.some.injEq, Prod.mk.injEq] at hu
  obtain ⟨rfl, rfl⟩ := hu
  simp only [zU] at h
  rw [bind_some] at h; obtain ⟨q, hq, h⟩ := h
  rw [aA] at h; obtain ⟨K, h⟩ := h
  simp only [yc] at K
  have h1 := cN.1 K.1
  have h2 := d5.1 K.2
  have O := hv.cells
  have Y : u.cells.size = q.2 := by rw [← h1]; simpa using O.1.symm
  have hcz : cs.length = cvs.size := by simpa using V.1
  have U : (u.cells.zipIdx.foldl (fun cs (c, j) => cs.setIfInBounds (q.1 + j) c) cvs).toList = a7 cvs.toList q.1 u.cells.toList := by
   have := yP u.cells.toList q.1 0 cvs
   rw [yf2] at this
   rw [← this, ← Array.foldl_toList]
   simp
  obtain ⟨z, hf, Z⟩ := s4 (cvs := u.cells.zipIdx.foldl (fun cs (c, j) => cs.setIfInBounds (q.1 + j) c) cvs) h (by rw [U]; exact V.setCells O)
   ⟨by simpa using N.1, fun j p W => by simpa using N.2 (j + 1) p (by simpa using W)⟩
  refine ⟨z, ?_, Z⟩
  simp only [Instr.fill, hq]
  rw [if_neg (by simp [Y]; omega)]
  exact hf
theorem Bd : ∀ {fs : List Field} {ps : List (Nat × Nat)}, places? P fs = some ps → ∀ w : World, (fs.mapM fun f => (do pure (f.offset, ← sizeOf f.type) : Sem (Nat × Nat))).run P w = .ok ps w
 | [], ps, h, w => by simp [places?] at h; subst h; rfl
 | f :: r, ps, h, w => by
  simp only [places?] at h
  rw [bind_some] at h; obtain ⟨n, H, h⟩ := h
  obtain ⟨J, z, rfl⟩ := yd.1 h
  have K := Bd z w
  simp only [List.mapM_cons, Sem.run_bind, c8 H, Result.andThen_ok, Sem.run_pure, K]
theorem Iy {G : Gh} {w : World} : ∀ {vs : List Value} {as : List AV}, E0 vs = some as → iK G w as vs
 | [], as, h => by simp [E0] at h; subst h; exact ⟨rfl, fun j y z => by simp at z⟩
 | v :: r, as, h => by
  simp only [E0] at h
  rw [aA] at h; obtain ⟨K, h⟩ := h
  obtain ⟨N, H, rfl⟩ := yd.1 h
  have J := Iy (G := G) (w := w) H
  exact ⟨by simp [J.1], fun j y z => by
   cases j with
   | zero => simp at z; subst z; exact .lit v K
   | succ j => simpa using J.2 j y (by simpa using z)⟩
theorem mV {G : Gh} {w : World} {v : Value} {a : AV} (h : rN v = some a) : VR G w a v := by
 unfold rN at h
 split at h
 ·rename_i cs
  obtain ⟨as, H, rfl⟩ := yd.1 h
  have := Iy (G := G) (w := w) H
  exact .agg as cs (by simpa using this.1) (fun j y J => by rw [← cZ]; exact this.2 j y J)
 ·rename_i z
  obtain rfl := ya h
  exact .lit v (by cases v <;> first | rfl | exact absurd rfl (z _))
theorem mU {t : TypeId} {z : AV} (h : zero? P t = some z) : ∃ i v, P.info? t = some i ∧ i.zero = some v ∧ rN v = some z := by
 unfold zero? at h
 rw [bind_some] at h; obtain ⟨v, H, h⟩ := h
 rw [bind_some] at H; obtain ⟨i, J, H⟩ := H
 exact ⟨i, v, J, H, h⟩
theorem Gk {t : TypeId} {z : AV} (h : zero? P t = some z) (G : Gh) (w : World) : ∃ v, (zeroValue t).run P w = .ok v w ∧ VR G w z v ∧ (∀ H, (zeroValue t).run P H = .ok v H) ∧ rN v = some z := by
 obtain ⟨i, v, N, J, K⟩ := mU h
 exact ⟨v, by simp [zeroValue, typeInfo, N, J], mV K, fun H => by simp [zeroValue, typeInfo, N, J], K⟩
theorem FD {G : Gh} {w : World} {t : TypeId} {ps : List (Nat × AV)} {qs : Array (Nat × Value)} {v : AV} (h : yR P t ps = some v) (hp : L9 G w ps qs.toList) :
  ∃ cv, (Instr.build t qs).run P w = .ok cv w ∧ VR G w v cv := by
 unfold yR at h
 rw [bind_some] at h; obtain ⟨z, hz, h⟩ := h
 obtain ⟨zv, K, N, _⟩ := Gk hz G w
 split at h
 ·rename_i fs W
  rw [bind_some] at h; obtain ⟨pl, Z, h⟩ := h
  obtain ⟨cs, H, rfl⟩ := yd.1 h
  obtain ⟨cvs, O, J⟩ := s4 H N.cells hp
  refine ⟨.agg cvs, ?_, .agg cs cvs (by simpa using J.1) (fun j y Y => by rw [← cZ]; exact J.2 j y Y)⟩
  have U : (fs.mapM fun f => (do pure (f.offset, ← sizeOf f.type) : Sem (Nat × Nat))).run P w = .ok pl.toArray w := by
   rw [Array.mapM_eq_mapM_toList, Sem.run_map, Bd Z w]
   rfl
  have V : Instr.fill (fun i => pl.toArray[i]?) zv.cells qs.toList = some cvs := by rw [← O]; congr 1; funext i; simp
  simp only [Instr.build, Sem.run_bind, K, Result.andThen_ok, run_underlying W, U, V, Sem.run_pure]
 ·rename_i n e W
  rw [bind_some] at h; obtain ⟨s, hs, h⟩ := h
  obtain ⟨cs, H, rfl⟩ := yd.1 h
  obtain ⟨cvs, O, J⟩ := s4 H N.cells hp
  refine ⟨.agg cvs, ?_, .agg cs cvs (by simpa using J.1) (fun j y Y => by rw [← cZ]; exact J.2 j y Y)⟩
  simp only [Instr.build, Sem.run_bind, K, Result.andThen_ok, run_underlying W, c8 hs, O, Sem.run_pure]
 ·simp at h
end
end Go.Ab
end
section
namespace Go.Ab
variable [b8]
section
variable {P : Program}
def bC (G : Gh) (w : World) (v : aM) (vs : List Value) : Prop :=
 vs.length = v.len * v.e ∧ (∀ u ∈ vs, u.oneCell' = true) ∧
 match v with
 | .ints k xs => ∀ (i : Nat) (x : Int), xs[i]? = some x → vs[i]? = some (.int k x)
 | .pvs β e xs => (∀ x ∈ xs, x.cells.length = e) ∧ ∀ (i : Nat) (x : PV) (c : Nat) (y : PV), xs[i]? = some x → x.cells[c]? = some y → ∃ u, vs[i * e + c]? = some u ∧ PR w (G.prot β) y u
 | .avs e cs => cs.length = e * a6 e cs.length ∧ ∀ (j : Nat) (y : AV), cs[j]? = some y → ∃ u, vs[j]? = some u ∧ VR G w y u
theorem nA (r : Row) : r.all.e = r.e := by cases r <;> rfl
theorem cP (r : Row) : r.all.len = r.len := by cases r <;> rfl
theorem gL (v : aM) : v.row.e = v.e := by cases v <;> rfl
theorem d9 (v : aM) : v.row.len = v.len := by cases v <;> rfl
theorem g7 (v : aM) : v.row.all = v := by cases v <;> rfl
theorem Ho (r : Row) : r.all.row = r := by cases r <;> rfl
theorem e6 {e n : Nat} (he : 1 ≤ e) (k : Nat) : a6 e (k * e) = k := by
 unfold a6
 have H : Nat.beq e 0 = false := by
  cases e with
  | zero => omega
  | succ e => rfl
 rw [H]; simp only [yh]
 cases z : Nat.beq e 1 with
 | true => rw [Nat.eq_of_beq_eq_true z]; simp
 | false => simp only [yh]; exact Nat.mul_div_cancel k (by omega)
theorem nF.toList {G : Gh} {w : World} {B : Nat} {r : Row} (he : 1 ≤ r.e) (h : nF G w B r) :
  ∃ vs : List Value, bC G w r.all vs ∧ ∀ j, j < vs.length → cl w B j = vs[j]? := by
 cases r with
 | ints k xs =>
  refine ⟨xs.map (.int k), ⟨by simp [aM.len, aM.e, Row.all], by simp [Value.oneCell'], fun i x O => by simp [O]⟩, fun j z => ?_⟩
  simp at z
  rw [h j xs[j] (ye z)]; simp [z]
 | pvs β e xs =>
  obtain ⟨K, N⟩ := h
  have V : ∀ j, j < xs.length * e → ∃ v, cl w B j = some v ∧ v.oneCell' = true := by
   intro j z
   have hi : j / e < xs.length := by rw [Nat.div_lt_iff_lt_mul (by simp [Row.e] at he; omega)]; exact z
   have hc : j % e < (xs[j / e]).cells.length := by rw [K _ (ya3 _)]; exact Nat.mod_lt _ (by simp [Row.e] at he; omega)
   obtain ⟨v, H, J, _⟩ := N (j / e) (xs[j / e]) (j % e) ((xs[j / e]).cells[j % e]) (ye _) (ye _)
   rw [show j / e * e + j % e = j by rw [yg2]; exact Nat.div_add_mod j e] at H
   exact ⟨v, H, J⟩
  refine ⟨(List.range (xs.length * e)).map (fun j => (cl w B j).getD undef), ⟨by simp [aM.len, aM.e, Row.all], ?_, K, ?_⟩, ?_⟩
  ·intro u W
   obtain ⟨j, z, rfl⟩ := yu2.1 W
   obtain ⟨v, H, J⟩ := V j (by simpa using z)
   rw [H]; exact J
  ·intro i x c y O U
   have hi := (yf.1 O).1
   have hc := (yf.1 U).1
   obtain ⟨v, H, _, Z⟩ := N i x c y O U
   have Y : i * e + c < xs.length * e := by
    rw [K x (yt O)] at hc
    calc i * e + c < i * e + e := by omega
     _ = (i + 1) * e := by rw [yn1]; simp
     _ ≤ xs.length * e := yo1 _ hi
   exact ⟨v, by simp [Y, H], Z⟩
  ·intro j z
   simp at z
   obtain ⟨v, H, _⟩ := V j z
   simp [z, H]
 | cells e cs =>
  obtain ⟨K, N⟩ := h
  refine ⟨(List.range cs.length).map (fun j => (cl w B j).getD undef), ⟨?_, ?_, K, ?_⟩, ?_⟩
  ·simp only [aM.len, aM.e, Row.all, ya2, List.length_range]
   rw [yg2]; exact K
  ·intro u W
   obtain ⟨j, z, rfl⟩ := yu2.1 W
   obtain ⟨v, H, J, _⟩ := N j (cs[j]'(by simpa using z)) (ye _)
   rw [H]; exact J
  ·intro j y U
   have z := (yf.1 U).1
   obtain ⟨v, H, _, Z⟩ := N j y U
   exact ⟨v, by simp [z, H], Z⟩
  ·intro j z
   simp at z
   obtain ⟨v, H, _⟩ := N j (cs[j]) (ye _)
   simp [z, H]
theorem nF.ofList {G : Gh} {w : World} {B : Nat} {r : Row} {vs : List Value} (h : bC G w r.all vs) (J : ∀ j u, vs[j]? = some u → cl w B j = some u) : nF G w B r := by
 obtain ⟨hl, O, h⟩ := h
 cases r with
 | ints k xs => exact fun i x H => J _ _ (h i x H)
 | pvs β e xs =>
  refine ⟨h.1, fun i x c y H K => ?_⟩
  obtain ⟨u, z, N⟩ := h.2 i x c y H K
  exact ⟨u, J _ _ z, O u (yt z), N⟩
 | cells e cs =>
  refine ⟨h.1, fun j y K => ?_⟩
  obtain ⟨u, z, N⟩ := h.2 j y K
  exact ⟨u, J _ _ z, O u (yt z), N⟩
theorem bC.mono {G O : Gh} {w U : World} (N : dA G O) (K : Ev G w U) {v : aM} {vs : List Value} (h : bC G w v vs) : bC O U v vs := by
 obtain ⟨V, Y, h⟩ := h
 refine ⟨V, Y, ?_⟩
 cases v with
 | ints k xs => exact h
 | pvs β e xs => exact ⟨h.1, fun i x c y W H => by obtain ⟨u, z, J⟩ := h.2 i x c y W H; exact ⟨u, z, J.mono (N.prot β) (K.prot β)⟩⟩
 | avs e cs => exact ⟨h.1, fun j y H => by obtain ⟨u, z, J⟩ := h.2 j y H; exact ⟨u, z, J.mono N K⟩⟩
theorem LW {G : Gh} {w : World} {β : Bool} {t : TypeId} {p : PV} {c : Nat} {a : AV} (h : Ix P β t p c = some a) {cv : Nat → Value} (N : ∀ j y, p.cells[j]? = some y → PR w (G.prot β) y (cv j)) :
  ∀ (j : Nat) (y : AV), a.cells[j]? = some y → VR G w y (cv (c + j)) ∧ ∃ q, p.cells[c + j]? = some q := by
 unfold Ix at h
 split at h
 ·rw [bind_some] at h; obtain ⟨ls, U, h⟩ := h
  rw [bind_some] at h; obtain ⟨n, hn, h⟩ := h
  rw [aA] at h; obtain ⟨hnl, h⟩ := h
  rw [bind_some] at h; obtain ⟨as, J, h⟩ := h
  obtain rfl := ya h
  obtain ⟨K, V⟩ := kZ (G := G) (w := w) J
  obtain ⟨W, Y⟩ := V (fun j => cv (c + j)) (fun j y z _ => N _ y z)
  intro j y z
  have z : as[j]? = some y := z
  exact ⟨Y j y z, W j (by rw [← K]; exact (yf.1 z).1)⟩
 ·rw [bind_some] at h; obtain ⟨l, K, h⟩ := h
  rw [bind_some] at h; obtain ⟨q, O, h⟩ := h
  have Z := oE (G := G) (w := w) h (N c q O)
  intro j y z
  have H : a.cells = [a] := by
   unfold iX at h
   split at h <;> (rw [bind_some] at h; obtain ⟨x, _, h⟩ := h; obtain rfl := ya h; rfl)
  rw [H] at z
  cases j with
  | zero => simp at z; subst z; exact ⟨Z, q, O⟩
  | succ j => simp at z
 ·simp at h
theorem zK {G : Gh} {w : World} {β : Bool} {t : TypeId} {e : Nat} : ∀ {xs : List PV} {cs : List AV} {vs : List Value}, Cq P t β e xs = some cs → vs.length = xs.length * e →
  (∀ (i : Nat) (x : PV) (c : Nat) (y : PV), xs[i]? = some x → x.cells[c]? = some y → ∃ u, vs[i * e + c]? = some u ∧ PR w (G.prot β) y u) → iK G w cs vs
 | [], cs, vs, h, J, _ => by
  simp [Cq] at h; subst h
  simp at J; subst J
  exact ⟨rfl, fun j y z => by simp at z⟩
 | p :: r, cs, vs, h, J, W => by
  simp only [Cq] at h
  rw [bind_some] at h; obtain ⟨v, hv, h⟩ := h
  rw [aA] at h; obtain ⟨N, h⟩ := h
  have N := cN.1 N
  obtain ⟨Z, U, rfl⟩ := yd.1 h
  have H : vs.length = e + r.length * e := by rw [J]; simp [yn1, Nat.add_comm]
  have Y := zK (G := G) (w := w) (vs := vs.drop e) U (by simp [H]) (fun i x c y hx z => by
   obtain ⟨u, K, V⟩ := W (i + 1) x c y (by simpa using hx) z
   refine ⟨u, ?_, V⟩
   rw [ya1, show e + (i * e + c) = (i + 1) * e + c by rw [yn1]; omega]; exact K)
  have O := LW (P := P) (G := G) (w := w) hv (cv := fun j => vs.getD j undef) (fun j y z => by
   obtain ⟨u, K, V⟩ := W 0 p j y rfl z
   simp only [Nat.zero_mul, yh1] at K
   rw [yl, K]; exact V)
  refine ⟨by rw [yj, N, Y.1]; simp; omega, fun j y z => ?_⟩
  by_cases hj : j < v.cells.length
  ·rw [yo hj] at z
   simpa using (O j y z).1
  ·rw [yq (by omega)] at z
   have := Y.2 _ y z
   rw [yl, ya1] at this
   rw [yl, show j = e + (j - v.cells.length) by omega]
   exact this
theorem Dz : ∀ {cs : List AV}, jG cs = true → ∀ v ∈ cs, HL v = true
 | v :: r, h, u, z => by
  simp only [jG, yc] at h
  cases z with
  | head => exact h.1
  | tail _ z => exact Dz h.2 u z
theorem La {G : Gh} {w : World} {a : AV} {v : Value} (h : VR G w a v) (z : HL a = true) : v.oneCell' = true := by
 cases h with
 | lit v hv => exact z
 | imm β p v J H => cases J <;> first | rfl | simp [PV.isSl] at H
 | dead v h h' => exact h
 | agg => simp [HL] at z
 | tup => simp [HL] at z
 | _ => rfl
theorem iK.ones {G : Gh} {w : World} {cs : List AV} {vs : List Value} (h : iK G w cs vs) (K : jG cs = true) : ∀ u ∈ vs, u.oneCell' = true := by
 intro u J
 obtain ⟨j, H, rfl⟩ := yw1 J
 have z : j < cs.length := by rw [h.1]; exact H
 have := h.2 j cs[j] (ye z)
 rw [yl, ye H] at this
 exact La this (Dz K _ (ya3 _))
theorem z6 {G : Gh} {w : World} {t : TypeId} {v : aM} {cs : List AV} {vs : List Value} (h : v.toAvs P t = some cs) (z : bC G w v vs) : iK G w cs vs := by
 obtain ⟨H, h1, z⟩ := z
 cases v with
 | ints k xs =>
  obtain rfl := ya h
  simp only [aM.len, aM.e, yy2] at H
  refine ⟨by simp [H], fun j y J => ?_⟩
  obtain ⟨x, hx, rfl⟩ : ∃ x, xs[j]? = some x ∧ AV.lit (.int k x) = y := by simpa using J
  rw [yl, z j x hx]; exact .lit _ rfl
 | pvs β e xs => exact zK h H z.2
 | avs e K =>
  obtain rfl := ya h
  simp only [aM.len, aM.e] at H
  refine ⟨by rw [H, yg2]; exact z.1, fun j y J => ?_⟩
  obtain ⟨u, N, O⟩ := z.2 j y J
  rw [yl, N]; exact O
theorem iK.append {G : Gh} {w : World} {a b : List AV} {u v : List Value} (h : iK G w a u) (J : iK G w b v) : iK G w (a ++ b) (u ++ v) := by
 refine ⟨by simp [h.1, J.1], fun j y z => ?_⟩
 by_cases H : j < a.length
 ·rw [yo H] at z
  rw [yl, yo (by rw [← h.1]; exact H), ← yl]; exact h.2 j y z
 ·rw [yq (by omega)] at z
  rw [yl, yq (by rw [← h.1]; omega), ← yl, ← h.1]; exact J.2 _ y z
theorem PR.weak {w : World} {G : Gh} (z : ∀ B o, G.prot false B o → G.prot true B o) {β β' : Bool} {p : PV} {v : Value} (h : PR w (G.prot β) p v) : PR w (G.prot (β || β')) p v := by
 cases β <;> cases β' <;> first | exact h | exact h.mono (fun _ _ x => z _ _ x) (fun _ _ _ => rfl)
theorem PR.weak' {w : World} {G : Gh} (z : ∀ B o, G.prot false B o → G.prot true B o) {β β' : Bool} {p : PV} {v : Value} (h : PR w (G.prot β) p v) : PR w (G.prot (β' || β)) p v := by
 rw [Bool.or_comm]; exact h.weak z
theorem Dl {G : Gh} {w : World} (V : ∀ B o, G.prot false B o → G.prot true B o) {t : TypeId} {x y z : aM} {vs us : List Value} (h : x.app P t y = some z) (J : bC G w x vs) (Z : bC G w y us) :
  bC G w z (vs ++ us) ∧ z.e = x.e ∧ z.e = y.e ∧ z.len = x.len + y.len := by
 unfold aM.app at h
 split at h
 ·rename_i k xs k' ys
  rw [aA] at h; obtain ⟨hk, h⟩ := h
  rw [i9] at hk; subst hk
  obtain rfl := ya h
  obtain ⟨K, o1, x1⟩ := J; obtain ⟨Y, o2, y2⟩ := Z
  simp only [aM.len, aM.e, yy2] at K Y
  refine ⟨⟨by simp [aM.len, aM.e, K, Y], fun u N => (yj1.1 N).elim (o1 u) (o2 u), fun i x J => ?_⟩, rfl, rfl, by simp [aM.len]⟩
  by_cases hi : i < xs.length
  ·rw [yo hi] at J; rw [yo (by omega)]; exact x1 i x J
  ·rw [yq (by omega)] at J; rw [yq (by omega), K]; exact y2 _ x J
 ·rename_i β e xs β' e' ys
  rw [aA] at h; obtain ⟨he, h⟩ := h
  obtain rfl := cN.1 he
  obtain rfl := ya h
  obtain ⟨K, o1, x1⟩ := J; obtain ⟨Y, o2, y2⟩ := Z
  simp only [aM.len, aM.e] at K Y
  refine ⟨⟨by simp [aM.len, aM.e, K, Y, yn1], fun u N => (yj1.1 N).elim (o1 u) (o2 u), fun x J => (yj1.1 J).elim (x1.1 x) (y2.1 x), fun i x c y J Z => ?_⟩, rfl, rfl, by simp [aM.len]⟩
  by_cases hi : i < xs.length
  ·rw [yo hi] at J
   obtain ⟨u, N, hp⟩ := x1.2 i x c y J Z
   exact ⟨u, by rw [yo (yf.1 N).1]; exact N, hp.weak V⟩
  ·rw [yq (by omega)] at J
   obtain ⟨u, N, hp⟩ := y2.2 _ x c y J Z
   refine ⟨u, ?_, hp.weak' V⟩
   have e1 : i * e = xs.length * e + (i - xs.length) * e := by rw [← yn1]; congr 1; omega
   rw [yq (by rw [K, e1]; omega), K, show i * e + c - xs.length * e = (i - xs.length) * e + c by omega]; exact N
 ·rename_i e xs
  rw [bind_some] at h; obtain ⟨ys, hys, h⟩ := h
  rw [aA] at h; obtain ⟨hc, h⟩ := h
  obtain rfl := ya h
  simp only [yc] at hc
  obtain ⟨⟨hones, he⟩, W⟩ := hc
  obtain rfl := cN.1 he
  have W := d5.1 W
  have hL := z6 hys Z
  obtain ⟨K, o1, x1⟩ := J; obtain ⟨Y, o2, y2⟩ := Z
  replace K : vs.length = a6 y.e xs.length * y.e := K
  have hcx : xs.length = a6 y.e xs.length * y.e := by rw [yg2]; exact x1.1
  have hcy : ys.length = y.len * y.e := by rw [hL.1]; exact Y
  have U : (xs ++ ys).length = (a6 y.e xs.length + y.len) * y.e := by rw [yj, hcy, yn1]; omega
  have H : a6 y.e (xs ++ ys).length = a6 y.e xs.length + y.len := by rw [U]; exact e6 (n := 0) W _
  have hxv : iK G w xs vs := ⟨by rw [K]; exact hcx, fun j z hz => by obtain ⟨u, N, hp⟩ := x1.2 j z hz; rw [yl, N]; exact hp⟩
  have O := hxv.append hL
  refine ⟨⟨?_, fun u N => (yj1.1 N).elim (o1 u) (o2 u), ?_, fun j z hz => ?_⟩, rfl, rfl, ?_⟩
  ·show (vs ++ us).length = a6 y.e (xs ++ ys).length * y.e
   rw [H, ← U, O.1]
  ·rw [H, yg2]; exact U
  ·have hj : j < (vs ++ us).length := by rw [← O.1]; exact (yf.1 hz).1
   have := O.2 j z hz
   rw [yl, ye hj] at this
   exact ⟨_, ye hj, this⟩
  ·exact H
 ·simp at h
end
end Go.Ab
end
section
namespace Go.Ab
variable [b8]
section
variable {P : Program}
theorem Ef {e i c n : Nat} (hc : c < e) (z : i < n) : i * e + c < n * e := by
 calc i * e + c < i * e + e := by omega
  _ = (i + 1) * e := by rw [yn1]; simp
  _ ≤ n * e := yo1 _ z
theorem JU {e i c : Nat} (z : c < e) : (i * e + c) / e = i ∧ (i * e + c) % e = c := by
 constructor
 ·rw [yg2, Nat.mul_add_div (by omega), Nat.div_eq_of_lt z]; simp
 ·rw [yg2, Nat.mul_add_mod, yf3 z]
theorem GM {P : Program} (w : World) {size : Nat} {z K : TypeId} (H : P.underlying z = some (.slice K)) (a : Option Addr) : Src P size z (.slice a 0 0) 0 [] w := by
 cases a with
 | none => exact Src.ofNil w H 0
 | some a => exact Src.ofSlice w H a 0 0 [] (by simp) (fun j u J => by simp at J) (by simp)
theorem PR.view {w : World} {G : Gh} {β : Bool} {e : Nat} {xs : List PV} {cv : Value} (h : PR w (G.prot β) (.sl e xs) cv) :
  (xs = [] ∧ ∃ a, cv = .slice a 0 0) ∨ ∃ B o cap vs, cv = .slice (some ⟨B, o, none⟩) xs.length cap ∧ 1 ≤ e ∧ xs.length ≤ cap ∧ bC G w (.pvs β e xs) vs ∧ ∀ j u, vs[j]? = some u → cl w B (o + j) = some u ∧ G.prot β B (o + j) := by
 cases h with
 | slNil _ a => exact .inl ⟨rfl, a, rfl⟩
 | sl _ _ B o cap cv Z U z h h1 hr =>
  have V : ∀ j, j < xs.length * e → ∃ x y, xs[j / e]? = some x ∧ x.cells[j % e]? = some y := by
   intro j J
   have W : j / e < xs.length := by rw [Nat.div_lt_iff_lt_mul (by omega)]; exact J
   have N : j % e < (xs[j / e]).cells.length := by rw [z _ (ya3 _)]; exact Nat.mod_lt _ (by omega)
   exact ⟨_, _, ye W, ye N⟩
  refine .inr ⟨B, o, cap, (List.range (xs.length * e)).map (fun j => cv (j / e) (j % e)), rfl, Z, U, ⟨by simp [aM.len, aM.e], ?_, z, ?_⟩, ?_⟩
  ·intro u O
   obtain ⟨j, J, rfl⟩ := yu2.1 O
   obtain ⟨x, y, H, K⟩ := V j (by simpa using J)
   exact h1 _ x _ y H K
  ·intro i x c y H K
   have W := (yf.1 H).1
   have N := (yf.1 K).1
   rw [z x (yt H)] at N
   obtain ⟨e1, Y⟩ := JU (i := i) N
   exact ⟨cv i c, by simp [Ef N W, e1, Y], hr i x c y H K⟩
  ·intro j u O
   have J : j < xs.length * e := by have := (yf.1 O).1; simpa using this
   simp [J] at O; subst O
   obtain ⟨x, y, H, K⟩ := V j J
   have := h _ x _ y H K
   rw [show o + j / e * e + j % e = o + j by rw [yb3, yg2, Nat.div_add_mod]] at this
   exact this
theorem qI {G : Gh} {w : World} {r : Row} {o n : Nat} {v : aM} {vs : List Value} (he : 1 ≤ r.e) (h : r.sub o n = some v) (O : bC G w r.all vs) :
  bC G w v ((vs.drop (o * r.e)).take (n * r.e)) ∧ v.e = r.e ∧ v.len = n ∧ o + n ≤ r.len := by
 obtain ⟨U, h1, O⟩ := O
 have K : ∀ u ∈ (vs.drop (o * r.e)).take (n * r.e), u.oneCell' = true := fun u Z => h1 u (List.mem_of_mem_drop (List.mem_of_mem_take Z))
 cases r with
 | ints k xs =>
  simp only [Row.sub] at h
  rw [aA] at h; obtain ⟨z, h⟩ := h
  have z := d5.1 z
  obtain rfl := ya h
  simp only [Row.all, aM.len, aM.e, yy2] at U
  refine ⟨⟨by simp [aM.len, aM.e, Row.e, U], K, fun i x N => ?_⟩, rfl, by simp [aM.len]; omega, z⟩
  have W : i < n := by have := (yf.1 N).1; simp at this; omega
  rw [yg1 W, ya1] at N
  simp only [Row.e, yy2]
  rw [yg1 W, ya1]
  exact O _ _ N
 | pvs β e xs =>
  simp only [Row.sub] at h
  rw [aA] at h; obtain ⟨z, h⟩ := h
  have z := d5.1 z
  obtain rfl := ya h
  simp only [Row.all, aM.len, aM.e] at U
  simp only [Row.e] at he
  have J : ((xs.drop o).take n).length = n := by simp; omega
  refine ⟨⟨?_, K, fun x N => O.1 x (List.mem_of_mem_drop (List.mem_of_mem_take N)), fun i x c y N V => ?_⟩, rfl, J, z⟩
  ·simp only [aM.len, aM.e, J, Row.e, ym2, List.length_drop, U]
   rw [← Nat.mul_sub_right_distrib]
   exact Nat.min_eq_left (yo1 _ (by omega))
  ·have W : i < n := by have := (yf.1 N).1; omega
   rw [yg1 W, ya1] at N
   obtain ⟨u, Z, hp⟩ := O.2 _ x c y N V
   have hc := (yf.1 V).1
   rw [O.1 x (yt N)] at hc
   refine ⟨u, ?_, hp⟩
   simp only [Row.e]
   rw [yg1 (Ef hc W), ya1, show o * e + (i * e + c) = (o + i) * e + c by rw [yn1]; omega]
   exact Z
 | cells e cs =>
  simp only [Row.sub] at h
  rw [aA] at h; obtain ⟨z, h⟩ := h
  have z := d5.1 z
  obtain rfl := ya h
  simp only [Row.e] at he
  have Y : cs.length = a6 e cs.length * e := by rw [yg2]; exact O.1
  replace U : vs.length = a6 e cs.length * e := U
  have hon : o + n ≤ a6 e cs.length := by
   rw [Y] at z
   exact Nat.le_of_mul_le_mul_right z (by omega)
  have J : ((cs.drop (o * e)).take (n * e)).length = n * e := by
   simp only [ym2, List.length_drop]; rw [yn1] at z; omega
  have H : a6 e ((cs.drop (o * e)).take (n * e)).length = n := by rw [J]; exact e6 (n := 0) he n
  refine ⟨⟨?_, K, ?_, fun j y V => ?_⟩, rfl, H, hon⟩
  ·show _ = a6 e ((cs.drop (o * e)).take (n * e)).length * e
   rw [H]
   simp only [Row.e, ym2, List.length_drop, U]
   rw [← Y]; rw [yn1] at z; omega
  ·rw [H, J, yg2]
  ·have hj : j < n * e := by have := (yf.1 V).1; omega
   rw [yg1 hj, ya1] at V
   obtain ⟨u, Z, hp⟩ := O.2 _ y V
   refine ⟨u, ?_, hp⟩
   simp only [Row.e]
   rw [yg1 hj, ya1]; exact Z
theorem CN (G : Gh) (w : World) (s : ByteArray) : bC G w (.ints .u8 (fR s)) (byteCells s) := by
 refine ⟨by simp [aM.len, aM.e, fR, byteCells], fun u H => ?_, fun i x z => ?_⟩
 ·obtain ⟨b, _, rfl⟩ := yu2.1 H; rfl
 ·unfold fR at z
  unfold byteCells
  rw [yc1] at z ⊢
  obtain ⟨b, J, rfl⟩ := yd.1 z
  rw [J]; rfl
theorem bC.unmark {G : Gh} {w : World} {β β' : Bool} {e : Nat} {xs : List PV} {vs : List Value} (K : xs.all yV = true) (h : bC G w (.pvs β e xs) vs) : bC G w (.pvs β' e xs) vs := by
 refine ⟨h.1, h.2.1, h.2.2.1, fun i x c y H J => ?_⟩
 obtain ⟨u, O, U⟩ := h.2.2.2 i x c y H J
 refine ⟨u, O, ?_⟩
 have N := yi2.1 K x (yt H)
 have z := yi2.1 N y (yt J)
 cases y with
 | lit v =>
  cases U with
  | lit _ h => exact .lit _ h
 | ints _ _ => cases z
 | sl _ _ => cases z
 | agg _ => cases z
theorem bC.unmarkIf {G : Gh} {w : World} {c β : Bool} {e : Nat} {xs : List PV} {vs : List Value} (h : bC G w (.pvs β e xs) vs) : bC G w (.pvs (bif c && xs.all yV then false else β) e xs) vs := by
 cases z : (c && xs.all yV) with
 | false => exact h
 | true => exact h.unmark (yc _ _ ▸ z).2
theorem Bo {G : Gh} {w : World} {mem : aW} {et tx : TypeId} {y : AV} {v : aM × List Nat} {cv : Value} (hM : aQ G w mem) (h : view P et mem y = some v) (hy : VR G w y cv) (hs : j0 P et = some v.1.e) (K : wH P tx y = true) :
  ∃ news, Src P v.1.e tx cv v.1.len news w ∧ bC G w v.1 news := by
 have H : (∀ s, y ≠ .lit (.string s)) → ∃ e', P.underlying tx = some (.slice e') := by
  intro hne
  unfold wH at K
  split at K
  ·rename_i s _; exact absurd rfl (hne s)
  ·simp at K
  ·exact ⟨_, by assumption⟩
  ·simp at K
 unfold view at h
 split at h
 ·rename_i β k xs
  obtain rfl := ya h
  obtain ⟨e', N⟩ := H (by simp)
  cases hy with
  | imm _ _ _ hp =>
   cases hp with
   | intsNil _ a => exact ⟨[], GM w N a, by simp [aM.len, aM.e], by simp, fun i x O => by simp at O⟩
   | ints _ _ B o cap hcap hh =>
    refine ⟨xs.map (.int k), Src.ofSlice w N ⟨B, o, none⟩ _ cap _ (by simp [aM.len, aM.e]) (fun j u U => ?_) (by simp [Value.oneCell']), by simp [aM.len, aM.e], by simp [Value.oneCell'], fun i x O => by simp [O]⟩
    obtain ⟨x, O, rfl⟩ : ∃ x, xs[j]? = some x ∧ Value.int k x = u := by simpa using U
    rw [cT]; exact (hh j x O).1
 ·rename_i β e xs
  obtain rfl := ya h
  obtain ⟨e', N⟩ := H (by simp)
  cases hy with
  | imm _ _ _ hp =>
   rcases hp.view with ⟨rfl, a, rfl⟩ | ⟨B, o, cap, vs, rfl, he, hcap, hv, hc⟩
   ·exact ⟨[], GM w N a, by simp [aM.len, aM.e], by simp, fun x O => by simp at O, fun i x c y O => by simp at O⟩
   ·exact ⟨vs, Src.ofSlice w N ⟨B, o, none⟩ _ cap vs hv.1 (fun j u U => by rw [cT]; exact (hc j u U).1) hv.2.1, hv.unmarkIf⟩
 ·rename_i b g o n
  rw [bind_some] at h; obtain ⟨V, W, h⟩ := h
  obtain ⟨vw, z, rfl⟩ := yd.1 h
  obtain ⟨e', N⟩ := H (by simp)
  have he := (hM.box b V (box?_some W).1).e
  rcases hM.at_ms W hy with ⟨B, cap, rfl, hn, hon, hl, hf, _, _, _, Z, _⟩ | ⟨rfl, rfl, rfl, hz, hl⟩ | ⟨B, oo, rfl, ho, rfl, hon, hl⟩
  ·obtain ⟨vs, Y, hcl⟩ := Z.toList he
   obtain ⟨hv, hve, hvl, _⟩ := qI he z Y
   refine ⟨_, ?_, hv⟩
   simp only at hs ⊢
   rw [hve, hvl]
   refine Src.ofSlice w N ⟨B, o * V.row.e, none⟩ n cap _ (by rw [hv.1, hve, hvl]) (fun j u U => ?_) hv.2.1
   rw [cT]
   have hj : j < n * V.row.e := by
    have := (yf.1 U).1
    rw [hv.1, hve, hvl] at this; exact this
   rw [yg1 hj, ya1] at U
   have := hcl _ (yf.1 U).1
   rw [U] at this; exact this
  ·have hv0 : vw.len = 0 ∧ vw.e = V.row.e := by
    obtain ⟨gen, frz, row⟩ := V
    cases row <;> simp only [Row.sub] at z <;> rw [aA] at z <;> obtain ⟨_, z⟩ := z <;> obtain rfl := ya z <;> simp [aM.len, aM.e, Row.e, a6]
   have J : bC G w vw [] := by
    refine ⟨by simp [hv0.1], by simp, ?_⟩
    obtain ⟨gen, frz, row⟩ := V
    cases row <;> simp only [Row.sub] at z <;> rw [aA] at z <;> obtain ⟨_, z⟩ := z <;> obtain rfl := ya z <;> simp [a6]
   refine ⟨[], ?_, J⟩
   simp only; rw [hv0.1]
   exact Src.ofNil w N 0
  ·have hv0 : vw.len = 0 ∧ vw.e = V.row.e := by
    obtain ⟨gen, frz, row⟩ := V
    cases row <;> simp only [Row.sub] at z <;> rw [aA] at z <;> obtain ⟨_, z⟩ := z <;> obtain rfl := ya z <;> simp [aM.len, aM.e, Row.e, a6]
   have J : bC G w vw [] := by
    refine ⟨by simp [hv0.1], by simp, ?_⟩
    obtain ⟨gen, frz, row⟩ := V
    cases row <;> simp only [Row.sub] at z <;> rw [aA] at z <;> obtain ⟨_, z⟩ := z <;> obtain rfl := ya z <;> simp [a6]
   refine ⟨[], ?_, J⟩
   simp only; rw [hv0.1]
   exact Src.ofSlice w N ⟨B, oo, none⟩ 0 0 [] (by simp) (fun j u U => by simp at U) (by simp)
 ·rename_i b g
  rw [bind_some] at h; obtain ⟨V, W, h⟩ := h
  obtain rfl := ya h
  obtain ⟨e', N⟩ := H (by simp)
  have he := (hM.box b V (box?_some W).1).e
  rcases hM.at_msw W hy with ⟨B, cap, rfl, hn, hl, hf, _, _, _, Z, _⟩ | ⟨rfl, hz, hnc, hl⟩
  ·obtain ⟨vs, Y, hcl⟩ := Z.toList he
   refine ⟨vs, ?_, Y⟩
   simp only [nA, cP]
   refine Src.ofSlice w N ⟨B, 0, none⟩ _ cap vs (by rw [Y.1, nA, cP]) (fun j u U => ?_) Y.2.1
   rw [cT, yh1]
   have := hcl _ (yf.1 U).1
   rw [U] at this; exact this
  ·have J : bC G w V.row.all [] := by
    refine ⟨by rw [cP, hz]; simp, by simp, ?_⟩
    obtain ⟨gen, frz, row⟩ := V
    cases row with
    | ints k xs => simp only [Row.len] at hz; have := yp hz; subst this; simp [Row.all]
    | pvs β e xs => simp only [Row.len] at hz; have := yp hz; subst this; simp [Row.all]
    | cells e cs => simp [Row.isCells] at hnc
   refine ⟨[], ?_, J⟩
   simp only [cP, hz]
   exact Src.ofNil w N 0
 ·rename_i s
  obtain rfl := ya h
  obtain rfl := hy.lit_inv
  have N : P.underlying tx = some .string := by
   unfold wH at K; split at K <;> simp_all
  refine ⟨byteCells s, ?_, CN G w s⟩
  have := Src.ofString (P := P) w N s
  simpa [aM.len, aM.e, fR] using this
 ·obtain ⟨e', N⟩ := H (by simp)
  obtain rfl := hy.lit_inv
  split at h
  ·obtain rfl := ya h
   exact ⟨[], Src.ofNil w N 0, by simp [aM.len, aM.e], by simp, fun i x O => by simp at O⟩
  ·obtain ⟨e, he, rfl⟩ := yd.1 h
   exact ⟨[], Src.ofNil w N 0, by simp [aM.len, aM.e], by simp, fun x O => by simp at O, fun i x c y O => by simp at O⟩
 ·simp at h
end
end Go.Ab
end
