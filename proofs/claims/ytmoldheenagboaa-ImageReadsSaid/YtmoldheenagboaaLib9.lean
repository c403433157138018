import Derived.Test.YtmoldheenagboaaLib5
set_option linter.unusedVariables false
set_option linter.unusedSectionVars false
set_option linter.unusedSimpArgs false
namespace Go.Ab
variable [b8]
theorem Jc {α β : Type} {x : Option α} {f : α → Option β} {y : β} : x.bind f = some y ↔ ∃ a, x = some a ∧ f a = some y := yz1
theorem f8 {α : Type} {c : Bool} {x : Option α} {y : α} : guardB c x = some y ↔ c = true ∧ x = some y := by cases c <;> simp [guardB]
theorem cK {α : Type} {c : Bool} {x : Option α} {y : α} : (bif c then x else none) = some y ↔ c = true ∧ x = some y := by cases c <;> simp
theorem nb {a b : Nat} : Nat.beq a b = true ↔ a = b := ⟨Nat.eq_of_beq_eq_true, fun h => by subst h; exact ym3 a⟩
theorem nl {a b : Nat} : Nat.ble a b = true ↔ a ≤ b := by rw [Nat.ble_eq]
theorem rT {a b : IntKind} : f6 a b = true ↔ a = b := by cases a <;> cases b <;> simp [f6]
theorem JB {a b : Bool} : eV a b = true ↔ a = b := by cases a <;> cases b <;> simp [eV]
theorem Ty.beq_iff {a b : Ty} : Ty.beq a b = true ↔ a = b := by
 refine ⟨Ty.eq_of_beq, fun h => ?_⟩
 subst h
 induction a with
 | int k => exact rT.2 rfl
 | bool => rfl
 | str => rfl
 | sl ag T J => simp [Ty.beq, lQ, J, JB.2]
 | cons a b z H => simp [Ty.beq, lQ, z, H]
section
variable {R : Type}
@[simp] theorem real_ite (c : Bool) (a b : Option R) : (aL R).ite c a b = cond c a b := rfl
@[simp] theorem real_guard (c : Bool) (a : Option R) : (aL R).guard c a = cond c a none := rfl
@[simp] theorem real_get {α : Type} (xs : List α) (i : Int) (k : α → Option R) : (aL R).get xs i k = (c0 xs i).bind k := rfl
@[simp] theorem real_getN {α : Type} (xs : List α) (i : Nat) (k : α → Option R) : (aL R).getN xs i k = (xs[i]?).bind k := rfl
end
theorem kQ {F : Ty → Type} {a b : Ty} {c : Bool} {z : Ty.beq a b = c} {x : F a} {y : F b} (h : Em (F := F) c z x = some y) : ∃ e : a = b, e ▸ x = y := by
 cases c with
 | true => exact ⟨Ty.eq_of_beq z, ya h⟩
 | false => cases h
theorem eZ {a b : Ty} {x : List (den a)} {y : List (den b)} (h : zH a b x = some y) : ∃ e : a = b, e ▸ x = y := kQ (F := fun T => List (den T)) h
abbrev f9 : Bool → Ty → Bool := bP
def fZ (ag : Bool) (cs : List PV) : PV :=
 match ag, cs with
 | false, [c] => c
 | _, cs => .agg cs
noncomputable def F2 (ag : Bool) : (T : Ty) → (den T → List PV) → List (den T) → PV
 | .int k, f, xs => bif ag then .sl 1 (xs.map fun x => fZ ag (f x)) else .ints k xs
 | .bool, f, xs => .sl 1 (xs.map fun x => fZ ag (f x))
 | .str, f, xs => .sl 1 (xs.map fun x => fZ ag (f x))
 | .sl g T, f, xs => .sl 1 (xs.map fun x => fZ ag (f x))
 | .cons a b, f, xs => .sl (a.size + b.size) (xs.map fun x => fZ ag (f x))
noncomputable def aS : (T : Ty) → den T → List PV
 | .int k, x => [.lit (.int k x)]
 | .bool, x => [.lit (.bool x)]
 | .str, x => [.lit (.string x)]
 | .sl ag T, xs => [F2 ag T (aS T) xs]
 | .cons a b, x => aS a (Prod.fst x) ++ aS b (Prod.snd x)
noncomputable def eF (ag : Bool) (T : Ty) (x : den T) : PV := fZ ag (aS T x)
noncomputable def gF (ag : Bool) (T : Ty) (xs : List (den T)) : PV := F2 ag T (aS T) xs
theorem JW {k : IntKind} {xs : List Int} : gF false (.int k) xs = .ints k xs := rfl
theorem dB {ag : Bool} {T : Ty} (h : f9 ag T = false) (xs : List (den T)) : gF ag T xs = .sl T.size (xs.map (eF ag T)) := by
 cases T with
 | int k => cases ag with
  | false => cases h
  | true => rfl
 | bool => rfl
 | str => rfl
 | sl g T => rfl
 | cons a b => rfl
theorem aT {ag : Bool} {T : Ty} : f9 ag T = true ↔ ag = false ∧ ∃ k, T = .int k := by
 cases T <;> cases ag <;> simp [f9, bP]
theorem bJ : ∀ {T : Ty} {x : den T}, (aS T x).length = T.size
 | .int k, x => rfl
 | .bool, x => rfl
 | .str, x => rfl
 | .sl ag T, xs => rfl
 | .cons a b, x => by simp only [aS, yj, bJ]; rfl
theorem Ty.size_pos : ∀ {T : Ty}, 1 ≤ T.size
 | .int k => yu _
 | .bool => yu _
 | .str => yu _
 | .sl ag T => yu _
 | .cons a b => yt1 (Ty.size_pos (T := a)) (Nat.le_add_right _ _)
def AK : PV → Bool
 | .agg _ => false
 | _ => true
theorem zT (ag : Bool) (T : Ty) (xs : List (den T)) : AK (gF ag T xs) = true := by
 cases T with
 | int k => cases ag <;> rfl
 | bool => rfl
 | str => rfl
 | sl g T => rfl
 | cons a b => rfl
theorem kS : ∀ {T : Ty} {x : den T} {p : PV}, p ∈ aS T x → AK p = true
 | .int k, x, p, h => by simp only [aS, yb1] at h; subst h; rfl
 | .bool, x, p, h => by simp only [aS, yb1] at h; subst h; rfl
 | .str, x, p, h => by simp only [aS, yb1] at h; subst h; rfl
 | .sl ag T, xs, p, h => by simp only [aS, yb1] at h; subst h; exact zT ag T xs
 | .cons a b, x, p, h => by
  simp only [aS, yj1] at h
  exact h.elim (fun h => kS h) (fun h => kS h)
theorem Aw {p : PV} (h : AK p = true) : p.cells = [p] := by cases p <;> first | rfl | cases h
theorem Cj {ag : Bool} {cs : List PV} (h : ∀ p ∈ cs, AK p = true) : (fZ ag cs).cells = cs := by
 unfold fZ
 split
 ·exact Aw (h _ (by simp))
 ·rfl
theorem cR {ag : Bool} {T : Ty} {x : den T} : (eF ag T x).cells = aS T x := Cj fun p z => kS z
mutual
noncomputable def KV.down : KV → AV
 | .lit v => .lit v
 | .tsl β ag T xs => .imm β (gF ag T xs)
 | .el β ag T x c => .el β (eF ag T x) c
 | .ptr b g i c => .ptr b g i c
 | .ms b g o n => .ms b g o n
 | .msw b g => .msw b g
 | .fn f fi ca => .fn f (KV.downs fi) (KV.downs ca)
 | .agg cs => .agg (KV.downs cs)
 | .tup vs => .tup (KV.downs vs)
 | .dead => AV.dead
 | .gone => AV.goneV
 | .unkB => AV.unkB
noncomputable def KV.downs : List KV → List AV
 | [] => []
 | v :: r => v.down :: KV.downs r
end
theorem cO : ∀ vs : List KV, KV.downs vs = vs.map KV.down
 | [] => rfl
 | v :: r => by simp [KV.downs, cO r]
noncomputable def KRow.down : KRow → Row
 | .ts β ag T xs => match gF ag T xs with
  | .ints k ys => .ints k ys
  | .sl e ys => .pvs β e ys
  | _ => .pvs β 1 []
 | .cells e cs => .cells e (KV.downs cs)
noncomputable def KRow.view : KRow → aM
 | .ts β ag T xs => match gF ag T xs with
  | .ints k ys => .ints k ys
  | .sl e ys => .pvs β e ys
  | _ => .pvs β 1 []
 | .cells e cs => .avs e (KV.downs cs)
noncomputable def eI.down (x : eI) : c7 := { gen := x.gen, frz := x.frz, row := x.row.down }
noncomputable def aB (mem : aO) : aW := mem.map fun x => x.map eI.down
noncomputable def bW.down (o : bW) : dX := { v := o.v.down, rd := o.rd, wr := o.wr.map fun q => (q.1, q.2.down), push := aB o.push }
theorem KRow.down_ints {β : Bool} {k : IntKind} {xs : List Int} : (KRow.ts β false (.int k) xs).down = .ints k xs := rfl
theorem KRow.down_sl {β ag : Bool} {T : Ty} {xs : List (den T)} (h : f9 ag T = false) : (KRow.ts β ag T xs).down = .pvs β T.size (xs.map (eF ag T)) := by
 simp only [KRow.down, dB h]
theorem KRow.view_sl {β ag : Bool} {T : Ty} {xs : List (den T)} (h : f9 ag T = false) : (KRow.ts β ag T xs).view = .pvs β T.size (xs.map (eF ag T)) := by
 simp only [KRow.view, dB h]
theorem KRow.tsCases {P : Bool → Bool → (T : Ty) → List (den T) → Prop} (H : ∀ β k (xs : List Int), P β false (.int k) xs) (z : ∀ β ag T xs, f9 ag T = false → P β ag T xs) (β ag : Bool) (T : Ty) (xs : List (den T)) : P β ag T xs := by
 cases h : f9 ag T with
 | false => exact z β ag T xs h
 | true =>
  obtain ⟨rfl, k, rfl⟩ := aT.1 h
  exact H β k xs
theorem Ch (r : KRow) : r.view.row = r.down := by
 cases r with
 | cells e cs => rfl
 | ts β ag T xs =>
  refine KRow.tsCases (P := fun β ag T xs => (KRow.ts β ag T xs).view.row = (KRow.ts β ag T xs).down) (fun β k xs => rfl) (fun β ag T xs h => ?_) β ag T xs
  rw [KRow.view_sl h, KRow.down_sl h]; rfl
theorem AQ (r : KRow) : r.down.all = r.view := by
 cases r with
 | cells e cs => rfl
 | ts β ag T xs =>
  refine KRow.tsCases (P := fun β ag T xs => (KRow.ts β ag T xs).down.all = (KRow.ts β ag T xs).view) (fun β k xs => rfl) (fun β ag T xs h => ?_) β ag T xs
  rw [KRow.view_sl h, KRow.down_sl h]; rfl
theorem Dm (r : KRow) : r.down.e = rG r := by
 cases r with
 | cells e cs => rfl
 | ts β ag T xs =>
  refine KRow.tsCases (P := fun β ag T xs => (KRow.ts β ag T xs).down.e = rG (KRow.ts β ag T xs)) (fun β k xs => rfl) (fun β ag T xs h => ?_) β ag T xs
  rw [KRow.down_sl h]; rfl
theorem Fe (r : KRow) : r.view.e = rG r := by
 cases r with
 | cells e cs => rfl
 | ts β ag T xs =>
  refine KRow.tsCases (P := fun β ag T xs => (KRow.ts β ag T xs).view.e = rG (KRow.ts β ag T xs)) (fun β k xs => rfl) (fun β ag T xs h => ?_) β ag T xs
  rw [KRow.view_sl h]; rfl
theorem aK (cs : List KV) : (KV.downs cs).length = cs.length := by rw [cO, ya2]
theorem AY (r : KRow) : r.down.len = iA r := by
 cases r with
 | cells e cs => simp only [KRow.down, Row.len, iA, aK]
 | ts β ag T xs =>
  refine KRow.tsCases (P := fun β ag T xs => (KRow.ts β ag T xs).down.len = iA (KRow.ts β ag T xs)) (fun β k xs => rfl) (fun β ag T xs h => ?_) β ag T xs
  rw [KRow.down_sl h]; simp [Row.len, iA]
theorem vX (r : KRow) : r.view.len = iA r := by
 cases r with
 | cells e cs => simp only [KRow.view, aM.len, iA, aK]
 | ts β ag T xs =>
  refine KRow.tsCases (P := fun β ag T xs => (KRow.ts β ag T xs).view.len = iA (KRow.ts β ag T xs)) (fun β k xs => rfl) (fun β ag T xs h => ?_) β ag T xs
  rw [KRow.view_sl h]; simp [aM.len, iA]
theorem d7 (r : KRow) : r.down.isCells = gN r := by
 cases r with
 | cells e cs => rfl
 | ts β ag T xs =>
  refine KRow.tsCases (P := fun β ag T xs => (KRow.ts β ag T xs).down.isCells = gN (KRow.ts β ag T xs)) (fun β k xs => rfl) (fun β ag T xs h => ?_) β ag T xs
  rw [KRow.down_sl h]; rfl
theorem fT (mem : aO) (b : Nat) : (aB mem)[b]? = (mem[b]?).map fun x => x.map eI.down := by simp [aB]
theorem g8 (mem : aO) : (aB mem).length = mem.length := by simp [aB]
theorem H1 {mem : aO} {b : Nat} {x : eI} (h : iB mem b = some (some x)) : (aB mem)[b]? = some (some x.down) := by
 rw [bO] at h; rw [fT, h]; rfl
variable {R : Type} {r : R}
theorem cM {mem : aO} {b g : Nat} {k : eI → Option R} (h : pT mem b g k = some r) : ∃ x, box? (aB mem) b g = some x.down ∧ k x = some r := by
 unfold pT at h
 split at h
 ·rename_i x z
  rw [cK] at h
  refine ⟨x, ?_, h.2⟩
  unfold box?
  rw [H1 z]
  simp only [eI.down]
  rw [nb.1 h.1]; simp
 ·cases h
theorem dR (v : KV) : v.down.cells = KV.downs v.cells := by cases v <;> rfl
theorem Dd {v : KV} (h : Ln v = true) : HL v.down = true := by
 cases v <;> simp_all [Ln, HL, KV.down, AV.dead, AV.unkB]
theorem gD : ∀ {vs : List KV}, vT vs = true → jG (KV.downs vs) = true
 | [], _ => rfl
 | v :: r, h => by
  simp only [vT, yc] at h
  simp only [KV.downs, jG, yc]
  exact ⟨Dd h.1, gD h.2⟩
theorem Cp {o n : Nat} {row : KRow} {k : KRow → Option R} (h : yS (aL R) o n row k = some r) : ∃ v, row.down.sub o n = some v.view ∧ k v = some r ∧ rG v = rG row := by
 cases row with
 | cells e cs =>
  simp only [yS, real_guard, cK] at h
  refine ⟨.cells e ((cs.drop (o * e)).take (n * e)), ?_, h.2, rfl⟩
  simp only [KRow.down, Row.sub, aK, f8, h.1, KRow.view, true_and]
  simp [cO, yi3, yj3]
 | ts β ag T xs =>
  simp only [yS, real_guard, cK] at h
  refine ⟨.ts β ag T ((xs.drop o).take n), ?_, h.2, rfl⟩
  have z := h.1
  clear h
  revert z
  refine KRow.tsCases (P := fun β ag T xs => Nat.ble (o + n) xs.length = true → (KRow.ts β ag T xs).down.sub o n = some (KRow.ts β ag T ((xs.drop o).take n)).view) (fun β k xs z => ?_) (fun β ag T xs h z => ?_) β ag T xs
  ·rw [KRow.down_ints]; simp only [Row.sub, f8]; exact ⟨z, rfl⟩
  ·rw [KRow.down_sl h, KRow.view_sl h]; simp only [Row.sub, ya2, f8, z, true_and]; simp [yi3, yj3]
end Go.Ab
