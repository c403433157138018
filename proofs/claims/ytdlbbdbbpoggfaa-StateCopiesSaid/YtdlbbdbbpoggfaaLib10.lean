import Derived.Test.YtdlbbdbbpoggfaaLib6
set_option linter.unusedVariables false
set_option linter.unusedSectionVars false
set_option linter.unusedSimpArgs false
namespace Go.Ab
variable [GTab]
theorem obs {α β : Type} {x : Option α} {f : α → Option β} {y : β} : x.bind f = some y ↔ ∃ a, x = some a ∧ f a = some y := yd2
theorem gds {α : Type} {c : Bool} {x : Option α} {y : α} : guardB c x = some y ↔ c = true ∧ x = some y := by cases c <;> simp [guardB]
theorem cds {α : Type} {c : Bool} {x : Option α} {y : α} : (bif c then x else none) = some y ↔ c = true ∧ x = some y := by cases c <;> simp
theorem nb {a b : Nat} : Nat.beq a b = true ↔ a = b := ⟨Nat.eq_of_beq_eq_true, fun h => by subst h; exact yq2 a⟩
theorem nl {a b : Nat} : Nat.ble a b = true ↔ a ≤ b := by rw [Nat.ble_eq]
theorem keq {a b : IntKind} : kEq a b = true ↔ a = b := by cases a <;> cases b <;> simp [kEq]
theorem bbq {a b : Bool} : beqB a b = true ↔ a = b := by cases a <;> cases b <;> simp [beqB]
theorem Ty.beq_iff {a b : Ty} : Ty.beq a b = true ↔ a = b := by
 refine ⟨Ty.eq_of_beq, fun h => ?_⟩
 subst h
 induction a with
 | int k => exact keq.2 rfl
 | bool => rfl
 | str => rfl
 | sl ag T ih => simp [Ty.beq, zbZ, ih, bbq.2]
 | cons a b iha ihb => simp [Ty.beq, zbZ, iha, ihb]
section
variable {R : Type}
@[simp] theorem real_ite (c : Bool) (a b : Option R) : (real R).ite c a b = cond c a b := rfl
@[simp] theorem real_guard (c : Bool) (a : Option R) : (real R).guard c a = cond c a none := rfl
@[simp] theorem real_get {α : Type} (xs : List α) (i : Int) (k : α → Option R) : (real R).get xs i k = (getI xs i).bind k := rfl
@[simp] theorem real_getN {α : Type} (xs : List α) (i : Nat) (k : α → Option R) : (real R).getN xs i k = (xs[i]?).bind k := rfl
end
theorem zbP {F : Ty → Type} {a b : Ty} {c : Bool} {hc : Ty.beq a b = c} {x : F a} {y : F b} (h : castB (F := F) c hc x = some y) : ∃ e : a = b, e ▸ x = y := by
 cases c with
 | true => exact ⟨Ty.eq_of_beq hc, ya h⟩
 | false => cases h
theorem zN {a b : Ty} {x : List (den a)} {y : List (den b)} (h : castL a b x = some y) : ∃ e : a = b, e ▸ x = y := zbP (F := fun T => List (den T)) h
abbrev intsRow : Bool → Ty → Bool := isIntsK
def oneOrAgg (ag : Bool) (cs : List PV) : PV :=
 match ag, cs with
 | false, [c] => c
 | _, cs => .agg cs
noncomputable def pvSlWith (ag : Bool) : (T : Ty) → (den T → List PV) → List (den T) → PV
 | .int k, f, xs => bif ag then .sl 1 (xs.map fun x => oneOrAgg ag (f x)) else .ints k xs
 | .bool, f, xs => .sl 1 (xs.map fun x => oneOrAgg ag (f x))
 | .str, f, xs => .sl 1 (xs.map fun x => oneOrAgg ag (f x))
 | .sl g T, f, xs => .sl 1 (xs.map fun x => oneOrAgg ag (f x))
 | .cons a b, f, xs => .sl (a.size + b.size) (xs.map fun x => oneOrAgg ag (f x))
noncomputable def pvCells : (T : Ty) → den T → List PV
 | .int k, x => [.lit (.int k x)]
 | .bool, x => [.lit (.bool x)]
 | .str, x => [.lit (.string x)]
 | .sl ag T, xs => [pvSlWith ag T (pvCells T) xs]
 | .cons a b, x => pvCells a (Prod.fst x) ++ pvCells b (Prod.snd x)
noncomputable def pvEl (ag : Bool) (T : Ty) (x : den T) : PV := oneOrAgg ag (pvCells T x)
noncomputable def pvSl (ag : Bool) (T : Ty) (xs : List (den T)) : PV := pvSlWith ag T (pvCells T) xs
theorem zoG {k : IntKind} {xs : List Int} : pvSl false (.int k) xs = .ints k xs := rfl
theorem zo {ag : Bool} {T : Ty} (h : intsRow ag T = false) (xs : List (den T)) : pvSl ag T xs = .sl T.size (xs.map (pvEl ag T)) := by
 cases T with
 | int k => cases ag with
  | false => cases h
  | true => rfl
 | bool => rfl
 | str => rfl
 | sl g T => rfl
 | cons a b => rfl
theorem zc {ag : Bool} {T : Ty} : intsRow ag T = true ↔ ag = false ∧ ∃ k, T = .int k := by
 cases T <;> cases ag <;> simp [intsRow, isIntsK]
theorem zj : ∀ {T : Ty} {x : den T}, (pvCells T x).length = T.size
 | .int k, x => rfl
 | .bool, x => rfl
 | .str, x => rfl
 | .sl ag T, xs => rfl
 | .cons a b, x => by simp only [pvCells, yi1, zj]; rfl
theorem Ty.size_pos : ∀ {T : Ty}, 1 ≤ T.size
 | .int k => yx _
 | .bool => yx _
 | .str => yx _
 | .sl ag T => yx _
 | .cons a b => yb2 (Ty.size_pos (T := a)) (Nat.le_add_right _ _)
def notAggP : PV → Bool
 | .agg _ => false
 | _ => true
theorem zdJ (ag : Bool) (T : Ty) (xs : List (den T)) : notAggP (pvSl ag T xs) = true := by
 cases T with
 | int k => cases ag <;> rfl
 | bool => rfl
 | str => rfl
 | sl g T => rfl
 | cons a b => rfl
theorem zbF : ∀ {T : Ty} {x : den T} {p : PV}, p ∈ pvCells T x → notAggP p = true
 | .int k, x, p, h => by simp only [pvCells, ya2] at h; subst h; rfl
 | .bool, x, p, h => by simp only [pvCells, ya2] at h; subst h; rfl
 | .str, x, p, h => by simp only [pvCells, ya2] at h; subst h; rfl
 | .sl ag T, xs, p, h => by simp only [pvCells, ya2] at h; subst h; exact zdJ ag T xs
 | .cons a b, x, p, h => by
  simp only [pvCells, yl1] at h
  exact h.elim (fun h => zbF h) (fun h => zbF h)
theorem zhq {p : PV} (h : notAggP p = true) : p.cells = [p] := by cases p <;> first | rfl | cases h
theorem ziv {ag : Bool} {cs : List PV} (h : ∀ p ∈ cs, notAggP p = true) : (oneOrAgg ag cs).cells = cs := by
 unfold oneOrAgg
 split
 ·exact zhq (h _ (by simp))
 ·rfl
theorem zr {ag : Bool} {T : Ty} {x : den T} : (pvEl ag T x).cells = pvCells T x := ziv fun p hp => zbF hp
mutual
noncomputable def KV.down : KV → AV
 | .lit v => .lit v
 | .tsl β ag T xs => .imm β (pvSl ag T xs)
 | .el β ag T x c => .el β (pvEl ag T x) c
 | .ptr b g i c => .ptr b g i c
 | .ms b g o n => .ms b g o n
 | .msw b g => .msw b g
 | .fn f fi ca => .fn f (KV.downs fi) (KV.downs ca)
 | .agg cs => .agg (KV.downs cs)
 | .tup vs => .tup (KV.downs vs)
 | .dead => AV.dead
 | .gone => AV.goneV
 | .unkB => AV.unkB
noncomputable def KV.downs : List KV → List AV
 | [] => []
 | v :: r => v.down :: KV.downs r
end
theorem zy : ∀ vs : List KV, KV.downs vs = vs.map KV.down
 | [] => rfl
 | v :: r => by simp [KV.downs, zy r]
theorem zjr (T : Ty) : intsRow (agOf T) T = false := by cases T <;> rfl
noncomputable def holesD : Holes → List (Nat × Nat × AV)
 | [] => []
 | h :: r => (h.1, h.2.1, h.2.2.down) :: holesD r
noncomputable def KRow.down : KRow → Row
 | .ts β ag T xs => match pvSl ag T xs with
  | .ints k ys => .ints k ys
  | .sl e ys => .pvs β e ys
  | _ => .pvs β 1 []
 | .cells e cs => .cells e (KV.downs cs)
 | .os T xs hs => .own T.size (xs.map (pvEl (agOf T) T)) (holesD hs)
noncomputable def KRow.view : KRow → View
 | .ts β ag T xs => match pvSl ag T xs with
  | .ints k ys => .ints k ys
  | .sl e ys => .pvs β e ys
  | _ => .pvs β 1 []
 | .cells e cs => .avs e (KV.downs cs)
 | .os T xs hs => .pvs true T.size (xs.map (pvEl (agOf T) T))
noncomputable def KBox.down (x : KBox) : Box := { gen := x.gen, frz := x.frz, row := x.row.down }
noncomputable def kdown (mem : KMem) : Mem := mem.map fun x => x.map KBox.down
noncomputable def KOut.down (o : KOut) : Out := { v := o.v.down, rd := o.rd, wr := o.wr.map fun q => (q.1, q.2.down), push := kdown o.push }
theorem KRow.down_ints {β : Bool} {k : IntKind} {xs : List Int} : (KRow.ts β false (.int k) xs).down = .ints k xs := rfl
theorem KRow.down_sl {β ag : Bool} {T : Ty} {xs : List (den T)} (h : intsRow ag T = false) : (KRow.ts β ag T xs).down = .pvs β T.size (xs.map (pvEl ag T)) := by
 simp only [KRow.down, zo h]
theorem KRow.view_sl {β ag : Bool} {T : Ty} {xs : List (den T)} (h : intsRow ag T = false) : (KRow.ts β ag T xs).view = .pvs β T.size (xs.map (pvEl ag T)) := by
 simp only [KRow.view, zo h]
theorem KRow.tsCases {P : Bool → Bool → (T : Ty) → List (den T) → Prop} (hi : ∀ β k (xs : List Int), P β false (.int k) xs) (hs : ∀ β ag T xs, intsRow ag T = false → P β ag T xs) (β ag : Bool) (T : Ty) (xs : List (den T)) : P β ag T xs := by
 cases h : intsRow ag T with
 | false => exact hs β ag T xs h
 | true =>
  obtain ⟨rfl, k, rfl⟩ := zc.1 h
  exact hi β k xs
theorem zhW (r : KRow) (ho : rowOwn r = false) : r.view.row = r.down := by
 cases r with
 | os => cases ho
 | cells e cs => rfl
 | ts β ag T xs =>
  refine KRow.tsCases (P := fun β ag T xs => (KRow.ts β ag T xs).view.row = (KRow.ts β ag T xs).down) (fun β k xs => rfl) (fun β ag T xs h => ?_) β ag T xs
  rw [KRow.view_sl h, KRow.down_sl h]; rfl
theorem zhr (r : KRow) : r.down.all = r.view := by
 cases r with
 | os => rfl
 | cells e cs => rfl
 | ts β ag T xs =>
  refine KRow.tsCases (P := fun β ag T xs => (KRow.ts β ag T xs).down.all = (KRow.ts β ag T xs).view) (fun β k xs => rfl) (fun β ag T xs h => ?_) β ag T xs
  rw [KRow.view_sl h, KRow.down_sl h]; rfl
theorem zeF (r : KRow) : r.down.e = rowE r := by
 cases r with
 | os => rfl
 | cells e cs => rfl
 | ts β ag T xs =>
  refine KRow.tsCases (P := fun β ag T xs => (KRow.ts β ag T xs).down.e = rowE (KRow.ts β ag T xs)) (fun β k xs => rfl) (fun β ag T xs h => ?_) β ag T xs
  rw [KRow.down_sl h]; rfl
theorem zjU (r : KRow) : r.view.e = rowE r := by
 cases r with
 | os => rfl
 | cells e cs => rfl
 | ts β ag T xs =>
  refine KRow.tsCases (P := fun β ag T xs => (KRow.ts β ag T xs).view.e = rowE (KRow.ts β ag T xs)) (fun β k xs => rfl) (fun β ag T xs h => ?_) β ag T xs
  rw [KRow.view_sl h]; rfl
theorem zb (cs : List KV) : (KV.downs cs).length = cs.length := by rw [zy, yf1]
theorem zdf (r : KRow) : r.down.len = rowLen r := by
 cases r with
 | os => simp [KRow.down, Row.len, rowLen]
 | cells e cs => simp only [KRow.down, Row.len, rowLen, zb]
 | ts β ag T xs =>
  refine KRow.tsCases (P := fun β ag T xs => (KRow.ts β ag T xs).down.len = rowLen (KRow.ts β ag T xs)) (fun β k xs => rfl) (fun β ag T xs h => ?_) β ag T xs
  rw [KRow.down_sl h]; simp [Row.len, rowLen]
theorem zfi (r : KRow) : r.view.len = rowLen r := by
 cases r with
 | os => simp [KRow.view, View.len, rowLen]
 | cells e cs => simp only [KRow.view, View.len, rowLen, zb]
 | ts β ag T xs =>
  refine KRow.tsCases (P := fun β ag T xs => (KRow.ts β ag T xs).view.len = rowLen (KRow.ts β ag T xs)) (fun β k xs => rfl) (fun β ag T xs h => ?_) β ag T xs
  rw [KRow.view_sl h]; simp [View.len, rowLen]
theorem zaf (r : KRow) : r.down.isCells = rowIsCells r := by
 cases r with
 | os => rfl
 | cells e cs => rfl
 | ts β ag T xs =>
  refine KRow.tsCases (P := fun β ag T xs => (KRow.ts β ag T xs).down.isCells = rowIsCells (KRow.ts β ag T xs)) (fun β k xs => rfl) (fun β ag T xs h => ?_) β ag T xs
  rw [KRow.down_sl h]; rfl
theorem zG (r : KRow) : r.down.isOwn = rowOwn r := by
 cases r with
 | os => rfl
 | cells e cs => rfl
 | ts β ag T xs =>
  refine KRow.tsCases (P := fun β ag T xs => (KRow.ts β ag T xs).down.isOwn = rowOwn (KRow.ts β ag T xs)) (fun β k xs => rfl) (fun β ag T xs h => ?_) β ag T xs
  rw [KRow.down_sl h]; rfl
theorem zX (mem : KMem) (b : Nat) : (kdown mem)[b]? = (mem[b]?).map fun x => x.map KBox.down := by simp [kdown]
theorem zQ (mem : KMem) : (kdown mem).length = mem.length := by simp [kdown]
theorem zbR {mem : KMem} {b : Nat} {x : KBox} (h : getR mem b = some (some x)) : (kdown mem)[b]? = some (some x.down) := by
 rw [zf] at h; rw [zX, h]; rfl
variable {R : Type} {r : R}
theorem zw {mem : KMem} {b g : Nat} {k : KBox → Option R} (h : kbox mem b g k = some r) : ∃ x, box? (kdown mem) b g = some x.down ∧ k x = some r := by
 unfold kbox at h
 split at h
 ·rename_i x hx
  rw [cds] at h
  refine ⟨x, ?_, h.2⟩
  unfold box?
  rw [zbR hx]
  simp only [KBox.down, zG]
  rw [h.1]; rfl
 ·cases h
theorem zaa {mem : KMem} {b g : Nat} {k : KBox → Option R} (h : kboxO mem b g k = some r) : ∃ x, boxO? (kdown mem) b g = some x.down ∧ k x = some r := by
 unfold kboxO at h
 split at h
 ·rename_i x hx
  rw [cds] at h
  refine ⟨x, ?_, h.2⟩
  unfold boxO?
  rw [zbR hx]
  simp only [KBox.down, zG]
  rw [h.1]; rfl
 ·cases h
theorem zW (v : KV) : v.down.cells = KV.downs v.cells := by cases v <;> rfl
theorem zcx {v : KV} (h : oneK v = true) : oneA v.down = true := by
 cases v <;> simp_all [oneK, oneA, KV.down, AV.dead, AV.unkB]
theorem zab : ∀ {vs : List KV}, onesK vs = true → onesA (KV.downs vs) = true
 | [], _ => rfl
 | v :: r, h => by
  simp only [onesK, yb] at h
  simp only [KV.downs, onesA, yb]
  exact ⟨zcx h.1, zab h.2⟩
theorem ziX {o n : Nat} {row : KRow} {k : KRow → Option R} (h : subRow (real R) o n row k = some r) : ∃ v, row.down.sub o n = some v.view ∧ k v = some r ∧ rowE v = rowE row := by
 cases row with
 | os => cases h
 | cells e cs =>
  simp only [subRow, real_guard, cds] at h
  refine ⟨.cells e ((cs.drop (o * e)).take (n * e)), ?_, h.2, rfl⟩
  simp only [KRow.down, Row.sub, zb, gds, h.1, KRow.view, true_and]
  simp [zy, yz2, yo3]
 | ts β ag T xs =>
  simp only [subRow, real_guard, cds] at h
  refine ⟨.ts β ag T ((xs.drop o).take n), ?_, h.2, rfl⟩
  have h1 := h.1
  clear h
  revert h1
  refine KRow.tsCases (P := fun β ag T xs => Nat.ble (o + n) xs.length = true → (KRow.ts β ag T xs).down.sub o n = some (KRow.ts β ag T ((xs.drop o).take n)).view) (fun β k xs h1 => ?_) (fun β ag T xs h h1 => ?_) β ag T xs
  ·rw [KRow.down_ints]; simp only [Row.sub, gds]; exact ⟨h1, rfl⟩
  ·rw [KRow.down_sl h, KRow.view_sl h]; simp only [Row.sub, yf1, gds, h1, true_and]; simp [yz2, yo3]
end Go.Ab
