import Derived.Test.YtdlbbdbbpoggfaaGreatDoorLib5
set_option linter.unusedVariables false
set_option linter.unusedSectionVars false
set_option linter.unusedSimpArgs false
namespace Go.Ab
variable [cD]
theorem Lz {α β : Type} {x : Option α} {f : α → Option β} {y : β} : x.bind f = some y ↔ ∃ a, x = some a ∧ f a = some y := yo1
theorem g8 {α : Type} {c : Bool} {x : Option α} {y : α} : guardB c x = some y ↔ c = true ∧ x = some y := by cases c <;> simp [guardB]
theorem c9 {α : Type} {c : Bool} {x : Option α} {y : α} : (bif c then x else none) = some y ↔ c = true ∧ x = some y := by cases c <;> simp
theorem nb {a b : Nat} : Nat.beq a b = true ↔ a = b := ⟨Nat.eq_of_beq_eq_true, fun h => by subst h; exact ys3 a⟩
theorem nl {a b : Nat} : Nat.ble a b = true ↔ a ≤ b := by rw [Nat.ble_eq]
theorem vV {a b : IntKind} : gV a b = true ↔ a = b := by cases a <;> cases b <;> simp [gV]
theorem L5 {a b : Bool} : fT a b = true ↔ a = b := by cases a <;> cases b <;> simp [fT]
theorem Ty.beq_iff {a b : Ty} : Ty.beq a b = true ↔ a = b := by
 refine ⟨Ty.eq_of_beq, fun h => ?_⟩
 subst h
 induction a with
 | int k => exact vV.2 rfl
 | bool => rfl
 | str => rfl
 | sl ag T H => simp [Ty.beq, nG, H, L5.2]
 | cons a b z A => simp [Ty.beq, nG, z, A]
section
variable {R : Type}
@[simp] theorem real_ite (c : Bool) (a b : Option R) : (bI R).ite c a b = cond c a b := rfl
@[simp] theorem real_guard (c : Bool) (a : Option R) : (bI R).guard c a = cond c a none := rfl
@[simp] theorem real_get {α : Type} (xs : List α) (i : Int) (k : α → Option R) : (bI R).get xs i k = (aD xs i).bind k := rfl
@[simp] theorem real_getN {α : Type} (xs : List α) (i : Nat) (k : α → Option R) : (bI R).getN xs i k = (xs[i]?).bind k := rfl
end
theorem mP {F : Ty → Type} {a b : Ty} {c : Bool} {z : Ty.beq a b = c} {x : F a} {y : F b} (h : Fw (F := F) c z x = some y) : ∃ e : a = b, e ▸ x = y := by
 cases c with
 | true => exact ⟨Ty.eq_of_beq z, yb h⟩
 | false => cases h
theorem fW {a b : Ty} {x : List (den a)} {y : List (den b)} (h : BL a b x = some y) : ∃ e : a = b, e ▸ x = y := mP (F := fun T => List (den T)) h
abbrev h9 : Bool → Ty → Bool := bT
def gY (ag : Bool) (cs : List PV) : PV :=
 match ag, cs with
 | false, [c] => c
 | _, cs => .agg cs
noncomputable def Hx (ag : Bool) : (T : Ty) → (den T → List PV) → List (den T) → PV
 | .int k, f, xs => bif ag then .sl 1 (xs.map fun x => gY ag (f x)) else .ints k xs
 | .bool, f, xs => .sl 1 (xs.map fun x => gY ag (f x))
 | .str, f, xs => .sl 1 (xs.map fun x => gY ag (f x))
 | .sl g T, f, xs => .sl 1 (xs.map fun x => gY ag (f x))
 | .cons a b, f, xs => .sl (a.size + b.size) (xs.map fun x => gY ag (f x))
noncomputable def aV : (T : Ty) → den T → List PV
 | .int k, x => [.lit (.int k x)]
 | .bool, x => [.lit (.bool x)]
 | .str, x => [.lit (.string x)]
 | .sl ag T, xs => [Hx ag T (aV T) xs]
 | .cons a b, x => aV a (Prod.fst x) ++ aV b (Prod.snd x)
noncomputable def fK (ag : Bool) (T : Ty) (x : den T) : PV := gY ag (aV T x)
noncomputable def iB (ag : Bool) (T : Ty) (xs : List (den T)) : PV := Hx ag T (aV T) xs
theorem Li {k : IntKind} {xs : List Int} : iB false (.int k) xs = .ints k xs := rfl
theorem d7 {ag : Bool} {T : Ty} (h : h9 ag T = false) (xs : List (den T)) : iB ag T xs = .sl T.size (xs.map (fK ag T)) := by
 cases T with
 | int k => cases ag with
  | false => cases h
  | true => rfl
 | bool => rfl
 | str => rfl
 | sl g T => rfl
 | cons a b => rfl
theorem aX {ag : Bool} {T : Ty} : h9 ag T = true ↔ ag = false ∧ ∃ k, T = .int k := by
 cases T <;> cases ag <;> simp [h9, bT]
theorem bO : ∀ {T : Ty} {x : den T}, (aV T x).length = T.size
 | .int k, x => rfl
 | .bool, x => rfl
 | .str, x => rfl
 | .sl ag T, xs => rfl
 | .cons a b, x => by simp only [aV, yi, bO]; rfl
theorem Ty.size_pos : ∀ {T : Ty}, 1 ≤ T.size
 | .int k => yz _
 | .bool => yz _
 | .str => yz _
 | .sl ag T => yz _
 | .cons a b => yt2 (Ty.size_pos (T := a)) (Nat.le_add_right _ _)
def Cg : PV → Bool
 | .agg _ => false
 | _ => true
theorem BN (ag : Bool) (T : Ty) (xs : List (den T)) : Cg (iB ag T xs) = true := by
 cases T with
 | int k => cases ag <;> rfl
 | bool => rfl
 | str => rfl
 | sl g T => rfl
 | cons a b => rfl
theorem lX : ∀ {T : Ty} {x : den T} {p : PV}, p ∈ aV T x → Cg p = true
 | .int k, x, p, h => by simp only [aV, ym1] at h; subst h; rfl
 | .bool, x, p, h => by simp only [aV, ym1] at h; subst h; rfl
 | .str, x, p, h => by simp only [aV, ym1] at h; subst h; rfl
 | .sl ag T, xs, p, h => by simp only [aV, ym1] at h; subst h; exact BN ag T xs
 | .cons a b, x, p, h => by
  simp only [aV, yb2] at h
  exact h.elim (fun h => lX h) (fun h => lX h)
theorem B9 {p : PV} (h : Cg p = true) : p.cells = [p] := by cases p <;> first | rfl | cases h
theorem Ep {ag : Bool} {cs : List PV} (h : ∀ p ∈ cs, Cg p = true) : (gY ag cs).cells = cs := by
 unfold gY
 split
 ·exact B9 (h _ (by simp))
 ·rfl
theorem dI {ag : Bool} {T : Ty} {x : den T} : (fK ag T x).cells = aV T x := Ep fun p h => lX h
mutual
noncomputable def KV.down : KV → AV
 | .lit v => .lit v
 | .tsl β ag T xs => .imm β (iB ag T xs)
 | .el β ag T x c => .el β (fK ag T x) c
 | .ptr b g i c => .ptr b g i c
 | .ms b g o n => .ms b g o n
 | .msw b g => .msw b g
 | .fn f fi ca => .fn f (KV.downs fi) (KV.downs ca)
 | .agg cs => .agg (KV.downs cs)
 | .tup vs => .tup (KV.downs vs)
 | .dead => AV.dead
 | .gone => AV.goneV
 | .unkB => AV.unkB
noncomputable def KV.downs : List KV → List AV
 | [] => []
 | v :: r => v.down :: KV.downs r
end
theorem dC : ∀ vs : List KV, KV.downs vs = vs.map KV.down
 | [] => rfl
 | v :: r => by simp [KV.downs, dC r]
noncomputable def KRow.down : KRow → cI
 | .ts β ag T xs => match iB ag T xs with
  | .ints k ys => .ints k ys
  | .sl e ys => .pvs β e ys
  | _ => .pvs β 1 []
 | .cells e cs => .cells e (KV.downs cs)
noncomputable def KRow.view : KRow → aN
 | .ts β ag T xs => match iB ag T xs with
  | .ints k ys => .ints k ys
  | .sl e ys => .pvs β e ys
  | _ => .pvs β 1 []
 | .cells e cs => .avs e (KV.downs cs)
noncomputable def fG.down (x : fG) : d8 := { gen := x.gen, frz := x.frz, row := x.row.down }
noncomputable def aF (mem : aR) : a9 := mem.map fun x => x.map fG.down
noncomputable def bY.down (o : bY) : eL := { v := o.v.down, rd := o.rd, wr := o.wr.map fun q => (q.1, q.2.down), push := aF o.push }
theorem KRow.down_ints {β : Bool} {k : IntKind} {xs : List Int} : (KRow.ts β false (.int k) xs).down = .ints k xs := rfl
theorem KRow.down_sl {β ag : Bool} {T : Ty} {xs : List (den T)} (h : h9 ag T = false) : (KRow.ts β ag T xs).down = .pvs β T.size (xs.map (fK ag T)) := by
 simp only [KRow.down, d7 h]
theorem KRow.view_sl {β ag : Bool} {T : Ty} {xs : List (den T)} (h : h9 ag T = false) : (KRow.ts β ag T xs).view = .pvs β T.size (xs.map (fK ag T)) := by
 simp only [KRow.view, d7 h]
theorem KRow.tsCases {P : Bool → Bool → (T : Ty) → List (den T) → Prop} (z : ∀ β k (xs : List Int), P β false (.int k) xs) (A : ∀ β ag T xs, h9 ag T = false → P β ag T xs) (β ag : Bool) (T : Ty) (xs : List (den T)) : P β ag T xs := by
 cases h : h9 ag T with
 | false => exact A β ag T xs h
 | true =>
  obtain ⟨rfl, k, rfl⟩ := aX.1 h
  exact z β k xs
theorem Eb (r : KRow) : r.view.row = r.down := by
 cases r with
 | cells e cs => rfl
 | ts β ag T xs =>
  refine KRow.tsCases (P := fun β ag T xs => (KRow.ts β ag T xs).view.row = (KRow.ts β ag T xs).down) (fun β k xs => rfl) (fun β ag T xs h => ?_) β ag T xs
  rw [KRow.view_sl h, KRow.down_sl h]; rfl
theorem Ci (r : KRow) : r.down.all = r.view := by
 cases r with
 | cells e cs => rfl
 | ts β ag T xs =>
  refine KRow.tsCases (P := fun β ag T xs => (KRow.ts β ag T xs).down.all = (KRow.ts β ag T xs).view) (fun β k xs => rfl) (fun β ag T xs h => ?_) β ag T xs
  rw [KRow.view_sl h, KRow.down_sl h]; rfl
theorem F5 (r : KRow) : r.down.e = s7 r := by
 cases r with
 | cells e cs => rfl
 | ts β ag T xs =>
  refine KRow.tsCases (P := fun β ag T xs => (KRow.ts β ag T xs).down.e = s7 (KRow.ts β ag T xs)) (fun β k xs => rfl) (fun β ag T xs h => ?_) β ag T xs
  rw [KRow.down_sl h]; rfl
theorem GE (r : KRow) : r.view.e = s7 r := by
 cases r with
 | cells e cs => rfl
 | ts β ag T xs =>
  refine KRow.tsCases (P := fun β ag T xs => (KRow.ts β ag T xs).view.e = s7 (KRow.ts β ag T xs)) (fun β k xs => rfl) (fun β ag T xs h => ?_) β ag T xs
  rw [KRow.view_sl h]; rfl
theorem aQ (cs : List KV) : (KV.downs cs).length = cs.length := by rw [dC, ye2]
theorem Co (r : KRow) : r.down.len = jB r := by
 cases r with
 | cells e cs => simp only [KRow.down, cI.len, jB, aQ]
 | ts β ag T xs =>
  refine KRow.tsCases (P := fun β ag T xs => (KRow.ts β ag T xs).down.len = jB (KRow.ts β ag T xs)) (fun β k xs => rfl) (fun β ag T xs h => ?_) β ag T xs
  rw [KRow.down_sl h]; simp [cI.len, jB]
theorem yO (r : KRow) : r.view.len = jB r := by
 cases r with
 | cells e cs => simp only [KRow.view, aN.len, jB, aQ]
 | ts β ag T xs =>
  refine KRow.tsCases (P := fun β ag T xs => (KRow.ts β ag T xs).view.len = jB (KRow.ts β ag T xs)) (fun β k xs => rfl) (fun β ag T xs h => ?_) β ag T xs
  rw [KRow.view_sl h]; simp [aN.len, jB]
theorem eW (r : KRow) : r.down.isCells = iD r := by
 cases r with
 | cells e cs => rfl
 | ts β ag T xs =>
  refine KRow.tsCases (P := fun β ag T xs => (KRow.ts β ag T xs).down.isCells = iD (KRow.ts β ag T xs)) (fun β k xs => rfl) (fun β ag T xs h => ?_) β ag T xs
  rw [KRow.down_sl h]; rfl
theorem gC (mem : aR) (b : Nat) : (aF mem)[b]? = (mem[b]?).map fun x => x.map fG.down := by simp [aF]
theorem iY (mem : aR) : (aF mem).length = mem.length := by simp [aF]
theorem JG {mem : aR} {b : Nat} {x : fG} (h : kO mem b = some (some x)) : (aF mem)[b]? = some (some x.down) := by
 rw [bU] at h; rw [gC, h]; rfl
variable {R : Type} {r : R}
theorem cY {mem : aR} {b g : Nat} {k : fG → Option R} (h : rY mem b g k = some r) : ∃ x, box? (aF mem) b g = some x.down ∧ k x = some r := by
 unfold rY at h
 split at h
 ·rename_i x hx
  rw [c9] at h
  refine ⟨x, ?_, h.2⟩
  unfold box?
  rw [JG hx]
  simp only [fG.down]
  rw [nb.1 h.1]; simp
 ·cases h
theorem eK (v : KV) : v.down.cells = KV.downs v.cells := by cases v <;> rfl
theorem Fy {v : KV} (h : N9 v = true) : JL v.down = true := by
 cases v <;> simp_all [N9, JL, KV.down, AV.dead, AV.unkB]
theorem iA : ∀ {vs : List KV}, z3 vs = true → kM (KV.downs vs) = true
 | [], _ => rfl
 | v :: r, h => by
  simp only [z3, yc] at h
  simp only [KV.downs, kM, yc]
  exact ⟨Fy h.1, iA h.2⟩
theorem Cw {o n : Nat} {row : KRow} {k : KRow → Option R} (h : AO (bI R) o n row k = some r) : ∃ v, row.down.sub o n = some v.view ∧ k v = some r ∧ s7 v = s7 row := by
 cases row with
 | cells e cs =>
  simp only [AO, real_guard, c9] at h
  refine ⟨.cells e ((cs.drop (o * e)).take (n * e)), ?_, h.2, rfl⟩
  simp only [KRow.down, cI.sub, aQ, g8, h.1, KRow.view, true_and]
  simp [dC, ym3, yn3]
 | ts β ag T xs =>
  simp only [AO, real_guard, c9] at h
  refine ⟨.ts β ag T ((xs.drop o).take n), ?_, h.2, rfl⟩
  have h1 := h.1
  clear h
  revert h1
  refine KRow.tsCases (P := fun β ag T xs => Nat.ble (o + n) xs.length = true → (KRow.ts β ag T xs).down.sub o n = some (KRow.ts β ag T ((xs.drop o).take n)).view) (fun β k xs h1 => ?_) (fun β ag T xs h h1 => ?_) β ag T xs
  ·rw [KRow.down_ints]; simp only [cI.sub, g8]; exact ⟨h1, rfl⟩
  ·rw [KRow.down_sl h, KRow.view_sl h]; simp only [cI.sub, ye2, g8, h1, true_and]; simp [ym3, yn3]
end Go.Ab
