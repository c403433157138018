import Derived.Test.YtdlbbdbbpoggfaaLib6
set_option linter.unusedVariables false
set_option linter.unusedSectionVars false
set_option linter.unusedSimpArgs false
namespace Go.Ab
variable [b4]
theorem C7 {α β : Type} {x : Option α} {f : α → Option β} {y : β} : x.bind f = some y ↔ ∃ a, x = some a ∧ f a = some y := yd2
theorem eB {α : Type} {c : Bool} {x : Option α} {y : α} : guardB c x = some y ↔ c = true ∧ x = some y := by cases c <;> simp [guardB]
theorem bR {α : Type} {c : Bool} {x : Option α} {y : α} : (bif c then x else none) = some y ↔ c = true ∧ x = some y := by cases c <;> simp
theorem nb {a b : Nat} : Nat.beq a b = true ↔ a = b := ⟨Nat.eq_of_beq_eq_true, fun h => by subst h; exact yp3 a⟩
theorem nl {a b : Nat} : Nat.ble a b = true ↔ a ≤ b := by rw [Nat.ble_eq]
theorem rW {a b : IntKind} : gK a b = true ↔ a = b := by cases a <;> cases b <;> simp [gK]
theorem Ip {a b : Bool} : eG a b = true ↔ a = b := by cases a <;> cases b <;> simp [eG]
theorem Ty.beq_iff {a b : Ty} : Ty.beq a b = true ↔ a = b := by
 refine ⟨Ty.eq_of_beq, fun h => ?_⟩
 subst h
 induction a with
 | int k => exact rW.2 rfl
 | bool => rfl
 | str => rfl
 | sl ag T J => simp [Ty.beq, nI, J, Ip.2]
 | cons a b H I => simp [Ty.beq, nI, H, I]
section
variable {R : Type}
@[simp] theorem real_ite (c : Bool) (a b : Option R) : (aP R).ite c a b = cond c a b := rfl
@[simp] theorem real_guard (c : Bool) (a : Option R) : (aP R).guard c a = cond c a none := rfl
@[simp] theorem real_get {α : Type} (xs : List α) (i : Int) (k : α → Option R) : (aP R).get xs i k = (eC xs i).bind k := rfl
@[simp] theorem real_getN {α : Type} (xs : List α) (i : Nat) (k : α → Option R) : (aP R).getN xs i k = (xs[i]?).bind k := rfl
end
theorem mN {F : Ty → Type} {a b : Ty} {c : Bool} {H : Ty.beq a b = c} {x : F a} {y : F b} (h : GA (F := F) c H x = some y) : ∃ e : a = b, e ▸ x = y := by
 cases c with
 | true => exact ⟨Ty.eq_of_beq H, ya h⟩
 | false => cases h
theorem dW {a b : Ty} {x : List (den a)} {y : List (den b)} (h : o5 a b x = some y) : ∃ e : a = b, e ▸ x = y := mN (F := fun T => List (den T)) h
abbrev gL : Bool → Ty → Bool := aY
def iF (ag : Bool) (cs : List PV) : PV :=
 match ag, cs with
 | false, [c] => c
 | _, cs => .agg cs
noncomputable def IB (ag : Bool) : (T : Ty) → (den T → List PV) → List (den T) → PV
 | .int k, f, xs => bif ag then .sl 1 (xs.map fun x => iF ag (f x)) else .ints k xs
 | .bool, f, xs => .sl 1 (xs.map fun x => iF ag (f x))
 | .str, f, xs => .sl 1 (xs.map fun x => iF ag (f x))
 | .sl g T, f, xs => .sl 1 (xs.map fun x => iF ag (f x))
 | .cons a b, f, xs => .sl (a.size + b.size) (xs.map fun x => iF ag (f x))
noncomputable def aM : (T : Ty) → den T → List PV
 | .int k, x => [.lit (.int k x)]
 | .bool, x => [.lit (.bool x)]
 | .str, x => [.lit (.string x)]
 | .sl ag T, xs => [IB ag T (aM T) xs]
 | .cons a b, x => aM a (Prod.fst x) ++ aM b (Prod.snd x)
noncomputable def cT (ag : Bool) (T : Ty) (x : den T) : PV := iF ag (aM T x)
noncomputable def dN (ag : Bool) (T : Ty) (xs : List (den T)) : PV := IB ag T (aM T) xs
theorem Mq {k : IntKind} {xs : List Int} : dN false (.int k) xs = .ints k xs := rfl
theorem bX {ag : Bool} {T : Ty} (h : gL ag T = false) (xs : List (den T)) : dN ag T xs = .sl T.size (xs.map (cT ag T)) := by
 cases T with
 | int k => cases ag with
  | false => cases h
  | true => rfl
 | bool => rfl
 | str => rfl
 | sl g T => rfl
 | cons a b => rfl
theorem aK {ag : Bool} {T : Ty} : gL ag T = true ↔ ag = false ∧ ∃ k, T = .int k := by
 cases T <;> cases ag <;> simp [gL, aY]
theorem bP : ∀ {T : Ty} {x : den T}, (aM T x).length = T.size
 | .int k, x => rfl
 | .bool, x => rfl
 | .str, x => rfl
 | .sl ag T, xs => rfl
 | .cons a b, x => by simp only [aM, yi1, bP]; rfl
theorem Ty.size_pos : ∀ {T : Ty}, 1 ≤ T.size
 | .int k => yy _
 | .bool => yy _
 | .str => yy _
 | .sl ag T => yy _
 | .cons a b => ya2 (Ty.size_pos (T := a)) (Nat.le_add_right _ _)
def zU : PV → Bool
 | .agg _ => false
 | _ => true
theorem vU (ag : Bool) (T : Ty) (xs : List (den T)) : zU (dN ag T xs) = true := by
 cases T with
 | int k => cases ag <;> rfl
 | bool => rfl
 | str => rfl
 | sl g T => rfl
 | cons a b => rfl
theorem mK : ∀ {T : Ty} {x : den T} {p : PV}, p ∈ aM T x → zU p = true
 | .int k, x, p, h => by simp only [aM, yb2] at h; subst h; rfl
 | .bool, x, p, h => by simp only [aM, yb2] at h; subst h; rfl
 | .str, x, p, h => by simp only [aM, yb2] at h; subst h; rfl
 | .sl ag T, xs, p, h => by simp only [aM, yb2] at h; subst h; exact vU ag T xs
 | .cons a b, x, p, h => by
  simp only [aM, yo1] at h
  exact h.elim (fun h => mK h) (fun h => mK h)
theorem CR {p : PV} (h : zU p = true) : p.cells = [p] := by cases p <;> first | rfl | cases h
theorem D3 {ag : Bool} {cs : List PV} (h : ∀ p ∈ cs, zU p = true) : (iF ag cs).cells = cs := by
 unfold iF
 split
 ·exact CR (h _ (by simp))
 ·rfl
theorem b6 {ag : Bool} {T : Ty} {x : den T} : (cT ag T x).cells = aM T x := D3 fun p H => mK H
mutual
noncomputable def KV.down : KV → AV
 | .lit v => .lit v
 | .tsl β ag T xs => .imm β (dN ag T xs)
 | .el β ag T x c => .el β (cT ag T x) c
 | .ptr b g i c => .ptr b g i c
 | .ms b g o n => .ms b g o n
 | .msw b g => .msw b g
 | .fn f fi ca => .fn f (KV.downs fi) (KV.downs ca)
 | .agg cs => .agg (KV.downs cs)
 | .tup vs => .tup (KV.downs vs)
 | .dead => AV.dead
 | .gone => AV.goneV
 | .unkB => AV.unkB
noncomputable def KV.downs : List KV → List AV
 | [] => []
 | v :: r => v.down :: KV.downs r
end
theorem cY : ∀ vs : List KV, KV.downs vs = vs.map KV.down
 | [] => rfl
 | v :: r => by simp [KV.downs, cY r]
theorem Gz (T : Ty) : gL (eY T) T = false := by cases T <;> rfl
noncomputable def aV : c5 → List (Nat × Nat × AV)
 | [] => []
 | h :: r => (h.1, h.2.1, h.2.2.down) :: aV r
noncomputable def KRow.down : KRow → Row
 | .ts β ag T xs => match dN ag T xs with
  | .ints k ys => .ints k ys
  | .sl e ys => .pvs β e ys
  | _ => .pvs β 1 []
 | .cells e cs => .cells e (KV.downs cs)
 | .os T xs hs => .own T.size (xs.map (cT (eY T) T)) (aV hs)
noncomputable def KRow.view : KRow → aI
 | .ts β ag T xs => match dN ag T xs with
  | .ints k ys => .ints k ys
  | .sl e ys => .pvs β e ys
  | _ => .pvs β 1 []
 | .cells e cs => .avs e (KV.downs cs)
 | .os T xs hs => .pvs true T.size (xs.map (cT (eY T) T))
noncomputable def dD.down (x : dD) : a9 := { gen := x.gen, frz := x.frz, row := x.row.down }
noncomputable def aB (mem : aD) : aH := mem.map fun x => x.map dD.down
noncomputable def aZ.down (o : aZ) : dE := { v := o.v.down, rd := o.rd, wr := o.wr.map fun q => (q.1, q.2.down), push := aB o.push }
theorem KRow.down_ints {β : Bool} {k : IntKind} {xs : List Int} : (KRow.ts β false (.int k) xs).down = .ints k xs := rfl
theorem KRow.down_sl {β ag : Bool} {T : Ty} {xs : List (den T)} (h : gL ag T = false) : (KRow.ts β ag T xs).down = .pvs β T.size (xs.map (cT ag T)) := by
 simp only [KRow.down, bX h]
theorem KRow.view_sl {β ag : Bool} {T : Ty} {xs : List (den T)} (h : gL ag T = false) : (KRow.ts β ag T xs).view = .pvs β T.size (xs.map (cT ag T)) := by
 simp only [KRow.view, bX h]
theorem KRow.tsCases {P : Bool → Bool → (T : Ty) → List (den T) → Prop} (H : ∀ β k (xs : List Int), P β false (.int k) xs) (hs : ∀ β ag T xs, gL ag T = false → P β ag T xs) (β ag : Bool) (T : Ty) (xs : List (den T)) : P β ag T xs := by
 cases h : gL ag T with
 | false => exact hs β ag T xs h
 | true =>
  obtain ⟨rfl, k, rfl⟩ := aK.1 h
  exact H β k xs
theorem FK (r : KRow) (H : gX r = false) : r.view.row = r.down := by
 cases r with
 | os => cases H
 | cells e cs => rfl
 | ts β ag T xs =>
  refine KRow.tsCases (P := fun β ag T xs => (KRow.ts β ag T xs).view.row = (KRow.ts β ag T xs).down) (fun β k xs => rfl) (fun β ag T xs h => ?_) β ag T xs
  rw [KRow.view_sl h, KRow.down_sl h]; rfl
theorem C6 (r : KRow) : r.down.all = r.view := by
 cases r with
 | os => rfl
 | cells e cs => rfl
 | ts β ag T xs =>
  refine KRow.tsCases (P := fun β ag T xs => (KRow.ts β ag T xs).down.all = (KRow.ts β ag T xs).view) (fun β k xs => rfl) (fun β ag T xs h => ?_) β ag T xs
  rw [KRow.view_sl h, KRow.down_sl h]; rfl
theorem wY (r : KRow) : r.down.e = o0 r := by
 cases r with
 | os => rfl
 | cells e cs => rfl
 | ts β ag T xs =>
  refine KRow.tsCases (P := fun β ag T xs => (KRow.ts β ag T xs).down.e = o0 (KRow.ts β ag T xs)) (fun β k xs => rfl) (fun β ag T xs h => ?_) β ag T xs
  rw [KRow.down_sl h]; rfl
theorem HG (r : KRow) : r.view.e = o0 r := by
 cases r with
 | os => rfl
 | cells e cs => rfl
 | ts β ag T xs =>
  refine KRow.tsCases (P := fun β ag T xs => (KRow.ts β ag T xs).view.e = o0 (KRow.ts β ag T xs)) (fun β k xs => rfl) (fun β ag T xs h => ?_) β ag T xs
  rw [KRow.view_sl h]; rfl
theorem aG (cs : List KV) : (KV.downs cs).length = cs.length := by rw [cY, ye1]
theorem pN (r : KRow) : r.down.len = fV r := by
 cases r with
 | os => simp [KRow.down, Row.len, fV]
 | cells e cs => simp only [KRow.down, Row.len, fV, aG]
 | ts β ag T xs =>
  refine KRow.tsCases (P := fun β ag T xs => (KRow.ts β ag T xs).down.len = fV (KRow.ts β ag T xs)) (fun β k xs => rfl) (fun β ag T xs h => ?_) β ag T xs
  rw [KRow.down_sl h]; simp [Row.len, fV]
theorem zT (r : KRow) : r.view.len = fV r := by
 cases r with
 | os => simp [KRow.view, aI.len, fV]
 | cells e cs => simp only [KRow.view, aI.len, fV, aG]
 | ts β ag T xs =>
  refine KRow.tsCases (P := fun β ag T xs => (KRow.ts β ag T xs).view.len = fV (KRow.ts β ag T xs)) (fun β k xs => rfl) (fun β ag T xs h => ?_) β ag T xs
  rw [KRow.view_sl h]; simp [aI.len, fV]
theorem fD (r : KRow) : r.down.isCells = iP r := by
 cases r with
 | os => rfl
 | cells e cs => rfl
 | ts β ag T xs =>
  refine KRow.tsCases (P := fun β ag T xs => (KRow.ts β ag T xs).down.isCells = iP (KRow.ts β ag T xs)) (fun β k xs => rfl) (fun β ag T xs h => ?_) β ag T xs
  rw [KRow.down_sl h]; rfl
theorem dJ (r : KRow) : r.down.isOwn = gX r := by
 cases r with
 | os => rfl
 | cells e cs => rfl
 | ts β ag T xs =>
  refine KRow.tsCases (P := fun β ag T xs => (KRow.ts β ag T xs).down.isOwn = gX (KRow.ts β ag T xs)) (fun β k xs => rfl) (fun β ag T xs h => ?_) β ag T xs
  rw [KRow.down_sl h]; rfl
theorem eM (mem : aD) (b : Nat) : (aB mem)[b]? = (mem[b]?).map fun x => x.map dD.down := by simp [aB]
theorem d7 (mem : aD) : (aB mem).length = mem.length := by simp [aB]
theorem mW {mem : aD} {b : Nat} {x : dD} (h : dZ mem b = some (some x)) : (aB mem)[b]? = some (some x.down) := by
 rw [aX] at h; rw [eM, h]; rfl
variable {R : Type} {r : R}
theorem cQ {mem : aD} {b g : Nat} {k : dD → Option R} (h : oJ mem b g k = some r) : ∃ x, box? (aB mem) b g = some x.down ∧ k x = some r := by
 unfold oJ at h
 split at h
 ·rename_i x H
  rw [bR] at h
  refine ⟨x, ?_, h.2⟩
  unfold box?
  rw [mW H]
  simp only [dD.down, dJ]
  rw [h.1]; rfl
 ·cases h
theorem eW {mem : aD} {b g : Nat} {k : dD → Option R} (h : rF mem b g k = some r) : ∃ x, boxO? (aB mem) b g = some x.down ∧ k x = some r := by
 unfold rF at h
 split at h
 ·rename_i x H
  rw [bR] at h
  refine ⟨x, ?_, h.2⟩
  unfold boxO?
  rw [mW H]
  simp only [dD.down, dJ]
  rw [h.1]; rfl
 ·cases h
theorem eH (v : KV) : v.down.cells = KV.downs v.cells := by cases v <;> rfl
theorem oL {v : KV} (h : NQ v = true) : H0 v.down = true := by
 cases v <;> simp_all [NQ, H0, KV.down, AV.dead, AV.unkB]
theorem eU : ∀ {vs : List KV}, rH vs = true → jB (KV.downs vs) = true
 | [], _ => rfl
 | v :: r, h => by
  simp only [rH, yb] at h
  simp only [KV.downs, jB, yb]
  exact ⟨oL h.1, eU h.2⟩
theorem Ds {o n : Nat} {row : KRow} {k : KRow → Option R} (h : BG (aP R) o n row k = some r) : ∃ v, row.down.sub o n = some v.view ∧ k v = some r ∧ o0 v = o0 row := by
 cases row with
 | os => cases h
 | cells e cs =>
  simp only [BG, real_guard, bR] at h
  refine ⟨.cells e ((cs.drop (o * e)).take (n * e)), ?_, h.2, rfl⟩
  simp only [KRow.down, Row.sub, aG, eB, h.1, KRow.view, true_and]
  simp [cY, yz2, yn3]
 | ts β ag T xs =>
  simp only [BG, real_guard, bR] at h
  refine ⟨.ts β ag T ((xs.drop o).take n), ?_, h.2, rfl⟩
  have H := h.1
  clear h
  revert H
  refine KRow.tsCases (P := fun β ag T xs => Nat.ble (o + n) xs.length = true → (KRow.ts β ag T xs).down.sub o n = some (KRow.ts β ag T ((xs.drop o).take n)).view) (fun β k xs H => ?_) (fun β ag T xs h H => ?_) β ag T xs
  ·rw [KRow.down_ints]; simp only [Row.sub, eB]; exact ⟨H, rfl⟩
  ·rw [KRow.down_sl h, KRow.view_sl h]; simp only [Row.sub, ye1, eB, H, true_and]; simp [yz2, yn3]
end Go.Ab
