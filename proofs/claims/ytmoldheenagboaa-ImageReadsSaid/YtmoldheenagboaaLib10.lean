import Derived.Test.YtmoldheenagboaaLib9
set_option linter.unusedVariables false
set_option linter.unusedSectionVars false
set_option linter.unusedSimpArgs false
namespace Go.Ab
variable [b8]
section
variable (P : Program)
noncomputable def Ty.depth (T : Ty) : Nat := Ty.rec (fun _ => 1) 1 1 (fun _ _ d => d + 1) (fun _ _ a b => max a b) T
noncomputable def bN : Ty → List LK → Bool
 | .int k, ls => (match ls with | [.int k'] => f6 k k' | _ => false)
 | .bool, ls => (match ls with | [.bool] => true | _ => false)
 | .str, ls => (match ls with | [.str] => true | _ => false)
 | .sl ag T, ls => (match ls with
  | [.ints k] => (match ag, T with | false, .int k' => f6 k k' | _, _ => false)
  | [.sl t e] => Nat.beq e T.size && !(f9 ag T) && (match isAgg? P t with | some a => eV a ag | none => false) && (ag || Nat.beq T.size 1) && (match leaves? P 8 t with | some ls' => bN T ls' | none => false)
  | _ => false)
 | .cons a b, ls => (match ls with
  | l :: r => Nat.beq a.size 1 && bN a [l] && bN b r
  | [] => false)
noncomputable def zJ : List (Nat × Nat × TypeId) → List Field → Bool
 | [], [] => true
 | q :: r, f :: fs => Nat.beq q.1 f.offset && Nat.beq q.2.2 f.type && (match j0 P f.type with | some n => Nat.beq n q.2.1 | none => false) && zJ r fs
 | _, _ => false
noncomputable def lF (t : TypeId) (ti : TI) : Bool :=
 match ti.tk, P.underlying t with
 | .int k, some (.int k') => f6 k k'
 | .bool, some .bool => true
 | .str, some .string => true
 | .sl et, some (.slice e) => Nat.beq et e
 | .st fs, some (.struct l) => zJ P fs l.toList
 | .ptr, some (.pointer _) => true
 | .arr n e, some (.array n' e') => Nat.beq n n' && Nat.beq e e'
 | .other, some (.int _) => false
 | .other, some _ => true
 | _, _ => false
def Gw : Value → Value → Bool
 | .int k n, .int k' n' => f6 k k' && decide (n = n')
 | .bool a, .bool b => eV a b
 | .string a, .string b => (match a.data.toList, b.data.toList with | [], [] => true | _, _ => false)
 | .slice none 0 0, .slice none 0 0 => true
 | .pointer none, .pointer none => true
 | _, _ => false
def o9 : List Value → List Value → Bool
 | [], [] => true
 | a :: r, b :: s => Gw a b && o9 r s
 | _, _ => false
noncomputable def Fw (ag : Bool) (zs : List Value) (z : Option Value) : Bool :=
 match z with
 | some (.agg cs) => ag && o9 cs.toList zs
 | some v => !ag && o9 [v] zs
 | none => false
noncomputable def Cd (t : TypeId) (T : Ty) : Bool :=
 match P.underlying t with
 | some (.int k) => (match T with | .int k' => f6 k k' | _ => false)
 | some .bool => (match T with | .bool => true | _ => false)
 | some .string => (match T with | .str => true | _ => false)
 | _ => false
noncomputable def zX : List Field → Nat → List Ty → Bool
 | [], _, [] => true
 | f :: r, n, T :: Ts => (f.name != "_") && Nat.beq f.offset n && Cd P f.type T && zX r (n + 1) Ts
 | _, _, _ => false
noncomputable def II (t : TypeId) (ti : TI) : Bool :=
 (match j0 P t with | some n => Nat.beq n ti.n | none => false) && (match kU P t with | some n => Nat.beq n ti.bytes | none => false) && (match isAgg? P t with | some a => eV a ti.ag | none => false) && lF P t ti
  && Fw ti.ag ti.zero ((P.info? t).bind (·.zero))
  && (match ti.ty with | some T => (match leaves? P 8 t with | some ls => bN P T ls | none => false) && Nat.beq T.size ti.n && (ti.ag || Nat.beq T.size 1) && Nat.ble T.depth 6 | none => true)
  && (!ti.eq || (match P.underlying t, ti.ty with | some (.struct fs), some T => (!(P.stoodInHeld t)) && (!(P.eqGuardType P.depth t)) && zX P fs.toList 0 (c9 T) | _, _ => false))
def b9 (tab : TypeId → Option TI) : Prop := ∀ t ti, tab t = some ti → II P t ti = true
theorem b9.of_list {l : List (Nat × TI)} (h : (l.all fun q => II P q.1 q.2) = true) : b9 P fun t => bR t l := by
 intro t ti z
 induction l with
 | nil => cases z
 | cons q l J =>
  obtain ⟨m, x⟩ := q
  simp only [yk3, yc] at h
  simp only [bR] at z
  cases H : Nat.beq m t with
  | true =>
   rw [H] at z; simp only [yg] at z
   obtain rfl := ya z
   obtain rfl := nb.1 H
   exact h.1
  | false => rw [H] at z; simp only [yh] at z; exact J h.2 z
structure bX (t : TypeId) (ti : TI) : Prop where
 n : j0 P t = some ti.n
 bytes : kU P t = some ti.bytes
 ag : isAgg? P t = some ti.ag
 tk : lF P t ti = true
 zero : Fw ti.ag ti.zero ((P.info? t).bind (·.zero)) = true
 ty : ∀ T, ti.ty = some T → (∃ ls, leaves? P 8 t = some ls ∧ bN P T ls = true) ∧ T.size = ti.n ∧ (ti.ag = false → T.size = 1) ∧ T.depth ≤ 6
 eq : ti.eq = true → ∃ fs T, P.underlying t = some (.struct fs) ∧ ti.ty = some T ∧ (!(P.stoodInHeld t)) = true ∧ (!(P.eqGuardType P.depth t)) = true ∧ zX P fs.toList 0 (c9 T) = true
variable {P}
theorem bX.of {t : TypeId} {Y : TI} (h : II P t Y = true) : bX P t Y := by
 simp only [II, yc] at h
 obtain ⟨⟨⟨⟨⟨⟨K, V⟩, W⟩, h4⟩, h5⟩, O⟩, z⟩ := h
 refine ⟨?_, ?_, ?_, h4, h5, ?_, ?_⟩
 ·split at K
  ·rename_i n H; rw [H, nb.1 K]
  ·cases K
 ·split at V
  ·rename_i n H; rw [H, nb.1 V]
  ·cases V
 ·split at W
  ·rename_i n H; rw [H, JB.1 W]
  ·cases W
 ·intro T N
  rw [N] at O
  simp only [yc] at O
  obtain ⟨⟨⟨a, b⟩, c⟩, d⟩ := O
  refine ⟨?_, nb.1 b, fun U => ?_, nl.1 d⟩
  ·split at a
   ·rename_i ls J; exact ⟨ls, J, a⟩
   ·cases a
  ·rw [U] at c; exact nb.1 (by simpa using c)
 ·intro Z
  rw [Z] at z
  simp only [Bool.not_true, Bool.false_or] at z
  split at z
  ·rename_i fs T hu N
   simp only [yc] at z
   exact ⟨fs, T, hu, N, z.1.1, z.1.2, z.2⟩
  ·cases z
theorem K4 {a b : Value} (h : Gw a b = true) : a = b := by
 unfold Gw at h
 split at h
 ·simp only [yc, decide_eq_true_eq] at h; rw [rT.1 h.1, h.2]
 ·rw [JB.1 h]
 ·rename_i x y
  split at h
  ·rename_i H z
   obtain ⟨⟨x⟩⟩ := x; obtain ⟨⟨y⟩⟩ := y
   simp only at H z; rw [H, z]
  ·cases h
 ·rfl
 ·rfl
 ·cases h
theorem yQ : ∀ {a b : List Value}, o9 a b = true → a = b
 | [], [], _ => rfl
 | a :: r, b :: s, h => by
  simp only [o9, yc] at h
  rw [K4 h.1, yQ h.2]
 | [], _ :: _, h => by cases h
 | _ :: _, [], h => by cases h
theorem wN {a b : Value} (h : Gw a b = true) : jT b = true := by
 unfold Gw at h
 split at h <;> first | rfl | cases h
theorem Am : ∀ {a b : List Value}, o9 a b = true → E0 b = some (b.map .lit)
 | [], [], _ => rfl
 | a :: r, b :: s, h => by
  simp only [o9, yc] at h
  simp only [E0, f8, wN h.1, Am h.2, true_and]; rfl
 | [], _ :: _, h => by cases h
 | _ :: _, [], h => by cases h
theorem H7 (z : List Value) : KV.downs (z.map .lit) = z.map .lit := by induction z <;> simp_all [KV.downs, KV.down]
theorem Jr {v : Value} (h : jT v = true) : rN v = some (.lit v) := by cases v <;> first | rfl | cases h
theorem bX.zero_eq {t : TypeId} {H : TI} (h : bX P t H) : zero? P t = some (eD H).down ∧ (H.ag = true → eD H = .agg (H.zero.map .lit)) ∧ (H.ag = false → ∃ v, H.zero = [v] ∧ eD H = .lit v) := by
 have z := h.zero
 unfold Fw at z
 split at z
 ·rename_i cs W
  simp only [yc] at z
  have K := yQ z.2
  refine ⟨?_, (fun _ => by simp [eD, z.1]), (fun J => by rw [z.1] at J; cases J)⟩
  have Y := Am z.2
  simp only [zero?, W, yb, rN, K, Y, eD, z.1, yg, KV.down, H7, yn]
 ·rename_i v Z V
  simp only [yc, yz] at z
  obtain ⟨O, z⟩ := z
  have K := yQ z
  have U : jT v = true := by
   rw [← K] at z; simp only [o9, Bool.and_true] at z; exact wN z
  have N : eD H = .lit v := by unfold eD; rw [O, ← K]; rfl
  refine ⟨?_, (fun J => by rw [O] at J; cases J), fun _ => ⟨v, K.symm, N⟩⟩
  rw [N]
  simp only [zero?, V, yb, Jr U, KV.down]
 ·cases z
end
end Go.Ab
