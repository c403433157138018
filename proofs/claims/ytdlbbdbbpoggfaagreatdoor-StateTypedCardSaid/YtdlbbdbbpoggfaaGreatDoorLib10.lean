import Derived.Test.YtdlbbdbbpoggfaaGreatDoorLib9
set_option linter.unusedVariables false
set_option linter.unusedSectionVars false
set_option linter.unusedSimpArgs false
namespace Go.Ab
variable [cD]
section
variable (P : Program)
noncomputable def Ty.depth (T : Ty) : Nat := Ty.rec (fun _ => 1) 1 1 (fun _ _ d => d + 1) (fun _ _ a b => max a b) T
noncomputable def bR : Ty → List LK → Bool
 | .int k, ls => (match ls with | [.int k'] => gV k k' | _ => false)
 | .bool, ls => (match ls with | [.bool] => true | _ => false)
 | .str, ls => (match ls with | [.str] => true | _ => false)
 | .sl ag T, ls => (match ls with
  | [.ints k] => (match ag, T with | false, .int k' => gV k k' | _, _ => false)
  | [.sl t e] => Nat.beq e T.size && !(g7 ag T) && (match isAgg? P t with | some a => fU a ag | none => false) && (ag || Nat.beq T.size 1) && (match leaves? P 8 t with | some ls' => bR T ls' | none => false)
  | _ => false)
 | .cons a b, ls => (match ls with
  | l :: r => Nat.beq a.size 1 && bR a [l] && bR b r
  | [] => false)
noncomputable def Bz : List (Nat × Nat × TypeId) → List Field → Bool
 | [], [] => true
 | q :: r, f :: fs => Nat.beq q.1 f.offset && Nat.beq q.2.2 f.type && (match k7 P f.type with | some n => Nat.beq n q.2.1 | none => false) && Bz r fs
 | _, _ => false
noncomputable def mZ (t : TypeId) (ti : TI) : Bool :=
 match ti.tk, P.underlying t with
 | .int k, some (.int k') => gV k k'
 | .bool, some .bool => true
 | .str, some .string => true
 | .sl et, some (.slice e) => Nat.beq et e
 | .st fs, some (.struct l) => Bz P fs l.toList
 | .ptr, some (.pointer _) => true
 | .arr n e, some (.array n' e') => Nat.beq n n' && Nat.beq e e'
 | .other, some (.int _) => false
 | .other, some _ => true
 | _, _ => false
def IH : Value → Value → Bool
 | .int k n, .int k' n' => gV k k' && decide (n = n')
 | .bool a, .bool b => fU a b
 | .string a, .string b => (match a.data.toList, b.data.toList with | [], [] => true | _, _ => false)
 | .slice none 0 0, .slice none 0 0 => true
 | .pointer none, .pointer none => true
 | _, _ => false
def qS : List Value → List Value → Bool
 | [], [] => true
 | a :: r, b :: s => IH a b && qS r s
 | _, _ => false
noncomputable def Hc (ag : Bool) (zs : List Value) (z : Option Value) : Bool :=
 match z with
 | some (.agg cs) => ag && qS cs.toList zs
 | some v => !ag && qS [v] zs
 | none => false
noncomputable def CM (t : TypeId) (T : Ty) : Bool :=
 match P.underlying t with
 | some (.int k) => (match T with | .int k' => gV k k' | _ => false)
 | some .bool => (match T with | .bool => true | _ => false)
 | some .string => (match T with | .str => true | _ => false)
 | _ => false
noncomputable def BU : List Field → Nat → List Ty → Bool
 | [], _, [] => true
 | f :: r, n, T :: Ts => (f.name != "_") && Nat.beq f.offset n && CM P f.type T && BU r (n + 1) Ts
 | _, _, _ => false
noncomputable def KG (t : TypeId) (ti : TI) : Bool :=
 (match k7 P t with | some n => Nat.beq n ti.n | none => false) && (match lW P t with | some n => Nat.beq n ti.bytes | none => false) && (match isAgg? P t with | some a => fU a ti.ag | none => false) && mZ P t ti
  && Hc ti.ag ti.zero ((P.info? t).bind (·.zero))
  && (match ti.ty with | some T => (match leaves? P 8 t with | some ls => bR P T ls | none => false) && Nat.beq T.size ti.n && (ti.ag || Nat.beq T.size 1) && Nat.ble T.depth 6 | none => true)
  && (!ti.eq || (match P.underlying t, ti.ty with | some (.struct fs), some T => (!(P.stoodInHeld t)) && (!(P.eqGuardType P.depth t)) && BU P fs.toList 0 (dZ T) | _, _ => false))
def cF (tab : TypeId → Option TI) : Prop := ∀ t ti, tab t = some ti → KG P t ti = true
theorem cF.of_list {l : List (Nat × TI)} (h : (l.all fun q => KG P q.1 q.2) = true) : cF P fun t => dW t l := by
 intro t ti ht
 induction l with
 | nil => cases ht
 | cons q l z =>
  obtain ⟨m, x⟩ := q
  simp only [ye3, yc] at h
  simp only [dW] at ht
  cases hm : Nat.beq m t with
  | true =>
   rw [hm] at ht; simp only [yg] at ht
   obtain rfl := yb ht
   obtain rfl := nb.1 hm
   exact h.1
  | false => rw [hm] at ht; simp only [ye] at ht; exact z h.2 ht
structure cA (t : TypeId) (ti : TI) : Prop where
 n : k7 P t = some ti.n
 bytes : lW P t = some ti.bytes
 ag : isAgg? P t = some ti.ag
 tk : mZ P t ti = true
 zero : Hc ti.ag ti.zero ((P.info? t).bind (·.zero)) = true
 ty : ∀ T, ti.ty = some T → (∃ ls, leaves? P 8 t = some ls ∧ bR P T ls = true) ∧ T.size = ti.n ∧ (ti.ag = false → T.size = 1) ∧ T.depth ≤ 6
 eq : ti.eq = true → ∃ fs T, P.underlying t = some (.struct fs) ∧ ti.ty = some T ∧ (!(P.stoodInHeld t)) = true ∧ (!(P.eqGuardType P.depth t)) = true ∧ BU P fs.toList 0 (dZ T) = true
variable {P}
theorem cA.of {t : TypeId} {M : TI} (h : KG P t M = true) : cA P t M := by
 simp only [KG, yc] at h
 obtain ⟨⟨⟨⟨⟨⟨h1, h2⟩, K⟩, W⟩, V⟩, A⟩, z⟩ := h
 refine ⟨?_, ?_, ?_, W, V, ?_, ?_⟩
 ·split at h1
  ·rename_i n hn; rw [hn, nb.1 h1]
  ·cases h1
 ·split at h2
  ·rename_i n hn; rw [hn, nb.1 h2]
  ·cases h2
 ·split at K
  ·rename_i n hn; rw [hn, Mj.1 K]
  ·cases K
 ·intro T hT
  rw [hT] at A
  simp only [yc] at A
  obtain ⟨⟨⟨a, b⟩, c⟩, d⟩ := A
  refine ⟨?_, nb.1 b, fun H => ?_, nl.1 d⟩
  ·split at a
   ·rename_i U J; exact ⟨U, J, a⟩
   ·cases a
  ·rw [H] at c; exact nb.1 (by simpa using c)
 ·intro O
  rw [O] at z
  simp only [yw, yl3] at z
  split at z
  ·rename_i fs T N hT
   simp only [yc] at z
   exact ⟨fs, T, N, hT, z.1.1, z.1.2, z.2⟩
  ·cases z
theorem M9 {a b : Value} (h : IH a b = true) : a = b := by
 unfold IH at h
 split at h
 ·simp only [yc, decide_eq_true_eq] at h; rw [vJ.1 h.1, h.2]
 ·rw [Mj.1 h]
 ·rename_i x y
  split at h
  ·rename_i hx z
   obtain ⟨⟨x⟩⟩ := x; obtain ⟨⟨y⟩⟩ := y
   simp only at hx z; rw [hx, z]
  ·cases h
 ·rfl
 ·rfl
 ·cases h
theorem Ak : ∀ {a b : List Value}, qS a b = true → a = b
 | [], [], _ => rfl
 | a :: r, b :: s, h => by
  simp only [qS, yc] at h
  rw [M9 h.1, Ak h.2]
 | [], _ :: _, h => by cases h
 | _ :: _, [], h => by cases h
theorem zA {a b : Value} (h : IH a b = true) : mJ b = true := by
 unfold IH at h
 split at h <;> first | rfl | cases h
theorem Bp : ∀ {a b : List Value}, qS a b = true → G8 b = some (b.map .lit)
 | [], [], _ => rfl
 | a :: r, b :: s, h => by
  simp only [qS, yc] at h
  simp only [G8, h9, zA h.1, Bp h.2, true_and]; rfl
 | [], _ :: _, h => by cases h
 | _ :: _, [], h => by cases h
theorem Js (h : List Value) : KV.downs (h.map .lit) = h.map .lit := by induction h <;> simp_all [KV.downs, KV.down]
theorem Me {v : Value} (h : mJ v = true) : vM v = some (.lit v) := by cases v <;> first | rfl | cases h
theorem cA.zero_eq {t : TypeId} {A : TI} (h : cA P t A) : zero? P t = some (fF A).down ∧ (A.ag = true → fF A = .agg (A.zero.map .lit)) ∧ (A.ag = false → ∃ v, A.zero = [v] ∧ fF A = .lit v) := by
 have z := h.zero
 unfold Hc at z
 split at z
 ·rename_i cs U
  simp only [yc] at z
  have J := Ak z.2
  refine ⟨?_, (fun _ => by simp [fF, z.1]), (fun K => by rw [z.1] at K; cases K)⟩
  have hl := Bp z.2
  simp only [zero?, U, ya, vM, J, hl, fF, z.1, yg, KV.down, Js, yo]
 ·rename_i v V O
  simp only [yc, yy] at z
  obtain ⟨H, z⟩ := z
  have J := Ak z
  have N : mJ v = true := by
   rw [← J] at z; simp only [qS, yt3] at z; exact zA z
  have M : fF A = .lit v := by unfold fF; rw [H, ← J]; rfl
  refine ⟨?_, (fun K => by rw [H] at K; cases K), fun _ => ⟨v, J.symm, M⟩⟩
  rw [M]
  simp only [zero?, O, ya, Me N, KV.down]
 ·cases z
end
end Go.Ab
