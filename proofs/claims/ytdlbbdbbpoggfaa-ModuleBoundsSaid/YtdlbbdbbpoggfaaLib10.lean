import Derived.Test.YtdlbbdbbpoggfaaLib9
set_option linter.unusedVariables false
set_option linter.unusedSectionVars false
set_option linter.unusedSimpArgs false
namespace Go.Ab
variable [b4]
section
variable (P : Program)
noncomputable def Ty.depth (T : Ty) : Nat := Ty.rec (fun _ => 1) 1 1 (fun _ _ d => d + 1) (fun _ _ a b => max a b) T
noncomputable def aS : Ty → List LK → Bool
 | .int k, ls => (match ls with | [.int k'] => gK k k' | _ => false)
 | .bool, ls => (match ls with | [.bool] => true | _ => false)
 | .str, ls => (match ls with | [.str] => true | _ => false)
 | .sl ag T, ls => (match ls with
  | [.ints k] => (match ag, T with | false, .int k' => gK k k' | _, _ => false)
  | [.sl t e] => Nat.beq e T.size && !(gL ag T) && (match isAgg? P t with | some a => eE a ag | none => false) && (ag || Nat.beq T.size 1) && (match leaves? P 8 t with | some ls' => aS T ls' | none => false)
  | _ => false)
 | .cons a b, ls => (match ls with
  | l :: r => Nat.beq a.size 1 && aS a [l] && aS b r
  | [] => false)
noncomputable def CD : List (Nat × Nat × TypeId) → List Field → Bool
 | [], [] => true
 | q :: r, f :: fs => Nat.beq q.1 f.offset && Nat.beq q.2.2 f.type && (match iR P f.type with | some n => Nat.beq n q.2.1 | none => false) && CD r fs
 | _, _ => false
noncomputable def nJ (t : TypeId) (ti : TI) : Bool :=
 match ti.tk, P.underlying t with
 | .int k, some (.int k') => gK k k'
 | .bool, some .bool => true
 | .str, some .string => true
 | .sl et, some (.slice e) => Nat.beq et e
 | .st fs, some (.struct l) => CD P fs l.toList
 | .ptr, some (.pointer _) => true
 | .arr n e, some (.array n' e') => Nat.beq n n' && Nat.beq e e'
 | .other, some (.int _) => false
 | .other, some _ => true
 | _, _ => false
def I1 : Value → Value → Bool
 | .int k n, .int k' n' => gK k k' && decide (n = n')
 | .bool a, .bool b => eE a b
 | .string a, .string b => (match a.data.toList, b.data.toList with | [], [] => true | _, _ => false)
 | .slice none 0 0, .slice none 0 0 => true
 | .pointer none, .pointer none => true
 | _, _ => false
def sH : List Value → List Value → Bool
 | [], [] => true
 | a :: r, b :: s => I1 a b && sH r s
 | _, _ => false
noncomputable def HL (ag : Bool) (zs : List Value) (z : Option Value) : Bool :=
 match z with
 | some (.agg cs) => ag && sH cs.toList zs
 | some v => !ag && sH [v] zs
 | none => false
noncomputable def D3 (t : TypeId) (T : Ty) : Bool :=
 match P.underlying t with
 | some (.int k) => (match T with | .int k' => gK k k' | _ => false)
 | some .bool => (match T with | .bool => true | _ => false)
 | some .string => (match T with | .str => true | _ => false)
 | _ => false
noncomputable def CC : List Field → Nat → List Ty → Bool
 | [], _, [] => true
 | f :: r, n, T :: Ts => (f.name != "_") && Nat.beq f.offset n && D3 P f.type T && CC r (n + 1) Ts
 | _, _, _ => false
noncomputable def LP (t : TypeId) (ti : TI) : Bool :=
 (match iR P t with | some n => Nat.beq n ti.n | none => false) && (match jI P t with | some n => Nat.beq n ti.bytes | none => false) && (match isAgg? P t with | some a => eE a ti.ag | none => false) && nJ P t ti
  && HL ti.ag ti.zero ((P.info? t).bind (·.zero))
  && (match ti.ty with | some T => (match leaves? P 8 t with | some ls => aS P T ls | none => false) && Nat.beq T.size ti.n && (ti.ag || Nat.beq T.size 1) && Nat.ble T.depth 6 | none => true)
  && (!ti.eq || (match P.underlying t, ti.ty with | some (.struct fs), some T => (!(P.stoodInHeld t)) && (!(P.eqGuardType P.depth t)) && CC P fs.toList 0 (c6 T) | _, _ => false))
def bI (tab : TypeId → Option TI) : Prop := ∀ t ti, tab t = some ti → LP P t ti = true
theorem bI.of_list {l : List (Nat × TI)} (h : (l.all fun q => LP P q.1 q.2) = true) : bI P fun t => eF t l := by
 intro t ti ht
 induction l with
 | nil => cases ht
 | cons q l H =>
  obtain ⟨m, x⟩ := q
  simp only [yh3, yb] at h
  simp only [eF] at ht
  cases hm : Nat.beq m t with
  | true =>
   rw [hm] at ht; simp only [yl] at ht
   obtain rfl := ya ht
   obtain rfl := nb.1 hm
   exact h.1
  | false => rw [hm] at ht; simp only [yk] at ht; exact H h.2 ht
structure bV (t : TypeId) (ti : TI) : Prop where
 n : iR P t = some ti.n
 bytes : jI P t = some ti.bytes
 ag : isAgg? P t = some ti.ag
 tk : nJ P t ti = true
 zero : HL ti.ag ti.zero ((P.info? t).bind (·.zero)) = true
 ty : ∀ T, ti.ty = some T → (∃ ls, leaves? P 8 t = some ls ∧ aS P T ls = true) ∧ T.size = ti.n ∧ (ti.ag = false → T.size = 1) ∧ T.depth ≤ 6
 eq : ti.eq = true → ∃ fs T, P.underlying t = some (.struct fs) ∧ ti.ty = some T ∧ (!(P.stoodInHeld t)) = true ∧ (!(P.eqGuardType P.depth t)) = true ∧ CC P fs.toList 0 (c6 T) = true
variable {P}
theorem bV.of {t : TypeId} {U : TI} (h : LP P t U = true) : bV P t U := by
 simp only [LP, yb] at h
 obtain ⟨⟨⟨⟨⟨⟨I, K⟩, O⟩, Y⟩, W⟩, M⟩, H⟩ := h
 refine ⟨?_, ?_, ?_, Y, W, ?_, ?_⟩
 ·split at I
  ·rename_i n hn; rw [hn, nb.1 I]
  ·cases I
 ·split at K
  ·rename_i n hn; rw [hn, nb.1 K]
  ·cases K
 ·split at O
  ·rename_i n hn; rw [hn, Ip.1 O]
  ·cases O
 ·intro T hT
  rw [hT] at M
  simp only [yb] at M
  obtain ⟨⟨⟨a, b⟩, c⟩, d⟩ := M
  refine ⟨?_, nb.1 b, fun J => ?_, nl.1 d⟩
  ·split at a
   ·rename_i ls N; exact ⟨ls, N, a⟩
   ·cases a
  ·rw [J] at c; exact nb.1 (by simpa using c)
 ·intro V
  rw [V] at H
  simp only [Bool.not_true, Bool.false_or] at H
  split at H
  ·rename_i fs T Z hT
   simp only [yb] at H
   exact ⟨fs, T, Z, hT, H.1.1, H.1.2, H.2⟩
  ·cases H
theorem Np {a b : Value} (h : I1 a b = true) : a = b := by
 unfold I1 at h
 split at h
 ·simp only [yb, decide_eq_true_eq] at h; rw [rW.1 h.1, h.2]
 ·rw [Ip.1 h]
 ·rename_i x y
  split at h
  ·rename_i H I
   obtain ⟨⟨x⟩⟩ := x; obtain ⟨⟨y⟩⟩ := y
   simp only at H I; rw [H, I]
  ·cases h
 ·rfl
 ·rfl
 ·cases h
theorem A8 : ∀ {a b : List Value}, sH a b = true → a = b
 | [], [], _ => rfl
 | a :: r, b :: s, h => by
  simp only [sH, yb] at h
  rw [Np h.1, A8 h.2]
 | [], _ :: _, h => by cases h
 | _ :: _, [], h => by cases h
theorem Ad {a b : Value} (h : I1 a b = true) : j7 b = true := by
 unfold I1 at h
 split at h <;> first | rfl | cases h
theorem Cx : ∀ {a b : List Value}, sH a b = true → HN b = some (b.map .lit)
 | [], [], _ => rfl
 | a :: r, b :: s, h => by
  simp only [sH, yb] at h
  simp only [HN, d9, Ad h.1, Cx h.2, true_and]; rfl
 | [], _ :: _, h => by cases h
 | _ :: _, [], h => by cases h
theorem K0 (H : List Value) : KV.downs (H.map .lit) = H.map .lit := by induction H <;> simp_all [KV.downs, KV.down]
theorem MO {v : Value} (h : j7 v = true) : yG v = some (.lit v) := by cases v <;> first | rfl | cases h
theorem bV.zero_eq {t : TypeId} {I : TI} (h : bV P t I) : zero? P t = some (eP I).down ∧ (I.ag = true → eP I = .agg (I.zero.map .lit)) ∧ (I.ag = false → ∃ v, I.zero = [v] ∧ eP I = .lit v) := by
 have H := h.zero
 unfold HL at H
 split at H
 ·rename_i cs W
  simp only [yb] at H
  have J := A8 H.2
  refine ⟨?_, (fun _ => by simp [eP, H.1]), (fun K => by rw [H.1] at K; cases K)⟩
  have V := Cx H.2
  simp only [zero?, W, ye, yG, J, V, eP, H.1, yl, KV.down, K0, yg]
 ·rename_i v U Y
  simp only [yb, yq] at H
  obtain ⟨N, H⟩ := H
  have J := A8 H
  have O : j7 v = true := by
   rw [← J] at H; simp only [sH, yg3] at H; exact Ad H
  have M : eP I = .lit v := by unfold eP; rw [N, ← J]; rfl
  refine ⟨?_, (fun K => by rw [N] at K; cases K), fun _ => ⟨v, J.symm, M⟩⟩
  rw [M]
  simp only [zero?, Y, ye, MO O, KV.down]
 ·cases H
end
end Go.Ab
