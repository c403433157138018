import Derived.Test.YtdlbbdbbpoggfaaGreatDoorLib9
set_option linter.unusedVariables false
set_option linter.unusedSectionVars false
set_option linter.unusedSimpArgs false
namespace Go.Ab
variable [cD]
section
variable (P : Program)
noncomputable def Ty.depth (T : Ty) : Nat := Ty.rec (fun _ => 1) 1 1 (fun _ _ d => d + 1) (fun _ _ a b => max a b) T
noncomputable def bR : Ty → List LK → Bool
 | .int k, ls => (match ls with | [.int k'] => gV k k' | _ => false)
 | .bool, ls => (match ls with | [.bool] => true | _ => false)
 | .str, ls => (match ls with | [.str] => true | _ => false)
 | .sl ag T, ls => (match ls with
  | [.ints k] => (match ag, T with | false, .int k' => gV k k' | _, _ => false)
  | [.sl t e] => Nat.beq e T.size && !(h9 ag T) && (match isAgg? P t with | some a => fT a ag | none => false) && (ag || Nat.beq T.size 1) && (match leaves? P 8 t with | some ls' => bR T ls' | none => false)
  | _ => false)
 | .cons a b, ls => (match ls with
  | l :: r => Nat.beq a.size 1 && bR a [l] && bR b r
  | [] => false)
noncomputable def Bu : List (Nat × Nat × TypeId) → List Field → Bool
 | [], [] => true
 | q :: r, f :: fs => Nat.beq q.1 f.offset && Nat.beq q.2.2 f.type && (match k6 P f.type with | some n => Nat.beq n q.2.1 | none => false) && Bu r fs
 | _, _ => false
noncomputable def mT (t : TypeId) (ti : TI) : Bool :=
 match ti.tk, P.underlying t with
 | .int k, some (.int k') => gV k k'
 | .bool, some .bool => true
 | .str, some .string => true
 | .sl et, some (.slice e) => Nat.beq et e
 | .st fs, some (.struct l) => Bu P fs l.toList
 | .ptr, some (.pointer _) => true
 | .arr n e, some (.array n' e') => Nat.beq n n' && Nat.beq e e'
 | .other, some (.int _) => false
 | .other, some _ => true
 | _, _ => false
def IS : Value → Value → Bool
 | .int k n, .int k' n' => gV k k' && decide (n = n')
 | .bool a, .bool b => fT a b
 | .string a, .string b => (match a.data.toList, b.data.toList with | [], [] => true | _, _ => false)
 | .slice none 0 0, .slice none 0 0 => true
 | .pointer none, .pointer none => true
 | _, _ => false
def rN : List Value → List Value → Bool
 | [], [] => true
 | a :: r, b :: s => IS a b && rN r s
 | _, _ => false
noncomputable def G6 (ag : Bool) (zs : List Value) (z : Option Value) : Bool :=
 match z with
 | some (.agg cs) => ag && rN cs.toList zs
 | some v => !ag && rN [v] zs
 | none => false
noncomputable def Dx (t : TypeId) (T : Ty) : Bool :=
 match P.underlying t with
 | some (.int k) => (match T with | .int k' => gV k k' | _ => false)
 | some .bool => (match T with | .bool => true | _ => false)
 | some .string => (match T with | .str => true | _ => false)
 | _ => false
noncomputable def BE : List Field → Nat → List Ty → Bool
 | [], _, [] => true
 | f :: r, n, T :: Ts => (f.name != "_") && Nat.beq f.offset n && Dx P f.type T && BE r (n + 1) Ts
 | _, _, _ => false
noncomputable def Kz (t : TypeId) (ti : TI) : Bool :=
 (match k6 P t with | some n => Nat.beq n ti.n | none => false) && (match mJ P t with | some n => Nat.beq n ti.bytes | none => false) && (match isAgg? P t with | some a => fT a ti.ag | none => false) && mT P t ti
  && G6 ti.ag ti.zero ((P.info? t).bind (·.zero))
  && (match ti.ty with | some T => (match leaves? P 8 t with | some ls => bR P T ls | none => false) && Nat.beq T.size ti.n && (ti.ag || Nat.beq T.size 1) && Nat.ble T.depth 6 | none => true)
  && (!ti.eq || (match P.underlying t, ti.ty with | some (.struct fs), some T => (!(P.stoodInHeld t)) && (!(P.eqGuardType P.depth t)) && BE P fs.toList 0 (d6 T) | _, _ => false))
def cF (tab : TypeId → Option TI) : Prop := ∀ t ti, tab t = some ti → Kz P t ti = true
theorem cF.of_list {l : List (Nat × TI)} (h : (l.all fun q => Kz P q.1 q.2) = true) : cF P fun t => dU t l := by
 intro t ti ht
 induction l with
 | nil => cases ht
 | cons q l z =>
  obtain ⟨m, x⟩ := q
  simp only [ye3, yc] at h
  simp only [dU] at ht
  cases hm : Nat.beq m t with
  | true =>
   rw [hm] at ht; simp only [yg] at ht
   obtain rfl := yb ht
   obtain rfl := nb.1 hm
   exact h.1
  | false => rw [hm] at ht; simp only [ye] at ht; exact z h.2 ht
structure b8 (t : TypeId) (ti : TI) : Prop where
 n : k6 P t = some ti.n
 bytes : mJ P t = some ti.bytes
 ag : isAgg? P t = some ti.ag
 tk : mT P t ti = true
 zero : G6 ti.ag ti.zero ((P.info? t).bind (·.zero)) = true
 ty : ∀ T, ti.ty = some T → (∃ ls, leaves? P 8 t = some ls ∧ bR P T ls = true) ∧ T.size = ti.n ∧ (ti.ag = false → T.size = 1) ∧ T.depth ≤ 6
 eq : ti.eq = true → ∃ fs T, P.underlying t = some (.struct fs) ∧ ti.ty = some T ∧ (!(P.stoodInHeld t)) = true ∧ (!(P.eqGuardType P.depth t)) = true ∧ BE P fs.toList 0 (d6 T) = true
variable {P}
theorem b8.of {t : TypeId} {M : TI} (h : Kz P t M = true) : b8 P t M := by
 simp only [Kz, yc] at h
 obtain ⟨⟨⟨⟨⟨⟨h1, h2⟩, K⟩, N⟩, U⟩, A⟩, z⟩ := h
 refine ⟨?_, ?_, ?_, N, U, ?_, ?_⟩
 ·split at h1
  ·rename_i n hn; rw [hn, nb.1 h1]
  ·cases h1
 ·split at h2
  ·rename_i n hn; rw [hn, nb.1 h2]
  ·cases h2
 ·split at K
  ·rename_i n hn; rw [hn, L5.1 K]
  ·cases K
 ·intro T hT
  rw [hT] at A
  simp only [yc] at A
  obtain ⟨⟨⟨a, b⟩, c⟩, d⟩ := A
  refine ⟨?_, nb.1 b, fun J => ?_, nl.1 d⟩
  ·split at a
   ·rename_i O H; exact ⟨O, H, a⟩
   ·cases a
  ·rw [J] at c; exact nb.1 (by simpa using c)
 ·intro W
  rw [W] at z
  simp only [yw, yl3] at z
  split at z
  ·rename_i fs T V hT
   simp only [yc] at z
   exact ⟨fs, T, V, hT, z.1.1, z.1.2, z.2⟩
  ·cases z
theorem NL {a b : Value} (h : IS a b = true) : a = b := by
 unfold IS at h
 split at h
 ·simp only [yc, decide_eq_true_eq] at h; rw [vV.1 h.1, h.2]
 ·rw [L5.1 h]
 ·rename_i x y
  split at h
  ·rename_i hx z
   obtain ⟨⟨x⟩⟩ := x; obtain ⟨⟨y⟩⟩ := y
   simp only at hx z; rw [hx, z]
  ·cases h
 ·rfl
 ·rfl
 ·cases h
theorem AN : ∀ {a b : List Value}, rN a b = true → a = b
 | [], [], _ => rfl
 | a :: r, b :: s, h => by
  simp only [rN, yc] at h
  rw [NL h.1, AN h.2]
 | [], _ :: _, h => by cases h
 | _ :: _, [], h => by cases h
theorem wY {a b : Value} (h : IS a b = true) : lR b = true := by
 unfold IS at h
 split at h <;> first | rfl | cases h
theorem BB : ∀ {a b : List Value}, rN a b = true → Gt b = some (b.map .lit)
 | [], [], _ => rfl
 | a :: r, b :: s, h => by
  simp only [rN, yc] at h
  simp only [Gt, g8, wY h.1, BB h.2, true_and]; rfl
 | [], _ :: _, h => by cases h
 | _ :: _, [], h => by cases h
theorem Kv (h : List Value) : KV.downs (h.map .lit) = h.map .lit := by induction h <;> simp_all [KV.downs, KV.down]
theorem Lo {v : Value} (h : lR v = true) : vK v = some (.lit v) := by cases v <;> first | rfl | cases h
theorem b8.zero_eq {t : TypeId} {A : TI} (h : b8 P t A) : zero? P t = some (fJ A).down ∧ (A.ag = true → fJ A = .agg (A.zero.map .lit)) ∧ (A.ag = false → ∃ v, A.zero = [v] ∧ fJ A = .lit v) := by
 have z := h.zero
 unfold G6 at z
 split at z
 ·rename_i cs V
  simp only [yc] at z
  have J := AN z.2
  refine ⟨?_, (fun _ => by simp [fJ, z.1]), (fun K => by rw [z.1] at K; cases K)⟩
  have hl := BB z.2
  simp only [zero?, V, ya, vK, J, hl, fJ, z.1, yg, KV.down, Kv, yo]
 ·rename_i v O U
  simp only [yc, yy] at z
  obtain ⟨M, z⟩ := z
  have J := AN z
  have N : lR v = true := by
   rw [← J] at z; simp only [rN, yt3] at z; exact wY z
  have H : fJ A = .lit v := by unfold fJ; rw [M, ← J]; rfl
  refine ⟨?_, (fun K => by rw [M] at K; cases K), fun _ => ⟨v, J.symm, H⟩⟩
  rw [H]
  simp only [zero?, U, ya, Lo N, KV.down]
 ·cases z
end
end Go.Ab
