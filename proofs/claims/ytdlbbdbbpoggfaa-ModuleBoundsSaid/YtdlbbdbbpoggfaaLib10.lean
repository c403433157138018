import Derived.Test.YtdlbbdbbpoggfaaLib9
set_option linter.unusedVariables false
set_option linter.unusedSectionVars false
set_option linter.unusedSimpArgs false
namespace Go.Ab
variable [b4]
section
variable (P : Program)
noncomputable def Ty.depth (T : Ty) : Nat := Ty.rec (fun _ => 1) 1 1 (fun _ _ d => d + 1) (fun _ _ a b => max a b) T
noncomputable def aS : Ty → List LK → Bool
 | .int k, ls => (match ls with | [.int k'] => gK k k' | _ => false)
 | .bool, ls => (match ls with | [.bool] => true | _ => false)
 | .str, ls => (match ls with | [.str] => true | _ => false)
 | .sl ag T, ls => (match ls with
  | [.ints k] => (match ag, T with | false, .int k' => gK k k' | _, _ => false)
  | [.sl t e] => Nat.beq e T.size && !(gL ag T) && (match isAgg? P t with | some a => eG a ag | none => false) && (ag || Nat.beq T.size 1) && (match leaves? P 8 t with | some ls' => aS T ls' | none => false)
  | _ => false)
 | .cons a b, ls => (match ls with
  | l :: r => Nat.beq a.size 1 && aS a [l] && aS b r
  | [] => false)
noncomputable def B3 : List (Nat × Nat × TypeId) → List Field → Bool
 | [], [] => true
 | q :: r, f :: fs => Nat.beq q.1 f.offset && Nat.beq q.2.2 f.type && (match iN P f.type with | some n => Nat.beq n q.2.1 | none => false) && B3 r fs
 | _, _ => false
noncomputable def m9 (t : TypeId) (ti : TI) : Bool :=
 match ti.tk, P.underlying t with
 | .int k, some (.int k') => gK k k'
 | .bool, some .bool => true
 | .str, some .string => true
 | .sl et, some (.slice e) => Nat.beq et e
 | .st fs, some (.struct l) => B3 P fs l.toList
 | .ptr, some (.pointer _) => true
 | .arr n e, some (.array n' e') => Nat.beq n n' && Nat.beq e e'
 | .other, some (.int _) => false
 | .other, some _ => true
 | _, _ => false
def IC : Value → Value → Bool
 | .int k n, .int k' n' => gK k k' && decide (n = n')
 | .bool a, .bool b => eG a b
 | .string a, .string b => (match a.data.toList, b.data.toList with | [], [] => true | _, _ => false)
 | .slice none 0 0, .slice none 0 0 => true
 | .pointer none, .pointer none => true
 | _, _ => false
def s0 : List Value → List Value → Bool
 | [], [] => true
 | a :: r, b :: s => IC a b && s0 r s
 | _, _ => false
noncomputable def HC (ag : Bool) (zs : List Value) (z : Option Value) : Bool :=
 match z with
 | some (.agg cs) => ag && s0 cs.toList zs
 | some v => !ag && s0 [v] zs
 | none => false
noncomputable def FD (t : TypeId) (T : Ty) : Bool :=
 match P.underlying t with
 | some (.int k) => (match T with | .int k' => gK k k' | _ => false)
 | some .bool => (match T with | .bool => true | _ => false)
 | some .string => (match T with | .str => true | _ => false)
 | _ => false
noncomputable def B4 : List Field → Nat → List Ty → Bool
 | [], _, [] => true
 | f :: r, n, T :: Ts => (f.name != "_") && Nat.beq f.offset n && FD P f.type T && B4 r (n + 1) Ts
 | _, _, _ => false
noncomputable def Lz (t : TypeId) (ti : TI) : Bool :=
 (match iN P t with | some n => Nat.beq n ti.n | none => false) && (match jI P t with | some n => Nat.beq n ti.bytes | none => false) && (match isAgg? P t with | some a => eG a ti.ag | none => false) && m9 P t ti
  && HC ti.ag ti.zero ((P.info? t).bind (·.zero))
  && (match ti.ty with | some T => (match leaves? P 8 t with | some ls => aS P T ls | none => false) && Nat.beq T.size ti.n && (ti.ag || Nat.beq T.size 1) && Nat.ble T.depth 6 | none => true)
  && (!ti.eq || (match P.underlying t, ti.ty with | some (.struct fs), some T => (!(P.stoodInHeld t)) && (!(P.eqGuardType P.depth t)) && B4 P fs.toList 0 (c7 T) | _, _ => false))
def bG (tab : TypeId → Option TI) : Prop := ∀ t ti, tab t = some ti → Lz P t ti = true
theorem bG.of_list {l : List (Nat × TI)} (h : (l.all fun q => Lz P q.1 q.2) = true) : bG P fun t => eE t l := by
 intro t ti ht
 induction l with
 | nil => cases ht
 | cons q l H =>
  obtain ⟨m, x⟩ := q
  simp only [yh3, yb] at h
  simp only [eE] at ht
  cases hm : Nat.beq m t with
  | true =>
   rw [hm] at ht; simp only [yl] at ht
   obtain rfl := ya ht
   obtain rfl := nb.1 hm
   exact h.1
  | false => rw [hm] at ht; simp only [yk] at ht; exact H h.2 ht
structure bU (t : TypeId) (ti : TI) : Prop where
 n : iN P t = some ti.n
 bytes : jI P t = some ti.bytes
 ag : isAgg? P t = some ti.ag
 tk : m9 P t ti = true
 zero : HC ti.ag ti.zero ((P.info? t).bind (·.zero)) = true
 ty : ∀ T, ti.ty = some T → (∃ ls, leaves? P 8 t = some ls ∧ aS P T ls = true) ∧ T.size = ti.n ∧ (ti.ag = false → T.size = 1) ∧ T.depth ≤ 6
 eq : ti.eq = true → ∃ fs T, P.underlying t = some (.struct fs) ∧ ti.ty = some T ∧ (!(P.stoodInHeld t)) = true ∧ (!(P.eqGuardType P.depth t)) = true ∧ B4 P fs.toList 0 (c7 T) = true
variable {P}
theorem bU.of {t : TypeId} {U : TI} (h : Lz P t U = true) : bU P t U := by
 simp only [Lz, yb] at h
 obtain ⟨⟨⟨⟨⟨⟨I, J⟩, M⟩, V⟩, Y⟩, N⟩, H⟩ := h
 refine ⟨?_, ?_, ?_, V, Y, ?_, ?_⟩
 ·split at I
  ·rename_i n hn; rw [hn, nb.1 I]
  ·cases I
 ·split at J
  ·rename_i n hn; rw [hn, nb.1 J]
  ·cases J
 ·split at M
  ·rename_i n hn; rw [hn, Ip.1 M]
  ·cases M
 ·intro T hT
  rw [hT] at N
  simp only [yb] at N
  obtain ⟨⟨⟨a, b⟩, c⟩, d⟩ := N
  refine ⟨?_, nb.1 b, fun K => ?_, nl.1 d⟩
  ·split at a
   ·rename_i ls O; exact ⟨ls, O, a⟩
   ·cases a
  ·rw [K] at c; exact nb.1 (by simpa using c)
 ·intro Z
  rw [Z] at H
  simp only [Bool.not_true, Bool.false_or] at H
  split at H
  ·rename_i fs T W hT
   simp only [yb] at H
   exact ⟨fs, T, W, hT, H.1.1, H.1.2, H.2⟩
  ·cases H
theorem N7 {a b : Value} (h : IC a b = true) : a = b := by
 unfold IC at h
 split at h
 ·simp only [yb, decide_eq_true_eq] at h; rw [rW.1 h.1, h.2]
 ·rw [Ip.1 h]
 ·rename_i x y
  split at h
  ·rename_i I H
   obtain ⟨⟨x⟩⟩ := x; obtain ⟨⟨y⟩⟩ := y
   simp only at I H; rw [I, H]
  ·cases h
 ·rfl
 ·rfl
 ·cases h
theorem A5 : ∀ {a b : List Value}, s0 a b = true → a = b
 | [], [], _ => rfl
 | a :: r, b :: s, h => by
  simp only [s0, yb] at h
  rw [N7 h.1, A5 h.2]
 | [], _ :: _, h => by cases h
 | _ :: _, [], h => by cases h
theorem zZ {a b : Value} (h : IC a b = true) : j7 b = true := by
 unfold IC at h
 split at h <;> first | rfl | cases h
theorem BY : ∀ {a b : List Value}, s0 a b = true → Ih b = some (b.map .lit)
 | [], [], _ => rfl
 | a :: r, b :: s, h => by
  simp only [s0, yb] at h
  simp only [Ih, eB, zZ h.1, BY h.2, true_and]; rfl
 | [], _ :: _, h => by cases h
 | _ :: _, [], h => by cases h
theorem Kl (H : List Value) : KV.downs (H.map .lit) = H.map .lit := by induction H <;> simp_all [KV.downs, KV.down]
theorem Mr {v : Value} (h : j7 v = true) : yN v = some (.lit v) := by cases v <;> first | rfl | cases h
theorem bU.zero_eq {t : TypeId} {I : TI} (h : bU P t I) : zero? P t = some (eN I).down ∧ (I.ag = true → eN I = .agg (I.zero.map .lit)) ∧ (I.ag = false → ∃ v, I.zero = [v] ∧ eN I = .lit v) := by
 have H := h.zero
 unfold HC at H
 split at H
 ·rename_i cs V
  simp only [yb] at H
  have N := A5 H.2
  refine ⟨?_, (fun _ => by simp [eN, H.1]), (fun M => by rw [H.1] at M; cases M)⟩
  have U := BY H.2
  simp only [zero?, V, ye, yN, N, U, eN, H.1, yl, KV.down, Kl, yg]
 ·rename_i v W Y
  simp only [yb, yq] at H
  obtain ⟨K, H⟩ := H
  have N := A5 H
  have O : j7 v = true := by
   rw [← N] at H; simp only [s0, yg3] at H; exact zZ H
  have J : eN I = .lit v := by unfold eN; rw [K, ← N]; rfl
  refine ⟨?_, (fun M => by rw [K] at M; cases M), fun _ => ⟨v, N.symm, J⟩⟩
  rw [J]
  simp only [zero?, Y, ye, Mr O, KV.down]
 ·cases H
end
end Go.Ab
