import Derived.Test.YtdlbbdbbpoggfaaLib10
set_option linter.unusedVariables false
set_option linter.unusedSectionVars false
set_option linter.unusedSimpArgs false
namespace Go.Ab
variable [GTab]
section
variable (P : Program)
noncomputable def Ty.depth (T : Ty) : Nat := Ty.rec (fun _ => 1) 1 1 (fun _ _ d => d + 1) (fun _ _ a b => max a b) T
noncomputable def chkLs : Ty → List LK → Bool
 | .int k, ls => (match ls with | [.int k'] => kEq k k' | _ => false)
 | .bool, ls => (match ls with | [.bool] => true | _ => false)
 | .str, ls => (match ls with | [.str] => true | _ => false)
 | .sl ag T, ls => (match ls with
  | [.ints k] => (match ag, T with | false, .int k' => kEq k k' | _, _ => false)
  | [.sl t e] => Nat.beq e T.size && !(intsRow ag T) && (match isAgg? P t with | some a => beqB a ag | none => false) && (ag || Nat.beq T.size 1) && (match leaves? P 8 t with | some ls' => chkLs T ls' | none => false)
  | _ => false)
 | .cons a b, ls => (match ls with
  | l :: r => Nat.beq a.size 1 && chkLs a [l] && chkLs b r
  | [] => false)
noncomputable def chkFs : List (Nat × Nat × TypeId) → List Field → Bool
 | [], [] => true
 | q :: r, f :: fs => Nat.beq q.1 f.offset && Nat.beq q.2.2 f.type && (match tsz P f.type with | some n => Nat.beq n q.2.1 | none => false) && chkFs r fs
 | _, _ => false
noncomputable def chkTK (t : TypeId) (ti : TI) : Bool :=
 match ti.tk, P.underlying t with
 | .int k, some (.int k') => kEq k k'
 | .bool, some .bool => true
 | .str, some .string => true
 | .sl et, some (.slice e) => Nat.beq et e
 | .st fs, some (.struct l) => chkFs P fs l.toList
 | .ptr, some (.pointer _) => true
 | .arr n e, some (.array n' e') => Nat.beq n n' && Nat.beq e e'
 | .other, some (.int _) => false
 | .other, some _ => true
 | _, _ => false
def valEq : Value → Value → Bool
 | .int k n, .int k' n' => kEq k k' && decide (n = n')
 | .bool a, .bool b => beqB a b
 | .string a, .string b => (match a.data.toList, b.data.toList with | [], [] => true | _, _ => false)
 | .slice none 0 0, .slice none 0 0 => true
 | .pointer none, .pointer none => true
 | _, _ => false
def valsEq : List Value → List Value → Bool
 | [], [] => true
 | a :: r, b :: s => valEq a b && valsEq r s
 | _, _ => false
noncomputable def chkZero (ag : Bool) (zs : List Value) (z : Option Value) : Bool :=
 match z with
 | some (.agg cs) => ag && valsEq cs.toList zs
 | some v => !ag && valsEq [v] zs
 | none => false
noncomputable def chkField (t : TypeId) (T : Ty) : Bool :=
 match P.underlying t with
 | some (.int k) => (match T with | .int k' => kEq k k' | _ => false)
 | some .bool => (match T with | .bool => true | _ => false)
 | some .string => (match T with | .str => true | _ => false)
 | _ => false
noncomputable def chkEq : List Field → Nat → List Ty → Bool
 | [], _, [] => true
 | f :: r, n, T :: Ts => (f.name != "_") && Nat.beq f.offset n && chkField P f.type T && chkEq r (n + 1) Ts
 | _, _, _ => false
noncomputable def chkTI (t : TypeId) (ti : TI) : Bool :=
 (match tsz P t with | some n => Nat.beq n ti.n | none => false) && (match tbytes P t with | some n => Nat.beq n ti.bytes | none => false) && (match isAgg? P t with | some a => beqB a ti.ag | none => false) && chkTK P t ti
  && chkZero ti.ag ti.zero ((P.info? t).bind (·.zero))
  && (match ti.ty with | some T => (match leaves? P 8 t with | some ls => chkLs P T ls | none => false) && Nat.beq T.size ti.n && (ti.ag || Nat.beq T.size 1) && Nat.ble T.depth 6 | none => true)
  && (!ti.eq || (match P.underlying t, ti.ty with | some (.struct fs), some T => (!(P.stoodInHeld t)) && (!(P.eqGuardType P.depth t)) && chkEq P fs.toList 0 (leavesT T) | _, _ => false))
def TabOK (tab : TypeId → Option TI) : Prop := ∀ t ti, tab t = some ti → chkTI P t ti = true
theorem TabOK.of_list {l : List (Nat × TI)} (h : (l.all fun q => chkTI P q.1 q.2) = true) : TabOK P fun t => assoc t l := by
 intro t ti ht
 induction l with
 | nil => cases ht
 | cons q l ih =>
  obtain ⟨m, x⟩ := q
  simp only [yj3, yb] at h
  simp only [assoc] at ht
  cases hm : Nat.beq m t with
  | true =>
   rw [hm] at ht; simp only [yg] at ht
   obtain rfl := ya ht
   obtain rfl := nb.1 hm
   exact h.1
  | false => rw [hm] at ht; simp only [yh] at ht; exact ih h.2 ht
structure TIok (t : TypeId) (ti : TI) : Prop where
 n : tsz P t = some ti.n
 bytes : tbytes P t = some ti.bytes
 ag : isAgg? P t = some ti.ag
 tk : chkTK P t ti = true
 zero : chkZero ti.ag ti.zero ((P.info? t).bind (·.zero)) = true
 ty : ∀ T, ti.ty = some T → (∃ ls, leaves? P 8 t = some ls ∧ chkLs P T ls = true) ∧ T.size = ti.n ∧ (ti.ag = false → T.size = 1) ∧ T.depth ≤ 6
 eq : ti.eq = true → ∃ fs T, P.underlying t = some (.struct fs) ∧ ti.ty = some T ∧ (!(P.stoodInHeld t)) = true ∧ (!(P.eqGuardType P.depth t)) = true ∧ chkEq P fs.toList 0 (leavesT T) = true
variable {P}
theorem TIok.of {t : TypeId} {ti : TI} (h : chkTI P t ti = true) : TIok P t ti := by
 simp only [chkTI, yb] at h
 obtain ⟨⟨⟨⟨⟨⟨h1, h2⟩, h3⟩, h4⟩, h5⟩, h6⟩, h7⟩ := h
 refine ⟨?_, ?_, ?_, h4, h5, ?_, ?_⟩
 ·split at h1
  ·rename_i n hn; rw [hn, nb.1 h1]
  ·cases h1
 ·split at h2
  ·rename_i n hn; rw [hn, nb.1 h2]
  ·cases h2
 ·split at h3
  ·rename_i n hn; rw [hn, bbq.1 h3]
  ·cases h3
 ·intro T hT
  rw [hT] at h6
  simp only [yb] at h6
  obtain ⟨⟨⟨a, b⟩, c⟩, d⟩ := h6
  refine ⟨?_, nb.1 b, fun hag => ?_, nl.1 d⟩
  ·split at a
   ·rename_i ls hls; exact ⟨ls, hls, a⟩
   ·cases a
  ·rw [hag] at c; exact nb.1 (by simpa using c)
 ·intro he
  rw [he] at h7
  simp only [yn3, Bool.false_or] at h7
  split at h7
  ·rename_i fs T hu hT
   simp only [yb] at h7
   exact ⟨fs, T, hu, hT, h7.1.1, h7.1.2, h7.2⟩
  ·cases h7
theorem zpD {a b : Value} (h : valEq a b = true) : a = b := by
 unfold valEq at h
 split at h
 ·simp only [yb, decide_eq_true_eq] at h; rw [keq.1 h.1, h.2]
 ·rw [bbq.1 h]
 ·rename_i x y
  split at h
  ·rename_i hx hy
   obtain ⟨⟨x⟩⟩ := x; obtain ⟨⟨y⟩⟩ := y
   simp only at hx hy; rw [hx, hy]
  ·cases h
 ·rfl
 ·rfl
 ·cases h
theorem zgv : ∀ {a b : List Value}, valsEq a b = true → a = b
 | [], [], _ => rfl
 | a :: r, b :: s, h => by
  simp only [valsEq, yb] at h
  rw [zpD h.1, zgv h.2]
 | [], _ :: _, h => by cases h
 | _ :: _, [], h => by cases h
theorem zfn {a b : Value} (h : valEq a b = true) : notAgg b = true := by
 unfold valEq at h
 split at h <;> first | rfl | cases h
theorem zgW : ∀ {a b : List Value}, valsEq a b = true → lits b = some (b.map .lit)
 | [], [], _ => rfl
 | a :: r, b :: s, h => by
  simp only [valsEq, yb] at h
  simp only [lits, gds, zfn h.1, zgW h.2, true_and]; rfl
 | [], _ :: _, h => by cases h
 | _ :: _, [], h => by cases h
theorem zmZ (zs : List Value) : KV.downs (zs.map .lit) = zs.map .lit := by induction zs <;> simp_all [KV.downs, KV.down]
theorem zoc {v : Value} (h : notAgg v = true) : ofVal v = some (.lit v) := by cases v <;> first | rfl | cases h
theorem TIok.zero_eq {t : TypeId} {ti : TI} (h : TIok P t ti) : zero? P t = some (zeroK ti).down ∧ (ti.ag = true → zeroK ti = .agg (ti.zero.map .lit)) ∧ (ti.ag = false → ∃ v, ti.zero = [v] ∧ zeroK ti = .lit v) := by
 have hz := h.zero
 unfold chkZero at hz
 split at hz
 ·rename_i cs hc
  simp only [yb] at hz
  have he := zgv hz.2
  refine ⟨?_, (fun _ => by simp [zeroK, hz.1]), (fun h' => by rw [hz.1] at h'; cases h')⟩
  have hl := zgW hz.2
  simp only [zero?, hc, yc, ofVal, he, hl, zeroK, hz.1, yg, KV.down, zmZ, yk]
 ·rename_i v hne hv
  simp only [yb, yt] at hz
  obtain ⟨hag, hz⟩ := hz
  have he := zgv hz
  have hv2 : notAgg v = true := by
   rw [← he] at hz; simp only [valsEq, yi3] at hz; exact zfn hz
  have hzk : zeroK ti = .lit v := by unfold zeroK; rw [hag, ← he]; rfl
  refine ⟨?_, (fun h' => by rw [hag] at h'; cases h'), fun _ => ⟨v, he.symm, hzk⟩⟩
  rw [hzk]
  simp only [zero?, hv, yc, zoc hv2, KV.down]
 ·cases hz
end
end Go.Ab
