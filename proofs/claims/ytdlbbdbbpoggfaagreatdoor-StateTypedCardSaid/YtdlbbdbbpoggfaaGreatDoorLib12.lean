import Derived.Test.YtdlbbdbbpoggfaaGreatDoorLib11
set_option linter.unusedVariables false
set_option linter.unusedSectionVars false
set_option linter.unusedSimpArgs false
namespace Go.Ab
variable [cD]
section
variable {P : Program} {R : Type} {r : R} {mem : aR} {tab : TypeId → Option TI}
theorem Cv {t : TypeId} {z : TI} {T : Ty} {v : KV} {K : den T → Bool → List Nat → Option R} (ht : cA P t z) (hT : z.ty = some T) (h : Ky (bI R) mem z.ag T v K = some r) :
  ∃ x β l, K x β l = some r ∧ qJ P (aF mem) t v.down = some (β, fI z.ag T x, l) := by
 unfold Ky at h
 rw [c9] at h
 obtain ⟨⟨ls, H, N⟩, hn, A, M⟩ := ht.ty T hT
 obtain ⟨x, β, l, hK, J⟩ := jL N M h.2
 refine ⟨x, β, l, hK, ?_⟩
 unfold qJ
 rw [H, ya, eK]
 rw [show iQ = 6 from rfl, J]
 simp only [ya, zL ht.ag A, yo]
theorem Ba {t : TypeId} {z : TI} {T : Ty} (ht : cA P t z) (hT : z.ty = some T) : ∀ {vs : List KV} {K : List (den T) → Bool → List Nat → Option R}, Hf (bI R) mem z.ag T vs K = some r →
  ∃ xs β l, K xs β l = some r ∧ fO (qJ P (aF mem) t) (KV.downs vs) = some (β, xs.map (fI z.ag T), l)
 | [], K, h => ⟨[], false, [], h, rfl⟩
 | v :: vs, K, h => by
  simp only [Hf] at h
  obtain ⟨x, β1, J, h, hx⟩ := Cv ht hT h
  obtain ⟨xs, β2, H, h, A⟩ := Ba ht hT h
  exact ⟨x :: xs, β1 || β2, J ++ H, h, by simp [KV.downs, fO, hx, A]⟩
theorem zR {k : IntKind} : ∀ {vs : List KV} {xs : List Int}, x9 k vs = some xs → eR k (KV.downs vs) = some xs
 | [], xs, h => by simp only [x9, Option.some.injEq] at h; subst h; rfl
 | v :: vs, xs, h => by
  unfold x9 at h
  split at h
  ·rename_i z; cases z
  ·rename_i k' x r' z
   obtain ⟨rfl, rfl⟩ := yc1 z
   rw [c9] at h
   obtain ⟨A, h⟩ := h
   split at h
   ·rename_i ys H
    obtain rfl := yb h
    simp [KV.downs, KV.down, eR, A, zR H]
   ·cases h
  ·cases h
theorem IK {op : BinOp} {z A : IntKind} {a b : Int} {k : Value → Option R} (h : Kj (bI R) op z a A b k = some r) : ∃ v, o8 op (.int z a) (.int A b) = some v ∧ k v = some r := by
 cases op <;> simp only [Kj, real_guard, c9] at h <;> simp only [o8, h9]
 all_goals first
  | exact ⟨_, ⟨h.1, h.2.1, rfl⟩, h.2.2⟩
  | exact ⟨_, ⟨h.1, rfl⟩, h.2⟩
  | exact ⟨_, ⟨h.1.1, h.1.2, rfl⟩, h.2⟩
theorem Ib {z : Bool} {op : BinOp} {x y : Value} {k : Value → Option R} (h : JV (bI R) z op x y k = some r) : ∃ v, o8 op x y = some v ∧ k v = some r ∧ (∀ a b, x = .bool a → y = .bool b → z = true) := by
 unfold JV at h
 split at h
 ·obtain ⟨v, J, H⟩ := IK h
  exact ⟨v, J, H, fun _ _ h => by cases h⟩
 ·rename_i a b
  rw [c9] at h
  obtain ⟨A, h⟩ := h
  split at h <;> first | cases h | exact ⟨_, rfl, h, fun _ _ _ _ => A⟩
 ·rename_i a b
  split at h <;> first | cases h | exact ⟨_, rfl, h, fun _ _ h => by cases h⟩
 ·cases h
theorem Er {k : IntKind} {a : KV} (h : j8 (.int k) a = true) : ∃ z x, a = .lit (.int z x) := by
 cases a with
 | lit v => cases v <;> first | exact ⟨_, _, rfl⟩ | cases h
 | _ => cases h
theorem AO {a : KV} (h : j8 .bool a = true) : ∃ x, a = .lit (.bool x) := by
 cases a with
 | lit v => cases v <;> first | exact ⟨_, rfl⟩ | cases h
 | _ => cases h
theorem C8 {a : KV} (h : j8 .str a = true) : ∃ x, a = .lit (.string x) := by
 cases a with
 | lit v => cases v <;> first | exact ⟨_, rfl⟩ | cases h
 | _ => cases h
theorem Bk {T : Ty} {t : TypeId} {a b : KV} {k : Bool → Option R} (K : j8 T a = true) (J : j8 T b = true)
  (ht : CM P t T = true) (h : Cc a b k = some r) : ∃ q, Ap P t a.down b.down = some q ∧ k q = some r := by
 have z : (∃ A, T = .int A ∧ P.underlying t = some (.int A)) ∨ (T = .bool ∧ P.underlying t = some .bool) ∨ (T = .str ∧ P.underlying t = some .string) := by
  unfold CM at ht
  split at ht
  ·rename_i A z
   split at ht
   ·exact .inl ⟨A, by rw [vJ.1 ht], z⟩
   ·cases ht
  ·rename_i z
   split at ht
   ·exact .inr (.inl ⟨rfl, z⟩)
   ·cases ht
  ·rename_i z
   split at ht
   ·exact .inr (.inr ⟨rfl, z⟩)
   ·cases ht
  ·cases ht
 rcases z with ⟨A, rfl, z⟩ | ⟨rfl, z⟩ | ⟨rfl, z⟩
 ·obtain ⟨H, x, rfl⟩ : ∃ H x, a = .lit (.int H x) := Er K
  obtain ⟨kb, y, rfl⟩ : ∃ H x, b = .lit (.int H x) := Er J
  simp only [Cc] at h
  rw [c9] at h
  exact ⟨x == y, by simp [Ap, KV.down, z, guardB, h.1], h.2⟩
 ·obtain ⟨x, rfl⟩ : ∃ x, a = .lit (.bool x) := AO K
  obtain ⟨y, rfl⟩ : ∃ x, b = .lit (.bool x) := AO J
  exact ⟨x == y, by simp only [Ap, KV.down, z], h⟩
 ·obtain ⟨x, rfl⟩ : ∃ x, a = .lit (.string x) := C8 K
  obtain ⟨y, rfl⟩ : ∃ x, b = .lit (.string x) := C8 J
  exact ⟨_, by simp only [Ap, KV.down, z]; rfl, h⟩
theorem y8 : ∀ {fs : List Field} {n : Nat} {H : List Ty} {as bs : List KV} {k : Bool → Option R}, BU P fs n H = true → aZ H as = true → aZ H bs = true → mM as bs k = some r →
  ∃ q, jY P fs n (KV.downs as) (KV.downs bs) = some q ∧ k q = some r
 | [], n, [], as, bs, k, J, z, A, h => by
  cases as with
  | cons => simp [aZ] at z
  | nil =>
   cases bs with
   | cons => simp [aZ] at A
   | nil => exact ⟨true, rfl, h⟩
 | f :: fs, n, T :: H, as, bs, k, J, z, A, h => by
  cases as with
  | nil => simp [aZ] at z
  | cons a as =>
   cases bs with
   | nil => simp [aZ] at A
   | cons b bs =>
    simp only [aZ, yc] at z A
    simp only [BU, yc] at J
    obtain ⟨⟨⟨h1, h2⟩, N⟩, O⟩ := J
    cases as with
    | nil =>
     cases bs with
     | nil =>
      simp only [mM] at h
      obtain ⟨q, M, V⟩ := Bk z.1 A.1 N h
      cases H with
      | cons => simp [aZ] at z
      | nil =>
       cases fs with
       | cons => simp [BU] at O
       | nil => exact ⟨q, by simp [KV.downs, jY, guardB, h1, h2, M], V⟩
     | cons U bs => cases H <;> simp [aZ] at z A
    | cons a' as =>
     cases bs with
     | nil => cases H <;> simp [aZ] at z A
     | cons U bs =>
      simp only [mM] at h
      obtain ⟨q, M, h⟩ := Bk z.1 A.1 N h
      obtain ⟨W, K, h⟩ := y8 O z.2 A.2 h
      refine ⟨q && W, ?_, h⟩
      simp only [KV.downs] at K ⊢
      simp [jY, guardB, h1, h2, M, K]
 | [], n, T :: H, as, bs, k, J, z, A, h => by simp [BU] at J
 | f :: fs, n, [], as, bs, k, J, z, A, h => by simp [BU] at J
theorem CS {t : TypeId} (ht : cF P tab) (h : K2 tab t = true) : w8 P t = true := by
 unfold K2 at h
 split at h
 ·rename_i ti A
  have z := (cA.of (ht _ _ A)).tk
  unfold mZ at z
  unfold w8
  split at h
  ·rename_i H
   rw [H] at z
   cases J : P.underlying t with
   | none => rw [J] at z; simp at z
   | some d => rw [J] at z; cases d <;> simp_all
  ·cases h
 ·cases h
theorem M8 {op : BinOp} {t : TypeId} {a b : Value} (h : a = .slice none 0 0 → b = .slice none 0 0 → False) : qH P op t (.lit a) (.lit b) = guardB (Dp P t a b) ((o8 op a b).map .lit) := by
 unfold qH
 split <;> first | (rename_i h1 h2; cases h1; cases h2; exact absurd rfl (fun _ => h rfl rfl)) | (simp_all; done)
theorem iX (ag : Bool) (T : Ty) (xs : List (den T)) : jT (iH ag T xs) = some xs.isEmpty := by
 cases h : g7 ag T with
 | true =>
  obtain ⟨rfl, k, rfl⟩ := aX.1 h
  rfl
 | false => rw [d6 h]; simp [jT]
theorem Li (ht : cF P tab) {op : BinOp} {t : TypeId} {x y : KV} {k : KV → Option R} (h : Pg (bI R) tab op t x y k = some r) : ∃ v, qH P op t x.down y.down = some v.down ∧ k v = some r := by
 unfold Pg at h
 split at h
 ·rename_i β ag T xs
  rw [c9] at h
  obtain ⟨J, h⟩ := h
  have J := CS ht J
  split at h
  ·simp only [real_ite] at h
   cases M : xs.isEmpty with
   | true => rw [M] at h; exact ⟨.unkB, by simp [qH, KV.down, guardB, J, iX, M], h⟩
   | false => rw [M] at h; exact ⟨.lit (.bool false), by simp [qH, KV.down, guardB, J, iX, M], h⟩
  ·simp only [real_ite] at h
   cases M : xs.isEmpty with
   | true => rw [M] at h; exact ⟨.unkB, by simp [qH, KV.down, guardB, J, iX, M], h⟩
   | false => rw [M] at h; exact ⟨.lit (.bool true), by simp [qH, KV.down, guardB, J, iX, M], h⟩
  ·cases h
 ·rw [c9] at h
  obtain ⟨J, h⟩ := h
  have J := CS ht J
  split at h
  ·exact ⟨.lit (.bool true), by simp [qH, KV.down, guardB, J], h⟩
  ·exact ⟨.lit (.bool false), by simp [qH, KV.down, guardB, J], h⟩
  ·cases h
 ·rename_i a b hne
  obtain ⟨v, hv, K, hb⟩ := Ib h
  refine ⟨.lit v, ?_, K⟩
  rw [show KV.down (.lit a) = .lit a from rfl, show KV.down (.lit b) = .lit b from rfl, M8 hne]
  simp only [KV.down, h9, hv, yo]
  refine ⟨?_, trivial⟩
  unfold Dp
  split
  ·rename_i a b
   have := hb _ _ rfl rfl
   unfold KH at this
   split at this
   ·rename_i ti A
    have z := (cA.of (ht _ _ A)).tk
    unfold mZ at z
    unfold Hn
    split at this
    ·rename_i O
     rw [O] at z
     cases N : P.underlying t with
     | none => rw [N] at z; simp at z
     | some d => rw [N] at z; cases d <;> simp_all
    ·cases this
   ·cases this
  ·rfl
 ·rename_i a b
  split at h
  ·rename_i T hT
   rw [c9] at h
   obtain ⟨hg, h⟩ := h
   simp only [yc] at hg
   unfold eqTy? at hT
   split at hT
   ·rename_i ti A
    rw [c9] at hT
    obtain ⟨fs, T', N, W, hs1, Y, hc⟩ := (cA.of (ht _ _ A)).eq hT.1
    rw [hT.2] at W
    obtain rfl := yb W
    have V : ∀ {k : Bool → Option R}, mM a b k = some r → ∃ q, lM P t (KV.downs a) (KV.downs b) = some q ∧ k q = some r := by
     intro k K
     obtain ⟨q, U, K⟩ := y8 hc hg.1.2 hg.2 K
     refine ⟨q, ?_, K⟩
     unfold lM
     simp only [N, h9, yc]
     exact ⟨⟨hs1, Y⟩, U⟩
    split at h
    ·obtain ⟨q, U, K⟩ := V h
     exact ⟨.lit (.bool q), by simp [qH, KV.down, U], K⟩
    ·obtain ⟨q, U, K⟩ := V h
     exact ⟨.lit (.bool (!q)), by simp [qH, KV.down, U], K⟩
    ·cases h
   ·cases hT
  ·cases h
 ·rw [c9] at h
  obtain ⟨Z, h⟩ := h
  have H := isPtrK_some ht Z
  split at h
  ·exact ⟨.lit (.bool false), by simp [qH, KV.down, guardB, H], h⟩
  ·exact ⟨.lit (.bool true), by simp [qH, KV.down, guardB, H], h⟩
  ·cases h
 ·rw [c9] at h
  obtain ⟨Z, h⟩ := h
  have H := isPtrK_some ht Z
  split at h
  ·exact ⟨.lit (.bool false), by simp [qH, KV.down, guardB, H], h⟩
  ·exact ⟨.lit (.bool true), by simp [qH, KV.down, guardB, H], h⟩
  ·cases h
 ·cases h
 where
 isPtrK_some {t : TypeId} (ht : cF P tab) (h : Ks tab t = true) : FE P t = true := by
  unfold Ks at h
  split at h
  ·rename_i ti A
   have z := (cA.of (ht _ _ A)).tk
   unfold mZ at z
   unfold FE
   split at h
   ·rename_i O
    rw [O] at z
    cases N : P.underlying t with
    | none => rw [N] at z; simp at z
    | some d => rw [N] at z; cases d <;> simp_all
   ·cases h
  ·cases h
theorem MF {op : UnOp} {x : KV} {k : KV → Option R} (h : Qo op x k = some r) : ∃ a v, x = .lit a ∧ FD op a = some v ∧ k (.lit v) = some r := by
 unfold Qo at h
 split at h
 ·rename_i a
  split at h <;> first | cases h | exact ⟨_, _, rfl, rfl, h⟩
 ·cases h
theorem iS {len : Nat} {z A H : Option Int} {k : Nat → Nat → Option R} (h : nD (bI R) len z A H k = some r) : ∃ b, iC len z A H = some b ∧ k b.1 b.2 = some r := by
 have h1 : ∀ {y d : Nat} {x : Option Int} {k : Nat → Option R}, z6 (bI R) y x d k = some r → ∃ b, wN y x d = some b ∧ k b = some r := by
  intro y d x k h
  cases x with
  | none => exact ⟨d, rfl, h⟩
  | some i =>
   simp only [z6, real_guard, c9] at h
   exact ⟨i.toNat, by simp only [wN, h9]; exact ⟨h.1, trivial⟩, h.2⟩
 unfold nD at h
 rw [c9] at h
 obtain ⟨K, h⟩ := h
 obtain ⟨m, hm, h⟩ := h1 h
 obtain ⟨q, J, h⟩ := h1 h
 obtain ⟨l, hl, h⟩ := h1 h
 exact ⟨(l, q), by simp [iC, guardB, K, hm, J, hl], h⟩
end
end Go.Ab
