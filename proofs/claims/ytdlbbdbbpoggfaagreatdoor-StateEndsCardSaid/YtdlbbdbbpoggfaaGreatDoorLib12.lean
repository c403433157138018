import Derived.Test.YtdlbbdbbpoggfaaGreatDoorLib11
set_option linter.unusedVariables false
set_option linter.unusedSectionVars false
set_option linter.unusedSimpArgs false
namespace Go.Ab
variable [cD]
section
variable {P : Program} {R : Type} {r : R} {mem : aR} {tab : TypeId → Option TI}
theorem Cu {t : TypeId} {z : TI} {T : Ty} {v : KV} {K : den T → Bool → List Nat → Option R} (ht : b8 P t z) (hT : z.ty = some T) (h : KD (bI R) mem z.ag T v K = some r) :
  ∃ x β l, K x β l = some r ∧ qJ P (aF mem) t v.down = some (β, fK z.ag T x, l) := by
 unfold KD at h
 rw [c9] at h
 obtain ⟨⟨ls, A, N⟩, hn, H, J⟩ := ht.ty T hT
 obtain ⟨x, β, l, hK, M⟩ := jS N J h.2
 refine ⟨x, β, l, hK, ?_⟩
 unfold qJ
 rw [A, ya, eK]
 rw [show iP = 6 from rfl, M]
 simp only [ya, yS ht.ag H, yo]
theorem A6 {t : TypeId} {z : TI} {T : Ty} (ht : b8 P t z) (hT : z.ty = some T) : ∀ {vs : List KV} {K : List (den T) → Bool → List Nat → Option R}, GU (bI R) mem z.ag T vs K = some r →
  ∃ xs β l, K xs β l = some r ∧ fS (qJ P (aF mem) t) (KV.downs vs) = some (β, xs.map (fK z.ag T), l)
 | [], K, h => ⟨[], false, [], h, rfl⟩
 | v :: vs, K, h => by
  simp only [GU] at h
  obtain ⟨x, β1, H, h, hx⟩ := Cu ht hT h
  obtain ⟨xs, β2, J, h, A⟩ := A6 ht hT h
  exact ⟨x :: xs, β1 || β2, H ++ J, h, by simp [KV.downs, fS, hx, A]⟩
theorem zP {k : IntKind} : ∀ {vs : List KV} {xs : List Int}, yR k vs = some xs → eS k (KV.downs vs) = some xs
 | [], xs, h => by simp only [yR, Option.some.injEq] at h; subst h; rfl
 | v :: vs, xs, h => by
  unfold yR at h
  split at h
  ·rename_i z; cases z
  ·rename_i k' x r' z
   obtain ⟨rfl, rfl⟩ := yc1 z
   rw [c9] at h
   obtain ⟨A, h⟩ := h
   split at h
   ·rename_i ys H
    obtain rfl := yb h
    simp [KV.downs, KV.down, eS, A, zP H]
   ·cases h
  ·cases h
theorem HU {op : BinOp} {z A : IntKind} {a b : Int} {k : Value → Option R} (h : JS (bI R) op z a A b k = some r) : ∃ v, p0 op (.int z a) (.int A b) = some v ∧ k v = some r := by
 cases op <;> simp only [JS, real_guard, c9] at h <;> simp only [p0, g8]
 all_goals first
  | exact ⟨_, ⟨h.1, h.2.1, rfl⟩, h.2.2⟩
  | exact ⟨_, ⟨h.1, rfl⟩, h.2⟩
  | exact ⟨_, ⟨h.1.1, h.1.2, rfl⟩, h.2⟩
theorem HI {z : Bool} {op : BinOp} {x y : Value} {k : Value → Option R} (h : Jg (bI R) z op x y k = some r) : ∃ v, p0 op x y = some v ∧ k v = some r ∧ (∀ a b, x = .bool a → y = .bool b → z = true) := by
 unfold Jg at h
 split at h
 ·obtain ⟨v, J, A⟩ := HU h
  exact ⟨v, J, A, fun _ _ h => by cases h⟩
 ·rename_i a b
  rw [c9] at h
  obtain ⟨H, h⟩ := h
  split at h <;> first | cases h | exact ⟨_, rfl, h, fun _ _ _ _ => H⟩
 ·rename_i a b
  split at h <;> first | cases h | exact ⟨_, rfl, h, fun _ _ h => by cases h⟩
 ·cases h
theorem D5 {k : IntKind} {a : KV} (h : jY (.int k) a = true) : ∃ z x, a = .lit (.int z x) := by
 cases a with
 | lit v => cases v <;> first | exact ⟨_, _, rfl⟩ | cases h
 | _ => cases h
theorem AX {a : KV} (h : jY .bool a = true) : ∃ x, a = .lit (.bool x) := by
 cases a with
 | lit v => cases v <;> first | exact ⟨_, rfl⟩ | cases h
 | _ => cases h
theorem Dd {a : KV} (h : jY .str a = true) : ∃ x, a = .lit (.string x) := by
 cases a with
 | lit v => cases v <;> first | exact ⟨_, rfl⟩ | cases h
 | _ => cases h
theorem BA {T : Ty} {t : TypeId} {a b : KV} {k : Bool → Option R} (J : jY T a = true) (K : jY T b = true)
  (ht : Dx P t T = true) (h : Cn a b k = some r) : ∃ q, AW P t a.down b.down = some q ∧ k q = some r := by
 have z : (∃ A, T = .int A ∧ P.underlying t = some (.int A)) ∨ (T = .bool ∧ P.underlying t = some .bool) ∨ (T = .str ∧ P.underlying t = some .string) := by
  unfold Dx at ht
  split at ht
  ·rename_i A z
   split at ht
   ·exact .inl ⟨A, by rw [vV.1 ht], z⟩
   ·cases ht
  ·rename_i z
   split at ht
   ·exact .inr (.inl ⟨rfl, z⟩)
   ·cases ht
  ·rename_i z
   split at ht
   ·exact .inr (.inr ⟨rfl, z⟩)
   ·cases ht
  ·cases ht
 rcases z with ⟨A, rfl, z⟩ | ⟨rfl, z⟩ | ⟨rfl, z⟩
 ·obtain ⟨H, x, rfl⟩ : ∃ H x, a = .lit (.int H x) := D5 J
  obtain ⟨kb, y, rfl⟩ : ∃ H x, b = .lit (.int H x) := D5 K
  simp only [Cn] at h
  rw [c9] at h
  exact ⟨x == y, by simp [AW, KV.down, z, guardB, h.1], h.2⟩
 ·obtain ⟨x, rfl⟩ : ∃ x, a = .lit (.bool x) := AX J
  obtain ⟨y, rfl⟩ : ∃ x, b = .lit (.bool x) := AX K
  exact ⟨x == y, by simp only [AW, KV.down, z], h⟩
 ·obtain ⟨x, rfl⟩ : ∃ x, a = .lit (.string x) := Dd J
  obtain ⟨y, rfl⟩ : ∃ x, b = .lit (.string x) := Dd K
  exact ⟨_, by simp only [AW, KV.down, z]; rfl, h⟩
theorem zN : ∀ {fs : List Field} {n : Nat} {H : List Ty} {as bs : List KV} {k : Bool → Option R}, BE P fs n H = true → aZ H as = true → aZ H bs = true → l9 as bs k = some r →
  ∃ q, jW P fs n (KV.downs as) (KV.downs bs) = some q ∧ k q = some r
 | [], n, [], as, bs, k, J, z, A, h => by
  cases as with
  | cons => simp [aZ] at z
  | nil =>
   cases bs with
   | cons => simp [aZ] at A
   | nil => exact ⟨true, rfl, h⟩
 | f :: fs, n, T :: H, as, bs, k, J, z, A, h => by
  cases as with
  | nil => simp [aZ] at z
  | cons a as =>
   cases bs with
   | nil => simp [aZ] at A
   | cons b bs =>
    simp only [aZ, yc] at z A
    simp only [BE, yc] at J
    obtain ⟨⟨⟨h1, h2⟩, O⟩, N⟩ := J
    cases as with
    | nil =>
     cases bs with
     | nil =>
      simp only [l9] at h
      obtain ⟨q, M, W⟩ := BA z.1 A.1 O h
      cases H with
      | cons => simp [aZ] at z
      | nil =>
       cases fs with
       | cons => simp [BE] at N
       | nil => exact ⟨q, by simp [KV.downs, jW, guardB, h1, h2, M], W⟩
     | cons V bs => cases H <;> simp [aZ] at z A
    | cons a' as =>
     cases bs with
     | nil => cases H <;> simp [aZ] at z A
     | cons V bs =>
      simp only [l9] at h
      obtain ⟨q, M, h⟩ := BA z.1 A.1 O h
      obtain ⟨U, K, h⟩ := zN N z.2 A.2 h
      refine ⟨q && U, ?_, h⟩
      simp only [KV.downs] at K ⊢
      simp [jW, guardB, h1, h2, M, K]
 | [], n, T :: H, as, bs, k, J, z, A, h => by simp [BE] at J
 | f :: fs, n, [], as, bs, k, J, z, A, h => by simp [BE] at J
theorem CM {t : TypeId} (ht : cF P tab) (h : K7 tab t = true) : z7 P t = true := by
 unfold K7 at h
 split at h
 ·rename_i ti H
  have z := (b8.of (ht _ _ H)).tk
  unfold mT at z
  unfold z7
  split at h
  ·rename_i A
   rw [A] at z
   cases J : P.underlying t with
   | none => rw [J] at z; simp at z
   | some d => rw [J] at z; cases d <;> simp_all
  ·cases h
 ·cases h
theorem Nv {op : BinOp} {t : TypeId} {a b : Value} (h : a = .slice none 0 0 → b = .slice none 0 0 → False) : qH P op t (.lit a) (.lit b) = guardB (Dn P t a b) ((p0 op a b).map .lit) := by
 unfold qH
 split <;> first | (rename_i h1 h2; cases h1; cases h2; exact absurd rfl (fun _ => h rfl rfl)) | (simp_all; done)
theorem jF (ag : Bool) (T : Ty) (xs : List (den T)) : jN (iB ag T xs) = some xs.isEmpty := by
 cases h : h9 ag T with
 | true =>
  obtain ⟨rfl, k, rfl⟩ := aX.1 h
  rfl
 | false => rw [d7 h]; simp [jN]
theorem Ml (ht : cF P tab) {op : BinOp} {t : TypeId} {x y : KV} {k : KV → Option R} (h : Pi (bI R) tab op t x y k = some r) : ∃ v, qH P op t x.down y.down = some v.down ∧ k v = some r := by
 unfold Pi at h
 split at h
 ·rename_i β ag T xs
  rw [c9] at h
  obtain ⟨H, h⟩ := h
  have H := CM ht H
  split at h
  ·simp only [real_ite] at h
   cases M : xs.isEmpty with
   | true => rw [M] at h; exact ⟨.unkB, by simp [qH, KV.down, guardB, H, jF, M], h⟩
   | false => rw [M] at h; exact ⟨.lit (.bool false), by simp [qH, KV.down, guardB, H, jF, M], h⟩
  ·simp only [real_ite] at h
   cases M : xs.isEmpty with
   | true => rw [M] at h; exact ⟨.unkB, by simp [qH, KV.down, guardB, H, jF, M], h⟩
   | false => rw [M] at h; exact ⟨.lit (.bool true), by simp [qH, KV.down, guardB, H, jF, M], h⟩
  ·cases h
 ·rw [c9] at h
  obtain ⟨H, h⟩ := h
  have H := CM ht H
  split at h
  ·exact ⟨.lit (.bool true), by simp [qH, KV.down, guardB, H], h⟩
  ·exact ⟨.lit (.bool false), by simp [qH, KV.down, guardB, H], h⟩
  ·cases h
 ·rename_i a b hne
  obtain ⟨v, hv, K, hb⟩ := HI h
  refine ⟨.lit v, ?_, K⟩
  rw [show KV.down (.lit a) = .lit a from rfl, show KV.down (.lit b) = .lit b from rfl, Nv hne]
  simp only [KV.down, g8, hv, yo]
  refine ⟨?_, trivial⟩
  unfold Dn
  split
  ·rename_i a b
   have := hb _ _ rfl rfl
   unfold KL at this
   split at this
   ·rename_i ti A
    have z := (b8.of (ht _ _ A)).tk
    unfold mT at z
    unfold Gs
    split at this
    ·rename_i N
     rw [N] at z
     cases O : P.underlying t with
     | none => rw [O] at z; simp at z
     | some d => rw [O] at z; cases d <;> simp_all
    ·cases this
   ·cases this
  ·rfl
 ·rename_i a b
  split at h
  ·rename_i T hT
   rw [c9] at h
   obtain ⟨Z, h⟩ := h
   simp only [yc] at Z
   unfold eqTy? at hT
   split at hT
   ·rename_i ti A
    rw [c9] at hT
    obtain ⟨fs, T', O, W, hs1, Y, hc⟩ := (b8.of (ht _ _ A)).eq hT.1
    rw [hT.2] at W
    obtain rfl := yb W
    have U : ∀ {k : Bool → Option R}, l9 a b k = some r → ∃ q, lM P t (KV.downs a) (KV.downs b) = some q ∧ k q = some r := by
     intro k K
     obtain ⟨q, V, K⟩ := zN hc Z.1.2 Z.2 K
     refine ⟨q, ?_, K⟩
     unfold lM
     simp only [O, g8, yc]
     exact ⟨⟨hs1, Y⟩, V⟩
    split at h
    ·obtain ⟨q, V, K⟩ := U h
     exact ⟨.lit (.bool q), by simp [qH, KV.down, V], K⟩
    ·obtain ⟨q, V, K⟩ := U h
     exact ⟨.lit (.bool (!q)), by simp [qH, KV.down, V], K⟩
    ·cases h
   ·cases hT
  ·cases h
 ·rw [c9] at h
  obtain ⟨hp, h⟩ := h
  have J := isPtrK_some ht hp
  split at h
  ·exact ⟨.lit (.bool false), by simp [qH, KV.down, guardB, J], h⟩
  ·exact ⟨.lit (.bool true), by simp [qH, KV.down, guardB, J], h⟩
  ·cases h
 ·rw [c9] at h
  obtain ⟨hp, h⟩ := h
  have J := isPtrK_some ht hp
  split at h
  ·exact ⟨.lit (.bool false), by simp [qH, KV.down, guardB, J], h⟩
  ·exact ⟨.lit (.bool true), by simp [qH, KV.down, guardB, J], h⟩
  ·cases h
 ·cases h
 where
 isPtrK_some {t : TypeId} (ht : cF P tab) (h : J2 tab t = true) : F8 P t = true := by
  unfold J2 at h
  split at h
  ·rename_i ti A
   have z := (b8.of (ht _ _ A)).tk
   unfold mT at z
   unfold F8
   split at h
   ·rename_i N
    rw [N] at z
    cases O : P.underlying t with
    | none => rw [O] at z; simp at z
    | some d => rw [O] at z; cases d <;> simp_all
   ·cases h
  ·cases h
theorem Nk {op : UnOp} {x : KV} {k : KV → Option R} (h : QG op x k = some r) : ∃ a v, x = .lit a ∧ FJ op a = some v ∧ k (.lit v) = some r := by
 unfold QG at h
 split at h
 ·rename_i a
  split at h <;> first | cases h | exact ⟨_, _, rfl, rfl, h⟩
 ·cases h
theorem iM {len : Nat} {A z H : Option Int} {k : Nat → Nat → Option R} (h : mV (bI R) len A z H k = some r) : ∃ b, iG len A z H = some b ∧ k b.1 b.2 = some r := by
 have h1 : ∀ {y d : Nat} {x : Option Int} {k : Nat → Option R}, yX (bI R) y x d k = some r → ∃ b, wW y x d = some b ∧ k b = some r := by
  intro y d x k h
  cases x with
  | none => exact ⟨d, rfl, h⟩
  | some i =>
   simp only [yX, real_guard, c9] at h
   exact ⟨i.toNat, by simp only [wW, g8]; exact ⟨h.1, trivial⟩, h.2⟩
 unfold mV at h
 rw [c9] at h
 obtain ⟨J, h⟩ := h
 obtain ⟨m, hm, h⟩ := h1 h
 obtain ⟨q, K, h⟩ := h1 h
 obtain ⟨l, hl, h⟩ := h1 h
 exact ⟨(l, q), by simp [iG, guardB, J, hm, K, hl], h⟩
end
end Go.Ab
