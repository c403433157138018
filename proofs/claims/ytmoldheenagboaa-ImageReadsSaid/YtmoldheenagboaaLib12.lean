import Derived.Test.YtmoldheenagboaaLib11
set_option linter.unusedVariables false
set_option linter.unusedSectionVars false
set_option linter.unusedSimpArgs false
namespace Go.Ab
variable [b8]
section
variable {P : Program} {R : Type} {r : R} {mem : aO} {tab : TypeId → Option TI}
theorem BJ {t : TypeId} {z : TI} {T : Ty} {v : KV} {K : den T → Bool → List Nat → Option R} (N : bX P t z) (O : z.ty = some T) (h : IK (aL R) mem z.ag T v K = some r) :
  ∃ x β l, K x β l = some r ∧ oZ P (aB mem) t v.down = some (β, eF z.ag T x, l) := by
 unfold IK at h
 rw [cK] at h
 obtain ⟨⟨ls, H, U⟩, hn, J, W⟩ := N.ty T O
 obtain ⟨x, β, l, Y, V⟩ := iS U W h.2
 refine ⟨x, β, l, Y, ?_⟩
 unfold oZ
 rw [H, yb, dR]
 rw [show gU = 6 from rfl, V]
 simp only [yb, v3 N.ag J, yn]
theorem zY {t : TypeId} {z : TI} {T : Ty} (N : bX P t z) (J : z.ty = some T) : ∀ {vs : List KV} {K : List (den T) → Bool → List Nat → Option R}, Fy (aL R) mem z.ag T vs K = some r →
  ∃ xs β l, K xs β l = some r ∧ eN (oZ P (aB mem) t) (KV.downs vs) = some (β, xs.map (eF z.ag T), l)
 | [], K, h => ⟨[], false, [], h, rfl⟩
 | v :: vs, K, h => by
  simp only [Fy] at h
  obtain ⟨x, β1, U, h, O⟩ := BJ N J h
  obtain ⟨xs, β2, V, h, H⟩ := zY N J h
  exact ⟨x :: xs, β1 || β2, U ++ V, h, by simp [KV.downs, eN, O, H]⟩
theorem v7 {k : IntKind} : ∀ {vs : List KV} {xs : List Int}, wI k vs = some xs → d4 k (KV.downs vs) = some xs
 | [], xs, h => by simp only [wI, Option.some.injEq] at h; subst h; rfl
 | v :: vs, xs, h => by
  unfold wI at h
  split at h
  ·rename_i z; cases z
  ·rename_i k' x r' z
   obtain ⟨rfl, rfl⟩ := yx z
   rw [cK] at h
   obtain ⟨J, h⟩ := h
   split at h
   ·rename_i ys H
    obtain rfl := ya h
    simp [KV.downs, KV.down, d4, J, v7 H]
   ·cases h
  ·cases h
theorem F0 {op : BinOp} {z H : IntKind} {a b : Int} {k : Value → Option R} (h : Ij (aL R) op z a H b k = some r) : ∃ v, oK op (.int z a) (.int H b) = some v ∧ k v = some r := by
 cases op <;> simp only [Ij, real_guard, cK] at h <;> simp only [oK, f8]
 all_goals first
  | exact ⟨_, ⟨h.1, h.2.1, rfl⟩, h.2.2⟩
  | exact ⟨_, ⟨h.1, rfl⟩, h.2⟩
  | exact ⟨_, ⟨h.1.1, h.1.2, rfl⟩, h.2⟩
theorem Ha {z : Bool} {op : BinOp} {x y : Value} {k : Value → Option R} (h : Ib (aL R) z op x y k = some r) : ∃ v, oK op x y = some v ∧ k v = some r ∧ (∀ a b, x = .bool a → y = .bool b → z = true) := by
 unfold Ib at h
 split at h
 ·obtain ⟨v, H, J⟩ := F0 h
  exact ⟨v, H, J, fun _ _ h => by cases h⟩
 ·rename_i a b
  rw [cK] at h
  obtain ⟨K, h⟩ := h
  split at h <;> first | cases h | exact ⟨_, rfl, h, fun _ _ _ _ => K⟩
 ·rename_i a b
  split at h <;> first | cases h | exact ⟨_, rfl, h, fun _ _ h => by cases h⟩
 ·cases h
theorem BV {k : IntKind} {a : KV} (h : i4 (.int k) a = true) : ∃ z x, a = .lit (.int z x) := by
 cases a with
 | lit v => cases v <;> first | exact ⟨_, _, rfl⟩ | cases h
 | _ => cases h
theorem w7 {a : KV} (h : i4 .bool a = true) : ∃ x, a = .lit (.bool x) := by
 cases a with
 | lit v => cases v <;> first | exact ⟨_, rfl⟩ | cases h
 | _ => cases h
theorem CJ {a : KV} (h : i4 .str a = true) : ∃ x, a = .lit (.string x) := by
 cases a with
 | lit v => cases v <;> first | exact ⟨_, rfl⟩ | cases h
 | _ => cases h
theorem Ae {T : Ty} {t : TypeId} {a b : KV} {k : Bool → Option R} (N : i4 T a = true) (O : i4 T b = true)
  (H : Cd P t T = true) (h : AW a b k = some r) : ∃ q, zE P t a.down b.down = some q ∧ k q = some r := by
 have z : (∃ J, T = .int J ∧ P.underlying t = some (.int J)) ∨ (T = .bool ∧ P.underlying t = some .bool) ∨ (T = .str ∧ P.underlying t = some .string) := by
  unfold Cd at H
  split at H
  ·rename_i J z
   split at H
   ·exact .inl ⟨J, by rw [rT.1 H], z⟩
   ·cases H
  ·rename_i z
   split at H
   ·exact .inr (.inl ⟨rfl, z⟩)
   ·cases H
  ·rename_i z
   split at H
   ·exact .inr (.inr ⟨rfl, z⟩)
   ·cases H
  ·cases H
 rcases z with ⟨J, rfl, z⟩ | ⟨rfl, z⟩ | ⟨rfl, z⟩
 ·obtain ⟨K, x, rfl⟩ : ∃ K x, a = .lit (.int K x) := BV N
  obtain ⟨kb, y, rfl⟩ : ∃ K x, b = .lit (.int K x) := BV O
  simp only [AW] at h
  rw [cK] at h
  exact ⟨x == y, by simp [zE, KV.down, z, guardB, h.1], h.2⟩
 ·obtain ⟨x, rfl⟩ : ∃ x, a = .lit (.bool x) := w7 N
  obtain ⟨y, rfl⟩ : ∃ x, b = .lit (.bool x) := w7 O
  exact ⟨x == y, by simp only [zE, KV.down, z], h⟩
 ·obtain ⟨x, rfl⟩ : ∃ x, a = .lit (.string x) := CJ N
  obtain ⟨y, rfl⟩ : ∃ x, b = .lit (.string x) := CJ O
  exact ⟨_, by simp only [zE, KV.down, z]; rfl, h⟩
theorem v5 : ∀ {fs : List Field} {n : Nat} {J : List Ty} {as bs : List KV} {k : Bool → Option R}, zX P fs n J = true → aV J as = true → aV J bs = true → kK as bs k = some r →
  ∃ q, i6 P fs n (KV.downs as) (KV.downs bs) = some q ∧ k q = some r
 | [], n, [], as, bs, k, K, z, H, h => by
  cases as with
  | cons => simp [aV] at z
  | nil =>
   cases bs with
   | cons => simp [aV] at H
   | nil => exact ⟨true, rfl, h⟩
 | f :: fs, n, T :: J, as, bs, k, K, z, H, h => by
  cases as with
  | nil => simp [aV] at z
  | cons a as =>
   cases bs with
   | nil => simp [aV] at H
   | cons b bs =>
    simp only [aV, yc] at z H
    simp only [zX, yc] at K
    obtain ⟨⟨⟨V, W⟩, Y⟩, U⟩ := K
    cases as with
    | nil =>
     cases bs with
     | nil =>
      simp only [kK] at h
      obtain ⟨q, O, hk⟩ := Ae z.1 H.1 Y h
      cases J with
      | cons => simp [aV] at z
      | nil =>
       cases fs with
       | cons => simp [zX] at U
       | nil => exact ⟨q, by simp [KV.downs, i6, guardB, V, W, O], hk⟩
     | cons Z bs => cases J <;> simp [aV] at z H
    | cons a' as =>
     cases bs with
     | nil => cases J <;> simp [aV] at z H
     | cons Z bs =>
      simp only [kK] at h
      obtain ⟨q, O, h⟩ := Ae z.1 H.1 Y h
      obtain ⟨q', N, h⟩ := v5 U z.2 H.2 h
      refine ⟨q && q', ?_, h⟩
      simp only [KV.downs] at N ⊢
      simp [i6, guardB, V, W, O, N]
 | [], n, T :: J, as, bs, k, K, z, H, h => by simp [zX] at K
 | f :: fs, n, [], as, bs, k, K, z, H, h => by simp [zX] at K
theorem CM {t : TypeId} (N : b9 P tab) (h : IE tab t = true) : vL P t = true := by
 unfold IE at h
 split at h
 ·rename_i ti H
  have z := (bX.of (N _ _ H)).tk
  unfold lF at z
  unfold vL
  split at h
  ·rename_i J
   rw [J] at z
   cases K : P.underlying t with
   | none => rw [K] at z; simp at z
   | some d => rw [K] at z; cases d <;> simp_all
  ·cases h
 ·cases h
theorem KU {op : BinOp} {t : TypeId} {a b : Value} (h : a = .slice none 0 0 → b = .slice none 0 0 → False) : oW P op t (.lit a) (.lit b) = guardB (CH P t a b) ((oK op a b).map .lit) := by
 unfold oW
 split <;> first | (rename_i z H; cases z; cases H; exact absurd rfl (fun _ => h rfl rfl)) | (simp_all; done)
theorem gX (ag : Bool) (T : Ty) (xs : List (den T)) : iU (gF ag T xs) = some xs.isEmpty := by
 cases h : f9 ag T with
 | true =>
  obtain ⟨rfl, k, rfl⟩ := aT.1 h
  rfl
 | false => rw [dB h]; simp [iU]
theorem IY (U : b9 P tab) {op : BinOp} {t : TypeId} {x y : KV} {k : KV → Option R} (h : Ms (aL R) tab op t x y k = some r) : ∃ v, oW P op t x.down y.down = some v.down ∧ k v = some r := by
 unfold Ms at h
 split at h
 ·rename_i β ag T xs
  rw [cK] at h
  obtain ⟨H, h⟩ := h
  have H := CM U H
  split at h
  ·simp only [real_ite] at h
   cases N : xs.isEmpty with
   | true => rw [N] at h; exact ⟨.unkB, by simp [oW, KV.down, guardB, H, gX, N], h⟩
   | false => rw [N] at h; exact ⟨.lit (.bool false), by simp [oW, KV.down, guardB, H, gX, N], h⟩
  ·simp only [real_ite] at h
   cases N : xs.isEmpty with
   | true => rw [N] at h; exact ⟨.unkB, by simp [oW, KV.down, guardB, H, gX, N], h⟩
   | false => rw [N] at h; exact ⟨.lit (.bool true), by simp [oW, KV.down, guardB, H, gX, N], h⟩
  ·cases h
 ·rw [cK] at h
  obtain ⟨H, h⟩ := h
  have H := CM U H
  split at h
  ·exact ⟨.lit (.bool true), by simp [oW, KV.down, guardB, H], h⟩
  ·exact ⟨.lit (.bool false), by simp [oW, KV.down, guardB, H], h⟩
  ·cases h
 ·rename_i a b hne
  obtain ⟨v, hv, O, hb⟩ := Ha h
  refine ⟨.lit v, ?_, O⟩
  rw [show KV.down (.lit a) = .lit a from rfl, show KV.down (.lit b) = .lit b from rfl, KU hne]
  simp only [KV.down, f8, hv, yn]
  refine ⟨?_, trivial⟩
  unfold CH
  split
  ·rename_i a b
   have := hb _ _ rfl rfl
   unfold IL at this
   split at this
   ·rename_i ti K
    have z := (bX.of (U _ _ K)).tk
    unfold lF at z
    unfold Ff
    split at this
    ·rename_i W
     rw [W] at z
     cases V : P.underlying t with
     | none => rw [V] at z; simp at z
     | some d => rw [V] at z; cases d <;> simp_all
    ·cases this
   ·cases this
  ·rfl
 ·rename_i a b
  split at h
  ·rename_i T Y
   rw [cK] at h
   obtain ⟨hg, h⟩ := h
   simp only [yc] at hg
   unfold eqTy? at Y
   split at Y
   ·rename_i ti K
    rw [cK] at Y
    obtain ⟨fs, T', V, hT', hs1, hs2, hc⟩ := (bX.of (U _ _ K)).eq Y.1
    rw [Y.2] at hT'
    obtain rfl := ya hT'
    have key : ∀ {k : Bool → Option R}, kK a b k = some r → ∃ q, kB P t (KV.downs a) (KV.downs b) = some q ∧ k q = some r := by
     intro k O
     obtain ⟨q, Z, O⟩ := v5 hc hg.1.2 hg.2 O
     refine ⟨q, ?_, O⟩
     unfold kB
     simp only [V, f8, yc]
     exact ⟨⟨hs1, hs2⟩, Z⟩
    split at h
    ·obtain ⟨q, Z, O⟩ := key h
     exact ⟨.lit (.bool q), by simp [oW, KV.down, Z], O⟩
    ·obtain ⟨q, Z, O⟩ := key h
     exact ⟨.lit (.bool (!q)), by simp [oW, KV.down, Z], O⟩
    ·cases h
   ·cases Y
  ·cases h
 ·rw [cK] at h
  obtain ⟨hp, h⟩ := h
  have J := isPtrK_some U hp
  split at h
  ·exact ⟨.lit (.bool false), by simp [oW, KV.down, guardB, J], h⟩
  ·exact ⟨.lit (.bool true), by simp [oW, KV.down, guardB, J], h⟩
  ·cases h
 ·rw [cK] at h
  obtain ⟨hp, h⟩ := h
  have J := isPtrK_some U hp
  split at h
  ·exact ⟨.lit (.bool false), by simp [oW, KV.down, guardB, J], h⟩
  ·exact ⟨.lit (.bool true), by simp [oW, KV.down, guardB, J], h⟩
  ·cases h
 ·cases h
 where
 isPtrK_some {t : TypeId} (U : b9 P tab) (h : HC tab t = true) : D9 P t = true := by
  unfold HC at h
  split at h
  ·rename_i ti K
   have z := (bX.of (U _ _ K)).tk
   unfold lF at z
   unfold D9
   split at h
   ·rename_i W
    rw [W] at z
    cases V : P.underlying t with
    | none => rw [V] at z; simp at z
    | some d => rw [V] at z; cases d <;> simp_all
   ·cases h
  ·cases h
theorem J8 {op : UnOp} {x : KV} {k : KV → Option R} (h : NF op x k = some r) : ∃ a v, x = .lit a ∧ Di op a = some v ∧ k (.lit v) = some r := by
 unfold NF at h
 split at h
 ·rename_i a
  split at h <;> first | cases h | exact ⟨_, _, rfl, rfl, h⟩
 ·cases h
theorem gT {len : Nat} {J H K : Option Int} {k : Nat → Nat → Option R} (h : lZ (aL R) len J H K k = some r) : ∃ b, gK len J H K = some b ∧ k b.1 b.2 = some r := by
 have z : ∀ {y d : Nat} {x : Option Int} {k : Nat → Option R}, wE (aL R) y x d k = some r → ∃ b, sW y x d = some b ∧ k b = some r := by
  intro y d x k h
  cases x with
  | none => exact ⟨d, rfl, h⟩
  | some i =>
   simp only [wE, real_guard, cK] at h
   exact ⟨i.toNat, by simp only [sW, f8]; exact ⟨h.1, trivial⟩, h.2⟩
 unfold lZ at h
 rw [cK] at h
 obtain ⟨U, h⟩ := h
 obtain ⟨m, V, h⟩ := z h
 obtain ⟨q, O, h⟩ := z h
 obtain ⟨l, N, h⟩ := z h
 exact ⟨(l, q), by simp [gK, guardB, U, V, O, N], h⟩
end
end Go.Ab
