import Derived.Test.YtdlbbdbbpoggfaaLib11
set_option linter.unusedVariables false
set_option linter.unusedSectionVars false
set_option linter.unusedSimpArgs false
namespace Go.Ab
variable [b4]
section
variable {P : Program} {R : Type} {r : R} {mem : aD} {tab : TypeId → Option TI}
theorem Ed {t : TypeId} {H : TI} {T : Ty} {v : KV} {K : den T → Bool → List Nat → Option R} (ht : bV P t H) (hT : H.ty = some T) (h : LQ (aP R) mem H.ag T v K = some r) :
  ∃ x β l, K x β l = some r ∧ rQ P (aB mem) t v.down = some (β, cT H.ag T x, l) := by
 unfold LQ at h
 rw [bP] at h
 obtain ⟨⟨ls, I, O⟩, hn, J, M⟩ := ht.ty T hT
 obtain ⟨x, β, l, hK, N⟩ := l9 O M h.2
 refine ⟨x, β, l, hK, ?_⟩
 unfold rQ
 rw [I, ye, eG]
 rw [N]
 simp only [ye, oV ht.ag J, yg]
theorem Cl {t : TypeId} {H : TI} {T : Ty} (ht : bV P t H) (hT : H.ty = some T) : ∀ {vs : List KV} {K : List (den T) → Bool → List Nat → Option R}, HG (aP R) mem H.ag T vs K = some r →
  ∃ xs β l, K xs β l = some r ∧ f0 (rQ P (aB mem) t) (KV.downs vs) = some (β, xs.map (cT H.ag T), l)
 | [], K, h => ⟨[], false, [], h, rfl⟩
 | v :: vs, K, h => by
  simp only [HG] at h
  obtain ⟨x, β1, N, h, J⟩ := Ed ht hT h
  obtain ⟨xs, β2, M, h, I⟩ := Cl ht hT h
  exact ⟨x :: xs, β1 || β2, N ++ M, h, by simp [KV.downs, f0, J, I]⟩
theorem z7 {k : IntKind} : ∀ {vs : List KV} {xs : List Int}, AU k vs = some xs → e5 k (KV.downs vs) = some xs
 | [], xs, h => by simp only [AU, Option.some.injEq] at h; subst h; rfl
 | v :: vs, xs, h => by
  unfold AU at h
  split at h
  ·rename_i H; cases H
  ·rename_i k' x r' H
   obtain ⟨rfl, rfl⟩ := yx H
   rw [bP] at h
   obtain ⟨I, h⟩ := h
   split at h
   ·rename_i ys J
    obtain rfl := ya h
    simp [KV.downs, KV.down, e5, I, z7 J]
   ·cases h
  ·cases h
theorem Iz {op : BinOp} {I H : IntKind} {a b : Int} {k : Value → Option R} (h : Ld (aP R) op I a H b k = some r) : ∃ v, pP op (.int I a) (.int H b) = some v ∧ k v = some r := by
 cases op <;> simp only [Ld, real_guard, bP] at h <;> simp only [pP, d9]
 all_goals first
  | exact ⟨_, ⟨h.1, h.2.1, rfl⟩, h.2.2⟩
  | exact ⟨_, ⟨h.1, rfl⟩, h.2⟩
  | exact ⟨_, ⟨h.1.1, h.1.2, rfl⟩, h.2⟩
theorem I8 {H : Bool} {op : BinOp} {x y : Value} {k : Value → Option R} (h : KH (aP R) H op x y k = some r) : ∃ v, pP op x y = some v ∧ k v = some r ∧ (∀ a b, x = .bool a → y = .bool b → H = true) := by
 unfold KH at h
 split at h
 ·obtain ⟨v, K, J⟩ := Iz h
  exact ⟨v, K, J, fun _ _ h => by cases h⟩
 ·rename_i a b
  rw [bP] at h
  obtain ⟨I, h⟩ := h
  split at h <;> first | cases h | exact ⟨_, rfl, h, fun _ _ _ _ => I⟩
 ·rename_i a b
  split at h <;> first | cases h | exact ⟨_, rfl, h, fun _ _ h => by cases h⟩
 ·cases h
theorem D7 {k : IntKind} {a : KV} (h : iL (.int k) a = true) : ∃ H x, a = .lit (.int H x) := by
 cases a with
 | lit v => cases v <;> first | exact ⟨_, _, rfl⟩ | cases h
 | _ => cases h
theorem BA {a : KV} (h : iL .bool a = true) : ∃ x, a = .lit (.bool x) := by
 cases a with
 | lit v => cases v <;> first | exact ⟨_, rfl⟩ | cases h
 | _ => cases h
theorem Eg {a : KV} (h : iL .str a = true) : ∃ x, a = .lit (.string x) := by
 cases a with
 | lit v => cases v <;> first | exact ⟨_, rfl⟩ | cases h
 | _ => cases h
theorem Cr {T : Ty} {t : TypeId} {a b : KV} {k : Bool → Option R} (M : iL T a = true) (K : iL T b = true)
  (ht : D3 P t T = true) (h : Df a b k = some r) : ∃ q, Br P t a.down b.down = some q ∧ k q = some r := by
 have H : (∃ I, T = .int I ∧ P.underlying t = some (.int I)) ∨ (T = .bool ∧ P.underlying t = some .bool) ∨ (T = .str ∧ P.underlying t = some .string) := by
  unfold D3 at ht
  split at ht
  ·rename_i I H
   split at ht
   ·exact .inl ⟨I, by rw [rW.1 ht], H⟩
   ·cases ht
  ·rename_i H
   split at ht
   ·exact .inr (.inl ⟨rfl, H⟩)
   ·cases ht
  ·rename_i H
   split at ht
   ·exact .inr (.inr ⟨rfl, H⟩)
   ·cases ht
  ·cases ht
 rcases H with ⟨I, rfl, H⟩ | ⟨rfl, H⟩ | ⟨rfl, H⟩
 ·obtain ⟨J, x, rfl⟩ : ∃ J x, a = .lit (.int J x) := D7 M
  obtain ⟨kb, y, rfl⟩ : ∃ J x, b = .lit (.int J x) := D7 K
  simp only [Df] at h
  rw [bP] at h
  exact ⟨x == y, by simp [Br, KV.down, H, guardB, h.1], h.2⟩
 ·obtain ⟨x, rfl⟩ : ∃ x, a = .lit (.bool x) := BA M
  obtain ⟨y, rfl⟩ : ∃ x, b = .lit (.bool x) := BA K
  exact ⟨x == y, by simp only [Br, KV.down, H], h⟩
 ·obtain ⟨x, rfl⟩ : ∃ x, a = .lit (.string x) := Eg M
  obtain ⟨y, rfl⟩ : ∃ x, b = .lit (.string x) := Eg K
  exact ⟨_, by simp only [Br, KV.down, H]; rfl, h⟩
theorem Ay : ∀ {fs : List Field} {n : Nat} {J : List Ty} {as bs : List KV} {k : Bool → Option R}, CC P fs n J = true → aQ J as = true → aQ J bs = true → mR as bs k = some r →
  ∃ q, kE P fs n (KV.downs as) (KV.downs bs) = some q ∧ k q = some r
 | [], n, [], as, bs, k, K, H, I, h => by
  cases as with
  | cons => simp [aQ] at H
  | nil =>
   cases bs with
   | cons => simp [aQ] at I
   | nil => exact ⟨true, rfl, h⟩
 | f :: fs, n, T :: J, as, bs, k, K, H, I, h => by
  cases as with
  | nil => simp [aQ] at H
  | cons a as =>
   cases bs with
   | nil => simp [aQ] at I
   | cons b bs =>
    simp only [aQ, yb] at H I
    simp only [CC, yb] at K
    obtain ⟨⟨⟨U, V⟩, W⟩, O⟩ := K
    cases as with
    | nil =>
     cases bs with
     | nil =>
      simp only [mR] at h
      obtain ⟨q, N, Y⟩ := Cr H.1 I.1 W h
      cases J with
      | cons => simp [aQ] at H
      | nil =>
       cases fs with
       | cons => simp [CC] at O
       | nil => exact ⟨q, by simp [KV.downs, kE, guardB, U, V, N], Y⟩
     | cons b' bs => cases J <;> simp [aQ] at H I
    | cons a' as =>
     cases bs with
     | nil => cases J <;> simp [aQ] at H I
     | cons b' bs =>
      simp only [mR] at h
      obtain ⟨q, N, h⟩ := Cr H.1 I.1 W h
      obtain ⟨Z, M, h⟩ := Ay O H.2 I.2 h
      refine ⟨q && Z, ?_, h⟩
      simp only [KV.downs] at M ⊢
      simp [kE, guardB, U, V, N, M]
 | [], n, T :: J, as, bs, k, K, H, I, h => by simp [CC] at K
 | f :: fs, n, [], as, bs, k, K, H, I, h => by simp [CC] at K
theorem En {t : TypeId} (ht : bI P tab) (h : Lt tab t = true) : zU P t = true := by
 unfold Lt at h
 split at h
 ·rename_i ti I
  have H := (bV.of (ht _ _ I)).tk
  unfold nJ at H
  unfold zU
  split at h
  ·rename_i J
   rw [J] at H
   cases K : P.underlying t with
   | none => rw [K] at H; simp at H
   | some d => rw [K] at H; cases d <;> simp_all
  ·cases h
 ·cases h
theorem Nm {op : BinOp} {t : TypeId} {a b : Value} (h : a = .slice none 0 0 → b = .slice none 0 0 → False) : rO P op t (.lit a) (.lit b) = guardB (Em P t a b) ((pP op a b).map .lit) := by
 unfold rO
 split <;> first | (rename_i H I; cases H; cases I; exact absurd rfl (fun _ => h rfl rfl)) | (simp_all; done)
theorem jM (ag : Bool) (T : Ty) (xs : List (den T)) : kB (dL ag T xs) = some xs.isEmpty := by
 cases h : gL ag T with
 | true =>
  obtain ⟨rfl, k, rfl⟩ := aK.1 h
  rfl
 | false => rw [bX h]; simp [kB]
theorem MK (ht : bI P tab) {op : BinOp} {t : TypeId} {x y : KV} {k : KV → Option R} (h : Pj (aP R) tab op t x y k = some r) : ∃ v, rO P op t x.down y.down = some v.down ∧ k v = some r := by
 unfold Pj at h
 split at h
 ·rename_i β ag T xs
  rw [bP] at h
  obtain ⟨hs, h⟩ := h
  have hs := En ht hs
  split at h
  ·simp only [real_ite] at h
   cases K : xs.isEmpty with
   | true => rw [K] at h; exact ⟨.unkB, by simp [rO, KV.down, guardB, hs, jM, K], h⟩
   | false => rw [K] at h; exact ⟨.lit (.bool false), by simp [rO, KV.down, guardB, hs, jM, K], h⟩
  ·simp only [real_ite] at h
   cases K : xs.isEmpty with
   | true => rw [K] at h; exact ⟨.unkB, by simp [rO, KV.down, guardB, hs, jM, K], h⟩
   | false => rw [K] at h; exact ⟨.lit (.bool true), by simp [rO, KV.down, guardB, hs, jM, K], h⟩
  ·cases h
 ·rw [bP] at h
  obtain ⟨hs, h⟩ := h
  have hs := En ht hs
  split at h
  ·exact ⟨.lit (.bool true), by simp [rO, KV.down, guardB, hs], h⟩
  ·exact ⟨.lit (.bool false), by simp [rO, KV.down, guardB, hs], h⟩
  ·cases h
 ·rename_i a b hne
  obtain ⟨v, hv, M, hb⟩ := I8 h
  refine ⟨.lit v, ?_, M⟩
  rw [show KV.down (.lit a) = .lit a from rfl, show KV.down (.lit b) = .lit b from rfl, Nm hne]
  simp only [KV.down, d9, hv, yg]
  refine ⟨?_, trivial⟩
  unfold Em
  split
  ·rename_i a b
   have := hb _ _ rfl rfl
   unfold LU at this
   split at this
   ·rename_i ti J
    have H := (bV.of (ht _ _ J)).tk
    unfold nJ at H
    unfold Id
    split at this
    ·rename_i O
     rw [O] at H
     cases N : P.underlying t with
     | none => rw [N] at H; simp at H
     | some d => rw [N] at H; cases d <;> simp_all
    ·cases this
   ·cases this
  ·rfl
 ·rename_i a b
  split at h
  ·rename_i T hT
   rw [bP] at h
   obtain ⟨hg, h⟩ := h
   simp only [yb] at hg
   unfold eqTy? at hT
   split at hT
   ·rename_i ti J
    rw [bP] at hT
    obtain ⟨fs, T', N, W, Y, Z, hc⟩ := (bV.of (ht _ _ J)).eq hT.1
    rw [hT.2] at W
    obtain rfl := ya W
    have V : ∀ {k : Bool → Option R}, mR a b k = some r → ∃ q, mA P t (KV.downs a) (KV.downs b) = some q ∧ k q = some r := by
     intro k M
     obtain ⟨q, U, M⟩ := Ay hc hg.1.2 hg.2 M
     refine ⟨q, ?_, M⟩
     unfold mA
     simp only [N, d9, yb]
     exact ⟨⟨Y, Z⟩, U⟩
    split at h
    ·obtain ⟨q, U, M⟩ := V h
     exact ⟨.lit (.bool q), by simp [rO, KV.down, U], M⟩
    ·obtain ⟨q, U, M⟩ := V h
     exact ⟨.lit (.bool (!q)), by simp [rO, KV.down, U], M⟩
    ·cases h
   ·cases hT
  ·cases h
 ·rw [bP] at h
  obtain ⟨hp, h⟩ := h
  have I := isPtrK_some ht hp
  split at h
  ·exact ⟨.lit (.bool false), by simp [rO, KV.down, guardB, I], h⟩
  ·exact ⟨.lit (.bool true), by simp [rO, KV.down, guardB, I], h⟩
  ·cases h
 ·rw [bP] at h
  obtain ⟨hp, h⟩ := h
  have I := isPtrK_some ht hp
  split at h
  ·exact ⟨.lit (.bool false), by simp [rO, KV.down, guardB, I], h⟩
  ·exact ⟨.lit (.bool true), by simp [rO, KV.down, guardB, I], h⟩
  ·cases h
 ·cases h
 where
 isPtrK_some {t : TypeId} (ht : bI P tab) (h : Lc tab t = true) : Gc P t = true := by
  unfold Lc at h
  split at h
  ·rename_i ti J
   have H := (bV.of (ht _ _ J)).tk
   unfold nJ at H
   unfold Gc
   split at h
   ·rename_i O
    rw [O] at H
    cases N : P.underlying t with
    | none => rw [N] at H; simp at H
    | some d => rw [N] at H; cases d <;> simp_all
   ·cases h
  ·cases h
theorem NL {op : UnOp} {x : KV} {k : KV → Option R} (h : P7 op x k = some r) : ∃ a v, x = .lit a ∧ GC op a = some v ∧ k (.lit v) = some r := by
 unfold P7 at h
 split at h
 ·rename_i a
  split at h <;> first | cases h | exact ⟨_, _, rfl, rfl, h⟩
 ·cases h
theorem fE {len : Nat} {I J K : Option Int} {k : Nat → Nat → Option R} (h : kG (aP R) len I J K k = some r) : ∃ b, fU len I J K = some b ∧ k b.1 b.2 = some r := by
 have H : ∀ {y d : Nat} {x : Option Int} {k : Nat → Option R}, zV (aP R) y x d k = some r → ∃ b, zP y x d = some b ∧ k b = some r := by
  intro y d x k h
  cases x with
  | none => exact ⟨d, rfl, h⟩
  | some i =>
   simp only [zV, real_guard, bP] at h
   exact ⟨i.toNat, by simp only [zP, d9]; exact ⟨h.1, trivial⟩, h.2⟩
 unfold kG at h
 rw [bP] at h
 obtain ⟨O, h⟩ := h
 obtain ⟨m, hm, h⟩ := H h
 obtain ⟨q, M, h⟩ := H h
 obtain ⟨l, N, h⟩ := H h
 exact ⟨(l, q), by simp [fU, guardB, O, hm, M, N], h⟩
end
end Go.Ab
