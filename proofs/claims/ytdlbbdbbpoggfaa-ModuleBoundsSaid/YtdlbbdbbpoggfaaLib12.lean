import Derived.Test.YtdlbbdbbpoggfaaLib11
set_option linter.unusedVariables false
set_option linter.unusedSectionVars false
set_option linter.unusedSimpArgs false
namespace Go.Ab
variable [b4]
section
variable {P : Program} {R : Type} {r : R} {mem : aD} {tab : TypeId → Option TI}
theorem Du {t : TypeId} {H : TI} {T : Ty} {v : KV} {K : den T → Bool → List Nat → Option R} (ht : bU P t H) (hT : H.ty = some T) (h : L5 (aP R) mem H.ag T v K = some r) :
  ∃ x β l, K x β l = some r ∧ rP P (aB mem) t v.down = some (β, cT H.ag T x, l) := by
 unfold L5 at h
 rw [bR] at h
 obtain ⟨⟨ls, I, N⟩, hn, J, M⟩ := ht.ty T hT
 obtain ⟨x, β, l, hK, O⟩ := l8 N M h.2
 refine ⟨x, β, l, hK, ?_⟩
 unfold rP
 rw [I, ye, eH]
 rw [O]
 simp only [ye, pA ht.ag J, yg]
theorem Cn {t : TypeId} {H : TI} {T : Ty} (ht : bU P t H) (hT : H.ty = some T) : ∀ {vs : List KV} {K : List (den T) → Bool → List Nat → Option R}, HZ (aP R) mem H.ag T vs K = some r →
  ∃ xs β l, K xs β l = some r ∧ fY (rP P (aB mem) t) (KV.downs vs) = some (β, xs.map (cT H.ag T), l)
 | [], K, h => ⟨[], false, [], h, rfl⟩
 | v :: vs, K, h => by
  simp only [HZ] at h
  obtain ⟨x, β1, J, h, M⟩ := Du ht hT h
  obtain ⟨xs, β2, N, h, I⟩ := Cn ht hT h
  exact ⟨x :: xs, β1 || β2, J ++ N, h, by simp [KV.downs, fY, M, I]⟩
theorem AG {k : IntKind} : ∀ {vs : List KV} {xs : List Int}, Am k vs = some xs → fA k (KV.downs vs) = some xs
 | [], xs, h => by simp only [Am, Option.some.injEq] at h; subst h; rfl
 | v :: vs, xs, h => by
  unfold Am at h
  split at h
  ·rename_i H; cases H
  ·rename_i k' x r' H
   obtain ⟨rfl, rfl⟩ := yx H
   rw [bR] at h
   obtain ⟨J, h⟩ := h
   split at h
   ·rename_i ys I
    obtain rfl := ya h
    simp [KV.downs, KV.down, fA, J, AG I]
   ·cases h
  ·cases h
theorem JF {op : BinOp} {I H : IntKind} {a b : Int} {k : Value → Option R} (h : Ko (aP R) op I a H b k = some r) : ∃ v, pG op (.int I a) (.int H b) = some v ∧ k v = some r := by
 cases op <;> simp only [Ko, real_guard, bR] at h <;> simp only [pG, eB]
 all_goals first
  | exact ⟨_, ⟨h.1, h.2.1, rfl⟩, h.2.2⟩
  | exact ⟨_, ⟨h.1, rfl⟩, h.2⟩
  | exact ⟨_, ⟨h.1.1, h.1.2, rfl⟩, h.2⟩
theorem Ir {H : Bool} {op : BinOp} {x y : Value} {k : Value → Option R} (h : Ky (aP R) H op x y k = some r) : ∃ v, pG op x y = some v ∧ k v = some r ∧ (∀ a b, x = .bool a → y = .bool b → H = true) := by
 unfold Ky at h
 split at h
 ·obtain ⟨v, K, J⟩ := JF h
  exact ⟨v, K, J, fun _ _ h => by cases h⟩
 ·rename_i a b
  rw [bR] at h
  obtain ⟨I, h⟩ := h
  split at h <;> first | cases h | exact ⟨_, rfl, h, fun _ _ _ _ => I⟩
 ·rename_i a b
  split at h <;> first | cases h | exact ⟨_, rfl, h, fun _ _ h => by cases h⟩
 ·cases h
theorem Fo {k : IntKind} {a : KV} (h : iK (.int k) a = true) : ∃ H x, a = .lit (.int H x) := by
 cases a with
 | lit v => cases v <;> first | exact ⟨_, _, rfl⟩ | cases h
 | _ => cases h
theorem Bj {a : KV} (h : iK .bool a = true) : ∃ x, a = .lit (.bool x) := by
 cases a with
 | lit v => cases v <;> first | exact ⟨_, rfl⟩ | cases h
 | _ => cases h
theorem Fr {a : KV} (h : iK .str a = true) : ∃ x, a = .lit (.string x) := by
 cases a with
 | lit v => cases v <;> first | exact ⟨_, rfl⟩ | cases h
 | _ => cases h
theorem Ck {T : Ty} {t : TypeId} {a b : KV} {k : Bool → Option R} (K : iK T a = true) (M : iK T b = true)
  (ht : FD P t T = true) (h : CZ a b k = some r) : ∃ q, BI P t a.down b.down = some q ∧ k q = some r := by
 have H : (∃ I, T = .int I ∧ P.underlying t = some (.int I)) ∨ (T = .bool ∧ P.underlying t = some .bool) ∨ (T = .str ∧ P.underlying t = some .string) := by
  unfold FD at ht
  split at ht
  ·rename_i I H
   split at ht
   ·exact .inl ⟨I, by rw [rW.1 ht], H⟩
   ·cases ht
  ·rename_i H
   split at ht
   ·exact .inr (.inl ⟨rfl, H⟩)
   ·cases ht
  ·rename_i H
   split at ht
   ·exact .inr (.inr ⟨rfl, H⟩)
   ·cases ht
  ·cases ht
 rcases H with ⟨I, rfl, H⟩ | ⟨rfl, H⟩ | ⟨rfl, H⟩
 ·obtain ⟨J, x, rfl⟩ : ∃ J x, a = .lit (.int J x) := Fo K
  obtain ⟨kb, y, rfl⟩ : ∃ J x, b = .lit (.int J x) := Fo M
  simp only [CZ] at h
  rw [bR] at h
  exact ⟨x == y, by simp [BI, KV.down, H, guardB, h.1], h.2⟩
 ·obtain ⟨x, rfl⟩ : ∃ x, a = .lit (.bool x) := Bj K
  obtain ⟨y, rfl⟩ : ∃ x, b = .lit (.bool x) := Bj M
  exact ⟨x == y, by simp only [BI, KV.down, H], h⟩
 ·obtain ⟨x, rfl⟩ : ∃ x, a = .lit (.string x) := Fr K
  obtain ⟨y, rfl⟩ : ∃ x, b = .lit (.string x) := Fr M
  exact ⟨_, by simp only [BI, KV.down, H]; rfl, h⟩
theorem zV : ∀ {fs : List Field} {n : Nat} {J : List Ty} {as bs : List KV} {k : Bool → Option R}, B4 P fs n J = true → aQ J as = true → aQ J bs = true → mY as bs k = some r →
  ∃ q, kE P fs n (KV.downs as) (KV.downs bs) = some q ∧ k q = some r
 | [], n, [], as, bs, k, K, H, I, h => by
  cases as with
  | cons => simp [aQ] at H
  | nil =>
   cases bs with
   | cons => simp [aQ] at I
   | nil => exact ⟨true, rfl, h⟩
 | f :: fs, n, T :: J, as, bs, k, K, H, I, h => by
  cases as with
  | nil => simp [aQ] at H
  | cons a as =>
   cases bs with
   | nil => simp [aQ] at I
   | cons b bs =>
    simp only [aQ, yb] at H I
    simp only [B4, yb] at K
    obtain ⟨⟨⟨O, U⟩, W⟩, V⟩ := K
    cases as with
    | nil =>
     cases bs with
     | nil =>
      simp only [mY] at h
      obtain ⟨q, N, Y⟩ := Ck H.1 I.1 W h
      cases J with
      | cons => simp [aQ] at H
      | nil =>
       cases fs with
       | cons => simp [B4] at V
       | nil => exact ⟨q, by simp [KV.downs, kE, guardB, O, U, N], Y⟩
     | cons b' bs => cases J <;> simp [aQ] at H I
    | cons a' as =>
     cases bs with
     | nil => cases J <;> simp [aQ] at H I
     | cons b' bs =>
      simp only [mY] at h
      obtain ⟨q, N, h⟩ := Ck H.1 I.1 W h
      obtain ⟨Z, M, h⟩ := zV V H.2 I.2 h
      refine ⟨q && Z, ?_, h⟩
      simp only [KV.downs] at M ⊢
      simp [kE, guardB, O, U, N, M]
 | [], n, T :: J, as, bs, k, K, H, I, h => by simp [B4] at K
 | f :: fs, n, [], as, bs, k, K, H, I, h => by simp [B4] at K
theorem Ez {t : TypeId} (ht : bG P tab) (h : LH tab t = true) : zY P t = true := by
 unfold LH at h
 split at h
 ·rename_i ti I
  have H := (bU.of (ht _ _ I)).tk
  unfold m9 at H
  unfold zY
  split at h
  ·rename_i J
   rw [J] at H
   cases K : P.underlying t with
   | none => rw [K] at H; simp at H
   | some d => rw [K] at H; cases d <;> simp_all
  ·cases h
 ·cases h
theorem NH {op : BinOp} {t : TypeId} {a b : Value} (h : a = .slice none 0 0 → b = .slice none 0 0 → False) : rU P op t (.lit a) (.lit b) = guardB (Ej P t a b) ((pG op a b).map .lit) := by
 unfold rU
 split <;> first | (rename_i H I; cases H; cases I; exact absurd rfl (fun _ => h rfl rfl)) | (simp_all; done)
theorem jP (ag : Bool) (T : Ty) (xs : List (den T)) : j5 (dN ag T xs) = some xs.isEmpty := by
 cases h : gL ag T with
 | true =>
  obtain ⟨rfl, k, rfl⟩ := aK.1 h
  rfl
 | false => rw [bX h]; simp [j5]
theorem Me (ht : bG P tab) {op : BinOp} {t : TypeId} {x y : KV} {k : KV → Option R} (h : Ph (aP R) tab op t x y k = some r) : ∃ v, rU P op t x.down y.down = some v.down ∧ k v = some r := by
 unfold Ph at h
 split at h
 ·rename_i β ag T xs
  rw [bR] at h
  obtain ⟨hs, h⟩ := h
  have hs := Ez ht hs
  split at h
  ·simp only [real_ite] at h
   cases M : xs.isEmpty with
   | true => rw [M] at h; exact ⟨.unkB, by simp [rU, KV.down, guardB, hs, jP, M], h⟩
   | false => rw [M] at h; exact ⟨.lit (.bool false), by simp [rU, KV.down, guardB, hs, jP, M], h⟩
  ·simp only [real_ite] at h
   cases M : xs.isEmpty with
   | true => rw [M] at h; exact ⟨.unkB, by simp [rU, KV.down, guardB, hs, jP, M], h⟩
   | false => rw [M] at h; exact ⟨.lit (.bool true), by simp [rU, KV.down, guardB, hs, jP, M], h⟩
  ·cases h
 ·rw [bR] at h
  obtain ⟨hs, h⟩ := h
  have hs := Ez ht hs
  split at h
  ·exact ⟨.lit (.bool true), by simp [rU, KV.down, guardB, hs], h⟩
  ·exact ⟨.lit (.bool false), by simp [rU, KV.down, guardB, hs], h⟩
  ·cases h
 ·rename_i a b Y
  obtain ⟨v, hv, K, hb⟩ := Ir h
  refine ⟨.lit v, ?_, K⟩
  rw [show KV.down (.lit a) = .lit a from rfl, show KV.down (.lit b) = .lit b from rfl, NH Y]
  simp only [KV.down, eB, hv, yg]
  refine ⟨?_, trivial⟩
  unfold Ej
  split
  ·rename_i a b
   have := hb _ _ rfl rfl
   unfold L9 at this
   split at this
   ·rename_i ti I
    have H := (bU.of (ht _ _ I)).tk
    unfold m9 at H
    unfold Id
    split at this
    ·rename_i O
     rw [O] at H
     cases N : P.underlying t with
     | none => rw [N] at H; simp at H
     | some d => rw [N] at H; cases d <;> simp_all
    ·cases this
   ·cases this
  ·rfl
 ·rename_i a b
  split at h
  ·rename_i T hT
   rw [bR] at h
   obtain ⟨hg, h⟩ := h
   simp only [yb] at hg
   unfold eqTy? at hT
   split at hT
   ·rename_i ti I
    rw [bR] at hT
    obtain ⟨fs, T', N, U, hs1, hs2, hc⟩ := (bU.of (ht _ _ I)).eq hT.1
    rw [hT.2] at U
    obtain rfl := ya U
    have W : ∀ {k : Bool → Option R}, mY a b k = some r → ∃ q, mA P t (KV.downs a) (KV.downs b) = some q ∧ k q = some r := by
     intro k K
     obtain ⟨q, V, K⟩ := zV hc hg.1.2 hg.2 K
     refine ⟨q, ?_, K⟩
     unfold mA
     simp only [N, eB, yb]
     exact ⟨⟨hs1, hs2⟩, V⟩
    split at h
    ·obtain ⟨q, V, K⟩ := W h
     exact ⟨.lit (.bool q), by simp [rU, KV.down, V], K⟩
    ·obtain ⟨q, V, K⟩ := W h
     exact ⟨.lit (.bool (!q)), by simp [rU, KV.down, V], K⟩
    ·cases h
   ·cases hT
  ·cases h
 ·rw [bR] at h
  obtain ⟨Z, h⟩ := h
  have J := isPtrK_some ht Z
  split at h
  ·exact ⟨.lit (.bool false), by simp [rU, KV.down, guardB, J], h⟩
  ·exact ⟨.lit (.bool true), by simp [rU, KV.down, guardB, J], h⟩
  ·cases h
 ·rw [bR] at h
  obtain ⟨Z, h⟩ := h
  have J := isPtrK_some ht Z
  split at h
  ·exact ⟨.lit (.bool false), by simp [rU, KV.down, guardB, J], h⟩
  ·exact ⟨.lit (.bool true), by simp [rU, KV.down, guardB, J], h⟩
  ·cases h
 ·cases h
 where
 isPtrK_some {t : TypeId} (ht : bG P tab) (h : Kv tab t = true) : GG P t = true := by
  unfold Kv at h
  split at h
  ·rename_i ti I
   have H := (bU.of (ht _ _ I)).tk
   unfold m9 at H
   unfold GG
   split at h
   ·rename_i O
    rw [O] at H
    cases N : P.underlying t with
    | none => rw [N] at H; simp at H
    | some d => rw [N] at H; cases d <;> simp_all
   ·cases h
  ·cases h
theorem NF {op : UnOp} {x : KV} {k : KV → Option R} (h : P9 op x k = some r) : ∃ a v, x = .lit a ∧ GH op a = some v ∧ k (.lit v) = some r := by
 unfold P9 at h
 split at h
 ·rename_i a
  split at h <;> first | cases h | exact ⟨_, _, rfl, rfl, h⟩
 ·cases h
theorem fF {len : Nat} {J I K : Option Int} {k : Nat → Nat → Option R} (h : kL (aP R) len J I K k = some r) : ∃ b, fR len J I K = some b ∧ k b.1 b.2 = some r := by
 have H : ∀ {y d : Nat} {x : Option Int} {k : Nat → Option R}, AP (aP R) y x d k = some r → ∃ b, zI y x d = some b ∧ k b = some r := by
  intro y d x k h
  cases x with
  | none => exact ⟨d, rfl, h⟩
  | some i =>
   simp only [AP, real_guard, bR] at h
   exact ⟨i.toNat, by simp only [zI, eB]; exact ⟨h.1, trivial⟩, h.2⟩
 unfold kL at h
 rw [bR] at h
 obtain ⟨O, h⟩ := h
 obtain ⟨m, hm, h⟩ := H h
 obtain ⟨q, N, h⟩ := H h
 obtain ⟨l, M, h⟩ := H h
 exact ⟨(l, q), by simp [fR, guardB, O, hm, N, M], h⟩
end
end Go.Ab
