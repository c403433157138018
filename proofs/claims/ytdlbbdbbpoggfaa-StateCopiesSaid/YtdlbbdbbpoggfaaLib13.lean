import Derived.Test.YtdlbbdbbpoggfaaLib12
set_option linter.unusedVariables false
set_option linter.unusedSectionVars false
set_option linter.unusedSimpArgs false
namespace Go.Ab
variable [GTab]
section
variable {P : Program} {R : Type} {r : R} {mem : KMem} {tab : TypeId → Option TI}
theorem zhJ {t : TypeId} {ti : TI} {T : Ty} {v : KV} {K : den T → Bool → List Nat → Option R} (ht : TIok P t ti) (hT : ti.ty = some T) (h : toDen (real R) mem ti.ag T v K = some r) :
  ∃ x β l, K x β l = some r ∧ toPV P (kdown mem) t v.down = some (β, pvEl ti.ag T x, l) := by
 unfold toDen at h
 rw [cds] at h
 obtain ⟨⟨ls, hls, hc⟩, hn, hag, hd⟩ := ht.ty T hT
 obtain ⟨x, β, l, hK, hz⟩ := zby hc hd h.2
 refine ⟨x, β, l, hK, ?_⟩
 unfold toPV
 rw [hls, yc, zW]
 rw [hz]
 simp only [yc, zcE ht.ag hag, yk]
theorem zgV {t : TypeId} {ti : TI} {T : Ty} (ht : TIok P t ti) (hT : ti.ty = some T) : ∀ {vs : List KV} {K : List (den T) → Bool → List Nat → Option R}, toDens (real R) mem ti.ag T vs K = some r →
  ∃ xs β l, K xs β l = some r ∧ foldEls (toPV P (kdown mem) t) (KV.downs vs) = some (β, xs.map (pvEl ti.ag T), l)
 | [], K, h => ⟨[], false, [], h, rfl⟩
 | v :: vs, K, h => by
  simp only [toDens] at h
  obtain ⟨x, β1, l1, h, hx⟩ := zhJ ht hT h
  obtain ⟨xs, β2, l2, h, hxs⟩ := zgV ht hT h
  exact ⟨x :: xs, β1 || β2, l1 ++ l2, h, by simp [KV.downs, foldEls, hx, hxs]⟩
theorem zfN {k : IntKind} : ∀ {vs : List KV} {xs : List Int}, intsOfK k vs = some xs → intsOf k (KV.downs vs) = some xs
 | [], xs, h => by simp only [intsOfK, Option.some.injEq] at h; subst h; rfl
 | v :: vs, xs, h => by
  unfold intsOfK at h
  split at h
  ·rename_i heq; cases heq
  ·rename_i k' x r' heq
   obtain ⟨rfl, rfl⟩ := yz heq
   rw [cds] at h
   obtain ⟨hk, h⟩ := h
   split at h
   ·rename_i ys hy
    obtain rfl := ya h
    simp [KV.downs, KV.down, intsOf, hk, zfN hy]
   ·cases h
  ·cases h
theorem zmf {op : BinOp} {ka kb : IntKind} {a b : Int} {k : Value → Option R} (h : binInt (real R) op ka a kb b k = some r) : ∃ v, litBin op (.int ka a) (.int kb b) = some v ∧ k v = some r := by
 cases op <;> simp only [binInt, real_guard, cds] at h <;> simp only [litBin, gds]
 all_goals first
  | exact ⟨_, ⟨h.1, h.2.1, rfl⟩, h.2.2⟩
  | exact ⟨_, ⟨h.1, rfl⟩, h.2⟩
  | exact ⟨_, ⟨h.1.1, h.1.2, rfl⟩, h.2⟩
theorem zlD {ib : Bool} {op : BinOp} {x y : Value} {k : Value → Option R} (h : binLit (real R) ib op x y k = some r) : ∃ v, litBin op x y = some v ∧ k v = some r ∧ (∀ a b, x = .bool a → y = .bool b → ib = true) := by
 unfold binLit at h
 split at h
 ·obtain ⟨v, hv, hk⟩ := zmf h
  exact ⟨v, hv, hk, fun _ _ h => by cases h⟩
 ·rename_i a b
  rw [cds] at h
  obtain ⟨hb, h⟩ := h
  split at h <;> first | cases h | exact ⟨_, rfl, h, fun _ _ _ _ => hb⟩
 ·rename_i a b
  split at h <;> first | cases h | exact ⟨_, rfl, h, fun _ _ h => by cases h⟩
 ·cases h
theorem zif {k : IntKind} {a : KV} (h : leafOkK (.int k) a = true) : ∃ ka x, a = .lit (.int ka x) := by
 cases a with
 | lit v => cases v <;> first | exact ⟨_, _, rfl⟩ | cases h
 | _ => cases h
theorem zgg {a : KV} (h : leafOkK .bool a = true) : ∃ x, a = .lit (.bool x) := by
 cases a with
 | lit v => cases v <;> first | exact ⟨_, rfl⟩ | cases h
 | _ => cases h
theorem ziT {a : KV} (h : leafOkK .str a = true) : ∃ x, a = .lit (.string x) := by
 cases a with
 | lit v => cases v <;> first | exact ⟨_, rfl⟩ | cases h
 | _ => cases h
theorem zgM {T : Ty} {t : TypeId} {a b : KV} {k : Bool → Option R} (ha : leafOkK T a = true) (hb : leafOkK T b = true)
  (ht : chkField P t T = true) (h : eqCellK a b k = some r) : ∃ q, eqCell P t a.down b.down = some q ∧ k q = some r := by
 have hu : (∃ kk, T = .int kk ∧ P.underlying t = some (.int kk)) ∨ (T = .bool ∧ P.underlying t = some .bool) ∨ (T = .str ∧ P.underlying t = some .string) := by
  unfold chkField at ht
  split at ht
  ·rename_i kk hu
   split at ht
   ·exact .inl ⟨kk, by rw [keq.1 ht], hu⟩
   ·cases ht
  ·rename_i hu
   split at ht
   ·exact .inr (.inl ⟨rfl, hu⟩)
   ·cases ht
  ·rename_i hu
   split at ht
   ·exact .inr (.inr ⟨rfl, hu⟩)
   ·cases ht
  ·cases ht
 rcases hu with ⟨kk, rfl, hu⟩ | ⟨rfl, hu⟩ | ⟨rfl, hu⟩
 ·obtain ⟨ka, x, rfl⟩ : ∃ ka x, a = .lit (.int ka x) := zif ha
  obtain ⟨kb, y, rfl⟩ : ∃ ka x, b = .lit (.int ka x) := zif hb
  simp only [eqCellK] at h
  rw [cds] at h
  exact ⟨x == y, by simp [eqCell, KV.down, hu, guardB, h.1], h.2⟩
 ·obtain ⟨x, rfl⟩ : ∃ x, a = .lit (.bool x) := zgg ha
  obtain ⟨y, rfl⟩ : ∃ x, b = .lit (.bool x) := zgg hb
  exact ⟨x == y, by simp only [eqCell, KV.down, hu], h⟩
 ·obtain ⟨x, rfl⟩ : ∃ x, a = .lit (.string x) := ziT ha
  obtain ⟨y, rfl⟩ : ∃ x, b = .lit (.string x) := ziT hb
  exact ⟨_, by simp only [eqCell, KV.down, hu]; rfl, h⟩
theorem zfm : ∀ {fs : List Field} {n : Nat} {Ts : List Ty} {as bs : List KV} {k : Bool → Option R}, chkEq P fs n Ts = true → leavesOkK Ts as = true → leavesOkK Ts bs = true → eqCellsK as bs k = some r →
  ∃ q, eqCells P fs n (KV.downs as) (KV.downs bs) = some q ∧ k q = some r
 | [], n, [], as, bs, k, hc, ha, hb, h => by
  cases as with
  | cons => simp [leavesOkK] at ha
  | nil =>
   cases bs with
   | cons => simp [leavesOkK] at hb
   | nil => exact ⟨true, rfl, h⟩
 | f :: fs, n, T :: Ts, as, bs, k, hc, ha, hb, h => by
  cases as with
  | nil => simp [leavesOkK] at ha
  | cons a as =>
   cases bs with
   | nil => simp [leavesOkK] at hb
   | cons b bs =>
    simp only [leavesOkK, yb] at ha hb
    simp only [chkEq, yb] at hc
    obtain ⟨⟨⟨h1, h2⟩, h3⟩, h4⟩ := hc
    cases as with
    | nil =>
     cases bs with
     | nil =>
      simp only [eqCellsK] at h
      obtain ⟨q, hq, hk⟩ := zgM ha.1 hb.1 h3 h
      cases Ts with
      | cons => simp [leavesOkK] at ha
      | nil =>
       cases fs with
       | cons => simp [chkEq] at h4
       | nil => exact ⟨q, by simp [KV.downs, eqCells, guardB, h1, h2, hq], hk⟩
     | cons b' bs => cases Ts <;> simp [leavesOkK] at ha hb
    | cons a' as =>
     cases bs with
     | nil => cases Ts <;> simp [leavesOkK] at ha hb
     | cons b' bs =>
      simp only [eqCellsK] at h
      obtain ⟨q, hq, h⟩ := zgM ha.1 hb.1 h3 h
      obtain ⟨q', hq', h⟩ := zfm h4 ha.2 hb.2 h
      refine ⟨q && q', ?_, h⟩
      simp only [KV.downs] at hq' ⊢
      simp [eqCells, guardB, h1, h2, hq, hq']
 | [], n, T :: Ts, as, bs, k, hc, ha, hb, h => by simp [chkEq] at hc
 | f :: fs, n, [], as, bs, k, hc, ha, hb, h => by simp [chkEq] at hc
theorem ziw {t : TypeId} (ht : TabOK P tab) (h : isSlK tab t = true) : isSlT P t = true := by
 unfold isSlK at h
 split at h
 ·rename_i ti hti
  have htk := (TIok.of (ht _ _ hti)).tk
  unfold chkTK at htk
  unfold isSlT
  split at h
  ·rename_i hk'
   rw [hk'] at htk
   cases hu : P.underlying t with
   | none => rw [hu] at htk; simp at htk
   | some d => rw [hu] at htk; cases d <;> simp_all
  ·cases h
 ·cases h
theorem zpB {op : BinOp} {t : TypeId} {a b : Value} (h : a = .slice none 0 0 → b = .slice none 0 0 → False) : binA P op t (.lit a) (.lit b) = guardB (litsOk P t a b) ((litBin op a b).map .lit) := by
 unfold binA
 split <;> first | (rename_i h1 h2; cases h1; cases h2; exact absurd rfl (fun _ => h rfl rfl)) | (simp_all; done)
theorem zaP (ag : Bool) (T : Ty) (xs : List (den T)) : emptyTree (pvSl ag T xs) = some xs.isEmpty := by
 cases h : intsRow ag T with
 | true =>
  obtain ⟨rfl, k, rfl⟩ := zc.1 h
  rfl
 | false => rw [zo h]; simp [emptyTree]
theorem zoh (ht : TabOK P tab) {op : BinOp} {t : TypeId} {x y : KV} {k : KV → Option R} (h : binK (real R) tab op t x y k = some r) : ∃ v, binA P op t x.down y.down = some v.down ∧ k v = some r := by
 unfold binK at h
 split at h
 ·rename_i β ag T xs
  rw [cds] at h
  obtain ⟨hs, h⟩ := h
  have hs := ziw ht hs
  split at h
  ·simp only [real_ite] at h
   cases he : xs.isEmpty with
   | true => rw [he] at h; exact ⟨.unkB, by simp [binA, KV.down, guardB, hs, zaP, he], h⟩
   | false => rw [he] at h; exact ⟨.lit (.bool false), by simp [binA, KV.down, guardB, hs, zaP, he], h⟩
  ·simp only [real_ite] at h
   cases he : xs.isEmpty with
   | true => rw [he] at h; exact ⟨.unkB, by simp [binA, KV.down, guardB, hs, zaP, he], h⟩
   | false => rw [he] at h; exact ⟨.lit (.bool true), by simp [binA, KV.down, guardB, hs, zaP, he], h⟩
  ·cases h
 ·rw [cds] at h
  obtain ⟨hs, h⟩ := h
  have hs := ziw ht hs
  split at h
  ·exact ⟨.lit (.bool true), by simp [binA, KV.down, guardB, hs], h⟩
  ·exact ⟨.lit (.bool false), by simp [binA, KV.down, guardB, hs], h⟩
  ·cases h
 ·rename_i a b hne
  obtain ⟨v, hv, hk, hb⟩ := zlD h
  refine ⟨.lit v, ?_, hk⟩
  rw [show KV.down (.lit a) = .lit a from rfl, show KV.down (.lit b) = .lit b from rfl, zpB hne]
  simp only [KV.down, gds, hv, yk]
  refine ⟨?_, trivial⟩
  unfold litsOk
  split
  ·rename_i a b
   have := hb _ _ rfl rfl
   unfold isBoolK at this
   split at this
   ·rename_i ti hti
    have htk := (TIok.of (ht _ _ hti)).tk
    unfold chkTK at htk
    unfold isBoolT
    split at this
    ·rename_i hk'
     rw [hk'] at htk
     cases hu : P.underlying t with
     | none => rw [hu] at htk; simp at htk
     | some d => rw [hu] at htk; cases d <;> simp_all
    ·cases this
   ·cases this
  ·rfl
 ·rename_i a b
  split at h
  ·rename_i T hT
   rw [cds] at h
   obtain ⟨hg, h⟩ := h
   simp only [yb] at hg
   unfold eqTy? at hT
   split at hT
   ·rename_i ti hti
    rw [cds] at hT
    obtain ⟨fs, T', hu, hT', hs1, hs2, hc⟩ := (TIok.of (ht _ _ hti)).eq hT.1
    rw [hT.2] at hT'
    obtain rfl := ya hT'
    have key : ∀ {k : Bool → Option R}, eqCellsK a b k = some r → ∃ q, eqStructs P t (KV.downs a) (KV.downs b) = some q ∧ k q = some r := by
     intro k hk
     obtain ⟨q, hq, hk⟩ := zfm hc hg.1.2 hg.2 hk
     refine ⟨q, ?_, hk⟩
     unfold eqStructs
     simp only [hu, gds, yb]
     exact ⟨⟨hs1, hs2⟩, hq⟩
    split at h
    ·obtain ⟨q, hq, hk⟩ := key h
     exact ⟨.lit (.bool q), by simp [binA, KV.down, hq], hk⟩
    ·obtain ⟨q, hq, hk⟩ := key h
     exact ⟨.lit (.bool (!q)), by simp [binA, KV.down, hq], hk⟩
    ·cases h
   ·cases hT
  ·cases h
 ·rw [cds] at h
  obtain ⟨hp, h⟩ := h
  have hp' := isPtrK_some ht hp
  split at h
  ·exact ⟨.lit (.bool false), by simp [binA, KV.down, guardB, hp'], h⟩
  ·exact ⟨.lit (.bool true), by simp [binA, KV.down, guardB, hp'], h⟩
  ·cases h
 ·rw [cds] at h
  obtain ⟨hp, h⟩ := h
  have hp' := isPtrK_some ht hp
  split at h
  ·exact ⟨.lit (.bool false), by simp [binA, KV.down, guardB, hp'], h⟩
  ·exact ⟨.lit (.bool true), by simp [binA, KV.down, guardB, hp'], h⟩
  ·cases h
 ·cases h
 where
 isPtrK_some {t : TypeId} (ht : TabOK P tab) (h : isPtrK tab t = true) : isPtr P t = true := by
  unfold isPtrK at h
  split at h
  ·rename_i ti hti
   have htk := (TIok.of (ht _ _ hti)).tk
   unfold chkTK at htk
   unfold isPtr
   split at h
   ·rename_i hk'
    rw [hk'] at htk
    cases hu : P.underlying t with
    | none => rw [hu] at htk; simp at htk
    | some d => rw [hu] at htk; cases d <;> simp_all
   ·cases h
  ·cases h
theorem zpM {op : UnOp} {x : KV} {k : KV → Option R} (h : unK op x k = some r) : ∃ a v, x = .lit a ∧ litUn op a = some v ∧ k (.lit v) = some r := by
 unfold unK at h
 split at h
 ·rename_i a
  split at h <;> first | cases h | exact ⟨_, _, rfl, rfl, h⟩
 ·cases h
theorem zai {len : Nat} {lo hi mx : Option Int} {k : Nat → Nat → Option R} (h : boundsK (real R) len lo hi mx k = some r) : ∃ b, bounds len lo hi mx = some b ∧ k b.1 b.2 = some r := by
 have h1 : ∀ {y d : Nat} {x : Option Int} {k : Nat → Option R}, bound1K (real R) y x d k = some r → ∃ b, bound1 y x d = some b ∧ k b = some r := by
  intro y d x k h
  cases x with
  | none => exact ⟨d, rfl, h⟩
  | some i =>
   simp only [bound1K, real_guard, cds] at h
   exact ⟨i.toNat, by simp only [bound1, gds]; exact ⟨h.1, trivial⟩, h.2⟩
 unfold boundsK at h
 rw [cds] at h
 obtain ⟨hg, h⟩ := h
 obtain ⟨m, hm, h⟩ := h1 h
 obtain ⟨q, hq, h⟩ := h1 h
 obtain ⟨l, hl, h⟩ := h1 h
 exact ⟨(l, q), by simp [bounds, guardB, hg, hm, hq, hl], h⟩
end
end Go.Ab
