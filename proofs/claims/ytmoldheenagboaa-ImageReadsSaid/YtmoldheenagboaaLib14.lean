import Derived.Test.YtmoldheenagboaaLib13
set_option linter.unusedVariables false
set_option linter.unusedSectionVars false
set_option linter.unusedSimpArgs false
namespace Go.Ab
variable [b8]
section
variable {P : Program} {R : Type} {r : R} {mem : aO} {tab : TypeId → Option TI}
def qB (β : Bool) (v : KV) (q : PV) : Prop :=
 (∃ k n, v = .lit (.int k n) ∧ q = .lit (.int k n)) ∨ (∃ b, v = .lit (.bool b) ∧ q = .lit (.bool b)) ∨ (∃ s, v = .lit (.string s) ∧ q = .lit (.string s)) ∨ (∃ ag T xs, v = .tsl β ag T xs ∧ q = gF ag T xs)
theorem n7 (β : Bool) (a b : Ty) (x : den (.cons a b)) : cellsOf β (.cons a b) x = cellsOf β a (Prod.fst x) ++ cellsOf β b (Prod.snd x) := rfl
theorem jK {β : Bool} : ∀ {T : Ty} {x : den T}, (cellsOf β T x).length = T.size ∧ ∀ (j : Nat) (v : KV), (cellsOf β T x)[j]? = some v → ∃ q, (aS T x)[j]? = some q ∧ qB β v q
 | .int k, x => ⟨rfl, fun j v h => by
  cases j with
  | zero => obtain rfl := ya h; exact ⟨_, rfl, .inl ⟨k, x, rfl, rfl⟩⟩
  | succ j => cases h⟩
 | .bool, x => ⟨rfl, fun j v h => by
  cases j with
  | zero => obtain rfl := ya h; exact ⟨_, rfl, .inr (.inl ⟨x, rfl, rfl⟩)⟩
  | succ j => cases h⟩
 | .str, x => ⟨rfl, fun j v h => by
  cases j with
  | zero => obtain rfl := ya h; exact ⟨_, rfl, .inr (.inr (.inl ⟨x, rfl, rfl⟩))⟩
  | succ j => cases h⟩
 | .sl ag T, x => ⟨rfl, fun j v h => by
  cases j with
  | zero => obtain rfl := ya h; exact ⟨_, rfl, .inr (.inr (.inr ⟨ag, T, x, rfl, rfl⟩))⟩
  | succ j => cases h⟩
 | .cons a b, x => by
  have z := jK (β := β) (T := a) (x := Prod.fst x)
  have J := jK (β := β) (T := b) (x := Prod.snd x)
  refine ⟨by rw [n7, yj, z.1, J.1]; rfl, fun j v h => ?_⟩
  rw [n7] at h
  simp only [aS]
  by_cases H : j < a.size
  ·rw [yo (by rw [z.1]; exact H)] at h
   rw [yo (by rw [bJ]; exact H)]
   exact z.2 j v h
  ·rw [yq (by rw [z.1]; omega)] at h
   rw [yq (by rw [bJ]; omega)]
   rw [z.1] at h; rw [bJ]
   exact J.2 _ v h
theorem fK : ∀ {T : Ty} {z : List LK}, bN P T z = true → z.length = T.size
 | .int k, z, h => by simp only [bN] at h; split at h <;> first | rfl | cases h
 | .bool, z, h => by simp only [bN] at h; split at h <;> first | rfl | cases h
 | .str, z, h => by simp only [bN] at h; split at h <;> first | rfl | cases h
 | .sl ag T, z, h => by simp only [bN] at h; split at h <;> first | rfl | cases h
 | .cons a b, z, h => by
  simp only [bN] at h
  split at h
  ·rename_i l z
   simp only [yc] at h
   have h1 := fK h.2
   have h0 := nb.1 h.1.1
   show z.length + 1 = a.size + b.size
   omega
  ·cases h
theorem GV (β : Bool) (k : IntKind) (xs : List Int) : iX β (.ints k) (.ints k xs) = some (.imm β (.ints k xs)) := by
 simp [iX, PV.ints?, rT.2]
theorem zG {β : Bool} {T : Ty} {l : LK} {v : KV} {q : PV} (z : bN P T [l] = true) (H : i4 T v = true) (K : qB β v q) : iX β l q = some v.down := by
 cases T with
 | int k =>
  obtain ⟨O, n, rfl⟩ := BV H
  simp only [bN] at z
  split at z
  ·rename_i k2 J
   obtain rfl := (yx J).1
   obtain rfl := rT.1 z
   rcases K with ⟨N, n3, h, rfl⟩ | ⟨b, h, _⟩ | ⟨s, h, _⟩ | ⟨ag, T, xs, h, _⟩
   ·obtain ⟨rfl, rfl⟩ := (by simpa using h : O = N ∧ n = n3)
    have U : f6 k O = true := H
    obtain rfl := rT.1 U
    simp [iX, PV.int?, KV.down, rT.2]
   ·cases h
   ·cases h
   ·cases h
  ·cases z
 | bool =>
  obtain ⟨n, rfl⟩ := w7 H
  simp only [bN] at z
  split at z
  ·rename_i J
   obtain rfl := (yx J).1
   rcases K with ⟨N, n3, h, rfl⟩ | ⟨b, h, rfl⟩ | ⟨s, h, _⟩ | ⟨ag, T, xs, h, _⟩
   ·cases h
   ·obtain rfl := (by simpa using h : n = b)
    simp [iX, PV.bool?, KV.down]
   ·cases h
   ·cases h
  ·cases z
 | str =>
  obtain ⟨n, rfl⟩ := CJ H
  simp only [bN] at z
  split at z
  ·rename_i J
   obtain rfl := (yx J).1
   rcases K with ⟨N, n3, h, rfl⟩ | ⟨b, h, rfl⟩ | ⟨s, h, rfl⟩ | ⟨ag, T, xs, h, _⟩
   ·cases h
   ·cases h
   ·obtain rfl := (by simpa using h : n = s)
    simp [iX, PV.str?, KV.down]
   ·cases h
  ·cases z
 | sl ag T =>
  rcases K with ⟨N, n3, rfl, _⟩ | ⟨b, rfl, _⟩ | ⟨s, rfl, _⟩ | ⟨V, T', xs, rfl, rfl⟩
  ·cases H
  ·cases H
  ·cases H
  ·simp only [i4, yc] at H
   obtain rfl := JB.1 H.1
   obtain rfl := Ty.beq_iff.1 H.2
   simp only [bN] at z
   split at z
   ·rename_i k J
    obtain rfl := (yx J).1
    cases ag with
    | true => simp at z
    | false =>
     cases T with
     | int O =>
      simp only at z
      obtain rfl := rT.1 z
      exact GV β k xs
     | _ => simp at z
   ·rename_i t e J
    obtain rfl := (yx J).1
    simp only [yc, yz] at z
    obtain rfl := nb.1 z.1.1.1.1
    rw [show KV.down (.tsl β ag T xs) = .imm β (gF ag T xs) from rfl, dB z.1.1.1.2]
    simp [iX, PV.sl?]
   ·cases z
 | cons a b => cases v <;> cases H
theorem jC {a : Ty} (h : a.size = 1) : c9 a = [a] := by
 rcases C2 h with ⟨k, rfl⟩ | rfl | rfl | ⟨ag, T, rfl⟩ <;> rfl
theorem mH {β : Bool} {qs : List PV} : ∀ {T : Ty} {K : List LK} {vs : List KV} {c : Nat}, bN P T K = true → aV (c9 T) vs = true → (∀ (j : Nat) (v : KV), vs[j]? = some v → ∃ q, qs[c + j]? = some q ∧ qB β v q) →
  e7 β qs K c = some (KV.downs vs)
 | .cons a b, K, vs, c, H, z, J => by
  simp only [bN] at H
  split at H
  ·rename_i l K
   simp only [yc] at H
   obtain ⟨⟨U, W⟩, V⟩ := H
   simp only [c9, jC (nb.1 U), List.singleton_append] at z
   cases vs with
   | nil => cases z
   | cons v vs =>
    simp only [aV, yc] at z
    obtain ⟨q, N, O⟩ := J 0 v rfl
    have ih := mH (β := β) (qs := qs) (c := c + 1) V z.2 (fun j v Z => by
     obtain ⟨q, U, h2⟩ := J (j + 1) v (by simpa using Z)
     exact ⟨q, by rw [show c + 1 + j = c + (j + 1) by omega]; exact U, h2⟩)
    rw [yf2] at N
    simp [e7, N, zG W z.1 O, ih, KV.downs]
  ·cases H
 | .int k, K, vs, c, H, z, J => rdLeaves_one rfl H z J
 | .bool, K, vs, c, H, z, J => rdLeaves_one rfl H z J
 | .str, K, vs, c, H, z, J => rdLeaves_one rfl H z J
 | .sl ag T, K, vs, c, H, z, J => rdLeaves_one rfl H z J
 where
 rdLeaves_one {β : Bool} {qs : List PV} {T : Ty} {K : List LK} {vs : List KV} {c : Nat} (U : T.size = 1) (H : bN P T K = true) (z : aV (c9 T) vs = true) (J : ∀ (j : Nat) (v : KV), vs[j]? = some v → ∃ q, qs[c + j]? = some q ∧ qB β v q) :
   e7 β qs K c = some (KV.downs vs) := by
  have Y := fK H
  rw [U] at Y
  obtain ⟨l, rfl⟩ := yb2.1 Y
  rw [jC U] at z
  cases vs with
  | nil => cases z
  | cons v vs =>
   cases vs with
   | cons v2 vs => simp [aV] at z
   | nil =>
    simp only [aV, Bool.and_true] at z
    obtain ⟨q, N, O⟩ := J 0 v rfl
    rw [yf2] at N
    simp [e7, N, zG H z O, KV.downs]
theorem IP {t : TypeId} {O : TI} (U : bX P t O) {β : Bool} {T : Ty} {x : den T} {p : PV} {c : Nat} {k : KV → Option R} (hp : p.cells = aS T x)
  (h : AZ O (((cellsOf β T x).drop c).take O.n) k = some r) : ∃ v, k v = some r ∧ Ix P β t p c = some v.down := by
 unfold AZ at h
 split at h
 ·rename_i T' Y
  rw [cK] at h
  obtain ⟨hl, h⟩ := h
  obtain ⟨⟨ls, K, hc⟩, hn, hag, _⟩ := U.ty T' Y
  have W : ∀ (j : Nat) (v : KV), (((cellsOf β T x).drop c).take O.n)[j]? = some v → ∃ q, p.cells[c + j]? = some q ∧ qB β v q := by
   intro j v N
   rw [yh2] at N
   split at N
   ·rw [ya1] at N
    rw [hp]; exact (jK (β := β) (x := x)).2 _ v N
   ·cases N
  have z := mH (P := P) (c := c) hc hl W
  cases V : O.ag with
  | true =>
   rw [V] at h; simp only [yg] at h
   refine ⟨_, h, ?_⟩
   unfold Ix
   have J := U.ag; rw [V] at J
   simp only [J, K, yb, U.n, f8, fK hc, hn, z, KV.down]
   simp
  | false =>
   rw [V] at h; simp only [yh] at h
   have J := U.ag; rw [V] at J
   obtain ⟨l, hl1, rfl⟩ := eY J K
   split at h
   ·rename_i v hv
    refine ⟨v, h, ?_⟩
    rw [hv] at z W
    obtain ⟨q, H, hcp⟩ := W 0 v rfl
    rw [yf2] at H
    unfold Ix
    simp only [J, hl1, yb, H]
    simp only [e7, H, yb, KV.downs] at z
    rw [Jc] at z
    obtain ⟨a, Z, z⟩ := z
    rw [Z]
    exact congrArg some (yx (ya z)).1
   ·cases h
 ·cases h
theorem BW {pY : Nat} {k : KV → Option R} : ∀ {cs : List KV} {j : Nat}, Kn (aL R) pY cs j k = some r → ∃ v, j ≤ pY ∧ cs[pY - j]? = some v ∧ k v = some r
 | [], j, h => by cases h
 | v :: cs, j, h => by
  simp only [Kn, real_ite] at h
  cases z : Nat.beq pY j with
  | true =>
   rw [z] at h; simp only [yg] at h
   obtain rfl := nb.1 z
   exact ⟨v, yu _, by simp, h⟩
  | false =>
   rw [z] at h; simp only [yh] at h
   obtain ⟨w, hj, H, J⟩ := BW h
   exact ⟨w, by omega, by rw [show pY - j = (pY - (j + 1)) + 1 by omega]; simpa using H, J⟩
theorem z0 {pY : Nat} {v : KV} {z : List KV} {k : List KV → Option R} : ∀ {cs : List KV} {j : Nat}, AO (aL R) pY v z cs j k = some r → j ≤ pY ∧ pY < j + cs.length ∧ k (z.set pY v) = some r
 | [], j, h => by cases h
 | _ :: cs, j, h => by
  simp only [AO, real_ite] at h
  cases H : Nat.beq pY j with
  | true =>
   rw [H] at h; simp only [yg] at h
   obtain rfl := nb.1 H
   rw [dM] at h
   exact ⟨yu _, by simp, h⟩
  | false =>
   rw [H] at h; simp only [yh] at h
   obtain ⟨h1, h2, J⟩ := z0 h
   exact ⟨by omega, by simp only [yw]; omega, J⟩
theorem qJ {cs : List KV} {i : Nat} {v : KV} (h : cs[i]? = some v) : (KV.downs cs)[i]? = some v.down := by rw [cO, yc1, h]; rfl
theorem JZ {t : TypeId} {m : aW} {b g i : Nat} {H : c7} {z : IntKind} {xs : List Int} {x : Int} (O : box? m b g = some H) (J : H.row = .ints z xs) (K : isAgg? P t = some false) (N : xs[i]? = some x) :
  iN P t m (.ptr b g i 0) = some { v := .lit (.int z x), rd := [b] } := by
 simp [iN, O, J, K, N, guardB]
theorem C8 (ht : b9 P tab) {t : TypeId} {a : KV} {k : bW → Option R} (h : Iw (aL R) tab t mem a k = some r) : ∃ out, k out = some r ∧ iN P t (aB mem) a.down = some out.down ∧ out.wr = [] ∧ out.push = [] := by
 unfold Iw at h
 split at h
 ·rename_i ti hti
  have H := bX.of (ht _ _ hti)
  split at h
  ·rename_i β ag T x c
   obtain ⟨v, W, z⟩ := IP H (cR (ag := ag) (T := T) (x := x)) h
   exact ⟨_, W, by simp only [KV.down, iN, z, yn]; rfl, rfl, rfl⟩
  ·rename_i b g i c
   obtain ⟨U, N, h⟩ := cM h
   split at h
   ·rename_i e cs J
    have V : U.down.row = .cells e (KV.downs cs) := by rw [show U.down.row = U.row.down from rfl, J]; rfl
    cases Y : ti.ag with
    | true =>
     rw [Y] at h; simp only [yg] at h
     rw [cK] at h
     refine ⟨_, h.2, ?_, rfl, rfl⟩
     have K := H.ag; rw [Y] at K
     simp only [KV.down, iN, N, yb, V, K, yg, H.n, f8, aK, h.1, true_and]
     simp [bW.down, KV.down, cO, yi3, yj3, aB]
    | false =>
     rw [Y] at h; simp only [yh] at h
     obtain ⟨v, _, Z, W⟩ := BW h
     refine ⟨_, W, ?_, rfl, rfl⟩
     have K := H.ag; rw [Y] at K
     rw [Nat.sub_zero] at Z
     simp only [KV.down, iN, N, yb, V, K, yh, qJ Z, yn]; rfl
   ·rename_i β ag T xs J
    cases O : ti.ag && bP ag T with
    | true => rw [O] at h; cases h
    | false =>
     rw [O] at h; simp only [yh, real_getN] at h
     rw [Jc] at h
     obtain ⟨x, hx, h⟩ := h
     obtain ⟨v, W, z⟩ := IP H (cR (ag := ag) (T := T) (x := x)) h
     refine ⟨_, W, ?_, rfl, rfl⟩
     have V : U.down.row = (KRow.ts β ag T xs).down := by rw [show U.down.row = U.row.down from rfl, J]
     cases hi : bP ag T with
     | false =>
      rw [KRow.down_sl hi] at V
      simp only [KV.down, iN, N, yb, V, yc1, hx, yn, z]; rfl
     | true =>
      obtain ⟨rfl, kk, rfl⟩ := aT.1 hi
      rw [hi, Bool.and_true] at O
      have K := H.ag; rw [O] at K
      have hc : c = 0 ∧ v.down = .lit (.int kk x) := by
       unfold Ix at z
       simp only [K] at z
       rw [Jc] at z
       obtain ⟨l, hl, z⟩ := z
       rw [Jc] at z
       obtain ⟨q, hq, z⟩ := z
       rw [cR] at hq
       cases c with
       | succ c => cases hq
       | zero =>
        obtain rfl := ya hq
        refine ⟨rfl, ?_⟩
        cases l <;> simp only [iX, PV.int?, PV.bool?, PV.str?, PV.ints?, PV.sl?, Option.bind_none] at z <;> first | cases z | skip
        rw [Jc] at z
        obtain ⟨y, hy, z⟩ := z
        rw [cK] at hy
        obtain rfl := rT.1 hy.1
        obtain rfl := ya hy.2
        exact (ya z).symm
      obtain ⟨rfl, Z⟩ := hc
      have := JZ (g := g) N (show U.down.row = .ints kk xs from V) K (show (xs : List Int)[i]? = some x from hx)
      rw [show KV.down (.ptr b g i 0) = .ptr b g i 0 from rfl, this]
      simp [bW.down, Z, aB]
  ·cases h
 ·cases h
end
end Go.Ab
