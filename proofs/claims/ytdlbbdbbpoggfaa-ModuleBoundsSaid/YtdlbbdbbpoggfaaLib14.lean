import Derived.Test.YtdlbbdbbpoggfaaLib13
set_option linter.unusedVariables false
set_option linter.unusedSectionVars false
set_option linter.unusedSimpArgs false
namespace Go.Ab
variable [b4]
section
variable {P : Program} {R : Type} {r : R} {mem : aD} {tab : TypeId → Option TI}
def j3 (β : Bool) (v : KV) (q : PV) : Prop :=
 (∃ k n, v = .lit (.int k n) ∧ q = .lit (.int k n)) ∨ (∃ b, v = .lit (.bool b) ∧ q = .lit (.bool b)) ∨ (∃ s, v = .lit (.string s) ∧ q = .lit (.string s)) ∨ (∃ ag T xs, v = .tsl β ag T xs ∧ q = dN ag T xs)
theorem pO (β : Bool) (a b : Ty) (x : den (.cons a b)) : cellsOf β (.cons a b) x = cellsOf β a (Prod.fst x) ++ cellsOf β b (Prod.snd x) := rfl
theorem jH {β : Bool} : ∀ {T : Ty} {x : den T}, (cellsOf β T x).length = T.size ∧ ∀ (j : Nat) (v : KV), (cellsOf β T x)[j]? = some v → ∃ q, (aM T x)[j]? = some q ∧ j3 β v q
 | .int k, x => ⟨rfl, fun j v h => by
  cases j with
  | zero => obtain rfl := ya h; exact ⟨_, rfl, .inl ⟨k, x, rfl, rfl⟩⟩
  | succ j => cases h⟩
 | .bool, x => ⟨rfl, fun j v h => by
  cases j with
  | zero => obtain rfl := ya h; exact ⟨_, rfl, .inr (.inl ⟨x, rfl, rfl⟩)⟩
  | succ j => cases h⟩
 | .str, x => ⟨rfl, fun j v h => by
  cases j with
  | zero => obtain rfl := ya h; exact ⟨_, rfl, .inr (.inr (.inl ⟨x, rfl, rfl⟩))⟩
  | succ j => cases h⟩
 | .sl ag T, x => ⟨rfl, fun j v h => by
  cases j with
  | zero => obtain rfl := ya h; exact ⟨_, rfl, .inr (.inr (.inr ⟨ag, T, x, rfl, rfl⟩))⟩
  | succ j => cases h⟩
 | .cons a b, x => by
  have H := jH (β := β) (T := a) (x := Prod.fst x)
  have I := jH (β := β) (T := b) (x := Prod.snd x)
  refine ⟨by rw [pO, yi1, H.1, I.1]; rfl, fun j v h => ?_⟩
  rw [pO] at h
  simp only [aM]
  by_cases J : j < a.size
  ·rw [yn (by rw [H.1]; exact J)] at h
   rw [yn (by rw [bP]; exact J)]
   exact H.2 j v h
  ·rw [yu (by rw [H.1]; omega)] at h
   rw [yu (by rw [bP]; omega)]
   rw [H.1] at h; rw [bP]
   exact I.2 _ v h
theorem d6 : ∀ {T : Ty} {ls : List LK}, aS P T ls = true → ls.length = T.size
 | .int k, ls, h => by simp only [aS] at h; split at h <;> first | rfl | cases h
 | .bool, ls, h => by simp only [aS] at h; split at h <;> first | rfl | cases h
 | .str, ls, h => by simp only [aS] at h; split at h <;> first | rfl | cases h
 | .sl ag T, ls, h => by simp only [aS] at h; split at h <;> first | rfl | cases h
 | .cons a b, ls, h => by
  simp only [aS] at h
  split at h
  ·rename_i l ls
   simp only [yb] at h
   have h1 := d6 h.2
   have h0 := nb.1 h.1.1
   show ls.length + 1 = a.size + b.size
   omega
  ·cases h
theorem JM (β : Bool) (k : IntKind) (xs : List Int) : fT β (.ints k) (.ints k xs) = some (.imm β (.ints k xs)) := by
 simp [fT, PV.ints?, rW.2]
theorem vK {β : Bool} {T : Ty} {l : LK} {v : KV} {q : PV} (H : aS P T [l] = true) (I : iK T v = true) (K : j3 β v q) : fT β l q = some v.down := by
 cases T with
 | int k =>
  obtain ⟨U, n, rfl⟩ := Fo I
  simp only [aS] at H
  split at H
  ·rename_i k2 J
   obtain rfl := (yx J).1
   obtain rfl := rW.1 H
   rcases K with ⟨N, M, h, rfl⟩ | ⟨b, h, _⟩ | ⟨s, h, _⟩ | ⟨ag, T, xs, h, _⟩
   ·obtain ⟨rfl, rfl⟩ := (by simpa using h : U = N ∧ n = M)
    have O : gK k U = true := I
    obtain rfl := rW.1 O
    simp [fT, PV.int?, KV.down, rW.2]
   ·cases h
   ·cases h
   ·cases h
  ·cases H
 | bool =>
  obtain ⟨n, rfl⟩ := Bj I
  simp only [aS] at H
  split at H
  ·rename_i J
   obtain rfl := (yx J).1
   rcases K with ⟨N, M, h, rfl⟩ | ⟨b, h, rfl⟩ | ⟨s, h, _⟩ | ⟨ag, T, xs, h, _⟩
   ·cases h
   ·obtain rfl := (by simpa using h : n = b)
    simp [fT, PV.bool?, KV.down]
   ·cases h
   ·cases h
  ·cases H
 | str =>
  obtain ⟨n, rfl⟩ := Fr I
  simp only [aS] at H
  split at H
  ·rename_i J
   obtain rfl := (yx J).1
   rcases K with ⟨N, M, h, rfl⟩ | ⟨b, h, rfl⟩ | ⟨s, h, rfl⟩ | ⟨ag, T, xs, h, _⟩
   ·cases h
   ·cases h
   ·obtain rfl := (by simpa using h : n = s)
    simp [fT, PV.str?, KV.down]
   ·cases h
  ·cases H
 | sl ag T =>
  rcases K with ⟨N, M, rfl, _⟩ | ⟨b, rfl, _⟩ | ⟨s, rfl, _⟩ | ⟨V, T', xs, rfl, rfl⟩
  ·cases I
  ·cases I
  ·cases I
  ·simp only [iK, yb] at I
   obtain rfl := Ip.1 I.1
   obtain rfl := Ty.beq_iff.1 I.2
   simp only [aS] at H
   split at H
   ·rename_i k J
    obtain rfl := (yx J).1
    cases ag with
    | true => simp at H
    | false =>
     cases T with
     | int U =>
      simp only at H
      obtain rfl := rW.1 H
      exact JM β k xs
     | _ => simp at H
   ·rename_i t e J
    obtain rfl := (yx J).1
    simp only [yb, yq] at H
    obtain rfl := nb.1 H.1.1.1.1
    rw [show KV.down (.tsl β ag T xs) = .imm β (dN ag T xs) from rfl, bX H.1.1.1.2]
    simp [fT, PV.sl?]
   ·cases H
 | cons a b => cases v <;> cases I
theorem fO {a : Ty} (h : a.size = 1) : c7 a = [a] := by
 rcases x5 h with ⟨k, rfl⟩ | rfl | rfl | ⟨ag, T, rfl⟩ <;> rfl
theorem oB {β : Bool} {qs : List PV} : ∀ {T : Ty} {ls : List LK} {vs : List KV} {c : Nat}, aS P T ls = true → aQ (c7 T) vs = true → (∀ (j : Nat) (v : KV), vs[j]? = some v → ∃ q, qs[c + j]? = some q ∧ j3 β v q) →
  gA β qs ls c = some (KV.downs vs)
 | .cons a b, ls, vs, c, I, H, J => by
  simp only [aS] at I
  split at I
  ·rename_i l ls
   simp only [yb] at I
   obtain ⟨⟨N, U⟩, O⟩ := I
   simp only [c7, fO (nb.1 N), List.singleton_append] at H
   cases vs with
   | nil => cases H
   | cons v vs =>
    simp only [aQ, yb] at H
    obtain ⟨q, K, M⟩ := J 0 v rfl
    have Z := oB (β := β) (qs := qs) (c := c + 1) O H.2 (fun j v Y => by
     obtain ⟨q, N, W⟩ := J (j + 1) v (by simpa using Y)
     exact ⟨q, by rw [show c + 1 + j = c + (j + 1) by omega]; exact N, W⟩)
    rw [ym1] at K
    simp [gA, K, vK U H.1 M, Z, KV.downs]
  ·cases I
 | .int k, ls, vs, c, I, H, J => rdLeaves_one rfl I H J
 | .bool, ls, vs, c, I, H, J => rdLeaves_one rfl I H J
 | .str, ls, vs, c, I, H, J => rdLeaves_one rfl I H J
 | .sl ag T, ls, vs, c, I, H, J => rdLeaves_one rfl I H J
 where
 rdLeaves_one {β : Bool} {qs : List PV} {T : Ty} {ls : List LK} {vs : List KV} {c : Nat} (N : T.size = 1) (I : aS P T ls = true) (H : aQ (c7 T) vs = true) (J : ∀ (j : Nat) (v : KV), vs[j]? = some v → ∃ q, qs[c + j]? = some q ∧ j3 β v q) :
   gA β qs ls c = some (KV.downs vs) := by
  have V := d6 I
  rw [N] at V
  obtain ⟨l, rfl⟩ := ye2.1 V
  rw [fO N] at H
  cases vs with
  | nil => cases H
  | cons v vs =>
   cases vs with
   | cons v2 vs => simp [aQ] at H
   | nil =>
    simp only [aQ, yg3] at H
    obtain ⟨q, K, M⟩ := J 0 v rfl
    rw [ym1] at K
    simp [gA, K, vK I H M, KV.downs]
theorem L7 {t : TypeId} {J : TI} (ht : bU P t J) {β : Bool} {T : Ty} {x : den T} {p : PV} {c : Nat} {k : KV → Option R} (hp : p.cells = aM T x)
  (h : Dc J (((cellsOf β T x).drop c).take J.n) k = some r) : ∃ v, k v = some r ∧ L4 P β t p c = some v.down := by
 unfold Dc at h
 split at h
 ·rename_i T' O
  rw [bR] at h
  obtain ⟨Z, h⟩ := h
  obtain ⟨⟨ls, M, Y⟩, hn, hag, _⟩ := ht.ty T' O
  have V : ∀ (j : Nat) (v : KV), (((cellsOf β T x).drop c).take J.n)[j]? = some v → ∃ q, p.cells[c + j]? = some q ∧ j3 β v q := by
   intro j v K
   rw [yj1] at K
   split at K
   ·rw [yz] at K
    rw [hp]; exact (jH (β := β) (x := x)).2 _ v K
   ·cases K
  have hr := oB (P := P) (c := c) Y Z V
  cases N : J.ag with
  | true =>
   rw [N] at h; simp only [yl] at h
   refine ⟨_, h, ?_⟩
   unfold L4
   have I := ht.ag; rw [N] at I
   simp only [I, M, ye, ht.n, eB, d6 Y, hn, hr, KV.down]
   simp
  | false =>
   rw [N] at h; simp only [yk] at h
   have I := ht.ag; rw [N] at I
   obtain ⟨l, U, rfl⟩ := e5 I M
   split at h
   ·rename_i v hv
    refine ⟨v, h, ?_⟩
    rw [hv] at hr V
    obtain ⟨q, H, hcp⟩ := V 0 v rfl
    rw [ym1] at H
    unfold L4
    simp only [I, U, ye, H]
    simp only [gA, H, ye, KV.downs] at hr
    rw [C7] at hr
    obtain ⟨a, W, hr⟩ := hr
    rw [W]
    exact congrArg some (yx (ya hr)).1
   ·cases h
 ·cases h
theorem Fi {sE : Nat} {k : KV → Option R} : ∀ {cs : List KV} {j : Nat}, N6 (aP R) sE cs j k = some r → ∃ v, j ≤ sE ∧ cs[sE - j]? = some v ∧ k v = some r
 | [], j, h => by cases h
 | v :: cs, j, h => by
  simp only [N6, real_ite] at h
  cases H : Nat.beq sE j with
  | true =>
   rw [H] at h; simp only [yl] at h
   obtain rfl := nb.1 H
   exact ⟨v, yy _, by simp, h⟩
  | false =>
   rw [H] at h; simp only [yk] at h
   obtain ⟨w, hj, I, J⟩ := Fi h
   exact ⟨w, by omega, by rw [show sE - j = (sE - (j + 1)) + 1 by omega]; simpa using I, J⟩
theorem Cg {sE : Nat} {v : KV} {H : List KV} {k : List KV → Option R} : ∀ {cs : List KV} {j : Nat}, Da (aP R) sE v H cs j k = some r → j ≤ sE ∧ sE < j + cs.length ∧ k (H.set sE v) = some r
 | [], j, h => by cases h
 | _ :: cs, j, h => by
  simp only [Da, real_ite] at h
  cases I : Nat.beq sE j with
  | true =>
   rw [I] at h; simp only [yl] at h
   obtain rfl := nb.1 I
   rw [d8] at h
   exact ⟨yy _, by simp, h⟩
  | false =>
   rw [I] at h; simp only [yk] at h
   obtain ⟨h1, h2, J⟩ := Cg h
   exact ⟨by omega, by simp only [yg2]; omega, J⟩
theorem o9 {cs : List KV} {i : Nat} {v : KV} (h : cs[i]? = some v) : (KV.downs cs)[i]? = some v.down := by rw [cY, yb1, h]; rfl
theorem Ms {t : TypeId} {m : aH} {b g i : Nat} {I : a9} {H : IntKind} {xs : List Int} {x : Int} (J : box? m b g = some I) (hr : I.row = .ints H xs) (K : isAgg? P t = some false) (M : xs[i]? = some x) :
  i7 P t m (.ptr b g i 0) = some { v := .lit (.int H x), rd := [b] } := by
 simp [i7, J, hr, K, M, guardB]
theorem GF (ht : bG P tab) {t : TypeId} {a : KV} {k : aZ → Option R} (h : Ls (aP R) tab t mem a k = some r) : ∃ out, k out = some r ∧ i7 P t (aB mem) a.down = some out.down ∧ out.wr = [] ∧ out.push = [] := by
 unfold Ls at h
 split at h
 ·rename_i ti Y
  have H := bU.of (ht _ _ Y)
  split at h
  ·rename_i β ag T x c
   obtain ⟨v, U, hr⟩ := L7 H (b6 (ag := ag) (T := T) (x := x)) h
   exact ⟨_, U, by simp only [KV.down, i7, hr, yg]; rfl, rfl, rfl⟩
  ·rename_i b g i c
   obtain ⟨N, M, h⟩ := cQ h
   split at h
   ·rename_i e cs I
    have O : N.down.row = .cells e (KV.downs cs) := by rw [show N.down.row = N.row.down from rfl, I]; rfl
    cases W : ti.ag with
    | true =>
     rw [W] at h; simp only [yl] at h
     rw [bR] at h
     refine ⟨_, h.2, ?_, rfl, rfl⟩
     have K := H.ag; rw [W] at K
     simp only [KV.down, i7, M, ye, O, K, yl, H.n, eB, aG, h.1, true_and]
     simp [aZ.down, KV.down, cY, yz2, yn3, aB]
    | false =>
     rw [W] at h; simp only [yk] at h
     obtain ⟨v, _, V, U⟩ := Fi h
     refine ⟨_, U, ?_, rfl, rfl⟩
     have K := H.ag; rw [W] at K
     rw [Nat.sub_zero] at V
     simp only [KV.down, i7, M, ye, O, K, yk, o9 V, yg]; rfl
   ·rename_i β ag T xs I
    cases J : ti.ag && aY ag T with
    | true => rw [J] at h; cases h
    | false =>
     rw [J] at h; simp only [yk, real_getN] at h
     rw [C7] at h
     obtain ⟨x, hx, h⟩ := h
     obtain ⟨v, U, hr⟩ := L7 H (b6 (ag := ag) (T := T) (x := x)) h
     refine ⟨_, U, ?_, rfl, rfl⟩
     have O : N.down.row = (KRow.ts β ag T xs).down := by rw [show N.down.row = N.row.down from rfl, I]
     cases Z : aY ag T with
     | false =>
      rw [KRow.down_sl Z] at O
      simp only [KV.down, i7, M, ye, O, yb1, hx, yg, hr]; rfl
     | true =>
      obtain ⟨rfl, kk, rfl⟩ := aK.1 Z
      rw [Z, yg3] at J
      have K := H.ag; rw [J] at K
      have hc : c = 0 ∧ v.down = .lit (.int kk x) := by
       unfold L4 at hr
       simp only [K] at hr
       rw [C7] at hr
       obtain ⟨l, hl, hr⟩ := hr
       rw [C7] at hr
       obtain ⟨q, hq, hr⟩ := hr
       rw [b6] at hq
       cases c with
       | succ c => cases hq
       | zero =>
        obtain rfl := ya hq
        refine ⟨rfl, ?_⟩
        cases l <;> simp only [fT, PV.int?, PV.bool?, PV.str?, PV.ints?, PV.sl?, Option.bind_none] at hr <;> first | cases hr | skip
        rw [C7] at hr
        obtain ⟨y, hy, hr⟩ := hr
        rw [bR] at hy
        obtain rfl := rW.1 hy.1
        obtain rfl := ya hy.2
        exact (ya hr).symm
      obtain ⟨rfl, V⟩ := hc
      have := Ms (g := g) M (show N.down.row = .ints kk xs from O) K (show (xs : List Int)[i]? = some x from hx)
      rw [show KV.down (.ptr b g i 0) = .ptr b g i 0 from rfl, this]
      simp [aZ.down, V, aB]
   ·cases h
  ·cases h
 ·cases h
end
end Go.Ab
