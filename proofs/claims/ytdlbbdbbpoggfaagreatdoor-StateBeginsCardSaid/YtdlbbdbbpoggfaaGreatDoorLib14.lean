import Derived.Test.YtdlbbdbbpoggfaaGreatDoorLib13
set_option linter.unusedVariables false
set_option linter.unusedSectionVars false
set_option linter.unusedSimpArgs false
namespace Go.Ab
variable [cD]
section
variable {P : Program} {R : Type} {r : R} {mem : aR} {tab : TypeId → Option TI}
def rS (β : Bool) (v : KV) (q : PV) : Prop :=
 (∃ k n, v = .lit (.int k n) ∧ q = .lit (.int k n)) ∨ (∃ b, v = .lit (.bool b) ∧ q = .lit (.bool b)) ∨ (∃ s, v = .lit (.string s) ∧ q = .lit (.string s)) ∨ (∃ ag T xs, v = .tsl β ag T xs ∧ q = iB ag T xs)
theorem pL (β : Bool) (a b : Ty) (x : den (.cons a b)) : cellsOf β (.cons a b) x = cellsOf β a (Prod.fst x) ++ cellsOf β b (Prod.snd x) := rfl
theorem kK {β : Bool} : ∀ {T : Ty} {x : den T}, (cellsOf β T x).length = T.size ∧ ∀ (j : Nat) (v : KV), (cellsOf β T x)[j]? = some v → ∃ q, (aV T x)[j]? = some q ∧ rS β v q
 | .int k, x => ⟨rfl, fun j v h => by
  cases j with
  | zero => obtain rfl := yb h; exact ⟨_, rfl, .inl ⟨k, x, rfl, rfl⟩⟩
  | succ j => cases h⟩
 | .bool, x => ⟨rfl, fun j v h => by
  cases j with
  | zero => obtain rfl := yb h; exact ⟨_, rfl, .inr (.inl ⟨x, rfl, rfl⟩)⟩
  | succ j => cases h⟩
 | .str, x => ⟨rfl, fun j v h => by
  cases j with
  | zero => obtain rfl := yb h; exact ⟨_, rfl, .inr (.inr (.inl ⟨x, rfl, rfl⟩))⟩
  | succ j => cases h⟩
 | .sl ag T, x => ⟨rfl, fun j v h => by
  cases j with
  | zero => obtain rfl := yb h; exact ⟨_, rfl, .inr (.inr (.inr ⟨ag, T, x, rfl, rfl⟩))⟩
  | succ j => cases h⟩
 | .cons a b, x => by
  have z := kK (β := β) (T := a) (x := Prod.fst x)
  have A := kK (β := β) (T := b) (x := Prod.snd x)
  refine ⟨by rw [pL, yi, z.1, A.1]; rfl, fun j v h => ?_⟩
  rw [pL] at h
  simp only [aV]
  by_cases H : j < a.size
  ·rw [yq (by rw [z.1]; exact H)] at h
   rw [yq (by rw [bO]; exact H)]
   exact z.2 j v h
  ·rw [yt (by rw [z.1]; omega)] at h
   rw [yt (by rw [bO]; omega)]
   rw [z.1] at h; rw [bO]
   exact A.2 _ v h
theorem gJ : ∀ {T : Ty} {z : List LK}, bR P T z = true → z.length = T.size
 | .int k, z, h => by simp only [bR] at h; split at h <;> first | rfl | cases h
 | .bool, z, h => by simp only [bR] at h; split at h <;> first | rfl | cases h
 | .str, z, h => by simp only [bR] at h; split at h <;> first | rfl | cases h
 | .sl ag T, z, h => by simp only [bR] at h; split at h <;> first | rfl | cases h
 | .cons a b, z, h => by
  simp only [bR] at h
  split at h
  ·rename_i l z
   simp only [yc] at h
   have h1 := gJ h.2
   have h0 := nb.1 h.1.1
   show z.length + 1 = a.size + b.size
   omega
  ·cases h
theorem IL (β : Bool) (k : IntKind) (xs : List Int) : jT β (.ints k) (.ints k xs) = some (.imm β (.ints k xs)) := by
 simp [jT, PV.ints?, vV.2]
theorem BS {β : Bool} {T : Ty} {l : LK} {v : KV} {q : PV} (z : bR P T [l] = true) (hl : jY T v = true) (J : rS β v q) : jT β l q = some v.down := by
 cases T with
 | int k =>
  obtain ⟨K, n, rfl⟩ := D5 hl
  simp only [bR] at z
  split at z
  ·rename_i k2 A
   obtain rfl := (yc1 A).1
   obtain rfl := vV.1 z
   rcases J with ⟨H, n3, h, rfl⟩ | ⟨b, h, _⟩ | ⟨s, h, _⟩ | ⟨ag, T, xs, h, _⟩
   ·obtain ⟨rfl, rfl⟩ := (by simpa using h : K = H ∧ n = n3)
    have M : gV k K = true := hl
    obtain rfl := vV.1 M
    simp [jT, PV.int?, KV.down, vV.2]
   ·cases h
   ·cases h
   ·cases h
  ·cases z
 | bool =>
  obtain ⟨n, rfl⟩ := AX hl
  simp only [bR] at z
  split at z
  ·rename_i A
   obtain rfl := (yc1 A).1
   rcases J with ⟨H, n3, h, rfl⟩ | ⟨b, h, rfl⟩ | ⟨s, h, _⟩ | ⟨ag, T, xs, h, _⟩
   ·cases h
   ·obtain rfl := (by simpa using h : n = b)
    simp [jT, PV.bool?, KV.down]
   ·cases h
   ·cases h
  ·cases z
 | str =>
  obtain ⟨n, rfl⟩ := Dd hl
  simp only [bR] at z
  split at z
  ·rename_i A
   obtain rfl := (yc1 A).1
   rcases J with ⟨H, n3, h, rfl⟩ | ⟨b, h, rfl⟩ | ⟨s, h, rfl⟩ | ⟨ag, T, xs, h, _⟩
   ·cases h
   ·cases h
   ·obtain rfl := (by simpa using h : n = s)
    simp [jT, PV.str?, KV.down]
   ·cases h
  ·cases z
 | sl ag T =>
  rcases J with ⟨H, n3, rfl, _⟩ | ⟨b, rfl, _⟩ | ⟨s, rfl, _⟩ | ⟨N, T', xs, rfl, rfl⟩
  ·cases hl
  ·cases hl
  ·cases hl
  ·simp only [jY, yc] at hl
   obtain rfl := L5.1 hl.1
   obtain rfl := Ty.beq_iff.1 hl.2
   simp only [bR] at z
   split at z
   ·rename_i k A
    obtain rfl := (yc1 A).1
    cases ag with
    | true => simp at z
    | false =>
     cases T with
     | int K =>
      simp only at z
      obtain rfl := vV.1 z
      exact IL β k xs
     | _ => simp at z
   ·rename_i t e A
    obtain rfl := (yc1 A).1
    simp only [yc, yy] at z
    obtain rfl := nb.1 z.1.1.1.1
    rw [show KV.down (.tsl β ag T xs) = .imm β (iB ag T xs) from rfl, d7 z.1.1.1.2]
    simp [jT, PV.sl?]
   ·cases z
 | cons a b => cases v <;> cases hl
theorem j0 {a : Ty} (h : a.size = 1) : d6 a = [a] := by
 rcases Fj h with ⟨k, rfl⟩ | rfl | rfl | ⟨ag, T, rfl⟩ <;> rfl
theorem nO {β : Bool} {qs : List PV} : ∀ {T : Ty} {J : List LK} {vs : List KV} {c : Nat}, bR P T J = true → aZ (d6 T) vs = true → (∀ (j : Nat) (v : KV), vs[j]? = some v → ∃ q, qs[c + j]? = some q ∧ rS β v q) →
  f8 β qs J c = some (KV.downs vs)
 | .cons a b, J, vs, c, z, h, A => by
  simp only [bR] at z
  split at z
  ·rename_i l J
   simp only [yc] at z
   obtain ⟨⟨h1, N⟩, M⟩ := z
   simp only [d6, j0 (nb.1 h1), List.singleton_append] at h
   cases vs with
   | nil => cases h
   | cons v vs =>
    simp only [aZ, yc] at h
    obtain ⟨q, H, K⟩ := A 0 v rfl
    have U := nO (β := β) (qs := qs) (c := c + 1) M h.2 (fun j v O => by
     obtain ⟨q, h1, h2⟩ := A (j + 1) v (by simpa using O)
     exact ⟨q, by rw [show c + 1 + j = c + (j + 1) by omega]; exact h1, h2⟩)
    rw [yp2] at H
    simp [f8, H, BS N h.1 K, U, KV.downs]
  ·cases z
 | .int k, J, vs, c, z, h, A => rdLeaves_one rfl z h A
 | .bool, J, vs, c, z, h, A => rdLeaves_one rfl z h A
 | .str, J, vs, c, z, h, A => rdLeaves_one rfl z h A
 | .sl ag T, J, vs, c, z, h, A => rdLeaves_one rfl z h A
 where
 rdLeaves_one {β : Bool} {qs : List PV} {T : Ty} {J : List LK} {vs : List KV} {c : Nat} (h1 : T.size = 1) (z : bR P T J = true) (h : aZ (d6 T) vs = true) (A : ∀ (j : Nat) (v : KV), vs[j]? = some v → ∃ q, qs[c + j]? = some q ∧ rS β v q) :
   f8 β qs J c = some (KV.downs vs) := by
  have hl := gJ z
  rw [h1] at hl
  obtain ⟨l, rfl⟩ := yg2.1 hl
  rw [j0 h1] at h
  cases vs with
  | nil => cases h
  | cons v vs =>
   cases vs with
   | cons v2 vs => simp [aZ] at h
   | nil =>
    simp only [aZ, yt3] at h
    obtain ⟨q, H, K⟩ := A 0 v rfl
    rw [yp2] at H
    simp [f8, H, BS z h K, KV.downs]
theorem KK {t : TypeId} {K : TI} (ht : b8 P t K) {β : Bool} {T : Ty} {x : den T} {p : PV} {c : Nat} {k : KV → Option R} (hp : p.cells = aV T x)
  (h : Cb K (((cellsOf β T x).drop c).take K.n) k = some r) : ∃ v, k v = some r ∧ Lc P β t p c = some v.down := by
 unfold Cb at h
 split at h
 ·rename_i T' V
  rw [c9] at h
  obtain ⟨hl, h⟩ := h
  obtain ⟨⟨ls, M, Y⟩, hn, hag, _⟩ := ht.ty T' V
  have U : ∀ (j : Nat) (v : KV), (((cellsOf β T x).drop c).take K.n)[j]? = some v → ∃ q, p.cells[c + j]? = some q ∧ rS β v q := by
   intro j v J
   rw [yo2] at J
   split at J
   ·rw [yd1] at J
    rw [hp]; exact (kK (β := β) (x := x)).2 _ v J
   ·cases J
  have A := nO (P := P) (c := c) Y hl U
  cases N : K.ag with
  | true =>
   rw [N] at h; simp only [yg] at h
   refine ⟨_, h, ?_⟩
   unfold Lc
   have H := ht.ag; rw [N] at H
   simp only [H, M, ya, ht.n, g8, gJ Y, hn, A, KV.down]
   simp
  | false =>
   rw [N] at h; simp only [ye] at h
   have H := ht.ag; rw [N] at H
   obtain ⟨l, O, rfl⟩ := gB H M
   split at h
   ·rename_i v Z
    refine ⟨v, h, ?_⟩
    rw [Z] at A U
    obtain ⟨q, z, hcp⟩ := U 0 v rfl
    rw [yp2] at z
    unfold Lc
    simp only [H, O, ya, z]
    simp only [f8, z, ya, KV.downs] at A
    rw [Lz] at A
    obtain ⟨a, W, A⟩ := A
    rw [W]
    exact congrArg some (yc1 (yb A)).1
   ·cases h
 ·cases h
theorem Et {rX : Nat} {k : KV → Option R} : ∀ {cs : List KV} {j : Nat}, Nx (bI R) rX cs j k = some r → ∃ v, j ≤ rX ∧ cs[rX - j]? = some v ∧ k v = some r
 | [], j, h => by cases h
 | v :: cs, j, h => by
  simp only [Nx, real_ite] at h
  cases z : Nat.beq rX j with
  | true =>
   rw [z] at h; simp only [yg] at h
   obtain rfl := nb.1 z
   exact ⟨v, yz _, by simp, h⟩
  | false =>
   rw [z] at h; simp only [ye] at h
   obtain ⟨w, hj, A, H⟩ := Et h
   exact ⟨w, by omega, by rw [show rX - j = (rX - (j + 1)) + 1 by omega]; simpa using A, H⟩
theorem A8 {rX : Nat} {v : KV} {z : List KV} {k : List KV → Option R} : ∀ {cs : List KV} {j : Nat}, Cm (bI R) rX v z cs j k = some r → j ≤ rX ∧ rX < j + cs.length ∧ k (z.set rX v) = some r
 | [], j, h => by cases h
 | _ :: cs, j, h => by
  simp only [Cm, real_ite] at h
  cases A : Nat.beq rX j with
  | true =>
   rw [A] at h; simp only [yg] at h
   obtain rfl := nb.1 A
   rw [eF] at h
   exact ⟨yz _, by simp, h⟩
  | false =>
   rw [A] at h; simp only [ye] at h
   obtain ⟨h1, h2, H⟩ := A8 h
   exact ⟨by omega, by simp only [ye1]; omega, H⟩
theorem sA {cs : List KV} {i : Nat} {v : KV} (h : cs[i]? = some v) : (KV.downs cs)[i]? = some v.down := by rw [dC, yh1, h]; rfl
theorem L4 {t : TypeId} {m : a9} {b g i : Nat} {z : d8} {h : IntKind} {xs : List Int} {x : Int} (A : box? m b g = some z) (J : z.row = .ints h xs) (H : isAgg? P t = some false) (hx : xs[i]? = some x) :
  jJ P t m (.ptr b g i 0) = some { v := .lit (.int h x), rd := [b] } := by
 simp [jJ, A, J, H, hx, guardB]
theorem Ft (ht : cF P tab) {t : TypeId} {a : KV} {k : bY → Option R} (h : KP (bI R) tab t mem a k = some r) : ∃ out, k out = some r ∧ jJ P t (aF mem) a.down = some out.down ∧ out.wr = [] ∧ out.push = [] := by
 unfold KP at h
 split at h
 ·rename_i ti Y
  have A := b8.of (ht _ _ Y)
  split at h
  ·rename_i β ag T x c
   obtain ⟨v, U, z⟩ := KK A (dI (ag := ag) (T := T) (x := x)) h
   exact ⟨_, U, by simp only [KV.down, jJ, z, yo]; rfl, rfl, rfl⟩
  ·rename_i b g i c
   obtain ⟨N, M, h⟩ := cY h
   split at h
   ·rename_i e cs H
    have O : N.down.row = .cells e (KV.downs cs) := by rw [show N.down.row = N.row.down from rfl, H]; rfl
    cases V : ti.ag with
    | true =>
     rw [V] at h; simp only [yg] at h
     rw [c9] at h
     refine ⟨_, h.2, ?_, rfl, rfl⟩
     have J := A.ag; rw [V] at J
     simp only [KV.down, jJ, M, ya, O, J, yg, A.n, g8, aQ, h.1, true_and]
     simp [bY.down, KV.down, dC, ym3, yn3, aF]
    | false =>
     rw [V] at h; simp only [ye] at h
     obtain ⟨v, _, W, U⟩ := Et h
     refine ⟨_, U, ?_, rfl, rfl⟩
     have J := A.ag; rw [V] at J
     rw [Nat.sub_zero] at W
     simp only [KV.down, jJ, M, ya, O, J, ye, sA W, yo]; rfl
   ·rename_i β ag T xs H
    cases K : ti.ag && bT ag T with
    | true => rw [K] at h; cases h
    | false =>
     rw [K] at h; simp only [ye, real_getN] at h
     rw [Lz] at h
     obtain ⟨x, hx, h⟩ := h
     obtain ⟨v, U, z⟩ := KK A (dI (ag := ag) (T := T) (x := x)) h
     refine ⟨_, U, ?_, rfl, rfl⟩
     have O : N.down.row = (KRow.ts β ag T xs).down := by rw [show N.down.row = N.row.down from rfl, H]
     cases Z : bT ag T with
     | false =>
      rw [KRow.down_sl Z] at O
      simp only [KV.down, jJ, M, ya, O, yh1, hx, yo, z]; rfl
     | true =>
      obtain ⟨rfl, kk, rfl⟩ := aX.1 Z
      rw [Z, yt3] at K
      have J := A.ag; rw [K] at J
      have hc : c = 0 ∧ v.down = .lit (.int kk x) := by
       unfold Lc at z
       simp only [J] at z
       rw [Lz] at z
       obtain ⟨l, hl, z⟩ := z
       rw [Lz] at z
       obtain ⟨q, hq, z⟩ := z
       rw [dI] at hq
       cases c with
       | succ c => cases hq
       | zero =>
        obtain rfl := yb hq
        refine ⟨rfl, ?_⟩
        cases l <;> simp only [jT, PV.int?, PV.bool?, PV.str?, PV.ints?, PV.sl?, Option.bind_none] at z <;> first | cases z | skip
        rw [Lz] at z
        obtain ⟨y, hy, z⟩ := z
        rw [c9] at hy
        obtain rfl := vV.1 hy.1
        obtain rfl := yb hy.2
        exact (yb z).symm
      obtain ⟨rfl, W⟩ := hc
      have := L4 (g := g) M (show N.down.row = .ints kk xs from O) J (show (xs : List Int)[i]? = some x from hx)
      rw [show KV.down (.ptr b g i 0) = .ptr b g i 0 from rfl, this]
      simp [bY.down, W, aF]
  ·cases h
 ·cases h
end
end Go.Ab
