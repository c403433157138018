import Derived.Test.YtdlbbdbbpoggfaaGreatDoorLib13
set_option linter.unusedVariables false
set_option linter.unusedSectionVars false
set_option linter.unusedSimpArgs false
namespace Go.Ab
variable [cD]
section
variable {P : Program} {R : Type} {r : R} {mem : aR} {tab : TypeId → Option TI}
def rB (β : Bool) (v : KV) (q : PV) : Prop :=
 (∃ k n, v = .lit (.int k n) ∧ q = .lit (.int k n)) ∨ (∃ b, v = .lit (.bool b) ∧ q = .lit (.bool b)) ∨ (∃ s, v = .lit (.string s) ∧ q = .lit (.string s)) ∨ (∃ ag T xs, v = .tsl β ag T xs ∧ q = iH ag T xs)
theorem oW (β : Bool) (a b : Ty) (x : den (.cons a b)) : cellsOf β (.cons a b) x = cellsOf β a (Prod.fst x) ++ cellsOf β b (Prod.snd x) := rfl
theorem kG {β : Bool} : ∀ {T : Ty} {x : den T}, (cellsOf β T x).length = T.size ∧ ∀ (j : Nat) (v : KV), (cellsOf β T x)[j]? = some v → ∃ q, (aV T x)[j]? = some q ∧ rB β v q
 | .int k, x => ⟨rfl, fun j v h => by
  cases j with
  | zero => obtain rfl := yb h; exact ⟨_, rfl, .inl ⟨k, x, rfl, rfl⟩⟩
  | succ j => cases h⟩
 | .bool, x => ⟨rfl, fun j v h => by
  cases j with
  | zero => obtain rfl := yb h; exact ⟨_, rfl, .inr (.inl ⟨x, rfl, rfl⟩)⟩
  | succ j => cases h⟩
 | .str, x => ⟨rfl, fun j v h => by
  cases j with
  | zero => obtain rfl := yb h; exact ⟨_, rfl, .inr (.inr (.inl ⟨x, rfl, rfl⟩))⟩
  | succ j => cases h⟩
 | .sl ag T, x => ⟨rfl, fun j v h => by
  cases j with
  | zero => obtain rfl := yb h; exact ⟨_, rfl, .inr (.inr (.inr ⟨ag, T, x, rfl, rfl⟩))⟩
  | succ j => cases h⟩
 | .cons a b, x => by
  have z := kG (β := β) (T := a) (x := Prod.fst x)
  have A := kG (β := β) (T := b) (x := Prod.snd x)
  refine ⟨by rw [oW, yi, z.1, A.1]; rfl, fun j v h => ?_⟩
  rw [oW] at h
  simp only [aV]
  by_cases H : j < a.size
  ·rw [yq (by rw [z.1]; exact H)] at h
   rw [yq (by rw [bO]; exact H)]
   exact z.2 j v h
  ·rw [yt (by rw [z.1]; omega)] at h
   rw [yt (by rw [bO]; omega)]
   rw [z.1] at h; rw [bO]
   exact A.2 _ v h
theorem gL : ∀ {T : Ty} {z : List LK}, bR P T z = true → z.length = T.size
 | .int k, z, h => by simp only [bR] at h; split at h <;> first | rfl | cases h
 | .bool, z, h => by simp only [bR] at h; split at h <;> first | rfl | cases h
 | .str, z, h => by simp only [bR] at h; split at h <;> first | rfl | cases h
 | .sl ag T, z, h => by simp only [bR] at h; split at h <;> first | rfl | cases h
 | .cons a b, z, h => by
  simp only [bR] at h
  split at h
  ·rename_i l z
   simp only [yc] at h
   have h1 := gL h.2
   have h0 := nb.1 h.1.1
   show z.length + 1 = a.size + b.size
   omega
  ·cases h
theorem IT (β : Bool) (k : IntKind) (xs : List Int) : jQ β (.ints k) (.ints k xs) = some (.imm β (.ints k xs)) := by
 simp [jQ, PV.ints?, vJ.2]
theorem BG {β : Bool} {T : Ty} {l : LK} {v : KV} {q : PV} (z : bR P T [l] = true) (hl : j8 T v = true) (H : rB β v q) : jQ β l q = some v.down := by
 cases T with
 | int k =>
  obtain ⟨K, n, rfl⟩ := Er hl
  simp only [bR] at z
  split at z
  ·rename_i k2 A
   obtain rfl := (yc1 A).1
   obtain rfl := vJ.1 z
   rcases H with ⟨J, n3, h, rfl⟩ | ⟨b, h, _⟩ | ⟨s, h, _⟩ | ⟨ag, T, xs, h, _⟩
   ·obtain ⟨rfl, rfl⟩ := (by simpa using h : K = J ∧ n = n3)
    have M : gV k K = true := hl
    obtain rfl := vJ.1 M
    simp [jQ, PV.int?, KV.down, vJ.2]
   ·cases h
   ·cases h
   ·cases h
  ·cases z
 | bool =>
  obtain ⟨n, rfl⟩ := AO hl
  simp only [bR] at z
  split at z
  ·rename_i A
   obtain rfl := (yc1 A).1
   rcases H with ⟨J, n3, h, rfl⟩ | ⟨b, h, rfl⟩ | ⟨s, h, _⟩ | ⟨ag, T, xs, h, _⟩
   ·cases h
   ·obtain rfl := (by simpa using h : n = b)
    simp [jQ, PV.bool?, KV.down]
   ·cases h
   ·cases h
  ·cases z
 | str =>
  obtain ⟨n, rfl⟩ := C8 hl
  simp only [bR] at z
  split at z
  ·rename_i A
   obtain rfl := (yc1 A).1
   rcases H with ⟨J, n3, h, rfl⟩ | ⟨b, h, rfl⟩ | ⟨s, h, rfl⟩ | ⟨ag, T, xs, h, _⟩
   ·cases h
   ·cases h
   ·obtain rfl := (by simpa using h : n = s)
    simp [jQ, PV.str?, KV.down]
   ·cases h
  ·cases z
 | sl ag T =>
  rcases H with ⟨J, n3, rfl, _⟩ | ⟨b, rfl, _⟩ | ⟨s, rfl, _⟩ | ⟨N, T', xs, rfl, rfl⟩
  ·cases hl
  ·cases hl
  ·cases hl
  ·simp only [j8, yc] at hl
   obtain rfl := Mj.1 hl.1
   obtain rfl := Ty.beq_iff.1 hl.2
   simp only [bR] at z
   split at z
   ·rename_i k A
    obtain rfl := (yc1 A).1
    cases ag with
    | true => simp at z
    | false =>
     cases T with
     | int K =>
      simp only at z
      obtain rfl := vJ.1 z
      exact IT β k xs
     | _ => simp at z
   ·rename_i t e A
    obtain rfl := (yc1 A).1
    simp only [yc, yy] at z
    obtain rfl := nb.1 z.1.1.1.1
    rw [show KV.down (.tsl β ag T xs) = .imm β (iH ag T xs) from rfl, d6 z.1.1.1.2]
    simp [jQ, PV.sl?]
   ·cases z
 | cons a b => cases v <;> cases hl
theorem jW {a : Ty} (h : a.size = 1) : dZ a = [a] := by
 rcases Fl h with ⟨k, rfl⟩ | rfl | rfl | ⟨ag, T, rfl⟩ <;> rfl
theorem nW {β : Bool} {qs : List PV} : ∀ {T : Ty} {J : List LK} {vs : List KV} {c : Nat}, bR P T J = true → aZ (dZ T) vs = true → (∀ (j : Nat) (v : KV), vs[j]? = some v → ∃ q, qs[c + j]? = some q ∧ rB β v q) →
  f8 β qs J c = some (KV.downs vs)
 | .cons a b, J, vs, c, z, h, A => by
  simp only [bR] at z
  split at z
  ·rename_i l J
   simp only [yc] at z
   obtain ⟨⟨h1, M⟩, N⟩ := z
   simp only [dZ, jW (nb.1 h1), List.singleton_append] at h
   cases vs with
   | nil => cases h
   | cons v vs =>
    simp only [aZ, yc] at h
    obtain ⟨q, H, K⟩ := A 0 v rfl
    have U := nW (β := β) (qs := qs) (c := c + 1) N h.2 (fun j v O => by
     obtain ⟨q, h1, h2⟩ := A (j + 1) v (by simpa using O)
     exact ⟨q, by rw [show c + 1 + j = c + (j + 1) by omega]; exact h1, h2⟩)
    rw [yp2] at H
    simp [f8, H, BG M h.1 K, U, KV.downs]
  ·cases z
 | .int k, J, vs, c, z, h, A => rdLeaves_one rfl z h A
 | .bool, J, vs, c, z, h, A => rdLeaves_one rfl z h A
 | .str, J, vs, c, z, h, A => rdLeaves_one rfl z h A
 | .sl ag T, J, vs, c, z, h, A => rdLeaves_one rfl z h A
 where
 rdLeaves_one {β : Bool} {qs : List PV} {T : Ty} {J : List LK} {vs : List KV} {c : Nat} (h1 : T.size = 1) (z : bR P T J = true) (h : aZ (dZ T) vs = true) (A : ∀ (j : Nat) (v : KV), vs[j]? = some v → ∃ q, qs[c + j]? = some q ∧ rB β v q) :
   f8 β qs J c = some (KV.downs vs) := by
  have hl := gL z
  rw [h1] at hl
  obtain ⟨l, rfl⟩ := yh2.1 hl
  rw [jW h1] at h
  cases vs with
  | nil => cases h
  | cons v vs =>
   cases vs with
   | cons v2 vs => simp [aZ] at h
   | nil =>
    simp only [aZ, yt3] at h
    obtain ⟨q, H, K⟩ := A 0 v rfl
    rw [yp2] at H
    simp [f8, H, BG z h K, KV.downs]
theorem KR {t : TypeId} {M : TI} (ht : cA P t M) {β : Bool} {T : Ty} {x : den T} {p : PV} {c : Nat} {k : KV → Option R} (Z : p.cells = aV T x)
  (h : Cj M (((cellsOf β T x).drop c).take M.n) k = some r) : ∃ v, k v = some r ∧ Le P β t p c = some v.down := by
 unfold Cj at h
 split at h
 ·rename_i T' W
  rw [c9] at h
  obtain ⟨hl, h⟩ := h
  obtain ⟨⟨ls, K, Y⟩, hn, hag, _⟩ := ht.ty T' W
  have O : ∀ (j : Nat) (v : KV), (((cellsOf β T x).drop c).take M.n)[j]? = some v → ∃ q, p.cells[c + j]? = some q ∧ rB β v q := by
   intro j v J
   rw [yo2] at J
   split at J
   ·rw [yd1] at J
    rw [Z]; exact (kG (β := β) (x := x)).2 _ v J
   ·cases J
  have z := nW (P := P) (c := c) Y hl O
  cases N : M.ag with
  | true =>
   rw [N] at h; simp only [yg] at h
   refine ⟨_, h, ?_⟩
   unfold Le
   have H := ht.ag; rw [N] at H
   simp only [H, K, ya, ht.n, h9, gL Y, hn, z, KV.down]
   simp
  | false =>
   rw [N] at h; simp only [ye] at h
   have H := ht.ag; rw [N] at H
   obtain ⟨l, U, rfl⟩ := gB H K
   split at h
   ·rename_i v hv
    refine ⟨v, h, ?_⟩
    rw [hv] at z O
    obtain ⟨q, A, hcp⟩ := O 0 v rfl
    rw [yp2] at A
    unfold Le
    simp only [H, U, ya, A]
    simp only [f8, A, ya, KV.downs] at z
    rw [LM] at z
    obtain ⟨a, V, z⟩ := z
    rw [V]
    exact congrArg some (yc1 (yb z)).1
   ·cases h
 ·cases h
theorem Eb {rD : Nat} {k : KV → Option R} : ∀ {cs : List KV} {j : Nat}, MO (bI R) rD cs j k = some r → ∃ v, j ≤ rD ∧ cs[rD - j]? = some v ∧ k v = some r
 | [], j, h => by cases h
 | v :: cs, j, h => by
  simp only [MO, real_ite] at h
  cases z : Nat.beq rD j with
  | true =>
   rw [z] at h; simp only [yg] at h
   obtain rfl := nb.1 z
   exact ⟨v, yz _, by simp, h⟩
  | false =>
   rw [z] at h; simp only [ye] at h
   obtain ⟨w, hj, H, A⟩ := Eb h
   exact ⟨w, by omega, by rw [show rD - j = (rD - (j + 1)) + 1 by omega]; simpa using H, A⟩
theorem BN {rD : Nat} {v : KV} {z : List KV} {k : List KV → Option R} : ∀ {cs : List KV} {j : Nat}, Co (bI R) rD v z cs j k = some r → j ≤ rD ∧ rD < j + cs.length ∧ k (z.set rD v) = some r
 | [], j, h => by cases h
 | _ :: cs, j, h => by
  simp only [Co, real_ite] at h
  cases A : Nat.beq rD j with
  | true =>
   rw [A] at h; simp only [yg] at h
   obtain rfl := nb.1 A
   rw [eF] at h
   exact ⟨yz _, by simp, h⟩
  | false =>
   rw [A] at h; simp only [ye] at h
   obtain ⟨h1, h2, H⟩ := BN h
   exact ⟨by omega, by simp only [ye1]; omega, H⟩
theorem sA {cs : List KV} {i : Nat} {v : KV} (h : cs[i]? = some v) : (KV.downs cs)[i]? = some v.down := by rw [dE, yh1, h]; rfl
theorem Ma {t : TypeId} {m : a9} {b g i : Nat} {h : d8} {z : IntKind} {xs : List Int} {x : Int} (A : box? m b g = some h) (H : h.row = .ints z xs) (J : isAgg? P t = some false) (hx : xs[i]? = some x) :
  jJ P t m (.ptr b g i 0) = some { v := .lit (.int z x), rd := [b] } := by
 simp [jJ, A, H, J, hx, guardB]
theorem FT (ht : cF P tab) {t : TypeId} {a : KV} {k : bY → Option R} (h : KF (bI R) tab t mem a k = some r) : ∃ out, k out = some r ∧ jJ P t (aF mem) a.down = some out.down ∧ out.wr = [] ∧ out.push = [] := by
 unfold KF at h
 split at h
 ·rename_i ti Z
  have A := cA.of (ht _ _ Z)
  split at h
  ·rename_i β ag T x c
   obtain ⟨v, U, z⟩ := KR A (dI (ag := ag) (T := T) (x := x)) h
   exact ⟨_, U, by simp only [KV.down, jJ, z, yo]; rfl, rfl, rfl⟩
  ·rename_i b g i c
   obtain ⟨N, M, h⟩ := c7 h
   split at h
   ·rename_i e cs H
    have O : N.down.row = .cells e (KV.downs cs) := by rw [show N.down.row = N.row.down from rfl, H]; rfl
    cases W : ti.ag with
    | true =>
     rw [W] at h; simp only [yg] at h
     rw [c9] at h
     refine ⟨_, h.2, ?_, rfl, rfl⟩
     have J := A.ag; rw [W] at J
     simp only [KV.down, jJ, M, ya, O, J, yg, A.n, h9, aP, h.1, true_and]
     simp [bY.down, KV.down, dE, ym3, yn3, aF]
    | false =>
     rw [W] at h; simp only [ye] at h
     obtain ⟨v, _, V, U⟩ := Eb h
     refine ⟨_, U, ?_, rfl, rfl⟩
     have J := A.ag; rw [W] at J
     rw [Nat.sub_zero] at V
     simp only [KV.down, jJ, M, ya, O, J, ye, sA V, yo]; rfl
   ·rename_i β ag T xs H
    cases K : ti.ag && bT ag T with
    | true => rw [K] at h; cases h
    | false =>
     rw [K] at h; simp only [ye, real_getN] at h
     rw [LM] at h
     obtain ⟨x, hx, h⟩ := h
     obtain ⟨v, U, z⟩ := KR A (dI (ag := ag) (T := T) (x := x)) h
     refine ⟨_, U, ?_, rfl, rfl⟩
     have O : N.down.row = (KRow.ts β ag T xs).down := by rw [show N.down.row = N.row.down from rfl, H]
     cases hi : bT ag T with
     | false =>
      rw [KRow.down_sl hi] at O
      simp only [KV.down, jJ, M, ya, O, yh1, hx, yo, z]; rfl
     | true =>
      obtain ⟨rfl, kk, rfl⟩ := aX.1 hi
      rw [hi, yt3] at K
      have J := A.ag; rw [K] at J
      have hc : c = 0 ∧ v.down = .lit (.int kk x) := by
       unfold Le at z
       simp only [J] at z
       rw [LM] at z
       obtain ⟨l, hl, z⟩ := z
       rw [LM] at z
       obtain ⟨q, Y, z⟩ := z
       rw [dI] at Y
       cases c with
       | succ c => cases Y
       | zero =>
        obtain rfl := yb Y
        refine ⟨rfl, ?_⟩
        cases l <;> simp only [jQ, PV.int?, PV.bool?, PV.str?, PV.ints?, PV.sl?, Option.bind_none] at z <;> first | cases z | skip
        rw [LM] at z
        obtain ⟨y, hy, z⟩ := z
        rw [c9] at hy
        obtain rfl := vJ.1 hy.1
        obtain rfl := yb hy.2
        exact (yb z).symm
      obtain ⟨rfl, V⟩ := hc
      have := Ma (g := g) M (show N.down.row = .ints kk xs from O) J (show (xs : List Int)[i]? = some x from hx)
      rw [show KV.down (.ptr b g i 0) = .ptr b g i 0 from rfl, this]
      simp [bY.down, V, aF]
  ·cases h
 ·cases h
end
end Go.Ab
