import Derived.Test.YtdlbbdbbpoggfaaLib13
set_option linter.unusedVariables false
set_option linter.unusedSectionVars false
set_option linter.unusedSimpArgs false
namespace Go.Ab
variable [b4]
section
variable {P : Program} {R : Type} {r : R} {mem : aD} {tab : TypeId → Option TI}
def j4 (β : Bool) (v : KV) (q : PV) : Prop :=
 (∃ k n, v = .lit (.int k n) ∧ q = .lit (.int k n)) ∨ (∃ b, v = .lit (.bool b) ∧ q = .lit (.bool b)) ∨ (∃ s, v = .lit (.string s) ∧ q = .lit (.string s)) ∨ (∃ ag T xs, v = .tsl β ag T xs ∧ q = dL ag T xs)
theorem pH (β : Bool) (a b : Ty) (x : den (.cons a b)) : cellsOf β (.cons a b) x = cellsOf β a (Prod.fst x) ++ cellsOf β b (Prod.snd x) := rfl
theorem jN {β : Bool} : ∀ {T : Ty} {x : den T}, (cellsOf β T x).length = T.size ∧ ∀ (j : Nat) (v : KV), (cellsOf β T x)[j]? = some v → ∃ q, (aM T x)[j]? = some q ∧ j4 β v q
 | .int k, x => ⟨rfl, fun j v h => by
  cases j with
  | zero => obtain rfl := ya h; exact ⟨_, rfl, .inl ⟨k, x, rfl, rfl⟩⟩
  | succ j => cases h⟩
 | .bool, x => ⟨rfl, fun j v h => by
  cases j with
  | zero => obtain rfl := ya h; exact ⟨_, rfl, .inr (.inl ⟨x, rfl, rfl⟩)⟩
  | succ j => cases h⟩
 | .str, x => ⟨rfl, fun j v h => by
  cases j with
  | zero => obtain rfl := ya h; exact ⟨_, rfl, .inr (.inr (.inl ⟨x, rfl, rfl⟩))⟩
  | succ j => cases h⟩
 | .sl ag T, x => ⟨rfl, fun j v h => by
  cases j with
  | zero => obtain rfl := ya h; exact ⟨_, rfl, .inr (.inr (.inr ⟨ag, T, x, rfl, rfl⟩))⟩
  | succ j => cases h⟩
 | .cons a b, x => by
  have H := jN (β := β) (T := a) (x := Prod.fst x)
  have I := jN (β := β) (T := b) (x := Prod.snd x)
  refine ⟨by rw [pH, yi1, H.1, I.1]; rfl, fun j v h => ?_⟩
  rw [pH] at h
  simp only [aM]
  by_cases J : j < a.size
  ·rw [yn (by rw [H.1]; exact J)] at h
   rw [yn (by rw [bR]; exact J)]
   exact H.2 j v h
  ·rw [yu (by rw [H.1]; omega)] at h
   rw [yu (by rw [bR]; omega)]
   rw [H.1] at h; rw [bR]
   exact I.2 _ v h
theorem d7 : ∀ {T : Ty} {ls : List LK}, aS P T ls = true → ls.length = T.size
 | .int k, ls, h => by simp only [aS] at h; split at h <;> first | rfl | cases h
 | .bool, ls, h => by simp only [aS] at h; split at h <;> first | rfl | cases h
 | .str, ls, h => by simp only [aS] at h; split at h <;> first | rfl | cases h
 | .sl ag T, ls, h => by simp only [aS] at h; split at h <;> first | rfl | cases h
 | .cons a b, ls, h => by
  simp only [aS] at h
  split at h
  ·rename_i l ls
   simp only [yb] at h
   have h1 := d7 h.2
   have h0 := nb.1 h.1.1
   show ls.length + 1 = a.size + b.size
   omega
  ·cases h
theorem IH (β : Bool) (k : IntKind) (xs : List Int) : fT β (.ints k) (.ints k xs) = some (.imm β (.ints k xs)) := by
 simp [fT, PV.ints?, rW.2]
theorem vC {β : Bool} {T : Ty} {l : LK} {v : KV} {q : PV} (H : aS P T [l] = true) (I : iL T v = true) (K : j4 β v q) : fT β l q = some v.down := by
 cases T with
 | int k =>
  obtain ⟨U, n, rfl⟩ := D7 I
  simp only [aS] at H
  split at H
  ·rename_i k2 J
   obtain rfl := (yx J).1
   obtain rfl := rW.1 H
   rcases K with ⟨N, M, h, rfl⟩ | ⟨b, h, _⟩ | ⟨s, h, _⟩ | ⟨ag, T, xs, h, _⟩
   ·obtain ⟨rfl, rfl⟩ := (by simpa using h : U = N ∧ n = M)
    have O : gK k U = true := I
    obtain rfl := rW.1 O
    simp [fT, PV.int?, KV.down, rW.2]
   ·cases h
   ·cases h
   ·cases h
  ·cases H
 | bool =>
  obtain ⟨n, rfl⟩ := BA I
  simp only [aS] at H
  split at H
  ·rename_i J
   obtain rfl := (yx J).1
   rcases K with ⟨N, M, h, rfl⟩ | ⟨b, h, rfl⟩ | ⟨s, h, _⟩ | ⟨ag, T, xs, h, _⟩
   ·cases h
   ·obtain rfl := (by simpa using h : n = b)
    simp [fT, PV.bool?, KV.down]
   ·cases h
   ·cases h
  ·cases H
 | str =>
  obtain ⟨n, rfl⟩ := Eg I
  simp only [aS] at H
  split at H
  ·rename_i J
   obtain rfl := (yx J).1
   rcases K with ⟨N, M, h, rfl⟩ | ⟨b, h, rfl⟩ | ⟨s, h, rfl⟩ | ⟨ag, T, xs, h, _⟩
   ·cases h
   ·cases h
   ·obtain rfl := (by simpa using h : n = s)
    simp [fT, PV.str?, KV.down]
   ·cases h
  ·cases H
 | sl ag T =>
  rcases K with ⟨N, M, rfl, _⟩ | ⟨b, rfl, _⟩ | ⟨s, rfl, _⟩ | ⟨V, T', xs, rfl, rfl⟩
  ·cases I
  ·cases I
  ·cases I
  ·simp only [iL, yb] at I
   obtain rfl := Ip.1 I.1
   obtain rfl := Ty.beq_iff.1 I.2
   simp only [aS] at H
   split at H
   ·rename_i k J
    obtain rfl := (yx J).1
    cases ag with
    | true => simp at H
    | false =>
     cases T with
     | int U =>
      simp only at H
      obtain rfl := rW.1 H
      exact IH β k xs
     | _ => simp at H
   ·rename_i t e J
    obtain rfl := (yx J).1
    simp only [yb, yq] at H
    obtain rfl := nb.1 H.1.1.1.1
    rw [show KV.down (.tsl β ag T xs) = .imm β (dL ag T xs) from rfl, bX H.1.1.1.2]
    simp [fT, PV.sl?]
   ·cases H
 | cons a b => cases v <;> cases I
theorem fQ {a : Ty} (h : a.size = 1) : c6 a = [a] := by
 rcases yM h with ⟨k, rfl⟩ | rfl | rfl | ⟨ag, T, rfl⟩ <;> rfl
theorem oI {β : Bool} {qs : List PV} : ∀ {T : Ty} {ls : List LK} {vs : List KV} {c : Nat}, aS P T ls = true → aQ (c6 T) vs = true → (∀ (j : Nat) (v : KV), vs[j]? = some v → ∃ q, qs[c + j]? = some q ∧ j4 β v q) →
  gG β qs ls c = some (KV.downs vs)
 | .cons a b, ls, vs, c, I, H, J => by
  simp only [aS] at I
  split at I
  ·rename_i l ls
   simp only [yb] at I
   obtain ⟨⟨N, U⟩, O⟩ := I
   simp only [c6, fQ (nb.1 N), List.singleton_append] at H
   cases vs with
   | nil => cases H
   | cons v vs =>
    simp only [aQ, yb] at H
    obtain ⟨q, K, M⟩ := J 0 v rfl
    have Y := oI (β := β) (qs := qs) (c := c + 1) O H.2 (fun j v W => by
     obtain ⟨q, N, Z⟩ := J (j + 1) v (by simpa using W)
     exact ⟨q, by rw [show c + 1 + j = c + (j + 1) by omega]; exact N, Z⟩)
    rw [ym1] at K
    simp [gG, K, vC U H.1 M, Y, KV.downs]
  ·cases I
 | .int k, ls, vs, c, I, H, J => rdLeaves_one rfl I H J
 | .bool, ls, vs, c, I, H, J => rdLeaves_one rfl I H J
 | .str, ls, vs, c, I, H, J => rdLeaves_one rfl I H J
 | .sl ag T, ls, vs, c, I, H, J => rdLeaves_one rfl I H J
 where
 rdLeaves_one {β : Bool} {qs : List PV} {T : Ty} {ls : List LK} {vs : List KV} {c : Nat} (N : T.size = 1) (I : aS P T ls = true) (H : aQ (c6 T) vs = true) (J : ∀ (j : Nat) (v : KV), vs[j]? = some v → ∃ q, qs[c + j]? = some q ∧ j4 β v q) :
   gG β qs ls c = some (KV.downs vs) := by
  have V := d7 I
  rw [N] at V
  obtain ⟨l, rfl⟩ := ye2.1 V
  rw [fQ N] at H
  cases vs with
  | nil => cases H
  | cons v vs =>
   cases vs with
   | cons v2 vs => simp [aQ] at H
   | nil =>
    simp only [aQ, yg3] at H
    obtain ⟨q, K, M⟩ := J 0 v rfl
    rw [ym1] at K
    simp [gG, K, vC I H M, KV.downs]
theorem LD {t : TypeId} {M : TI} (ht : bV P t M) {β : Bool} {T : Ty} {x : den T} {p : PV} {c : Nat} {k : KV → Option R} (hp : p.cells = aM T x)
  (h : C6 M (((cellsOf β T x).drop c).take M.n) k = some r) : ∃ v, k v = some r ∧ LR P β t p c = some v.down := by
 unfold C6 at h
 split at h
 ·rename_i T' W
  rw [bP] at h
  obtain ⟨hl, h⟩ := h
  obtain ⟨⟨ls, K, Y⟩, hn, hag, _⟩ := ht.ty T' W
  have U : ∀ (j : Nat) (v : KV), (((cellsOf β T x).drop c).take M.n)[j]? = some v → ∃ q, p.cells[c + j]? = some q ∧ j4 β v q := by
   intro j v J
   rw [yj1] at J
   split at J
   ·rw [yz] at J
    rw [hp]; exact (jN (β := β) (x := x)).2 _ v J
   ·cases J
  have hr := oI (P := P) (c := c) Y hl U
  cases N : M.ag with
  | true =>
   rw [N] at h; simp only [yl] at h
   refine ⟨_, h, ?_⟩
   unfold LR
   have I := ht.ag; rw [N] at I
   simp only [I, K, ye, ht.n, d9, d7 Y, hn, hr, KV.down]
   simp
  | false =>
   rw [N] at h; simp only [yk] at h
   have I := ht.ag; rw [N] at I
   obtain ⟨l, O, rfl⟩ := fA I K
   split at h
   ·rename_i v hv
    refine ⟨v, h, ?_⟩
    rw [hv] at hr U
    obtain ⟨q, H, Z⟩ := U 0 v rfl
    rw [ym1] at H
    unfold LR
    simp only [I, O, ye, H]
    simp only [gG, H, ye, KV.downs] at hr
    rw [C3] at hr
    obtain ⟨a, V, hr⟩ := hr
    rw [V]
    exact congrArg some (yx (ya hr)).1
   ·cases h
 ·cases h
theorem Fe {s9 : Nat} {k : KV → Option R} : ∀ {cs : List KV} {j : Nat}, N9 (aP R) s9 cs j k = some r → ∃ v, j ≤ s9 ∧ cs[s9 - j]? = some v ∧ k v = some r
 | [], j, h => by cases h
 | v :: cs, j, h => by
  simp only [N9, real_ite] at h
  cases H : Nat.beq s9 j with
  | true =>
   rw [H] at h; simp only [yl] at h
   obtain rfl := nb.1 H
   exact ⟨v, yy _, by simp, h⟩
  | false =>
   rw [H] at h; simp only [yk] at h
   obtain ⟨w, hj, J, I⟩ := Fe h
   exact ⟨w, by omega, by rw [show s9 - j = (s9 - (j + 1)) + 1 by omega]; simpa using J, I⟩
theorem B8 {s9 : Nat} {v : KV} {H : List KV} {k : List KV → Option R} : ∀ {cs : List KV} {j : Nat}, C8 (aP R) s9 v H cs j k = some r → j ≤ s9 ∧ s9 < j + cs.length ∧ k (H.set s9 v) = some r
 | [], j, h => by cases h
 | _ :: cs, j, h => by
  simp only [C8, real_ite] at h
  cases I : Nat.beq s9 j with
  | true =>
   rw [I] at h; simp only [yl] at h
   obtain rfl := nb.1 I
   rw [d5] at h
   exact ⟨yy _, by simp, h⟩
  | false =>
   rw [I] at h; simp only [yk] at h
   obtain ⟨h1, h2, J⟩ := B8 h
   exact ⟨by omega, by simp only [yg2]; omega, J⟩
theorem oT {cs : List KV} {i : Nat} {v : KV} (h : cs[i]? = some v) : (KV.downs cs)[i]? = some v.down := by rw [cZ, yb1, h]; rfl
theorem Mh {t : TypeId} {m : aH} {b g i : Nat} {H : a9} {I : IntKind} {xs : List Int} {x : Int} (J : box? m b g = some H) (hr : H.row = .ints I xs) (M : isAgg? P t = some false) (K : xs[i]? = some x) :
  iU P t m (.ptr b g i 0) = some { v := .lit (.int I x), rd := [b] } := by
 simp [iU, J, hr, M, K, guardB]
theorem GB (ht : bI P tab) {t : TypeId} {a : KV} {k : aZ → Option R} (h : L7 (aP R) tab t mem a k = some r) : ∃ out, k out = some r ∧ iU P t (aB mem) a.down = some out.down ∧ out.wr = [] ∧ out.push = [] := by
 unfold L7 at h
 split at h
 ·rename_i ti hti
  have H := bV.of (ht _ _ hti)
  split at h
  ·rename_i β ag T x c
   obtain ⟨v, U, hr⟩ := LD H (b7 (ag := ag) (T := T) (x := x)) h
   exact ⟨_, U, by simp only [KV.down, iU, hr, yg]; rfl, rfl, rfl⟩
  ·rename_i b g i c
   obtain ⟨N, J, h⟩ := cQ h
   split at h
   ·rename_i e cs I
    have O : N.down.row = .cells e (KV.downs cs) := by rw [show N.down.row = N.row.down from rfl, I]; rfl
    cases W : ti.ag with
    | true =>
     rw [W] at h; simp only [yl] at h
     rw [bP] at h
     refine ⟨_, h.2, ?_, rfl, rfl⟩
     have K := H.ag; rw [W] at K
     simp only [KV.down, iU, J, ye, O, K, yl, H.n, d9, aG, h.1, true_and]
     simp [aZ.down, KV.down, cZ, yz2, yn3, aB]
    | false =>
     rw [W] at h; simp only [yk] at h
     obtain ⟨v, _, V, U⟩ := Fe h
     refine ⟨_, U, ?_, rfl, rfl⟩
     have K := H.ag; rw [W] at K
     rw [Nat.sub_zero] at V
     simp only [KV.down, iU, J, ye, O, K, yk, oT V, yg]; rfl
   ·rename_i β ag T xs I
    cases M : ti.ag && aY ag T with
    | true => rw [M] at h; cases h
    | false =>
     rw [M] at h; simp only [yk, real_getN] at h
     rw [C3] at h
     obtain ⟨x, hx, h⟩ := h
     obtain ⟨v, U, hr⟩ := LD H (b7 (ag := ag) (T := T) (x := x)) h
     refine ⟨_, U, ?_, rfl, rfl⟩
     have O : N.down.row = (KRow.ts β ag T xs).down := by rw [show N.down.row = N.row.down from rfl, I]
     cases hi : aY ag T with
     | false =>
      rw [KRow.down_sl hi] at O
      simp only [KV.down, iU, J, ye, O, yb1, hx, yg, hr]; rfl
     | true =>
      obtain ⟨rfl, kk, rfl⟩ := aK.1 hi
      rw [hi, yg3] at M
      have K := H.ag; rw [M] at K
      have hc : c = 0 ∧ v.down = .lit (.int kk x) := by
       unfold LR at hr
       simp only [K] at hr
       rw [C3] at hr
       obtain ⟨l, hl, hr⟩ := hr
       rw [C3] at hr
       obtain ⟨q, Y, hr⟩ := hr
       rw [b7] at Y
       cases c with
       | succ c => cases Y
       | zero =>
        obtain rfl := ya Y
        refine ⟨rfl, ?_⟩
        cases l <;> simp only [fT, PV.int?, PV.bool?, PV.str?, PV.ints?, PV.sl?, Option.bind_none] at hr <;> first | cases hr | skip
        rw [C3] at hr
        obtain ⟨y, Z, hr⟩ := hr
        rw [bP] at Z
        obtain rfl := rW.1 Z.1
        obtain rfl := ya Z.2
        exact (ya hr).symm
      obtain ⟨rfl, V⟩ := hc
      have := Mh (g := g) J (show N.down.row = .ints kk xs from O) K (show (xs : List Int)[i]? = some x from hx)
      rw [show KV.down (.ptr b g i 0) = .ptr b g i 0 from rfl, this]
      simp [aZ.down, V, aB]
   ·cases h
  ·cases h
 ·cases h
end
end Go.Ab
