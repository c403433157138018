import Derived.Test.YtdlbbdbbpoggfaaLib10
set_option linter.unusedVariables false
set_option linter.unusedSectionVars false
set_option linter.unusedSimpArgs false
namespace Go.Ab
variable [b4]
section
variable {P : Program} {R : Type} {r : R} {mem : aD}
theorem HH {α β γ : Type} {f : γ → α → Option (Bool × β × List Nat)} {l : γ} {v : α} {a : Bool × β × List Nat} (h : f l v = some a) : b3 f [l] [v] = some (a.1, [a.2.1], a.2.2) := by
 simp [b3, h]
theorem I1 {α β γ : Type} {f : γ → α → Option (Bool × β × List Nat)} {l : γ} {ls : List γ} {v : α} {vs : List α} {β1 β2 : Bool} {p q : List β} {i j : List Nat}
  (H : b3 f [l] [v] = some (β1, p, i)) (K : b3 f ls vs = some (β2, q, j)) : b3 f (l :: ls) (v :: vs) = some (β1 || β2, p ++ q, i ++ j) := by
 simp only [b3, C7] at H
 obtain ⟨a, J, b, I, H⟩ := H
 obtain rfl := ya I
 simp only [Option.some.injEq, Prod.mk.injEq, Bool.or_false, yg1] at H
 obtain ⟨rfl, rfl, rfl⟩ := H
 simp [b3, J, K]
theorem pA {t : TypeId} {ag : Bool} {T : Ty} (h : isAgg? P t = some ag) (hs : ag = false → T.size = 1) (x : den T) : vO P t (aM T x) = some (cT ag T x) := by
 unfold vO
 rw [h]
 cases ag with
 | true => rfl
 | false =>
  have H := bP (T := T) (x := x)
  rw [hs rfl] at H
  obtain ⟨c, I⟩ := ye2.1 H
  rw [I, cT, I]; rfl
theorem lY {β ag : Bool} {T : Ty} (h : gL ag T = false) : Aa β ag T = β := by
 cases T <;> cases ag <;> first | rfl | cases h
theorem zB {α β : Type} (f : α → β) (e : Nat) : ∀ (n : Nat) (cs : List α), chunks e n (cs.map f) = (chunks e n cs).map (List.map f)
 | 0, _ => rfl
 | n + 1, cs => by simp only [chunks, yx1, ← yn3, ← yz2, zB f e n]
theorem x5 {a : Ty} (h : a.size = 1) : (∃ k, a = .int k) ∨ a = .bool ∨ a = .str ∨ ∃ ag T, a = .sl ag T := by
 cases a with
 | int k => exact .inl ⟨k, rfl⟩
 | bool => exact .inr (.inl rfl)
 | str => exact .inr (.inr (.inl rfl))
 | sl ag T => exact .inr (.inr (.inr ⟨ag, T, rfl⟩))
 | cons a b => have h1 := Ty.size_pos (T := a); have h2 := Ty.size_pos (T := b); have : a.size + b.size = 1 := h; omega
theorem Cf {ag : Bool} {T : Ty} {f : List KV → (den T → Bool → List Nat → Option R) → Option R} {g : List AV → Option (Bool × PV × List Nat)}
  (I : ∀ (c : List KV) (K : den T → Bool → List Nat → Option R), f c K = some r → ∃ x β l, K x β l = some r ∧ g (KV.downs c) = some (β, cT ag T x, l)) :
  ∀ {cs : List (List KV)} {K : List (den T) → Bool → List Nat → Option R}, eT.denAll ag T f cs K = some r →
   ∃ xs β l, K xs β l = some r ∧ fY g (cs.map (List.map KV.down)) = some (β, xs.map (cT ag T), l)
 | [], K, h => ⟨[], false, [], h, rfl⟩
 | c :: cs, K, h => by
  simp only [eT.denAll] at h
  obtain ⟨x, β1, M, h, J⟩ := I _ _ h
  obtain ⟨xs, β2, N, h, H⟩ := Cf I h
  rw [cY] at J
  exact ⟨x :: xs, β1 || β2, M ++ N, h, by simp [fY, J, H]⟩
theorem D4 {k : IntKind} : ∀ {cs : List KV} {K : List Int → Bool → List Nat → Option R}, eT.denAll false (.int k) (eT (aP R) mem (.int k)) (chunks 1 cs.length cs) K = some r →
   ∃ xs : List Int, K xs false [] = some r ∧ fA k (KV.downs cs) = some xs
 | [], K, h => ⟨[], h, rfl⟩
 | c :: cs, K, h => by
  simp only [yg2, chunks, List.take_succ_cons, List.take_zero, List.drop_succ_cons, List.drop_zero, eT.denAll, eT] at h
  split at h
  ·rename_i k' x I
   rw [bR] at h
   obtain ⟨J, h⟩ := h
   obtain ⟨xs, h, H⟩ := D4 h
   simp only [List.cons.injEq, and_true] at I
   subst I
   exact ⟨x :: xs, h, by simp [KV.downs, KV.down, fA, J, H]⟩
  ·cases h
theorem yL (b : Nat) {ag : Bool} {T : Ty} {n : Nat} {l : LK} (I : aS P (.sl ag T) [l] = true)
  (ih : ∀ {ls : List LK} {cs : List KV} {K : den T → Bool → List Nat → Option R}, aS P T ls = true → eT (aP R) mem T cs K = some r → ∃ x β l, K x β l = some r ∧ b3 (a5 P (aB mem) n) ls (KV.downs cs) = some (β, aM T x, l))
  {row : KRow} {K : List (den T) → Bool → List Nat → Option R} (h : eT.denRow ag T (eT (aP R) mem T) b row K = some r) :
  ∃ xs β is, K xs β is = some r ∧ (match l with
   | .ints k => a5.treeInts k b row.view
   | .sl t e => a5.treeSl P (a5 P (aB mem) n) t e b row.view
   | _ => none) = some (β, dN ag T xs, is) := by
 simp only [aS] at I
 split at I
 ·rename_i k hk
  obtain rfl := (yx hk).1
  cases ag with
  | true => simp at I
  | false =>
   cases T with
   | int k' =>
    simp only at I
    obtain rfl := rW.1 I
    cases row with
    | os => cases h
    | ts β Z T' xs =>
     simp only [eT.denRow] at h
     rw [bR] at h
     obtain ⟨V, h⟩ := h
     obtain rfl := Ip.1 V
     split at h
     ·rename_i ys hy
      obtain ⟨rfl, rfl⟩ := dW hy
      exact ⟨xs, _, _, h, by show a5.treeInts k b (.ints k xs) = some (false, .ints k xs, [b]); simp only [a5.treeInts, eB, rW, true_and]⟩
     ·cases h
    | cells e cs =>
     simp only [eT.denRow] at h
     rw [bR] at h
     obtain ⟨W, h⟩ := h
     obtain rfl := nb.1 W
     have hc : aN (Ty.size (.int k)) cs.length = cs.length := rfl
     rw [hc] at h
     obtain ⟨xs, h, Y⟩ := D4 h
     exact ⟨xs, _, _, h, by simp [KRow.view, a5.treeInts, guardB, Ty.size, Y, Mq]⟩
   | _ => simp at I
 ·rename_i t e hk
  obtain rfl := (yx hk).1
  simp only [yb, yq] at I
  obtain ⟨⟨⟨⟨W, H⟩, J⟩, U⟩, M⟩ := I
  obtain rfl := nb.1 W
  have O : isAgg? P t = some ag := by
   split at J
   ·rename_i a V; rw [V, Ip.1 J]
   ·cases J
  have N : ag = false → T.size = 1 := fun e => by rw [e] at U; exact nb.1 (by simpa using U)
  split at M
  ·rename_i ls' hl'
   cases row with
   | os => cases h
   | ts β Z T' xs =>
    simp only [eT.denRow] at h
    rw [bR] at h
    obtain ⟨V, h⟩ := h
    obtain rfl := Ip.1 V
    split at h
    ·rename_i ys hy
     obtain ⟨rfl, rfl⟩ := dW hy
     refine ⟨xs, _, _, h, ?_⟩
     rw [KRow.view_sl H, lY H, bX H]
     simp [a5.treeSl, guardB]
    ·cases h
   | cells e cs =>
    simp only [eT.denRow] at h
    rw [bR] at h
    obtain ⟨W, h⟩ := h
    obtain rfl := nb.1 W
    obtain ⟨xs, β, is, h, Y⟩ := Cf (ag := ag) (g := fun vs => (b3 (a5 P (aB mem) n) ls' vs).bind fun q => (vO P t q.2.1).map fun p => (q.1, p, q.2.2)) (fun c K hc => by
     obtain ⟨x, β, l, hK, hz⟩ := ih M hc
     exact ⟨x, β, l, hK, by simp [hz, pA O N]⟩) h
    refine ⟨xs, β, _, h, ?_⟩
    rw [← zB, ← cY] at Y
    rw [bX H]
    simp only [KRow.view, a5.treeSl, eB, hl', ye]
    rw [aG, Y]
    simp [guardB, Ty.size_pos, nl.2 Ty.size_pos]
  ·cases M
 ·cases I
theorem kA : ∀ {T : Ty} {ls : List LK} {cs : List KV} {n : Nat} {K : den T → Bool → List Nat → Option R}, aS P T ls = true → T.depth ≤ n → eT (aP R) mem T cs K = some r →
  ∃ x β l, K x β l = some r ∧ b3 (a5 P (aB mem) n) ls (KV.downs cs) = some (β, aM T x, l)
 | .int k, ls, cs, n, K, H, hn, h => by
  obtain ⟨n, rfl⟩ : ∃ m, n = m + 1 := ⟨n - 1, by have : 1 ≤ n := hn; omega⟩
  simp only [aS] at H
  split at H
  ·rename_i O
   obtain rfl := rW.1 H
   simp only [eT] at h
   split at h
   ·rename_i O x
    rw [bR] at h
    exact ⟨x, false, [], h.2, HH (β := PV) (f := a5 P (aB mem) (n + 1)) (a := (false, PV.lit (.int k x), [])) (by simp [a5, KV.down, guardB, h.1, (rW.1 h.1).symm, rW.2])⟩
   ·cases h
  ·cases H
 | .bool, ls, cs, n, K, H, hn, h => by
  obtain ⟨n, rfl⟩ : ∃ m, n = m + 1 := ⟨n - 1, by have : 1 ≤ n := hn; omega⟩
  simp only [aS] at H
  split at H
  ·simp only [eT] at h
   split at h
   ·rename_i x
    exact ⟨x, false, [], h, HH (β := PV) (f := a5 P (aB mem) (n + 1)) (a := (false, PV.lit (.bool x), [])) (by simp [a5, KV.down])⟩
   ·cases h
  ·cases H
 | .str, ls, cs, n, K, H, hn, h => by
  obtain ⟨n, rfl⟩ : ∃ m, n = m + 1 := ⟨n - 1, by have : 1 ≤ n := hn; omega⟩
  simp only [aS] at H
  split at H
  ·simp only [eT] at h
   split at h
   ·rename_i x
    exact ⟨x, false, [], h, HH (β := PV) (f := a5 P (aB mem) (n + 1)) (a := (false, PV.lit (.string x), [])) (by simp [a5, KV.down])⟩
   ·cases h
  ·cases H
 | .sl ag T, ls, cs, n, K, H, hn, h => by
  obtain ⟨n, rfl⟩ : ∃ m, n = m + 1 := ⟨n - 1, by have : T.depth + 1 ≤ n := hn; omega⟩
  have U : T.depth ≤ n := by have : T.depth + 1 ≤ n + 1 := hn; omega
  have W : ∃ l, ls = [l] := by
   simp only [aS] at H
   split at H
   ·exact ⟨_, rfl⟩
   ·exact ⟨_, rfl⟩
   ·cases H
  obtain ⟨l, rfl⟩ := W
  have ih : ∀ {ls : List LK} {cs : List KV} {K : den T → Bool → List Nat → Option R}, aS P T ls = true → eT (aP R) mem T cs K = some r → ∃ x β l, K x β l = some r ∧ b3 (a5 P (aB mem) n) ls (KV.downs cs) = some (β, aM T x, l) :=
   fun H h => kA H U h
  simp only [eT] at h
  split at h
  ·rename_i β ag' T' xs
   rw [bR] at h
   obtain ⟨ha, h⟩ := h
   obtain rfl := Ip.1 ha
   split at h
   ·rename_i ys M
    obtain ⟨rfl, rfl⟩ := dW M
    refine ⟨xs, β, [], h, HH (f := a5 P (aB mem) (n + 1)) (a := (β, dN ag T' xs, [])) ?_⟩
    simp only [aS] at H
    split at H
    ·rename_i k J
     obtain rfl := (yx J).1
     cases ag with
     | true => simp at H
     | false =>
      cases T' with
      | int O =>
       simp only at H
       obtain rfl := rW.1 H
       show a5 P (aB mem) (n + 1) (.ints k) (.imm β (.ints k xs)) = some (β, .ints k xs, [])
       simp [a5, guardB, rW.2]
      | _ => simp at H
    ·rename_i t e J
     obtain rfl := (yx J).1
     simp only [yb, yq] at H
     obtain rfl := nb.1 H.1.1.1.1
     simp [a5, KV.down, bX H.1.1.1.2, guardB]
    ·cases H
   ·cases h
  ·refine ⟨[], false, [], h, HH (f := a5 P (aB mem) (n + 1)) (a := (false, dN ag T [], [])) ?_⟩
   simp only [aS] at H
   split at H
   ·rename_i k J
    obtain rfl := (yx J).1
    cases ag with
    | true => simp at H
    | false =>
     cases T with
     | int O => simp only at H; obtain rfl := rW.1 H; simp [a5, KV.down]; rfl
     | _ => simp at H
   ·rename_i t e J
    obtain rfl := (yx J).1
    simp only [yb, yq] at H
    obtain rfl := nb.1 H.1.1.1.1
    simp [a5, KV.down, bX H.1.1.1.2]
   ·cases H
  ·rename_i b g
   obtain ⟨x, I, h⟩ := cQ h
   obtain ⟨xs, β, is, h, ht⟩ := yL b H ih h
   refine ⟨xs, β, is, h, HH (f := a5 P (aB mem) (n + 1)) (a := (β, dN ag T xs, is)) ?_⟩
   cases l <;> simp only at ht <;> first | cases ht | skip
   ·simp only [KV.down, a5, I, ye]; rw [show x.down.row = x.row.down from rfl, C6]; exact ht
   ·simp only [KV.down, a5, I, ye]; rw [show x.down.row = x.row.down from rfl, C6]; exact ht
  ·rename_i b g o m
   obtain ⟨x, I, h⟩ := cQ h
   obtain ⟨w, hw, h, _⟩ := Ds h
   obtain ⟨xs, β, is, h, ht⟩ := yL b H ih h
   refine ⟨xs, β, is, h, HH (f := a5 P (aB mem) (n + 1)) (a := (β, dN ag T xs, is)) ?_⟩
   cases l <;> simp only at ht <;> first | cases ht | skip
   ·simp only [KV.down, a5, I, ye]; rw [show x.down.row = x.row.down from rfl, hw]; exact ht
   ·simp only [KV.down, a5, I, ye]; rw [show x.down.row = x.row.down from rfl, hw]; exact ht
  ·cases h
 | .cons a b, ls, cs, n, K, H, hn, h => by
  have Z : a.depth ≤ n := ya2 (Nat.le_max_left _ _) (show max a.depth b.depth ≤ n from hn)
  have Y : b.depth ≤ n := ya2 (Nat.le_max_right _ _) (show max a.depth b.depth ≤ n from hn)
  simp only [aS] at H
  split at H
  ·rename_i l ls
   simp only [yb] at H
   obtain ⟨⟨N, hla⟩, V⟩ := H
   have N := nb.1 N
   simp only [eT, N] at h
   obtain ⟨x, β1, l1, h, I⟩ := kA hla Z h
   obtain ⟨y, β2, l2, h, M⟩ := kA V Y h
   refine ⟨(x, y), β1 || β2, l1 ++ l2, h, ?_⟩
   cases cs with
   | nil => simp [KV.downs, b3] at I
   | cons v vs =>
    simp only [List.take_succ_cons, List.take_zero, List.drop_succ_cons, List.drop_zero] at I M
    exact I1 I M
  ·cases H
theorem Ka {v : KV} (h : Dh mem [v] = none) : nK (aB mem) v.down = none := by
 have I : ∀ b g, (∀ z, dZ mem b = some (some z) → (Nat.beq z.gen g && gX z.row && !z.frz) = false) → ∀ x, boxO? (aB mem) b g = some x → x.frz = true := by
  intro b g h x H
  unfold boxO? at H
  rw [eM, ← aX] at H
  cases J : dZ mem b with
  | none => rw [J] at H; cases H
  | some y => cases y with
   | none => rw [J] at H; cases H
   | some z =>
    have h := h z J
    rw [J] at H
    simp only [yg, dD.down, dJ] at H
    cases O : Nat.beq z.gen g && gX z.row with
    | false => rw [O] at H; cases H
    | true =>
     rw [O] at H h
     obtain rfl := ya H
     simpa using h
 cases v with
 | msw b g =>
  simp only [KV.down, nK]
  cases H : boxO? (aB mem) b g with
  | none => rfl
  | some x =>
   have K := I b g (fun z N => by
    simp only [Dh, N] at h
    cases M : Nat.beq z.gen g && gX z.row && !z.frz with
    | true => rw [M] at h; cases h
    | false => rfl) x H
   simp only [ye]
   split
   ·rw [K]; rfl
   ·rfl
 | ms b g o n =>
  cases o with
  | succ o => rfl
  | zero =>
   simp only [KV.down, nK]
   cases H : boxO? (aB mem) b g with
   | none => rfl
   | some x =>
    have K := I b g (fun z N => by
     simp only [Dh, N] at h
     cases M : Nat.beq z.gen g && gX z.row && !z.frz with
     | true => rw [M] at h; cases h
     | false => rfl) x H
    simp only [ye]
    split
    ·rw [K]; rfl
    ·rfl
 | _ => rfl
theorem KL {l : LK} {v : AV} {m : aH} (h : nK m v = none) : i9 P m l v = a5 P m GQ l v := by
 unfold i9; rw [h]
theorem OY {α β γ : Type} {f g : γ → α → Option (Bool × β × List Nat)} {l : γ} {v : α} (h : f l v = g l v) : b3 f [l] [v] = b3 g [l] [v] := by simp [b3, h]
theorem Bg {T : Ty} {ls : List LK} (H : T.size = 1) (h : aS P T ls = true) : ∃ l, ls = [l] := by
 rcases x5 H with ⟨k, rfl⟩ | rfl | rfl | ⟨ag, T, rfl⟩ <;> (simp only [aS] at h; split at h <;> first | exact ⟨_, rfl⟩ | cases h)
theorem Ot {ls : List LK} {cs : List KV} {q : Bool × List PV × List Nat} (H : ∃ l, ls = [l]) (hn : ∀ v, cs = [v] → Dh mem [v] = none) (h : b3 (a5 P (aB mem) 6) ls (KV.downs cs) = some q) :
  b3 (i9 P (aB mem)) ls (KV.downs cs) = some q := by
 obtain ⟨l, rfl⟩ := H
 cases cs with
 | nil => cases h
 | cons v vs => cases vs with
  | cons w ws =>
   simp only [KV.downs, b3, C7] at h
   obtain ⟨_, _, _, h, _⟩ := h
   cases h
  | nil =>
   rw [← h]
   exact OY (KL (Ka (hn v rfl)))
theorem NA {T : Ty} {l : LK} (H : aS P (.sl (eY T) T) [l] = true) : ∃ t, l = .sl t T.size := by
 simp only [aS] at H
 split at H
 ·rename_i k J
  cases I : eY T with
  | true => rw [I] at H; simp at H
  | false =>
   rw [I] at H
   cases T with
   | int k' => cases I
   | _ => simp at H
 ·rename_i t e J
  obtain rfl := (yx J).1
  simp only [yb, yq] at H
  obtain rfl := nb.1 H.1.1.1.1
  exact ⟨t, rfl⟩
 ·cases H
theorem l8 : ∀ {T : Ty} {ls : List LK} {cs : List KV} {K : den T → Bool → List Nat → Option R}, aS P T ls = true → T.depth ≤ 6 → wX (aP R) mem T cs K = some r →
  ∃ x β l, K x β l = some r ∧ b3 (i9 P (aB mem)) ls (KV.downs cs) = some (β, aM T x, l)
 | .int k, ls, cs, K, H, hn, h => by
  simp only [wX] at h
  have Y := h
  obtain ⟨x, β, l, hK, W⟩ := kA H hn h
  refine ⟨x, β, l, hK, Ot (Bg rfl H) (fun v U => ?_) W⟩
  subst U
  cases v <;> first | rfl | (simp [eT] at Y)
 | .bool, ls, cs, K, H, hn, h => by
  simp only [wX] at h
  have Y := h
  obtain ⟨x, β, l, hK, W⟩ := kA H hn h
  refine ⟨x, β, l, hK, Ot (Bg rfl H) (fun v U => ?_) W⟩
  subst U
  cases v <;> first | rfl | (simp [eT] at Y)
 | .str, ls, cs, K, H, hn, h => by
  simp only [wX] at h
  have Y := h
  obtain ⟨x, β, l, hK, W⟩ := kA H hn h
  refine ⟨x, β, l, hK, Ot (Bg rfl H) (fun v U => ?_) W⟩
  subst U
  cases v <;> first | rfl | (simp [eT] at Y)
 | .sl ag T, ls, cs, K, H, hn, h => by
  simp only [wX] at h
  cases J : Dh mem cs with
  | none =>
   rw [J] at h
   obtain ⟨x, β, l, hK, W⟩ := kA H hn h
   exact ⟨x, β, l, hK, Ot (Bg rfl H) (fun v U => by rw [← U]; exact J) W⟩
  | some q =>
   rw [J] at h
   simp only at h
   split at h
   ·rename_i I xs M
    rw [bR] at h
    obtain ⟨ha, h⟩ := h
    obtain rfl := Ip.1 ha
    split at h
    ·rename_i ys Z
     obtain ⟨rfl, rfl⟩ := dW Z
     obtain ⟨l, rfl⟩ := Bg rfl H
     obtain ⟨t0, rfl⟩ := NA H
     have O : ∀ zs : List (den I), guardB (Nat.beq I.size I.size) (some (false, PV.sl I.size (zs.map (cT (eY I) I)), [q.1])) = some (false, dN (eY I) I zs, [q.1]) := by
      intro zs
      simp [guardB, bX (Gz I)]
     unfold Dh at J
     split at J
     ·rename_i b g
      split at J
      ·rename_i x V
       rw [bR] at J
       obtain ⟨N, J⟩ := J
       obtain rfl := ya J
       simp only [yb, yq] at N
       simp only at h M
       refine ⟨xs, false, [b], h, HH (f := i9 P (aB mem)) (a := (false, dN (eY I) I xs, [b])) ?_⟩
       have hT : nK (aB mem) (.msw b g) = some (b, I.size, xs.map (cT (eY I) I)) := by
        simp only [nK, boxO?]
        rw [mW V]
        simp only [dD.down, dJ, N.1.1, N.1.2, N.2, yo3, yl, ye]
        rw [M]; rfl
       simp only [KV.down, i9, hT]
       exact O xs
      ·cases J
     ·rename_i b g o n
      split at J
      ·rename_i x V
       rw [bR] at J
       obtain ⟨N, J⟩ := J
       obtain rfl := ya J
       simp only [yb, yq] at N
       simp only [real_guard] at h M
       rw [bR] at h
       obtain ⟨ho0, h⟩ := h
       obtain rfl := nb.1 ho0
       rw [bR] at h
       obtain ⟨hnl, h⟩ := h
       refine ⟨xs.take n, false, [b], h, HH (f := i9 P (aB mem)) (a := (false, dN (eY I) I (xs.take n), [b])) ?_⟩
       have hT : nK (aB mem) (.ms b g 0 n) = some (b, I.size, (xs.take n).map (cT (eY I) I)) := by
        simp only [nK, boxO?]
        rw [mW V]
        simp only [dD.down, dJ, N.1.1, N.1.2, N.2, yo3, yl, ye]
        rw [M]
        simp only [KRow.down, ye1, hnl, aV]
        simp [guardB, yz2]
       simp only [KV.down, i9, hT]
       exact O _
      ·cases J
     ·cases J
    ·cases h
   ·cases h
 | .cons a b, ls, cs, K, H, hn, h => by
  have hn1 : a.depth ≤ 6 := ya2 (Nat.le_max_left _ _) (show max a.depth b.depth ≤ 6 from hn)
  have hn2 : b.depth ≤ 6 := ya2 (Nat.le_max_right _ _) (show max a.depth b.depth ≤ 6 from hn)
  simp only [aS] at H
  split at H
  ·rename_i l ls
   simp only [yb] at H
   obtain ⟨⟨h1, hla⟩, hlb⟩ := H
   have h1 := nb.1 h1
   simp only [wX, h1] at h
   obtain ⟨x, β1, l1, h, V⟩ := l8 hla hn1 h
   obtain ⟨y, β2, l2, h, Z⟩ := l8 hlb hn2 h
   refine ⟨(x, y), β1 || β2, l1 ++ l2, h, ?_⟩
   cases cs with
   | nil => simp [KV.downs, b3] at V
   | cons v vs =>
    simp only [List.take_succ_cons, List.take_zero, List.drop_succ_cons, List.drop_zero] at V Z
    exact I1 V Z
  ·cases H
end
end Go.Ab
