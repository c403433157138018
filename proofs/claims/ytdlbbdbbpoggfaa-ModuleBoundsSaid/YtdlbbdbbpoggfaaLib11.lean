import Derived.Test.YtdlbbdbbpoggfaaLib10
set_option linter.unusedVariables false
set_option linter.unusedSectionVars false
set_option linter.unusedSimpArgs false
namespace Go.Ab
variable [b4]
section
variable {P : Program} {R : Type} {r : R} {mem : aD}
theorem Hu {α β γ : Type} {f : γ → α → Option (Bool × β × List Nat)} {l : γ} {v : α} {a : Bool × β × List Nat} (h : f l v = some a) : b3 f [l] [v] = some (a.1, [a.2.1], a.2.2) := by
 simp [b3, h]
theorem Iv {α β γ : Type} {f : γ → α → Option (Bool × β × List Nat)} {l : γ} {ls : List γ} {v : α} {vs : List α} {β1 β2 : Bool} {p q : List β} {i j : List Nat}
  (H : b3 f [l] [v] = some (β1, p, i)) (J : b3 f ls vs = some (β2, q, j)) : b3 f (l :: ls) (v :: vs) = some (β1 || β2, p ++ q, i ++ j) := by
 simp only [b3, C3] at H
 obtain ⟨a, K, b, I, H⟩ := H
 obtain rfl := ya I
 simp only [Option.some.injEq, Prod.mk.injEq, Bool.or_false, yg1] at H
 obtain ⟨rfl, rfl, rfl⟩ := H
 simp [b3, K, J]
theorem oV {t : TypeId} {ag : Bool} {T : Ty} (h : isAgg? P t = some ag) (hs : ag = false → T.size = 1) (x : den T) : sJ P t (aM T x) = some (cT ag T x) := by
 unfold sJ
 rw [h]
 cases ag with
 | true => rfl
 | false =>
  have H := bR (T := T) (x := x)
  rw [hs rfl] at H
  obtain ⟨c, I⟩ := ye2.1 H
  rw [I, cT, I]; rfl
theorem lU {β ag : Bool} {T : Ty} (h : gL ag T = false) : AE β ag T = β := by
 cases T <;> cases ag <;> first | rfl | cases h
theorem zD {α β : Type} (f : α → β) (e : Nat) : ∀ (n : Nat) (cs : List α), chunks e n (cs.map f) = (chunks e n cs).map (List.map f)
 | 0, _ => rfl
 | n + 1, cs => by simp only [chunks, yx1, ← yn3, ← yz2, zD f e n]
theorem yM {a : Ty} (h : a.size = 1) : (∃ k, a = .int k) ∨ a = .bool ∨ a = .str ∨ ∃ ag T, a = .sl ag T := by
 cases a with
 | int k => exact .inl ⟨k, rfl⟩
 | bool => exact .inr (.inl rfl)
 | str => exact .inr (.inr (.inl rfl))
 | sl ag T => exact .inr (.inr (.inr ⟨ag, T, rfl⟩))
 | cons a b => have h1 := Ty.size_pos (T := a); have h2 := Ty.size_pos (T := b); have : a.size + b.size = 1 := h; omega
theorem Cm {ag : Bool} {T : Ty} {f : List KV → (den T → Bool → List Nat → Option R) → Option R} {g : List AV → Option (Bool × PV × List Nat)}
  (J : ∀ (c : List KV) (K : den T → Bool → List Nat → Option R), f c K = some r → ∃ x β l, K x β l = some r ∧ g (KV.downs c) = some (β, cT ag T x, l)) :
  ∀ {cs : List (List KV)} {K : List (den T) → Bool → List Nat → Option R}, eV.denAll ag T f cs K = some r →
   ∃ xs β l, K xs β l = some r ∧ f0 g (cs.map (List.map KV.down)) = some (β, xs.map (cT ag T), l)
 | [], K, h => ⟨[], false, [], h, rfl⟩
 | c :: cs, K, h => by
  simp only [eV.denAll] at h
  obtain ⟨x, β1, N, h, I⟩ := J _ _ h
  obtain ⟨xs, β2, M, h, H⟩ := Cm J h
  rw [cZ] at I
  exact ⟨x :: xs, β1 || β2, N ++ M, h, by simp [f0, I, H]⟩
theorem Ds {k : IntKind} : ∀ {cs : List KV} {K : List Int → Bool → List Nat → Option R}, eV.denAll false (.int k) (eV (aP R) mem (.int k)) (chunks 1 cs.length cs) K = some r →
   ∃ xs : List Int, K xs false [] = some r ∧ e5 k (KV.downs cs) = some xs
 | [], K, h => ⟨[], h, rfl⟩
 | c :: cs, K, h => by
  simp only [yg2, chunks, List.take_succ_cons, List.take_zero, List.drop_succ_cons, List.drop_zero, eV.denAll, eV] at h
  split at h
  ·rename_i k' x I
   rw [bP] at h
   obtain ⟨J, h⟩ := h
   obtain ⟨xs, h, H⟩ := Ds h
   simp only [List.cons.injEq, and_true] at I
   subst I
   exact ⟨x :: xs, h, by simp [KV.downs, KV.down, e5, J, H]⟩
  ·cases h
theorem w8 (b : Nat) {ag : Bool} {T : Ty} {n : Nat} {l : LK} (H : aS P (.sl ag T) [l] = true)
  (ih : ∀ {ls : List LK} {cs : List KV} {K : den T → Bool → List Nat → Option R}, aS P T ls = true → eV (aP R) mem T cs K = some r → ∃ x β l, K x β l = some r ∧ b3 (a5 P (aB mem) n) ls (KV.downs cs) = some (β, aM T x, l))
  {row : KRow} {K : List (den T) → Bool → List Nat → Option R} (h : eV.denRow ag T (eV (aP R) mem T) b row K = some r) :
  ∃ xs β is, K xs β is = some r ∧ (match l with
   | .ints k => a5.treeInts k b row.view
   | .sl t e => a5.treeSl P (a5 P (aB mem) n) t e b row.view
   | _ => none) = some (β, dL ag T xs, is) := by
 simp only [aS] at H
 split at H
 ·rename_i k Z
  obtain rfl := (yx Z).1
  cases ag with
  | true => simp at H
  | false =>
   cases T with
   | int k' =>
    simp only at H
    obtain rfl := rW.1 H
    cases row with
    | os => cases h
    | ts β ag' T' xs =>
     simp only [eV.denRow] at h
     rw [bP] at h
     obtain ⟨O, h⟩ := h
     obtain rfl := Ip.1 O
     split at h
     ·rename_i ys hy
      obtain ⟨rfl, rfl⟩ := dW hy
      exact ⟨xs, _, _, h, by show a5.treeInts k b (.ints k xs) = some (false, .ints k xs, [b]); simp only [a5.treeInts, d9, rW, true_and]⟩
     ·cases h
    | cells e cs =>
     simp only [eV.denRow] at h
     rw [bP] at h
     obtain ⟨N, h⟩ := h
     obtain rfl := nb.1 N
     have hc : aN (Ty.size (.int k)) cs.length = cs.length := rfl
     rw [hc] at h
     obtain ⟨xs, h, Y⟩ := Ds h
     exact ⟨xs, _, _, h, by simp [KRow.view, a5.treeInts, guardB, Ty.size, Y, MN]⟩
   | _ => simp at H
 ·rename_i t e Z
  obtain rfl := (yx Z).1
  simp only [yb, yq] at H
  obtain ⟨⟨⟨⟨N, I⟩, J⟩, W⟩, M⟩ := H
  obtain rfl := nb.1 N
  have U : isAgg? P t = some ag := by
   split at J
   ·rename_i a O; rw [O, Ip.1 J]
   ·cases J
  have V : ag = false → T.size = 1 := fun e => by rw [e] at W; exact nb.1 (by simpa using W)
  split at M
  ·rename_i ls' hl'
   cases row with
   | os => cases h
   | ts β ag' T' xs =>
    simp only [eV.denRow] at h
    rw [bP] at h
    obtain ⟨O, h⟩ := h
    obtain rfl := Ip.1 O
    split at h
    ·rename_i ys hy
     obtain ⟨rfl, rfl⟩ := dW hy
     refine ⟨xs, _, _, h, ?_⟩
     rw [KRow.view_sl I, lU I, bX I]
     simp [a5.treeSl, guardB]
    ·cases h
   | cells e cs =>
    simp only [eV.denRow] at h
    rw [bP] at h
    obtain ⟨N, h⟩ := h
    obtain rfl := nb.1 N
    obtain ⟨xs, β, is, h, Y⟩ := Cm (ag := ag) (g := fun vs => (b3 (a5 P (aB mem) n) ls' vs).bind fun q => (sJ P t q.2.1).map fun p => (q.1, p, q.2.2)) (fun c K hc => by
     obtain ⟨x, β, l, hK, hz⟩ := ih M hc
     exact ⟨x, β, l, hK, by simp [hz, oV U V]⟩) h
    refine ⟨xs, β, _, h, ?_⟩
    rw [← zD, ← cZ] at Y
    rw [bX I]
    simp only [KRow.view, a5.treeSl, d9, hl', ye]
    rw [aG, Y]
    simp [guardB, Ty.size_pos, nl.2 Ty.size_pos]
  ·cases M
 ·cases H
theorem jU : ∀ {T : Ty} {ls : List LK} {cs : List KV} {n : Nat} {K : den T → Bool → List Nat → Option R}, aS P T ls = true → T.depth ≤ n → eV (aP R) mem T cs K = some r →
  ∃ x β l, K x β l = some r ∧ b3 (a5 P (aB mem) n) ls (KV.downs cs) = some (β, aM T x, l)
 | .int k, ls, cs, n, K, H, hn, h => by
  obtain ⟨n, rfl⟩ : ∃ m, n = m + 1 := ⟨n - 1, by have : 1 ≤ n := hn; omega⟩
  simp only [aS] at H
  split at H
  ·rename_i Z
   obtain rfl := rW.1 H
   simp only [eV] at h
   split at h
   ·rename_i Z x
    rw [bP] at h
    exact ⟨x, false, [], h.2, Hu (β := PV) (f := a5 P (aB mem) (n + 1)) (a := (false, PV.lit (.int k x), [])) (by simp [a5, KV.down, guardB, h.1, (rW.1 h.1).symm, rW.2])⟩
   ·cases h
  ·cases H
 | .bool, ls, cs, n, K, H, hn, h => by
  obtain ⟨n, rfl⟩ : ∃ m, n = m + 1 := ⟨n - 1, by have : 1 ≤ n := hn; omega⟩
  simp only [aS] at H
  split at H
  ·simp only [eV] at h
   split at h
   ·rename_i x
    exact ⟨x, false, [], h, Hu (β := PV) (f := a5 P (aB mem) (n + 1)) (a := (false, PV.lit (.bool x), [])) (by simp [a5, KV.down])⟩
   ·cases h
  ·cases H
 | .str, ls, cs, n, K, H, hn, h => by
  obtain ⟨n, rfl⟩ : ∃ m, n = m + 1 := ⟨n - 1, by have : 1 ≤ n := hn; omega⟩
  simp only [aS] at H
  split at H
  ·simp only [eV] at h
   split at h
   ·rename_i x
    exact ⟨x, false, [], h, Hu (β := PV) (f := a5 P (aB mem) (n + 1)) (a := (false, PV.lit (.string x), [])) (by simp [a5, KV.down])⟩
   ·cases h
  ·cases H
 | .sl ag T, ls, cs, n, K, H, hn, h => by
  obtain ⟨n, rfl⟩ : ∃ m, n = m + 1 := ⟨n - 1, by have : T.depth + 1 ≤ n := hn; omega⟩
  have N : T.depth ≤ n := by have : T.depth + 1 ≤ n + 1 := hn; omega
  have W : ∃ l, ls = [l] := by
   simp only [aS] at H
   split at H
   ·exact ⟨_, rfl⟩
   ·exact ⟨_, rfl⟩
   ·cases H
  obtain ⟨l, rfl⟩ := W
  have ih : ∀ {ls : List LK} {cs : List KV} {K : den T → Bool → List Nat → Option R}, aS P T ls = true → eV (aP R) mem T cs K = some r → ∃ x β l, K x β l = some r ∧ b3 (a5 P (aB mem) n) ls (KV.downs cs) = some (β, aM T x, l) :=
   fun H h => jU H N h
  simp only [eV] at h
  split at h
  ·rename_i β ag' T' xs
   rw [bP] at h
   obtain ⟨ha, h⟩ := h
   obtain rfl := Ip.1 ha
   split at h
   ·rename_i ys M
    obtain ⟨rfl, rfl⟩ := dW M
    refine ⟨xs, β, [], h, Hu (f := a5 P (aB mem) (n + 1)) (a := (β, dL ag T' xs, [])) ?_⟩
    simp only [aS] at H
    split at H
    ·rename_i k J
     obtain rfl := (yx J).1
     cases ag with
     | true => simp at H
     | false =>
      cases T' with
      | int Z =>
       simp only at H
       obtain rfl := rW.1 H
       show a5 P (aB mem) (n + 1) (.ints k) (.imm β (.ints k xs)) = some (β, .ints k xs, [])
       simp [a5, guardB, rW.2]
      | _ => simp at H
    ·rename_i t e J
     obtain rfl := (yx J).1
     simp only [yb, yq] at H
     obtain rfl := nb.1 H.1.1.1.1
     simp [a5, KV.down, bX H.1.1.1.2, guardB]
    ·cases H
   ·cases h
  ·refine ⟨[], false, [], h, Hu (f := a5 P (aB mem) (n + 1)) (a := (false, dL ag T [], [])) ?_⟩
   simp only [aS] at H
   split at H
   ·rename_i k J
    obtain rfl := (yx J).1
    cases ag with
    | true => simp at H
    | false =>
     cases T with
     | int Z => simp only at H; obtain rfl := rW.1 H; simp [a5, KV.down]; rfl
     | _ => simp at H
   ·rename_i t e J
    obtain rfl := (yx J).1
    simp only [yb, yq] at H
    obtain rfl := nb.1 H.1.1.1.1
    simp [a5, KV.down, bX H.1.1.1.2]
   ·cases H
  ·rename_i b g
   obtain ⟨x, I, h⟩ := cQ h
   obtain ⟨xs, β, is, h, ht⟩ := w8 b H ih h
   refine ⟨xs, β, is, h, Hu (f := a5 P (aB mem) (n + 1)) (a := (β, dL ag T xs, is)) ?_⟩
   cases l <;> simp only at ht <;> first | cases ht | skip
   ·simp only [KV.down, a5, I, ye]; rw [show x.down.row = x.row.down from rfl, Dd]; exact ht
   ·simp only [KV.down, a5, I, ye]; rw [show x.down.row = x.row.down from rfl, Dd]; exact ht
  ·rename_i b g o m
   obtain ⟨x, I, h⟩ := cQ h
   obtain ⟨w, hw, h, _⟩ := D6 h
   obtain ⟨xs, β, is, h, ht⟩ := w8 b H ih h
   refine ⟨xs, β, is, h, Hu (f := a5 P (aB mem) (n + 1)) (a := (β, dL ag T xs, is)) ?_⟩
   cases l <;> simp only at ht <;> first | cases ht | skip
   ·simp only [KV.down, a5, I, ye]; rw [show x.down.row = x.row.down from rfl, hw]; exact ht
   ·simp only [KV.down, a5, I, ye]; rw [show x.down.row = x.row.down from rfl, hw]; exact ht
  ·cases h
 | .cons a b, ls, cs, n, K, H, hn, h => by
  have V : a.depth ≤ n := ya2 (Nat.le_max_left _ _) (show max a.depth b.depth ≤ n from hn)
  have O : b.depth ≤ n := ya2 (Nat.le_max_right _ _) (show max a.depth b.depth ≤ n from hn)
  simp only [aS] at H
  split at H
  ·rename_i l ls
   simp only [yb] at H
   obtain ⟨⟨U, hla⟩, Y⟩ := H
   have U := nb.1 U
   simp only [eV, U] at h
   obtain ⟨x, β1, l1, h, I⟩ := jU hla V h
   obtain ⟨y, β2, l2, h, M⟩ := jU Y O h
   refine ⟨(x, y), β1 || β2, l1 ++ l2, h, ?_⟩
   cases cs with
   | nil => simp [KV.downs, b3] at I
   | cons v vs =>
    simp only [List.take_succ_cons, List.take_zero, List.drop_succ_cons, List.drop_zero] at I M
    exact Iv I M
  ·cases H
theorem KD {v : KV} (h : FB mem [v] = none) : nS (aB mem) v.down = none := by
 have I : ∀ b g, (∀ z, dX mem b = some (some z) → (Nat.beq z.gen g && gV z.row && !z.frz) = false) → ∀ x, boxO? (aB mem) b g = some x → x.frz = true := by
  intro b g h x H
  unfold boxO? at H
  rw [eM, ← aX] at H
  cases J : dX mem b with
  | none => rw [J] at H; cases H
  | some y => cases y with
   | none => rw [J] at H; cases H
   | some z =>
    have h := h z J
    rw [J] at H
    simp only [yg, dE.down, dI] at H
    cases O : Nat.beq z.gen g && gV z.row with
    | false => rw [O] at H; cases H
    | true =>
     rw [O] at H h
     obtain rfl := ya H
     simpa using h
 cases v with
 | msw b g =>
  simp only [KV.down, nS]
  cases H : boxO? (aB mem) b g with
  | none => rfl
  | some x =>
   have N := I b g (fun z K => by
    simp only [FB, K] at h
    cases M : Nat.beq z.gen g && gV z.row && !z.frz with
    | true => rw [M] at h; cases h
    | false => rfl) x H
   simp only [ye]
   split
   ·rw [N]; rfl
   ·rfl
 | ms b g o n =>
  cases o with
  | succ o => rfl
  | zero =>
   simp only [KV.down, nS]
   cases H : boxO? (aB mem) b g with
   | none => rfl
   | some x =>
    have N := I b g (fun z K => by
     simp only [FB, K] at h
     cases M : Nat.beq z.gen g && gV z.row && !z.frz with
     | true => rw [M] at h; cases h
     | false => rfl) x H
    simp only [ye]
    split
    ·rw [N]; rfl
    ·rfl
 | _ => rfl
theorem Kl {l : LK} {v : AV} {m : aH} (h : nS m v = none) : i4 P m l v = a5 P m Gs l v := by
 unfold i4; rw [h]
theorem OV {α β γ : Type} {f g : γ → α → Option (Bool × β × List Nat)} {l : γ} {v : α} (h : f l v = g l v) : b3 f [l] [v] = b3 g [l] [v] := by simp [b3, h]
theorem Bh {T : Ty} {ls : List LK} (H : T.size = 1) (h : aS P T ls = true) : ∃ l, ls = [l] := by
 rcases yM H with ⟨k, rfl⟩ | rfl | rfl | ⟨ag, T, rfl⟩ <;> (simp only [aS] at h; split at h <;> first | exact ⟨_, rfl⟩ | cases h)
theorem Ov {ls : List LK} {cs : List KV} {q : Bool × List PV × List Nat} (H : ∃ l, ls = [l]) (hn : ∀ v, cs = [v] → FB mem [v] = none) (h : b3 (a5 P (aB mem) 6) ls (KV.downs cs) = some q) :
  b3 (i4 P (aB mem)) ls (KV.downs cs) = some q := by
 obtain ⟨l, rfl⟩ := H
 cases cs with
 | nil => cases h
 | cons v vs => cases vs with
  | cons w ws =>
   simp only [KV.downs, b3, C3] at h
   obtain ⟨_, _, _, h, _⟩ := h
   cases h
  | nil =>
   rw [← h]
   exact OV (Kl (KD (hn v rfl)))
theorem NZ {T : Ty} {l : LK} (H : aS P (.sl (eW T) T) [l] = true) : ∃ t, l = .sl t T.size := by
 simp only [aS] at H
 split at H
 ·rename_i k J
  cases I : eW T with
  | true => rw [I] at H; simp at H
  | false =>
   rw [I] at H
   cases T with
   | int k' => cases I
   | _ => simp at H
 ·rename_i t e J
  obtain rfl := (yx J).1
  simp only [yb, yq] at H
  obtain rfl := nb.1 H.1.1.1.1
  exact ⟨t, rfl⟩
 ·cases H
theorem l9 : ∀ {T : Ty} {ls : List LK} {cs : List KV} {K : den T → Bool → List Nat → Option R}, aS P T ls = true → T.depth ≤ 6 → wW (aP R) mem T cs K = some r →
  ∃ x β l, K x β l = some r ∧ b3 (i4 P (aB mem)) ls (KV.downs cs) = some (β, aM T x, l)
 | .int k, ls, cs, K, H, hn, h => by
  simp only [wW] at h
  have Y := h
  obtain ⟨x, β, l, hK, U⟩ := jU H hn h
  refine ⟨x, β, l, hK, Ov (Bh rfl H) (fun v W => ?_) U⟩
  subst W
  cases v <;> first | rfl | (simp [eV] at Y)
 | .bool, ls, cs, K, H, hn, h => by
  simp only [wW] at h
  have Y := h
  obtain ⟨x, β, l, hK, U⟩ := jU H hn h
  refine ⟨x, β, l, hK, Ov (Bh rfl H) (fun v W => ?_) U⟩
  subst W
  cases v <;> first | rfl | (simp [eV] at Y)
 | .str, ls, cs, K, H, hn, h => by
  simp only [wW] at h
  have Y := h
  obtain ⟨x, β, l, hK, U⟩ := jU H hn h
  refine ⟨x, β, l, hK, Ov (Bh rfl H) (fun v W => ?_) U⟩
  subst W
  cases v <;> first | rfl | (simp [eV] at Y)
 | .sl ag T, ls, cs, K, H, hn, h => by
  simp only [wW] at h
  cases J : FB mem cs with
  | none =>
   rw [J] at h
   obtain ⟨x, β, l, hK, U⟩ := jU H hn h
   exact ⟨x, β, l, hK, Ov (Bh rfl H) (fun v W => by rw [← W]; exact J) U⟩
  | some q =>
   rw [J] at h
   simp only at h
   split at h
   ·rename_i I xs M
    rw [bP] at h
    obtain ⟨ha, h⟩ := h
    obtain rfl := Ip.1 ha
    split at h
    ·rename_i ys Z
     obtain ⟨rfl, rfl⟩ := dW Z
     obtain ⟨l, rfl⟩ := Bh rfl H
     obtain ⟨t0, rfl⟩ := NZ H
     have O : ∀ zs : List (den I), guardB (Nat.beq I.size I.size) (some (false, PV.sl I.size (zs.map (cT (eW I) I)), [q.1])) = some (false, dL (eW I) I zs, [q.1]) := by
      intro zs
      simp [guardB, bX (GK I)]
     unfold FB at J
     split at J
     ·rename_i b g
      split at J
      ·rename_i x V
       rw [bP] at J
       obtain ⟨N, J⟩ := J
       obtain rfl := ya J
       simp only [yb, yq] at N
       simp only at h M
       refine ⟨xs, false, [b], h, Hu (f := i4 P (aB mem)) (a := (false, dL (eW I) I xs, [b])) ?_⟩
       have hT : nS (aB mem) (.msw b g) = some (b, I.size, xs.map (cT (eW I) I)) := by
        simp only [nS, boxO?]
        rw [mN V]
        simp only [dE.down, dI, N.1.1, N.1.2, N.2, yo3, yl, ye]
        rw [M]; rfl
       simp only [KV.down, i4, hT]
       exact O xs
      ·cases J
     ·rename_i b g o n
      split at J
      ·rename_i x V
       rw [bP] at J
       obtain ⟨N, J⟩ := J
       obtain rfl := ya J
       simp only [yb, yq] at N
       simp only [real_guard] at h M
       rw [bP] at h
       obtain ⟨ho0, h⟩ := h
       obtain rfl := nb.1 ho0
       rw [bP] at h
       obtain ⟨hnl, h⟩ := h
       refine ⟨xs.take n, false, [b], h, Hu (f := i4 P (aB mem)) (a := (false, dL (eW I) I (xs.take n), [b])) ?_⟩
       have hT : nS (aB mem) (.ms b g 0 n) = some (b, I.size, (xs.take n).map (cT (eW I) I)) := by
        simp only [nS, boxO?]
        rw [mN V]
        simp only [dE.down, dI, N.1.1, N.1.2, N.2, yo3, yl, ye]
        rw [M]
        simp only [KRow.down, ye1, hnl, aV]
        simp [guardB, yz2]
       simp only [KV.down, i4, hT]
       exact O _
      ·cases J
     ·cases J
    ·cases h
   ·cases h
 | .cons a b, ls, cs, K, H, hn, h => by
  have hn1 : a.depth ≤ 6 := ya2 (Nat.le_max_left _ _) (show max a.depth b.depth ≤ 6 from hn)
  have hn2 : b.depth ≤ 6 := ya2 (Nat.le_max_right _ _) (show max a.depth b.depth ≤ 6 from hn)
  simp only [aS] at H
  split at H
  ·rename_i l ls
   simp only [yb] at H
   obtain ⟨⟨h1, hla⟩, hlb⟩ := H
   have h1 := nb.1 h1
   simp only [wW, h1] at h
   obtain ⟨x, β1, l1, h, V⟩ := l9 hla hn1 h
   obtain ⟨y, β2, l2, h, Z⟩ := l9 hlb hn2 h
   refine ⟨(x, y), β1 || β2, l1 ++ l2, h, ?_⟩
   cases cs with
   | nil => simp [KV.downs, b3] at V
   | cons v vs =>
    simp only [List.take_succ_cons, List.take_zero, List.drop_succ_cons, List.drop_zero] at V Z
    exact Iv V Z
  ·cases H
end
end Go.Ab
