import Derived.Test.YtdlbbdbbpoggfaaGreatDoorLib10
set_option linter.unusedVariables false
set_option linter.unusedSectionVars false
set_option linter.unusedSimpArgs false
namespace Go.Ab
variable [cD]
section
variable {P : Program} {R : Type} {r : R} {mem : aR}
theorem JH {α β γ : Type} {f : γ → α → Option (Bool × β × List Nat)} {l : γ} {v : α} {a : Bool × β × List Nat} (h : f l v = some a) : cS f [l] [v] = some (a.1, [a.2.1], a.2.2) := by
 simp [cS, h]
theorem Nt {α β γ : Type} {f : γ → α → Option (Bool × β × List Nat)} {l : γ} {h : List γ} {v : α} {vs : List α} {β1 β2 : Bool} {p q : List β} {i j : List Nat}
  (h1 : cS f [l] [v] = some (β1, p, i)) (h2 : cS f h vs = some (β2, q, j)) : cS f (l :: h) (v :: vs) = some (β1 || β2, p ++ q, i ++ j) := by
 simp only [cS, LM] at h1
 obtain ⟨a, A, b, z, h1⟩ := h1
 obtain rfl := yb z
 simp only [Option.some.injEq, Prod.mk.injEq, Bool.or_false, yu1] at h1
 obtain ⟨rfl, rfl, rfl⟩ := h1
 simp [cS, A, h2]
theorem zL {t : TypeId} {ag : Bool} {T : Ty} (h : isAgg? P t = some ag) (A : ag = false → T.size = 1) (x : den T) : CY P t (aV T x) = some (fI ag T x) := by
 unfold CY
 rw [h]
 cases ag with
 | true => rfl
 | false =>
  have hl := bO (T := T) (x := x)
  rw [A rfl] at hl
  obtain ⟨c, z⟩ := yh2.1 hl
  rw [z, fI, z]; rfl
theorem y9 {β ag : Bool} {T : Ty} (h : g7 ag T = false) : Fk β ag T = β := by
 cases T <;> cases ag <;> first | rfl | cases h
theorem D6 {α β : Type} (f : α → β) (e : Nat) : ∀ (n : Nat) (cs : List α), iY e n (cs.map f) = (iY e n cs).map (List.map f)
 | 0, _ => rfl
 | n + 1, cs => by simp only [iY, yi2, ← yn3, ← ym3, D6 f e n]
theorem Fl {a : Ty} (h : a.size = 1) : (∃ k, a = .int k) ∨ a = .bool ∨ a = .str ∨ ∃ ag T, a = .sl ag T := by
 cases a with
 | int k => exact .inl ⟨k, rfl⟩
 | bool => exact .inr (.inl rfl)
 | str => exact .inr (.inr (.inl rfl))
 | sl ag T => exact .inr (.inr (.inr ⟨ag, T, rfl⟩))
 | cons a b => have h1 := Ty.size_pos (T := a); have h2 := Ty.size_pos (T := b); have : a.size + b.size = 1 := h; omega
theorem BD {ag : Bool} {T : Ty} {f : List KV → (den T → Bool → List Nat → Option R) → Option R} {g : List AV → Option (Bool × PV × List Nat)}
  (hf : ∀ (c : List KV) (K : den T → Bool → List Nat → Option R), f c K = some r → ∃ x β l, K x β l = some r ∧ g (KV.downs c) = some (β, fI ag T x, l)) :
  ∀ {cs : List (List KV)} {K : List (den T) → Bool → List Nat → Option R}, fC.denAll ag T f cs K = some r →
   ∃ xs β l, K xs β l = some r ∧ fO g (cs.map (List.map KV.down)) = some (β, xs.map (fI ag T), l)
 | [], K, h => ⟨[], false, [], h, rfl⟩
 | c :: cs, K, h => by
  simp only [fC.denAll] at h
  obtain ⟨x, β1, H, h, hx⟩ := hf _ _ h
  obtain ⟨xs, β2, A, h, z⟩ := BD hf h
  rw [dE] at hx
  exact ⟨x :: xs, β1 || β2, H ++ A, h, by simp [fO, hx, z]⟩
theorem CT {k : IntKind} : ∀ {cs : List KV} {K : List Int → Bool → List Nat → Option R}, fC.denAll false (.int k) (fC (bI R) mem (.int k)) (iY 1 cs.length cs) K = some r →
   ∃ xs : List Int, K xs false [] = some r ∧ eR k (KV.downs cs) = some xs
 | [], K, h => ⟨[], h, rfl⟩
 | c :: cs, K, h => by
  simp only [ye1, iY, List.take_succ_cons, List.take_zero, List.drop_succ_cons, yl1, fC.denAll, fC] at h
  split at h
  ·rename_i k' x A
   rw [c9] at h
   obtain ⟨H, h⟩ := h
   obtain ⟨xs, h, z⟩ := CT h
   simp only [List.cons.injEq, and_true] at A
   subst A
   exact ⟨x :: xs, h, by simp [KV.downs, KV.down, eR, H, z]⟩
  ·cases h
theorem vE (b : Nat) {ag : Bool} {T : Ty} {n : Nat} {l : LK} (hl : bR P (.sl ag T) [l] = true)
  (ih : ∀ {ls : List LK} {cs : List KV} {K : den T → Bool → List Nat → Option R}, bR P T ls = true → fC (bI R) mem T cs K = some r → ∃ x β l, K x β l = some r ∧ cS (bK P (aF mem) n) ls (KV.downs cs) = some (β, aV T x, l))
  {row : KRow} {K : List (den T) → Bool → List Nat → Option R} (h : fC.denRow ag T (fC (bI R) mem T) b row K = some r) :
  ∃ xs β is, K xs β is = some r ∧ (match l with
   | .ints k => bK.treeInts k b row.view
   | .sl t e => bK.treeSl P (bK P (aF mem) n) t e b row.view
   | _ => none) = some (β, iH ag T xs, is) := by
 simp only [bR] at hl
 split at hl
 ·rename_i k Y
  obtain rfl := (yc1 Y).1
  cases ag with
  | true => simp at hl
  | false =>
   cases T with
   | int k' =>
    simp only at hl
    obtain rfl := vJ.1 hl
    cases row with
    | ts β V T' xs =>
     simp only [fC.denRow] at h
     rw [c9] at h
     obtain ⟨J, h⟩ := h
     obtain rfl := Mj.1 J
     split at h
     ·rename_i ys hy
      obtain ⟨rfl, rfl⟩ := gA hy
      exact ⟨xs, _, _, h, by show bK.treeInts k b (.ints k xs) = some (false, .ints k xs, [b]); simp only [bK.treeInts, h9, vJ, true_and]⟩
     ·cases h
    | cells e cs =>
     simp only [fC.denRow] at h
     rw [c9] at h
     obtain ⟨N, h⟩ := h
     obtain rfl := nb.1 N
     have W : bD (Ty.size (.int k)) cs.length = cs.length := rfl
     rw [W] at h
     obtain ⟨xs, h, hx⟩ := CT h
     exact ⟨xs, _, _, h, by simp [KRow.view, bK.treeInts, guardB, Ty.size, hx, Mr]⟩
   | _ => simp at hl
 ·rename_i t e Y
  obtain rfl := (yc1 Y).1
  simp only [yc, yy] at hl
  obtain ⟨⟨⟨⟨N, z⟩, A⟩, M⟩, H⟩ := hl
  obtain rfl := nb.1 N
  have O : isAgg? P t = some ag := by
   split at A
   ·rename_i a J; rw [J, Mj.1 A]
   ·cases A
  have U : ag = false → T.size = 1 := fun e => by rw [e] at M; exact nb.1 (by simpa using M)
  split at H
  ·rename_i Z hl'
   cases row with
   | ts β V T' xs =>
    simp only [fC.denRow] at h
    rw [c9] at h
    obtain ⟨J, h⟩ := h
    obtain rfl := Mj.1 J
    split at h
    ·rename_i ys hy
     obtain ⟨rfl, rfl⟩ := gA hy
     refine ⟨xs, _, _, h, ?_⟩
     rw [KRow.view_sl z, y9 z, d6 z]
     simp [bK.treeSl, guardB]
    ·cases h
   | cells e cs =>
    simp only [fC.denRow] at h
    rw [c9] at h
    obtain ⟨N, h⟩ := h
    obtain rfl := nb.1 N
    obtain ⟨xs, β, is, h, hx⟩ := BD (ag := ag) (g := fun vs => (cS (bK P (aF mem) n) Z vs).bind fun q => (CY P t q.2.1).map fun p => (q.1, p, q.2.2)) (fun c K W => by
     obtain ⟨x, β, l, hK, hz⟩ := ih H W
     exact ⟨x, β, l, hK, by simp [hz, zL O U]⟩) h
    refine ⟨xs, β, _, h, ?_⟩
    rw [← D6, ← dE] at hx
    rw [d6 z]
    simp only [KRow.view, bK.treeSl, h9, hl', ya]
    rw [aP, hx]
    simp [guardB, Ty.size_pos, nl.2 Ty.size_pos]
  ·cases H
 ·cases hl
theorem jL : ∀ {T : Ty} {z : List LK} {cs : List KV} {n : Nat} {K : den T → Bool → List Nat → Option R}, bR P T z = true → T.depth ≤ n → fC (bI R) mem T cs K = some r →
  ∃ x β l, K x β l = some r ∧ cS (bK P (aF mem) n) z (KV.downs cs) = some (β, aV T x, l)
 | .int k, z, cs, n, K, hl, hn, h => by
  obtain ⟨n, rfl⟩ : ∃ m, n = m + 1 := ⟨n - 1, by have : 1 ≤ n := hn; omega⟩
  simp only [bR] at hl
  split at hl
  ·rename_i J
   obtain rfl := vJ.1 hl
   simp only [fC] at h
   split at h
   ·rename_i J x
    rw [c9] at h
    exact ⟨x, false, [], h.2, JH (β := PV) (f := bK P (aF mem) (n + 1)) (a := (false, PV.lit (.int k x), [])) (by simp [bK, KV.down, guardB, h.1, (vJ.1 h.1).symm, vJ.2])⟩
   ·cases h
  ·cases hl
 | .bool, z, cs, n, K, hl, hn, h => by
  obtain ⟨n, rfl⟩ : ∃ m, n = m + 1 := ⟨n - 1, by have : 1 ≤ n := hn; omega⟩
  simp only [bR] at hl
  split at hl
  ·simp only [fC] at h
   split at h
   ·rename_i x
    exact ⟨x, false, [], h, JH (β := PV) (f := bK P (aF mem) (n + 1)) (a := (false, PV.lit (.bool x), [])) (by simp [bK, KV.down])⟩
   ·cases h
  ·cases hl
 | .str, z, cs, n, K, hl, hn, h => by
  obtain ⟨n, rfl⟩ : ∃ m, n = m + 1 := ⟨n - 1, by have : 1 ≤ n := hn; omega⟩
  simp only [bR] at hl
  split at hl
  ·simp only [fC] at h
   split at h
   ·rename_i x
    exact ⟨x, false, [], h, JH (β := PV) (f := bK P (aF mem) (n + 1)) (a := (false, PV.lit (.string x), [])) (by simp [bK, KV.down])⟩
   ·cases h
  ·cases hl
 | .sl ag T, z, cs, n, K, hl, hn, h => by
  obtain ⟨n, rfl⟩ : ∃ m, n = m + 1 := ⟨n - 1, by have : T.depth + 1 ≤ n := hn; omega⟩
  have O : T.depth ≤ n := by have : T.depth + 1 ≤ n + 1 := hn; omega
  have N : ∃ l, z = [l] := by
   simp only [bR] at hl
   split at hl
   ·exact ⟨_, rfl⟩
   ·exact ⟨_, rfl⟩
   ·cases hl
  obtain ⟨l, rfl⟩ := N
  have ih : ∀ {z : List LK} {cs : List KV} {K : den T → Bool → List Nat → Option R}, bR P T z = true → fC (bI R) mem T cs K = some r → ∃ x β l, K x β l = some r ∧ cS (bK P (aF mem) n) z (KV.downs cs) = some (β, aV T x, l) :=
   fun hl h => jL hl O h
  simp only [fC] at h
  split at h
  ·rename_i β ag' Z xs
   rw [c9] at h
   obtain ⟨ha, h⟩ := h
   obtain rfl := Mj.1 ha
   split at h
   ·rename_i ys H
    obtain ⟨rfl, rfl⟩ := gA H
    refine ⟨xs, β, [], h, JH (f := bK P (aF mem) (n + 1)) (a := (β, iH ag Z xs, [])) ?_⟩
    simp only [bR] at hl
    split at hl
    ·rename_i k A
     obtain rfl := (yc1 A).1
     cases ag with
     | true => simp at hl
     | false =>
      cases Z with
      | int J =>
       simp only at hl
       obtain rfl := vJ.1 hl
       show bK P (aF mem) (n + 1) (.ints k) (.imm β (.ints k xs)) = some (β, .ints k xs, [])
       simp [bK, guardB, vJ.2]
      | _ => simp at hl
    ·rename_i t e A
     obtain rfl := (yc1 A).1
     simp only [yc, yy] at hl
     obtain rfl := nb.1 hl.1.1.1.1
     simp [bK, KV.down, d6 hl.1.1.1.2, guardB]
    ·cases hl
   ·cases h
  ·refine ⟨[], false, [], h, JH (f := bK P (aF mem) (n + 1)) (a := (false, iH ag T [], [])) ?_⟩
   simp only [bR] at hl
   split at hl
   ·rename_i k A
    obtain rfl := (yc1 A).1
    cases ag with
    | true => simp at hl
    | false =>
     cases T with
     | int J => simp only at hl; obtain rfl := vJ.1 hl; simp [bK, KV.down]; rfl
     | _ => simp at hl
   ·rename_i t e A
    obtain rfl := (yc1 A).1
    simp only [yc, yy] at hl
    obtain rfl := nb.1 hl.1.1.1.1
    simp [bK, KV.down, d6 hl.1.1.1.2]
   ·cases hl
  ·rename_i b g
   obtain ⟨x, hx, h⟩ := c7 h
   obtain ⟨xs, β, is, h, ht⟩ := vE b hl ih h
   refine ⟨xs, β, is, h, JH (f := bK P (aF mem) (n + 1)) (a := (β, iH ag T xs, is)) ?_⟩
   cases l <;> simp only at ht <;> first | cases ht | skip
   ·simp only [KV.down, bK, hx, ya]; rw [show x.down.row = x.row.down from rfl, Ce]; exact ht
   ·simp only [KV.down, bK, hx, ya]; rw [show x.down.row = x.row.down from rfl, Ce]; exact ht
  ·rename_i b g o m
   obtain ⟨x, hx, h⟩ := c7 h
   obtain ⟨w, Y, h, _⟩ := CI h
   obtain ⟨xs, β, is, h, ht⟩ := vE b hl ih h
   refine ⟨xs, β, is, h, JH (f := bK P (aF mem) (n + 1)) (a := (β, iH ag T xs, is)) ?_⟩
   cases l <;> simp only at ht <;> first | cases ht | skip
   ·simp only [KV.down, bK, hx, ya]; rw [show x.down.row = x.row.down from rfl, Y]; exact ht
   ·simp only [KV.down, bK, hx, ya]; rw [show x.down.row = x.row.down from rfl, Y]; exact ht
  ·cases h
 | .cons a b, z, cs, n, K, hl, hn, h => by
  have V : a.depth ≤ n := yt2 (Nat.le_max_left _ _) (show max a.depth b.depth ≤ n from hn)
  have W : b.depth ≤ n := yt2 (Nat.le_max_right _ _) (show max a.depth b.depth ≤ n from hn)
  simp only [bR] at hl
  split at hl
  ·rename_i l z
   simp only [yc] at hl
   obtain ⟨⟨h1, M⟩, U⟩ := hl
   have h1 := nb.1 h1
   simp only [fC, h1] at h
   obtain ⟨x, β1, l1, h, hx⟩ := jL M V h
   obtain ⟨y, β2, l2, h, H⟩ := jL U W h
   refine ⟨(x, y), β1 || β2, l1 ++ l2, h, ?_⟩
   cases cs with
   | nil => simp [KV.downs, cS] at hx
   | cons v vs =>
    simp only [List.take_succ_cons, List.take_zero, List.drop_succ_cons, yl1] at hx H
    exact Nt hx H
  ·cases hl
end
end Go.Ab
