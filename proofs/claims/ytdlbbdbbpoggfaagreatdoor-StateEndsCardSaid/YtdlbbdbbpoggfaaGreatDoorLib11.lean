import Derived.Test.YtdlbbdbbpoggfaaGreatDoorLib10
set_option linter.unusedVariables false
set_option linter.unusedSectionVars false
set_option linter.unusedSimpArgs false
namespace Go.Ab
variable [cD]
section
variable {P : Program} {R : Type} {r : R} {mem : aR}
theorem Ks {α β γ : Type} {f : γ → α → Option (Bool × β × List Nat)} {l : γ} {v : α} {a : Bool × β × List Nat} (h : f l v = some a) : cS f [l] [v] = some (a.1, [a.2.1], a.2.2) := by
 simp [cS, h]
theorem Nf {α β γ : Type} {f : γ → α → Option (Bool × β × List Nat)} {l : γ} {h : List γ} {v : α} {vs : List α} {β1 β2 : Bool} {p q : List β} {i j : List Nat}
  (h1 : cS f [l] [v] = some (β1, p, i)) (h2 : cS f h vs = some (β2, q, j)) : cS f (l :: h) (v :: vs) = some (β1 || β2, p ++ q, i ++ j) := by
 simp only [cS, Lz] at h1
 obtain ⟨a, z, b, A, h1⟩ := h1
 obtain rfl := yb A
 simp only [Option.some.injEq, Prod.mk.injEq, Bool.or_false, yu1] at h1
 obtain ⟨rfl, rfl, rfl⟩ := h1
 simp [cS, z, h2]
theorem yS {t : TypeId} {ag : Bool} {T : Ty} (h : isAgg? P t = some ag) (A : ag = false → T.size = 1) (x : den T) : Dg P t (aV T x) = some (fK ag T x) := by
 unfold Dg
 rw [h]
 cases ag with
 | true => rfl
 | false =>
  have hl := bO (T := T) (x := x)
  rw [A rfl] at hl
  obtain ⟨c, z⟩ := yg2.1 hl
  rw [z, fK, z]; rfl
theorem zX {β ag : Bool} {T : Ty} (h : h9 ag T = false) : Fk β ag T = β := by
 cases T <;> cases ag <;> first | rfl | cases h
theorem CJ {α β : Type} (f : α → β) (e : Nat) : ∀ (n : Nat) (cs : List α), jA e n (cs.map f) = (jA e n cs).map (List.map f)
 | 0, _ => rfl
 | n + 1, cs => by simp only [jA, yh2, ← yn3, ← ym3, CJ f e n]
theorem Fj {a : Ty} (h : a.size = 1) : (∃ k, a = .int k) ∨ a = .bool ∨ a = .str ∨ ∃ ag T, a = .sl ag T := by
 cases a with
 | int k => exact .inl ⟨k, rfl⟩
 | bool => exact .inr (.inl rfl)
 | str => exact .inr (.inr (.inl rfl))
 | sl ag T => exact .inr (.inr (.inr ⟨ag, T, rfl⟩))
 | cons a b => have h1 := Ty.size_pos (T := a); have h2 := Ty.size_pos (T := b); have : a.size + b.size = 1 := h; omega
theorem Bm {ag : Bool} {T : Ty} {f : List KV → (den T → Bool → List Nat → Option R) → Option R} {g : List AV → Option (Bool × PV × List Nat)}
  (hf : ∀ (c : List KV) (K : den T → Bool → List Nat → Option R), f c K = some r → ∃ x β l, K x β l = some r ∧ g (KV.downs c) = some (β, fK ag T x, l)) :
  ∀ {cs : List (List KV)} {K : List (den T) → Bool → List Nat → Option R}, eZ.denAll ag T f cs K = some r →
   ∃ xs β l, K xs β l = some r ∧ fS g (cs.map (List.map KV.down)) = some (β, xs.map (fK ag T), l)
 | [], K, h => ⟨[], false, [], h, rfl⟩
 | c :: cs, K, h => by
  simp only [eZ.denAll] at h
  obtain ⟨x, β1, A, h, hx⟩ := hf _ _ h
  obtain ⟨xs, β2, H, h, z⟩ := Bm hf h
  rw [dC] at hx
  exact ⟨x :: xs, β1 || β2, A ++ H, h, by simp [fS, hx, z]⟩
theorem Eg {k : IntKind} : ∀ {cs : List KV} {K : List Int → Bool → List Nat → Option R}, eZ.denAll false (.int k) (eZ (bI R) mem (.int k)) (jA 1 cs.length cs) K = some r →
   ∃ xs : List Int, K xs false [] = some r ∧ eS k (KV.downs cs) = some xs
 | [], K, h => ⟨[], h, rfl⟩
 | c :: cs, K, h => by
  simp only [ye1, jA, List.take_succ_cons, List.take_zero, List.drop_succ_cons, yl1, eZ.denAll, eZ] at h
  split at h
  ·rename_i k' x A
   rw [c9] at h
   obtain ⟨H, h⟩ := h
   obtain ⟨xs, h, z⟩ := Eg h
   simp only [List.cons.injEq, and_true] at A
   subst A
   exact ⟨x :: xs, h, by simp [KV.downs, KV.down, eS, H, z]⟩
  ·cases h
theorem vR (b : Nat) {ag : Bool} {T : Ty} {n : Nat} {l : LK} (hl : bR P (.sl ag T) [l] = true)
  (ih : ∀ {ls : List LK} {cs : List KV} {K : den T → Bool → List Nat → Option R}, bR P T ls = true → eZ (bI R) mem T cs K = some r → ∃ x β l, K x β l = some r ∧ cS (bK P (aF mem) n) ls (KV.downs cs) = some (β, aV T x, l))
  {row : KRow} {K : List (den T) → Bool → List Nat → Option R} (h : eZ.denRow ag T (eZ (bI R) mem T) b row K = some r) :
  ∃ xs β is, K xs β is = some r ∧ (match l with
   | .ints k => bK.treeInts k b row.view
   | .sl t e => bK.treeSl P (bK P (aF mem) n) t e b row.view
   | _ => none) = some (β, iB ag T xs, is) := by
 simp only [bR] at hl
 split at hl
 ·rename_i k Z
  obtain rfl := (yc1 Z).1
  cases ag with
  | true => simp at hl
  | false =>
   cases T with
   | int k' =>
    simp only at hl
    obtain rfl := vV.1 hl
    cases row with
    | ts β V T' xs =>
     simp only [eZ.denRow] at h
     rw [c9] at h
     obtain ⟨J, h⟩ := h
     obtain rfl := L5.1 J
     split at h
     ·rename_i ys W
      obtain ⟨rfl, rfl⟩ := fW W
      exact ⟨xs, _, _, h, by show bK.treeInts k b (.ints k xs) = some (false, .ints k xs, [b]); simp only [bK.treeInts, g8, vV, true_and]⟩
     ·cases h
    | cells e cs =>
     simp only [eZ.denRow] at h
     rw [c9] at h
     obtain ⟨O, h⟩ := h
     obtain rfl := nb.1 O
     have Y : bD (Ty.size (.int k)) cs.length = cs.length := rfl
     rw [Y] at h
     obtain ⟨xs, h, hx⟩ := Eg h
     exact ⟨xs, _, _, h, by simp [KRow.view, bK.treeInts, guardB, Ty.size, hx, Li]⟩
   | _ => simp at hl
 ·rename_i t e Z
  obtain rfl := (yc1 Z).1
  simp only [yc, yy] at hl
  obtain ⟨⟨⟨⟨O, z⟩, H⟩, N⟩, A⟩ := hl
  obtain rfl := nb.1 O
  have U : isAgg? P t = some ag := by
   split at H
   ·rename_i a J; rw [J, L5.1 H]
   ·cases H
  have M : ag = false → T.size = 1 := fun e => by rw [e] at N; exact nb.1 (by simpa using N)
  split at A
  ·rename_i ls' hl'
   cases row with
   | ts β V T' xs =>
    simp only [eZ.denRow] at h
    rw [c9] at h
    obtain ⟨J, h⟩ := h
    obtain rfl := L5.1 J
    split at h
    ·rename_i ys W
     obtain ⟨rfl, rfl⟩ := fW W
     refine ⟨xs, _, _, h, ?_⟩
     rw [KRow.view_sl z, zX z, d7 z]
     simp [bK.treeSl, guardB]
    ·cases h
   | cells e cs =>
    simp only [eZ.denRow] at h
    rw [c9] at h
    obtain ⟨O, h⟩ := h
    obtain rfl := nb.1 O
    obtain ⟨xs, β, is, h, hx⟩ := Bm (ag := ag) (g := fun vs => (cS (bK P (aF mem) n) ls' vs).bind fun q => (Dg P t q.2.1).map fun p => (q.1, p, q.2.2)) (fun c K Y => by
     obtain ⟨x, β, l, hK, hz⟩ := ih A Y
     exact ⟨x, β, l, hK, by simp [hz, yS U M]⟩) h
    refine ⟨xs, β, _, h, ?_⟩
    rw [← CJ, ← dC] at hx
    rw [d7 z]
    simp only [KRow.view, bK.treeSl, g8, hl', ya]
    rw [aQ, hx]
    simp [guardB, Ty.size_pos, nl.2 Ty.size_pos]
  ·cases A
 ·cases hl
theorem jS : ∀ {T : Ty} {z : List LK} {cs : List KV} {n : Nat} {K : den T → Bool → List Nat → Option R}, bR P T z = true → T.depth ≤ n → eZ (bI R) mem T cs K = some r →
  ∃ x β l, K x β l = some r ∧ cS (bK P (aF mem) n) z (KV.downs cs) = some (β, aV T x, l)
 | .int k, z, cs, n, K, hl, hn, h => by
  obtain ⟨n, rfl⟩ : ∃ m, n = m + 1 := ⟨n - 1, by have : 1 ≤ n := hn; omega⟩
  simp only [bR] at hl
  split at hl
  ·rename_i M
   obtain rfl := vV.1 hl
   simp only [eZ] at h
   split at h
   ·rename_i M x
    rw [c9] at h
    exact ⟨x, false, [], h.2, Ks (β := PV) (f := bK P (aF mem) (n + 1)) (a := (false, PV.lit (.int k x), [])) (by simp [bK, KV.down, guardB, h.1, (vV.1 h.1).symm, vV.2])⟩
   ·cases h
  ·cases hl
 | .bool, z, cs, n, K, hl, hn, h => by
  obtain ⟨n, rfl⟩ : ∃ m, n = m + 1 := ⟨n - 1, by have : 1 ≤ n := hn; omega⟩
  simp only [bR] at hl
  split at hl
  ·simp only [eZ] at h
   split at h
   ·rename_i x
    exact ⟨x, false, [], h, Ks (β := PV) (f := bK P (aF mem) (n + 1)) (a := (false, PV.lit (.bool x), [])) (by simp [bK, KV.down])⟩
   ·cases h
  ·cases hl
 | .str, z, cs, n, K, hl, hn, h => by
  obtain ⟨n, rfl⟩ : ∃ m, n = m + 1 := ⟨n - 1, by have : 1 ≤ n := hn; omega⟩
  simp only [bR] at hl
  split at hl
  ·simp only [eZ] at h
   split at h
   ·rename_i x
    exact ⟨x, false, [], h, Ks (β := PV) (f := bK P (aF mem) (n + 1)) (a := (false, PV.lit (.string x), [])) (by simp [bK, KV.down])⟩
   ·cases h
  ·cases hl
 | .sl ag T, z, cs, n, K, hl, hn, h => by
  obtain ⟨n, rfl⟩ : ∃ m, n = m + 1 := ⟨n - 1, by have : T.depth + 1 ≤ n := hn; omega⟩
  have U : T.depth ≤ n := by have : T.depth + 1 ≤ n + 1 := hn; omega
  have O : ∃ l, z = [l] := by
   simp only [bR] at hl
   split at hl
   ·exact ⟨_, rfl⟩
   ·exact ⟨_, rfl⟩
   ·cases hl
  obtain ⟨l, rfl⟩ := O
  have ih : ∀ {z : List LK} {cs : List KV} {K : den T → Bool → List Nat → Option R}, bR P T z = true → eZ (bI R) mem T cs K = some r → ∃ x β l, K x β l = some r ∧ cS (bK P (aF mem) n) z (KV.downs cs) = some (β, aV T x, l) :=
   fun hl h => jS hl U h
  simp only [eZ] at h
  split at h
  ·rename_i β ag' Z xs
   rw [c9] at h
   obtain ⟨ha, h⟩ := h
   obtain rfl := L5.1 ha
   split at h
   ·rename_i ys H
    obtain ⟨rfl, rfl⟩ := fW H
    refine ⟨xs, β, [], h, Ks (f := bK P (aF mem) (n + 1)) (a := (β, iB ag Z xs, [])) ?_⟩
    simp only [bR] at hl
    split at hl
    ·rename_i k A
     obtain rfl := (yc1 A).1
     cases ag with
     | true => simp at hl
     | false =>
      cases Z with
      | int M =>
       simp only at hl
       obtain rfl := vV.1 hl
       show bK P (aF mem) (n + 1) (.ints k) (.imm β (.ints k xs)) = some (β, .ints k xs, [])
       simp [bK, guardB, vV.2]
      | _ => simp at hl
    ·rename_i t e A
     obtain rfl := (yc1 A).1
     simp only [yc, yy] at hl
     obtain rfl := nb.1 hl.1.1.1.1
     simp [bK, KV.down, d7 hl.1.1.1.2, guardB]
    ·cases hl
   ·cases h
  ·refine ⟨[], false, [], h, Ks (f := bK P (aF mem) (n + 1)) (a := (false, iB ag T [], [])) ?_⟩
   simp only [bR] at hl
   split at hl
   ·rename_i k A
    obtain rfl := (yc1 A).1
    cases ag with
    | true => simp at hl
    | false =>
     cases T with
     | int M => simp only at hl; obtain rfl := vV.1 hl; simp [bK, KV.down]; rfl
     | _ => simp at hl
   ·rename_i t e A
    obtain rfl := (yc1 A).1
    simp only [yc, yy] at hl
    obtain rfl := nb.1 hl.1.1.1.1
    simp [bK, KV.down, d7 hl.1.1.1.2]
   ·cases hl
  ·rename_i b g
   obtain ⟨x, hx, h⟩ := cY h
   obtain ⟨xs, β, is, h, ht⟩ := vR b hl ih h
   refine ⟨xs, β, is, h, Ks (f := bK P (aF mem) (n + 1)) (a := (β, iB ag T xs, is)) ?_⟩
   cases l <;> simp only at ht <;> first | cases ht | skip
   ·simp only [KV.down, bK, hx, ya]; rw [show x.down.row = x.row.down from rfl, Ci]; exact ht
   ·simp only [KV.down, bK, hx, ya]; rw [show x.down.row = x.row.down from rfl, Ci]; exact ht
  ·rename_i b g o m
   obtain ⟨x, hx, h⟩ := cY h
   obtain ⟨w, Y, h, _⟩ := Cw h
   obtain ⟨xs, β, is, h, ht⟩ := vR b hl ih h
   refine ⟨xs, β, is, h, Ks (f := bK P (aF mem) (n + 1)) (a := (β, iB ag T xs, is)) ?_⟩
   cases l <;> simp only at ht <;> first | cases ht | skip
   ·simp only [KV.down, bK, hx, ya]; rw [show x.down.row = x.row.down from rfl, Y]; exact ht
   ·simp only [KV.down, bK, hx, ya]; rw [show x.down.row = x.row.down from rfl, Y]; exact ht
  ·cases h
 | .cons a b, z, cs, n, K, hl, hn, h => by
  have J : a.depth ≤ n := yt2 (Nat.le_max_left _ _) (show max a.depth b.depth ≤ n from hn)
  have W : b.depth ≤ n := yt2 (Nat.le_max_right _ _) (show max a.depth b.depth ≤ n from hn)
  simp only [bR] at hl
  split at hl
  ·rename_i l z
   simp only [yc] at hl
   obtain ⟨⟨h1, V⟩, N⟩ := hl
   have h1 := nb.1 h1
   simp only [eZ, h1] at h
   obtain ⟨x, β1, l1, h, hx⟩ := jS V J h
   obtain ⟨y, β2, l2, h, H⟩ := jS N W h
   refine ⟨(x, y), β1 || β2, l1 ++ l2, h, ?_⟩
   cases cs with
   | nil => simp [KV.downs, cS] at hx
   | cons v vs =>
    simp only [List.take_succ_cons, List.take_zero, List.drop_succ_cons, yl1] at hx H
    exact Nf hx H
  ·cases hl
end
end Go.Ab
