import Derived.Test.YtmoldheenagboaaLib10
set_option linter.unusedVariables false
set_option linter.unusedSectionVars false
set_option linter.unusedSimpArgs false
namespace Go.Ab
variable [b8]
section
variable {P : Program} {R : Type} {r : R} {mem : aO}
theorem Hr {α β γ : Type} {f : γ → α → Option (Bool × β × List Nat)} {l : γ} {v : α} {a : Bool × β × List Nat} (h : f l v = some a) : cG f [l] [v] = some (a.1, [a.2.1], a.2.2) := by
 simp [cG, h]
theorem KZ {α β γ : Type} {f : γ → α → Option (Bool × β × List Nat)} {l : γ} {H : List γ} {v : α} {vs : List α} {β1 β2 : Bool} {p q : List β} {i j : List Nat}
  (z : cG f [l] [v] = some (β1, p, i)) (K : cG f H vs = some (β2, q, j)) : cG f (l :: H) (v :: vs) = some (β1 || β2, p ++ q, i ++ j) := by
 simp only [cG, Jc] at z
 obtain ⟨a, J, b, N, z⟩ := z
 obtain rfl := ya N
 simp only [Option.some.injEq, Prod.mk.injEq, Bool.or_false, yp1] at z
 obtain ⟨rfl, rfl, rfl⟩ := z
 simp [cG, J, K]
theorem v3 {t : TypeId} {ag : Bool} {T : Ty} (h : isAgg? P t = some ag) (J : ag = false → T.size = 1) (x : den T) : BR P t (aS T x) = some (eF ag T x) := by
 unfold BR
 rw [h]
 cases ag with
 | true => rfl
 | false =>
  have H := bJ (T := T) (x := x)
  rw [J rfl] at H
  obtain ⟨c, z⟩ := yb2.1 H
  rw [z, eF, z]; rfl
theorem vW {β ag : Bool} {T : Ty} (h : f9 ag T = false) : mF β ag T = β := by
 cases T <;> cases ag <;> first | rfl | cases h
theorem Cz {α β : Type} (f : α → β) (e : Nat) : ∀ (n : Nat) (cs : List α), gY e n (cs.map f) = (gY e n cs).map (List.map f)
 | 0, _ => rfl
 | n + 1, cs => by simp only [gY, yc2, ← yj3, ← yi3, Cz f e n]
theorem C2 {a : Ty} (h : a.size = 1) : (∃ k, a = .int k) ∨ a = .bool ∨ a = .str ∨ ∃ ag T, a = .sl ag T := by
 cases a with
 | int k => exact .inl ⟨k, rfl⟩
 | bool => exact .inr (.inl rfl)
 | str => exact .inr (.inr (.inl rfl))
 | sl ag T => exact .inr (.inr (.inr ⟨ag, T, rfl⟩))
 | cons a b => have h1 := Ty.size_pos (T := a); have h2 := Ty.size_pos (T := b); have : a.size + b.size = 1 := h; omega
theorem z3 {ag : Bool} {T : Ty} {f : List KV → (den T → Bool → List Nat → Option R) → Option R} {g : List AV → Option (Bool × PV × List Nat)}
  (J : ∀ (c : List KV) (K : den T → Bool → List Nat → Option R), f c K = some r → ∃ x β l, K x β l = some r ∧ g (KV.downs c) = some (β, eF ag T x, l)) :
  ∀ {cs : List (List KV)} {K : List (den T) → Bool → List Nat → Option R}, eB.denAll ag T f cs K = some r →
   ∃ xs β l, K xs β l = some r ∧ eN g (cs.map (List.map KV.down)) = some (β, xs.map (eF ag T), l)
 | [], K, h => ⟨[], false, [], h, rfl⟩
 | c :: cs, K, h => by
  simp only [eB.denAll] at h
  obtain ⟨x, β1, N, h, H⟩ := J _ _ h
  obtain ⟨xs, β2, O, h, z⟩ := z3 J h
  rw [cO] at H
  exact ⟨x :: xs, β1 || β2, N ++ O, h, by simp [eN, H, z]⟩
theorem Bf {k : IntKind} : ∀ {cs : List KV} {K : List Int → Bool → List Nat → Option R}, eB.denAll false (.int k) (eB (aL R) mem (.int k)) (gY 1 cs.length cs) K = some r →
   ∃ xs : List Int, K xs false [] = some r ∧ d4 k (KV.downs cs) = some xs
 | [], K, h => ⟨[], h, rfl⟩
 | c :: cs, K, h => by
  simp only [yw, gY, List.take_succ_cons, List.take_zero, List.drop_succ_cons, yl3, eB.denAll, eB] at h
  split at h
  ·rename_i k' x H
   rw [cK] at h
   obtain ⟨J, h⟩ := h
   obtain ⟨xs, h, z⟩ := Bf h
   simp only [List.cons.injEq, and_true] at H
   subst H
   exact ⟨x :: xs, h, by simp [KV.downs, KV.down, d4, J, z]⟩
  ·cases h
theorem rI (b : Nat) {ag : Bool} {T : Ty} {n : Nat} {l : LK} (H : bN P (.sl ag T) [l] = true)
  (ih : ∀ {ls : List LK} {cs : List KV} {K : den T → Bool → List Nat → Option R}, bN P T ls = true → eB (aL R) mem T cs K = some r → ∃ x β l, K x β l = some r ∧ cG (bD P (aB mem) n) ls (KV.downs cs) = some (β, aS T x, l))
  {row : KRow} {K : List (den T) → Bool → List Nat → Option R} (h : eB.denRow ag T (eB (aL R) mem T) b row K = some r) :
  ∃ xs β is, K xs β is = some r ∧ (match l with
   | .ints k => bD.treeInts k b row.view
   | .sl t e => bD.treeSl P (bD P (aB mem) n) t e b row.view
   | _ => none) = some (β, gF ag T xs, is) := by
 simp only [bN] at H
 split at H
 ·rename_i k hk
  obtain rfl := (yx hk).1
  cases ag with
  | true => simp at H
  | false =>
   cases T with
   | int k' =>
    simp only at H
    obtain rfl := rT.1 H
    cases row with
    | ts β ag' T' xs =>
     simp only [eB.denRow] at h
     rw [cK] at h
     obtain ⟨U, h⟩ := h
     obtain rfl := JB.1 U
     split at h
     ·rename_i ys hy
      obtain ⟨rfl, rfl⟩ := eZ hy
      exact ⟨xs, _, _, h, by show bD.treeInts k b (.ints k xs) = some (false, .ints k xs, [b]); simp only [bD.treeInts, f8, rT, true_and]⟩
     ·cases h
    | cells e cs =>
     simp only [eB.denRow] at h
     rw [cK] at h
     obtain ⟨V, h⟩ := h
     obtain rfl := nb.1 V
     have hc : a6 (Ty.size (.int k)) cs.length = cs.length := rfl
     rw [hc] at h
     obtain ⟨xs, h, Z⟩ := Bf h
     exact ⟨xs, _, _, h, by simp [KRow.view, bD.treeInts, guardB, Ty.size, Z, JW]⟩
   | _ => simp at H
 ·rename_i t e hk
  obtain rfl := (yx hk).1
  simp only [yc, yz] at H
  obtain ⟨⟨⟨⟨V, z⟩, N⟩, Y⟩, J⟩ := H
  obtain rfl := nb.1 V
  have O : isAgg? P t = some ag := by
   split at N
   ·rename_i a U; rw [U, JB.1 N]
   ·cases N
  have W : ag = false → T.size = 1 := fun e => by rw [e] at Y; exact nb.1 (by simpa using Y)
  split at J
  ·rename_i ls' hl'
   cases row with
   | ts β ag' T' xs =>
    simp only [eB.denRow] at h
    rw [cK] at h
    obtain ⟨U, h⟩ := h
    obtain rfl := JB.1 U
    split at h
    ·rename_i ys hy
     obtain ⟨rfl, rfl⟩ := eZ hy
     refine ⟨xs, _, _, h, ?_⟩
     rw [KRow.view_sl z, vW z, dB z]
     simp [bD.treeSl, guardB]
    ·cases h
   | cells e cs =>
    simp only [eB.denRow] at h
    rw [cK] at h
    obtain ⟨V, h⟩ := h
    obtain rfl := nb.1 V
    obtain ⟨xs, β, is, h, Z⟩ := z3 (ag := ag) (g := fun vs => (cG (bD P (aB mem) n) ls' vs).bind fun q => (BR P t q.2.1).map fun p => (q.1, p, q.2.2)) (fun c K hc => by
     obtain ⟨x, β, l, hK, hz⟩ := ih J hc
     exact ⟨x, β, l, hK, by simp [hz, v3 O W]⟩) h
    refine ⟨xs, β, _, h, ?_⟩
    rw [← Cz, ← cO] at Z
    rw [dB z]
    simp only [KRow.view, bD.treeSl, f8, hl', yb]
    rw [aK, Z]
    simp [guardB, Ty.size_pos, nl.2 Ty.size_pos]
  ·cases J
 ·cases H
theorem iS : ∀ {T : Ty} {H : List LK} {cs : List KV} {n : Nat} {K : den T → Bool → List Nat → Option R}, bN P T H = true → T.depth ≤ n → eB (aL R) mem T cs K = some r →
  ∃ x β l, K x β l = some r ∧ cG (bD P (aB mem) n) H (KV.downs cs) = some (β, aS T x, l)
 | .int k, H, cs, n, K, z, J, h => by
  obtain ⟨n, rfl⟩ : ∃ m, n = m + 1 := ⟨n - 1, by have : 1 ≤ n := J; omega⟩
  simp only [bN] at z
  split at z
  ·rename_i Y
   obtain rfl := rT.1 z
   simp only [eB] at h
   split at h
   ·rename_i Y x
    rw [cK] at h
    exact ⟨x, false, [], h.2, Hr (β := PV) (f := bD P (aB mem) (n + 1)) (a := (false, PV.lit (.int k x), [])) (by simp [bD, KV.down, guardB, h.1, (rT.1 h.1).symm, rT.2])⟩
   ·cases h
  ·cases z
 | .bool, H, cs, n, K, z, J, h => by
  obtain ⟨n, rfl⟩ : ∃ m, n = m + 1 := ⟨n - 1, by have : 1 ≤ n := J; omega⟩
  simp only [bN] at z
  split at z
  ·simp only [eB] at h
   split at h
   ·rename_i x
    exact ⟨x, false, [], h, Hr (β := PV) (f := bD P (aB mem) (n + 1)) (a := (false, PV.lit (.bool x), [])) (by simp [bD, KV.down])⟩
   ·cases h
  ·cases z
 | .str, H, cs, n, K, z, J, h => by
  obtain ⟨n, rfl⟩ : ∃ m, n = m + 1 := ⟨n - 1, by have : 1 ≤ n := J; omega⟩
  simp only [bN] at z
  split at z
  ·simp only [eB] at h
   split at h
   ·rename_i x
    exact ⟨x, false, [], h, Hr (β := PV) (f := bD P (aB mem) (n + 1)) (a := (false, PV.lit (.string x), [])) (by simp [bD, KV.down])⟩
   ·cases h
  ·cases z
 | .sl ag T, H, cs, n, K, z, J, h => by
  obtain ⟨n, rfl⟩ : ∃ m, n = m + 1 := ⟨n - 1, by have : T.depth + 1 ≤ n := J; omega⟩
  have hn' : T.depth ≤ n := by have : T.depth + 1 ≤ n + 1 := J; omega
  have Z : ∃ l, H = [l] := by
   simp only [bN] at z
   split at z
   ·exact ⟨_, rfl⟩
   ·exact ⟨_, rfl⟩
   ·cases z
  obtain ⟨l, rfl⟩ := Z
  have ih : ∀ {H : List LK} {cs : List KV} {K : den T → Bool → List Nat → Option R}, bN P T H = true → eB (aL R) mem T cs K = some r → ∃ x β l, K x β l = some r ∧ cG (bD P (aB mem) n) H (KV.downs cs) = some (β, aS T x, l) :=
   fun z h => iS z hn' h
  simp only [eB] at h
  split at h
  ·rename_i β ag' T' xs
   rw [cK] at h
   obtain ⟨ha, h⟩ := h
   obtain rfl := JB.1 ha
   split at h
   ·rename_i ys V
    obtain ⟨rfl, rfl⟩ := eZ V
    refine ⟨xs, β, [], h, Hr (f := bD P (aB mem) (n + 1)) (a := (β, gF ag T' xs, [])) ?_⟩
    simp only [bN] at z
    split at z
    ·rename_i k U
     obtain rfl := (yx U).1
     cases ag with
     | true => simp at z
     | false =>
      cases T' with
      | int Y =>
       simp only at z
       obtain rfl := rT.1 z
       show bD P (aB mem) (n + 1) (.ints k) (.imm β (.ints k xs)) = some (β, .ints k xs, [])
       simp [bD, guardB, rT.2]
      | _ => simp at z
    ·rename_i t e U
     obtain rfl := (yx U).1
     simp only [yc, yz] at z
     obtain rfl := nb.1 z.1.1.1.1
     simp [bD, KV.down, dB z.1.1.1.2, guardB]
    ·cases z
   ·cases h
  ·refine ⟨[], false, [], h, Hr (f := bD P (aB mem) (n + 1)) (a := (false, gF ag T [], [])) ?_⟩
   simp only [bN] at z
   split at z
   ·rename_i k U
    obtain rfl := (yx U).1
    cases ag with
    | true => simp at z
    | false =>
     cases T with
     | int Y => simp only at z; obtain rfl := rT.1 z; simp [bD, KV.down]; rfl
     | _ => simp at z
   ·rename_i t e U
    obtain rfl := (yx U).1
    simp only [yc, yz] at z
    obtain rfl := nb.1 z.1.1.1.1
    simp [bD, KV.down, dB z.1.1.1.2]
   ·cases z
  ·rename_i b g
   obtain ⟨x, N, h⟩ := cM h
   obtain ⟨xs, β, is, h, O⟩ := rI b z ih h
   refine ⟨xs, β, is, h, Hr (f := bD P (aB mem) (n + 1)) (a := (β, gF ag T xs, is)) ?_⟩
   cases l <;> simp only at O <;> first | cases O | skip
   ·simp only [KV.down, bD, N, yb]; rw [show x.down.row = x.row.down from rfl, AQ]; exact O
   ·simp only [KV.down, bD, N, yb]; rw [show x.down.row = x.row.down from rfl, AQ]; exact O
  ·rename_i b g o m
   obtain ⟨x, N, h⟩ := cM h
   obtain ⟨w, hw, h, _⟩ := Cp h
   obtain ⟨xs, β, is, h, O⟩ := rI b z ih h
   refine ⟨xs, β, is, h, Hr (f := bD P (aB mem) (n + 1)) (a := (β, gF ag T xs, is)) ?_⟩
   cases l <;> simp only at O <;> first | cases O | skip
   ·simp only [KV.down, bD, N, yb]; rw [show x.down.row = x.row.down from rfl, hw]; exact O
   ·simp only [KV.down, bD, N, yb]; rw [show x.down.row = x.row.down from rfl, hw]; exact O
  ·cases h
 | .cons a b, H, cs, n, K, z, J, h => by
  have hn1 : a.depth ≤ n := yt1 (Nat.le_max_left _ _) (show max a.depth b.depth ≤ n from J)
  have hn2 : b.depth ≤ n := yt1 (Nat.le_max_right _ _) (show max a.depth b.depth ≤ n from J)
  simp only [bN] at z
  split at z
  ·rename_i l H
   simp only [yc] at z
   obtain ⟨⟨h1, hla⟩, W⟩ := z
   have h1 := nb.1 h1
   simp only [eB, h1] at h
   obtain ⟨x, β1, l1, h, N⟩ := iS hla hn1 h
   obtain ⟨y, β2, l2, h, V⟩ := iS W hn2 h
   refine ⟨(x, y), β1 || β2, l1 ++ l2, h, ?_⟩
   cases cs with
   | nil => simp [KV.downs, cG] at N
   | cons v vs =>
    simp only [List.take_succ_cons, List.take_zero, List.drop_succ_cons, yl3] at N V
    exact KZ N V
  ·cases z
end
end Go.Ab
