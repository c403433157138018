import Derived.Test.YtdlbbdbbpoggfaaLib11
set_option linter.unusedVariables false
set_option linter.unusedSectionVars false
set_option linter.unusedSimpArgs false
namespace Go.Ab
variable [GTab]
section
variable {P : Program} {R : Type} {r : R} {mem : KMem}
theorem zip1 {α β γ : Type} {f : γ → α → Option (Bool × β × List Nat)} {l : γ} {v : α} {a : Bool × β × List Nat} (h : f l v = some a) : zipEls f [l] [v] = some (a.1, [a.2.1], a.2.2) := by
 simp [zipEls, h]
theorem zmx {α β γ : Type} {f : γ → α → Option (Bool × β × List Nat)} {l : γ} {ls : List γ} {v : α} {vs : List α} {β1 β2 : Bool} {p q : List β} {i j : List Nat}
  (h1 : zipEls f [l] [v] = some (β1, p, i)) (h2 : zipEls f ls vs = some (β2, q, j)) : zipEls f (l :: ls) (v :: vs) = some (β1 || β2, p ++ q, i ++ j) := by
 simp only [zipEls, obs] at h1
 obtain ⟨a, ha, b, hb, h1⟩ := h1
 obtain rfl := ya hb
 simp only [Option.some.injEq, Prod.mk.injEq, Bool.or_false, yh1] at h1
 obtain ⟨rfl, rfl, rfl⟩ := h1
 simp [zipEls, ha, h2]
theorem zcE {t : TypeId} {ag : Bool} {T : Ty} (h : isAgg? P t = some ag) (hs : ag = false → T.size = 1) (x : den T) : oneEl P t (pvCells T x) = some (pvEl ag T x) := by
 unfold oneEl
 rw [h]
 cases ag with
 | true => rfl
 | false =>
  have hl := zj (T := T) (x := x)
  rw [hs rfl] at hl
  obtain ⟨c, hc⟩ := yf2.1 hl
  rw [hc, pvEl, hc]; rfl
theorem zbp {β ag : Bool} {T : Ty} (h : intsRow ag T = false) : rowB β ag T = β := by
 cases T <;> cases ag <;> first | rfl | cases h
theorem zfa {α β : Type} (f : α → β) (e : Nat) : ∀ (n : Nat) (cs : List α), chunks e n (cs.map f) = (chunks e n cs).map (List.map f)
 | 0, _ => rfl
 | n + 1, cs => by simp only [chunks, yu1, ← yo3, ← yz2, zfa f e n]
theorem zer {a : Ty} (h : a.size = 1) : (∃ k, a = .int k) ∨ a = .bool ∨ a = .str ∨ ∃ ag T, a = .sl ag T := by
 cases a with
 | int k => exact .inl ⟨k, rfl⟩
 | bool => exact .inr (.inl rfl)
 | str => exact .inr (.inr (.inl rfl))
 | sl ag T => exact .inr (.inr (.inr ⟨ag, T, rfl⟩))
 | cons a b => have h1 := Ty.size_pos (T := a); have h2 := Ty.size_pos (T := b); have : a.size + b.size = 1 := h; omega
theorem zhe {ag : Bool} {T : Ty} {f : List KV → (den T → Bool → List Nat → Option R) → Option R} {g : List AV → Option (Bool × PV × List Nat)}
  (hf : ∀ (c : List KV) (K : den T → Bool → List Nat → Option R), f c K = some r → ∃ x β l, K x β l = some r ∧ g (KV.downs c) = some (β, pvEl ag T x, l)) :
  ∀ {cs : List (List KV)} {K : List (den T) → Bool → List Nat → Option R}, denK.denAll ag T f cs K = some r →
   ∃ xs β l, K xs β l = some r ∧ foldEls g (cs.map (List.map KV.down)) = some (β, xs.map (pvEl ag T), l)
 | [], K, h => ⟨[], false, [], h, rfl⟩
 | c :: cs, K, h => by
  simp only [denK.denAll] at h
  obtain ⟨x, β1, l1, h, hx⟩ := hf _ _ h
  obtain ⟨xs, β2, l2, h, hxs⟩ := zhe hf h
  rw [zy] at hx
  exact ⟨x :: xs, β1 || β2, l1 ++ l2, h, by simp [foldEls, hx, hxs]⟩
theorem zid {k : IntKind} : ∀ {cs : List KV} {K : List Int → Bool → List Nat → Option R}, denK.denAll false (.int k) (denK (real R) mem (.int k)) (chunks 1 cs.length cs) K = some r →
   ∃ xs : List Int, K xs false [] = some r ∧ intsOf k (KV.downs cs) = some xs
 | [], K, h => ⟨[], h, rfl⟩
 | c :: cs, K, h => by
  simp only [yh2, chunks, List.take_succ_cons, List.take_zero, List.drop_succ_cons, yf3, denK.denAll, denK] at h
  split at h
  ·rename_i k' x hc
   rw [cds] at h
   obtain ⟨hk, h⟩ := h
   obtain ⟨xs, h, hxs⟩ := zid h
   simp only [List.cons.injEq, and_true] at hc
   subst hc
   exact ⟨x :: xs, h, by simp [KV.downs, KV.down, intsOf, hk, hxs]⟩
  ·cases h
theorem zev (b : Nat) {ag : Bool} {T : Ty} {n : Nat} {l : LK} (hl : chkLs P (.sl ag T) [l] = true)
  (ih : ∀ {ls : List LK} {cs : List KV} {K : den T → Bool → List Nat → Option R}, chkLs P T ls = true → denK (real R) mem T cs K = some r → ∃ x β l, K x β l = some r ∧ zipEls (tree P (kdown mem) n) ls (KV.downs cs) = some (β, pvCells T x, l))
  {row : KRow} {K : List (den T) → Bool → List Nat → Option R} (h : denK.denRow ag T (denK (real R) mem T) b row K = some r) :
  ∃ xs β is, K xs β is = some r ∧ (match l with
   | .ints k => tree.treeInts k b row.view
   | .sl t e => tree.treeSl P (tree P (kdown mem) n) t e b row.view
   | _ => none) = some (β, pvSl ag T xs, is) := by
 simp only [chkLs] at hl
 split at hl
 ·rename_i k hk
  obtain rfl := (yz hk).1
  cases ag with
  | true => simp at hl
  | false =>
   cases T with
   | int k' =>
    simp only at hl
    obtain rfl := keq.1 hl
    cases row with
    | os => cases h
    | ts β ag' T' xs =>
     simp only [denK.denRow] at h
     rw [cds] at h
     obtain ⟨ha, h⟩ := h
     obtain rfl := bbq.1 ha
     split at h
     ·rename_i ys hy
      obtain ⟨rfl, rfl⟩ := zN hy
      exact ⟨xs, _, _, h, by show tree.treeInts k b (.ints k xs) = some (false, .ints k xs, [b]); simp only [tree.treeInts, gds, keq, true_and]⟩
     ·cases h
    | cells e cs =>
     simp only [denK.denRow] at h
     rw [cds] at h
     obtain ⟨he, h⟩ := h
     obtain rfl := nb.1 he
     have hc : countBy (Ty.size (.int k)) cs.length = cs.length := rfl
     rw [hc] at h
     obtain ⟨xs, h, hx⟩ := zid h
     exact ⟨xs, _, _, h, by simp [KRow.view, tree.treeInts, guardB, Ty.size, hx, zoG]⟩
   | _ => simp at hl
 ·rename_i t e hk
  obtain rfl := (yz hk).1
  simp only [yb, yt] at hl
  obtain ⟨⟨⟨⟨he, hni⟩, hag⟩, hsz⟩, hls⟩ := hl
  obtain rfl := nb.1 he
  have hag' : isAgg? P t = some ag := by
   split at hag
   ·rename_i a ha; rw [ha, bbq.1 hag]
   ·cases hag
  have hsz' : ag = false → T.size = 1 := fun e => by rw [e] at hsz; exact nb.1 (by simpa using hsz)
  split at hls
  ·rename_i ls' hl'
   cases row with
   | os => cases h
   | ts β ag' T' xs =>
    simp only [denK.denRow] at h
    rw [cds] at h
    obtain ⟨ha, h⟩ := h
    obtain rfl := bbq.1 ha
    split at h
    ·rename_i ys hy
     obtain ⟨rfl, rfl⟩ := zN hy
     refine ⟨xs, _, _, h, ?_⟩
     rw [KRow.view_sl hni, zbp hni, zo hni]
     simp [tree.treeSl, guardB]
    ·cases h
   | cells e cs =>
    simp only [denK.denRow] at h
    rw [cds] at h
    obtain ⟨he, h⟩ := h
    obtain rfl := nb.1 he
    obtain ⟨xs, β, is, h, hx⟩ := zhe (ag := ag) (g := fun vs => (zipEls (tree P (kdown mem) n) ls' vs).bind fun q => (oneEl P t q.2.1).map fun p => (q.1, p, q.2.2)) (fun c K hc => by
     obtain ⟨x, β, l, hK, hz⟩ := ih hls hc
     exact ⟨x, β, l, hK, by simp [hz, zcE hag' hsz']⟩) h
    refine ⟨xs, β, _, h, ?_⟩
    rw [← zfa, ← zy] at hx
    rw [zo hni]
    simp only [KRow.view, tree.treeSl, gds, hl', yc]
    rw [zb, hx]
    simp [guardB, Ty.size_pos, nl.2 Ty.size_pos]
  ·cases hls
 ·cases hl
theorem zbb : ∀ {T : Ty} {ls : List LK} {cs : List KV} {n : Nat} {K : den T → Bool → List Nat → Option R}, chkLs P T ls = true → T.depth ≤ n → denK (real R) mem T cs K = some r →
  ∃ x β l, K x β l = some r ∧ zipEls (tree P (kdown mem) n) ls (KV.downs cs) = some (β, pvCells T x, l)
 | .int k, ls, cs, n, K, hl, hn, h => by
  obtain ⟨n, rfl⟩ : ∃ m, n = m + 1 := ⟨n - 1, by have : 1 ≤ n := hn; omega⟩
  simp only [chkLs] at hl
  split at hl
  ·rename_i k'
   obtain rfl := keq.1 hl
   simp only [denK] at h
   split at h
   ·rename_i k' x
    rw [cds] at h
    exact ⟨x, false, [], h.2, zip1 (β := PV) (f := tree P (kdown mem) (n + 1)) (a := (false, PV.lit (.int k x), [])) (by simp [tree, KV.down, guardB, h.1, (keq.1 h.1).symm, keq.2])⟩
   ·cases h
  ·cases hl
 | .bool, ls, cs, n, K, hl, hn, h => by
  obtain ⟨n, rfl⟩ : ∃ m, n = m + 1 := ⟨n - 1, by have : 1 ≤ n := hn; omega⟩
  simp only [chkLs] at hl
  split at hl
  ·simp only [denK] at h
   split at h
   ·rename_i x
    exact ⟨x, false, [], h, zip1 (β := PV) (f := tree P (kdown mem) (n + 1)) (a := (false, PV.lit (.bool x), [])) (by simp [tree, KV.down])⟩
   ·cases h
  ·cases hl
 | .str, ls, cs, n, K, hl, hn, h => by
  obtain ⟨n, rfl⟩ : ∃ m, n = m + 1 := ⟨n - 1, by have : 1 ≤ n := hn; omega⟩
  simp only [chkLs] at hl
  split at hl
  ·simp only [denK] at h
   split at h
   ·rename_i x
    exact ⟨x, false, [], h, zip1 (β := PV) (f := tree P (kdown mem) (n + 1)) (a := (false, PV.lit (.string x), [])) (by simp [tree, KV.down])⟩
   ·cases h
  ·cases hl
 | .sl ag T, ls, cs, n, K, hl, hn, h => by
  obtain ⟨n, rfl⟩ : ∃ m, n = m + 1 := ⟨n - 1, by have : T.depth + 1 ≤ n := hn; omega⟩
  have hn' : T.depth ≤ n := by have : T.depth + 1 ≤ n + 1 := hn; omega
  have hls : ∃ l, ls = [l] := by
   simp only [chkLs] at hl
   split at hl
   ·exact ⟨_, rfl⟩
   ·exact ⟨_, rfl⟩
   ·cases hl
  obtain ⟨l, rfl⟩ := hls
  have ih : ∀ {ls : List LK} {cs : List KV} {K : den T → Bool → List Nat → Option R}, chkLs P T ls = true → denK (real R) mem T cs K = some r → ∃ x β l, K x β l = some r ∧ zipEls (tree P (kdown mem) n) ls (KV.downs cs) = some (β, pvCells T x, l) :=
   fun hl h => zbb hl hn' h
  simp only [denK] at h
  split at h
  ·rename_i β ag' T' xs
   rw [cds] at h
   obtain ⟨ha, h⟩ := h
   obtain rfl := bbq.1 ha
   split at h
   ·rename_i ys hy
    obtain ⟨rfl, rfl⟩ := zN hy
    refine ⟨xs, β, [], h, zip1 (f := tree P (kdown mem) (n + 1)) (a := (β, pvSl ag T' xs, [])) ?_⟩
    simp only [chkLs] at hl
    split at hl
    ·rename_i k hk
     obtain rfl := (yz hk).1
     cases ag with
     | true => simp at hl
     | false =>
      cases T' with
      | int k' =>
       simp only at hl
       obtain rfl := keq.1 hl
       show tree P (kdown mem) (n + 1) (.ints k) (.imm β (.ints k xs)) = some (β, .ints k xs, [])
       simp [tree, guardB, keq.2]
      | _ => simp at hl
    ·rename_i t e hk
     obtain rfl := (yz hk).1
     simp only [yb, yt] at hl
     obtain rfl := nb.1 hl.1.1.1.1
     simp [tree, KV.down, zo hl.1.1.1.2, guardB]
    ·cases hl
   ·cases h
  ·refine ⟨[], false, [], h, zip1 (f := tree P (kdown mem) (n + 1)) (a := (false, pvSl ag T [], [])) ?_⟩
   simp only [chkLs] at hl
   split at hl
   ·rename_i k hk
    obtain rfl := (yz hk).1
    cases ag with
    | true => simp at hl
    | false =>
     cases T with
     | int k' => simp only at hl; obtain rfl := keq.1 hl; simp [tree, KV.down]; rfl
     | _ => simp at hl
   ·rename_i t e hk
    obtain rfl := (yz hk).1
    simp only [yb, yt] at hl
    obtain rfl := nb.1 hl.1.1.1.1
    simp [tree, KV.down, zo hl.1.1.1.2]
   ·cases hl
  ·rename_i b g
   obtain ⟨x, hx, h⟩ := zw h
   obtain ⟨xs, β, is, h, ht⟩ := zev b hl ih h
   refine ⟨xs, β, is, h, zip1 (f := tree P (kdown mem) (n + 1)) (a := (β, pvSl ag T xs, is)) ?_⟩
   cases l <;> simp only at ht <;> first | cases ht | skip
   ·simp only [KV.down, tree, hx, yc]; rw [show x.down.row = x.row.down from rfl, zhr]; exact ht
   ·simp only [KV.down, tree, hx, yc]; rw [show x.down.row = x.row.down from rfl, zhr]; exact ht
  ·rename_i b g o m
   obtain ⟨x, hx, h⟩ := zw h
   obtain ⟨w, hw, h, _⟩ := ziX h
   obtain ⟨xs, β, is, h, ht⟩ := zev b hl ih h
   refine ⟨xs, β, is, h, zip1 (f := tree P (kdown mem) (n + 1)) (a := (β, pvSl ag T xs, is)) ?_⟩
   cases l <;> simp only at ht <;> first | cases ht | skip
   ·simp only [KV.down, tree, hx, yc]; rw [show x.down.row = x.row.down from rfl, hw]; exact ht
   ·simp only [KV.down, tree, hx, yc]; rw [show x.down.row = x.row.down from rfl, hw]; exact ht
  ·cases h
 | .cons a b, ls, cs, n, K, hl, hn, h => by
  have hn1 : a.depth ≤ n := yb2 (Nat.le_max_left _ _) (show max a.depth b.depth ≤ n from hn)
  have hn2 : b.depth ≤ n := yb2 (Nat.le_max_right _ _) (show max a.depth b.depth ≤ n from hn)
  simp only [chkLs] at hl
  split at hl
  ·rename_i l ls
   simp only [yb] at hl
   obtain ⟨⟨h1, hla⟩, hlb⟩ := hl
   have h1 := nb.1 h1
   simp only [denK, h1] at h
   obtain ⟨x, β1, l1, h, hx⟩ := zbb hla hn1 h
   obtain ⟨y, β2, l2, h, hy⟩ := zbb hlb hn2 h
   refine ⟨(x, y), β1 || β2, l1 ++ l2, h, ?_⟩
   cases cs with
   | nil => simp [KV.downs, zipEls] at hx
   | cons v vs =>
    simp only [List.take_succ_cons, List.take_zero, List.drop_succ_cons, yf3] at hx hy
    exact zmx hx hy
  ·cases hl
theorem zmU {v : KV} (h : ownOf mem [v] = none) : treeO (kdown mem) v.down = none := by
 have main : ∀ b g, (∀ z, getR mem b = some (some z) → (Nat.beq z.gen g && rowOwn z.row && !z.frz) = false) → ∀ x, boxO? (kdown mem) b g = some x → x.frz = true := by
  intro b g h x hx
  unfold boxO? at hx
  rw [zX, ← zf] at hx
  cases hb : getR mem b with
  | none => rw [hb] at hx; cases hx
  | some y => cases y with
   | none => rw [hb] at hx; cases hx
   | some z =>
    have h := h z hb
    rw [hb] at hx
    simp only [yk, KBox.down, zG] at hx
    cases hg : Nat.beq z.gen g && rowOwn z.row with
    | false => rw [hg] at hx; cases hx
    | true =>
     rw [hg] at hx h
     obtain rfl := ya hx
     simpa using h
 cases v with
 | msw b g =>
  simp only [KV.down, treeO]
  cases hx : boxO? (kdown mem) b g with
  | none => rfl
  | some x =>
   have hf := main b g (fun z hz => by
    simp only [ownOf, hz] at h
    cases hc : Nat.beq z.gen g && rowOwn z.row && !z.frz with
    | true => rw [hc] at h; cases h
    | false => rfl) x hx
   simp only [yc]
   split
   ·rw [hf]; rfl
   ·rfl
 | ms b g o n =>
  cases o with
  | succ o => rfl
  | zero =>
   simp only [KV.down, treeO]
   cases hx : boxO? (kdown mem) b g with
   | none => rfl
   | some x =>
    have hf := main b g (fun z hz => by
     simp only [ownOf, hz] at h
     cases hc : Nat.beq z.gen g && rowOwn z.row && !z.frz with
     | true => rw [hc] at h; cases h
     | false => rfl) x hx
    simp only [yc]
    split
    ·rw [hf]; rfl
    ·rfl
 | _ => rfl
theorem znx {l : LK} {v : AV} {m : Mem} (h : treeO m v = none) : treeX P m l v = tree P m treeDepth l v := by
 unfold treeX; rw [h]
theorem zpY {α β γ : Type} {f g : γ → α → Option (Bool × β × List Nat)} {l : γ} {v : α} (h : f l v = g l v) : zipEls f [l] [v] = zipEls g [l] [v] := by simp [zipEls, h]
theorem zgj {T : Ty} {ls : List LK} (h1 : T.size = 1) (h : chkLs P T ls = true) : ∃ l, ls = [l] := by
 rcases zer h1 with ⟨k, rfl⟩ | rfl | rfl | ⟨ag, T, rfl⟩ <;> (simp only [chkLs] at h; split at h <;> first | exact ⟨_, rfl⟩ | cases h)
theorem zipX {ls : List LK} {cs : List KV} {q : Bool × List PV × List Nat} (h1 : ∃ l, ls = [l]) (hn : ∀ v, cs = [v] → ownOf mem [v] = none) (h : zipEls (tree P (kdown mem) 6) ls (KV.downs cs) = some q) :
  zipEls (treeX P (kdown mem)) ls (KV.downs cs) = some q := by
 obtain ⟨l, rfl⟩ := h1
 cases cs with
 | nil => cases h
 | cons v vs => cases vs with
  | cons w ws =>
   simp only [KV.downs, zipEls, obs] at h
   obtain ⟨_, _, _, h, _⟩ := h
   cases h
  | nil =>
   rw [← h]
   exact zpY (znx (zmU (hn v rfl)))
theorem zpv {T : Ty} {l : LK} (hl : chkLs P (.sl (agOf T) T) [l] = true) : ∃ t, l = .sl t T.size := by
 simp only [chkLs] at hl
 split at hl
 ·rename_i k hk
  cases hag : agOf T with
  | true => rw [hag] at hl; simp at hl
  | false =>
   rw [hag] at hl
   cases T with
   | int k' => cases hag
   | _ => simp at hl
 ·rename_i t e hk
  obtain rfl := (yz hk).1
  simp only [yb, yt] at hl
  obtain rfl := nb.1 hl.1.1.1.1
  exact ⟨t, rfl⟩
 ·cases hl
theorem zby : ∀ {T : Ty} {ls : List LK} {cs : List KV} {K : den T → Bool → List Nat → Option R}, chkLs P T ls = true → T.depth ≤ 6 → denX (real R) mem T cs K = some r →
  ∃ x β l, K x β l = some r ∧ zipEls (treeX P (kdown mem)) ls (KV.downs cs) = some (β, pvCells T x, l)
 | .int k, ls, cs, K, hl, hn, h => by
  simp only [denX] at h
  have h2 := h
  obtain ⟨x, β, l, hK, hz⟩ := zbb hl hn h
  refine ⟨x, β, l, hK, zipX (zgj rfl hl) (fun v hv => ?_) hz⟩
  subst hv
  cases v <;> first | rfl | (simp [denK] at h2)
 | .bool, ls, cs, K, hl, hn, h => by
  simp only [denX] at h
  have h2 := h
  obtain ⟨x, β, l, hK, hz⟩ := zbb hl hn h
  refine ⟨x, β, l, hK, zipX (zgj rfl hl) (fun v hv => ?_) hz⟩
  subst hv
  cases v <;> first | rfl | (simp [denK] at h2)
 | .str, ls, cs, K, hl, hn, h => by
  simp only [denX] at h
  have h2 := h
  obtain ⟨x, β, l, hK, hz⟩ := zbb hl hn h
  refine ⟨x, β, l, hK, zipX (zgj rfl hl) (fun v hv => ?_) hz⟩
  subst hv
  cases v <;> first | rfl | (simp [denK] at h2)
 | .sl ag T, ls, cs, K, hl, hn, h => by
  simp only [denX] at h
  cases ho : ownOf mem cs with
  | none =>
   rw [ho] at h
   obtain ⟨x, β, l, hK, hz⟩ := zbb hl hn h
   exact ⟨x, β, l, hK, zipX (zgj rfl hl) (fun v hv => by rw [← hv]; exact ho) hz⟩
  | some q =>
   rw [ho] at h
   simp only at h
   split at h
   ·rename_i T' xs hrow
    rw [cds] at h
    obtain ⟨ha, h⟩ := h
    obtain rfl := bbq.1 ha
    split at h
    ·rename_i ys hy
     obtain ⟨rfl, rfl⟩ := zN hy
     obtain ⟨l, rfl⟩ := zgj rfl hl
     obtain ⟨t0, rfl⟩ := zpv hl
     have leaf : ∀ zs : List (den T'), guardB (Nat.beq T'.size T'.size) (some (false, PV.sl T'.size (zs.map (pvEl (agOf T') T')), [q.1])) = some (false, pvSl (agOf T') T' zs, [q.1]) := by
      intro zs
      simp [guardB, zo (zjr T')]
     unfold ownOf at ho
     split at ho
     ·rename_i b g
      split at ho
      ·rename_i x hx
       rw [cds] at ho
       obtain ⟨hg, ho⟩ := ho
       obtain rfl := ya ho
       simp only [yb, yt] at hg
       simp only at h hrow
       refine ⟨xs, false, [b], h, zip1 (f := treeX P (kdown mem)) (a := (false, pvSl (agOf T') T' xs, [b])) ?_⟩
       have hT : treeO (kdown mem) (.msw b g) = some (b, T'.size, xs.map (pvEl (agOf T') T')) := by
        simp only [treeO, boxO?]
        rw [zbR hx]
        simp only [KBox.down, zG, hg.1.1, hg.1.2, hg.2, yk3, yg, yc]
        rw [hrow]; rfl
       simp only [KV.down, treeX, hT]
       exact leaf xs
      ·cases ho
     ·rename_i b g o n
      split at ho
      ·rename_i x hx
       rw [cds] at ho
       obtain ⟨hg, ho⟩ := ho
       obtain rfl := ya ho
       simp only [yb, yt] at hg
       simp only [real_guard] at h hrow
       rw [cds] at h
       obtain ⟨ho0, h⟩ := h
       obtain rfl := nb.1 ho0
       rw [cds] at h
       obtain ⟨hnl, h⟩ := h
       refine ⟨xs.take n, false, [b], h, zip1 (f := treeX P (kdown mem)) (a := (false, pvSl (agOf T') T' (xs.take n), [b])) ?_⟩
       have hT : treeO (kdown mem) (.ms b g 0 n) = some (b, T'.size, (xs.take n).map (pvEl (agOf T') T')) := by
        simp only [treeO, boxO?]
        rw [zbR hx]
        simp only [KBox.down, zG, hg.1.1, hg.1.2, hg.2, yk3, yg, yc]
        rw [hrow]
        simp only [KRow.down, yf1, hnl, holesD]
        simp [guardB, yz2]
       simp only [KV.down, treeX, hT]
       exact leaf _
      ·cases ho
     ·cases ho
    ·cases h
   ·cases h
 | .cons a b, ls, cs, K, hl, hn, h => by
  have hn1 : a.depth ≤ 6 := yb2 (Nat.le_max_left _ _) (show max a.depth b.depth ≤ 6 from hn)
  have hn2 : b.depth ≤ 6 := yb2 (Nat.le_max_right _ _) (show max a.depth b.depth ≤ 6 from hn)
  simp only [chkLs] at hl
  split at hl
  ·rename_i l ls
   simp only [yb] at hl
   obtain ⟨⟨h1, hla⟩, hlb⟩ := hl
   have h1 := nb.1 h1
   simp only [denX, h1] at h
   obtain ⟨x, β1, l1, h, hx⟩ := zby hla hn1 h
   obtain ⟨y, β2, l2, h, hy⟩ := zby hlb hn2 h
   refine ⟨(x, y), β1 || β2, l1 ++ l2, h, ?_⟩
   cases cs with
   | nil => simp [KV.downs, zipEls] at hx
   | cons v vs =>
    simp only [List.take_succ_cons, List.take_zero, List.drop_succ_cons, yf3] at hx hy
    exact zmx hx hy
  ·cases hl
end
end Go.Ab
