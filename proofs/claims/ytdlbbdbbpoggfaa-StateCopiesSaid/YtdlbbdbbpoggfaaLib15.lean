import Derived.Test.YtdlbbdbbpoggfaaLib14
set_option linter.unusedVariables false
set_option linter.unusedSectionVars false
set_option linter.unusedSimpArgs false
namespace Go.Ab
variable [GTab]
section
variable {P : Program} {R : Type} {r : R} {mem : KMem} {tab : TypeId → Option TI}
def CellPV (β : Bool) (v : KV) (q : PV) : Prop :=
 (∃ k n, v = .lit (.int k n) ∧ q = .lit (.int k n)) ∨ (∃ b, v = .lit (.bool b) ∧ q = .lit (.bool b)) ∨ (∃ s, v = .lit (.string s) ∧ q = .lit (.string s)) ∨ (∃ ag T xs, v = .tsl β ag T xs ∧ q = pvSl ag T xs)
theorem zcX (β : Bool) (a b : Ty) (x : den (.cons a b)) : cellsOf β (.cons a b) x = cellsOf β a (Prod.fst x) ++ cellsOf β b (Prod.snd x) := rfl
theorem zaQ {β : Bool} : ∀ {T : Ty} {x : den T}, (cellsOf β T x).length = T.size ∧ ∀ (j : Nat) (v : KV), (cellsOf β T x)[j]? = some v → ∃ q, (pvCells T x)[j]? = some q ∧ CellPV β v q
 | .int k, x => ⟨rfl, fun j v h => by
  cases j with
  | zero => obtain rfl := ya h; exact ⟨_, rfl, .inl ⟨k, x, rfl, rfl⟩⟩
  | succ j => cases h⟩
 | .bool, x => ⟨rfl, fun j v h => by
  cases j with
  | zero => obtain rfl := ya h; exact ⟨_, rfl, .inr (.inl ⟨x, rfl, rfl⟩)⟩
  | succ j => cases h⟩
 | .str, x => ⟨rfl, fun j v h => by
  cases j with
  | zero => obtain rfl := ya h; exact ⟨_, rfl, .inr (.inr (.inl ⟨x, rfl, rfl⟩))⟩
  | succ j => cases h⟩
 | .sl ag T, x => ⟨rfl, fun j v h => by
  cases j with
  | zero => obtain rfl := ya h; exact ⟨_, rfl, .inr (.inr (.inr ⟨ag, T, x, rfl, rfl⟩))⟩
  | succ j => cases h⟩
 | .cons a b, x => by
  have ha := zaQ (β := β) (T := a) (x := Prod.fst x)
  have hb := zaQ (β := β) (T := b) (x := Prod.snd x)
  refine ⟨by rw [zcX, yi1, ha.1, hb.1]; rfl, fun j v h => ?_⟩
  rw [zcX] at h
  simp only [pvCells]
  by_cases hj : j < a.size
  ·rw [yp (by rw [ha.1]; exact hj)] at h
   rw [yp (by rw [zj]; exact hj)]
   exact ha.2 j v h
  ·rw [yu (by rw [ha.1]; omega)] at h
   rw [yu (by rw [zj]; omega)]
   rw [ha.1] at h; rw [zj]
   exact hb.2 _ v h
theorem zR : ∀ {T : Ty} {ls : List LK}, chkLs P T ls = true → ls.length = T.size
 | .int k, ls, h => by simp only [chkLs] at h; split at h <;> first | rfl | cases h
 | .bool, ls, h => by simp only [chkLs] at h; split at h <;> first | rfl | cases h
 | .str, ls, h => by simp only [chkLs] at h; split at h <;> first | rfl | cases h
 | .sl ag T, ls, h => by simp only [chkLs] at h; split at h <;> first | rfl | cases h
 | .cons a b, ls, h => by
  simp only [chkLs] at h
  split at h
  ·rename_i l ls
   simp only [yb] at h
   have h1 := zR h.2
   have h0 := nb.1 h.1.1
   show ls.length + 1 = a.size + b.size
   omega
  ·cases h
theorem zlK (β : Bool) (k : IntKind) (xs : List Int) : rdLeaf β (.ints k) (.ints k xs) = some (.imm β (.ints k xs)) := by
 simp [rdLeaf, PV.ints?, keq.2]
theorem zdZ {β : Bool} {T : Ty} {l : LK} {v : KV} {q : PV} (hc : chkLs P T [l] = true) (hl : leafOkK T v = true) (hq : CellPV β v q) : rdLeaf β l q = some v.down := by
 cases T with
 | int k =>
  obtain ⟨k', n, rfl⟩ := zif hl
  simp only [chkLs] at hc
  split at hc
  ·rename_i k2 hk
   obtain rfl := (yz hk).1
   obtain rfl := keq.1 hc
   rcases hq with ⟨k3, n3, h, rfl⟩ | ⟨b, h, _⟩ | ⟨s, h, _⟩ | ⟨ag, T, xs, h, _⟩
   ·obtain ⟨rfl, rfl⟩ := (by simpa using h : k' = k3 ∧ n = n3)
    have hl' : kEq k k' = true := hl
    obtain rfl := keq.1 hl'
    simp [rdLeaf, PV.int?, KV.down, keq.2]
   ·cases h
   ·cases h
   ·cases h
  ·cases hc
 | bool =>
  obtain ⟨n, rfl⟩ := zgg hl
  simp only [chkLs] at hc
  split at hc
  ·rename_i hk
   obtain rfl := (yz hk).1
   rcases hq with ⟨k3, n3, h, rfl⟩ | ⟨b, h, rfl⟩ | ⟨s, h, _⟩ | ⟨ag, T, xs, h, _⟩
   ·cases h
   ·obtain rfl := (by simpa using h : n = b)
    simp [rdLeaf, PV.bool?, KV.down]
   ·cases h
   ·cases h
  ·cases hc
 | str =>
  obtain ⟨n, rfl⟩ := ziT hl
  simp only [chkLs] at hc
  split at hc
  ·rename_i hk
   obtain rfl := (yz hk).1
   rcases hq with ⟨k3, n3, h, rfl⟩ | ⟨b, h, rfl⟩ | ⟨s, h, rfl⟩ | ⟨ag, T, xs, h, _⟩
   ·cases h
   ·cases h
   ·obtain rfl := (by simpa using h : n = s)
    simp [rdLeaf, PV.str?, KV.down]
   ·cases h
  ·cases hc
 | sl ag T =>
  rcases hq with ⟨k3, n3, rfl, _⟩ | ⟨b, rfl, _⟩ | ⟨s, rfl, _⟩ | ⟨ag', T', xs, rfl, rfl⟩
  ·cases hl
  ·cases hl
  ·cases hl
  ·simp only [leafOkK, yb] at hl
   obtain rfl := bbq.1 hl.1
   obtain rfl := Ty.beq_iff.1 hl.2
   simp only [chkLs] at hc
   split at hc
   ·rename_i k hk
    obtain rfl := (yz hk).1
    cases ag with
    | true => simp at hc
    | false =>
     cases T with
     | int k' =>
      simp only at hc
      obtain rfl := keq.1 hc
      exact zlK β k xs
     | _ => simp at hc
   ·rename_i t e hk
    obtain rfl := (yz hk).1
    simp only [yb, yt] at hc
    obtain rfl := nb.1 hc.1.1.1.1
    rw [show KV.down (.tsl β ag T xs) = .imm β (pvSl ag T xs) from rfl, zo hc.1.1.1.2]
    simp [rdLeaf, PV.sl?]
   ·cases hc
 | cons a b => cases v <;> cases hl
theorem zak {a : Ty} (h : a.size = 1) : leavesT a = [a] := by
 rcases zer h with ⟨k, rfl⟩ | rfl | rfl | ⟨ag, T, rfl⟩ <;> rfl
theorem zck {β : Bool} {qs : List PV} : ∀ {T : Ty} {ls : List LK} {vs : List KV} {c : Nat}, chkLs P T ls = true → leavesOkK (leavesT T) vs = true → (∀ (j : Nat) (v : KV), vs[j]? = some v → ∃ q, qs[c + j]? = some q ∧ CellPV β v q) →
  rdLeaves β qs ls c = some (KV.downs vs)
 | .cons a b, ls, vs, c, hc, hv, hq => by
  simp only [chkLs] at hc
  split at hc
  ·rename_i l ls
   simp only [yb] at hc
   obtain ⟨⟨h1, hca⟩, hcb⟩ := hc
   simp only [leavesT, zak (nb.1 h1), List.singleton_append] at hv
   cases vs with
   | nil => cases hv
   | cons v vs =>
    simp only [leavesOkK, yb] at hv
    obtain ⟨q, hq0, hcp⟩ := hq 0 v rfl
    have ih := zck (β := β) (qs := qs) (c := c + 1) hcb hv.2 (fun j v hj => by
     obtain ⟨q, h1, h2⟩ := hq (j + 1) v (by simpa using hj)
     exact ⟨q, by rw [show c + 1 + j = c + (j + 1) by omega]; exact h1, h2⟩)
    rw [ym1] at hq0
    simp [rdLeaves, hq0, zdZ hca hv.1 hcp, ih, KV.downs]
  ·cases hc
 | .int k, ls, vs, c, hc, hv, hq => rdLeaves_one rfl hc hv hq
 | .bool, ls, vs, c, hc, hv, hq => rdLeaves_one rfl hc hv hq
 | .str, ls, vs, c, hc, hv, hq => rdLeaves_one rfl hc hv hq
 | .sl ag T, ls, vs, c, hc, hv, hq => rdLeaves_one rfl hc hv hq
 where
 rdLeaves_one {β : Bool} {qs : List PV} {T : Ty} {ls : List LK} {vs : List KV} {c : Nat} (h1 : T.size = 1) (hc : chkLs P T ls = true) (hv : leavesOkK (leavesT T) vs = true) (hq : ∀ (j : Nat) (v : KV), vs[j]? = some v → ∃ q, qs[c + j]? = some q ∧ CellPV β v q) :
   rdLeaves β qs ls c = some (KV.downs vs) := by
  have hl := zR hc
  rw [h1] at hl
  obtain ⟨l, rfl⟩ := yf2.1 hl
  rw [zak h1] at hv
  cases vs with
  | nil => cases hv
  | cons v vs =>
   cases vs with
   | cons v2 vs => simp [leavesOkK] at hv
   | nil =>
    simp only [leavesOkK, yi3] at hv
    obtain ⟨q, hq0, hcp⟩ := hq 0 v rfl
    rw [ym1] at hq0
    simp [rdLeaves, hq0, zdZ hc hv hcp, KV.downs]
theorem znS {t : TypeId} {ti : TI} (ht : TIok P t ti) {β : Bool} {T : Ty} {x : den T} {p : PV} {c : Nat} {k : KV → Option R} (hp : p.cells = pvCells T x)
  (h : rdCells ti (((cellsOf β T x).drop c).take ti.n) k = some r) : ∃ v, k v = some r ∧ rdT P β t p c = some v.down := by
 unfold rdCells at h
 split at h
 ·rename_i T' hT'
  rw [cds] at h
  obtain ⟨hl, h⟩ := h
  obtain ⟨⟨ls, hls, hc⟩, hn, hag, _⟩ := ht.ty T' hT'
  have hq : ∀ (j : Nat) (v : KV), (((cellsOf β T x).drop c).take ti.n)[j]? = some v → ∃ q, p.cells[c + j]? = some q ∧ CellPV β v q := by
   intro j v hj
   rw [yj1] at hj
   split at hj
   ·rw [yb1] at hj
    rw [hp]; exact (zaQ (β := β) (x := x)).2 _ v hj
   ·cases hj
  have hr := zck (P := P) (c := c) hc hl hq
  cases hg : ti.ag with
  | true =>
   rw [hg] at h; simp only [yg] at h
   refine ⟨_, h, ?_⟩
   unfold rdT
   have ha := ht.ag; rw [hg] at ha
   simp only [ha, hls, yc, ht.n, gds, zR hc, hn, hr, KV.down]
   simp
  | false =>
   rw [hg] at h; simp only [yh] at h
   have ha := ht.ag; rw [hg] at ha
   obtain ⟨l, hl1, rfl⟩ := zad ha hls
   split at h
   ·rename_i v hv
    refine ⟨v, h, ?_⟩
    rw [hv] at hr hq
    obtain ⟨q, hq0, hcp⟩ := hq 0 v rfl
    rw [ym1] at hq0
    unfold rdT
    simp only [ha, hl1, yc, hq0]
    simp only [rdLeaves, hq0, yc, KV.downs] at hr
    rw [obs] at hr
    obtain ⟨a, hra, hr⟩ := hr
    rw [hra]
    exact congrArg some (yz (ya hr)).1
   ·cases h
 ·cases h
theorem zhU {idx : Nat} {k : KV → Option R} : ∀ {cs : List KV} {j : Nat}, selK (real R) idx cs j k = some r → ∃ v, j ≤ idx ∧ cs[idx - j]? = some v ∧ k v = some r
 | [], j, h => by cases h
 | v :: cs, j, h => by
  simp only [selK, real_ite] at h
  cases he : Nat.beq idx j with
  | true =>
   rw [he] at h; simp only [yg] at h
   obtain rfl := nb.1 he
   exact ⟨v, yx _, by simp, h⟩
  | false =>
   rw [he] at h; simp only [yh] at h
   obtain ⟨w, hj, hw, hk⟩ := zhU h
   exact ⟨w, by omega, by rw [show idx - j = (idx - (j + 1)) + 1 by omega]; simpa using hw, hk⟩
theorem zgz {idx : Nat} {v : KV} {cs0 : List KV} {k : List KV → Option R} : ∀ {cs : List KV} {j : Nat}, setSelK (real R) idx v cs0 cs j k = some r → j ≤ idx ∧ idx < j + cs.length ∧ k (cs0.set idx v) = some r
 | [], j, h => by cases h
 | _ :: cs, j, h => by
  simp only [setSelK, real_ite] at h
  cases he : Nat.beq idx j with
  | true =>
   rw [he] at h; simp only [yg] at h
   obtain rfl := nb.1 he
   rw [zP] at h
   exact ⟨yx _, by simp, h⟩
  | false =>
   rw [he] at h; simp only [yh] at h
   obtain ⟨h1, h2, h3⟩ := zgz h
   exact ⟨by omega, by simp only [yh2]; omega, h3⟩
theorem zcs {cs : List KV} {i : Nat} {v : KV} (h : cs[i]? = some v) : (KV.downs cs)[i]? = some v.down := by rw [zy, yc1, h]; rfl
theorem zoF {t : TypeId} {m : Mem} {b g i : Nat} {bx : Box} {kk : IntKind} {xs : List Int} {x : Int} (hb : box? m b g = some bx) (hr : bx.row = .ints kk xs) (ha : isAgg? P t = some false) (hx : xs[i]? = some x) :
  loadA P t m (.ptr b g i 0) = some { v := .lit (.int kk x), rd := [b] } := by
 simp [loadA, hb, hr, ha, hx, guardB]
theorem zjN (ht : TabOK P tab) {t : TypeId} {a : KV} {k : KOut → Option R} (h : loadK (real R) tab t mem a k = some r) : ∃ out, k out = some r ∧ loadA P t (kdown mem) a.down = some out.down ∧ out.wr = [] ∧ out.push = [] := by
 unfold loadK at h
 split at h
 ·rename_i ti hti
  have hok := TIok.of (ht _ _ hti)
  split at h
  ·rename_i β ag T x c
   obtain ⟨v, hk, hr⟩ := znS hok (zr (ag := ag) (T := T) (x := x)) h
   exact ⟨_, hk, by simp only [KV.down, loadA, hr, yk]; rfl, rfl, rfl⟩
  ·rename_i b g i c
   obtain ⟨bx, hbx, h⟩ := zw h
   split at h
   ·rename_i e cs hrow
    have hd : bx.down.row = .cells e (KV.downs cs) := by rw [show bx.down.row = bx.row.down from rfl, hrow]; rfl
    cases hg : ti.ag with
    | true =>
     rw [hg] at h; simp only [yg] at h
     rw [cds] at h
     refine ⟨_, h.2, ?_, rfl, rfl⟩
     have ha := hok.ag; rw [hg] at ha
     simp only [KV.down, loadA, hbx, yc, hd, ha, yg, hok.n, gds, zb, h.1, true_and]
     simp [KOut.down, KV.down, zy, yz2, yo3, kdown]
    | false =>
     rw [hg] at h; simp only [yh] at h
     obtain ⟨v, _, hv, hk⟩ := zhU h
     refine ⟨_, hk, ?_, rfl, rfl⟩
     have ha := hok.ag; rw [hg] at ha
     rw [Nat.sub_zero] at hv
     simp only [KV.down, loadA, hbx, yc, hd, ha, yh, zcs hv, yk]; rfl
   ·rename_i β ag T xs hrow
    cases hag : ti.ag && isIntsK ag T with
    | true => rw [hag] at h; cases h
    | false =>
     rw [hag] at h; simp only [yh, real_getN] at h
     rw [obs] at h
     obtain ⟨x, hx, h⟩ := h
     obtain ⟨v, hk, hr⟩ := znS hok (zr (ag := ag) (T := T) (x := x)) h
     refine ⟨_, hk, ?_, rfl, rfl⟩
     have hd : bx.down.row = (KRow.ts β ag T xs).down := by rw [show bx.down.row = bx.row.down from rfl, hrow]
     cases hi : isIntsK ag T with
     | false =>
      rw [KRow.down_sl hi] at hd
      simp only [KV.down, loadA, hbx, yc, hd, yc1, hx, yk, hr]; rfl
     | true =>
      obtain ⟨rfl, kk, rfl⟩ := zc.1 hi
      rw [hi, yi3] at hag
      have ha := hok.ag; rw [hag] at ha
      have hc : c = 0 ∧ v.down = .lit (.int kk x) := by
       unfold rdT at hr
       simp only [ha] at hr
       rw [obs] at hr
       obtain ⟨l, hl, hr⟩ := hr
       rw [obs] at hr
       obtain ⟨q, hq, hr⟩ := hr
       rw [zr] at hq
       cases c with
       | succ c => cases hq
       | zero =>
        obtain rfl := ya hq
        refine ⟨rfl, ?_⟩
        cases l <;> simp only [rdLeaf, PV.int?, PV.bool?, PV.str?, PV.ints?, PV.sl?, Option.bind_none] at hr <;> first | cases hr | skip
        rw [obs] at hr
        obtain ⟨y, hy, hr⟩ := hr
        rw [cds] at hy
        obtain rfl := keq.1 hy.1
        obtain rfl := ya hy.2
        exact (ya hr).symm
      obtain ⟨rfl, hv⟩ := hc
      have := zoF (g := g) hbx (show bx.down.row = .ints kk xs from hd) ha (show (xs : List Int)[i]? = some x from hx)
      rw [show KV.down (.ptr b g i 0) = .ptr b g i 0 from rfl, this]
      simp [KOut.down, hv, kdown]
   ·cases h
  ·cases h
 ·cases h
end
end Go.Ab
