import Derived.Test.YtdlbbdbbpoggfaaLib17
set_option linter.unusedVariables false
set_option linter.unusedSectionVars false
set_option linter.unusedSimpArgs false
namespace Go.Ab
variable [b4]
section
variable {P : Program} {R : Type} {r : R} {mem : aD} {tab : TypeId → Option TI}
mutual
theorem wR : ∀ v : KV, v.down.refs = v.refs
 | .lit _ => rfl
 | .tsl _ _ _ _ => rfl
 | .el _ _ _ _ _ => rfl
 | .ptr _ _ _ _ => rfl
 | .ms _ _ _ _ => rfl
 | .msw _ _ => rfl
 | .fn f H I => by simp only [KV.down, AV.refs, KV.refs, bZ H, bZ I]
 | .agg cs => by simp only [KV.down, AV.refs, KV.refs, bZ cs]
 | .tup vs => by simp only [KV.down, AV.refs, KV.refs, bZ vs]
 | .dead => rfl
 | .gone => rfl
 | .unkB => rfl
theorem bZ : ∀ vs : List KV, AV.refsAll (KV.downs vs) = KV.refsAll vs
 | [] => rfl
 | v :: vs => by simp only [KV.downs, AV.refsAll, KV.refsAll, wR v, bZ vs]
end
mutual
theorem u0 (f : jS) : ∀ v : KV, v.down.ren f = (v.ren f).down
 | .lit _ => rfl
 | .tsl _ _ _ _ => rfl
 | .el _ _ _ _ _ => rfl
 | .ptr b g i c => by simp only [KV.down, AV.ren, KV.ren]; cases f b g <;> rfl
 | .ms b g o n => by simp only [KV.down, AV.ren, KV.ren]; cases f b g <;> rfl
 | .msw b g => by simp only [KV.down, AV.ren, KV.ren]; cases f b g <;> rfl
 | .fn h H I => by simp only [KV.down, AV.ren, KV.ren, fD f H, fD f I]
 | .agg cs => by simp only [KV.down, AV.ren, KV.ren, fD f cs]
 | .tup vs => by simp only [KV.down, AV.ren, KV.ren, fD f vs]
 | .dead => rfl
 | .gone => rfl
 | .unkB => rfl
theorem fD (f : jS) : ∀ vs : List KV, AV.renAll f (KV.downs vs) = KV.downs (KV.renAll f vs)
 | [] => rfl
 | v :: vs => by simp only [KV.downs, AV.renAll, KV.renAll, u0 f v, fD f vs]
end
mutual
theorem Bv : ∀ v : KV, v.down.lent = v.lent
 | .lit _ => rfl
 | .tsl _ _ _ _ => rfl
 | .el _ _ _ _ _ => rfl
 | .ptr _ _ _ _ => rfl
 | .ms _ _ _ _ => rfl
 | .msw _ _ => rfl
 | .fn f H I => by simp only [KV.down, AV.lent, KV.lent, gO H, gO I]
 | .agg cs => by simp only [KV.down, AV.lent, KV.lent, gO cs]
 | .tup vs => by simp only [KV.down, AV.lent, KV.lent, gO vs]
 | .dead => rfl
 | .gone => rfl
 | .unkB => rfl
theorem gO : ∀ vs : List KV, AV.lentAny (KV.downs vs) = KV.lentAny vs
 | [] => rfl
 | v :: vs => by simp only [KV.downs, AV.lentAny, KV.lentAny, Bv v, gO vs]
end
theorem w4 : ∀ hs : cY, e4 (aV hs) = vY hs
 | [] => rfl
 | (i, c, v) :: hs => by simp only [aV, e4, vY, wR, w4 hs]
theorem AX (f : jS) : ∀ hs : cY, nT f (aV hs) = aV (z9 f hs)
 | [] => rfl
 | (i, c, v) :: hs => by simp only [aV, nT, z9, u0, AX f hs]
theorem yQ : ∀ hs : cY, k9 (aV hs) = wJ hs
 | [] => rfl
 | (i, c, v) :: hs => by simp only [aV, k9, wJ, Bv, yQ hs]
theorem IW (x : KRow) : x.down.refs = x.refs := by
 cases x with
 | os T xs hs => exact w4 hs
 | cells e cs => exact bZ cs
 | ts β ag T xs =>
  cases H : aY ag T with
  | true => obtain ⟨rfl, kk, rfl⟩ := aK.1 H; rfl
  | false => rw [KRow.down_sl H]; rfl
theorem C9 (f : jS) (x : KRow) : x.down.ren f = (x.ren f).down := by
 cases x with
 | os T xs hs => simp only [KRow.down, Row.ren, KRow.ren, AX]
 | cells e cs => simp only [KRow.down, Row.ren, KRow.ren, fD]
 | ts β ag T xs =>
  cases H : aY ag T with
  | true => obtain ⟨rfl, kk, rfl⟩ := aK.1 H; rfl
  | false => simp only [KRow.ren]; rw [KRow.down_sl H]; rfl
theorem IS (mem : aD) (b : Nat) : Bw (aB mem) b = H9 mem b := by
 unfold Bw H9
 rw [aX, eM]
 cases mem[b]? with
 | none => rfl
 | some x => cases x with
  | none => rfl
  | some x => exact IW x.row
theorem q8 (mem : aD) : ∀ (n : Nat) (I H : List Nat), fX (aB mem) n I H = vU mem n I H
 | 0, _, _ => rfl
 | n + 1, [], _ => rfl
 | n + 1, b :: I, H => by
  simp only [fX, vU, IS, q8 mem n]
theorem zB (mem : aD) (b : Nat) : nU (aB mem) b = sM mem b := by
 unfold nU sM
 rw [aX, eM]
 cases mem[b]? with
 | none => rfl
 | some x => cases x <;> rfl
theorem Ht (mem : aD) (b : Nat) : kJ (aB mem) b = Fj mem b := by
 unfold kJ Fj
 rw [aX, eM]
 cases mem[b]? with
 | none => rfl
 | some x => cases x with
  | none => rfl
  | some x => exact fF x.row
theorem y6 (m : Nat) (keep : Bool) (mem : aD) (ids : List Nat) : fG m keep (aB mem) ids = mQ m keep mem ids := by
 funext b g
 unfold fG mQ
 rw [zB]
 cases sM mem b with
 | none => rfl
 | some h =>
  simp only [Ht]
  cases s9 b ids 0 <;> rfl
theorem wN (m : Nat) (keep : Bool) (f : jS) (mem : aD) : ∀ (j : Nat) (ids : List Nat), d6 m keep f (aB mem) j ids = aB (oN m keep f mem j ids)
 | _, [] => rfl
 | j, b :: ids => by
  have H := wN m keep f mem (j + 1) ids
  simp only [d6, oN, H]
  rw [aX, eM]
  cases mem[b]? with
  | none => rfl
  | some x => cases x with
   | none => rfl
   | some x => simp only [yg]; rw [show x.down.row = x.row.down from rfl, C9, fF]; rfl
theorem Bq (mem : aD) (n : Nat) : dH (aB mem) n = j3 mem n := by simp only [dH, j3, d8]
theorem j9 : ∀ mem : aD, i9 (aB mem) = e7 mem
 | [] => rfl
 | none :: m => by
  have := j9 m
  simp only [aB, i9, yx1, e7] at this ⊢
  rw [this]; rfl
 | some x :: m => by
  have := j9 m
  simp only [aB, i9, yx1, e7] at this ⊢
  rw [this]; simp [dE.down, fF]
theorem p3 : ∀ (old : List (Option Bool)) (mem : aD), nG old (aB mem) = FF old mem
 | [], _ => by simp [nG, FF]
 | some k :: old, some x :: m => by
  have := p3 old m
  show ((bif k then x.row.down.isCells && Nat.beq x.gen 0 else !x.row.down.isCells) && nG old (aB m)) = _
  rw [this, fF]; rfl
 | none :: old, none :: m => p3 old m
 | some k :: old, none :: m => rfl
 | none :: old, some x :: m => rfl
 | some k :: old, [] => rfl
 | none :: old, [] => rfl
theorem Da : ∀ (hs : cY) (j : Nat), cR (aV hs) j = aV (cR hs j)
 | [], _ => rfl
 | h :: r, 0 => rfl
 | h :: r, j + 1 => by simp only [aV, cR, Da r j]
theorem vI (c : Nat) : ∀ hs : cY, jQ c (aV hs) = (lD c hs).map fun q => (q.1, q.2.down)
 | [] => rfl
 | (i, H, v) :: r => by
  simp only [aV, jQ, lD]
  cases Nat.beq c H with
  | true => rfl
  | false => simpa using vI c r
theorem v5 {α : Type} (x : Option α) : I2 x = x.isNone := by cases x <;> rfl
theorem pQ {α β : Type} (x : Option α) (f : α → β) : (x.map f).isNone = x.isNone := by cases x <;> rfl
theorem getD (hs : cY) (j : Nat) : (aV hs)[j]? = (hs[j]?).map fun h => (h.1, h.2.1, h.2.2.down) := by
 induction hs generalizing j with
 | nil => rfl
 | cons h r H =>
  cases j with
  | zero => rfl
  | succ j => simpa [aV] using H j
theorem Hc {mem : aD} {b : Nat} : (aB mem)[b]? = (dX mem b).map fun x => x.map dE.down := by rw [eM, aX]
theorem Hn (m : Nat) (refs : List Nat) (mem : aD) (v : KV) : kO m refs (aB mem) v.down = JD m refs mem v := by
 have H : ∀ (b g : Nat) (w : AV), (w = .msw b g ∨ ∃ o n, w = .ms b g o n) →
   kO m refs (aB mem) w = (Nat.ble m b && Nat.beq (cS b refs) 1 && (match dX mem b with
  | some (some x) => Nat.beq x.gen g && !x.frz && (match x.row with | .ts β ag T _ => !(AE β ag T) | _ => false)
  | _ => false)) := by
  intro b g w K
  have J := Hc (mem := mem) (b := b)
  rcases K with rfl | ⟨o, n, rfl⟩
  ·simp only [kO, nA, J]
   cases dX mem b with
   | none => rfl
   | some y => cases y with
    | none => rfl
    | some x =>
     simp only [yg, dE.down]
     cases x.row with
     | cells e cs => rfl
     | os T xs hs => rfl
     | ts β ag T xs =>
      cases I : aY ag T with
      | true => obtain ⟨rfl, M, rfl⟩ := aK.1 I; rfl
      | false => rw [KRow.down_sl I]; simp only [lU I]
  ·simp only [kO, nA, J]
   cases dX mem b with
   | none => rfl
   | some y => cases y with
    | none => rfl
    | some x =>
     simp only [yg, dE.down]
     cases x.row with
     | cells e cs => rfl
     | os T xs hs => rfl
     | ts β ag T xs =>
      cases I : aY ag T with
      | true => obtain ⟨rfl, M, rfl⟩ := aK.1 I; rfl
      | false => rw [KRow.down_sl I]; simp only [lU I]
 cases v with
 | msw b g => exact H b g (.msw b g) (.inl rfl)
 | ms b g o n => exact H b g (.ms b g o n) (.inr ⟨o, n, rfl⟩)
 | _ => rfl
theorem sN (m : Nat) (refs : List Nat) (mem : aD) (all : cY) : ∀ (hs : cY) (j : Nat), j1 m refs (aB mem) (aV all) (aV hs) j = pY m refs mem all hs j
 | [], _ => rfl
 | (i, c, v) :: r, j => by
  simp only [aV, j1, pY, Hn, Da, vI, pQ, v5, sN m refs mem all r]
theorem nX (m : Nat) (refs : List Nat) (mem : aD) : ∀ (l : aD) (b : Nat), iH m refs (aB mem) (aB l) b = o5 m refs mem l b
 | [], _ => rfl
 | none :: r, b => nX m refs mem r (b + 1)
 | some x :: r, b => by
  have H := nX m refs mem r (b + 1)
  obtain ⟨J, fz, row⟩ := x
  cases row with
  | cells e cs => exact H
  | ts β ag T xs =>
   cases I : aY ag T with
   | true => obtain ⟨rfl, kk, rfl⟩ := aK.1 I; exact H
   | false =>
    show iH m refs (aB mem) (some ⟨J, fz, (KRow.ts β ag T xs).down⟩ :: aB r) b = _
    rw [KRow.down_sl I]
    exact H
  | os T xs hs =>
   show (match j1 m refs (aB mem) (aV hs) (aV hs) 0 with | some k => some (b, k) | none => iH m refs (aB mem) (aB r) (b + 1)) = _
   rw [sN, H]
   rfl
theorem sL {cs : List KV} {i : Nat} {v : KV} : c5 cs i [v] = cs.set i v := by simp [c5, d5]
theorem Dw {T : Ty} {x : den T} : (eW T = true ∧ cT (eW T) T x = .agg (aM T x)) ∨ (eW T = false ∧ ∃ p, aM T x = [p] ∧ cT (eW T) T x = p ∧ Au p = true) := by
 cases T with
 | sl ag T => exact .inr ⟨rfl, dL ag T x, rfl, rfl, vR ag T x⟩
 | int k => exact .inl ⟨rfl, jL (.inl rfl)⟩
 | bool => exact .inl ⟨rfl, jL (.inl rfl)⟩
 | str => exact .inl ⟨rfl, jL (.inl rfl)⟩
 | cons a b => exact .inl ⟨rfl, jL (.inl rfl)⟩
theorem FQ {T : Ty} {x z : den T} {c : Nat} {q : PV} (I : c < (aM T x).length) (h : aM T z = (aM T x).set c q) : jB (cT (eW T) T x) c q = cT (eW T) T z := by
 rcases Dw (T := T) (x := x) with ⟨M, K⟩ | ⟨M, p, K, U, Y⟩
 ·rcases Dw (T := T) (x := z) with ⟨_, H⟩ | ⟨H, _⟩
  ·rw [K, H, h]; rfl
  ·rw [M] at H; cases H
 ·rcases Dw (T := T) (x := z) with ⟨H, _⟩ | ⟨_, W, N, V, h7⟩
  ·rw [M] at H; cases H
  ·rw [U, V]
   rw [K] at I h
   have J : c = 0 := by simp at I; exact I
   subst J
   rw [N] at h
   have O : W = q := by simpa using h
   cases p <;> first | exact O.symm | cases Y
theorem K1 {T : Ty} {xs : List (den T)} {i : Nat} {z : den T} : (xs.map (cT (eW T) T)).set i (cT (eW T) T z) = (xs.set i z).map (cT (eW T) T) := by rw [List.map_set]
theorem qV (mem : aD) (b : Nat) (x : Option dE) : aB (sU x mem b) = (aB mem).set b (x.map dE.down) := by simp [aB, d5, List.map_set]
theorem HE {v : KV} {k : Nat → KRow → Option R} (h : Fb (aP R) mem v k = some r) : ∃ b row, k b row = some r ∧ ∀ β ag T K, row = .ts β ag T K → AE β ag T = false → zH (aB mem) v.down = some (b, dL ag T K) := by
 unfold Fb at h
 split at h
 ·rename_i b g
  obtain ⟨x, M, h⟩ := cQ h
  cases I : x.frz with
  | true => rw [I] at h; cases h
  | false =>
   rw [I] at h
   refine ⟨b, x.row, h, ?_⟩
   intro β ag T K hr J
   simp only [KV.down, zH, M, ye, show x.down.frz = x.frz from rfl, I, yk, show x.down.row = x.row.down from rfl, hr]
   cases H : aY ag T with
   | true => obtain ⟨rfl, N, rfl⟩ := aK.1 H; rfl
   | false =>
    rw [lU H] at J; subst J
    rw [KRow.down_sl H, bX H]
 ·rename_i b g o n
  simp only [real_guard] at h
  rw [bP] at h
  obtain ⟨W, h⟩ := h
  obtain rfl := nb.1 W
  obtain ⟨x, M, h⟩ := cQ h
  cases I : x.frz with
  | true => rw [I] at h; cases h
  | false =>
   rw [I] at h
   simp only [yk] at h
   split at h
   ·rename_i β ag T xs hr
    rw [bP] at h
    refine ⟨b, _, h.2, ?_⟩
    intro β' V T' K U J
    cases U
    simp only [KV.down, zH, M, ye, show x.down.frz = x.frz from rfl, I, yk, show x.down.row = x.row.down from rfl, hr]
    have O := h.1
    clear h
    cases H : aY ag T with
    | true =>
     obtain ⟨rfl, N, rfl⟩ := aK.1 H
     show guardB (Nat.ble n xs.length) (some (b, PV.ints N (xs.take n))) = some (b, .ints N (xs.take n))
     rw [d9]; exact ⟨O, rfl⟩
    | false =>
     rw [lU H] at J; subst J
     rw [KRow.down_sl H, bX H]
     simp only
     rw [d9]
     exact ⟨by rw [ye1]; exact O, by rw [yz2]⟩
   ·cases h
 ·cases h
theorem MY {ag : Bool} {T : Ty} (xs I : List (den T)) : N3 (dL ag T xs) (dL ag T I) = true := by
 cases H : aY ag T with
 | true => obtain ⟨rfl, kk, rfl⟩ := aK.1 H; exact rW.2 rfl
 | false => rw [bX H, bX H]; exact nb.2 rfl
theorem F1 {b j : Nat} {k : aD → Option R} (h : BN (aP R) mem b j k = some r) : ∃ mem', k mem' = some r ∧ oU (aB mem) b j = some (aB mem') := by
 unfold BN at h
 split at h
 ·rename_i x hx
  split at h
  ·rename_i T xs hs J
   split at h
   ·rename_i hl N
    obtain ⟨b', row, h, W⟩ := HE h
    split at h
    ·rename_i β V T' Z
     rw [bP] at h
     obtain ⟨K, h⟩ := h
     simp only [yb, yq] at K
     obtain ⟨⟨g1, g2⟩, g3⟩ := K
     have W := W β V T' Z rfl g1
     simp only [real_getN] at h
     rw [C3] at h
     obtain ⟨p, hpx, h⟩ := h
     split at h
     ·rename_i β2 H T'' Y I
      rw [bP] at h
      obtain ⟨K, h⟩ := h
      simp only [yb] at K
      obtain rfl := Ip.1 K.1
      obtain rfl := Ty.beq_iff.1 K.2
      rw [aX] at I
      obtain ⟨y, hy, U⟩ := (dF.of false T p).2 _ _ I
      have M : y = dL H T'' Y := by
       rcases U with ⟨_, _, e, _⟩ | ⟨_, e, _⟩ | ⟨_, e, _⟩ | ⟨_, _, _, e, rfl⟩ <;> cases e
       rfl
      have O : hl.2.1 < (aM T p).length := (yd.1 hy).1
      rw [sL] at h
      obtain ⟨z, _, _, h, hz⟩ := kQ ((dF.of false T p).set (v := .tsl false H T'' Z) (q := dL H T'' Z) (.inr (.inr (.inr ⟨_, _, _, rfl, rfl⟩))) hl.2.1) h
      refine ⟨_, h, ?_⟩
      unfold oU
      rw [mN hx]
      obtain ⟨gn, fz, row⟩ := x
      simp only at J
      subst J
      rw [aX] at N
      simp only [dE.down, KRow.down, getD, N, yg, ye]
      rw [yb1, hpx]
      simp only [yg, ye, b7, hy, W]
      rw [d9]
      refine ⟨?_, ?_⟩
      ·simp only [yb, yq]
       refine ⟨⟨?_, g2⟩, ?_⟩
       ·rw [M]; exact MY _ _
       ·rw [Da, vI, pQ, ← v5]; exact g3
      ·rw [qV, qV, FQ O hz, K1, Da]; rfl
     ·cases h
    ·cases h
   ·cases h
  ·cases h
 ·cases h
theorem gM : ∀ mem : aD, cE (aB mem) = iA mem
 | [] => rfl
 | none :: m => gM m
 | some x :: m => by
  have H := gM m
  show x.row.down.refs ++ cE (aB m) = _
  rw [H, IW]; rfl
theorem Ah {m : Nat} {vs : List KV} : ∀ {n : Nat} {mem : aD} {k : aD → Option R}, AC (aP R) m vs n mem k = some r → ∃ mem', k mem' = some r ∧ lR m (KV.downs vs) n (aB mem) = some (aB mem')
 | 0, mem, k, h => ⟨mem, h, rfl⟩
 | n + 1, mem, k, h => by
  simp only [AC] at h
  simp only [lR, bZ, gM, nX]
  split at h
  ·rename_i I
   rw [I]
   exact ⟨mem, h, rfl⟩
  ·rename_i q I
   rw [I]
   obtain ⟨J, h, K⟩ := F1 h
   obtain ⟨H, h, hs⟩ := Ah h
   exact ⟨H, h, by simp only [K, ye, hs]⟩
theorem Kc (mem : aD) (b : Nat) : Lz (aB mem) b = He mem b := by
 unfold Lz He
 rw [Hc]
 cases dX mem b with
 | none => rfl
 | some y => cases y <;> rfl
theorem Et (m : Nat) (vs : List KV) : ∀ (n : Nat) (mem : aD), qN m (KV.downs vs) n (aB mem) = aB (C7 m vs n mem)
 | 0, _ => rfl
 | b + 1, mem => by
  simp only [qN, C7, Kc, bZ, gM]
  rw [← Et m vs b]
  congr 1
  cases (Nat.ble m b && He mem b && Nat.beq (cS b (KV.refsAll vs ++ iA mem)) 0) with
  | false => rfl
  | true => simp only [yl, qV]; rfl
theorem zF {m : Nat} {vs : List KV} {mem : aD} {k : aD → Option R} (h : Kw (aP R) m vs mem k = some r) : ∃ mem', k mem' = some r ∧ Ci m (KV.downs vs) (aB mem) = some (aB mem') := by
 obtain ⟨mem', H, I⟩ := Ah h
 refine ⟨mem', H, ?_⟩
 unfold Ci
 rw [d8, Et]; exact I
theorem E9 {keep : Bool} {old : List (Option Bool)} {vs : List KV} {k : List KV → aD → Option R} (h : A3 (aP R) keep old vs mem k = some r) : ∃ H mem', k H mem' = some r ∧ rK keep old (KV.downs vs) (aB mem) = some (KV.downs H, aB mem') := by
 unfold A3 at h
 obtain ⟨I, h, hs⟩ := zF h
 simp only at h
 rw [bP] at h
 refine ⟨_, _, h.2, ?_⟩
 unfold rK
 simp only [hs, ye, bZ, Bq, q8, p3, y6, fD, wN]
 rw [d9]
 exact ⟨h.1, rfl⟩
theorem Es (m : Nat) (mem : aD) (v : KV) : v.down.frz m (aB mem) = (v.frz m mem).down := by
 cases v with
 | msw b g =>
  simp only [KV.down, AV.frz, KV.frz]
  cases Nat.ble m b with
  | false => rfl
  | true =>
   simp only [yl]
   unfold box?
   rw [aX, eM]
   cases mem[b]? with
   | none => rfl
   | some x => cases x with
    | none => rfl
    | some x =>
     obtain ⟨I, fz, row⟩ := x
     simp only [yg, dE.down, dI]
     cases hg : Nat.beq I g with
     | false => rfl
     | true =>
      cases row with
      | os T xs hs => rfl
      | cells e cs => rfl
      | ts β ag T xs =>
       cases H : aY ag T with
       | true => obtain ⟨rfl, kk, rfl⟩ := aK.1 H; rfl
       | false =>
        simp only [gV, Bool.not_false, yo3, yl]
        rw [KRow.down_sl H, lU H, sY H]
 | tsl β ag T xs => rfl
 | _ => rfl
theorem sV (m : Nat) (mem : aD) : ∀ vs : List KV, AV.frzAll m (aB mem) (KV.downs vs) = KV.downs (KV.frzAll m mem vs)
 | [] => rfl
 | v :: vs => by simp only [KV.downs, AV.frzAll, KV.frzAll, Es, sV m mem vs]
theorem Jh (m : Nat) (mem : aD) (v : KV) : lE m (aB mem) v.down = (v8 m mem v).down := by
 cases v with
 | tup vs => simp only [KV.down, lE, v8, sV]
 | agg vs => simp only [KV.down, lE, v8, sV]
 | msw b g => exact Es m mem (.msw b g)
 | _ => rfl
theorem pX : ∀ mem : aD, gQ (aB mem) = rZ mem
 | [] => rfl
 | none :: m => pX m
 | some x :: m => by
  have I := pX m
  show ((match x.row.down with | .cells _ cs => AV.lentAny cs | .pvs β _ _ => β | .ints _ _ => false | .own _ _ hs => k9 hs) || gQ (aB m)) = _
  rw [I]
  simp only [rZ]
  congr 1
  cases x.row with
  | os T xs hs => exact yQ hs
  | cells e cs => exact gO cs
  | ts β ag T xs =>
   cases H : aY ag T with
   | true => obtain ⟨rfl, kk, rfl⟩ := aK.1 H; rfl
   | false => rw [KRow.down_sl H]; simp only [lU H]
theorem Ih (mem sub : aD) (ids : List Nat) : cU (aB mem) (aB sub) ids = mH mem sub ids := by
 funext b g
 unfold cU mH
 rw [aX]
 cases ids[b]? with
 | none => simp only [d8]
 | some a =>
  simp only
  rw [zB, aX, eM]
  cases sub[b]? with
  | none => rfl
  | some x => cases x with
   | none => rfl
   | some x =>
    simp only [yg]
    cases sM mem a with
    | none => rfl
    | some h => rfl
theorem mL (f : jS) (mem : aD) : ∀ (ids : List Nat) (sub : aD), a8 f (aB mem) ids (aB sub) = (iN f mem ids sub).map fun q => (q.1, q.2.down)
 | a :: ids, some x :: sub => by
  have H := mL f mem ids sub
  show (a, _) :: a8 f (aB mem) ids (aB sub) = _
  rw [H]
  simp only [iN, yx1]
  congr 2
  simp only [dE.down, C9, zB]
  cases sM mem a <;> rfl
 | a :: ids, none :: sub => mL f mem ids sub
 | [], [] => rfl
 | [], _ :: _ => by simp [a8, iN, aB]
 | a :: ids, [] => rfl
theorem oH (f : jS) : ∀ sub : aD, eR f (aB sub) = aB (v6 f sub)
 | [] => rfl
 | none :: m => by
  have H := oH f m
  show none :: eR f (aB m) = _
  rw [H]; rfl
 | some x :: m => by
  have H := oH f m
  show some _ :: eR f (aB m) = _
  rw [H]
  show some ({ gen := 0, frz := x.frz, row := x.row.down.ren f } : a9) :: _ = _
  rw [C9]; rfl
theorem Dt (mem : aD) (n : Nat) : (aB mem).take n = aB (mem.take n) := by simp [aB, yz2]
theorem Lh (mem : aD) (n : Nat) : (aB mem).drop n = aB (mem.drop n) := by simp [aB, yn3]
theorem zN : ∀ cs : List KV, GX (KV.downs cs) = o4.hasMsK cs
 | [] => rfl
 | v :: cs => by
  have ih := zN cs
  cases v <;> simp_all [KV.downs, KV.down, GX, o4.hasMsK, AV.dead, AV.goneV, AV.unkB]
theorem AF {ag : Bool} {T : Ty} {l : LK} {v : KV} {k : List (den T) → Bool → List Nat → Option R} (V : (∃ b g, v = .msw b g) ∨ ∃ b g o n, v = .ms b g o n) (O : aS P (.sl ag T) [l] = true) (N : (Ty.sl ag T).depth ≤ 6)
  (h : wW (aP R) mem (.sl ag T) [v] k = some r) : ∃ xs β ids, k xs β ids = some r ∧ gB P (aB mem) l v.down = some ((KV.tsl true ag T xs).down, ids) := by
 obtain ⟨x, β, ids, h, H⟩ := l9 O N h
 refine ⟨x, β, ids, h, ?_⟩
 simp only [KV.downs, b3, C3] at H
 obtain ⟨a, J, b, M, H⟩ := H
 obtain rfl := ya M
 simp only [Option.some.injEq, Prod.mk.injEq, Bool.or_false, yg1] at H
 obtain ⟨h1, U, K⟩ := H
 have I : a.2.1 = dL ag T x := (yx U).1
 rcases V with ⟨b, g, rfl⟩ | ⟨b, g, o, n, rfl⟩
 ·simp only [KV.down, gB] at J ⊢
  rw [J, yg, I, K]
 ·simp only [KV.down, gB] at J ⊢
  rw [J, yg, I, K]
theorem Lb {t : TypeId} {v : KV} (H : ∀ b g, v ≠ .msw b g) (I : ∀ b g o n, v ≠ .ms b g o n) (J : ∀ cs, v ≠ .agg cs) : lend P (aB mem) t v.down = some (v.down, []) := by
 cases v with
 | ms b g o n => exact absurd rfl (I b g o n)
 | msw b g => exact absurd rfl (H b g)
 | agg cs => exact absurd rfl (J cs)
 | _ => rfl
theorem Dj {l : LK} {v : KV} (H : ∀ b g, v ≠ .msw b g) (I : ∀ b g o n, v ≠ .ms b g o n) : gB P (aB mem) l v.down = some (v.down, []) := by
 cases v with
 | ms b g o n => exact absurd rfl (I b g o n)
 | msw b g => exact absurd rfl (H b g)
 | _ => rfl
theorem vF : ∀ {T : Ty} {ls : List LK} {vs : List KV} {k : List KV → List Nat → Option R}, aS P T ls = true → T.depth ≤ 6 → o4.lendCellsK (aP R) mem (c6 T) vs k = some r →
  ∃ ws ids, k ws ids = some r ∧ bT P (aB mem) ls (KV.downs vs) = some (KV.downs ws, ids)
 | .cons a b, ls, vs, k, H, I, h => by
  simp only [aS] at H
  split at H
  ·rename_i l ls
   simp only [yb] at H
   obtain ⟨⟨K, Y⟩, V⟩ := H
   have U : a.depth ≤ 6 := ya2 (Nat.le_max_left _ _) (show max a.depth b.depth ≤ 6 from I)
   have W : b.depth ≤ 6 := ya2 (Nat.le_max_right _ _) (show max a.depth b.depth ≤ 6 from I)
   simp only [c6, fQ (nb.1 K), List.singleton_append] at h
   exact one Y U (fun h => vF V W h) h
  ·cases H
 | .int kk, ls, vs, k, H, I, h => lendOne rfl H I h
 | .bool, ls, vs, k, H, I, h => lendOne rfl H I h
 | .str, ls, vs, k, H, I, h => lendOne rfl H I h
 | .sl ag T, ls, vs, k, H, I, h => lendOne rfl H I h
 where
 one {T : Ty} {l : LK} {J : List Ty} {ls : List LK} {vs : List KV} {k : List KV → List Nat → Option R} (H : aS P T [l] = true) (I : T.depth ≤ 6)
   (N : ∀ {vs : List KV} {k : List KV → List Nat → Option R}, o4.lendCellsK (aP R) mem J vs k = some r → ∃ ws ids, k ws ids = some r ∧ bT P (aB mem) ls (KV.downs vs) = some (KV.downs ws, ids))
   (h : o4.lendCellsK (aP R) mem (T :: J) vs k = some r) : ∃ ws ids, k ws ids = some r ∧ bT P (aB mem) (l :: ls) (KV.downs vs) = some (KV.downs ws, ids) := by
  cases vs with
  | nil => cases h
  | cons v vs =>
   have plain : (∀ b g, v ≠ .msw b g) → (∀ b g o n, v ≠ .ms b g o n) → (o4.lendCellsK (aP R) mem J vs fun ws Z => k (v :: ws) Z) = some r → ∃ ws ids, k ws ids = some r ∧ bT P (aB mem) (l :: ls) (KV.downs (v :: vs)) = some (KV.downs ws, ids) := by
    intro K h2 h
    obtain ⟨ws, M, h, hr⟩ := N h
    exact ⟨_, _, h, by simp [KV.downs, bT, Dj K h2, hr]⟩
   cases v with
   | msw b g =>
    cases T with
    | sl ag T => exact boxed (.inl ⟨_, _, rfl⟩) H I N h
    | _ => cases h
   | ms b g o n =>
    cases T with
    | sl ag T => exact boxed (.inr ⟨_, _, _, _, rfl⟩) H I N h
    | _ => cases h
   | _ => exact plain (by simp) (by simp) h
 boxed {ag : Bool} {T : Ty} {l : LK} {J : List Ty} {ls : List LK} {v : KV} {vs : List KV} {k : List KV → List Nat → Option R} (hv : (∃ b g, v = .msw b g) ∨ (∃ b g o n, v = .ms b g o n)) (H : aS P (.sl ag T) [l] = true) (I : (Ty.sl ag T).depth ≤ 6)
   (N : ∀ {vs : List KV} {k : List KV → List Nat → Option R}, o4.lendCellsK (aP R) mem J vs k = some r → ∃ ws ids, k ws ids = some r ∧ bT P (aB mem) ls (KV.downs vs) = some (KV.downs ws, ids))
   (h : (wW (aP R) mem (.sl ag T) [v] fun xs _ l => o4.lendCellsK (aP R) mem J vs fun ws Z => k (.tsl true ag T xs :: ws) (l ++ Z)) = some r) :
   ∃ ws ids, k ws ids = some r ∧ bT P (aB mem) (l :: ls) (KV.downs (v :: vs)) = some (KV.downs ws, ids) := by
  obtain ⟨xs, β, ids, h, O⟩ := AF hv H I h
  obtain ⟨ws, M, h, hr⟩ := N h
  exact ⟨_, _, h, by simp [KV.downs, bT, O, hr]⟩
 lendOne {T : Ty} {ls : List LK} {vs : List KV} {k : List KV → List Nat → Option R} (K : T.size = 1) (H : aS P T ls = true) (I : T.depth ≤ 6) (h : o4.lendCellsK (aP R) mem (c6 T) vs k = some r) :
   ∃ ws ids, k ws ids = some r ∧ bT P (aB mem) ls (KV.downs vs) = some (KV.downs ws, ids) := by
  have O := d7 H
  rw [K] at O
  obtain ⟨l, rfl⟩ := ye2.1 O
  rw [fQ K] at h
  exact one H I (fun {vs k} h => by
   cases vs with
   | nil => exact ⟨[], [], h, rfl⟩
   | cons v vs => cases h) h
theorem MP (ht : bI P tab) {t : TypeId} {v : KV} {k : KV → List Nat → Option R} (h : o4 (aP R) tab mem t v k = some r) : ∃ w ids, k w ids = some r ∧ lend P (aB mem) t v.down = some (w.down, ids) := by
 have box : (∃ b g, v = .msw b g) ∨ (∃ b g o n, v = .ms b g o n) → (match tab t with
   | some M => bif M.ag then none else (match M.ty with
    | some (.sl ag T) => wW (aP R) mem (.sl ag T) [v] fun xs _ l => k (.tsl true ag T xs) l
    | _ => none)
   | none => none) = some r → ∃ w ids, k w ids = some r ∧ lend P (aB mem) t v.down = some (w.down, ids) := by
  intro Z h
  split at h
  ·rename_i M I
   have H := bV.of (ht _ _ I)
   cases W : M.ag with
   | true => rw [W] at h; cases h
   | false =>
   rw [W] at h; simp only [yk] at h
   split at h
   ·rename_i ag T hT
    obtain ⟨⟨ls, J, N⟩, hn, _, U⟩ := H.ty _ hT
    have V := d7 N
    obtain ⟨l, rfl⟩ := ye2.1 (V : ls.length = 1)
    obtain ⟨xs, β, ids, h, O⟩ := AF Z N U h
    have K : leaf? P t = some l := by
     have Y := H.ag; rw [W] at Y
     obtain ⟨l2, h3, h4⟩ := fA Y J
     rw [h3, (yx h4).1]
    refine ⟨_, ids, h, ?_⟩
    rcases Z with ⟨b, g, rfl⟩ | ⟨b, g, o, n, rfl⟩
    ·simp only [KV.down, lend, K, ye]; exact O
    ·simp only [KV.down, lend, K, ye]; exact O
   ·cases h
  ·cases h
 cases v with
 | msw b g => exact box (.inl ⟨_, _, rfl⟩) h
 | ms b g o n => exact box (.inr ⟨_, _, _, _, rfl⟩) h
 | agg cs =>
  simp only [o4] at h
  cases hm : o4.hasMsK cs with
  | true =>
   rw [hm] at h; simp only [yl] at h
   split at h
   ·rename_i M I
    have H := bV.of (ht _ _ I)
    split at h
    ·rename_i T hT
     obtain ⟨⟨ls, J, N⟩, hn, _, U⟩ := H.ty _ hT
     obtain ⟨ws, ids, h, O⟩ := vF N U h
     refine ⟨_, _, h, ?_⟩
     simp only [KV.down, lend, zN, hm, yl, J, ye, O, yg]
    ·cases h
   ·cases h
  | false =>
   rw [hm] at h; simp only [yk] at h
   exact ⟨_, _, h, by simp only [KV.down, lend, zN, hm, yk]⟩
 | _ => exact ⟨_, _, h, Lb (by simp) (by simp) (by simp)⟩
theorem Av (ht : bI P tab) : ∀ {ts : List TypeId} {vs : List KV} {k : List KV → List Nat → Option R}, Ar (aP R) tab mem ts vs k = some r → ∃ ws ids, k ws ids = some r ∧ fY P (aB mem) ts (KV.downs vs) = some (KV.downs ws, ids)
 | [], [], k, h => ⟨[], [], h, rfl⟩
 | t :: ts, v :: vs, k, h => by
  simp only [Ar] at h
  obtain ⟨w, l, h, I⟩ := MP ht h
  obtain ⟨ws, ids, h, H⟩ := Av ht h
  exact ⟨_, _, h, by simp [KV.downs, fY, I, H]⟩
 | [], _ :: _, k, h => by cases h
 | _ :: _, [], k, h => by cases h
theorem K6 (ht : bI P tab) {keep : Bool} {ts : List TypeId} {vs : List KV} {k : List KV → List Nat → Option R} (h : Nh (aP R) tab keep mem ts vs k = some r) : ∃ ws ids, k ws ids = some r ∧ Iy P keep (aB mem) ts (KV.downs vs) = some (KV.downs ws, ids) := by
 cases keep with
 | true => exact ⟨vs, [], h, rfl⟩
 | false => exact Av ht h
def Ft (C : bQ) (tbl : FuncId → List aC) : Prop := ∀ {R : Type} {r : R} {g : FuncId} {args : List KV} {mem : aD} {k : KV → aD → Option R}, PN (aP R) tbl g args mem k = some r →
 ∃ v m, C g (KV.downs args) (aB mem) = some (v.down, aB m) ∧ k v m = some r
theorem MG (ht : bI P tab) {C : bQ} {tbl : FuncId → List aC} (hC : Ft C tbl) {raw keep : Bool} {g : FuncId} {ts : List TypeId} {I args J : List KV} {k : aZ → Option R} (h : NA (aP R) tab tbl raw keep g ts I args J mem k = some r) :
  ∃ out, k out = some r ∧ yI P C raw keep g ts (KV.downs I) (KV.downs args) (KV.downs J) (aB mem) = some out.down := by
 unfold NA at h
 have U := K6 ht h
 clear h
 obtain ⟨M, lb, h, W⟩ := U
 simp only at h
 rw [bP] at h
 obtain ⟨N, h⟩ := h
 obtain ⟨v, sub, V, h⟩ := hC h
 rw [bP] at h
 obtain ⟨H, h⟩ := h
 unfold yI
 have K : KV.downs I ++ KV.downs M ++ KV.downs J = KV.downs (I ++ M ++ J) := by simp [cZ]
 simp only [W, ye, K, bZ, Bq, q8, y6, fD, wN, V]
 simp only [Dt, Lh, d8, gM, pX, Bv, Ih, mL, oH]
 generalize vU mem (j3 mem (KV.refsAll (I ++ M ++ J)).length) (KV.refsAll (I ++ M ++ J)) [] = ids at h N H ⊢
 have hr : (bif raw then v.down else lE ids.length (aB sub) v.down) = (bif raw then v else v8 ids.length sub v).down := by
  cases raw with
  | true => rfl
  | false => exact Jh _ _ _
 rw [hr]
 simp only [wR, u0]
 cases O : fN ids.length (bif raw then v else v8 ids.length sub v).refs && fN ids.length (iA (sub.take ids.length)) with
 | true =>
  rw [O] at h; simp only [yl] at h
  refine ⟨_, h, ?_⟩
  rw [d9]; refine ⟨N, ?_⟩
  rw [d9]; refine ⟨H, ?_⟩
  simp only [yl]; rfl
 | false =>
  rw [O] at h; simp only [yk] at h
  refine ⟨_, h, ?_⟩
  rw [d9]; refine ⟨N, ?_⟩
  rw [d9]; refine ⟨H, ?_⟩
  simp only [yk]; rfl
end
end Go.Ab
