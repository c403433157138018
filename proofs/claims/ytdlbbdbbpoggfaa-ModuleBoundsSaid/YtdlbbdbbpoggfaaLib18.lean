import Derived.Test.YtdlbbdbbpoggfaaLib17
set_option linter.unusedVariables false
set_option linter.unusedSectionVars false
set_option linter.unusedSimpArgs false
namespace Go.Ab
variable [b4]
section
variable {P : Program} {R : Type} {r : R} {mem : aD} {tab : TypeId → Option TI}
mutual
theorem wN : ∀ v : KV, v.down.refs = v.refs
 | .lit _ => rfl
 | .tsl _ _ _ _ => rfl
 | .el _ _ _ _ _ => rfl
 | .ptr _ _ _ _ => rfl
 | .ms _ _ _ _ => rfl
 | .msw _ _ => rfl
 | .fn f I H => by simp only [KV.down, AV.refs, KV.refs, bW I, bW H]
 | .agg cs => by simp only [KV.down, AV.refs, KV.refs, bW cs]
 | .tup vs => by simp only [KV.down, AV.refs, KV.refs, bW vs]
 | .dead => rfl
 | .gone => rfl
 | .unkB => rfl
theorem bW : ∀ vs : List KV, AV.refsAll (KV.downs vs) = KV.refsAll vs
 | [] => rfl
 | v :: vs => by simp only [KV.downs, AV.refsAll, KV.refsAll, wN v, bW vs]
end
mutual
theorem vD (f : jV) : ∀ v : KV, v.down.ren f = (v.ren f).down
 | .lit _ => rfl
 | .tsl _ _ _ _ => rfl
 | .el _ _ _ _ _ => rfl
 | .ptr b g i c => by simp only [KV.down, AV.ren, KV.ren]; cases f b g <;> rfl
 | .ms b g o n => by simp only [KV.down, AV.ren, KV.ren]; cases f b g <;> rfl
 | .msw b g => by simp only [KV.down, AV.ren, KV.ren]; cases f b g <;> rfl
 | .fn h I H => by simp only [KV.down, AV.ren, KV.ren, fG f I, fG f H]
 | .agg cs => by simp only [KV.down, AV.ren, KV.ren, fG f cs]
 | .tup vs => by simp only [KV.down, AV.ren, KV.ren, fG f vs]
 | .dead => rfl
 | .gone => rfl
 | .unkB => rfl
theorem fG (f : jV) : ∀ vs : List KV, AV.renAll f (KV.downs vs) = KV.downs (KV.renAll f vs)
 | [] => rfl
 | v :: vs => by simp only [KV.downs, AV.renAll, KV.renAll, vD f v, fG f vs]
end
mutual
theorem Bb : ∀ v : KV, v.down.lent = v.lent
 | .lit _ => rfl
 | .tsl _ _ _ _ => rfl
 | .el _ _ _ _ _ => rfl
 | .ptr _ _ _ _ => rfl
 | .ms _ _ _ _ => rfl
 | .msw _ _ => rfl
 | .fn f I H => by simp only [KV.down, AV.lent, KV.lent, gT I, gT H]
 | .agg cs => by simp only [KV.down, AV.lent, KV.lent, gT cs]
 | .tup vs => by simp only [KV.down, AV.lent, KV.lent, gT vs]
 | .dead => rfl
 | .gone => rfl
 | .unkB => rfl
theorem gT : ∀ vs : List KV, AV.lentAny (KV.downs vs) = KV.lentAny vs
 | [] => rfl
 | v :: vs => by simp only [KV.downs, AV.lentAny, KV.lentAny, Bb v, gT vs]
end
theorem x7 : ∀ hs : c5, e7 (aV hs) = v9 hs
 | [] => rfl
 | (i, c, v) :: hs => by simp only [aV, e7, v9, wN, x7 hs]
theorem z9 (f : jV) : ∀ hs : c5, nA f (aV hs) = aV (Ao f hs)
 | [] => rfl
 | (i, c, v) :: hs => by simp only [aV, nA, Ao, vD, z9 f hs]
theorem w9 : ∀ hs : c5, kQ (aV hs) = wL hs
 | [] => rfl
 | (i, c, v) :: hs => by simp only [aV, kQ, wL, Bb, w9 hs]
theorem IH (x : KRow) : x.down.refs = x.refs := by
 cases x with
 | os T xs hs => exact x7 hs
 | cells e cs => exact bW cs
 | ts β ag T xs =>
  cases H : aY ag T with
  | true => obtain ⟨rfl, kk, rfl⟩ := aK.1 H; rfl
  | false => rw [KRow.down_sl H]; rfl
theorem Dd (f : jV) (x : KRow) : x.down.ren f = (x.ren f).down := by
 cases x with
 | os T xs hs => simp only [KRow.down, Row.ren, KRow.ren, z9]
 | cells e cs => simp only [KRow.down, Row.ren, KRow.ren, fG]
 | ts β ag T xs =>
  cases H : aY ag T with
  | true => obtain ⟨rfl, kk, rfl⟩ := aK.1 H; rfl
  | false => simp only [KRow.ren]; rw [KRow.down_sl H]; rfl
theorem IG (mem : aD) (b : Nat) : A0 (aB mem) b = Hn mem b := by
 unfold A0 Hn
 rw [aX, eM]
 cases mem[b]? with
 | none => rfl
 | some x => cases x with
  | none => rfl
  | some x => exact IH x.row
theorem q7 (mem : aD) : ∀ (n : Nat) (H I : List Nat), f6 (aB mem) n H I = sS mem n H I
 | 0, _, _ => rfl
 | n + 1, [], _ => rfl
 | n + 1, b :: H, I => by
  simp only [f6, sS, IG, q7 mem n]
theorem zF (mem : aD) (b : Nat) : m8 (aB mem) b = sF mem b := by
 unfold m8 sF
 rw [aX, eM]
 cases mem[b]? with
 | none => rfl
 | some x => cases x <;> rfl
theorem H9 (mem : aD) (b : Nat) : kP (aB mem) b = El mem b := by
 unfold kP El
 rw [aX, eM]
 cases mem[b]? with
 | none => rfl
 | some x => cases x with
  | none => rfl
  | some x => exact fD x.row
theorem zC (m : Nat) (keep : Bool) (mem : aD) (ids : List Nat) : fC m keep (aB mem) ids = mM m keep mem ids := by
 funext b g
 unfold fC mM
 rw [zF]
 cases sF mem b with
 | none => rfl
 | some h =>
  simp only [H9]
  cases sE b ids 0 <;> rfl
theorem v8 (m : Nat) (keep : Bool) (f : jV) (mem : aD) : ∀ (j : Nat) (ids : List Nat), d5 m keep f (aB mem) j ids = aB (o8 m keep f mem j ids)
 | _, [] => rfl
 | j, b :: ids => by
  have H := v8 m keep f mem (j + 1) ids
  simp only [d5, o8, H]
  rw [aX, eM]
  cases mem[b]? with
  | none => rfl
  | some x => cases x with
   | none => rfl
   | some x => simp only [yg]; rw [show x.down.row = x.row.down from rfl, Dd, fD]; rfl
theorem Bl (mem : aD) (n : Nat) : dH (aB mem) n = jU mem n := by simp only [dH, jU, d7]
theorem j9 : ∀ mem : aD, i5 (aB mem) = e9 mem
 | [] => rfl
 | none :: m => by
  have := j9 m
  simp only [aB, i5, yx1, e9] at this ⊢
  rw [this]; rfl
 | some x :: m => by
  have := j9 m
  simp only [aB, i5, yx1, e9] at this ⊢
  rw [this]; simp [dD.down, fD]
theorem qZ : ∀ (old : List (Option Bool)) (mem : aD), nJ old (aB mem) = Fz old mem
 | [], _ => by simp [nJ, Fz]
 | some k :: old, some x :: m => by
  have := qZ old m
  show ((bif k then x.row.down.isCells && Nat.beq x.gen 0 else !x.row.down.isCells) && nJ old (aB m)) = _
  rw [this, fD]; rfl
 | none :: old, none :: m => qZ old m
 | some k :: old, none :: m => rfl
 | none :: old, some x :: m => rfl
 | some k :: old, [] => rfl
 | none :: old, [] => rfl
theorem Df : ∀ (hs : c5) (j : Nat), cR (aV hs) j = aV (cR hs j)
 | [], _ => rfl
 | h :: r, 0 => rfl
 | h :: r, j + 1 => by simp only [aV, cR, Df r j]
theorem vS (c : Nat) : ∀ hs : c5, jR c (aV hs) = (lK c hs).map fun q => (q.1, q.2.down)
 | [] => rfl
 | (i, H, v) :: r => by
  simp only [aV, jR, lK]
  cases Nat.beq c H with
  | true => rfl
  | false => simpa using vS c r
theorem wB {α : Type} (x : Option α) : Iv x = x.isNone := by cases x <;> rfl
theorem qN {α β : Type} (x : Option α) (f : α → β) : (x.map f).isNone = x.isNone := by cases x <;> rfl
theorem getD (hs : c5) (j : Nat) : (aV hs)[j]? = (hs[j]?).map fun h => (h.1, h.2.1, h.2.2.down) := by
 induction hs generalizing j with
 | nil => rfl
 | cons h r H =>
  cases j with
  | zero => rfl
  | succ j => simpa [aV] using H j
theorem HP {mem : aD} {b : Nat} : (aB mem)[b]? = (dZ mem b).map fun x => x.map dD.down := by rw [eM, aX]
theorem Hl (m : Nat) (refs : List Nat) (mem : aD) (v : KV) : kG m refs (aB mem) v.down = Jz m refs mem v := by
 have H : ∀ (b g : Nat) (w : AV), (w = .msw b g ∨ ∃ o n, w = .ms b g o n) →
   kG m refs (aB mem) w = (Nat.ble m b && Nat.beq (cS b refs) 1 && (match dZ mem b with
  | some (some x) => Nat.beq x.gen g && !x.frz && (match x.row with | .ts β ag T _ => !(Aa β ag T) | _ => false)
  | _ => false)) := by
  intro b g w M
  have J := HP (mem := mem) (b := b)
  rcases M with rfl | ⟨o, n, rfl⟩
  ·simp only [kG, nB, J]
   cases dZ mem b with
   | none => rfl
   | some y => cases y with
    | none => rfl
    | some x =>
     simp only [yg, dD.down]
     cases x.row with
     | cells e cs => rfl
     | os T xs hs => rfl
     | ts β ag T xs =>
      cases I : aY ag T with
      | true => obtain ⟨rfl, K, rfl⟩ := aK.1 I; rfl
      | false => rw [KRow.down_sl I]; simp only [lY I]
  ·simp only [kG, nB, J]
   cases dZ mem b with
   | none => rfl
   | some y => cases y with
    | none => rfl
    | some x =>
     simp only [yg, dD.down]
     cases x.row with
     | cells e cs => rfl
     | os T xs hs => rfl
     | ts β ag T xs =>
      cases I : aY ag T with
      | true => obtain ⟨rfl, K, rfl⟩ := aK.1 I; rfl
      | false => rw [KRow.down_sl I]; simp only [lY I]
 cases v with
 | msw b g => exact H b g (.msw b g) (.inl rfl)
 | ms b g o n => exact H b g (.ms b g o n) (.inr ⟨o, n, rfl⟩)
 | _ => rfl
theorem vG (m : Nat) (refs : List Nat) (mem : aD) (all : c5) : ∀ (hs : c5) (j : Nat), jX m refs (aB mem) (aV all) (aV hs) j = pT m refs mem all hs j
 | [], _ => rfl
 | (i, c, v) :: r, j => by
  simp only [aV, jX, pT, Hl, Df, vS, qN, wB, vG m refs mem all r]
theorem nX (m : Nat) (refs : List Nat) (mem : aD) : ∀ (l : aD) (b : Nat), iH m refs (aB mem) (aB l) b = oW m refs mem l b
 | [], _ => rfl
 | none :: r, b => nX m refs mem r (b + 1)
 | some x :: r, b => by
  have H := nX m refs mem r (b + 1)
  obtain ⟨J, fz, row⟩ := x
  cases row with
  | cells e cs => exact H
  | ts β ag T xs =>
   cases I : aY ag T with
   | true => obtain ⟨rfl, kk, rfl⟩ := aK.1 I; exact H
   | false =>
    show iH m refs (aB mem) (some ⟨J, fz, (KRow.ts β ag T xs).down⟩ :: aB r) b = _
    rw [KRow.down_sl I]
    exact H
  | os T xs hs =>
   show (match jX m refs (aB mem) (aV hs) (aV hs) 0 with | some k => some (b, k) | none => iH m refs (aB mem) (aB r) (b + 1)) = _
   rw [vG, H]
   rfl
theorem vX {cs : List KV} {i : Nat} {v : KV} : cZ cs i [v] = cs.set i v := by simp [cZ, d8]
theorem Ed {T : Ty} {x : den T} : (eY T = true ∧ cT (eY T) T x = .agg (aM T x)) ∨ (eY T = false ∧ ∃ p, aM T x = [p] ∧ cT (eY T) T x = p ∧ zU p = true) := by
 cases T with
 | sl ag T => exact .inr ⟨rfl, dN ag T x, rfl, rfl, vU ag T x⟩
 | int k => exact .inl ⟨rfl, jO (.inl rfl)⟩
 | bool => exact .inl ⟨rfl, jO (.inl rfl)⟩
 | str => exact .inl ⟨rfl, jO (.inl rfl)⟩
 | cons a b => exact .inl ⟨rfl, jO (.inl rfl)⟩
theorem Fy {T : Ty} {x z : den T} {c : Nat} {q : PV} (J : c < (aM T x).length) (h : aM T z = (aM T x).set c q) : jA (cT (eY T) T x) c q = cT (eY T) T z := by
 rcases Ed (T := T) (x := x) with ⟨K, I⟩ | ⟨K, p, I, N, O⟩
 ·rcases Ed (T := T) (x := z) with ⟨_, H⟩ | ⟨H, _⟩
  ·rw [I, H, h]; rfl
  ·rw [K] at H; cases H
 ·rcases Ed (T := T) (x := z) with ⟨H, _⟩ | ⟨_, W, Y, U, h7⟩
  ·rw [K] at H; cases H
  ·rw [N, U]
   rw [I] at J h
   have M : c = 0 := by simp at J; exact J
   subst M
   rw [Y] at h
   have V : W = q := by simpa using h
   cases p <;> first | exact V.symm | cases O
theorem KS {T : Ty} {xs : List (den T)} {i : Nat} {z : den T} : (xs.map (cT (eY T) T)).set i (cT (eY T) T z) = (xs.set i z).map (cT (eY T) T) := by rw [List.map_set]
theorem pQ (mem : aD) (b : Nat) (x : Option dD) : aB (vW x mem b) = (aB mem).set b (x.map dD.down) := by simp [aB, d8, List.map_set]
theorem H1 {v : KV} {k : Nat → KRow → Option R} (h : FC (aP R) mem v k = some r) : ∃ b row, k b row = some r ∧ ∀ β ag T K, row = .ts β ag T K → Aa β ag T = false → zL (aB mem) v.down = some (b, dN ag T K) := by
 unfold FC at h
 split at h
 ·rename_i b g
  obtain ⟨x, N, h⟩ := cQ h
  cases I : x.frz with
  | true => rw [I] at h; cases h
  | false =>
   rw [I] at h
   refine ⟨b, x.row, h, ?_⟩
   intro β ag T K hr J
   simp only [KV.down, zL, N, ye, show x.down.frz = x.frz from rfl, I, yk, show x.down.row = x.row.down from rfl, hr]
   cases H : aY ag T with
   | true => obtain ⟨rfl, M, rfl⟩ := aK.1 H; rfl
   | false =>
    rw [lY H] at J; subst J
    rw [KRow.down_sl H, bX H]
 ·rename_i b g o n
  simp only [real_guard] at h
  rw [bR] at h
  obtain ⟨V, h⟩ := h
  obtain rfl := nb.1 V
  obtain ⟨x, N, h⟩ := cQ h
  cases I : x.frz with
  | true => rw [I] at h; cases h
  | false =>
   rw [I] at h
   simp only [yk] at h
   split at h
   ·rename_i β ag T xs hr
    rw [bR] at h
    refine ⟨b, _, h.2, ?_⟩
    intro β' U T' K W J
    cases W
    simp only [KV.down, zL, N, ye, show x.down.frz = x.frz from rfl, I, yk, show x.down.row = x.row.down from rfl, hr]
    have O := h.1
    clear h
    cases H : aY ag T with
    | true =>
     obtain ⟨rfl, M, rfl⟩ := aK.1 H
     show guardB (Nat.ble n xs.length) (some (b, PV.ints M (xs.take n))) = some (b, .ints M (xs.take n))
     rw [eB]; exact ⟨O, rfl⟩
    | false =>
     rw [lY H] at J; subst J
     rw [KRow.down_sl H, bX H]
     simp only
     rw [eB]
     exact ⟨by rw [ye1]; exact O, by rw [yz2]⟩
   ·cases h
 ·cases h
theorem Mz {ag : Bool} {T : Ty} (xs I : List (den T)) : Nv (dN ag T xs) (dN ag T I) = true := by
 cases H : aY ag T with
 | true => obtain ⟨rfl, kk, rfl⟩ := aK.1 H; exact rW.2 rfl
 | false => rw [bX H, bX H]; exact nb.2 rfl
theorem F8 {b j : Nat} {k : aD → Option R} (h : BM (aP R) mem b j k = some r) : ∃ mem', k mem' = some r ∧ oX (aB mem) b j = some (aB mem') := by
 unfold BM at h
 split at h
 ·rename_i x hx
  split at h
  ·rename_i T xs hs J
   split at h
   ·rename_i hl M
    obtain ⟨b', row, h, V⟩ := H1 h
    split at h
    ·rename_i β O T' Z
     rw [bR] at h
     obtain ⟨K, h⟩ := h
     simp only [yb, yq] at K
     obtain ⟨⟨g1, g2⟩, g3⟩ := K
     have V := V β O T' Z rfl g1
     simp only [real_getN] at h
     rw [C7] at h
     obtain ⟨p, W, h⟩ := h
     split at h
     ·rename_i β2 H T'' U I
      rw [bR] at h
      obtain ⟨K, h⟩ := h
      simp only [yb] at K
      obtain rfl := Ip.1 K.1
      obtain rfl := Ty.beq_iff.1 K.2
      rw [aX] at I
      obtain ⟨y, hy, Y⟩ := (dF.of false T p).2 _ _ I
      have N : y = dN H T'' U := by
       rcases Y with ⟨_, _, e, _⟩ | ⟨_, e, _⟩ | ⟨_, e, _⟩ | ⟨_, _, _, e, rfl⟩ <;> cases e
       rfl
      have hlt : hl.2.1 < (aM T p).length := (yd.1 hy).1
      rw [vX] at h
      obtain ⟨z, _, _, h, hz⟩ := kY ((dF.of false T p).set (v := .tsl false H T'' Z) (q := dN H T'' Z) (.inr (.inr (.inr ⟨_, _, _, rfl, rfl⟩))) hl.2.1) h
      refine ⟨_, h, ?_⟩
      unfold oX
      rw [mW hx]
      obtain ⟨gn, fz, row⟩ := x
      simp only at J
      subst J
      rw [aX] at M
      simp only [dD.down, KRow.down, getD, M, yg, ye]
      rw [yb1, W]
      simp only [yg, ye, b6, hy, V]
      rw [eB]
      refine ⟨?_, ?_⟩
      ·simp only [yb, yq]
       refine ⟨⟨?_, g2⟩, ?_⟩
       ·rw [N]; exact Mz _ _
       ·rw [Df, vS, qN, ← wB]; exact g3
      ·rw [pQ, pQ, Fy hlt hz, KS, Df]; rfl
     ·cases h
    ·cases h
   ·cases h
  ·cases h
 ·cases h
theorem gM : ∀ mem : aD, b9 (aB mem) = h8 mem
 | [] => rfl
 | none :: m => gM m
 | some x :: m => by
  have H := gM m
  show x.row.down.refs ++ b9 (aB m) = _
  rw [H, IH]; rfl
theorem Aj {m : Nat} {vs : List KV} : ∀ {n : Nat} {mem : aD} {k : aD → Option R}, Av (aP R) m vs n mem k = some r → ∃ mem', k mem' = some r ∧ lX m (KV.downs vs) n (aB mem) = some (aB mem')
 | 0, mem, k, h => ⟨mem, h, rfl⟩
 | n + 1, mem, k, h => by
  simp only [Av] at h
  simp only [lX, bW, gM, nX]
  split at h
  ·rename_i I
   rw [I]
   exact ⟨mem, h, rfl⟩
  ·rename_i q I
   rw [I]
   obtain ⟨J, h, K⟩ := F8 h
   obtain ⟨H, h, hs⟩ := Aj h
   exact ⟨H, h, by simp only [K, ye, hs]⟩
theorem KU (mem : aD) (b : Nat) : LO (aB mem) b = HU mem b := by
 unfold LO HU
 rw [HP]
 cases dZ mem b with
 | none => rfl
 | some y => cases y <;> rfl
theorem E2 (m : Nat) (vs : List KV) : ∀ (n : Nat) (mem : aD), p9 m (KV.downs vs) n (aB mem) = aB (C8 m vs n mem)
 | 0, _ => rfl
 | b + 1, mem => by
  simp only [p9, C8, KU, bW, gM]
  rw [← E2 m vs b]
  congr 1
  cases (Nat.ble m b && HU mem b && Nat.beq (cS b (KV.refsAll vs ++ h8 mem)) 0) with
  | false => rfl
  | true => simp only [yl, pQ]; rfl
theorem zH {m : Nat} {vs : List KV} {mem : aD} {k : aD → Option R} (h : Kq (aP R) m vs mem k = some r) : ∃ mem', k mem' = some r ∧ CH m (KV.downs vs) (aB mem) = some (aB mem') := by
 obtain ⟨mem', H, I⟩ := Aj h
 refine ⟨mem', H, ?_⟩
 unfold CH
 rw [d7, E2]; exact I
theorem Fj {keep : Bool} {old : List (Option Bool)} {vs : List KV} {k : List KV → aD → Option R} (h : BF (aP R) keep old vs mem k = some r) : ∃ H mem', k H mem' = some r ∧ rE keep old (KV.downs vs) (aB mem) = some (KV.downs H, aB mem') := by
 unfold BF at h
 obtain ⟨I, h, hs⟩ := zH h
 simp only at h
 rw [bR] at h
 refine ⟨_, _, h.2, ?_⟩
 unfold rE
 simp only [hs, ye, bW, Bl, q7, qZ, zC, fG, v8]
 rw [eB]
 exact ⟨h.1, rfl⟩
theorem Ft (m : Nat) (mem : aD) (v : KV) : v.down.frz m (aB mem) = (v.frz m mem).down := by
 cases v with
 | msw b g =>
  simp only [KV.down, AV.frz, KV.frz]
  cases Nat.ble m b with
  | false => rfl
  | true =>
   simp only [yl]
   unfold box?
   rw [aX, eM]
   cases mem[b]? with
   | none => rfl
   | some x => cases x with
    | none => rfl
    | some x =>
     obtain ⟨I, fz, row⟩ := x
     simp only [yg, dD.down, dJ]
     cases hg : Nat.beq I g with
     | false => rfl
     | true =>
      cases row with
      | os T xs hs => rfl
      | cells e cs => rfl
      | ts β ag T xs =>
       cases H : aY ag T with
       | true => obtain ⟨rfl, kk, rfl⟩ := aK.1 H; rfl
       | false =>
        simp only [gX, Bool.not_false, yo3, yl]
        rw [KRow.down_sl H, lY H, sM H]
 | tsl β ag T xs => rfl
 | _ => rfl
theorem s6 (m : Nat) (mem : aD) : ∀ vs : List KV, AV.frzAll m (aB mem) (KV.downs vs) = KV.downs (KV.frzAll m mem vs)
 | [] => rfl
 | v :: vs => by simp only [KV.downs, AV.frzAll, KV.frzAll, Ft, s6 m mem vs]
theorem JC (m : Nat) (mem : aD) (v : KV) : lG m (aB mem) v.down = (wH m mem v).down := by
 cases v with
 | tup vs => simp only [KV.down, lG, wH, s6]
 | agg vs => simp only [KV.down, lG, wH, s6]
 | msw b g => exact Ft m mem (.msw b g)
 | _ => rfl
theorem qW : ∀ mem : aD, gR (aB mem) = sV mem
 | [] => rfl
 | none :: m => qW m
 | some x :: m => by
  have I := qW m
  show ((match x.row.down with | .cells _ cs => AV.lentAny cs | .pvs β _ _ => β | .ints _ _ => false | .own _ _ hs => kQ hs) || gR (aB m)) = _
  rw [I]
  simp only [sV]
  congr 1
  cases x.row with
  | os T xs hs => exact w9 hs
  | cells e cs => exact gT cs
  | ts β ag T xs =>
   cases H : aY ag T with
   | true => obtain ⟨rfl, kk, rfl⟩ := aK.1 H; rfl
   | false => rw [KRow.down_sl H]; simp only [lY H]
theorem HX (mem sub : aD) (ids : List Nat) : cX (aB mem) (aB sub) ids = mQ mem sub ids := by
 funext b g
 unfold cX mQ
 rw [aX]
 cases ids[b]? with
 | none => simp only [d7]
 | some a =>
  simp only
  rw [zF, aX, eM]
  cases sub[b]? with
  | none => rfl
  | some x => cases x with
   | none => rfl
   | some x =>
    simp only [yg]
    cases sF mem a with
    | none => rfl
    | some h => rfl
theorem mF (f : jV) (mem : aD) : ∀ (ids : List Nat) (sub : aD), a8 f (aB mem) ids (aB sub) = (iO f mem ids sub).map fun q => (q.1, q.2.down)
 | a :: ids, some x :: sub => by
  have H := mF f mem ids sub
  show (a, _) :: a8 f (aB mem) ids (aB sub) = _
  rw [H]
  simp only [iO, yx1]
  congr 2
  simp only [dD.down, Dd, zF]
  cases sF mem a <;> rfl
 | a :: ids, none :: sub => mF f mem ids sub
 | [], [] => rfl
 | [], _ :: _ => by simp [a8, iO, aB]
 | a :: ids, [] => rfl
theorem oG (f : jV) : ∀ sub : aD, eR f (aB sub) = aB (wP f sub)
 | [] => rfl
 | none :: m => by
  have H := oG f m
  show none :: eR f (aB m) = _
  rw [H]; rfl
 | some x :: m => by
  have H := oG f m
  show some _ :: eR f (aB m) = _
  rw [H]
  show some ({ gen := 0, frz := x.frz, row := x.row.down.ren f } : a9) :: _ = _
  rw [Dd]; rfl
theorem Ep (mem : aD) (n : Nat) : (aB mem).take n = aB (mem.take n) := by simp [aB, yz2]
theorem K4 (mem : aD) (n : Nat) : (aB mem).drop n = aB (mem.drop n) := by simp [aB, yn3]
theorem zP : ∀ cs : List KV, Gk (KV.downs cs) = pC.hasMsK cs
 | [] => rfl
 | v :: cs => by
  have ih := zP cs
  cases v <;> simp_all [KV.downs, KV.down, Gk, pC.hasMsK, AV.dead, AV.goneV, AV.unkB]
theorem AR {ag : Bool} {T : Ty} {l : LK} {v : KV} {k : List (den T) → Bool → List Nat → Option R} (U : (∃ b g, v = .msw b g) ∨ ∃ b g o n, v = .ms b g o n) (V : aS P (.sl ag T) [l] = true) (O : (Ty.sl ag T).depth ≤ 6)
  (h : wX (aP R) mem (.sl ag T) [v] k = some r) : ∃ xs β ids, k xs β ids = some r ∧ gF P (aB mem) l v.down = some ((KV.tsl true ag T xs).down, ids) := by
 obtain ⟨x, β, ids, h, I⟩ := l8 V O h
 refine ⟨x, β, ids, h, ?_⟩
 simp only [KV.downs, b3, C7] at I
 obtain ⟨a, J, b, M, I⟩ := I
 obtain rfl := ya M
 simp only [Option.some.injEq, Prod.mk.injEq, Bool.or_false, yg1] at I
 obtain ⟨h1, N, K⟩ := I
 have H : a.2.1 = dN ag T x := (yx N).1
 rcases U with ⟨b, g, rfl⟩ | ⟨b, g, o, n, rfl⟩
 ·simp only [KV.down, gF] at J ⊢
  rw [J, yg, H, K]
 ·simp only [KV.down, gF] at J ⊢
  rw [J, yg, H, K]
theorem KC {t : TypeId} {v : KV} (I : ∀ b g, v ≠ .msw b g) (J : ∀ b g o n, v ≠ .ms b g o n) (H : ∀ cs, v ≠ .agg cs) : lend P (aB mem) t v.down = some (v.down, []) := by
 cases v with
 | ms b g o n => exact absurd rfl (J b g o n)
 | msw b g => exact absurd rfl (I b g)
 | agg cs => exact absurd rfl (H cs)
 | _ => rfl
theorem Dl {l : LK} {v : KV} (H : ∀ b g, v ≠ .msw b g) (I : ∀ b g o n, v ≠ .ms b g o n) : gF P (aB mem) l v.down = some (v.down, []) := by
 cases v with
 | ms b g o n => exact absurd rfl (I b g o n)
 | msw b g => exact absurd rfl (H b g)
 | _ => rfl
theorem rZ : ∀ {T : Ty} {ls : List LK} {vs : List KV} {k : List KV → List Nat → Option R}, aS P T ls = true → T.depth ≤ 6 → pC.lendCellsK (aP R) mem (c7 T) vs k = some r →
  ∃ ws ids, k ws ids = some r ∧ bV P (aB mem) ls (KV.downs vs) = some (KV.downs ws, ids)
 | .cons a b, ls, vs, k, H, I, h => by
  simp only [aS] at H
  split at H
  ·rename_i l ls
   simp only [yb] at H
   obtain ⟨⟨J, Z⟩, W⟩ := H
   have V : a.depth ≤ 6 := ya2 (Nat.le_max_left _ _) (show max a.depth b.depth ≤ 6 from I)
   have Y : b.depth ≤ 6 := ya2 (Nat.le_max_right _ _) (show max a.depth b.depth ≤ 6 from I)
   simp only [c7, fO (nb.1 J), List.singleton_append] at h
   exact one Z V (fun h => rZ W Y h) h
  ·cases H
 | .int kk, ls, vs, k, H, I, h => lendOne rfl H I h
 | .bool, ls, vs, k, H, I, h => lendOne rfl H I h
 | .str, ls, vs, k, H, I, h => lendOne rfl H I h
 | .sl ag T, ls, vs, k, H, I, h => lendOne rfl H I h
 where
 one {T : Ty} {l : LK} {K : List Ty} {ls : List LK} {vs : List KV} {k : List KV → List Nat → Option R} (H : aS P T [l] = true) (I : T.depth ≤ 6)
   (N : ∀ {vs : List KV} {k : List KV → List Nat → Option R}, pC.lendCellsK (aP R) mem K vs k = some r → ∃ ws ids, k ws ids = some r ∧ bV P (aB mem) ls (KV.downs vs) = some (KV.downs ws, ids))
   (h : pC.lendCellsK (aP R) mem (T :: K) vs k = some r) : ∃ ws ids, k ws ids = some r ∧ bV P (aB mem) (l :: ls) (KV.downs vs) = some (KV.downs ws, ids) := by
  cases vs with
  | nil => cases h
  | cons v vs =>
   have plain : (∀ b g, v ≠ .msw b g) → (∀ b g o n, v ≠ .ms b g o n) → (pC.lendCellsK (aP R) mem K vs fun ws U => k (v :: ws) U) = some r → ∃ ws ids, k ws ids = some r ∧ bV P (aB mem) (l :: ls) (KV.downs (v :: vs)) = some (KV.downs ws, ids) := by
    intro J h2 h
    obtain ⟨ws, M, h, hr⟩ := N h
    exact ⟨_, _, h, by simp [KV.downs, bV, Dl J h2, hr]⟩
   cases v with
   | msw b g =>
    cases T with
    | sl ag T => exact boxed (.inl ⟨_, _, rfl⟩) H I N h
    | _ => cases h
   | ms b g o n =>
    cases T with
    | sl ag T => exact boxed (.inr ⟨_, _, _, _, rfl⟩) H I N h
    | _ => cases h
   | _ => exact plain (by simp) (by simp) h
 boxed {ag : Bool} {T : Ty} {l : LK} {K : List Ty} {ls : List LK} {v : KV} {vs : List KV} {k : List KV → List Nat → Option R} (hv : (∃ b g, v = .msw b g) ∨ (∃ b g o n, v = .ms b g o n)) (H : aS P (.sl ag T) [l] = true) (I : (Ty.sl ag T).depth ≤ 6)
   (N : ∀ {vs : List KV} {k : List KV → List Nat → Option R}, pC.lendCellsK (aP R) mem K vs k = some r → ∃ ws ids, k ws ids = some r ∧ bV P (aB mem) ls (KV.downs vs) = some (KV.downs ws, ids))
   (h : (wX (aP R) mem (.sl ag T) [v] fun xs _ l => pC.lendCellsK (aP R) mem K vs fun ws U => k (.tsl true ag T xs :: ws) (l ++ U)) = some r) :
   ∃ ws ids, k ws ids = some r ∧ bV P (aB mem) (l :: ls) (KV.downs (v :: vs)) = some (KV.downs ws, ids) := by
  obtain ⟨xs, β, ids, h, O⟩ := AR hv H I h
  obtain ⟨ws, M, h, hr⟩ := N h
  exact ⟨_, _, h, by simp [KV.downs, bV, O, hr]⟩
 lendOne {T : Ty} {ls : List LK} {vs : List KV} {k : List KV → List Nat → Option R} (J : T.size = 1) (H : aS P T ls = true) (I : T.depth ≤ 6) (h : pC.lendCellsK (aP R) mem (c7 T) vs k = some r) :
   ∃ ws ids, k ws ids = some r ∧ bV P (aB mem) ls (KV.downs vs) = some (KV.downs ws, ids) := by
  have O := d6 H
  rw [J] at O
  obtain ⟨l, rfl⟩ := ye2.1 O
  rw [fO J] at h
  exact one H I (fun {vs k} h => by
   cases vs with
   | nil => exact ⟨[], [], h, rfl⟩
   | cons v vs => cases h) h
theorem M0 (ht : bG P tab) {t : TypeId} {v : KV} {k : KV → List Nat → Option R} (h : pC (aP R) tab mem t v k = some r) : ∃ w ids, k w ids = some r ∧ lend P (aB mem) t v.down = some (w.down, ids) := by
 have box : (∃ b g, v = .msw b g) ∨ (∃ b g o n, v = .ms b g o n) → (match tab t with
   | some K => bif K.ag then none else (match K.ty with
    | some (.sl ag T) => wX (aP R) mem (.sl ag T) [v] fun xs _ l => k (.tsl true ag T xs) l
    | _ => none)
   | none => none) = some r → ∃ w ids, k w ids = some r ∧ lend P (aB mem) t v.down = some (w.down, ids) := by
  intro Y h
  split at h
  ·rename_i K I
   have H := bU.of (ht _ _ I)
   cases W : K.ag with
   | true => rw [W] at h; cases h
   | false =>
   rw [W] at h; simp only [yk] at h
   split at h
   ·rename_i ag T hT
    obtain ⟨⟨ls, J, O⟩, hn, _, V⟩ := H.ty _ hT
    have U := d6 O
    obtain ⟨l, rfl⟩ := ye2.1 (U : ls.length = 1)
    obtain ⟨xs, β, ids, h, N⟩ := AR Y O V h
    have M : leaf? P t = some l := by
     have Z := H.ag; rw [W] at Z
     obtain ⟨l2, h3, h4⟩ := e5 Z J
     rw [h3, (yx h4).1]
    refine ⟨_, ids, h, ?_⟩
    rcases Y with ⟨b, g, rfl⟩ | ⟨b, g, o, n, rfl⟩
    ·simp only [KV.down, lend, M, ye]; exact N
    ·simp only [KV.down, lend, M, ye]; exact N
   ·cases h
  ·cases h
 cases v with
 | msw b g => exact box (.inl ⟨_, _, rfl⟩) h
 | ms b g o n => exact box (.inr ⟨_, _, _, _, rfl⟩) h
 | agg cs =>
  simp only [pC] at h
  cases hm : pC.hasMsK cs with
  | true =>
   rw [hm] at h; simp only [yl] at h
   split at h
   ·rename_i K I
    have H := bU.of (ht _ _ I)
    split at h
    ·rename_i T hT
     obtain ⟨⟨ls, J, O⟩, hn, _, V⟩ := H.ty _ hT
     obtain ⟨ws, ids, h, N⟩ := rZ O V h
     refine ⟨_, _, h, ?_⟩
     simp only [KV.down, lend, zP, hm, yl, J, ye, N, yg]
    ·cases h
   ·cases h
  | false =>
   rw [hm] at h; simp only [yk] at h
   exact ⟨_, _, h, by simp only [KV.down, lend, zP, hm, yk]⟩
 | _ => exact ⟨_, _, h, KC (by simp) (by simp) (by simp)⟩
theorem AE (ht : bG P tab) : ∀ {ts : List TypeId} {vs : List KV} {k : List KV → List Nat → Option R}, z8 (aP R) tab mem ts vs k = some r → ∃ ws ids, k ws ids = some r ∧ fZ P (aB mem) ts (KV.downs vs) = some (KV.downs ws, ids)
 | [], [], k, h => ⟨[], [], h, rfl⟩
 | t :: ts, v :: vs, k, h => by
  simp only [z8] at h
  obtain ⟨w, l, h, I⟩ := M0 ht h
  obtain ⟨ws, ids, h, H⟩ := AE ht h
  exact ⟨_, _, h, by simp [KV.downs, fZ, I, H]⟩
 | [], _ :: _, k, h => by cases h
 | _ :: _, [], k, h => by cases h
theorem KB (ht : bG P tab) {keep : Bool} {ts : List TypeId} {vs : List KV} {k : List KV → List Nat → Option R} (h : NE (aP R) tab keep mem ts vs k = some r) : ∃ ws ids, k ws ids = some r ∧ Jb P keep (aB mem) ts (KV.downs vs) = some (KV.downs ws, ids) := by
 cases keep with
 | true => exact ⟨vs, [], h, rfl⟩
 | false => exact AE ht h
def Eh (C : bQ) (tbl : FuncId → List aC) : Prop := ∀ {R : Type} {r : R} {g : FuncId} {args : List KV} {mem : aD} {k : KV → aD → Option R}, PQ (aP R) tbl g args mem k = some r →
 ∃ v m, C g (KV.downs args) (aB mem) = some (v.down, aB m) ∧ k v m = some r
theorem MA (ht : bG P tab) {C : bQ} {tbl : FuncId → List aC} (hC : Eh C tbl) {raw keep : Bool} {g : FuncId} {ts : List TypeId} {J args I : List KV} {k : aZ → Option R} (h : Nd (aP R) tab tbl raw keep g ts J args I mem k = some r) :
  ∃ out, k out = some r ∧ yI P C raw keep g ts (KV.downs J) (KV.downs args) (KV.downs I) (aB mem) = some out.down := by
 unfold Nd at h
 have V := KB ht h
 clear h
 obtain ⟨M, lb, h, U⟩ := V
 simp only at h
 rw [bR] at h
 obtain ⟨N, h⟩ := h
 obtain ⟨v, sub, W, h⟩ := hC h
 rw [bR] at h
 obtain ⟨H, h⟩ := h
 unfold yI
 have K : KV.downs J ++ KV.downs M ++ KV.downs I = KV.downs (J ++ M ++ I) := by simp [cY]
 simp only [U, ye, K, bW, Bl, q7, zC, fG, v8, W]
 simp only [Ep, K4, d7, gM, qW, Bb, HX, mF, oG]
 generalize sS mem (jU mem (KV.refsAll (J ++ M ++ I)).length) (KV.refsAll (J ++ M ++ I)) [] = ids at h N H ⊢
 have hr : (bif raw then v.down else lG ids.length (aB sub) v.down) = (bif raw then v else wH ids.length sub v).down := by
  cases raw with
  | true => rfl
  | false => exact JC _ _ _
 rw [hr]
 simp only [wN, vD]
 cases O : fN ids.length (bif raw then v else wH ids.length sub v).refs && fN ids.length (h8 (sub.take ids.length)) with
 | true =>
  rw [O] at h; simp only [yl] at h
  refine ⟨_, h, ?_⟩
  rw [eB]; refine ⟨N, ?_⟩
  rw [eB]; refine ⟨H, ?_⟩
  simp only [yl]; rfl
 | false =>
  rw [O] at h; simp only [yk] at h
  refine ⟨_, h, ?_⟩
  rw [eB]; refine ⟨N, ?_⟩
  rw [eB]; refine ⟨H, ?_⟩
  simp only [yk]; rfl
end
end Go.Ab
