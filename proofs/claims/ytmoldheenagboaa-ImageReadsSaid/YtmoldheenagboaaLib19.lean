import Derived.Test.YtmoldheenagboaaLib18
set_option linter.unusedVariables false
set_option linter.unusedSectionVars false
set_option linter.unusedSimpArgs false
namespace Go.Ab
variable [b8]
section
variable {P : Program} {R : Type} {r : R} {mem : aO} {tab : TypeId → Option TI} {C : bZ} {tbl : FuncId → List aD}
theorem nG {f : Int → Int → Int} {z : IntKind} : ∀ {vs : List KV} {a b : Int}, pS f z vs a = some b → jF f z (KV.downs vs) a = some b
 | [], a, b, h => h
 | v :: vs, a, b, h => by
  cases v with
  | lit v =>
   cases v with
   | int k' x =>
    simp only [pS] at h
    rw [cK] at h
    simp only [KV.downs, KV.down, jF, f8]
    exact ⟨h.1, nG h.2⟩
   | _ => cases h
  | _ => cases h
theorem Lp (k : IntKind) : Lo k = Ey := rfl
theorem LA (k : IntKind) : Lr k = CY := rfl
theorem Jg (ht : b9 P tab) {t Z : TypeId} {rs : Nat} {n : Int} {k : bW → Option R} (h : Kd (aL R) tab mem t Z rs n k = some r) :
  ∃ out, k out = some r ∧ Ah P t Z (aB mem) rs n = some out.down := by
 unfold Kd at h
 split at h
 ·rename_i tix K
  split at h
  ·rename_i kx hk
   have J := (bX.of (ht _ _ K)).tk
   unfold lF at J
   rw [hk] at J
   cases Y : P.underlying Z with
   | none => rw [Y] at J; simp at J
   | some d =>
    rw [Y] at J
    cases d <;> simp only at J <;> first | cases J | skip
    have h0 := q8 ht h
    clear h
    obtain ⟨et, O, het, W, h, _⟩ := h0
    have H := bX.of (ht _ _ W)
    unfold Ah
    rw [Y]; simp only
    rw [het]; simp only [yb, H.zero_eq.1]
    split at h
    ·rename_i T hT
     rw [cK] at h
     obtain ⟨hg, h⟩ := h
     simp only [yc, yz] at hg
     obtain ⟨⟨⟨⟨g1, g2⟩, g3⟩, g4⟩, g5⟩ := hg
     obtain ⟨⟨ls, U, hcl⟩, hn, hag, hd⟩ := H.ty T hT
     have h0 := iS hcl hd h
     clear h
     obtain ⟨z, β, ids, h, hz⟩ := h0
     cases V : eA ids with
     | false => rw [V] at h; cases h
     | true =>
      rw [V] at h; simp only [Bool.not_true, yh, real_guard] at h
      rw [cK] at h
      obtain ⟨hb, h⟩ := h
      simp only [yc] at hb
      refine ⟨_, h, ?_⟩
      have N : (eD O).down.cells = KV.downs (O.zero.map .lit) := by rw [(zeroCells H).1, (zeroCells H).2.1]
      have htp : oZ P (aB mem) et (eD O).down = some (β, eF O.ag T z, ids) := by
       unfold oZ
       rw [U, yb, N, show gU = 6 from rfl, hz]
       simp only [yb, v3 H.ag hag, yn]
      rw [H.intKind_none hT g5, htp]
      simp only [yb, H.n, H.bytes]
      rw [f8]
      refine ⟨?_, ?_⟩
      ·simp only [yc]
       exact ⟨hb, ⟨⟨g1, g2⟩, by rw [N, aK, ya2]; exact g4⟩, V⟩
      ·simp only [bW.down, KV.down, yc2, List.map_nil, eI.down, KRow.down_sl g5, List.map_replicate, hn]
       rfl
    ·cases h
  ·cases h
 ·cases h
theorem FV {v : KV} {u : Value} (h : v.down = .lit u) : v = .lit u := by cases v <;> first | (exact congrArg KV.lit (AV.lit.inj h)) | cases h
theorem E9 {boxed vars : Bool} {t N : TypeId} {m : aW} {rs : Nat} {x y : KV} (K : ∀ (k : IntKind) (n : Int), x = .lit (.slice none 0 0) → y = .lit (.int k n) → False) :
  dL P boxed vars .append [t, N] m rs [x.down, y.down] = i7 P boxed vars t N m rs x.down y.down := by
 unfold dL
 split
 ·rename_i h; simp at h
 ·rename_i z
  simp only [List.cons.injEq, and_true] at z
  exact (K _ _ (FV z.1) (FV z.2)).elim
 ·rename_i H z
  simp only [List.cons.injEq, and_true] at H z
  obtain ⟨rfl, rfl⟩ := H
  obtain ⟨rfl, rfl⟩ := z
  rfl
 ·rename_i h; simp at h
 ·rename_i J h; cases J
 ·rename_i J h; cases J
 ·rename_i U H z O V h6
  first | exact (U _ _ _ _ rfl rfl rfl).elim | exact (H _ _ _ _ rfl rfl rfl).elim | exact (O _ _ _ _ rfl rfl rfl).elim | exact (V _ _ _ _ rfl rfl rfl).elim
theorem FK (H : b9 P tab) {boxed vars : Bool} {b : Builtin} {ts : List TypeId} {rs : Nat} {args : List KV} {k : bW → Option R} (h : Cb (aL R) tab boxed vars b ts mem rs args k = some r) :
  ∃ out, k out = some r ∧ dL P boxed vars b ts (aB mem) rs (KV.downs args) = some out.down := by
 unfold Cb at h
 split at h
 ·split at h
  ·rename_i t x
   obtain ⟨n, rd, h, Y⟩ := KP H h
   exact ⟨_, h, by simp only [KV.downs, dL, Y, yn]; rfl⟩
  ·cases h
 ·split at h
  ·rename_i t tx x y
   split at h
   ·obtain ⟨out, h, K⟩ := Jg H h
    exact ⟨out, h, by simp only [KV.downs, KV.down, dL, K]⟩
   ·rename_i N
    obtain ⟨out, h, K⟩ := GH H h
    exact ⟨out, h, by simp only [KV.downs]; rw [E9 (fun k n e1 W => N k n e1 W)]; exact K⟩
  ·cases h
 ·split at h
  ·rename_i t
   split at h
   ·rename_i ti V
    split at h
    ·rename_i et Z
     have z := (bX.of (H _ _ V)).tk
     unfold lF at z
     rw [Z] at z
     cases O : P.underlying t with
     | none => rw [O] at z; simp at z
     | some d =>
      rw [O] at z
      cases d <;> simp only at z <;> first | cases z | skip
      exact ⟨_, h, by simp only [KV.downs, KV.down, dL, O]; rfl⟩
    ·cases h
   ·cases h
  ·cases h
 ·split at h
  ·rename_i kd a J
   split at h
   ·rename_i v U
    exact ⟨_, h, by simp only [KV.downs, KV.down, dL, Lp, nG U, yn]; rfl⟩
   ·cases h
  ·cases h
 ·split at h
  ·rename_i kd a J
   split at h
   ·rename_i v U
    exact ⟨_, h, by simp only [KV.downs, KV.down, dL, LA, nG U, yn]; rfl⟩
   ·cases h
  ·cases h
 ·cases h
theorem LD (H : b9 P tab) (hC : Dh C tbl) {boxed raw vars : Bool} {o : Oper} {env : Nat → KV} {tmps : List AV} (z : fW env tmps) {rs : Nat} {k : bW → Option R} (h : Nf (aL R) tab tbl boxed raw vars o env mem rs k = some r) :
  ∃ out, k out = some r ∧ F1 P C boxed raw vars o (eQ tmps) (aB mem) rs = some out.down := by
 unfold Nf at h
 unfold F1
 split at h <;> first | (rename_i hop; rw [hop]; simp only) | cases h
 ·exact De H z h
 ·exact De H z h
 ·obtain ⟨c, hc, h, _⟩ := a5 z h
  obtain ⟨a, Y, h, _⟩ := a5 z h
  obtain ⟨b, hb, h, _⟩ := a5 z h
  obtain ⟨v, K, h⟩ := Jp h
  exact ⟨_, h, by simp only [BY, hc, Y, hb, yb, K, yn]; rfl⟩
 ·split at h
  ·rename_i ti V
   have N := bX.of (H _ _ V)
   rw [cK] at h
   obtain ⟨O, h⟩ := h
   simp only [yc] at O
   refine ⟨_, h, ?_⟩
   unfold s9
   rw [N.zero_eq.1]; simp only [yb]
   have hz := (zeroCells N).1
   rw [(zeroCells N).2.1] at hz
   rw [f8]
   refine ⟨?_, by rw [hz]; rfl⟩
   rw [hz, aK, ya2, yc]
   exact ⟨O.1, gD O.2⟩
  ·cases h
 ·obtain ⟨v, K, h, _⟩ := a5 z h
  split at h
  ·rename_i ti V
   have N := bX.of (H _ _ V)
   rw [cK] at h
   obtain ⟨O, h⟩ := h
   simp only [yc] at O
   refine ⟨_, h, ?_⟩
   unfold F5
   rw [K]; simp only [yb, N.n]
   rw [f8]
   simp only [dR, aK, yc]
   exact ⟨⟨⟨O.1.1, O.1.2⟩, gD O.2⟩, rfl⟩
  ·cases h
 ·obtain ⟨ps, hps, h⟩ := sJ z h
  obtain ⟨v, K, h⟩ := Ia H h
  exact ⟨_, h, by simp only [u3, hps, yb, K, yn]; rfl⟩
 ·exact AE H z h
 ·obtain ⟨a, Y, h, _⟩ := a5 z h
  obtain ⟨out, h, hl, _⟩ := C8 H h
  exact ⟨out, h, by simp only [Y, yb, hl]⟩
 ·obtain ⟨a, Y, h, _⟩ := a5 z h
  obtain ⟨x, J, h, _⟩ := a5 z h
  obtain ⟨out, h, hs⟩ := HR H h
  exact ⟨out, h, by simp only [vA, Y, J, yb, hs]⟩
 ·obtain ⟨v, K, h, _⟩ := a5 z h
  unfold FM
  rw [K]; simp only [yb]
  split at h
  ·exact ⟨_, h, rfl⟩
  ·exact ⟨_, h, rfl⟩
  ·exact ⟨_, h, rfl⟩
  ·cases h
 ·obtain ⟨x, J, h, _⟩ := a5 z h
  obtain ⟨y, hy, h, _⟩ := a5 z h
  obtain ⟨v, K, h⟩ := IY H h
  exact ⟨_, h, by simp only [Gm, J, hy, yb, K, yn]; rfl⟩
 ·obtain ⟨x, J, h, _⟩ := a5 z h
  obtain ⟨a, v, rfl, K, h⟩ := J8 h
  exact ⟨_, h, by simp only [Lc, J, yb, KV.down, K, yn]; rfl⟩
 ·obtain ⟨x, J, h, _⟩ := a5 z h
  obtain ⟨out, h, hc⟩ := FA H h
  exact ⟨out, h, by simp only [J, yb, hc]⟩
 ·obtain ⟨fi, hfi, h, _⟩ := rD z h
  obtain ⟨ca, hca, h, _⟩ := rD z h
  exact ⟨_, h, by simp only [A3, hfi, hca, yb, yn]; rfl⟩
 ·obtain ⟨l, hl, h, _⟩ := a5 z h
  obtain ⟨c, hc, h, _⟩ := a5 z h
  exact A9 H hl hc h
 ·obtain ⟨x, J, h, _⟩ := a5 z h
  obtain ⟨lo, hlo, h⟩ := B7 z h
  obtain ⟨hi, hhi, h⟩ := B7 z h
  obtain ⟨mx, hmx, h⟩ := B7 z h
  obtain ⟨out, h, hs⟩ := Id H h
  exact ⟨out, h, by simp only [wT, J, hlo, hhi, hmx, yb, hs]⟩
 ·obtain ⟨x, J, h, _⟩ := a5 z h
  obtain ⟨off, n, ft, Z, h⟩ := Cm H h
  unfold jH
  rw [J]; simp only [yb, Z]
  split at h
  ·exact ⟨_, h, rfl⟩
  ·exact ⟨_, h, rfl⟩
  ·cases h
 ·obtain ⟨x, J, h, _⟩ := a5 z h
  obtain ⟨off, n, ft, Z, h⟩ := Cm H h
  unfold u4
  rw [J]; simp only [yb, Z]
  split at h
  ·rename_i cs
   split at h
   ·rename_i tf htf
    have N := bX.of (H _ _ htf)
    simp only [KV.down, N.ag, yb]
    cases O : tf.ag with
    | true =>
     rw [O] at h; simp only [yg] at h ⊢
     rw [cK] at h
     refine ⟨_, h.2, ?_⟩
     rw [f8]
     exact ⟨by rw [aK]; exact h.1, by simp [eW, bW.down, KV.down, cO, yi3, yj3, aB]⟩
    | false =>
     rw [O] at h; simp only [yh] at h ⊢
     split at h
     ·rename_i v K
      rw [bO] at K
      exact ⟨_, h, by rw [qJ K]; rfl⟩
     ·cases h
   ·cases h
  ·cases h
 ·obtain ⟨x, J, h, _⟩ := a5 z h
  obtain ⟨ix, W, h, _⟩ := a5 z h
  unfold v6
  rw [J, W]; simp only [yb]
  split at h
  ·rename_i kd i
   obtain ⟨out, h, hi⟩ := HZ H h
   exact ⟨out, h, hi⟩
  ·cases h
 ·obtain ⟨x, J, h, _⟩ := a5 z h
  obtain ⟨ix, W, h, _⟩ := a5 z h
  exact GP H J W h
 ·obtain ⟨t, ht', h, _⟩ := a5 z h
  unfold mM
  rw [ht']; simp only [yb]
  split at h
  ·rename_i vs
   split at h
   ·rename_i v K
    rw [bO] at K
    exact ⟨_, h, by simp only [KV.down]; rw [qJ K]; rfl⟩
   ·cases h
  ·cases h
 ·obtain ⟨args, U, h, _⟩ := rD z h
  unfold CD
  rw [U]; simp only [yb]
  split at h
  ·rename_i b hb
   rw [hb]; simp only
   exact FK H h
  ·rename_i f Z
   rw [Z]; simp only
   obtain ⟨fv, hfv, h, _⟩ := a5 z h
   rw [hfv]; simp only [yb]
   split at h
   ·rename_i g fi ca
    exact Ji H hC h
   ·cases h
  ·cases h
end
end Go.Ab
