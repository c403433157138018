import Derived.Test.YtdlbbdbbpoggfaaMbFixA
import Derived.Test.YtdlbbdbbpoggfaaLib35
import Derived.Test.YtdlbbdbbpoggfaaMbRun1
set_option linter.unusedVariables false
set_option linter.unusedSimpArgs false
set_option maxRecDepth 100000
namespace Sx
open Go Go.Ab Go.Proofs Go.RowKit Go.Shelf
attribute [local go_sem] Oper.semAt_some
noncomputable def qag_p0 : Code := (match qag_c with | .seq a _ => a | _ => .skip)
noncomputable def qag_p1 : Code := (match qag_c with | .seq _ (.seq a _) => a | _ => .skip)
noncomputable def qag_p2 : Code := (match qag_c with | .seq _ (.seq _ (.seq (.seq a _) _)) => a | _ => .skip)
noncomputable def qag_p3 : Code := (match qag_c with | .seq _ (.seq _ (.seq (.seq _ a) _)) => a | _ => .skip)
noncomputable def qag_p4 : Code := (match qag_c with | .seq _ (.seq _ (.seq (.seq _ _) a)) => a | _ => .skip)
noncomputable def qag_Q : jD := ⟨.normal, [5, 13], (.cons (.ptr 1 0 0 0) (.cons (.fn 123 .nil (.cons (.ptr 2 0 0 0) .nil)) .nil)), (.cons (.bcells 0 false 1 (.cons (.sl false false (.int .u8)) (.cons .bool .nil))) (.cons (.bcells 0 false 1 (.cons (.int .u64) .nil)) (.cons (.bcells 0 false 1 (.cons (.sl true false (.int .u8)) .nil)) .nil)))⟩
theorem qag_split : qag_c = .seq qag_p0 (.seq qag_p1 (.seq (.seq qag_p2 qag_p3) qag_p4)) := by kernel_rfl
noncomputable def qag_fst (n : Nat) (n_1 : Int) (m0 : List Int) (m0_1 : Bool) : Option ((List Int × Bool) × Int × List Int) :=
 (qaw n (Fp (CP n_1 0) 8) m0 m0_1).bind fun r => some ((r.2.1, r.2.2), (0, r.1))
theorem qag_pre (n : Nat) (n_1 : Int) (m0 : List Int) (m0_1 : Bool) :
  gY (aP (eO [qag_Q])) tab (qag_tbl n) (fun _ => none) qag_an [some true] (.seq qag_p0 (.seq qag_p1 qag_p2)) 0
   ⟨Ad (c9 qag_a.sh (P2.fst qag_a.sh.dflt qag_a.sh.un qag_a.msh.un (n_1, (m0, m0_1)))) 22, e8 qag_a.msh (P2.snd qag_a.msh.dflt qag_a.sh.un qag_a.msh.un (n_1, (m0, m0_1)))⟩
   (fun e st => sR false [qag_Q] e st) = qag_fst n n_1 m0 m0_1 := by kernel_rfl
theorem OX (k : IntKind) (x y : Int) : bits .or k x y = JP k x y := rfl
theorem MR (t : List Int) : (Fx.upto (Fx.nth t) t.length).foldl (fun v x => JP .u64 (IntKind.u64.wrap (v * 256)) (IntKind.u64.wrap x.2)) 0 = KK t := by
 have h : (Fx.upto (Fx.nth t) t.length).map Prod.snd = t.reverse := by
  apply List.ext_getElem
  ·simp [Fx.upto]
  ·intro i h1 h2
   have h3 : i < t.length := by simpa using h2
   simp [Fx.upto, Fx.nth, show t.length - 1 - i < t.length by omega]
 rw [KK, List.foldr_eq_foldl_reverse, ← h, List.foldl_map]
theorem N8 {n : Nat} {k : Int} {xs : List Int} {bad : Bool} {t xs' : List Int} {bad' : Bool} (h : qaw n k xs bad = some (t, xs', bad')) : t.length ≤ 4294967296 := by
 simp only [qaw, qbc, qaj, Option.bind_some] at h
 cases bad with
 | true => obtain ⟨rfl, _⟩ := Prod.mk.inj (Option.some.inj h); decide
 | false =>
  simp only [cond_false] at h
  rcases Bool.eq_false_or_eq_true (decide (k < 0)) with e | e <;> rw [e] at h <;> simp only [cond_true, cond_false] at h
  ·obtain ⟨rfl, _⟩ := Prod.mk.inj (Option.some.inj h); decide
  ·rcases Bool.eq_false_or_eq_true (decide (k > bK xs)) with e | e <;> rw [e] at h <;> simp only [cond_true, cond_false] at h
   ·obtain ⟨rfl, _⟩ := Prod.mk.inj (Option.some.inj h); decide
   ·obtain ⟨_, h⟩ := bR.1 h
    obtain ⟨hb, h⟩ := bR.1 h
    obtain ⟨_, h⟩ := bR.1 h
    obtain ⟨rfl, _⟩ := Prod.mk.inj (Option.some.inj h)
    exact Nat.le_of_ble_eq_true hb
def P7 (w : World) (B : Nat) (pre : List (Nat × Int)) (W : World) : Prop := lJ B (.int .u64 (pre.foldl (fun v x => JP .u64 (IntKind.u64.wrap (v * 256)) (IntKind.u64.wrap x.2)) 0)) w W ∧ W.frozen? ⟨B, 0, none⟩ = false
set_option maxHeartbeats 2000000 in
theorem qag_ok (n : Nat) : aW Try.prog 91 (qag_E n) := by
 refine ⟨by kernel_rfl, ?_⟩
 intro a b hab G w avs m vargs hle hM hg0 hv
 obtain ⟨k0, xs, bad⟩ := a
 have hab : ((qaw n (Fp (CP k0 0) 8) xs bad).bind fun r => some (KK r.1, r.2)) = some b := hab
 cases hr : qaw n (Fp (CP k0 0) 8) xs bad with
 | none => rw [hr] at hab; cases hab
 | some r =>
 obtain ⟨t, xs', bad'⟩ := r
 rw [hr] at hab
 obtain rfl : (KK t, (xs', bad')) = b := Option.some.inj hab
 refine ⟨q5 Try.func91 Dj (by kernel_rfl), callsIn_wide.1 (callsIn_of_wp_marks (n := 3) Try.func91 (c := qag_c) (by kernel_rfl) trivial ?_ rfl)⟩
 rw [qag_split]
 have hpre := fun X Y0 Y1 => Pt (P := Try.prog) (Q := qag_Q) (ntmps := 22) (E := qag_E n) (an := qag_an) (loops := fun _ => none) (old := [some true]) (n := n) (tab := tab) (tbl := qag_tbl n) (p0 := qag_p0) (p1 := qag_p1) (p2 := qag_p2) (d := ((xs', bad'), ((0 : Int), t))) (X := X) (Y0 := Y0) (Y1 := Y1)
  Eu Ob (q9.cons (AllE.cons (qaw_ok n) AllE.nil) (q9.cons (AllE.cons (qbd_ok n) AllE.nil) q9.nil)) rfl (by kernel_rfl) (by kernel_rfl) (by kernel_rfl) (fun d => by kernel_rfl) (LT.nil.ok (by kernel_rfl)) rfl ((qag_pre n k0 xs bad).trans (by unfold qag_fst; rw [hr]; rfl)) hle hM hv
 have hmk : i5 m = [some true] := by
  obtain ⟨_, _, rfl⟩ := hle
  exact (j9 _).trans (by kernel_rfl)
 generalize hQ : bodyPostM Fence.wide 3 Try.prog Try.f91 _ = Q
 refine wpIn_seq (wpIn_wide.2 (wp_mono (hpre (fun e act w' => e = .normal ∧ Qk G w [some true] qag_Q ((xs', bad'), ((0 : Int), t)) 22 act w') Q Q (fun act w' h => ⟨rfl, h⟩)) ?_))
 rintro e a1 w1 h
 cases e <;> first | exact h | skip
 refine wpIn_seq (wpIn_wide.2 (wp_mono h ?_))
 rintro e a1 w1 h
 cases e <;> first | exact h | skip
 refine wpIn_seq (wpIn_seq (wpIn_wide.2 (wp_mono h ?_)))
 rintro e act w1 ⟨rfl, G1, hM1, henv, hsz, hdef, hInv⟩
 obtain ⟨tm, df⟩ := act
 obtain rfl : df = [] := hdef
 obtain ⟨tl⟩ := tm
 obtain ⟨t0, t1, t2, t3, t4, t5, t6, t7, t8, t9, t10, t11, t12, t13, t14, t15, t16, t17, t18, t19, t20, t21, rfl⟩ := Nr tl hsz
 obtain ⟨L1, B1, hl1, hb1, h5⟩ := Gt ((henv 5).resolve_left (fun h => nomatch h))
 obtain ⟨L2, B2, hl2, hb2, h13⟩ := MK (f := .func 123) (b := 2) ((henv 13).resolve_left (fun h => nomatch h))
 obtain rfl : t5 = .pointer (some ⟨B1, 0, none⟩) := h5
 obtain rfl : t13 = .func (.func 123) #[] #[.pointer (some ⟨B2, 0, none⟩)] := h13
 clear henv
 have hm1 : (aB (dY qag_Q ((xs', bad'), ((0 : Int), t))).mem)[1]? = some (some ⟨0, false, .cells 1 [.lit (.int .u64 0)]⟩) := by kernel_rfl
 have hm2 : (aB (dY qag_Q ((xs', bad'), ((0 : Int), t))).mem)[2]? = some (some ⟨0, false, .cells 1 [.imm true (.ints .u8 t)]⟩) := by kernel_rfl
 obtain ⟨hlt1, hfr1, hnp1, c1, hc1, hv1⟩ := IT hM1 hm1 hl1 hb1 rfl
 obtain ⟨hlt2, hfr2, hnp2, sv, hc2, hv2⟩ := IT hM1 hm2 hl2 hb2 rfl
 obtain rfl : c1 = .int .u64 0 := by cases hv1; rfl
 have hne : B2 ≠ B1 := fun e => absurd (hM1.apart 2 1 _ _ L2 L1 B1 hm2 hm1 hl2 hl1 (by rw [hb2, e]) hb1) (by decide)
 have hrow : Fx.Row w1.heap.size B1 w1 sv t := by
  rcases M9 hv2 with h | ⟨b, off, cap, rfl, h⟩
  ·exact .inl h
  ·refine .inr ⟨b, off, cap, rfl, fun j hj => ?_⟩
   obtain ⟨h3, h4⟩ := h j _ (List.getElem?_eq_getElem hj)
   exact ⟨hM1.away _ _ _ h4, fun e => hnp1 rfl _ _ (e ▸ h4), by rw [List.getElem?_eq_getElem hj]; exact h3⟩
 have hfz1 : w1.frozen? ⟨B1, 0, none⟩ = false := hfr1.cell (by rw [hc1]; rfl)
 have hlen : t.length ≤ 140737488351232 := Nat.le_trans (N8 hr) (by decide)
 show (qag_p3).wpIn Fence.wide 3 Try.prog _ _ _
 unfold qag_p3 qag_c Try.f91
 dsimp only
 refine wpIn_block ?_
 refine wpIn_rangeFunc_ownF (w0 := w1) rfl (by decide) (gf := 123) (lb := #[.pointer (some ⟨B2, 0, none⟩)]) rfl trivial (enters_of Try.func123 (by kernel_rfl) rfl)
  (Fx.back_stops Fence.wide 2 trivial rfl (by decide) B2 w1.heap.size B1 sv t hlen w1 (Nat.le_refl _) hlt2 hne hc2 hrow)
  (fun h k => h.trans k) (fun W l o o' hl _ _ _ B hB _ => World.putObj_heap_other (by omega)) (Below.refl _ _) (fun _ => rfl)
  (P7 w1 B1) (fun _ _ _ => False)
  (fun s A B row hs hg hr => ⟨hs.1.grown hg (fun r e => (hr r e).1) hlt1, (World.frozen?_of_block (hg.block B1 (Nat.lt_of_lt_of_le hlt1 hs.1.size) (fun e => by have := (hr B1 e.symm).1; omega))).trans hs.2⟩)
  (fun _ _ _ _ _ hs _ _ => hs)
  ⟨lJ.start hc1, hfz1⟩
  (fun x => { tmps := #[t0, t1, t2, t3, t4, .pointer (some ⟨B1, 0, none⟩), t6, .int .u8 x.2, t8, t9, t10, t11, t12, .func (.func 123) #[] #[.pointer (some ⟨B2, 0, none⟩)], .int .i64 (x.1 : Int), .int .u8 x.2, t16, t17, t18, t19, t20, t21], defers := [] }) ?assign ?body ?done ?stop
 case assign =>
  intro l x W K hK
  gi_wp2
  exact hK
 case body =>
  rintro l pre x W ⟨hT, hf⟩ _
  have hcell : W.cell? ⟨B1, 0, none⟩ = some (.int .u64 (pre.foldl (fun v x => JP .u64 (IntKind.u64.wrap (v * 256)) (IntKind.u64.wrap x.2)) 0)) := hT.cell
  generalize hacc : pre.foldl (fun v x => JP .u64 (IntKind.u64.wrap (v * 256)) (IntKind.u64.wrap x.2)) 0 = acc at hcell hT
  gi_wp2
  refine ⟨KeepsOthers.setCell _ _ _, fun B hB hne => ?_, ?_, by rw [World.frozen?_setCell]; exact hf⟩
  ·unfold World.setCell
   simp only [Array.getElem?_modify]
   rw [if_neg (fun e => hne e.symm)]
  ·rw [List.foldl_append, hacc, OX]
   exact hT.set
 case done =>
  rintro D ys W hD rfl ⟨hT, hf⟩ hK
  rw [MR] at hT
  subst hQ
  have hcell : W.cell? ⟨B1, 0, none⟩ = some (.int .u64 (KK t)) := hT.cell
  show (qag_p4).wpIn Fence.wide 3 Try.prog _ _ _
  unfold qag_p4 qag_c Try.f91
  dsimp only
  gi_wp2
  refine ⟨by simp, .inl ⟨_, _, rfl, run_takeDeferred hK, ?_⟩⟩
  have hT4 := hT.grown (grownBy_putObj' W D (.deferred none)) (fun r e => by cases e; exact hD) hlt1
  obtain ⟨hev, hgle, hM3⟩ := hT4.memR hM1 hm1 rfl hl1 hb1 rfl
  have hI4 := hInv.step hgle hev
  rw [← hmk] at hI4
  obtain ⟨G5, hret⟩ := Oe.of_lit (v := .int .u64 (KK t)) rfl hI4 hM3 (mr := aB (e8 (.cons (.bcells 0 false 1 (.cons (.sl false false (.int .u8)) (.cons .bool .nil))) .nil) (xs', bad'))) (by rw [hmk]; kernel_rfl)
  refine ⟨_, results_tmp rfl _ _ _, G5, _, rfl, ?_⟩
  exact hret
 case stop =>
  rintro D c pre W hD _ h _
  exact h.elim
end Sx
