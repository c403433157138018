import Derived.Test.YtmoldheenagboaaImgFixA
import Derived.Test.YtmoldheenagboaaLib33
import Derived.Test.YtmoldheenagboaaImgRun1
set_option linter.unusedVariables false
set_option linter.unusedSimpArgs false
set_option maxRecDepth 100000
namespace Sx
open Go Go.Ab Go.Proofs Go.RowKit Go.Shelf
attribute [local go_sem] Oper.semAt_some
noncomputable def qo_p0 : Code := (match qo_c with | .seq a _ => a | _ => .skip)
noncomputable def qo_p1 : Code := (match qo_c with | .seq _ (.seq a _) => a | _ => .skip)
noncomputable def qo_p2 : Code := (match qo_c with | .seq _ (.seq _ (.seq (.seq a _) _)) => a | _ => .skip)
noncomputable def qo_p3 : Code := (match qo_c with | .seq _ (.seq _ (.seq (.seq _ a) _)) => a | _ => .skip)
noncomputable def qo_p4 : Code := (match qo_c with | .seq _ (.seq _ (.seq (.seq _ _) a)) => a | _ => .skip)
noncomputable def qo_Q : aI := ⟨.normal, [5, 13], (.cons (.ptr 1 0 0 0) (.cons (.fn 99 .nil (.cons (.ptr 2 0 0 0) .nil)) .nil)), (.cons (.bcells 0 false 1 (.cons (.sl false false (.int .u8)) (.cons .bool .nil))) (.cons (.bcells 0 false 1 (.cons (.int .u64) .nil)) (.cons (.bcells 0 false 1 (.cons (.sl true false (.int .u8)) .nil)) .nil)))⟩
theorem qo_split : qo_c = .seq qo_p0 (.seq qo_p1 (.seq (.seq qo_p2 qo_p3) qo_p4)) := by kernel_rfl
noncomputable def qo_fst (n : Nat) (n_1 : Int) (m0 : List Int) (m0_1 : Bool) : Option ((List Int × Bool) × Int × List Int) :=
 (qv n (Ey (CY n_1 0) 8) m0 m0_1).bind fun r => some ((r.2.1, r.2.2), (0, r.1))
theorem qo_pre (n : Nat) (n_1 : Int) (m0 : List Int) (m0_1 : Bool) :
  f5 (aL (eU [qo_Q])) tab (qo_tbl n) (fun _ => none) qo_an [some true] (.seq qo_p0 (.seq qo_p1 qo_p2)) 0
   ⟨wU (dG qo_a.sh (P2.fst qo_a.sh.dflt qo_a.sh.un qo_a.msh.un (n_1, (m0, m0_1)))) 22, eH qo_a.msh (P2.snd qo_a.msh.dflt qo_a.sh.un qo_a.msh.un (n_1, (m0, m0_1)))⟩
   (fun e st => mJ false [qo_Q] e st) = qo_fst n n_1 m0 m0_1 := by kernel_rfl
theorem Lq (k : IntKind) (x y : Int) : bits .or k x y = At k x y := rfl
theorem JX (t : List Int) : (Fx.upto (Fx.nth t) t.length).foldl (fun v x => At .u64 (IntKind.u64.wrap (v * 256)) (IntKind.u64.wrap x.2)) 0 = mL t := by
 have h : (Fx.upto (Fx.nth t) t.length).map Prod.snd = t.reverse := by
  apply List.ext_getElem
  ·simp [Fx.upto]
  ·intro i h1 h2
   have h3 : i < t.length := by simpa using h2
   simp [Fx.upto, Fx.nth, show t.length - 1 - i < t.length by omega]
 rw [mL, List.foldr_eq_foldl_reverse, ← h, List.foldl_map]
theorem KQ {n : Nat} {k : Int} {xs : List Int} {bad : Bool} {t xs' : List Int} {bad' : Bool} (h : qv n k xs bad = some (t, xs', bad')) : t.length ≤ 4294967296 := by
 simp only [qv, qz, qu, Option.bind_some] at h
 cases bad with
 | true => obtain ⟨rfl, _⟩ := Prod.mk.inj (Option.some.inj h); decide
 | false =>
  simp only [cond_false] at h
  rcases Bool.eq_false_or_eq_true (decide (k < 0)) with e | e <;> rw [e] at h <;> simp only [cond_true, cond_false] at h
  ·obtain ⟨rfl, _⟩ := Prod.mk.inj (Option.some.inj h); decide
  ·rcases Bool.eq_false_or_eq_true (decide (k > bV xs)) with e | e <;> rw [e] at h <;> simp only [cond_true, cond_false] at h
   ·obtain ⟨rfl, _⟩ := Prod.mk.inj (Option.some.inj h); decide
   ·obtain ⟨_, h⟩ := cK.1 h
    obtain ⟨hb, h⟩ := cK.1 h
    obtain ⟨_, h⟩ := cK.1 h
    obtain ⟨rfl, _⟩ := Prod.mk.inj (Option.some.inj h)
    exact Nat.le_of_ble_eq_true hb
def Nr (w : World) (B : Nat) (pre : List (Nat × Int)) (W : World) : Prop := jU B (.int .u64 (pre.foldl (fun v x => At .u64 (IntKind.u64.wrap (v * 256)) (IntKind.u64.wrap x.2)) 0)) w W ∧ W.frozen? ⟨B, 0, none⟩ = false
set_option maxHeartbeats 2000000 in
theorem qo_ok (n : Nat) : cE Try.prog 74 (qo_E n) := by
 refine ⟨by kernel_rfl, ?_⟩
 intro a b hab G w avs m vargs hle hM hg0 hv
 obtain ⟨k0, xs, bad⟩ := a
 have hab : ((qv n (Ey (CY k0 0) 8) xs bad).bind fun r => some (mL r.1, r.2)) = some b := hab
 cases hr : qv n (Ey (CY k0 0) 8) xs bad with
 | none => rw [hr] at hab; cases hab
 | some r =>
 obtain ⟨t, xs', bad'⟩ := r
 rw [hr] at hab
 obtain rfl : (mL t, (xs', bad')) = b := Option.some.inj hab
 refine ⟨nR Try.func74 aG (by kernel_rfl), callsIn_wide.1 (callsIn_of_wp_marks (n := 3) Try.func74 (c := qo_c) (by kernel_rfl) trivial ?_ rfl)⟩
 rw [qo_split]
 have hpre := fun X Y0 Y1 => Mq (P := Try.prog) (Q := qo_Q) (ntmps := 22) (E := qo_E n) (an := qo_an) (loops := fun _ => none) (old := [some true]) (n := n) (tab := tab) (tbl := qo_tbl n) (p0 := qo_p0) (p1 := qo_p1) (p2 := qo_p2) (d := ((xs', bad'), ((0 : Int), t))) (X := X) (Y0 := Y0) (Y1 := Y1)
  aF aY (aE.cons (AllE.cons (qv_ok n) AllE.nil) (aE.cons (AllE.cons (qy_ok n) AllE.nil) aE.nil)) rfl (by kernel_rfl) (by kernel_rfl) (by kernel_rfl) (fun d => by kernel_rfl) (LT.nil.ok (by kernel_rfl)) rfl ((qo_pre n k0 xs bad).trans (by unfold qo_fst; rw [hr]; rfl)) hle hM hv
 have hmk : iM m = [some true] := by
  obtain ⟨_, _, rfl⟩ := hle
  exact (iQ _).trans (by kernel_rfl)
 generalize hQ : bodyPostM Fence.wide 3 Try.prog Try.f74 _ = Q
 refine wpIn_seq (wpIn_wide.2 (wp_mono (hpre (fun e act w' => e = .normal ∧ Ok G w [some true] qo_Q ((xs', bad'), ((0 : Int), t)) 22 act w') Q Q (fun act w' h => ⟨rfl, h⟩)) ?_))
 rintro e a1 w1 h
 cases e <;> first | exact h | skip
 refine wpIn_seq (wpIn_wide.2 (wp_mono h ?_))
 rintro e a1 w1 h
 cases e <;> first | exact h | skip
 refine wpIn_seq (wpIn_seq (wpIn_wide.2 (wp_mono h ?_)))
 rintro e act w1 ⟨rfl, G1, hM1, henv, hsz, hdef, hInv⟩
 obtain ⟨tm, df⟩ := act
 obtain rfl : df = [] := hdef
 obtain ⟨tl⟩ := tm
 obtain ⟨t0, t1, t2, t3, t4, t5, t6, t7, t8, t9, t10, t11, t12, t13, t14, t15, t16, t17, t18, t19, t20, t21, rfl⟩ := Kz tl hsz
 obtain ⟨L1, B1, hl1, hb1, h5⟩ := D7 ((henv 5).resolve_left (fun h => nomatch h))
 obtain ⟨L2, B2, hl2, hb2, h13⟩ := JC (f := .func 99) (b := 2) ((henv 13).resolve_left (fun h => nomatch h))
 obtain rfl : t5 = .pointer (some ⟨B1, 0, none⟩) := h5
 obtain rfl : t13 = .func (.func 99) #[] #[.pointer (some ⟨B2, 0, none⟩)] := h13
 clear henv
 have hm1 : (aB (cU qo_Q ((xs', bad'), ((0 : Int), t))).mem)[1]? = some (some ⟨0, false, .cells 1 [.lit (.int .u64 0)]⟩) := by kernel_rfl
 have hm2 : (aB (cU qo_Q ((xs', bad'), ((0 : Int), t))).mem)[2]? = some (some ⟨0, false, .cells 1 [.imm true (.ints .u8 t)]⟩) := by kernel_rfl
 obtain ⟨hlt1, hfr1, hnp1, c1, hc1, hv1⟩ := GE hM1 hm1 hl1 hb1 rfl
 obtain ⟨hlt2, hfr2, hnp2, sv, hc2, hv2⟩ := GE hM1 hm2 hl2 hb2 rfl
 obtain rfl : c1 = .int .u64 0 := by cases hv1; rfl
 have hne : B2 ≠ B1 := fun e => absurd (hM1.apart 2 1 _ _ L2 L1 B1 hm2 hm1 hl2 hl1 (by rw [hb2, e]) hb1) (by decide)
 have hrow : Fx.Row w1.heap.size B1 w1 sv t := by
  rcases J0 hv2 with h | ⟨b, off, cap, rfl, h⟩
  ·exact .inl h
  ·refine .inr ⟨b, off, cap, rfl, fun j hj => ?_⟩
   obtain ⟨h3, h4⟩ := h j _ (List.getElem?_eq_getElem hj)
   exact ⟨hM1.away _ _ _ h4, fun e => hnp1 rfl _ _ (e ▸ h4), by rw [List.getElem?_eq_getElem hj]; exact h3⟩
 have hfz1 : w1.frozen? ⟨B1, 0, none⟩ = false := hfr1.cell (by rw [hc1]; rfl)
 have hlen : t.length ≤ 140737488351232 := Nat.le_trans (KQ hr) (by decide)
 show (qo_p3).wpIn Fence.wide 3 Try.prog _ _ _
 unfold qo_p3 qo_c Try.f74
 dsimp only
 refine wpIn_block ?_
 refine wpIn_rangeFunc_ownF (w0 := w1) rfl (by decide) (gf := 99) (lb := #[.pointer (some ⟨B2, 0, none⟩)]) rfl trivial (enters_of Try.func99 (by kernel_rfl) rfl)
  (Fx.back_stops Fence.wide 2 trivial rfl (by decide) B2 w1.heap.size B1 sv t hlen w1 (Nat.le_refl _) hlt2 hne hc2 hrow)
  (fun h k => h.trans k) (fun W l o o' hl _ _ _ B hB _ => World.putObj_heap_other (by omega)) (Below.refl _ _) (fun _ => rfl)
  (Nr w1 B1) (fun _ _ _ => False)
  (fun s A B row hs hg hr => ⟨hs.1.grown hg (fun r e => (hr r e).1) hlt1, (World.frozen?_of_block (hg.block B1 (Nat.lt_of_lt_of_le hlt1 hs.1.size) (fun e => by have := (hr B1 e.symm).1; omega))).trans hs.2⟩)
  (fun _ _ _ _ _ hs _ _ => hs)
  ⟨jU.start hc1, hfz1⟩
  (fun x => { tmps := #[t0, t1, t2, t3, t4, .pointer (some ⟨B1, 0, none⟩), t6, .int .u8 x.2, t8, t9, t10, t11, t12, .func (.func 99) #[] #[.pointer (some ⟨B2, 0, none⟩)], .int .i64 (x.1 : Int), .int .u8 x.2, t16, t17, t18, t19, t20, t21], defers := [] }) ?assign ?body ?done ?stop
 case assign =>
  intro l x W K hK
  gi_wp2
  exact hK
 case body =>
  rintro l pre x W ⟨hT, hf⟩ _
  have hcell : W.cell? ⟨B1, 0, none⟩ = some (.int .u64 (pre.foldl (fun v x => At .u64 (IntKind.u64.wrap (v * 256)) (IntKind.u64.wrap x.2)) 0)) := hT.cell
  generalize hacc : pre.foldl (fun v x => At .u64 (IntKind.u64.wrap (v * 256)) (IntKind.u64.wrap x.2)) 0 = acc at hcell hT
  gi_wp2
  refine ⟨KeepsOthers.setCell _ _ _, fun B hB hne => ?_, ?_, by rw [World.frozen?_setCell]; exact hf⟩
  ·unfold World.setCell
   simp only [Array.getElem?_modify]
   rw [if_neg (fun e => hne e.symm)]
  ·rw [List.foldl_append, hacc, Lq]
   exact hT.set
 case done =>
  rintro D ys W hD rfl ⟨hT, hf⟩ hK
  rw [JX] at hT
  subst hQ
  have hcell : W.cell? ⟨B1, 0, none⟩ = some (.int .u64 (mL t)) := hT.cell
  show (qo_p4).wpIn Fence.wide 3 Try.prog _ _ _
  unfold qo_p4 qo_c Try.f74
  dsimp only
  gi_wp2
  refine ⟨by simp, .inl ⟨_, _, rfl, run_takeDeferred hK, ?_⟩⟩
  have hT4 := hT.grown (grownBy_putObj' W D (.deferred none)) (fun r e => by cases e; exact hD) hlt1
  obtain ⟨hev, hgle, hM3⟩ := hT4.memR hM1 hm1 rfl hl1 hb1 rfl
  have hI4 := hInv.step hgle hev
  rw [← hmk] at hI4
  obtain ⟨G5, hret⟩ := Ld.of_lit (v := .int .u64 (mL t)) rfl hI4 hM3 (mr := aB (eH (.cons (.bcells 0 false 1 (.cons (.sl false false (.int .u8)) (.cons .bool .nil))) .nil) (xs', bad'))) (by rw [hmk]; kernel_rfl)
  refine ⟨_, results_tmp rfl _ _ _, G5, _, rfl, ?_⟩
  exact hret
 case stop =>
  rintro D c pre W hD _ h _
  exact h.elim
end Sx
