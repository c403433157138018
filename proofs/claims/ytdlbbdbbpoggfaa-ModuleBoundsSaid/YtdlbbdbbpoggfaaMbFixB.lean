import Derived.Test.YtdlbbdbbpoggfaaMbFixA
import Derived.Test.YtdlbbdbbpoggfaaLib35
import Derived.Test.YtdlbbdbbpoggfaaMbRun1
set_option linter.unusedVariables false
set_option linter.unusedSimpArgs false
set_option maxRecDepth 100000
namespace Sx
open Go Go.Ab Go.Proofs Go.RowKit Go.Shelf
attribute [local go_sem] Oper.semAt_some
noncomputable def qah_p0 : Code := (match qah_c with | .seq a _ => a | _ => .skip)
noncomputable def qah_p1 : Code := (match qah_c with | .seq _ (.seq a _) => a | _ => .skip)
noncomputable def qah_p2 : Code := (match qah_c with | .seq _ (.seq _ (.seq (.seq a _) _)) => a | _ => .skip)
noncomputable def qah_p3 : Code := (match qah_c with | .seq _ (.seq _ (.seq (.seq _ a) _)) => a | _ => .skip)
noncomputable def qah_p4 : Code := (match qah_c with | .seq _ (.seq _ (.seq (.seq _ _) a)) => a | _ => .skip)
noncomputable def qah_Q : jD := ⟨.normal, [5, 13], (.cons (.ptr 1 0 0 0) (.cons (.fn 123 .nil (.cons (.ptr 2 0 0 0) .nil)) .nil)), (.cons (.bcells 0 false 1 (.cons (.sl false false (.int .u8)) (.cons .bool .nil))) (.cons (.bcells 0 false 1 (.cons (.int .u64) .nil)) (.cons (.bcells 0 false 1 (.cons (.sl true false (.int .u8)) .nil)) .nil)))⟩
theorem qah_split : qah_c = .seq qah_p0 (.seq qah_p1 (.seq (.seq qah_p2 qah_p3) qah_p4)) := by kernel_rfl
noncomputable def qah_fst (n : Nat) (n_1 : Int) (m0 : List Int) (m0_1 : Bool) : Option ((List Int × Bool) × Int × List Int) :=
 (qax n (Fr (CN n_1 0) 8) m0 m0_1).bind fun r => some ((r.2.1, r.2.2), (0, r.1))
theorem qah_pre (n : Nat) (I : Int) (J : List Int) (H : Bool) :
  iF (aP (eN [qah_Q])) tab (qah_tbl n) (fun _ => none) qah_an [some true] (.seq qah_p0 (.seq qah_p1 qah_p2)) 0
   ⟨As (c9 qah_a.sh (P2.fst qah_a.sh.dflt qah_a.sh.un qah_a.msh.un (I, (J, H)))) 22, e8 qah_a.msh (P2.snd qah_a.msh.dflt qah_a.sh.un qah_a.msh.un (I, (J, H)))⟩
   (fun e st => rX false [qah_Q] e st) = qah_fst n I J H := by kernel_rfl
theorem OW (k : IntKind) (x y : Int) : bits .or k x y = JL k x y := rfl
theorem Mt (t : List Int) : (Fx.upto (Fx.nth t) t.length).foldl (fun v x => JL .u64 (IntKind.u64.wrap (v * 256)) (IntKind.u64.wrap x.2)) 0 = KR t := by
 have h : (Fx.upto (Fx.nth t) t.length).map Prod.snd = t.reverse := by
  apply List.ext_getElem
  ·simp [Fx.upto]
  ·intro i h1 H
   have h3 : i < t.length := by simpa using H
   simp [Fx.upto, Fx.nth, show t.length - 1 - i < t.length by omega]
 rw [KR, List.foldr_eq_foldl_reverse, ← h, List.foldl_map]
theorem Ny {n : Nat} {k : Int} {xs : List Int} {I : Bool} {t J : List Int} {H : Bool} (h : qax n k xs I = some (t, J, H)) : t.length ≤ 4294967296 := by
 simp only [qax, qba, qat, ye] at h
 cases I with
 | true => obtain ⟨rfl, _⟩ := Prod.mk.inj (ya h); decide
 | false =>
  simp only [yk] at h
  rcases Bool.eq_false_or_eq_true (decide (k < 0)) with e | e <;> rw [e] at h <;> simp only [yl, yk] at h
  ·obtain ⟨rfl, _⟩ := Prod.mk.inj (ya h); decide
  ·rcases Bool.eq_false_or_eq_true (decide (k > bK xs)) with e | e <;> rw [e] at h <;> simp only [yl, yk] at h
   ·obtain ⟨rfl, _⟩ := Prod.mk.inj (ya h); decide
   ·obtain ⟨_, h⟩ := bP.1 h
    obtain ⟨K, h⟩ := bP.1 h
    obtain ⟨_, h⟩ := bP.1 h
    obtain ⟨rfl, _⟩ := Prod.mk.inj (ya h)
    exact Nat.le_of_ble_eq_true K
def Qd (w : World) (B : Nat) (pre : List (Nat × Int)) (W : World) : Prop := lF B (.int .u64 (pre.foldl (fun v x => JL .u64 (IntKind.u64.wrap (v * 256)) (IntKind.u64.wrap x.2)) 0)) w W ∧ W.frozen? ⟨B, 0, none⟩ = false
set_option maxHeartbeats 2000000 in
theorem qah_ok (n : Nat) : aW Try.prog 91 (qah_E n) := by
 refine ⟨by kernel_rfl, ?_⟩
 intro a b J G w avs m vargs hle hM hg0 hv
 obtain ⟨k0, xs, bad⟩ := a
 have J : ((qax n (Fr (CN k0 0) 8) xs bad).bind fun r => some (KR r.1, r.2)) = some b := J
 cases hr : qax n (Fr (CN k0 0) 8) xs bad with
 | none => rw [hr] at J; cases J
 | some r =>
 obtain ⟨t, I, H⟩ := r
 rw [hr] at J
 obtain rfl : (KR t, (I, H)) = b := ya J
 refine ⟨qM Try.func91 Dl (by kernel_rfl), callsIn_wide.1 (callsIn_of_wp_marks (n := 3) Try.func91 (c := qah_c) (by kernel_rfl) trivial ?_ rfl)⟩
 rw [qah_split]
 have hpre := fun X Y0 Y1 => Pv (P := Try.prog) (Q := qah_Q) (ntmps := 22) (E := qah_E n) (an := qah_an) (loops := fun _ => none) (old := [some true]) (n := n) (tab := tab) (tbl := qah_tbl n) (p0 := qah_p0) (p1 := qah_p1) (p2 := qah_p2) (d := ((I, H), ((0 : Int), t))) (X := X) (Y0 := Y0) (Y1 := Y1)
  Ek N8 (rH.cons (AllE.cons (qax_ok n) AllE.nil) (rH.cons (AllE.cons (qbc_ok n) AllE.nil) rH.nil)) rfl (by kernel_rfl) (by kernel_rfl) (by kernel_rfl) (fun d => by kernel_rfl) (LT.nil.ok (by kernel_rfl)) rfl ((qah_pre n k0 xs bad).trans (by unfold qah_fst; rw [hr]; rfl)) hle hM hv
 have hmk : i9 m = [some true] := by
  obtain ⟨_, _, rfl⟩ := hle
  exact (j9 _).trans (by kernel_rfl)
 generalize hQ : bodyPostM Fence.wide 3 Try.prog Try.f91 _ = Q
 refine wpIn_seq (wpIn_wide.2 (wp_mono (hpre (fun e Z w' => e = .normal ∧ QI G w [some true] qah_Q ((I, H), ((0 : Int), t)) 22 Z w') Q Q (fun Z w' h => ⟨rfl, h⟩)) ?_))
 rintro e a1 Y h
 cases e <;> first | exact h | skip
 refine wpIn_seq (wpIn_wide.2 (wp_mono h ?_))
 rintro e a1 Y h
 cases e <;> first | exact h | skip
 refine wpIn_seq (wpIn_seq (wpIn_wide.2 (wp_mono h ?_)))
 rintro e Z Y ⟨rfl, G1, N, U, hsz, hdef, hInv⟩
 obtain ⟨tm, df⟩ := Z
 obtain rfl : df = [] := hdef
 obtain ⟨tl⟩ := tm
 obtain ⟨t0, t1, t2, t3, t4, t5, t6, t7, t8, t9, t10, t11, t12, t13, t14, t15, t16, t17, t18, t19, t20, t21, rfl⟩ := NM tl hsz
 obtain ⟨L1, M, hl1, hb1, h5⟩ := GJ ((U 5).resolve_left (fun h => nomatch h))
 obtain ⟨L2, B2, hl2, hb2, h13⟩ := M6 (f := .func 123) (b := 2) ((U 13).resolve_left (fun h => nomatch h))
 obtain rfl : t5 = .pointer (some ⟨M, 0, none⟩) := h5
 obtain rfl : t13 = .func (.func 123) #[] #[.pointer (some ⟨B2, 0, none⟩)] := h13
 clear U
 have hm1 : (aB (dZ qah_Q ((I, H), ((0 : Int), t))).mem)[1]? = some (some ⟨0, false, .cells 1 [.lit (.int .u64 0)]⟩) := by kernel_rfl
 have hm2 : (aB (dZ qah_Q ((I, H), ((0 : Int), t))).mem)[2]? = some (some ⟨0, false, .cells 1 [.imm true (.ints .u8 t)]⟩) := by kernel_rfl
 obtain ⟨O, hfr1, hnp1, c1, hc1, hv1⟩ := Jt N hm1 hl1 hb1 rfl
 obtain ⟨hlt2, hfr2, hnp2, sv, hc2, hv2⟩ := Jt N hm2 hl2 hb2 rfl
 obtain rfl : c1 = .int .u64 0 := by cases hv1; rfl
 have hne : B2 ≠ M := fun e => absurd (N.apart 2 1 _ _ L2 L1 M hm2 hm1 hl2 hl1 (by rw [hb2, e]) hb1) (by decide)
 have hrow : Fx.Row Y.heap.size M Y sv t := by
  rcases Mj hv2 with h | ⟨b, off, cap, rfl, h⟩
  ·exact .inl h
  ·refine .inr ⟨b, off, cap, rfl, fun j hj => ?_⟩
   obtain ⟨h3, h4⟩ := h j _ (yf hj)
   exact ⟨N.away _ _ _ h4, fun e => hnp1 rfl _ _ (e ▸ h4), by rw [yf hj]; exact h3⟩
 have hfz1 : Y.frozen? ⟨M, 0, none⟩ = false := hfr1.cell (by rw [hc1]; rfl)
 have hlen : t.length ≤ 140737488351232 := ya2 (Ny hr) (by decide)
 show (qah_p3).wpIn Fence.wide 3 Try.prog _ _ _
 unfold qah_p3 qah_c Try.f91
 dsimp only
 refine wpIn_block ?_
 refine wpIn_rangeFunc_ownF (w0 := Y) rfl (by decide) (gf := 123) (lb := #[.pointer (some ⟨B2, 0, none⟩)]) rfl trivial (enters_of Try.func123 (by kernel_rfl) rfl)
  (Fx.back_stops Fence.wide 2 trivial rfl (by decide) B2 Y.heap.size M sv t hlen Y (yy _) hlt2 hne hc2 hrow)
  (fun h k => h.trans k) (fun W l o o' hl _ _ _ B hB _ => World.putObj_heap_other (by omega)) (Below.refl _ _) (fun _ => rfl)
  (Qd Y M) (fun _ _ _ => False)
  (fun s A B row hs hg hr => ⟨hs.1.grown hg (fun r e => (hr r e).1) O, (World.frozen?_of_block (hg.block M (yh1 O hs.1.size) (fun e => by have := (hr M e.symm).1; omega))).trans hs.2⟩)
  (fun _ _ _ _ _ hs _ _ => hs)
  ⟨lF.start hc1, hfz1⟩
  (fun x => { tmps := #[t0, t1, t2, t3, t4, .pointer (some ⟨M, 0, none⟩), t6, .int .u8 x.2, t8, t9, t10, t11, t12, .func (.func 123) #[] #[.pointer (some ⟨B2, 0, none⟩)], .int .i64 (x.1 : Int), .int .u8 x.2, t16, t17, t18, t19, t20, t21], defers := [] }) ?assign ?body ?done ?stop
 case assign =>
  intro l x W K hK
  gi_wp2
  exact hK
 case body =>
  rintro l pre x W ⟨hT, hf⟩ _
  have V : W.cell? ⟨M, 0, none⟩ = some (.int .u64 (pre.foldl (fun v x => JL .u64 (IntKind.u64.wrap (v * 256)) (IntKind.u64.wrap x.2)) 0)) := hT.cell
  generalize hacc : pre.foldl (fun v x => JL .u64 (IntKind.u64.wrap (v * 256)) (IntKind.u64.wrap x.2)) 0 = acc at V hT
  gi_wp2
  refine ⟨KeepsOthers.setCell _ _ _, fun B hB hne => ?_, ?_, by rw [World.frozen?_setCell]; exact hf⟩
  ·unfold World.setCell
   simp only [yt2]
   rw [if_neg (fun e => hne e.symm)]
  ·rw [List.foldl_append, hacc, OW]
   exact hT.set
 case done =>
  rintro D ys W hD rfl ⟨hT, hf⟩ hK
  rw [Mt] at hT
  subst hQ
  have V : W.cell? ⟨M, 0, none⟩ = some (.int .u64 (KR t)) := hT.cell
  show (qah_p4).wpIn Fence.wide 3 Try.prog _ _ _
  unfold qah_p4 qah_c Try.f91
  dsimp only
  gi_wp2
  refine ⟨by simp, .inl ⟨_, _, rfl, run_takeDeferred hK, ?_⟩⟩
  have hT4 := hT.grown (grownBy_putObj' W D (.deferred none)) (fun r e => by cases e; exact hD) O
  obtain ⟨hev, hgle, hM3⟩ := hT4.memR N hm1 rfl hl1 hb1 rfl
  have hI4 := hInv.step hgle hev
  rw [← hmk] at hI4
  obtain ⟨G5, hret⟩ := NY.of_lit (v := .int .u64 (KR t)) rfl hI4 hM3 (mr := aB (e8 (.cons (.bcells 0 false 1 (.cons (.sl false false (.int .u8)) (.cons .bool .nil))) .nil) (I, H))) (by rw [hmk]; kernel_rfl)
  refine ⟨_, results_tmp rfl _ _ _, G5, _, rfl, ?_⟩
  exact hret
 case stop =>
  rintro D c pre W hD _ h _
  exact h.elim
end Sx
