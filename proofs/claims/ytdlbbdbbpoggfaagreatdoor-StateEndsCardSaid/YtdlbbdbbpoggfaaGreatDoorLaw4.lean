/- Plain laws. -/
import Derived.Test.YtdlbbdbbpoggfaaGreatDoorLaw2
set_option linter.unusedVariables false
set_option linter.unusedSimpArgs false
section
namespace Sx
open Go Go.Ab
theorem Mh (m : aW) (h : List (List dA)) (s : kZ) (A : iE s) (K : s.1 = []) :
  qdn 10000 m.recs m.funcs m.imps m.ints m.texts h s = some (dD m s && ((s.2.2.2.2.2.1 != 0) && ((aA s.2.1 == 0) && (s.2.2.2.2.2.2 == 0 || s.2.2.2.2.2.1 == 1)))) := by
 have H := A.frames
 have z := A.heap
 have J := I9 10000 m h s A (by omega)
 have hF : qo 10000 (lk m h s) = some (false, lk m h s) := by
  have : qo_W0 10000 ((s.1, (s.1, (aA s.1, 0))), lk m h s) = some (Sum.inr (lk m h s)) := by
   refine bG (n := 9999) (B := fun s => qo_B0 10000 s.1.1 s.1.2.1 s.1.2.2.1 s.1.2.2.2 s.2) ?_
   show qo_B0 10000 s.1 s.1 (aA s.1) 0 (lk m h s) = _
   unfold qo_B0
   rw [K]; rfl
  unfold qo
  show ((qo_W0 10000 ((s.1, (s.1, (aA s.1, 0))), lk m h s)).bind fun r => _) = _
  rw [this]; rfl
 unfold qdn
 rw [show qt 10000 (m.recs, (m.funcs, (m.imps, (m.ints, (m.texts, (h, s)))))) = _ from J, ya, x8 _ _ H z]
 simp only
 rw [hF, K]
 cases dD m s
 case false => rfl
 cases s.2.2.2.2.2.1 != 0
 case false => cases s.2.2.2.2.2.2 == 0 <;> rfl
 show (bif (aA s.2.1 == 0) then (bif (s.2.2.2.2.2.2 == 0) then some true else some (s.2.2.2.2.2.1 == 1)) else some false) = _
 cases aA s.2.1 == 0 <;> cases s.2.2.2.2.2.2 == 0 <;> rfl
def M2 (h : Nd) : Bool := decide (h.1 ≥ 0) && decide (h.1 < 4)
theorem Pt (h : Nd) : s9 h = !M2 h := by
 unfold s9 M2
 by_cases z : h.1 < 0
 ·rw [decide_eq_true z, decide_eq_false (by omega : ¬ h.1 ≥ 0)]; rfl
 ·rw [decide_eq_false z, decide_eq_true (by omega : h.1 ≥ 0)]
  by_cases h1 : h.1 < 4
  ·rw [decide_eq_true h1, decide_eq_false (by omega : ¬ h.1 ≥ 4)]; rfl
  ·rw [decide_eq_false h1, decide_eq_true (by omega : h.1 ≥ 4)]; rfl
theorem NX (l : List Nd) : l.any s9 = !l.all M2 := by
 rw [yr2, Bool.not_not]
 congr 1
 funext h
 exact Pt h
abbrev T5 := List Nd × Int × Int × Int × Int
theorem OI (m : aW) (z : List (List dA)) (A : List Nd) (hl : A.length ≤ 30) (b : Bool) (t : T5) :
  cC 10000 ((A, (z, (b, 0))), (aJ m, t)) = some ((z, b && A.all M2), (aJ m, t)) := by
 have h := dW (B := fun s => dG 10000 s.1.1 s.1.2.1 s.1.2.2.1 s.1.2.2.2 s.2.1.1 s.2.1.2.1 s.2.1.2.2.1 s.2.1.2.2.2.1 s.2.1.2.2.2.2 s.2.2.1 s.2.2.2.1 s.2.2.2.2.1 s.2.2.2.2.2.1 s.2.2.2.2.2.2) (xs := A) (mk := fun i (a : Bool) => ((A, (z, (a, (i : Int)))), (aJ m, t)))
  (I := fun i a => a = (b && (A.take i).all M2)) (Q := fun y => y = ((z, b && A.all M2), (aJ m, t))) (fun i a x hx hI => ?_) (fun a hI => ?_) A.length 0 10000 b (by omega) (by simp) (by omega)
 ·obtain ⟨y, h1, rfl⟩ := h
  exact h1
 ·have hi := cO hx
  refine .inl ⟨b && (A.take (i + 1)).all M2, ?_, rfl⟩
  show dG 10000 A z a (i : Int) m.recs m.funcs m.imps m.ints m.texts t.1 t.2.1 t.2.2.1 t.2.2.2.1 t.2.2.2.2 = _
  unfold dG
  rw [aC, decide_eq_true (by omega), yg, aE, hx, ya, ya, aH (by omega), fM hx, ← Bool.and_assoc, ← hI]
  unfold M2
  cases a <;> cases decide (x.1 ≥ 0) <;> simp
 ·refine ⟨_, ?_, rfl⟩
  show dG 10000 A z a (A.length : Int) m.recs m.funcs m.imps m.ints m.texts t.1 t.2.1 t.2.2.1 t.2.2.2.1 t.2.2.2.2 = _
  unfold dG
  rw [aC, decide_eq_false (by omega), ye, hI, yi2]
abbrev Pk : List PE := [(3, (0, (([] : List Int), ([] : List Int))))]
theorem PY {z : List Nd} (hl : z.length ≤ 30) (heap : List PE) (h : heap = [] ∨ heap = Pk) (u e v : Int) : iE (([], (heap, (z, ((65536 : Int), (u, (e, v)))))) : kZ) := by
 refine ⟨⟨?_, fun x hx => (by cases hx), fun x hx => ?_⟩, fun x hx => (by cases hx), fun x hx => ?_⟩
 ·rcases h with rfl | rfl <;> simp <;> omega
 ·rcases h with rfl | rfl
  ·cases hx
  ·obtain rfl := ym1.1 hx; simp
 ·rcases h with rfl | rfl
  ·cases hx
  ·obtain rfl := ym1.1 hx
   intro v A; cases A
theorem J6 (m : aW) (O : Fe m) (hl : MJ m) (e v : Int) (z : List Nd) (u : Int) (hu : 0 ≤ u ∧ u ≤ 65535) : i7 10000 m.recs m.funcs m.imps m.ints m.texts e v z u = some true := by
 unfold i7
 obtain ⟨x, e1, hL⟩ := rF 10000 m hl (by omega)
 rw [e1, ya, AT]
 cases x with
 | false => rfl
 | true =>
  simp only [yw, ye]
  rw [wI 10000 m O (hL rfl) (by omega), ya]
  cases hM : lT m with
  | false => rfl
  | true =>
   simp only [yw, ye]
   by_cases h30 : z.length > 30
   ·rw [aC, decide_eq_true (by omega)]; rfl
   ·rw [aC, decide_eq_false (by omega), ye]
    obtain ⟨h, ok, N, J⟩ := KC m hM
    rw [N, ya]
    rcases J with ⟨rfl, rfl⟩ | ⟨rfl, h1, h2⟩
    ·rfl
    ·have hR := Dq hM h1 h2
     have A : z.length ≤ 30 := by omega
     -- both states
     have H : ∀ (heap : List PE), (heap = [] ∨ heap = Pk) → stateTyped 10000 m.recs m.funcs m.imps m.ints m.texts h (([], (heap, (z, ((65536 : Int), (u, (e, v)))))) : kZ) =
       some (dD m (([], (heap, (z, ((65536 : Int), (u, (e, v)))))) : kZ) && ((e != 0) && ((aA heap == 0) && (v == 0 || e == 1)))) := by
      intro heap Z
      unfold stateTyped
      rw [qbq_eq m O h, ya, hR]
      have := Mh m h (([], (heap, (z, ((65536 : Int), (u, (e, v)))))) : kZ) (PY A heap Z u e v) rfl
      simp only [yw, ye]
      rw [this]; rfl
     have k1 := H [] (.inl rfl)
     have U := H Pk (.inr rfl)
     have K : dD m (([], ([], (z, ((65536 : Int), (u, (e, v)))))) : kZ) = (decide (e ≥ 0) && (decide (e ≤ 7) && (decide ((z.length : Int) ≤ 16) && z.all M2))) := by
      unfold dD qB
      rw [NX, Bool.not_not]
      simp only [decide_eq_true (show (65536 : Int) ≥ 0 by omega), decide_eq_true (show (65536 : Int) ≤ 65536 by omega), decide_eq_true (show u ≥ 0 by omega), decide_eq_true (show u ≤ 65536 by omega), yd3, List.all_nil, yt3, yu]
      rw [decide_eq_true (show ((0 : Nat) : Int) ≤ 4096 by omega)]
      simp [Bool.and_assoc]
     have Y : (dD m (([], (Pk, (z, ((65536 : Int), (u, (e, v)))))) : kZ) && ((e != 0) && ((aA Pk == 0) && (v == 0 || e == 1)))) = false := by
      rw [show (aA Pk == 0) = false from rfl]; simp
     rw [Y] at U
     rw [K] at k1
     have M : aY .i64 u = u := Nn (by omega) (by omega)
     rw [M]
     simp only [yw, ye, yg, ya]
     have hW : ∀ b, cC 10000 ((z, (h, (b, 0))), ((m.recs, (m.funcs, (m.imps, (m.ints, m.texts)))), (z, ((65536 : Int), (u, (e, v)))))) = some ((h, b && z.all M2), (aJ m, (z, ((65536 : Int), (u, (e, v)))))) := fun b => OI m h z A b (z, ((65536 : Int), (u, (e, v))))
     simp only [hW, ya]
     rw [show stateTyped 10000 m.recs m.funcs m.imps m.ints m.texts h (([] : List Pc), (([] : List PE), (z, ((65536 : Int), (u, (e, v)))))) = _ from k1, show stateTyped 10000 m.recs m.funcs m.imps m.ints m.texts h (([] : List Pc), (Pk, (z, ((65536 : Int), (u, (e, v)))))) = _ from U]
     simp only [ya]
     by_cases W : e ≥ 1
     ·rw [decide_eq_true W, decide_eq_true (show e ≥ 0 by omega), show (e != 0) = true from bne_iff_ne.2 (by omega)]
      simp only [yg, yu]
      by_cases V : e ≤ 7
      ·rw [decide_eq_true V]
       simp only [yg, yu]
       cases v == 0 <;> cases e == 1 <;> cases decide ((z.length : Int) ≤ 16) <;> cases z.all M2 <;> rfl
      ·rw [decide_eq_false V]; rfl
     ·rw [decide_eq_false W]
      simp only [ye, Bool.false_and]
      by_cases a0 : e = 0
      ·rw [show (e != 0) = false from by rw [a0]; rfl]; simp
      ·rw [decide_eq_false (show ¬ e ≥ 0 by omega)]; rfl
end Sx
end
section
namespace Sx
open Go Go.Ab
theorem Jt (d : MF × Int × Int × List Nd × Int) (hf : lY (.cons NW (.cons (.int .i64) (.cons (.int .u64) (.cons (.sl true true P3) (.cons (.int .u16) .nil))))) d) : ∃ n, i7 n d.1.1 d.1.2.1 d.1.2.2.1 d.1.2.2.2.1 d.1.2.2.2.2 d.2.1 d.2.2.1 d.2.2.2.1 d.2.2.2.2 = some true := by
 obtain ⟨h1, _, _, _, h5, _⟩ : lY NW d.1 ∧ kU (.int .i64) d.2.1 ∧ kU (.int .u64) d.2.2.1 ∧ kU (.sl true P3) d.2.2.2.1 ∧ kU (.int .u16) d.2.2.2.2 ∧ True := hf
 exact ⟨10000, J6 (HD d.1) (sU (d := d.1) h1).1 (sU (d := d.1) h1).2 _ _ _ _ (PD h5)⟩
end Sx
end
