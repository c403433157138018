/- Plain laws. -/
import Derived.Test.YtdlbbdbbpoggfaaGreatDoorLaw2
set_option linter.unusedVariables false
set_option linter.unusedSimpArgs false
section
namespace Sx
open Go Go.Ab
def nN (k : Nat) (q : Int) : kZ := ([(0, (0, (List.replicate k 0, [])))], ([], ([], (q, (0, (0, 0))))))
theorem Gr {k : Nat} (hk : k ≤ 64) (q : Int) : iE (nN k q) := by
 refine ⟨⟨by simp [nN], fun x hx => ?_, fun x hx => (by cases hx)⟩, fun x hx => ?_, fun x hx => (by cases hx)⟩
 ·obtain rfl := ym1.1 hx
  simp; omega
 ·obtain rfl := ym1.1 hx
  refine ⟨fun v h => ?_, fun v h => (by cases h)⟩
  rw [List.eq_of_mem_replicate h]
  exact ⟨by omega, by omega⟩
theorem Jk {s : kZ} {ts : List cQ} (h : ∀ t ∈ ts, t.1 ≠ 5) : gO s (List.replicate ts.length 0) ts = true := by
 unfold gO
 rw [yg3, decide_eq_true rfl, yu, yx]
 intro q A
 obtain ⟨i, z, rfl⟩ := yp1 A
 rw [yq3, List.getElem_replicate]
 have H := h (ts[i]'(by simp at z; omega)) (yu2 _)
 unfold Fb
 rw [beq_eq_false_iff_ne.2 H]
 cases (ts[i]'(by simp at z; omega)).1 == 1
 case true => rfl
 cases (ts[i]'(by simp at z; omega)).1 == 8 <;> rfl
theorem HW {m : aW} {z : List (List dA)} (hR : e9 m z = true) (hM : lT m = true) {f : iT} {r : List iT} (hf : m.funcs = f :: r) {q : Int} (hq : 0 ≤ q ∧ q ≤ 65536) :
  qcf 10000 m.recs m.funcs m.imps m.ints m.texts z (nN f.2.2.2.1.length q) = some true := by
 have Y := jM hM
 have A : m.funcs[0]? = some f := by rw [hf]; rfl
 have J := yj A
 have hb := (cZ (cJ Y).1).2.2.2.1 f J
 have M := Gr (k := f.2.2.2.1.length) (by omega) q
 obtain ⟨sh, hm, K, hl⟩ := IB hR A
 obtain ⟨x, sh', rfl⟩ : ∃ x r, sh = x :: r := by
  cases sh with
  | nil => simp at hl; omega
  | cons x r => exact ⟨x, r, rfl⟩
 have hx : x.1 = true ∧ x.2 = [] := by
  have h := K
  unfold nT at h
  simp only [yc, yy, decide_eq_false_iff_not] at h
  exact ⟨h.1.2.1, yp (by omega)⟩
 have Z : Dc m z (0, (0, (List.replicate f.2.2.2.1.length 0, []))) 0 0 f (x :: sh') x := ⟨rfl, rfl, A, hm, rfl, hl, K, hx.1⟩
 have hS := CF (n := 10000) (fr := (0, (0, (List.replicate f.2.2.2.1.length 0, [])))) M (k := 0) rfl rfl Z
 have h2 := Ey Y M (k := 0) (fr := (0, (0, (List.replicate f.2.2.2.1.length 0, [])))) rfl rfl A hS
 have H : f.1 = [] := by
  have h := hM
  unfold lT at h
  rw [hf] at h
  simp only [yc, decide_eq_true_eq] at h
  exact yp h.2.1
 have W : ∀ t ∈ f.2.2.2.1, t.1 ≠ 5 := by
  have h := (cJ Y).2 f J
  unfold qF at h
  rw [Bool.or_eq_false_iff] at h
  intro t ht h5
  have := List.any_eq_false.1 h.2 t ht
  rw [h5] at this
  exact this rfl
 have N : (gO (nN f.2.2.2.1.length q) (List.replicate f.2.2.2.1.length 0) (f.1 ++ f.2.2.2.1) && gO (nN f.2.2.2.1.length q) [] x.2) = true := by
  rw [H, hx.2, List.nil_append, Jk W]; rfl
 have hB := h2.1 N
 have O : qcf_W5 10000 ((z, 0), (aJ m, nN f.2.2.2.1.length q)) = some (Sum.inr (Sum.inr (aJ m, nN f.2.2.2.1.length q))) := by
  refine (bM (n := 9999) (B := fun s => qcf_B5 10000 s.1.1 s.1.2 s.2.1.1 s.2.1.2.1 s.2.1.2.2.1 s.2.1.2.2.2.1 s.2.1.2.2.2.2 s.2.2) hB).trans (bG (n := 9998) ?_)
  show qcf_B5 10000 z ((0 + 1 : Nat) : Int) m.recs m.funcs m.imps m.ints m.texts (nN f.2.2.2.1.length q) = _
  rfl
 have U := KR 10000 m z _ M (by omega)
 have V : qcf_W2 10000 ((z, 0), (aJ m, nN f.2.2.2.1.length q)) = some (Sum.inr (z, (aJ m, nN f.2.2.2.1.length q))) := by
  rcases KI 10000 m z _ M (by omega) with ⟨_, h⟩ | ⟨h, _⟩
  ·exact h
  ·cases h
 unfold qcf
 show (bif decide (q < 0) then _ else bif decide (q > 65536) then _ else bif decide ((0 : Int) < 0) then _ else bif decide ((0 : Int) > q) then _ else _) = _
 rw [decide_eq_false (by omega : ¬ q < 0), decide_eq_false (by omega : ¬ q > 65536)]
 show ((qcf_W0 10000 ((z, 0), (aJ m, nN f.2.2.2.1.length q))).bind fun r => _) = _
 rw [U]
 show ((qcf_W2 10000 ((z, 0), (aJ m, nN f.2.2.2.1.length q))).bind fun r => _) = _
 rw [V]
 show ((qcf_W5 10000 ((z, 0), (aJ m, nN f.2.2.2.1.length q))).bind fun r => _) = _
 rw [O]; rfl
theorem NF (m : aW) {f : iT} {r : List iT} (hf : m.funcs = f :: r) (hk : f.2.2.2.1.length ≤ 64) (q : Int) :
  qcm 10000 m.recs m.funcs m.imps m.ints m.texts q = some ((nN f.2.2.2.1.length q).1, (nN f.2.2.2.1.length q).2.2.2) := by
 unfold qcm
 rw [hf, show aD (f :: r) 0 = some f from rfl, ya, aC, yb1, beq_self_eq_true, decide_eq_true (by omega), yv2 (by omega)]
 rfl
theorem Le {a : kZ} (h : iE a) : qbe 10000 a.1 a.2.1 a.2.2.1 a.2.2.2.1 a.2.2.2.2.1 a.2.2.2.2.2.1 a.2.2.2.2.2.2 a.1 a.2.1 a.2.2.1 a.2.2.2.1 a.2.2.2.2.1 a.2.2.2.2.2.1 a.2.2.2.2.2.2 = some true := by
 rw [Jn (h.sm.fine (by omega))]; simp only [decide_true]
theorem PW : iE (([], ([], ([], ((0 : Int), ((0 : Int), ((0 : Int), (0 : Int))))))) : kZ) := ⟨⟨by simp, fun x hx => (by cases hx), fun x hx => (by cases hx)⟩, fun x hx => (by cases hx), fun x hx => (by cases hx)⟩
theorem Gq (m : aW) (J : Fe m) (hl : MJ m) (q : Int) : gG 10000 m.recs m.funcs m.imps m.ints m.texts q = some true := by
 unfold gG
 obtain ⟨x, Y, hL⟩ := rF 10000 m hl (by omega)
 rw [Y, ya, AT]
 cases x with
 | false => rfl
 | true =>
  have hn := Le PW
  simp only [yw, ye]
  unfold qca
  rw [KZ 10000 m J (by omega), wI 10000 m J (hL rfl) (by omega), ya]
  cases hM : lT m with
  | false => simp only [yw2, yg, ya]; exact (congrArg (fun z => Option.bind z fun r => some r) hn)
  | true =>
   simp only [yw, ye, ya]
   by_cases U : q < 0
   ·rw [decide_eq_true U]; exact (congrArg (fun z => Option.bind z fun r => some r) hn)
   ·rw [decide_eq_false U]
    by_cases N : q > 65536
    ·rw [decide_eq_true N]; exact (congrArg (fun z => Option.bind z fun r => some r) hn)
    ·rw [decide_eq_false N]
     have O := jM hM
     obtain ⟨f, r, hf⟩ := Ae O
     have hb := (cZ (cJ O).1).2.2.2.1 f (by rw [hf]; exact yn)
     have M := NF m hf (by omega) q
     have V : aD m.funcs 0 = some f := by rw [hf]; rfl
     obtain ⟨h, ok, K, A⟩ := KC m hM
     rw [K, M]
     simp only [ye, ya]
     rw [V]
     simp only [ya]
     rw [aC, yb1, beq_self_eq_true, decide_eq_true (by omega : (0 : Int) ≤ (f.2.2.2.1.length : Int)), yv2 (by omega : f.2.2.2.1.length ≤ 4294967296)]
     have H := Le (Gr (k := f.2.2.2.1.length) (by omega) q)
     show (((qbe 10000 (nN f.2.2.2.1.length q).1 [] [] q 0 0 0 (nN f.2.2.2.1.length q).1 [] [] q 0 0 0).bind fun z => bif z then (bif !ok then some true else (stateTyped 10000 m.recs m.funcs m.imps m.ints m.texts h (nN f.2.2.2.1.length q)).bind fun y => some y) else some false) : Option Bool) = some true
     rw [show qbe 10000 (nN f.2.2.2.1.length q).1 [] [] q 0 0 0 (nN f.2.2.2.1.length q).1 [] [] q 0 0 0 = _ from H, ya, yg]
     rcases A with ⟨rfl, rfl⟩ | ⟨rfl, h1, h2⟩
     ·rfl
     ·have hR := Dq hM h1 h2
      obtain ⟨b, k1, _, W⟩ := vJ m J h (nN f.2.2.2.1.length q) (Gr (by omega) q)
      have := (W hR).symm.trans (HW hR hM hf ⟨by omega, by omega⟩)
      rw [k1]
      simp only [yw, ye, ya]
      exact this
end Sx
end
section
namespace Sx
open Go Go.Ab
theorem GV (d : MF × Int) (hf : lY (.cons NW (.cons (.int .i64) .nil)) d) : ∃ n, gG n d.1.1 d.1.2.1 d.1.2.2.1 d.1.2.2.2.1 d.1.2.2.2.2 d.2 = some true := by
 obtain ⟨h1, _⟩ : lY NW d.1 ∧ lY (.cons (.int .i64) .nil) d.2 := hf
 exact ⟨10000, Gq (HD d.1) (sU (d := d.1) h1).1 (sU (d := d.1) h1).2 _⟩
end Sx
end
