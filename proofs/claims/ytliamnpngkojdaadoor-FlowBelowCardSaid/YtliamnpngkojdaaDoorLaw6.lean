/- Plain laws (texts FwE, FwE2, FwRowB). -/
import Derived.Test.YtliamnpngkojdaaDoorFwR
import Derived.Test.YtliamnpngkojdaaDoorLaw4
section
/- A stack that does for another one leads where that leads. -/
set_option linter.unusedVariables false
set_option linter.unusedSimpArgs false
namespace Sx
open Go Go.Ab
theorem znO (n : Nat) (m : ModD) (f : FnD) (i : InD) (a b : List TyD) (hb : badI i = false) (h6 : i.1 ≠ 6) (h7 : i.1 ≠ 7) (h41 : i.1 ≠ 41) :
  qbo n m.recs m.funcs m.imps m.ints m.texts f.1 f.2.1 f.2.2.1 f.2.2.2.1 f.2.2.2.2 i.1 i.2.1 i.2.2 a = qbo n m.recs m.funcs m.imps m.ints m.texts f.1 f.2.1 f.2.2.1 f.2.2.2.1 f.2.2.2.2 i.1 i.2.1 i.2.2 b := by
 unfold badI at hb
 have hb := of_decide_eq_false hb
 have ha := zdb (op := i.1) (by omega)
 obtain ⟨op, x, y⟩ := i
 have hk : op = 0 ∨ op = 1 ∨ op = 2 ∨ op = 3 ∨ op = 4 ∨ op = 5 ∨ op = 6 ∨ op = 7 ∨ op = 8 ∨ op = 9 ∨ op = 10 ∨ op = 11 ∨ op = 12 ∨ op = 13 ∨ op = 14 ∨ op = 15 ∨ op = 16 ∨ op = 17 ∨ op = 18 ∨ op = 19 ∨ op = 20 ∨ op = 21 ∨ op = 22 ∨ op = 23 ∨ op = 24 ∨ op = 25 ∨ op = 26 ∨ op = 27 ∨ op = 28 ∨ op = 29 ∨ op = 30 ∨ op = 31 ∨ op = 32 ∨ op = 33 ∨ op = 34 ∨ op = 35 ∨ op = 36 ∨ op = 37 ∨ op = 38 ∨ op = 39 ∨ op = 40 ∨ op = 41 := by simp only at ha; omega
 rcases hk with rfl | rfl | rfl | rfl | rfl | rfl | rfl | rfl | rfl | rfl | rfl | rfl | rfl | rfl | rfl | rfl | rfl | rfl | rfl | rfl | rfl | rfl | rfl | rfl | rfl | rfl | rfl | rfl | rfl | rfl | rfl | rfl | rfl | rfl | rfl | rfl | rfl | rfl | rfl | rfl | rfl | rfl
 ·rfl
 ·rfl
 ·rfl
 ·rfl
 ·rfl
 ·rfl
 ·exact absurd rfl h6
 ·exact absurd rfl h7
 ·rfl
 ·rfl
 ·rfl
 ·rfl
 ·rfl
 ·rfl
 ·rfl
 ·rfl
 ·rfl
 ·rfl
 ·rfl
 ·rfl
 ·rfl
 ·rfl
 ·rfl
 ·rfl
 ·rfl
 ·rfl
 ·rfl
 ·rfl
 ·rfl
 ·rfl
 ·rfl
 ·rfl
 ·rfl
 ·rfl
 ·rfl
 ·rfl
 ·rfl
 ·rfl
 ·rfl
 ·rfl
 ·rfl
 ·exact absurd rfl h41
theorem zct {s inn : List TyD} (hl : inn.length ≤ s.length) : takesV s inn = true ↔ ∀ j (h1 : j < inn.length), subV (s[s.length - inn.length + j]'(by omega)) inn[j] = true := by
 unfold takesV
 rw [List.all_eq_true]
 constructor
 ·intro h j h1
  have hd : j < (s.drop (s.length - inn.length)).length := by rw [List.length_drop]; omega
  have := h (inn[j], (s.drop (s.length - inn.length))[j]) (by
   have hz : j < (inn.zip (s.drop (s.length - inn.length))).length := by rw [List.length_zip]; omega
   have : (inn.zip (s.drop (s.length - inn.length)))[j] = (inn[j], (s.drop (s.length - inn.length))[j]) := by rw [List.getElem_zip]
   rw [← this]; exact List.getElem_mem hz)
  simp only [List.getElem_drop] at this
  exact this
 ·intro h q hq
  obtain ⟨j, hj, rfl⟩ := List.getElem_of_mem hq
  rw [List.length_zip] at hj
  rw [List.getElem_zip]
  simp only [List.getElem_drop]
  exact h j (by omega)
theorem zmb {a b inn : List TyD} (h : belowV a b = true) (hl : inn.length ≤ b.length) (ht : takesV b inn = true) : takesV a inn = true := by
 obtain ⟨l, e⟩ := zaD h
 rw [zct (by omega)] at ht ⊢
 intro j h1
 have := ht j h1
 have h2 := e (b.length - inn.length + j) (by omega) (by omega)
 have hidx : a.length - inn.length + j = b.length - inn.length + j := by omega
 simp only [hidx]
 exact ziq h2 this
theorem zlU {a b : List TyD} (k : Nat) (h : belowV a b = true) : belowV (a.take k) (b.take k) = true := by
 obtain ⟨l, e⟩ := zaD h
 refine ziy (by simp [l]) fun i h1 h2 => ?_
 rw [List.getElem_take, List.getElem_take]
 rw [List.length_take] at h1 h2
 exact e i (by omega) (by omega)
theorem znj {a b c d : List TyD} (h : belowV a b = true) (h' : belowV c d = true) : belowV (a ++ c) (b ++ d) = true := by
 obtain ⟨l, e⟩ := zaD h
 obtain ⟨l', e'⟩ := zaD h'
 refine ziy (by simp [l, l']) fun i h1 h2 => ?_
 rw [List.length_append] at h1 h2
 by_cases hi : i < a.length
 ·rw [List.getElem_append_left hi, List.getElem_append_left (by omega)]
  exact e i hi (by omega)
 ·rw [List.getElem_append_right (by omega), List.getElem_append_right (by omega)]
  have hidx : i - b.length = i - a.length := by omega
  simp only [hidx]
  exact e' (i - a.length) (by omega) (by omega)
abbrev RuD := List TyD × List TyD × Bool
theorem zkL {f : FnD} {i : InD} {pc : Int} {s : List TyD} {r : RuD} (h : (stepV f i pc s r).2.2 = 0) : r.2.2 = true ∧ r.1.length ≤ s.length ∧ s.length - r.1.length + r.2.1.length ≤ 8 ∧ takesV s r.1 = true ∧
  ¬ (i.1 ≠ 26 ∧ i.1 ≠ 23 ∧ pc + 1 ≥ (f.2.2.2.2.length : Int)) ∧ stepV f i pc s r = (s.take (s.length - r.1.length) ++ r.2.1, nextV i pc, 0) := by
 unfold stepV at h ⊢
 by_cases h1 : r.2.2 = false ∨ s.length < r.1.length ∨ s.length - r.1.length + r.2.1.length > 8 ∨ takesV s r.1 = false
 ·rw [if_pos h1] at h; cases h
 ·rw [if_neg h1] at h ⊢
  by_cases h2 : i.1 ≠ 26 ∧ i.1 ≠ 23 ∧ pc + 1 ≥ (f.2.2.2.2.length : Int)
  ·rw [if_pos h2] at h; cases h
  ·rw [if_neg h2]
   refine ⟨?_, ?_, ?_, ?_, h2, rfl⟩
   ·cases h3 : r.2.2 with
    | true => rfl
    | false => exact absurd (.inl h3) h1
   ·rcases Nat.lt_or_ge s.length r.1.length with h | h
    ·exact absurd (.inr (.inl h)) h1
    ·exact h
   ·rcases Nat.lt_or_ge 8 (s.length - r.1.length + r.2.1.length) with h | h
    ·exact absurd (.inr (.inr (.inl h))) h1
    ·exact h
   ·cases h3 : takesV s r.1 with
    | true => rfl
    | false => exact absurd (.inr (.inr (.inr h3))) h1
theorem zoG {f : FnD} {i : InD} {pc : Int} {s : List TyD} {r : RuD} (h1 : r.2.2 = true) (h2 : r.1.length ≤ s.length) (h3 : s.length - r.1.length + r.2.1.length ≤ 8) (h4 : takesV s r.1 = true)
    (h5 : ¬ (i.1 ≠ 26 ∧ i.1 ≠ 23 ∧ pc + 1 ≥ (f.2.2.2.2.length : Int))) : stepV f i pc s r = (s.take (s.length - r.1.length) ++ r.2.1, nextV i pc, 0) := by
  unfold stepV
  rw [if_neg (by rintro (h | h | h | h); · rw [h1] at h; cases h
                 · omega
                 · omega
                 · rw [h4] at h; cases h), if_neg h5]
theorem zmO {f : FnD} {i : InD} {pc : Int} {a b : List TyD} {ra rb : RuD} (hab : belowV a b = true) (hb : (stepV f i pc b rb).2.2 = 0) (h1 : ra.2.2 = true) (h2 : ra.1.length = rb.1.length) (h3 : belowV ra.2.1 rb.2.1 = true) (h4 : takesV a ra.1 = true) :
  (stepV f i pc a ra).2.2 = 0 ∧ belowV (stepV f i pc a ra).1 (stepV f i pc b rb).1 = true ∧ (stepV f i pc a ra).2.1 = (stepV f i pc b rb).2.1 := by
 obtain ⟨k1, k2, k3, k4, k5, k6⟩ := zkL hb
 have hl := (zaD hab).1
 have hl3 := (zaD h3).1
 rw [zoG h1 (by omega) (by omega) h4 k5, k6]
 refine ⟨rfl, ?_, rfl⟩
 simp only
 rw [show a.length - ra.1.length = b.length - rb.1.length by omega]
 exact znj (zlU _ hab) h3
theorem zhT {r q : List TyD} {x y : TyD} (h : belowV (r ++ [x]) (q ++ [y]) = true) : subV x y = true := by
 obtain ⟨l, e⟩ := zaD h
 simp at l
 have := e r.length (by simp) (by simp; omega)
 rw [List.getElem_append_right (by omega), List.getElem_append_right (by omega)] at this
 simpa [l] using this
theorem znn {r q : List TyD} {x y u v : TyD} (h : belowV (r ++ [x, u]) (q ++ [y, v]) = true) : subV x y = true ∧ subV u v = true := by
 have h2 : belowV ((r ++ [x]) ++ [u]) ((q ++ [y]) ++ [v]) = true := by simpa using h
 refine ⟨?_, zhT h2⟩
 obtain ⟨l, e⟩ := zaD h
 simp at l
 have := e r.length (by simp) (by simp; omega)
 rw [List.getElem_append_right (by omega), List.getElem_append_right (by omega)] at this
 simpa [l] using this
theorem zmH (n : Nat) (m : ModD) (f : FnD) (i : InD) (a b : List TyD) (ra rb : RuD) (hbad : badI i = false) (hs : b.length ≤ 200) (hab : belowV a b = true)
  (ea : qbo n m.recs m.funcs m.imps m.ints m.texts f.1 f.2.1 f.2.2.1 f.2.2.2.1 f.2.2.2.2 i.1 i.2.1 i.2.2 a = some ra) (eb : qbo n m.recs m.funcs m.imps m.ints m.texts f.1 f.2.1 f.2.2.1 f.2.2.2.1 f.2.2.2.2 i.1 i.2.1 i.2.2 b = some rb)
  (hok : rb.2.2 = true) (hle : rb.1.length ≤ b.length) (ht : takesV b rb.1 = true) : ra.2.2 = true ∧ ra.1.length = rb.1.length ∧ belowV ra.2.1 rb.2.1 = true ∧ takesV a ra.1 = true := by
 have hl := (zaD hab).1
 by_cases h6 : i.1 = 6
 ·obtain ⟨op, x, y⟩ := i
  simp only at h6; subst h6
  have dup : ∀ (s : List TyD) (r : RuD), s.length ≤ 200 → qbo n m.recs m.funcs m.imps m.ints m.texts f.1 f.2.1 f.2.2.1 f.2.2.2.1 f.2.2.2.2 6 x y s = some r → (s = [] ∧ r = ([], [], false)) ∨ ∃ q t, s = q ++ [t] ∧ r = ([t], [t, t], true) := by
   intro s r hs hr
   simp only [qbo, Int.reduceBEq, cond_false, cond_true] at hr
   by_cases h : 1 ≤ s.length
   ·obtain ⟨q, t, rfl⟩ := zbO h
    rw [List.length_append, List.length_singleton] at hs
    have hg : getI (q ++ [t]) (subI .i64 (lenI (q ++ [t])) 1) = some t := zC q [t] 1 0 (by simp; omega) rfl (by omega) (by simp)
    have hsub : subI .i64 (lenI (q ++ [t])) 1 = ((q.length : Nat) : Int) := by
     rw [zb, List.length_append, zA (by simp <;> omega) (by simp <;> omega)]; simp
    rw [hg, hsub, zb, List.length_append, List.length_singleton, decide_eq_false (by omega), decide_eq_true (by omega), decide_eq_true (by omega)] at hr
    simp only [cond_true, cond_false, Option.bind_some, Bool.and_self, Int.toNat_natCast] at hr
    rw [List.take_of_length_le (by simp), List.drop_left] at hr
    exact .inr ⟨q, t, rfl, (Option.some.inj hr).symm⟩
   ·left
    have : s = [] := List.eq_nil_of_length_eq_zero (by omega)
    rw [zb, decide_eq_true (by omega)] at hr
    exact ⟨this, (Option.some.inj hr).symm⟩
  rcases dup b rb hs eb with ⟨_, rfl⟩ | ⟨q, t, rfl, rfl⟩
  ·cases hok
  ·rcases dup a ra (by omega) ea with ⟨rfl, rfl⟩ | ⟨p, u, rfl, rfl⟩
   ·simp at hl
   ·have hsub := zhT hab
    refine ⟨rfl, rfl, ziy rfl fun j h1 h2 => ?_, (zct (by simp)).2 fun j h1 => ?_⟩
    ·match j, h1 with
     | 0, _ => exact hsub
     | 1, _ => exact hsub
    ·simp at h1; subst h1
     simp [zcm]
 ·by_cases h7 : i.1 = 7
  ·obtain ⟨op, x, y⟩ := i
   simp only at h7; subst h7
   have swp : ∀ (s : List TyD) (r : RuD), s.length ≤ 200 → qbo n m.recs m.funcs m.imps m.ints m.texts f.1 f.2.1 f.2.2.1 f.2.2.2.1 f.2.2.2.2 7 x y s = some r → (s.length < 2 ∧ r = ([], [], false)) ∨ ∃ q t u, s = q ++ [t, u] ∧ r = ([t, u], [u, t], true) := by
    intro s r hs hr
    simp only [qbo, Int.reduceBEq, cond_false, cond_true] at hr
    by_cases h : 2 ≤ s.length
    ·obtain ⟨q, t, u, rfl⟩ := zhr h
     rw [List.length_append] at hs
     simp only [List.length_cons, List.length_nil] at hs
     have hg1 : getI (q ++ [t, u]) (subI .i64 (lenI (q ++ [t, u])) 1) = some u := zC q [t, u] 1 1 (by simp; omega) rfl (by omega) (by simp)
     have hg2 : getI (q ++ [t, u]) (subI .i64 (lenI (q ++ [t, u])) 2) = some t := zC q [t, u] 2 0 (by simp; omega) rfl (by omega) (by simp)
     have hsub : subI .i64 (lenI (q ++ [t, u])) 2 = ((q.length : Nat) : Int) := by
      rw [zb, List.length_append, zA (by simp <;> omega) (by simp <;> omega)]; simp
     rw [hg1, hg2, hsub, zb, List.length_append] at hr
     simp only [List.length_cons, List.length_nil] at hr
     rw [decide_eq_false (by omega), decide_eq_true (by omega), decide_eq_true (by omega)] at hr
     simp only [cond_true, cond_false, Option.bind_some, Bool.and_self, Int.toNat_natCast] at hr
     rw [List.take_of_length_le (by simp), List.drop_left] at hr
     exact .inr ⟨q, t, u, rfl, (Option.some.inj hr).symm⟩
    ·left
     rw [zb, decide_eq_true (by omega)] at hr
     exact ⟨by omega, (Option.some.inj hr).symm⟩
   rcases swp b rb hs eb with ⟨_, rfl⟩ | ⟨q, t, u, rfl, rfl⟩
   ·cases hok
   ·rcases swp a ra (by omega) ea with ⟨h2, rfl⟩ | ⟨p, v, w, rfl, rfl⟩
    ·simp at hl; omega
    ·obtain ⟨s1, s2⟩ := znn hab
     refine ⟨rfl, rfl, ziy rfl fun j h1 h2 => ?_, (zct (by simp)).2 fun j h1 => ?_⟩
     ·match j, h1 with
      | 0, _ => exact s2
      | 1, _ => exact s1
     ·match j, h1 with
      | 0, _ => simp [zcm]
      | 1, _ => simp [zcm]
  ·by_cases h41 : i.1 = 41
   ·obtain ⟨op, x, y⟩ := i
    simp only at h41; subst h41
    have cls : ∀ (s : List TyD) (r : RuD), s.length ≤ 200 → qbo n m.recs m.funcs m.imps m.ints m.texts f.1 f.2.1 f.2.2.1 f.2.2.2.1 f.2.2.2.2 41 x y s = some r → (s = [] ∧ r = ([], [], false)) ∨ ∃ q t, s = q ++ [t] ∧ r = (if t.1 = 5 then ([t], [], true) else ([], [], false)) := by
     intro s r hs hr
     simp only [qbo, Int.reduceBEq, cond_false, cond_true] at hr
     by_cases h : 1 ≤ s.length
     ·obtain ⟨q, t, rfl⟩ := zbO h
      rw [List.length_append, List.length_singleton] at hs
      have hg : getI (q ++ [t]) (subI .i64 (lenI (q ++ [t])) 1) = some t := zC q [t] 1 0 (by simp; omega) rfl (by omega) (by simp)
      have hsub : subI .i64 (lenI (q ++ [t])) 1 = ((q.length : Nat) : Int) := by
       rw [zb, List.length_append, zA (by simp <;> omega) (by simp <;> omega)]; simp
      rw [hg, hsub, zb, List.length_append, List.length_singleton, decide_eq_false (by omega), decide_eq_true (by omega), decide_eq_true (by omega)] at hr
      simp only [cond_true, cond_false, Option.bind_some, Bool.and_self, Int.toNat_natCast] at hr
      rw [List.take_of_length_le (by simp), List.drop_left] at hr
      refine .inr ⟨q, t, rfl, ?_⟩
      by_cases h5 : t.1 = 5
      ·rw [show (t.1 != 5) = false from by rw [h5]; rfl] at hr
       rw [if_pos h5]; exact (Option.some.inj hr).symm
      ·rw [show (t.1 != 5) = true from bne_iff_ne.2 h5] at hr
       rw [if_neg h5]; exact (Option.some.inj hr).symm
     ·left
      have : s = [] := List.eq_nil_of_length_eq_zero (by omega)
      rw [zb, decide_eq_true (by omega)] at hr
      exact ⟨this, (Option.some.inj hr).symm⟩
    rcases cls b rb hs eb with ⟨_, rfl⟩ | ⟨q, t, rfl, rfl⟩
    ·cases hok
    ·by_cases h5 : t.1 = 5
     ·rcases cls a ra (by omega) ea with ⟨rfl, rfl⟩ | ⟨p, u, rfl, rfl⟩
      ·simp at hl
      ·have hsub := zhT hab
       have hut : u = t := by
        rcases (zkT u t).1 hsub with h | h | ⟨_, h, _⟩
        ·exact h
        ·omega
        ·rw [zlh] at h; omega
       subst hut
       rw [if_pos h5] at ht hle ⊢
       refine ⟨rfl, rfl, rfl, (zct (by simp)).2 fun j h1 => ?_⟩
       simp at h1; subst h1
       simp [zcm]
     ·rw [if_neg h5] at hok; cases hok
   ·have he := znO n m f i a b hbad h6 h7 h41
    rw [ea, eb] at he
    obtain rfl := Option.some.inj he
    exact ⟨hok, rfl, zgc _, zmb hab hle ht⟩
end Sx
end
section
/- The statement on stacks that do for one another. -/
set_option linter.unusedVariables false
set_option linter.unusedSimpArgs false
namespace Sx
open Go Go.Ab
theorem zmt (m : ModD) (ho : OkM m) (hl : LenM m) (f pc : Int) (a b : List TyD) : law08FlowBelow 10000 m.recs m.funcs m.imps m.ints m.texts f pc a b = some true := by
 unfold law08FlowBelow
 obtain ⟨x, e, hL⟩ := zbT 10000 m hl (by omega)
 rw [e, Option.bind_some, answers8, zb]
 cases x with
 | false => rfl
 | true =>
  simp only [Bool.not_true, cond_false]
  by_cases h8 : (a.length : Int) > 8
  ·rw [decide_eq_true h8]; rfl
  ·rw [decide_eq_false h8, cond_false, zbU 10000 a b (by omega) (by omega), Option.bind_some]
   cases hab : belowV a b with
   | false => rfl
   | true =>
    have hlen := (zaD hab).1
    simp only [Bool.not_true, cond_false]
    have h := loop_two (xs := a) (ys := b) (B := fun s => law08FlowBelow_B0 10000 s.1.1 s.1.2.1 s.1.2.2.1 s.1.2.2.2.1 s.1.2.2.2.2 s.2.1 s.2.2.1 s.2.2.2.1 s.2.2.2.2.1 s.2.2.2.2.2) (mk := fun (j : Nat) => ((f, (pc, (a, (b, (j : Int))))), mtup m))
     (p := fun x y => !(x.1 == 8) && (!decide (x.1 < 1) && (!decide (x.1 > 8) && (!decide (y.1 < 1) && !decide (y.1 > 8))))) (found := fun j x y => Sum.inl (true, mtup m)) (e := Sum.inr ((f, (pc, (a, b))), mtup m)) hlen (fun j x y hx hy => ?_) ?_ 10000 (by omega)
    ·have fin : ∀ (R S : FR), qcd 10000 m.recs m.funcs m.imps m.ints m.texts f pc b = some R → qcd 10000 m.recs m.funcs m.imps m.ints m.texts f pc a = some S → (R.2.2 = 0 → S.2.2 = 0 ∧ belowV S.1 R.1 = true ∧ S.2.1 = R.2.1 ∧ S.1.length ≤ 5000) →
       ((qcd 10000 m.recs m.funcs m.imps m.ints m.texts f pc b).bind fun r786 => (qcd 10000 m.recs m.funcs m.imps m.ints m.texts f pc a).bind fun r787 => bif (r786.2.2 != 0) then (some true).bind fun r788 => some r788 else (some true).bind fun r789 => bif r789 then
        bif (r787.2.2 == 0) then (qbe 10000 r787.1 r786.1).bind fun r790 => bif r790 then some ((lenI r786.2.1) == (lenI r787.2.1)) else some false else some false else some false) = some true := by
      intro R S hR hS hRS
      rw [hR, hS]
      simp only [Option.bind_some, cond_true]
      by_cases h0 : R.2.2 = 0
      ·obtain ⟨g1, g2, g3, g4⟩ := hRS h0
       rw [show (R.2.2 != 0) = false from by rw [h0]; rfl, show (S.2.2 == 0) = true from by rw [g1]; rfl, cond_false, cond_true, zbU 10000 _ _ g4 (by omega), g2, Option.bind_some, cond_true, g3]
       simp
      ·rw [show (R.2.2 != 0) = true from bne_iff_ne.2 h0, cond_true]
     rcases h with ⟨_, h2⟩ | ⟨_, _, _, _, h2⟩
     ·rw [show law08FlowBelow_W0 10000 ((f, (pc, (a, (b, 0)))), _) = _ from h2, Option.bind_some]
      show ((qcd 10000 m.recs m.funcs m.imps m.ints m.texts f pc b).bind fun r786 => _) = _
      by_cases ht : thereV m f pc
      ·obtain ⟨hc, fk, pk, fn, i, rfl, rfl, hf, hi⟩ := ht
       obtain ⟨rb, hrb, l1, l2, e1, _⟩ := zcE 10000 m ho fk pk fn i b hc hf hi (by omega) (by omega)
       obtain ⟨ra, hra, l3, l4, e2, _⟩ := zcE 10000 m ho fk pk fn i a hc hf hi (by omega) (by omega)
       refine fin _ _ e1 e2 fun h0 => ?_
       obtain ⟨k1, k2, k3, k4, k5, k6⟩ := zkL h0
       have hbad := ((zaq (zaK hc).1).2.2.2.1 fn (List.mem_of_getElem? hf)).1 i (List.mem_of_getElem? hi)
       obtain ⟨q1, q2, q3, q4⟩ := zmH 10000 m fn i a b ra rb hbad (by omega) hab hra hrb k1 k2 k4
       obtain ⟨z1, z2, z3⟩ := zmO hab h0 q1 q2 q3 q4
       exact ⟨z1, z2, z3, by have := (zfz (f := fn) (i := i) (pc := (pk : Int)) (s := a) (r := ra) (by omega) l4).1; omega⟩
      ·exact fin _ _ (zeY 10000 m ho f pc b ht (by omega)) (zeY 10000 m ho f pc a ht (by omega)) fun h => by cases h
     ·rw [show law08FlowBelow_W0 10000 ((f, (pc, (a, (b, 0)))), _) = _ from h2]; rfl
    ·have hj := zai hx
     show law08FlowBelow_B0 10000 f pc a b (j : Int) m.recs m.funcs m.imps m.ints m.texts = _
     unfold law08FlowBelow_B0
     rw [zb, decide_eq_true (by omega), cond_true, ze, hx, ze, hy, answers8, zg (by omega)]
     simp only [Option.bind_some]
     cases x.1 == 8 <;> cases decide (x.1 < 1) <;> cases decide (x.1 > 8) <;> cases decide (y.1 < 1) <;> cases decide (y.1 > 8) <;> rfl
    ·show law08FlowBelow_B0 10000 f pc a b (a.length : Int) m.recs m.funcs m.imps m.ints m.texts = _
     unfold law08FlowBelow_B0
     rw [zb, decide_eq_false (by omega), cond_false]
end Sx
end
section
/- The plain law at the row's own data. -/
set_option linter.unusedVariables false
namespace Sx
open Go Go.Ab
theorem zjT (d : MTup × Int × Int × List TyD × List TyD) (hf : FitS (.cons shM (.cons (.int .i64) (.cons (.int .i64) (.cons (.sl true true tyT) (.cons (.sl true true tyT) .nil))))) d) :
  ∃ n, law08FlowBelow n d.1.1 d.1.2.1 d.1.2.2.1 d.1.2.2.2.1 d.1.2.2.2.2 d.2.1 d.2.2.1 d.2.2.2.1 d.2.2.2.2 = some true := by
 obtain ⟨h1, _⟩ : FitS shM d.1 ∧ FitS (.cons (.int .i64) (.cons (.int .i64) (.cons (.sl true true tyT) (.cons (.sl true true tyT) .nil)))) d.2 := hf
 exact ⟨10000, zmt (modOf d.1) (zbP (d := d.1) h1).1 (zbP (d := d.1) h1).2 _ _ _ _⟩
end Sx
end
