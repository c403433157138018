/- Plain laws (texts LsTwo, FwA, FwL, FwRowL). -/
import Derived.Test.YtliamnpngkojdaaDoorLib8
import Derived.Test.YtliamnpngkojdaaDoorLib7
import Derived.Test.YtliamnpngkojdaaDoorFlSh
import Derived.KernelRfl
import Derived.Test.YtliamnpngkojdaaDoorLib31
section
/- Lists side by side. -/
set_option linter.unusedVariables false
set_option linter.unusedSimpArgs false
namespace Sx
open Go Go.Ab
theorem zai {A : Type} {xs : List A} {i : Nat} {x : A} (h : xs[i]? = some x) : i < xs.length := (List.getElem?_eq_some_iff.1 h).1
theorem loop_two {A B' X S : Type} {xs : List A} {ys : List B'} {B : S → Option (S ⊕ X)} {mk : Nat → S} {p : A → B' → Bool} {found : Nat → A → B' → X} {e : X} (hlen : xs.length = ys.length)
  (hs : ∀ i x y, xs[i]? = some x → ys[i]? = some y → B (mk i) = (if p x y = true then some (.inl (mk (i + 1))) else some (.inr (found i x y))))
  (he : B (mk xs.length) = some (.inr e)) (n : Nat) (hn : xs.length < n) :
  ((xs.zip ys).all (fun q => p q.1 q.2) = true ∧ loopS B n (mk 0) = some e) ∨ ((xs.zip ys).all (fun q => p q.1 q.2) = false ∧ ∃ i x y, loopS B n (mk 0) = some (found i x y)) := by
 have hz : (xs.zip ys).length = xs.length := by simp [hlen]
 have h := zr (xs := xs.zip ys) (B := B) (mk := mk) (p := fun q => !p q.1 q.2) (found := fun i q => found i q.1 q.2) (e := e) (fun i q hq => ?_) (by rw [hz]; exact he) xs.length 0 n (by omega) hn
 ·rw [List.drop_zero] at h
  have ha : (xs.zip ys).all (fun q => p q.1 q.2) = !(xs.zip ys).any (fun q => !p q.1 q.2) := by rw [List.all_eq_not_any_not]
  rcases h with ⟨h1, k, q, _, _, h2⟩ | ⟨h1, h2⟩
  ·exact .inr ⟨by rw [ha, h1]; rfl, k, q.1, q.2, h2⟩
  ·exact .inl ⟨by rw [ha, h1]; rfl, h2⟩
 ·have hi : i < (xs.zip ys).length := zai hq
  rw [List.getElem?_eq_getElem hi] at hq
  have hq := Option.some.inj hq
  rw [List.getElem_zip] at hq
  have hx : xs[i]? = some q.1 := by rw [← hq, List.getElem?_eq_getElem]
  have hy : ys[i]? = some q.2 := by rw [← hq, List.getElem?_eq_getElem]
  rw [hs i q.1 q.2 hx hy]
  cases p q.1 q.2 <;> rfl
def eqL {A : Type} (p : A → A → Bool) (xs ys : List A) : Bool := decide (xs.length = ys.length) && (xs.zip ys).all (fun q => p q.1 q.2)
theorem lenNe {A B : Type} (a : List A) (b : List B) : (lenI a != lenI b) = !decide (a.length = b.length) := by
 rw [zb, zb]
 by_cases h : a.length = b.length
 ·simp [h]
 ·rw [decide_eq_false h]
  show (!((a.length : Int) == (b.length : Int))) = !false
  rw [beq_eq_false_iff_ne.2 (by omega)]
theorem zle {A : Type} {p : A → A → Bool} (xs : List A) (h : ∀ x ∈ xs, p x x = true) : eqL p xs xs = true := by
 unfold eqL
 rw [decide_eq_true rfl, Bool.true_and, List.all_eq_true]
 intro q hq
 obtain ⟨i, hi, rfl⟩ := List.getElem_of_mem hq
 rw [List.getElem_zip]
 exact h _ (List.getElem_mem _)
theorem zaD {A : Type} {p : A → A → Bool} {xs ys : List A} (h : eqL p xs ys = true) : xs.length = ys.length ∧ ∀ i (h1 : i < xs.length) (h2 : i < ys.length), p xs[i] ys[i] = true := by
 unfold eqL at h
 rw [Bool.and_eq_true, decide_eq_true_eq, List.all_eq_true] at h
 refine ⟨h.1, fun i h1 h2 => ?_⟩
 have := h.2 (xs[i], ys[i]) (by
  have hz : i < (xs.zip ys).length := by simp; omega
  have : (xs.zip ys)[i] = (xs[i], ys[i]) := by rw [List.getElem_zip]
  rw [← this]; exact List.getElem_mem hz)
 exact this
theorem ziy {A : Type} {p : A → A → Bool} {xs ys : List A} (hl : xs.length = ys.length) (h : ∀ i (h1 : i < xs.length) (h2 : i < ys.length), p xs[i] ys[i] = true) : eqL p xs ys = true := by
 unfold eqL
 rw [Bool.and_eq_true, decide_eq_true_eq, List.all_eq_true]
 refine ⟨hl, fun q hq => ?_⟩
 obtain ⟨i, hi, rfl⟩ := List.getElem_of_mem hq
 rw [List.getElem_zip]
 simp at hi
 exact h i (by omega) (by omega)
end Sx
end
section
/- Which types do for one another; stacks; locals. -/
set_option linter.unusedVariables false
set_option linter.unusedSimpArgs false
namespace Sx
open Go Go.Ab
def refV (t : Int × Int) : Bool := t.1 == 2 || (t.1 == 3 || (t.1 == 4 || (t.1 == 6 || t.1 == 7)))
def subV (a b : Int × Int) : Bool := (a.1 == b.1 && a.2 == b.2) || (b.1 == 8 || (refV a && (refV b && (a.1 == 6 || b.1 == 7))))
theorem qcq_eq (n : Nat) (t : Int × Int) : qcq n t.1 t.2 = some (refV t) := by
 unfold qcq refV
 cases t.1 == 2 <;> cases t.1 == 3 <;> cases t.1 == 4 <;> cases t.1 == 6 <;> cases t.1 == 7 <;> rfl
theorem ziT (n : Nat) (t : Int × Int) : qca n t.1 t.2 = some (refV t) := by
 unfold qca refV
 cases t.1 == 2 <;> cases t.1 == 3 <;> cases t.1 == 4 <;> cases t.1 == 6 <;> cases t.1 == 7 <;> rfl
theorem qcp_eq (n : Nat) (a b : Int × Int) : qcp n a.1 a.2 b.1 b.2 = some (subV a b) := by
 unfold qcp subV
 rw [qcq_eq n a, qcq_eq n b]
 simp only [Option.bind_some]
 cases (a.1 == b.1 && a.2 == b.2) <;> cases b.1 == 8 <;> cases refV a <;> cases refV b <;> cases a.1 == 6 <;> rfl
theorem zjk (n : Nat) (a b : Int × Int) : qch n a.1 a.2 b.1 b.2 = some (subV a b) := by
 unfold qch subV
 rw [ziT n a, ziT n b]
 simp only [Option.bind_some]
 cases (a.1 == b.1 && a.2 == b.2) <;> cases b.1 == 8 <;> cases refV a <;> cases refV b <;> cases a.1 == 6 <;> rfl
theorem zcm (a : Int × Int) : subV a a = true := by simp [subV]
theorem zkT (a b : Int × Int) : subV a b = true ↔ a = b ∨ b.1 = 8 ∨ (refV a = true ∧ refV b = true ∧ (a.1 = 6 ∨ b.1 = 7)) := by
 unfold subV
 simp only [Bool.or_eq_true, Bool.and_eq_true, beq_iff_eq]
 have : (a.1 = b.1 ∧ a.2 = b.2) ↔ a = b := by
  constructor
  ·intro h; exact Prod.ext h.1 h.2
  ·rintro rfl; exact ⟨rfl, rfl⟩
 rw [this]
theorem zlh (t : Int × Int) : refV t = true ↔ t.1 = 2 ∨ t.1 = 3 ∨ t.1 = 4 ∨ t.1 = 6 ∨ t.1 = 7 := by simp [refV]
theorem ziq {a b c : Int × Int} (h : subV a b = true) (h' : subV b c = true) : subV a c = true := by
 rw [zkT] at h h' ⊢
 rcases h' with rfl | h' | ⟨h1, h2, h3⟩
 ·exact h
 ·exact .inr (.inl h')
 ·rcases h with rfl | h | ⟨g1, g2, g3⟩
  ·exact .inr (.inr ⟨h1, h2, h3⟩)
  ·rw [zlh] at h1; omega
  ·refine .inr (.inr ⟨g1, h2, ?_⟩)
   rcases h3 with h3 | h3
   ·left; omega
   ·exact .inr h3
def belowV (a b : List (Int × Int)) : Bool := eqL subV a b
theorem zgc (a : List (Int × Int)) : belowV a a = true := zle a fun x _ => zcm x
theorem zkj {a b c : List (Int × Int)} (h : belowV a b = true) (h' : belowV b c = true) : belowV a c = true := by
 obtain ⟨l1, e1⟩ := zaD h
 obtain ⟨l2, e2⟩ := zaD h'
 exact ziy (by omega) fun i h1 h2 => ziq (e1 i h1 (by omega)) (e2 i (by omega) h2)
theorem zaB (n : Nat) (a b : List (Int × Int)) (ha : a.length ≤ 5000) (hn : 6000 ≤ n) : judgeBelow n a b = some (belowV a b) := by
 unfold judgeBelow qaa belowV eqL
 rw [lenNe]
 by_cases hl : a.length = b.length
 ·rw [decide_eq_true hl, Bool.not_true, cond_false, Bool.true_and]
  have h := loop_two (B := fun s => qaa_B0 n s.1 s.2.1 s.2.2.1 s.2.2.2) (mk := fun (i : Nat) => (b, (a, (lenI a, (i : Int))))) (p := subV) (found := fun i x y => Sum.inl (false, (x, y))) (e := Sum.inr ()) hl (fun i x y hx hy => ?_) ?_ n (by omega)
  ·rcases h with ⟨h1, h2⟩ | ⟨h1, i, x, y, h2⟩
   ·rw [show qaa_W0 n (b, (a, (lenI a, 0))) = _ from h2, h1]; rfl
   ·rw [show qaa_W0 n (b, (a, (lenI a, 0))) = _ from h2, h1]; rfl
  ·have hi := zai hx
   show qaa_B0 n b a (lenI a) (i : Int) = _
   unfold qaa_B0
   rw [zb, decide_eq_true (by omega), cond_true, ze, hx, Option.bind_some, ze, hy, Option.bind_some, qcp_eq n x y, Option.bind_some, zg (by omega)]
   cases subV x y <;> rfl
  ·show qaa_B0 n b a (lenI a) (a.length : Int) = _
   unfold qaa_B0
   rw [zb, decide_eq_false (by omega), cond_false]
 ·rw [decide_eq_false hl]; rfl
theorem zbU (n : Nat) (a b : List (Int × Int)) (ha : a.length ≤ 5000) (hn : 6000 ≤ n) : qbe n a b = some (belowV a b) := by
 unfold qbe belowV eqL
 rw [lenNe]
 by_cases hl : a.length = b.length
 ·rw [decide_eq_true hl, Bool.not_true, cond_false, Bool.true_and]
  have h := loop_two (B := fun s => qbe_B0 n s.1 s.2.1 s.2.2) (mk := fun (i : Nat) => (a, (b, (i : Int)))) (p := subV) (found := fun i x y => Sum.inl false) (e := Sum.inr ()) hl (fun i x y hx hy => ?_) ?_ n (by omega)
  ·rcases h with ⟨h1, h2⟩ | ⟨h1, i, x, y, h2⟩
   ·rw [show qbe_W0 n (a, (b, 0)) = _ from h2, h1]; rfl
   ·rw [show qbe_W0 n (a, (b, 0)) = _ from h2, h1]; rfl
  ·have hi := zai hx
   show qbe_B0 n a b (i : Int) = _
   unfold qbe_B0
   rw [zb, decide_eq_true (by omega), cond_true, ze, hx, Option.bind_some, ze, hy, Option.bind_some, zjk n x y, Option.bind_some, zg (by omega)]
   cases subV x y <;> rfl
  ·show qbe_B0 n a b (a.length : Int) = _
   unfold qbe_B0
   rw [zb, decide_eq_false (by omega), cond_false]
 ·rw [decide_eq_false hl]; rfl
def localV (a l : List (Int × Int)) (k : Int) : Int × Int := if 0 ≤ k ∧ k < (a.length + l.length : Int) then (a ++ l).getD k.toNat (8, 0) else (8, 0)
theorem qbj_eq (n : Nat) (a : List (Int × Int)) (r0 r1 : Int) (l : List (Int × Int)) (c : List (Int × Int × Int)) (k : Int) (hl : a.length + l.length ≤ 4294967296) : qbj n a r0 r1 l c k = some (localV a l k) := by
 unfold qbj localV
 rw [zb, zb, zaf (by omega) (by omega)]
 by_cases h0 : k ≥ 0
 ·rw [decide_eq_true h0]
  simp only [cond_true]
  obtain ⟨j, rfl⟩ : ∃ j : Nat, k = (j : Int) := ⟨k.toNat, by omega⟩
  by_cases h1 : (j : Int) < (a.length : Int)
  ·have hj : j < a.length := by omega
   rw [decide_eq_true h1, cond_true, ze, if_pos (by omega), Int.toNat_natCast, List.getElem?_eq_getElem hj, Option.bind_some, List.getD_eq_getElem?_getD, List.getElem?_append_left hj, List.getElem?_eq_getElem hj]
   rfl
  ·rw [decide_eq_false h1, cond_false]
   by_cases h2 : (j : Int) < (a.length : Int) + (l.length : Int)
   ·have hj : j - a.length < l.length := by omega
    rw [decide_eq_true h2, cond_true, if_pos (by omega), zA (by omega) (by omega)]
    have : (j : Int) - (a.length : Int) = ((j - a.length : Nat) : Int) := by omega
    rw [this, ze, List.getElem?_eq_getElem hj, Option.bind_some, Int.toNat_natCast, List.getD_eq_getElem?_getD, List.getElem?_append_right (by omega), List.getElem?_eq_getElem hj]
    rfl
   ·rw [decide_eq_false h2, cond_false, if_neg (by omega)]
 ·rw [decide_eq_false h0]
  simp only [cond_false]
  rw [if_neg (by omega)]
theorem zbK (n : Nat) (a : List (Int × Int)) (r0 r1 : Int) (l : List (Int × Int)) (c : List (Int × Int × Int)) (k : Int) (hl : a.length + l.length ≤ 4294967296) : qbc n a r0 r1 l c k = some (localV a l k) := by
 unfold qbc localV
 rw [zo (by omega), cond_true, zo (by rw [List.length_append]; omega), cond_true, zb, List.length_append]
 by_cases h0 : k < 0
 ·rw [decide_eq_true h0, cond_true, if_neg (by omega)]
 ·rw [decide_eq_false h0, cond_false]
  obtain ⟨j, rfl⟩ : ∃ j : Nat, k = (j : Int) := ⟨k.toNat, by omega⟩
  by_cases h1 : (j : Int) ≥ ((a.length + l.length : Nat) : Int)
  ·rw [decide_eq_true h1, cond_true, if_neg (by omega)]
  ·have hj : j < (a ++ l).length := by rw [List.length_append]; omega
   rw [decide_eq_false h1, cond_false, decide_eq_true (by omega : (0 : Int) ≤ (j : Int)), decide_eq_true (by omega : (j : Int) < ((a.length + l.length : Nat) : Int)), Bool.and_self, cond_true, if_pos (by omega), Int.toNat_natCast, List.getElem?_eq_getElem hj,
    Option.bind_some, List.getD_eq_getElem?_getD, List.getElem?_eq_getElem hj]
   rfl
end Sx
end
section
/- The statements on locals, on stacks that do for one another, on a type that nobody uses again. -/
set_option linter.unusedVariables false
set_option linter.unusedSimpArgs false
set_option maxRecDepth 100000
namespace Sx
open Go Go.Ab
theorem answers8 : qaf 10000 = some true := by kernel_rfl
theorem answers10 : qah 10000 = some true := by kernel_rfl
theorem zlk (a b c : List (Int × Int)) : law10JudgeBelow 10000 a b c = some true := by
 unfold law10JudgeBelow
 rw [answers10, zb, zb, zb]
 by_cases h1 : (a.length : Int) > 50
 ·rw [decide_eq_true h1]; rfl
 ·rw [decide_eq_false h1, cond_false]
  by_cases h2 : (b.length : Int) > 50
  ·rw [decide_eq_true h2]; rfl
  ·rw [decide_eq_false h2, cond_false]
   by_cases h3 : (c.length : Int) > 50
   ·rw [decide_eq_true h3]; rfl
   ·rw [decide_eq_false h3, cond_false, zaB _ a b (by omega) (by omega), zbU _ a b (by omega) (by omega), zaB _ a a (by omega) (by omega), zaB _ b c (by omega) (by omega), zaB _ a c (by omega) (by omega), zgc]
    cases h4 : belowV a b with
    | false => rfl
    | true =>
     cases h5 : belowV b c with
     | false => rfl
     | true => rw [zkj h4 h5]; rfl
theorem zaU (n : Nat) (a b : Int) (h : remI a 6 = remI b 6) : law10JudgeWider n a = law10JudgeWider n b := by
 unfold law10JudgeWider
 rw [h]
theorem wider0 : law10JudgeWider 10000 0 = some true := by kernel_rfl
theorem wider1 : law10JudgeWider 10000 1 = some true := by kernel_rfl
theorem wider2 : law10JudgeWider 10000 2 = some true := by kernel_rfl
theorem wider3 : law10JudgeWider 10000 3 = some true := by kernel_rfl
theorem wider4 : law10JudgeWider 10000 4 = some true := by kernel_rfl
theorem wider5 : law10JudgeWider 10000 5 = some true := by kernel_rfl
theorem zkD (a : Int) (ha : 0 ≤ a ∧ a ≤ 255) : law10JudgeWider 10000 a = some true := by
 have hr : remI a 6 = a % 6 := zde ha.1
 have : a % 6 = 0 ∨ a % 6 = 1 ∨ a % 6 = 2 ∨ a % 6 = 3 ∨ a % 6 = 4 ∨ a % 6 = 5 := by omega
 rcases this with h | h | h | h | h | h
 ·rw [zaU 10000 a 0 (by rw [hr, h]; rfl)]; exact wider0
 ·rw [zaU 10000 a 1 (by rw [hr, h]; rfl)]; exact wider1
 ·rw [zaU 10000 a 2 (by rw [hr, h]; rfl)]; exact wider2
 ·rw [zaU 10000 a 3 (by rw [hr, h]; rfl)]; exact wider3
 ·rw [zaU 10000 a 4 (by rw [hr, h]; rfl)]; exact wider4
 ·rw [zaU 10000 a 5 (by rw [hr, h]; rfl)]; exact wider5
end Sx
end
section
/- The plain laws at the rows' own data. -/
set_option linter.unusedVariables false
namespace Sx
open Go Go.Ab
abbrev tyT : Ty := .cons (.int .i64) (.int .i64)
abbrev inT : Ty := .cons (.int .i64) (.cons (.int .i64) (.int .i64))
theorem zks (d : List (Int × Int) × List (Int × Int) × List (Int × Int)) (hf : FitS (.cons (.sl true true tyT) (.cons (.sl true true tyT) (.cons (.sl true true tyT) .nil))) d) : ∃ n, law10JudgeBelow n d.1 d.2.1 d.2.2 = some true :=
 ⟨10000, zlk _ _ _⟩
theorem zlz (d : Int) (hf : FitS (.cons (.int .u8) .nil) d) : ∃ n, law10JudgeWider n d = some true := by
 obtain ⟨h, _⟩ : Fit (.int .u8) d ∧ True := hf
 exact ⟨10000, zkD d (zpn h)⟩
end Sx
end
