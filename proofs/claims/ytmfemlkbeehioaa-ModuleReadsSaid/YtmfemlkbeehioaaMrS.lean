/- Which modules are the same: both answers in plain words. -/
import Derived.Test.YtmfemlkbeehioaaMrHa
import Derived.KernelRfl
set_option linter.unusedVariables false
set_option linter.unusedSimpArgs false
namespace Sx
open Go Go.Ab
theorem loop_two {A X S : Type} {xs ys : List A} {B : S → Option (S ⊕ X)} {mk : Nat → S} {p : A → A → Bool} {found : Nat → A → A → X} {e : X} (hlen : xs.length = ys.length)
    (hs : ∀ i x y, xs[i]? = some x → ys[i]? = some y → B (mk i) = (if p x y = true then some (.inl (mk (i + 1))) else some (.inr (found i x y))))
    (he : B (mk xs.length) = some (.inr e)) (n : Nat) (hn : xs.length < n) :
    ((xs.zip ys).all (fun q => p q.1 q.2) = true ∧ loopS B n (mk 0) = some e) ∨ ((xs.zip ys).all (fun q => p q.1 q.2) = false ∧ ∃ i x y, loopS B n (mk 0) = some (found i x y)) := by
  have hz : (xs.zip ys).length = xs.length := by simp [hlen]
  have h := loop_search (xs := xs.zip ys) (B := B) (mk := mk) (p := fun q => !p q.1 q.2) (found := fun i q => found i q.1 q.2) (e := e) (fun i q hq => ?_) (by rw [hz]; exact he) xs.length 0 n (by omega) hn
  · rw [List.drop_zero] at h
    have ha : (xs.zip ys).all (fun q => p q.1 q.2) = !(xs.zip ys).any (fun q => !p q.1 q.2) := by rw [any_not]
    rcases h with ⟨h1, k, q, _, _, h2⟩ | ⟨h1, h2⟩
    · exact .inr ⟨by rw [ha, h1]; rfl, k, q.1, q.2, h2⟩
    · exact .inl ⟨by rw [ha, h1]; rfl, h2⟩
  · have hi : i < (xs.zip ys).length := lt_of_get hq
    have hx : xs[i]? = some q.1 := by
      rw [List.getElem?_eq_getElem hi] at hq
      have := Option.some.inj hq
      rw [List.getElem_zip] at this
      rw [← this, List.getElem?_eq_getElem]
    have hy : ys[i]? = some q.2 := by
      rw [List.getElem?_eq_getElem hi] at hq
      have := Option.some.inj hq
      rw [List.getElem_zip] at this
      rw [← this, List.getElem?_eq_getElem]
    rw [hs i q.1 q.2 hx hy]
    cases p q.1 q.2 <;> rfl
def eqL {A : Type} (p : A → A → Bool) (xs ys : List A) : Bool := decide (xs.length = ys.length) && (xs.zip ys).all (fun q => p q.1 q.2)
theorem lenNe {A B : Type} (a : List A) (b : List B) : (lenI a != lenI b) = !decide (a.length = b.length) := by
  rw [lenI_eq, lenI_eq]
  by_cases h : a.length = b.length
  · simp [h]
  · rw [decide_eq_false h]
    show (!((a.length : Int) == (b.length : Int))) = !false
    rw [beq_eq_false_iff_ne.2 (by omega)]
theorem eqL_refl {A : Type} {p : A → A → Bool} (xs : List A) (h : ∀ x ∈ xs, p x x = true) : eqL p xs xs = true := by
  unfold eqL
  rw [decide_eq_true rfl, Bool.true_and, List.all_eq_true]
  intro q hq
  obtain ⟨i, hi, rfl⟩ := List.getElem_of_mem hq
  rw [List.getElem_zip]
  exact h _ (List.getElem_mem _)
def eqT (x y : TyD) : Bool := (x.1 == y.1) && (x.2 == y.2)
def eqI (x y : InD) : Bool := (x.1 == y.1) && ((x.2.1 == y.2.1) && (x.2.2 == y.2.2))
def eqN (x y : Int) : Bool := x == y
theorem qbe_eq (n : Nat) (a b : List TyD) (ha : a.length ≤ 5000) (hn : 6000 ≤ n) : qbe n a b = some (eqL eqT a b) := by
  unfold qbe eqL
  rw [lenNe]
  by_cases hl : a.length = b.length
  · rw [decide_eq_true hl, Bool.not_true, cond_false, Bool.true_and]
    have h := loop_two (B := fun s => qbe_B0 n s.1 s.2.1 s.2.2) (mk := fun (i : Nat) => (a, (b, (i : Int)))) (p := eqT) (found := fun i x y => Sum.inl false) (e := Sum.inr ()) hl (fun i x y hx hy => ?_) ?_ n (by omega)
    · rcases h with ⟨h1, h2⟩ | ⟨h1, i, x, y, h2⟩
      · rw [show qbe_W0 n (a, (b, 0)) = _ from h2, h1]; rfl
      · rw [show qbe_W0 n (a, (b, 0)) = _ from h2, h1]; rfl
    · have hi := lt_of_get hx
      show qbe_B0 n a b (i : Int) = _
      unfold qbe_B0
      rw [lenI_eq, decide_eq_true (by omega), cond_true, getI_nat, hx, Option.bind_some, getI_nat, hy, Option.bind_some, next_i64 (by omega)]
      show (bif !eqT x y then _ else _) = _
      cases eqT x y <;> rfl
    · show qbe_B0 n a b (a.length : Int) = _
      unfold qbe_B0
      rw [lenI_eq, decide_eq_false (by omega), cond_false]
  · rw [decide_eq_false hl]; rfl
def eqTs (x y : List TyD) : Bool := eqL eqT x y
def eqF (x y : FnD) : Bool := ((x.2.1 == y.2.1) && (x.2.2.1 == y.2.2.1)) && (eqL eqT x.1 y.1 && (eqL eqT x.2.2.2.1 y.2.2.2.1 && eqL eqI x.2.2.2.2 y.2.2.2.2))
def eqM (x y : ImD) : Bool := ((x.2.1 == y.2.1) && (x.2.2 == y.2.2)) && eqL eqT x.1 y.1
def sameV (a b : ModD) : Bool := eqL eqTs a.recs b.recs && (eqL eqF a.funcs b.funcs && (eqL eqM a.imps b.imps && (eqL eqN a.ints b.ints && eqL eqS a.texts b.texts)))
theorem refSame0 (n : Nat) (a b : ModD) (hl : a.recs.length = b.recs.length) (hL : LightM a) (hn : 6000 ≤ n) :
    ((a.recs.zip b.recs).all (fun q => eqTs q.1 q.2) = true ∧ qv_W0 n (0, (mtup a, mtup b)) = some (Sum.inr (mtup a, mtup b))) ∨
    ((a.recs.zip b.recs).all (fun q => eqTs q.1 q.2) = false ∧ ∃ (i : Nat) (x y : List TyD), qv_W0 n (0, (mtup a, mtup b)) = some (Sum.inl (false, (mtup a, mtup b)))) := by
  have l1 := hL.n1
  refine loop_two (B := fun s => qv_B0 n s.1 s.2.1.1 s.2.1.2.1 s.2.1.2.2.1 s.2.1.2.2.2.1 s.2.1.2.2.2.2 s.2.2.1 s.2.2.2.1 s.2.2.2.2.1 s.2.2.2.2.2.1 s.2.2.2.2.2.2) (mk := fun (i : Nat) => ((i : Int), (mtup a, mtup b))) (p := eqTs) (found := fun i x y => Sum.inl (false, (mtup a, mtup b))) (e := Sum.inr (mtup a, mtup b)) hl (fun i x y hx hy => ?_) ?_ n (by omega)
  · have hi := lt_of_get hx
    have h3 := hL.recs x (List.mem_of_getElem? hx)
    show qv_B0 n (i : Int) a.recs a.funcs a.imps a.ints a.texts b.recs b.funcs b.imps b.ints b.texts = _
    unfold qv_B0
    rw [lenI_eq, decide_eq_true (by omega), cond_true, getI_nat, hx, Option.bind_some, getI_nat, hy, Option.bind_some, qbe_eq n x y (by omega) hn, Option.bind_some, next_i64 (by omega)]
    show (bif !eqTs x y then _ else _) = _
    cases eqTs x y <;> rfl
  · show qv_B0 n (a.recs.length : Int) a.recs a.funcs a.imps a.ints a.texts b.recs b.funcs b.imps b.ints b.texts = _
    unfold qv_B0
    rw [lenI_eq, decide_eq_false (by omega), cond_false]
theorem refSame4 (n : Nat) (a b : ModD) (t6 : Int) (x y : FnD) (hl : x.2.2.2.2.length = y.2.2.2.2.length) (h3 : x.2.2.2.2.length ≤ 5000) (hn : 6000 ≤ n) :
    ((x.2.2.2.2.zip y.2.2.2.2).all (fun q => eqI q.1 q.2) = true ∧ qv_W4 n ((t6, 0), (mtup a, (mtup b, (x, y)))) = some (Sum.inr (t6, (mtup a, (mtup b, (x, y)))))) ∨
    ((x.2.2.2.2.zip y.2.2.2.2).all (fun q => eqI q.1 q.2) = false ∧ ∃ (i : Nat) (x' y' : InD), qv_W4 n ((t6, 0), (mtup a, (mtup b, (x, y)))) = some (Sum.inl (false, (mtup a, (mtup b, (x, y)))))) := by
  refine loop_two (B := fun s => qv_B4 n s.1.1 s.1.2 s.2.1.1 s.2.1.2.1 s.2.1.2.2.1 s.2.1.2.2.2.1 s.2.1.2.2.2.2 s.2.2.1.1 s.2.2.1.2.1 s.2.2.1.2.2.1 s.2.2.1.2.2.2.1 s.2.2.1.2.2.2.2 s.2.2.2.1.1 s.2.2.2.1.2.1 s.2.2.2.1.2.2.1 s.2.2.2.1.2.2.2.1 s.2.2.2.1.2.2.2.2 s.2.2.2.2.1 s.2.2.2.2.2.1 s.2.2.2.2.2.2.1 s.2.2.2.2.2.2.2.1 s.2.2.2.2.2.2.2.2) (mk := fun (i : Nat) => ((t6, (i : Int)), (mtup a, (mtup b, (x, y))))) (p := eqI) (found := fun i x' y' => Sum.inl (false, (mtup a, (mtup b, (x, y))))) (e := Sum.inr (t6, (mtup a, (mtup b, (x, y))))) hl (fun i x' y' hx hy => ?_) ?_ n (by omega)
  · have hi := lt_of_get hx
    show qv_B4 n t6 (i : Int) a.recs a.funcs a.imps a.ints a.texts b.recs b.funcs b.imps b.ints b.texts x.1 x.2.1 x.2.2.1 x.2.2.2.1 x.2.2.2.2 y.1 y.2.1 y.2.2.1 y.2.2.2.1 y.2.2.2.2 = _
    unfold qv_B4
    rw [lenI_eq, decide_eq_true (by omega), cond_true, getI_nat, hx, Option.bind_some, getI_nat, hy, Option.bind_some, next_i64 (by omega)]
    show (bif !eqI x' y' then _ else _) = _
    cases eqI x' y' <;> rfl
  · show qv_B4 n t6 (x.2.2.2.2.length : Int) a.recs a.funcs a.imps a.ints a.texts b.recs b.funcs b.imps b.ints b.texts x.1 x.2.1 x.2.2.1 x.2.2.2.1 x.2.2.2.2 y.1 y.2.1 y.2.2.1 y.2.2.2.1 y.2.2.2.2 = _
    unfold qv_B4
    rw [lenI_eq, decide_eq_false (by omega), cond_false]
def eqFr (x y : FnD) : Bool := eqL eqT x.1 y.1 && (((x.2.1 == y.2.1) && (x.2.2.1 == y.2.2.1)) && (eqL eqT x.2.2.2.1 y.2.2.2.1 && eqL eqI x.2.2.2.2 y.2.2.2.2))
theorem eqFr_eq : eqFr = eqF := by
  funext x y
  unfold eqFr eqF
  cases eqL eqT x.1 y.1 <;> cases ((x.2.1 == y.2.1) && (x.2.2.1 == y.2.2.1)) <;> rfl
def eqMr (x y : ImD) : Bool := eqL eqT x.1 y.1 && ((x.2.1 == y.2.1) && (x.2.2 == y.2.2))
theorem eqMr_eq : eqMr = eqM := by
  funext x y
  unfold eqMr eqM
  cases eqL eqT x.1 y.1 <;> cases ((x.2.1 == y.2.1) && (x.2.2 == y.2.2)) <;> rfl
theorem refSame2 (n : Nat) (a b : ModD) (hl : a.funcs.length = b.funcs.length) (hL : LightM a) (hn : 6000 ≤ n) :
    ((a.funcs.zip b.funcs).all (fun q => eqFr q.1 q.2) = true ∧ qv_W2 n (0, (mtup a, mtup b)) = some (Sum.inr (mtup a, mtup b))) ∨
    ((a.funcs.zip b.funcs).all (fun q => eqFr q.1 q.2) = false ∧ ∃ (i : Nat) (x y : FnD), qv_W2 n (0, (mtup a, mtup b)) = some (Sum.inl (false, (mtup a, (mtup b, (x, y)))))) := by
  have l2 := hL.n2
  refine loop_two (B := fun s => qv_B2 n s.1 s.2.1.1 s.2.1.2.1 s.2.1.2.2.1 s.2.1.2.2.2.1 s.2.1.2.2.2.2 s.2.2.1 s.2.2.2.1 s.2.2.2.2.1 s.2.2.2.2.2.1 s.2.2.2.2.2.2) (mk := fun (i : Nat) => ((i : Int), (mtup a, mtup b))) (p := eqFr) (found := fun i x y => Sum.inl (false, (mtup a, (mtup b, (x, y))))) (e := Sum.inr (mtup a, mtup b)) hl (fun i x y hx hy => ?_) ?_ n (by omega)
  · have hi := lt_of_get hx
    show qv_B2 n (i : Int) a.recs a.funcs a.imps a.ints a.texts b.recs b.funcs b.imps b.ints b.texts = _
    unfold qv_B2
    rw [lenI_eq, decide_eq_true (by omega), cond_true, getI_nat, hx, Option.bind_some, getI_nat, hy, Option.bind_some]
    have h3 := hL.funcs x (List.mem_of_getElem? hx)
    rw [qbe_eq n x.1 y.1 (by omega) hn, Option.bind_some, qbe_eq n x.2.2.2.1 y.2.2.2.1 (by omega) hn, Option.bind_some, lenNe]
    unfold eqFr
    cases h1 : eqL eqT x.1 y.1 with
    | false => rfl
    | true =>
    cases h2 : ((x.2.1 == y.2.1) && (x.2.2.1 == y.2.2.1)) with
    | false => rfl
    | true =>
    cases h4 : eqL eqT x.2.2.2.1 y.2.2.2.1 with
    | false => rfl
    | true =>
    by_cases h5 : x.2.2.2.2.length = y.2.2.2.2.length
    · rw [decide_eq_true h5]
      unfold eqL
      rw [decide_eq_true h5]
      rcases refSame4 n a b (i : Int) x y h5 (by omega) hn with ⟨h6, h7⟩ | ⟨h6, _, _, _, h7⟩
      · rw [h6]
        simp only [Bool.not_true, cond_false, Bool.true_and, if_true]
        show ((qv_W4 n (((i : Int), 0), (mtup a, (mtup b, (x, y))))).bind _) = _
        rw [h7]
        show some (Sum.inl (addI .i64 (i : Int) 1, (mtup a, mtup b))) = _
        rw [next_i64 (by omega)]
      · rw [h6]
        simp only [Bool.not_true, cond_false, Bool.true_and]
        show ((qv_W4 n (((i : Int), 0), (mtup a, (mtup b, (x, y))))).bind _) = _
        rw [h7]
        rfl
    · rw [decide_eq_false h5]
      unfold eqL
      rw [decide_eq_false h5]
      rfl
  · show qv_B2 n (a.funcs.length : Int) a.recs a.funcs a.imps a.ints a.texts b.recs b.funcs b.imps b.ints b.texts = _
    unfold qv_B2
    rw [lenI_eq, decide_eq_false (by omega), cond_false]
theorem refSame6 (n : Nat) (a b : ModD) (hl : a.imps.length = b.imps.length) (hL : LightM a) (hn : 6000 ≤ n) :
    ((a.imps.zip b.imps).all (fun q => eqMr q.1 q.2) = true ∧ qv_W6 n (0, (mtup a, mtup b)) = some (Sum.inr (mtup a, mtup b))) ∨
    ((a.imps.zip b.imps).all (fun q => eqMr q.1 q.2) = false ∧ ∃ (i : Nat) (x y : ImD), qv_W6 n (0, (mtup a, mtup b)) = some (Sum.inl (false, (mtup a, mtup b)))) := by
  have l3 := hL.n3
  refine loop_two (B := fun s => qv_B6 n s.1 s.2.1.1 s.2.1.2.1 s.2.1.2.2.1 s.2.1.2.2.2.1 s.2.1.2.2.2.2 s.2.2.1 s.2.2.2.1 s.2.2.2.2.1 s.2.2.2.2.2.1 s.2.2.2.2.2.2) (mk := fun (i : Nat) => ((i : Int), (mtup a, mtup b))) (p := eqMr) (found := fun i x y => Sum.inl (false, (mtup a, mtup b))) (e := Sum.inr (mtup a, mtup b)) hl (fun i x y hx hy => ?_) ?_ n (by omega)
  · have hi := lt_of_get hx
    show qv_B6 n (i : Int) a.recs a.funcs a.imps a.ints a.texts b.recs b.funcs b.imps b.ints b.texts = _
    unfold qv_B6
    rw [lenI_eq, decide_eq_true (by omega), cond_true, getI_nat, hx, Option.bind_some, getI_nat, hy, Option.bind_some]
    have h3 := hL.imps x (List.mem_of_getElem? hx)
    rw [qbe_eq n x.1 y.1 (by omega) hn, Option.bind_some, Option.bind_some, Option.bind_some, next_i64 (by omega)]
    unfold eqMr
    cases eqL eqT x.1 y.1 <;> cases ((x.2.1 == y.2.1) && (x.2.2 == y.2.2)) <;> rfl
  · show qv_B6 n (a.imps.length : Int) a.recs a.funcs a.imps a.ints a.texts b.recs b.funcs b.imps b.ints b.texts = _
    unfold qv_B6
    rw [lenI_eq, decide_eq_false (by omega), cond_false]
theorem refSame8 (n : Nat) (a b : ModD) (hl : a.ints.length = b.ints.length) (hL : LightM a) (hn : 6000 ≤ n) :
    ((a.ints.zip b.ints).all (fun q => eqN q.1 q.2) = true ∧ qv_W8 n (0, (mtup a, mtup b)) = some (Sum.inr (mtup a, mtup b))) ∨
    ((a.ints.zip b.ints).all (fun q => eqN q.1 q.2) = false ∧ ∃ (i : Nat) (x y : Int), qv_W8 n (0, (mtup a, mtup b)) = some (Sum.inl (false, (mtup a, mtup b)))) := by
  have l4 := hL.n4
  refine loop_two (B := fun s => qv_B8 n s.1 s.2.1.1 s.2.1.2.1 s.2.1.2.2.1 s.2.1.2.2.2.1 s.2.1.2.2.2.2 s.2.2.1 s.2.2.2.1 s.2.2.2.2.1 s.2.2.2.2.2.1 s.2.2.2.2.2.2) (mk := fun (i : Nat) => ((i : Int), (mtup a, mtup b))) (p := eqN) (found := fun i x y => Sum.inl (false, (mtup a, mtup b))) (e := Sum.inr (mtup a, mtup b)) hl (fun i x y hx hy => ?_) ?_ n (by omega)
  · have hi := lt_of_get hx
    show qv_B8 n (i : Int) a.recs a.funcs a.imps a.ints a.texts b.recs b.funcs b.imps b.ints b.texts = _
    unfold qv_B8
    rw [lenI_eq, decide_eq_true (by omega), cond_true, getI_nat, hx, Option.bind_some, getI_nat, hy, Option.bind_some]
    rw [next_i64 (by omega)]
    show (bif !eqN x y then _ else _) = _
    cases eqN x y <;> rfl
  · show qv_B8 n (a.ints.length : Int) a.recs a.funcs a.imps a.ints a.texts b.recs b.funcs b.imps b.ints b.texts = _
    unfold qv_B8
    rw [lenI_eq, decide_eq_false (by omega), cond_false]
theorem refSame10 (n : Nat) (a b : ModD) (hl : a.texts.length = b.texts.length) (hL : LightM a) (hn : 6000 ≤ n) :
    ((a.texts.zip b.texts).all (fun q => eqS q.1 q.2) = true ∧ qv_W10 n (0, (mtup a, mtup b)) = some (Sum.inr (mtup a, mtup b))) ∨
    ((a.texts.zip b.texts).all (fun q => eqS q.1 q.2) = false ∧ ∃ (i : Nat) (x y : ByteArray), qv_W10 n (0, (mtup a, mtup b)) = some (Sum.inl (false, (mtup a, mtup b)))) := by
  have l5 := hL.n5
  refine loop_two (B := fun s => qv_B10 n s.1 s.2.1.1 s.2.1.2.1 s.2.1.2.2.1 s.2.1.2.2.2.1 s.2.1.2.2.2.2 s.2.2.1 s.2.2.2.1 s.2.2.2.2.1 s.2.2.2.2.2.1 s.2.2.2.2.2.2) (mk := fun (i : Nat) => ((i : Int), (mtup a, mtup b))) (p := eqS) (found := fun i x y => Sum.inl (false, (mtup a, mtup b))) (e := Sum.inr (mtup a, mtup b)) hl (fun i x y hx hy => ?_) ?_ n (by omega)
  · have hi := lt_of_get hx
    show qv_B10 n (i : Int) a.recs a.funcs a.imps a.ints a.texts b.recs b.funcs b.imps b.ints b.texts = _
    unfold qv_B10
    rw [lenI_eq, decide_eq_true (by omega), cond_true, getI_nat, hx, Option.bind_some, getI_nat, hy, Option.bind_some]
    rw [next_i64 (by omega)]
    cases eqS x y <;> rfl
  · show qv_B10 n (a.texts.length : Int) a.recs a.funcs a.imps a.ints a.texts b.recs b.funcs b.imps b.ints b.texts = _
    unfold qv_B10
    rw [lenI_eq, decide_eq_false (by omega), cond_false]
theorem refSame_eq (n : Nat) (a b : ModD) (hL : LightM a) (hn : 6000 ≤ n) : qv n a.recs a.funcs a.imps a.ints a.texts b.recs b.funcs b.imps b.ints b.texts = some (sameV a b) := by
  unfold qv sameV eqL
  rw [lenNe, lenNe, lenNe, lenNe, lenNe]
  by_cases h1 : a.recs.length = b.recs.length
  · by_cases h2 : a.funcs.length = b.funcs.length
    · by_cases h3 : a.imps.length = b.imps.length
      · by_cases h4 : a.ints.length = b.ints.length
        · by_cases h5 : a.texts.length = b.texts.length
          · rw [decide_eq_true h1, decide_eq_true h2, decide_eq_true h3, decide_eq_true h4, decide_eq_true h5]
            simp only [Bool.not_true, cond_false, Bool.true_and]
            have r2 := refSame2 n a b h2 hL hn
            have r6 := refSame6 n a b h3 hL hn
            rw [eqFr_eq] at r2
            rw [eqMr_eq] at r6
            rcases refSame0 n a b h1 hL hn with ⟨e, r⟩ | ⟨e, _, _, _, r⟩
            · rw [e, show qv_W0 n (0, _) = _ from r, Bool.true_and]
              rcases r2 with ⟨e, r⟩ | ⟨e, _, _, _, r⟩
              · rw [e, Bool.true_and]
                show ((qv_W2 n (0, (mtup a, mtup b))).bind _) = _
                rw [r]
                rcases r6 with ⟨e, r⟩ | ⟨e, _, _, _, r⟩
                · rw [e, Bool.true_and]
                  show ((qv_W6 n (0, (mtup a, mtup b))).bind _) = _
                  rw [r]
                  rcases refSame8 n a b h4 hL hn with ⟨e, r⟩ | ⟨e, _, _, _, r⟩
                  · rw [e, Bool.true_and]
                    show ((qv_W8 n (0, (mtup a, mtup b))).bind _) = _
                    rw [r]
                    rcases refSame10 n a b h5 hL hn with ⟨e, r⟩ | ⟨e, _, _, _, r⟩
                    · rw [e]
                      show ((qv_W10 n (0, (mtup a, mtup b))).bind _) = _
                      rw [r]; rfl
                    · rw [e]
                      show ((qv_W10 n (0, (mtup a, mtup b))).bind _) = _
                      rw [r]; rfl
                  · rw [e, Bool.false_and]
                    show ((qv_W8 n (0, (mtup a, mtup b))).bind _) = _
                    rw [r]; rfl
                · rw [e, Bool.false_and]
                  show ((qv_W6 n (0, (mtup a, mtup b))).bind _) = _
                  rw [r]; rfl
              · rw [e, Bool.false_and]
                show ((qv_W2 n (0, (mtup a, mtup b))).bind _) = _
                rw [r]; rfl
            · rw [e, show qv_W0 n (0, _) = _ from r, Bool.false_and]; rfl
          · rw [decide_eq_false h5]; simp [h1, h2, h3, h4]
        · rw [decide_eq_false h4]; simp [h1, h2, h3]
      · rw [decide_eq_false h3]; simp [h1, h2]
    · rw [decide_eq_false h2]; simp [h1]
  · rw [decide_eq_false h1]; simp
end Sx
