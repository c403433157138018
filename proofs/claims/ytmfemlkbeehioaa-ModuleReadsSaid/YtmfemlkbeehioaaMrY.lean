/- What any bytes are. -/
import Derived.Test.YtmfemlkbeehioaaMrX
set_option linter.unusedVariables false
set_option linter.unusedSimpArgs false
namespace Sx
open Go Go.Ab
theorem qcd_eq (n : Nat) (a b : List Int) (ha : a.length ≤ 1000000) (hn : a.length < n) : qcd n a b = some (eqL eqN a b) := by
  unfold qcd eqL
  rw [lenNe]
  by_cases hl : a.length = b.length
  · rw [decide_eq_true hl, Bool.not_true, cond_false, Bool.true_and]
    have h := loop_two (B := fun s => qcd_B0 n s.1 s.2.1 s.2.2) (mk := fun (i : Nat) => (a, (b, (i : Int)))) (p := eqN) (found := fun i x y => Sum.inl false) (e := Sum.inr ()) hl (fun i x y hx hy => ?_) ?_ n (by omega)
    · rcases h with ⟨h1, h2⟩ | ⟨h1, i, x, y, h2⟩
      · rw [show qcd_W0 n (a, (b, 0)) = _ from h2, h1]; rfl
      · rw [show qcd_W0 n (a, (b, 0)) = _ from h2, h1]; rfl
    · have hi := lt_of_get hx
      show qcd_B0 n a b (i : Int) = _
      unfold qcd_B0
      rw [lenI_eq, decide_eq_true (by omega), cond_true, getI_nat, hx, Option.bind_some, getI_nat, hy, Option.bind_some, next_i64 (by omega)]
      show (bif !eqN x y then _ else _) = _
      cases eqN x y <;> rfl
    · show qcd_B0 n a b (a.length : Int) = _
      unfold qcd_B0
      rw [lenI_eq, decide_eq_false (by omega), cond_false]
  · rw [decide_eq_false hl]; rfl
theorem light_of_fits {m : ModD} (hf : fitsV m = true) : LightM m := by
  have hf' := hf
  unfold fitsV at hf'
  simp only [Bool.and_eq_true, decide_eq_true_eq] at hf'
  obtain ⟨h1, h2, h3, h4, h5, h6, h7, h8, h9, h10⟩ := hf'
  refine ⟨by omega, by omega, by omega, by omega, by omega, fun l hl => ?_, fun f hf => ?_, fun f hf => ?_, fun t ht => ?_⟩
  · have := goodsV_len (List.all_eq_true.1 h2 l hl); omega
  · have := fncV_len (List.all_eq_true.1 h5 f hf); omega
  · have := impV_len (List.all_eq_true.1 h7 f hf); omega
  · have := of_decide_eq_true (List.all_eq_true.1 h10 t ht); omega
theorem light_empty : LightM emptyM := by
  constructor <;> simp [emptyM]
theorem same_empty (n : Nat) (hn : 6000 ≤ n) : qv n [] [] [] [] [] [] [] [] [] [] = some true := by
  have := refSame_eq n emptyM emptyM light_empty hn
  rw [sameV_refl] at this
  exact this
theorem module_reads (b : List Int) (hb : Bytes b) : law06ModuleReads 10000 b = some true := by
  unfold law06ModuleReads
  rw [answers6, lenI_eq]
  by_cases h : (b.length : Int) > 5000
  · rw [decide_eq_true h]; rfl
  · rw [decide_eq_false h, cond_false]
    rcases decode_tot 10000 b (by omega) hb (by omega) with h1 | ⟨m, h1, ho, hf, he⟩
    · rw [h1, Option.bind_some]
      show (bif ((2 : Int) != 0) then _ else _) = _
      rw [show ((2 : Int) != 0) = true from rfl, cond_true, Option.bind_some, cond_true, show ((2 : Int) == 2) = true from rfl, cond_true]
      show (qv 10000 [] [] [] [] [] [] [] [] [] []).bind _ = _
      rw [same_empty 10000 (by omega)]; rfl
    · rw [h1, Option.bind_some]
      show (bif ((0 : Int) != 0) then _ else ((qbh 10000 m.recs m.funcs m.imps m.ints m.texts).bind _)) = _
      rw [show ((0 : Int) != 0) = false from rfl, cond_false]
      obtain ⟨bb, hbb, hb2⟩ := refModule_eq 10000 m ho (light_of_fits hf) (by omega)
      obtain rfl := hb2 hf
      rw [hbb, Option.bind_some, Option.bind_some, cond_true, hf, cond_true, he, qcd_eq 10000 b b (by omega) (by omega), eqL_refl b fun x _ => by simp [eqN]]
      rfl
end Sx
