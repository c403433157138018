/- The plain laws at the rows' own data. -/
import Derived.Test.YtmfemlkbeehioaaMrT
import Derived.Test.YtmfemlkbeehioaaLib31
set_option linter.unusedVariables false
namespace Sx
open Go Go.Ab
abbrev tyT : Ty := .cons (.int .i64) (.int .i64)
abbrev tysT : Ty := .sl true tyT
abbrev fnT : Ty := .cons tysT (.cons (.int .i64) (.cons (.int .i64) (.cons tysT (.sl true (.cons (.int .i64) (.cons (.int .i64) (.int .i64)))))))
abbrev imT : Ty := .cons tysT (.cons (.int .i64) (.int .i64))
def shM : Sh := .agg (.cons (.sl true false tysT) (.cons (.sl true true fnT) (.cons (.sl true true imT) (.cons (.sl true false (.int .u64)) (.cons (.sl true false .str) .nil)))))
abbrev MTup := List (List TyD) × List FnD × List ImD × List Int × List ByteArray
def modOf (d : MTup) : ModD := ⟨d.1, d.2.1, d.2.2.1, d.2.2.2.1, d.2.2.2.2⟩
theorem okT_fit {t : TyD} (h : Fit tyT t) : okT t := ⟨wf_i64 h.1, wf_i64 h.2⟩
theorem okTs_fit {l : List TyD} (h : Fit tysT l) : okTs l ∧ l.length ≤ 140737488351232 := ⟨fun t ht => okT_fit (h.2 t ht), h.1⟩
theorem okM_fit {d : MTup} (h : FitS shM d) : OkM (modOf d) ∧ LenM (modOf d) := by
  obtain ⟨h1, h2, h3, h4, h5, _⟩ : Fit (.sl false tysT) d.1 ∧ Fit (.sl true fnT) d.2.1 ∧ Fit (.sl true imT) d.2.2.1 ∧ Fit (.sl false (.int .u64)) d.2.2.2.1 ∧ Fit (.sl false .str) d.2.2.2.2 ∧ True := h
  obtain ⟨l1, e1⟩ := h1
  obtain ⟨l2, e2⟩ := h2
  obtain ⟨l3, e3⟩ := h3
  obtain ⟨l4, e4⟩ := h4
  obtain ⟨l5, e5⟩ := h5
  have f2 : ∀ f ∈ d.2.1, Fit tysT f.1 ∧ Fit (.int .i64) f.2.1 ∧ Fit (.int .i64) f.2.2.1 ∧ Fit tysT f.2.2.2.1 ∧ f.2.2.2.2.length ≤ reachBytes := fun f hf => by
    obtain ⟨a1, a2, a3, a4, a5⟩ := e2 f hf
    exact ⟨a1, a2, a3, a4, a5.1⟩
  have f3 : ∀ f ∈ d.2.2.1, Fit tysT f.1 ∧ Fit (.int .i64) f.2.1 ∧ Fit (.int .i64) f.2.2 := e3
  refine ⟨⟨fun l hl => (okTs_fit (e1 l hl)).1, fun f hf => ?_, fun f hf => ?_, fun v hv => wf_u64 (e4 v hv)⟩, ⟨l1, l2, l3, l4, l5, fun l hl => (okTs_fit (e1 l hl)).2, fun f hf => ?_, fun f hf => ?_, e5⟩⟩
  · obtain ⟨a1, a2, a3, a4, a5⟩ := f2 f hf
    exact ⟨(okTs_fit a1).1, ⟨wf_i64 a2, wf_i64 a3⟩, (okTs_fit a4).1⟩
  · obtain ⟨a1, a2, a3⟩ := f3 f hf
    exact ⟨(okTs_fit a1).1, ⟨wf_i64 a2, wf_i64 a3⟩⟩
  · obtain ⟨a1, a2, a3, a4, a5⟩ := f2 f hf
    exact ⟨(okTs_fit a1).2, (okTs_fit a4).2, a5⟩
  · exact (okTs_fit (f3 f hf).1).2
theorem same_plain (d : MTup × MTup) (hf : FitS (.cons shM (.cons shM .nil)) d) : ∃ n, law06ModuleSame n d.1.1 d.1.2.1 d.1.2.2.1 d.1.2.2.2.1 d.1.2.2.2.2 d.2.1 d.2.2.1 d.2.2.2.1 d.2.2.2.2.1 d.2.2.2.2.2 = some true := by
  obtain ⟨h1, h2, _⟩ : FitS shM d.1 ∧ FitS shM d.2 ∧ True := hf
  exact ⟨10000, module_same (modOf d.1) (modOf d.2) (okM_fit (d := d.1) h1).2 (okM_fit (d := d.2) h2).2⟩
end Sx
