import Derived.Test.YtjjjbgicidhpfaaDoorCards
import Derived.Test.YtjjjbgicidhpfaaDoorTie
import Derived.Test.YtjjjbgicidhpfaaDoorLaw2
import Derived.Test.YtjjjbgicidhpfaaDoorItRun1
import Derived.Lay
import Derived.SevenTiedAt
import Derived.Test.YtjjjbgicidhpfaaDoorLib37
set_option linter.unusedVariables false
namespace Go.Proofs.YtjjjbgicidhpfaaDoor.irTwice
open Go Go.Ab Go.RowKit Go.ChangeShapes Go.WideShapes Go.ChangeAt
theorem own:ownKnob Tryd.prog.godebug=none:=by kernel_rfl
noncomputable def sh:Sh:= .cons Sx.U4 .nil
theorem facts:RM Tryd.prog Tryd.f14 sh=true:=by kernel_rfl
theorem told: ∀x∈Sx.Pw,(x.1,(DataW.agg [.lit (.int .i64 x.2.2.1),.lit (.int .i64 x.2.2.2)]:DataW Unit))∈Rows.irTwiceRow.laid:=by
  intro x hx;simp only[Sx.Pw,List.mem_cons,List.not_mem_nil,or_false]at hx;rcases hx with rfl|rfl|rfl|rfl|rfl<;>first|exact .head _|exact .tail _ (.head _)|exact .tail _ (.tail _ (.head _))|exact .tail _ (.tail _ (.tail _ (.head _)))|exact .tail _ (.tail _ (.tail _ (.tail _ (.head _))))
theorem globs(W:World)(h:laidMetH Tryd.prog Rows.irTwiceRow.laid W):yN (KN W) W:=by
  rw[MakeChecks.laidMetH_plain _ _ _ (by kernel_rfl)]at h;exact J1 Sx.Pw h told (by kernel_rfl) λg q hq=>Uk Sx.Pw hq
set_option maxRecDepth 100000 in
theorem lifted(os:Os)(started:os.Started)(H:Type)(enc:TypeId×Value->H):
    ReturnsInHanded {} Tryd.checked os 14 .any (λw args=>(Rows.irTwiceSpec.pre enc Tryd.prog Tryd.f14 Rows.irTwiceRow.domain false w args/\laidMetH Tryd.prog Rows.irTwiceRow.laid w)/\sizedMet enc Tryd.prog Tryd.f14 (OpenSpec.ofChange Rows.irTwiceSpec) false w args) (Rows.irTwiceSpec.post enc Tryd.prog Tryd.f14 false true false false):=by
  refine returnsInHanded_of_change_and (C:=Tryd.checked) (X:=λw _=>laidMetH Tryd.prog Rows.irTwiceRow.laid w) (λ_ _ _ hh h=>h.of_heap hh) own started (by kernel_rfl) Tryd.func14
    (ChangeSpec.witness_shaped (enc := enc) (C := Tryd.checked) (os := os) (X := fun w _ => laidMetH Tryd.prog Rows.irTwiceRow.laid w) false (World.laidAll Tryd.prog os Rows.irTwiceRow.laid) #[.agg #[.slice none 0 0, .slice none 0 0, .slice none 0 0, .slice none 0 0, .slice none 0 0]] 8 (World.laidAll_os _ _ _)
      (World.shaped_of_ZipB (by kernel_rfl) (by kernel_rfl)) (by kernel_rfl) (by kernel_rfl) (by kernel_rfl)
      (by rw [MakeChecks.laidMetH_plain _ _ _ (by kernel_rfl)]; exact laidMet_laidAll _ (by kernel_rfl) (by kernel_rfl))) ?_
  intro W base args ds gs before hval hW hcnd hsz hL _;exact Kj (sh:=sh) facts rfl (λ(ds:List (DataW H)) h=>match ds,h with| [d1],_=>rfl)
    (λd hf W avs vargs hw hle hlen hv=>Exists.elim (Sx.Ih d hf) λn hn=>M3 (Sx.Fq n) (a:=d) (b:=true) hn rfl ⟨hlen,hle,rfl⟩ hw hv) (globs W hL) hval hW hsz
theorem over:Rows.irTwiceRow.holds Tryd.pinned (OpenSpec.ofChange Rows.irTwiceSpec):=
  OpenClaim.holds_of_wide 14 Tryd.f14 rfl rfl rfl rfl rfl rfl rfl ⟨rfl,rfl,rfl,rfl,rfl⟩ rfl rfl rfl rfl rfl (by kernel_rfl) Tryd.func14 (by kernel_rfl)
    (of_decide_eq_true (by kernel_rfl)) (by unfold Func.isWrapper;first|(rw[if_pos (by decide+kernel)];kernel_rfl)|(rw[if_neg (by decide+kernel)];exact⟨rfl,rfl⟩))
    (λos started H enc _=>lifted os started H enc)
theorem params:(Tryd.f14.params.toList.all λt=>!(Tryd.prog.wantsStandIn t))=true:=by kernel_rfl
theorem proved:Rows.IrTwiceCardSaid:=
  Claim7.holds_tied_plain_at .later [] [.data,.data,.data,.data,.data] true (true, "0e1d4933e0dcad9369415f7035d84683c0f6be1a168894bf9393a993c6a98175") false
    over (λ_ h=>by cases h) (by kernel_rfl) (λ_ h=>by cases h) irTwice_row_tie rfl ⟨rfl,rfl⟩ (by kernel_rfl) rfl
    (fun f fn hf hfn => by
      obtain rfl:f=14:=Option.some.inj ((show Tryd.prog.funcNamed Rows.irTwiceRow.func=some 14 by kernel_rfl).symm.trans hf) |>.symm;obtain rfl:fn=Tryd.f14:=(Option.some.inj (Tryd.func14.symm.trans hfn)).symm
      exact⟨by kernel_rfl,λj t ht=>by
        have:=List.all_eq_true.1 params t (List.mem_of_getElem? (by rw[Array.getElem?_toList];exact ht))
        exact(show Tryd.prog.wantsStandIn t=false by simpa using this)⟩)
    (by kernel_rfl)
end Go.Proofs.YtjjjbgicidhpfaaDoor.irTwice
namespace Go.Proofs.YtjjjbgicidhpfaaDoor
theorem irTwice_holds:Rows.IrTwiceCardSaid:=irTwice.proved
#print axioms irTwice_holds
end Go.Proofs.YtjjjbgicidhpfaaDoor
