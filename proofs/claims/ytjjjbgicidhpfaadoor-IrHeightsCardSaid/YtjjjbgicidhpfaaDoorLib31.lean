import Derived.Test.YtjjjbgicidhpfaaDoorLib30
import Derived.ProofKit
set_option linter.unusedVariables false
set_option linter.unusedSectionVars false
namespace Go.Ab
variable [cS]
open Go.RowKit
variable {P:Program}
def Jm(w:World):Gh:={loc:=λ_ _=>none,prot:=λ_ B _=>B<w.heap.size,mine:=λB=>w.heap.size≤B}
theorem Jm.mem(w:World)(J:o4 (Jm w) w):aJ (Jm w) w []:=
 ⟨λb x h=>by simp at h,λ_ _ _=>rfl,λ_ _ _ _ _=>rfl,λb H x x' L L' B h=>by simp at h,λb H x x' B i c B' h=>by simp at h,λb H x x' B C i c i' c' B' h=>by simp at h,λB h=>h,λB o h=>h,λ_ _ _ h=>h,J⟩
theorem M3{w J:World}(h:Ev (Jm w) w J):Below w.heap.size w J:=
 ⟨h.os,h.tape,h.out,h.size,λk H=>h.away k H (λhm=>Nat.not_lt.2 hm H)⟩
theorem NO{f:FuncId}{E:aG}(hE:a6 P f E){a:E.a.den}{b:fG E.r}(N:E.sh a=some b){as:List AV}(K:S1 E as [] a){w:World}(W:o4 (Jm w) w){H:Array Value}(V:rZ (Jm w) w as H):
  Calls P f H w λe J=> ∃M cv,e= .returned cv/\VR M J (D8 E b).1 cv/\Below w.heap.size w J:=by
 obtain⟨_,hc⟩:=hE.2 a b N (Jm w) w as [] H K (Jm.mem w W) (λj x O=>by simp at O) V;refine hc.mono λe J U=>?_;obtain⟨M,cv,rfl,hR⟩:=U;exact⟨M,cv,rfl,hR.v,M3 hR.ev⟩
theorem rZ.nil{G:Gh}{w:World}:rZ G w [] #[]:=⟨rfl,λj y H=>by simp at H⟩
theorem rZ.cons{G:Gh}{w:World}{a:AV}{v:Value}{as:List AV}{vs:List Value}(h:VR G w a v)(hs:rZ G w as vs.toArray):rZ G w (a::as) (v::vs).toArray:=by
 refine⟨by simp[hs.1],λj y H=>?_⟩;rw[yo];cases j with
 |zero=>simp at H;subst H;simpa using h
 |succ j=>
  have:=hs.2 j y (by simpa using H);rw[yo]at this;simpa using this
theorem m9{f:FuncId}{E:aG}(hE:a6 P f E){a:E.a.den}{b:fG E.r}(K:E.sh a=some b)(V:(D8 E b).1= .lit (.bool true)){as:List AV}(J:S1 E as [] a){w:World}(O:o4 (Jm w) w){H:Array Value}(N:rZ (Jm w) w as H):
  Calls P f H w λe M=>e= .returned (.bool true)/\Below w.heap.size w M:=by
 refine(NO hE K J O N).mono λe M W=>?_;obtain⟨G',cv,rfl,hr,U⟩:=W;rw[V]at hr;exact⟨by rw[hr.lit_inv],U⟩
end Go.Ab
