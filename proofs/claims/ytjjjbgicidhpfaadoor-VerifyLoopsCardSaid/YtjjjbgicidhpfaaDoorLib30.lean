import Derived.Test.YtjjjbgicidhpfaaDoorLib29
import Derived.ProofKit
set_option linter.unusedVariables false
set_option linter.unusedSectionVars false
namespace Go.Ab
variable [b3]
open Go.RowKit
variable {P:Program}
def GS(w:World):Gh:={loc:=λ_ _=>none,prot:=λ_ B _=>B<w.heap.size,mine:=λB=>w.heap.size≤B}
theorem GS.mem(w:World)(I:p7 (GS w) w):aI (GS w) w []:=
 ⟨λb x h=>by simp at h,λ_ _ _=>rfl,λ_ _ _ _ _=>rfl,λb H x x' L L' B h=>by simp at h,λb H x x' B i c B' h=>by simp at h,λb H x x' B C i c i' c' B' h=>by simp at h,λB h=>h,λB o h=>h,λ_ _ _ h=>h,I⟩
theorem HW{w I:World}(h:Ev (GS w) w I):Below w.heap.size w I:=
 ⟨h.os,h.tape,h.out,h.size,λk H=>h.away k H (λhm=>Nat.not_lt.2 hm H)⟩
theorem H7{f:FuncId}{E:aD}(hE:bC P f E){a:E.a.den}{b:dV E.r}(I:E.sh a=some b){as:List AV}(J:ML E as [] a){w:World}(U:p7 (GS w) w){H:Array Value}(V:nH (GS w) w as H):
  Calls P f H w λe M=> ∃K cv,e= .returned cv/\VR K M (zZ E b).1 cv/\Below w.heap.size w M:=by
 obtain⟨_,W⟩:=hE.2 a b I (GS w) w as [] H J (GS.mem w U) (λj x O=>by simp at O) V;refine W.mono λe M N=>?_;obtain⟨K,cv,rfl,hR⟩:=N;exact⟨K,cv,rfl,hR.v,HW hR.ev⟩
theorem nH.nil{G:Gh}{w:World}:nH G w [] #[]:=⟨rfl,λj y H=>by simp at H⟩
theorem nH.cons{G:Gh}{w:World}{a:AV}{v:Value}{as:List AV}{vs:List Value}(h:VR G w a v)(hs:nH G w as vs.toArray):nH G w (a::as) (v::vs).toArray:=by
 refine⟨by simp[hs.1],λj y H=>?_⟩;rw[yk];cases j with
 |zero=>simp at H;subst H;simpa using h
 |succ j=>
  have:=hs.2 j y (by simpa using H);rw[yk]at this;simpa using this
theorem E6{f:FuncId}{E:aD}(hE:bC P f E){a:E.a.den}{b:dV E.r}(I:E.sh a=some b)(N:(zZ E b).1= .lit (.bool true)){as:List AV}(J:ML E as [] a){w:World}(U:p7 (GS w) w){H:Array Value}(V:nH (GS w) w as H):
  Calls P f H w λe K=>e= .returned (.bool true)/\Below w.heap.size w K:=by
 refine(H7 hE I J U V).mono λe K M=>?_;obtain⟨G',cv,rfl,hr,O⟩:=M;rw[N]at hr;exact⟨by rw[hr.lit_inv],O⟩
end Go.Ab
