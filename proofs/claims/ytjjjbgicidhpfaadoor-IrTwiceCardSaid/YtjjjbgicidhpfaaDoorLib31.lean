import Derived.Test.YtjjjbgicidhpfaaDoorLib30
import Derived.ProofKit
set_option linter.unusedVariables false
set_option linter.unusedSectionVars false
namespace Go.Ab
variable [cF]
open Go.RowKit
variable {P:Program}
def KN(w:World):Gh:={loc:=λ_ _=>none,prot:=λ_ B _=>B<w.heap.size,mine:=λB=>w.heap.size≤B}
theorem KN.mem(w:World)(J:yN (KN w) w):aH (KN w) w []:=
 ⟨λb x h=>by simp at h,λ_ _ _=>rfl,λ_ _ _ _ _=>rfl,λb H x x' L L' B h=>by simp at h,λb H x x' B i c B' h=>by simp at h,λb H x x' B C i c i' c' B' h=>by simp at h,λB h=>h,λB o h=>h,λ_ _ _ h=>h,J⟩
theorem Mm{w H:World}(h:Ev (KN w) w H):Below w.heap.size w H:=
 ⟨h.os,h.tape,h.out,h.size,λk J=>h.away k J (λhm=>Nat.not_lt.2 hm J)⟩
theorem MA{f:FuncId}{E:aE}(hE:bE P f E){a:E.a.den}{b:eN E.r}(J:E.sh a=some b){as:List AV}(M:Q4 E as [] a){w:World}(W:yN (KN w) w){H:Array Value}(V:pY (KN w) w as H):
  Calls P f H w λe N=> ∃K cv,e= .returned cv/\VR K N (Cj E b).1 cv/\Below w.heap.size w N:=by
 obtain⟨_,hc⟩:=hE.2 a b J (KN w) w as [] H M (KN.mem w W) (λj x U=>by simp at U) V;refine hc.mono λe N O=>?_;obtain⟨K,cv,rfl,hR⟩:=O;exact⟨K,cv,rfl,hR.v,Mm hR.ev⟩
theorem pY.nil{G:Gh}{w:World}:pY G w [] #[]:=⟨rfl,λj y H=>by simp at H⟩
theorem pY.cons{G:Gh}{w:World}{a:AV}{v:Value}{as:List AV}{vs:List Value}(h:VR G w a v)(hs:pY G w as vs.toArray):pY G w (a::as) (v::vs).toArray:=by
 refine⟨by simp[hs.1],λj y H=>?_⟩;rw[yp];cases j with
 |zero=>simp at H;subst H;simpa using h
 |succ j=>
  have:=hs.2 j y (by simpa using H);rw[yp]at this;simpa using this
theorem M3{f:FuncId}{E:aE}(hE:bE P f E){a:E.a.den}{b:eN E.r}(J:E.sh a=some b)(O:(Cj E b).1= .lit (.bool true)){as:List AV}(K:Q4 E as [] a){w:World}(W:yN (KN w) w){H:Array Value}(V:pY (KN w) w as H):
  Calls P f H w λe M=>e= .returned (.bool true)/\Below w.heap.size w M:=by
 refine(MA hE J K W V).mono λe M N=>?_;obtain⟨G',cv,rfl,hr,U⟩:=N;rw[O]at hr;exact⟨by rw[hr.lit_inv],U⟩
end Go.Ab
