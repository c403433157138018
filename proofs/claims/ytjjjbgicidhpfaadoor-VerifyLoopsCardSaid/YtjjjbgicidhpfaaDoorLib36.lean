import Derived.Test.YtjjjbgicidhpfaaDoorLib33
import GoSem.ClaimJoined
import Derived.FnData
set_option linter.unusedVariables false
set_option linter.unusedSectionVars false
namespace Go.Ab
variable [b3]
def Lz(P:Program)(t:TypeId):Bool:=match P.underlying t with|some (.int .i64)=>true|_=>false
def MS(P:Program)(n:String)(g:Nat):Bool:=
 match P.globalNamed n with
 |some g'=>Nat.beq g' g&&(match(P.globals[g']?).map (·.type)with
  |some t=>(match P.underlying t with
   |some (.struct fs)=>(match fs.toList with
    | [a,b]=>Nat.beq a.offset 0&&Nat.beq b.offset 1&&Lz P a.type&&Lz P b.type&&Nat.beq (P.cellsOf a.type) 1&&Nat.beq (P.cellsOf b.type) 1&&Nat.beq (P.cellsOf t) 2
    |_=>false)
   |_=>false)
  |none=>false)
 |none=>false
theorem I8{P:Program}{t:TypeId}(h:Lz P t=true):P.underlying t=some (.int .i64):=by
 unfold Lz at h;split at h
 ·assumption
 ·cases h
theorem Jt{P:Program}{w:World}{H:Type}{enc:TypeId×Value->H}{base:Nat}{J:Nat->Bool}{I:Bool}{t:TypeId}(ht:P.underlying t=some (.int .i64)){fuel:Nat}{c:Value}{x:DataW H×List MemPlace}
  (h:DataW.trod enc P w base J I fuel t [c]=some x): ∃n,c= .int .i64 n/\x.1= .lit (.int .i64 n):=by
 cases fuel with
 |zero=>simp[DataW.trod]at h
 |succ fuel=>
  unfold DataW.trod at h;rw[ht]at h;cases c<;>simp at h;rename_i k n;obtain⟨⟨rfl,_⟩,rfl⟩:=h;exact⟨n,rfl,rfl⟩
theorem L6{P:Program}{w:World}{H:Type}{enc:TypeId×Value->H}{base:Nat}{sp:Nat->Bool}{J:Bool}{t:TypeId}{fs:Array Field}{M N:Field}(ht:P.underlying t=some (.struct fs))(O:fs.toList= [M,N])
  (Z:M.offset=0) (o1:N.offset=1) (u0:P.underlying M.type=some (.int .i64)) (u1:P.underlying N.type=some (.int .i64)) (c0:P.cellsOf M.type=1) (c1:P.cellsOf N.type=1) (V:P.cellsOf t=2)
  {fuel:Nat} {cs:List Value} {a b:Int} {p:List MemPlace} (h:DataW.trod enc P w base sp J fuel t cs=some (.agg [.lit (.int .i64 a),.lit (.int .i64 b)],p)):cs= [.int .i64 a,.int .i64 b]:=by
 cases fuel with
 |zero=>simp[DataW.trod]at h
 |succ fuel=>
  unfold DataW.trod at h;rw[ht]at h;simp only[O,V]at h;split at h
  ·rename_i hl
   match cs,hl with
   | [x,y],_=>
    simp only[List.mapM_cons,List.mapM_nil,Z,o1,c0,c1,List.drop_zero,List.take_succ_cons,List.take_zero,List.drop_succ_cons]at h;obtain⟨xs,U,W⟩:=yc.1 h;simp only[Option.bind_eq_bind,yp1,Option.pure_def,Option.some.injEq]at U;obtain⟨u,hu,vs,⟨v,hv,ws,rfl,rfl⟩,rfl⟩:=U;obtain⟨n,rfl,Y⟩:=Jt u0 hu;obtain⟨m,rfl,h2⟩:=Jt u1 hv;have e:=(Prod.mk.inj W).1;simp only[yt1,yi3,Y,h2]at e;injection e with e
    injection e with K I
    injection I with I _
    injection K with K
    injection K with _ K
    injection I with I
    injection I with _ I
    rw[K,I]
  ·cases h
theorem FY{α:Type}: ∀{l:List (Nat×α)} {n:Nat} {x:α},cP n l=some x->(n,x)∈l
 | [],n,x,h=>by cases h
 |(m,y)::r,n,x,h=>by
  unfold cP at h;cases H:Nat.beq m n with
  |true=>rw[H]at h;obtain rfl:=ya h;obtain rfl:=nb.1 H;exact .head _
  |false=>rw[H]at h;exact .tail _ (FY h)
theorem MQ(l:List (String×Nat×Int×Int)){g:Nat}{q:Int×Int}(h:cP g (l.map (·.2))=some q): ∃x∈l,x.2.1=g/\x.2.2=q:=by
 obtain⟨x,H,e⟩:=yq2.1 (FY h);exact⟨x,H,by rw[e],by rw[e]⟩
theorem Lq{P:Program}{w:World}: ∀{l:List (String×DataW Unit)} {ps:List MemPlace},DataW.LaidVars P w l ps->∀x∈l,∃g t cs fuel p,P.globalNamed x.1=some g/\(P.globals[g]?).map (·.type)=some t/\w.var? P x.1=some cs/\DataW.trod (λ_=>()) P w 0 (λ_=>true) false fuel t cs.toList=some (x.2,p)
 | [],ps,h,x,H=>by cases H
 |(n,d)::r,ps,h,x,H=>by
  obtain⟨g,t,cs,fuel,p,q,I,M,K,J,N,_⟩:=h;rcases yl1.1 H with rfl|H
  ·exact⟨g,t,cs,fuel,p,I,M,K,J⟩
  ·exact Lq N x H
theorem zX{P:Program}{W:World}{I:List (String×DataW Unit)}(l:List (String×Nat×Int×Int))(h:laidMet P I W)(hl: ∀x∈l,(x.1,DataW.agg [.lit (.int .i64 x.2.2.1),.lit (.int .i64 x.2.2.2)])∈I)(K:(l.all λx=>MS P x.1 x.2.1)=true)
  (J: ∀g q,b3.tab g=some q->∃x∈l,x.2.1=g/\x.2.2=q):p7 (GS W) W:=by
 intro g q hq;obtain⟨x,V,rfl,rfl⟩:=J g q hq;obtain⟨ps,h,_⟩:=h;obtain⟨g',t,cs,fuel,p,M,h2,O,h4⟩:=Lq h _ (hl x V);have H:=yi2.1 K x V;unfold MS at H;simp only[M,h2,yb]at H;obtain⟨hg,H⟩:=H;obtain rfl:=nb.1 hg;split at H
 ·rename_i fs ht;split at H
  ·rename_i f0 f1 N;simp only[yb]at H;obtain⟨⟨⟨⟨⟨⟨Z,o1⟩,u0⟩,u1⟩,c0⟩,c1⟩,Y⟩:=H;have e:=L6 ht N (nb.1 Z) (nb.1 o1) (I8 u0) (I8 u1) (nb.1 c0) (nb.1 c1) (nb.1 Y) h4;have U:cl W x.2.1 0=some (.int .i64 x.2.2.1):=by
    have:=World.var?_cell M O 0;rw[<-yh1,e]at this;exact this
   have k1:cl W x.2.1 1=some (.int .i64 x.2.2.2):=by
    have:=World.var?_cell M O 1;rw[<-yh1,e]at this;exact this
   exact⟨⟨U,Fh (by rw[U];rfl)⟩,k1,Fh (by rw[k1];rfl)⟩
  ·cases H
 ·cases H
end Go.Ab
