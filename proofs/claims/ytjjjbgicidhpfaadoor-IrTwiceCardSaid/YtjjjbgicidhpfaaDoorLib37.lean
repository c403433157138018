import Derived.Test.YtjjjbgicidhpfaaDoorLib34
import GoSem.ClaimJoined
import Derived.FnData
set_option linter.unusedVariables false
set_option linter.unusedSectionVars false
namespace Go.Ab
variable [cF]
def Pp(P:Program)(t:TypeId):Bool:=match P.underlying t with|some (.int .i64)=>true|_=>false
def RA(P:Program)(n:String)(g:Nat):Bool:=
 match P.globalNamed n with
 |some g'=>Nat.beq g' g&&(match(P.globals[g']?).map (·.type)with
  |some t=>(match P.underlying t with
   |some (.struct fs)=>(match fs.toList with
    | [a,b]=>Nat.beq a.offset 0&&Nat.beq b.offset 1&&Pp P a.type&&Pp P b.type&&Nat.beq (P.cellsOf a.type) 1&&Nat.beq (P.cellsOf b.type) 1&&Nat.beq (P.cellsOf t) 2
    |_=>false)
   |_=>false)
  |none=>false)
 |none=>false
theorem MT{P:Program}{t:TypeId}(h:Pp P t=true):P.underlying t=some (.int .i64):=by
 unfold Pp at h;split at h
 ·assumption
 ·cases h
theorem Lp{P:Program}{w:World}{H:Type}{enc:TypeId×Value->H}{base:Nat}{K:Nat->Bool}{J:Bool}{t:TypeId}(ht:P.underlying t=some (.int .i64)){fuel:Nat}{c:Value}{x:DataW H×List MemPlace}
  (h:DataW.trod enc P w base K J fuel t [c]=some x): ∃n,c= .int .i64 n/\x.1= .lit (.int .i64 n):=by
 cases fuel with
 |zero=>simp[DataW.trod]at h
 |succ fuel=>
  unfold DataW.trod at h;rw[ht]at h;cases c<;>simp at h;rename_i k n;obtain⟨⟨rfl,_⟩,rfl⟩:=h;exact⟨n,rfl,rfl⟩
theorem PQ{P:Program}{w:World}{H:Type}{enc:TypeId×Value->H}{base:Nat}{sp:Nat->Bool}{M:Bool}{t:TypeId}{fs:Array Field}{N O:Field}(ht:P.underlying t=some (.struct fs))(U:fs.toList= [N,O])
  (o0:N.offset=0) (o1:O.offset=1) (u0:P.underlying N.type=some (.int .i64)) (u1:P.underlying O.type=some (.int .i64)) (c0:P.cellsOf N.type=1) (c1:P.cellsOf O.type=1) (ct:P.cellsOf t=2)
  {fuel:Nat} {cs:List Value} {a b:Int} {p:List MemPlace} (h:DataW.trod enc P w base sp M fuel t cs=some (.agg [.lit (.int .i64 a),.lit (.int .i64 b)],p)):cs= [.int .i64 a,.int .i64 b]:=by
 cases fuel with
 |zero=>simp[DataW.trod]at h
 |succ fuel=>
  unfold DataW.trod at h;rw[ht]at h;simp only[U,ct]at h;split at h
  ·rename_i hl
   match cs,hl with
   | [x,y],_=>
    simp only[List.mapM_cons,List.mapM_nil,o0,o1,c0,c1,yp2,ya4,yi4,List.drop_succ_cons]at h;obtain⟨xs,V,he⟩:=ye.1 h;simp only[Option.bind_eq_bind,yy1,Option.pure_def,Option.some.injEq]at V;obtain⟨u,W,vs,⟨v,hv,ws,rfl,rfl⟩,rfl⟩:=V;obtain⟨n,rfl,Y⟩:=Lp u0 W;obtain⟨m,rfl,Z⟩:=Lp u1 hv;have e:=(Prod.mk.inj he).1;simp only[yg2,yf4,Y,Z]at e;injection e with e
    injection e with K J
    injection J with J _
    injection K with K
    injection K with _ K
    injection J with J
    injection J with _ J
    rw[K,J]
  ·cases h
theorem IY{α:Type}: ∀{l:List (Nat×α)} {n:Nat} {x:α},dB n l=some x->(n,x)∈l
 | [],n,x,h=>by cases h
 |(m,y)::r,n,x,h=>by
  unfold dB at h;cases H:Nat.beq m n with
  |true=>rw[H]at h;obtain rfl:=ya h;obtain rfl:=nb.1 H;exact .head _
  |false=>rw[H]at h;exact .tail _ (IY h)
theorem Uk(l:List (String×Nat×Int×Int)){g:Nat}{q:Int×Int}(h:dB g (l.map (·.2))=some q): ∃x∈l,x.2.1=g/\x.2.2=q:=by
 obtain⟨x,H,e⟩:=yh3.1 (IY h);exact⟨x,H,by rw[e],by rw[e]⟩
theorem OW{P:Program}{w:World}: ∀{l:List (String×DataW Unit)} {ps:List MemPlace},DataW.LaidVars P w l ps->∀x∈l,∃g t cs fuel p,P.globalNamed x.1=some g/\(P.globals[g]?).map (·.type)=some t/\w.var? P x.1=some cs/\DataW.trod (λ_=>()) P w 0 (λ_=>true) false fuel t cs.toList=some (x.2,p)
 | [],ps,h,x,H=>by cases H
 |(n,d)::r,ps,h,x,H=>by
  obtain⟨g,t,cs,fuel,p,q,J,K,O,M,N,_⟩:=h;rcases yj1.1 H with rfl|H
  ·exact⟨g,t,cs,fuel,p,J,K,O,M⟩
  ·exact OW N x H
theorem J1{P:Program}{W:World}{J:List (String×DataW Unit)}(l:List (String×Nat×Int×Int))(h:laidMet P J W)(hl: ∀x∈l,(x.1,DataW.agg [.lit (.int .i64 x.2.2.1),.lit (.int .i64 x.2.2.2)])∈J)(O:(l.all λx=>RA P x.1 x.2.1)=true)
  (K: ∀g q,cF.tab g=some q->∃x∈l,x.2.1=g/\x.2.2=q):yN (KN W) W:=by
 intro g q hq;obtain⟨x,V,rfl,rfl⟩:=K g q hq;obtain⟨ps,h,_⟩:=h;obtain⟨g',t,cs,fuel,p,M,Z,U,h4⟩:=OW h _ (hl x V);have H:=yf1.1 O x V;unfold RA at H;simp only[M,Z,yc]at H;obtain⟨hg,H⟩:=H;obtain rfl:=nb.1 hg;split at H
 ·rename_i fs ht;split at H
  ·rename_i f0 f1 N;simp only[yc]at H;obtain⟨⟨⟨⟨⟨⟨o0,o1⟩,u0⟩,u1⟩,c0⟩,c1⟩,ct⟩:=H;have e:=PQ ht N (nb.1 o0) (nb.1 o1) (MT u0) (MT u1) (nb.1 c0) (nb.1 c1) (nb.1 ct) h4;have Y:cl W x.2.1 0=some (.int .i64 x.2.2.1):=by
    have:=World.var?_cell M U 0;rw[<-yq1,e]at this;exact this
   have k1:cl W x.2.1 1=some (.int .i64 x.2.2.2):=by
    have:=World.var?_cell M U 1;rw[<-yq1,e]at this;exact this
   exact⟨⟨Y,HS (by rw[Y];rfl)⟩,k1,HS (by rw[k1];rfl)⟩
  ·cases H
 ·cases H
end Go.Ab
