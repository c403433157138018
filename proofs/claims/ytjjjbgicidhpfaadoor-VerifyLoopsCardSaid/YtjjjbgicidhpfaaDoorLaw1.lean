/- Plain laws. -/
import Derived.Test.YtjjjbgicidhpfaaDoorVlSh
import Derived.Test.YtjjjbgicidhpfaaDoorLib9
import Derived.Test.YtjjjbgicidhpfaaDoorLib33
set_option linter.unusedVariables false
section
namespace Sx
open Go Go.Ab
theorem P5:aC 2000 0 0=some true:=by kernel_rfl
theorem Ql:aC 2000 0 1=some true:=by kernel_rfl
theorem Qf:aC 2000 0 2=some true:=by kernel_rfl
theorem P3:aC 2000 0 3=some true:=by kernel_rfl
theorem Qh:aC 2000 0 4=some true:=by kernel_rfl
theorem PO:aC 2000 1 0=some true:=by kernel_rfl
theorem PZ:aC 2000 1 1=some true:=by kernel_rfl
theorem PU:aC 2000 1 2=some true:=by kernel_rfl
theorem PS:aC 2000 1 3=some true:=by kernel_rfl
theorem PJ:aC 2000 1 4=some true:=by kernel_rfl
theorem PE:aC 2000 2 0=some true:=by kernel_rfl
theorem PD:aC 2000 2 1=some true:=by kernel_rfl
theorem P9:aC 2000 2 2=some true:=by kernel_rfl
theorem PX:aC 2000 2 3=some true:=by kernel_rfl
theorem P0:aC 2000 2 4=some true:=by kernel_rfl
theorem Qk:aC 2000 3 0=some true:=by kernel_rfl
theorem Qd:aC 2000 3 1=some true:=by kernel_rfl
theorem Qe:aC 2000 3 2=some true:=by kernel_rfl
theorem PB:aC 2000 3 3=some true:=by kernel_rfl
theorem PI:aC 2000 3 4=some true:=by kernel_rfl
theorem PY:aC 2000 4 0=some true:=by kernel_rfl
theorem PH:aC 2000 4 1=some true:=by kernel_rfl
theorem PA:aC 2000 4 2=some true:=by kernel_rfl
theorem P7:aC 2000 4 3=some true:=by kernel_rfl
theorem PW:aC 2000 4 4=some true:=by kernel_rfl
theorem J4(n:Nat)(a b c d:Int)(h:dP a 5=dP c 5)(H:dP b 5=dP d 5):aC n a b=aC n c d:=by
 unfold aC;rw[h,H]
theorem Ma(a b:Int)(I:0≤a)(J:0≤b):aC 2000 a b=some true:=by
 have e: ∀x:Int,0≤x->x%5=0\/x%5=1\/x%5=2\/x%5=3\/x%5=4:=λx K=>by omega
 have r: ∀x y:Int,0≤x->x%5=y->0≤y->y<5->dP x 5=dP y 5:=λx y K h M h5=>by rw[m8 K,m8 M,h];omega
 rcases e a I with h|h|h|h|h<;>rcases e b J with H|H|H|H|H<;>rw[J4 2000 a b _ _ (r a _ I h (by decide) (by decide)) (r b _ J H (by decide) (by decide))]
 ·exact P5
 ·exact Ql
 ·exact Qf
 ·exact P3
 ·exact Qh
 ·exact PO
 ·exact PZ
 ·exact PU
 ·exact PS
 ·exact PJ
 ·exact PE
 ·exact PD
 ·exact P9
 ·exact PX
 ·exact P0
 ·exact Qk
 ·exact Qd
 ·exact Qe
 ·exact PB
 ·exact PI
 ·exact PY
 ·exact PH
 ·exact PA
 ·exact P7
 ·exact PW
theorem gO(n:Nat)(hn:6≤n)(b k:Int)(H:List (Int×Int×Int))(c:Nat)(hc:c≤3)(I:dP b 4=(c:Int)):cQ n ((b,(k,0)),((1,0),(H,([]:List (Int×Int×Int)))))=some ((b,k),((1,0),(H,List.replicate (c+1) (0,(0,0))))):=by
 refine Gt (f:=λi:Nat=>((b,(k,(i:Int))),(((1:Int),(0:Int)),(H,List.replicate i ((0:Int),((0:Int),(0:Int))))))) (k:=c+1) (λi hi=>?_) ?_ (c+1) 0 n (by omega) (by omega)
 ·show dI n b k (i:Int) 1 0 H (List.replicate i (0,(0,0)))=_;unfold dI;rw[I,IJ (by omega) (by omega),Ey (by omega) (by omega),Ey (by omega) (by omega),decide_eq_true (by omega),yl,Nat.ble_eq_true_of_le (by simp;omega),yl,<-List.replicate_succ'];rfl
 ·show dI n b k ((c+1:Nat):Int) 1 0 H (List.replicate (c+1) (0,(0,0)))=_;unfold dI;rw[I,IJ (by omega) (by omega),Ey (by omega) (by omega),decide_eq_false (by omega),yj]
theorem P4(a b:Int)(I:dP a 3=0)(H:dP b 4=0):aG 2000 a b=some true:=by
 unfold aG;simp only[I,gO 2000 (by omega) b _ _ 0 (by omega) H,ye,H];kernel_rfl
theorem PQ(a b:Int)(I:dP a 3=0)(H:dP b 4=1):aG 2000 a b=some true:=by
 unfold aG;simp only[I,gO 2000 (by omega) b _ _ 1 (by omega) H,ye,H];kernel_rfl
theorem P1(a b:Int)(I:dP a 3=0)(H:dP b 4=2):aG 2000 a b=some true:=by
 unfold aG;simp only[I,gO 2000 (by omega) b _ _ 2 (by omega) H,ye,H];kernel_rfl
theorem Py(a b:Int)(I:dP a 3=0)(H:dP b 4=3):aG 2000 a b=some true:=by
 unfold aG;simp only[I,gO 2000 (by omega) b _ _ 3 (by omega) H,ye,H];kernel_rfl
theorem Px(a b:Int)(I:dP a 3=1)(H:dP b 4=0):aG 2000 a b=some true:=by
 unfold aG;simp only[I,gO 2000 (by omega) b _ _ 0 (by omega) H,ye,H];kernel_rfl
theorem Qa(a b:Int)(I:dP a 3=1)(H:dP b 4=1):aG 2000 a b=some true:=by
 unfold aG;simp only[I,gO 2000 (by omega) b _ _ 1 (by omega) H,ye,H];kernel_rfl
theorem PM(a b:Int)(I:dP a 3=1)(H:dP b 4=2):aG 2000 a b=some true:=by
 unfold aG;simp only[I,gO 2000 (by omega) b _ _ 2 (by omega) H,ye,H];kernel_rfl
theorem PP(a b:Int)(I:dP a 3=1)(H:dP b 4=3):aG 2000 a b=some true:=by
 unfold aG;simp only[I,gO 2000 (by omega) b _ _ 3 (by omega) H,ye,H];kernel_rfl
theorem Qn(a b:Int)(I:dP a 3=2)(H:dP b 4=0):aG 2000 a b=some true:=by
 unfold aG;simp only[I,gO 2000 (by omega) b _ _ 0 (by omega) H,ye,H];kernel_rfl
theorem Pv(a b:Int)(I:dP a 3=2)(H:dP b 4=1):aG 2000 a b=some true:=by
 unfold aG;simp only[I,gO 2000 (by omega) b _ _ 1 (by omega) H,ye,H];kernel_rfl
theorem Qm(a b:Int)(I:dP a 3=2)(H:dP b 4=2):aG 2000 a b=some true:=by
 unfold aG;simp only[I,gO 2000 (by omega) b _ _ 2 (by omega) H,ye,H];kernel_rfl
theorem PK(a b:Int)(I:dP a 3=2)(H:dP b 4=3):aG 2000 a b=some true:=by
 unfold aG;simp only[I,gO 2000 (by omega) b _ _ 3 (by omega) H,ye,H];kernel_rfl
theorem L0(a b:Int)(J:0≤a)(K:0≤b):aG 2000 a b=some true:=by
 have e:a%3=0\/a%3=1\/a%3=2:=by omega
 have I:b%4=0\/b%4=1\/b%4=2\/b%4=3:=by omega
 rcases e with h|h|h<;>rcases I with H|H|H|H<;>rw[<-m8 J]at h<;>rw[<-m8 K]at H
 ·exact P4 a b h H
 ·exact PQ a b h H
 ·exact P1 a b h H
 ·exact Py a b h H
 ·exact Px a b h H
 ·exact Qa a b h H
 ·exact PM a b h H
 ·exact PP a b h H
 ·exact Qn a b h H
 ·exact Pv a b h H
 ·exact Qm a b h H
 ·exact PK a b h H
end Sx
end
section
namespace Sx
open Go Go.Ab
theorem Hz{n:Int}(h:(Lit.int .u8 n).wf=true):0≤n:=by
 have h:(decide (IntKind.u8.min≤n)&&decide (n≤IntKind.u8.max))=true:=h;simp only[yb,decide_eq_true_eq]at h;have:IntKind.u8.min=0:=by decide
 omega
theorem Js(d:Int×Int)(H:Ar (.cons (.int .u8) (.cons (.int .u8) .nil)) d): ∃n,aC n d.1 d.2=some true:=by
 obtain⟨h1,h2,_⟩:(Lit.int .u8 d.1).wf=true/\(Lit.int .u8 d.2).wf=true/\True:=H;exact⟨2000,Ma d.1 d.2 (Hz h1) (Hz h2)⟩
theorem IM(d:Int×Int)(H:Ar (.cons (.int .u8) (.cons (.int .u8) .nil)) d): ∃n,aG n d.1 d.2=some true:=by
 obtain⟨h1,h2,_⟩:(Lit.int .u8 d.1).wf=true/\(Lit.int .u8 d.2).wf=true/\True:=H;exact⟨2000,L0 d.1 d.2 (Hz h1) (Hz h2)⟩
end Sx
end
