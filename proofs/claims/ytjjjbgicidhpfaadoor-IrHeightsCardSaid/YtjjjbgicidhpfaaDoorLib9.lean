import Derived.Test.YtjjjbgicidhpfaaDoorLib8
import Derived.Laws.Strings
import Derived.IntWalk
set_option linter.unusedVariables false
set_option linter.unusedSimpArgs false
namespace Go.Ab
theorem aW{a b:Int}(J: -9223372036854775808≤a+b)(H:a+b≤9223372036854775807):aK .i64 a b=a+b:=IntWalk.i64_in _ ⟨J,H⟩
theorem cW{a b:Int}(J: -9223372036854775808≤a-b)(H:a-b≤9223372036854775807):bY .i64 a b=a-b:=IntWalk.i64_in _ ⟨J,H⟩
theorem Nj{a b:Int}(J: -9223372036854775808≤a*b)(H:a*b≤9223372036854775807):SJ .i64 a b=a*b:=IntWalk.i64_in _ ⟨J,H⟩
theorem wW{a:Int}(J:0≤a)(H:a≤255):bJ .u8 a=a:=IntWalk.u8_in _ ⟨J,H⟩
theorem Hr(a:Int):IntKind.u64.wrap a=a%18446744073709551616:=by simp[IntKind.wrap,IntKind.bits,IntKind.signed]
theorem eM{a:Int}(h1:0≤a)(h2:a≤18446744073709551615):bJ .u64 a=a:=by
 show IntKind.u64.wrap a=a;rw[Hr];omega
theorem GX(a:Int):bJ .u8 a=a%256:=IntKind.wrap_u8 a
theorem Ga{a b:Int}(h:0≤a):ST a b=a%b:=Int.tmod_eq_emod_of_nonneg h
theorem aE{α:Type}(xs:List α)(i:Nat):aF xs (i:Int)=xs[i]?:=by
 unfold aF;rw[decide_eq_true (by omega)];rfl
theorem aB{α:Type}(xs:List α):aC xs=(xs.length:Int):=rfl
theorem V5{x:Int}(h:(Lit.int .u64 x).wf=true):0≤x/\x≤18446744073709551615:=by
 simp only[Lit.wf,yc,decide_eq_true_eq,IntKind.min,IntKind.max,IntKind.signed,IntKind.bits]at h;simpa using h
theorem E4{x:Int}(h:(Lit.int .i64 x).wf=true): -9223372036854775808≤x/\x≤9223372036854775807:=by
 simp only[Lit.wf,yc,decide_eq_true_eq,IntKind.min,IntKind.max,IntKind.signed,IntKind.bits]at h;simpa using h
end Go.Ab
