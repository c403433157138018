import Derived.Test.YtjjjbgicidhpfaaDoorLib8
import Derived.Laws.Strings
import Derived.IntWalk
set_option linter.unusedVariables false
set_option linter.unusedSimpArgs false
namespace Go.Ab
theorem cL{a b:Int}(J: -9223372036854775808≤a+b)(H:a+b≤9223372036854775807):aX .i64 a b=a+b:=IntWalk.i64_in _ ⟨J,H⟩
theorem cT{a b:Int}(J: -9223372036854775808≤a-b)(H:a-b≤9223372036854775807):bO .i64 a b=a-b:=IntWalk.i64_in _ ⟨J,H⟩
theorem K0{a b:Int}(J: -9223372036854775808≤a*b)(H:a*b≤9223372036854775807):QU .i64 a b=a*b:=IntWalk.i64_in _ ⟨J,H⟩
theorem B1{a:Int}(H:0≤a)(J:a≤255):jT .u8 a=a:=IntWalk.u8_in _ ⟨H,J⟩
theorem Kd(a:Int):IntKind.u64.wrap a=a%18446744073709551616:=by simp[IntKind.wrap,IntKind.bits,IntKind.signed]
theorem qN{a:Int}(h1:0≤a)(h2:a≤18446744073709551615):jT .u64 a=a:=by
 show IntKind.u64.wrap a=a;rw[Kd];omega
theorem Fi(a:Int):jT .u8 a=a%256:=IntKind.wrap_u8 a
theorem KR{a b:Int}(h:0≤a):S8 a b=a%b:=Int.tmod_eq_emod_of_nonneg h
theorem aP{α:Type}(xs:List α)(i:Nat):aM xs (i:Int)=xs[i]?:=by
 unfold aM;rw[decide_eq_true (by omega)];rfl
theorem aD{α:Type}(xs:List α):aC xs=(xs.length:Int):=rfl
theorem T7{x:Int}(h:(Lit.int .u64 x).wf=true):0≤x/\x≤18446744073709551615:=by
 simp only[Lit.wf,yc,decide_eq_true_eq,IntKind.min,IntKind.max,IntKind.signed,IntKind.bits]at h;simpa using h
theorem CC{x:Int}(h:(Lit.int .i64 x).wf=true): -9223372036854775808≤x/\x≤9223372036854775807:=by
 simp only[Lit.wf,yc,decide_eq_true_eq,IntKind.min,IntKind.max,IntKind.signed,IntKind.bits]at h;simpa using h
end Go.Ab
