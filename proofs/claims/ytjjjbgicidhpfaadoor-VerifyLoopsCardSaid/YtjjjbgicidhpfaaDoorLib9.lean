import Derived.Test.YtjjjbgicidhpfaaDoorLib8
import Derived.Laws.Strings
import Derived.IntWalk
set_option linter.unusedVariables false
namespace Go.Ab
theorem Ey{a b:Int}(I: -9223372036854775808≤a+b)(H:a+b≤9223372036854775807):aR .i64 a b=a+b:=IntWalk.i64_in _ ⟨I,H⟩
theorem IJ{a:Int}(I: -9223372036854775808≤a)(H:a≤9223372036854775807):gF .i64 a=a:=IntWalk.i64_in _ ⟨I,H⟩
theorem m8{a b:Int}(h:0≤a):dP a b=a%b:=Int.tmod_eq_emod_of_nonneg h
end Go.Ab
