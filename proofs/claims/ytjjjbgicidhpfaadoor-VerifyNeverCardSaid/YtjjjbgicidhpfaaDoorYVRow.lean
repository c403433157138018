import Derived.Test.YtjjjbgicidhpfaaDoorLaw2
set_option linter.unusedVariables false
namespace Sx
open Go Go.Ab
abbrev XK:Ty:= .cons .bool (.sl true Xn)
def FV:Sh:= .sl true false (.sl true XK)
theorem Ob(d:Nu)(hf:oO (.cons Lk .nil) d): ∃n,kQ n d.1 d.2.1 d.2.2.1 d.2.2.2.1 d.2.2.2.2=some true:=by
 obtain⟨h1,_⟩:oO Lk d/\True:=hf;exact⟨10000,MW (Gw d) (kV (d:=d) h1).1 (kV (d:=d) h1).2⟩
theorem Mq(d:Nu×List (List bT))(hf:oO (.cons Lk (.cons FV .nil)) d): ∃n,j0 n d.1.1 d.1.2.1 d.1.2.2.1 d.1.2.2.2.1 d.1.2.2.2.2 d.2=some true:=by
 obtain⟨h1,_⟩:oO Lk d.1/\oO FV d.2/\True:=hf;exact⟨10000,Lm (Gw d.1) (kV (d:=d.1) h1).1 (kV (d:=d.1) h1).2 d.2⟩
theorem Ly(d:Nu×List (List bT))(hf:oO (.cons Lk (.cons FV .nil)) d): ∃n,kB n d.1.1 d.1.2.1 d.1.2.2.1 d.1.2.2.2.1 d.1.2.2.2.2 d.2=some true:=by
 obtain⟨h1,_⟩:oO Lk d.1/\oO FV d.2/\True:=hf;exact⟨10000,Mb (Gw d.1) (kV (d:=d.1) h1).1 (kV (d:=d.1) h1).2 d.2⟩
end Sx
