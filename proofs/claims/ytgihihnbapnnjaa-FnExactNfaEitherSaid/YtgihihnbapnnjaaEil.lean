/- NfaEither: both answers, in the order of a law's arguments. -/
import Derived.Test.YtgihihnbapnnjaaEiw
import Derived.Test.YtgihihnbapnnjaaSei
set_option linter.unusedSimpArgs false
set_option linter.unusedVariables false
set_option linter.unusedSectionVars false
namespace Go.Proofs.Ytgihihnbapnnjaa
open Go.RowKit
variable {S T : Nat → Prop}
theorem NfaEither_l (vma vfa vea : Value) (A : NfaD) (vmb vfb veb : Value) (B : NfaD) (w : World) (hA : NfaR S w vma vfa vea A) (hB : NfaR T w vmb vfb veb B) :
    Calls Try.prog 49 #[.agg #[.int .i64 A.states, vma, vfa, vea], .agg #[.int .i64 B.states, vmb, vfb, veb]] w (RNb w (eiN A B) (eiB A B)) := NfaEither_c _ _ _ _ _ _ A B w hA hB
theorem sNfaEither_l (vma vfa vea : Value) (A : NfaD) (vmb vfb veb : Value) (B : NfaD) (w : World) (hA : NfaR S w vma vfa vea A) (hB : NfaR T w vmb vfb veb B) :
    Calls Try.prog 48 #[.agg #[.int .i64 A.states, vma, vfa, vea], .agg #[.int .i64 B.states, vmb, vfb, veb]] w (RNb w (eiN A B) (eiB A B)) := sNfaEither_c _ _ _ _ _ _ A B w hA hB
end Go.Proofs.Ytgihihnbapnnjaa
