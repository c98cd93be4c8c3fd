/- The things that stand under way in a drawn region, packed. -/
import Derived.Test.YtbcjhiponbfbnaaRgi
set_option linter.unusedSimpArgs false
set_option linter.unusedVariables false
set_option linter.unusedSectionVars false
namespace Go.Proofs.Ytbcjhiponbfbnaa
open Go.RowKit
structure Vb where
  (b0 b1 b2 b3 b4 b5 b6 b7 b8 b9 b10 b11 b12 b13 b14 b15 b16 b17 b18 b19 b20 b21 b22 b23 b24 b25 b26 b27 b28 b29 b30 b31 : Bool)
structure Vx where
  (x0 x1 x2 x3 x4 x5 x6 x7 x8 x9 x10 x11 x12 x13 x14 x15 : Value)
structure Vr where
  (h : Option (Nat × Obj))
  (r0 r1 r2 r3 r4 r5 r6 r7 : Option Rw)
end Go.Proofs.Ytbcjhiponbfbnaa
