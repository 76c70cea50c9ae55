/-
  Parts of a proof: see the row.
-/
import Derived.Test.YtljdcbcjdlpbgaaV2Lib
import Derived.Test.YtljdcbcjdlpbgaaNums
set_option linter.unusedVariables false
set_option linter.unusedSimpArgs false
