/- Merged from the texts Tn2 to Tn2: an evaluator for the program's code and its soundness; how a law's statement follows of one run. No conditions. -/
import Derived.Test.YtmckgecnalaogaaGreatMuG
section
/- The live question of these laws, answered. -/
open Go Go.Mu Go.Proofs
set_option maxRecDepth 100000
namespace Go.Tn
theorem alive0 : isTrue ((runG C S0 400).1 10 [] { nx := 0, ob := .leaf }) = true := by kernel_rfl
end Go.Tn
end
