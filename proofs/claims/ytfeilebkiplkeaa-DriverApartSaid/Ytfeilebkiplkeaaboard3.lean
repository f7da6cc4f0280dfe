/- The makers of small inputs: Pick, Bools. -/
import Derived.Test.Ytfeilebkiplkeaaboard2
namespace Go.Proofs.Ytfeilebkiplkeaa
set_option linter.unusedSimpArgs false
set_option linter.unusedVariables false
set_option linter.unnecessarySimpa false
open Go.Abs
set_option maxRecDepth 100000
end Go.Proofs.Ytfeilebkiplkeaa
