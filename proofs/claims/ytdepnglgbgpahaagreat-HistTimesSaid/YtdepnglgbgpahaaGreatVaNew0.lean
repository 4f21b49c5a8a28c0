import Derived.Test.YtdepnglgbgpahaaGreatVaNew
set_option linter.unusedSectionVars false
set_option linter.unusedVariables false
set_option linter.unusedSimpArgs false
namespace Go.Proofs.YtdepnglgbgpahaaGreat
open Go Go.VE Go.Proofs
set_option maxRecDepth 100000 in
theorem new0 : (newSm 0).check newOlds plainCall = true := by kernel_rfl
end Go.Proofs.YtdepnglgbgpahaaGreat
