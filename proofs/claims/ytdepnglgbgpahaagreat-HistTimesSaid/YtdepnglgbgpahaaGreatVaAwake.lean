import Derived.Test.YtdepnglgbgpahaaGreatVaNew
set_option linter.unusedSectionVars false
set_option linter.unusedVariables false
set_option linter.unusedSimpArgs false
namespace Go.Proofs.YtdepnglgbgpahaaGreat
open Go Go.VE Go.Proofs
noncomputable def newCall : CallR := (evS Tryz.prog T (orElseR (newSm 65536).run (newSm 0).run) 10000).1
def isTrue (r : Res) : Bool := match r with | some (.bool b, _) => b | _ => false
set_option maxRecDepth 100000 in
theorem awake_ev : isTrue (newCall 6 [] ⟨.nil, 0⟩) = true := by kernel_rfl
end Go.Proofs.YtdepnglgbgpahaaGreat
