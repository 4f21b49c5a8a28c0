/-
  awake()'s contract.
-/
import Derived.Test.YtdepnglgbgpahaaGreatVaNew65536
import Derived.Test.YtdepnglgbgpahaaGreatVaNew0
import Derived.Test.YtdepnglgbgpahaaGreatVaAwake
import Derived.Test.YtdepnglgbgpahaaGreatChecked
import Derived.Eval
set_option linter.unusedSectionVars false
set_option linter.unusedVariables false
set_option linter.unusedSimpArgs false
namespace Go.Proofs.YtdepnglgbgpahaaGreat
open Go Go.VE Go.Proofs Go.RowKit

theorem mixed : Tryz.prog.follows .mixedOrders = true := Checked.mixed Tryz.checked

theorem newCall_ok : CallOk Tryz.prog newCall :=
  (evS_ok T_ok mixed (orElse_ok (Sm.run_ok rfl (Sm.ok_of_check (evS_ok T_ok mixed none_ok 10000).1 rfl new65536)) (Sm.run_ok rfl (Sm.ok_of_check (evS_ok T_ok mixed none_ok 10000).1 rfl new0))) 10000).1

/-- awake() returns true; nothing that was there turns. -/
theorem awake_any (W : World) : Calls Tryz.prog 6 #[] W fun e W' => e = .returned (.bool true) ∧ Below W.heap.size W W' := by
  have h := awake_ev
  cases hr : newCall 6 [] ⟨.nil, 0⟩ with
  | none => rw [hr] at h; cases h
  | some r =>
    obtain ⟨v, s⟩ := r
    rw [hr] at h
    have hv : v = .bool true := by
      unfold isTrue at h
      split at h
      · rename_i b s' e
        simp only [Option.some.injEq, Prod.mk.injEq] at e
        rw [e.1, h]
      · cases h
    subst hv
    exact calls_of_ok newCall_ok rfl hr rfl W
end Go.Proofs.YtdepnglgbgpahaaGreat
