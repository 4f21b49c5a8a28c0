/-
  The comparison that hist.Order sorts by (the kit's walk).
-/
import Derived.Test.YtdepnglgbgpahaaGreatProg
import Derived.Test.YtdepnglgbgpahaaGreatChecked
import Derived.Shelf.SlSortCmp.Whole1
import Derived.Shelf.SlSortCmp.NoneTotal
import Derived.Shelf.SlicesG.Cmp
import Derived.Test.YtdepnglgbgpahaaGreatVfLay
import Derived.Ground.SlsfProg
import Derived.Ground.SlgcProg
import Derived.Lib.RowBridge
import Derived.Lib.SortBridge
import Derived.WalkKit
import Derived.Deep.QuietTactic
import Derived.BigQuiet
set_option linter.unusedSectionVars false
set_option linter.unusedVariables false
set_option linter.unusedSimpArgs false
namespace Go.Proofs.YtdepnglgbgpahaaGreat
open Go Go.Proofs Go.RowKit Go.Lib Go.Sort Go.Shelf

set_option maxHeartbeats 1000000 in
theorem cmp14 (i j n c : Nat) (x xo b bo : Nat) (ai aj : Int) (W : World) (hi : i < n) (hj : j < n) (hn : n < 9223372036854775808)
    (hx : W.cell? ⟨x, xo, none⟩ = some (.slice (some ⟨b, bo, none⟩) n c)) (h1 : W.cell? ⟨b, bo + i * 18 + 15, none⟩ = some (.int .i64 ai)) (h2 : W.cell? ⟨b, bo + j * 18 + 15, none⟩ = some (.int .i64 aj)) :
    Calls Tryz.prog 14 #[.int .i64 (i : Int), .int .i64 (j : Int), .pointer (some ⟨x, xo, none⟩)] W fun e w' => e = .returned (.int .i64 (Lib.compareInt ai aj)) ∧ ∃ q, w' = W.drewN q := by
  have hcon := fun W => AnyG.cmp_Compare_int Tryz.cmpL ai aj W
  change ∀ W, Calls Tryz.prog 15 _ _ _ at hcon
  generalize Lib.compareInt ai aj = r at hcon ⊢
  go_enter Tryz.func14, Tryz.ntmps14
  go_wp2
  go_quiet ((go_at_call 15; exact Calls.quiet_of_same (hcon _)))
  rename_i Q' K ha
  show K _ _
  refine ha _ _ ?_
  go_wp2
  go_ret
  exact ⟨rfl, _, rfl⟩
end Go.Proofs.YtdepnglgbgpahaaGreat
