/-
  Appending one int to a row of its own.
-/
import Derived.Test.YtdepnglgbgpahaaGreatVfSmall
set_option linter.unusedSectionVars false
set_option linter.unusedVariables false
set_option linter.unusedSimpArgs false
namespace Go.Proofs.YtdepnglgbgpahaaGreat
open Go Go.VE Go.Proofs

theorem slc_all' {vs : List Value} {n : Nat} (h : vs.length = n) : slc vs 0 n = some vs := slc_all h

theorem append_nil {s : St} {q : Nat} {k : Int} (hq : s.get q = some (.cells [.int .i64 k] 1)) :
    appendA T 25 25 (.slice none 0 0) (.slice (some ⟨q, 0, none⟩) 1 2) s = some (.slice (some ⟨s.nx, 0, none⟩) 1 1, s.push (.cells [.int .i64 k] 1)) := by
  have h1 : slc [Value.int .i64 k] 0 1 = some [.int .i64 k] := rfl
  simp [appendA, ty25, ty3, appendB, sliceCells, rd, hq, h1, lenV, appendOp, len, oneCell, fits, unknownCap, ok]

theorem append_row {s : St} {q r m : Nat} {k : Int} {olds : List Value} (hq : s.get q = some (.cells [.int .i64 k] 1)) (hr : s.get r = some (.cells olds 1)) (hm : olds.length = m) (h0 : 0 < m) (h4 : m ≤ 40) :
    appendA T 25 25 (.slice (some ⟨r, 0, none⟩) m 1) (.slice (some ⟨q, 0, none⟩) 1 2) s = some (.slice (some ⟨s.nx, 0, none⟩) (m + 1) 1, (s.put r none).push (.cells (olds ++ [.int .i64 k]) 1)) := by
  have h1 : slc [Value.int .i64 k] 0 1 = some [.int .i64 k] := rfl
  have h2 : slc olds 0 m = some olds := slc_all hm
  have h3 : fits (m + 1) 8 = true := by
    unfold fits
    simp only [Bool.and_eq_true, Nat.ble_eq]
    omega
  have h5 : ¬ m = 0 := by omega
  simp [appendA, ty25, ty3, appendB, sliceCells, rd, hq, hr, h1, h2, h3, h5, lenV, appendOp, len, oneCell, unknownCap, ok, appendTo, appendOpen, app_eq]

theorem fill_one (k : Int) : Instr.fill (fun i => some (i * 1, 1)) (zeros [.int .i64 0] 1).toArray [(0, .int .i64 k)] = some #[.int .i64 k] := rfl
end Go.Proofs.YtdepnglgbgpahaaGreat
namespace Go.Proofs.YtdepnglgbgpahaaGreat
open Go Go.VE Go.Proofs
theorem fill_one' (k : Int) : Instr.fill (fun i => some (i, 1)) (zeros [.int .i64 0] 1).toArray [(0, .int .i64 k)] = some #[.int .i64 k] := rfl
theorem cells_int (j : IntKind) (n : Int) : (Value.int j n).cells = #[.int j n] := rfl
theorem exact_one : VE.exact 1 = 2 := rfl
end Go.Proofs.YtdepnglgbgpahaaGreat
