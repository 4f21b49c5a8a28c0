/-
  No cell of these rows narrows 'for every input' (looked for: loops, veiled, ifaces, maps, wideKeys, modest, calm, conditions, laid).
  DERIVED. THE GIVEN ROWS OF THIS SEAT. 3 by the template 'for every input the law returns true; each argument reads behind the call as it read before'; 0 by the template 'total and deterministic' (their statements: YtdepnglgbgpahaaGreatTotals.lean).
  GIVEN WITH THE SEED: the statements are not yours to turn. If you find one false, say at which input.
  Laid BY PROGRAM, IN A SANDBOX (cutbox-rows.mjs): the forced cells as the released guide's own fill.sh prints them over the translation d6c67f99d1688cf1… (all of the seat's roots in one cut). By AI agents, Wed Nov 11 2026. No macro, syntax, notation, axiom, sorry.
-/
import Derived.Test.YtdepnglgbgpahaaGreatChecked
import GoSem.Claim
import GoSem.ClaimJoined
import GoSem.ClaimMapViews
import Derived.JoinedTies
import Derived.KernelRfl
namespace Go.Proofs.YtdepnglgbgpahaaGreat
/- THE CELL 'sum', in the pinned program and in every row, IS THE sha256 OF THE DUMP (.gsa) THAT YtdepnglgbgpahaaGreatProg.lean LOADS. Nothing in Lean hashes anything: it is a label: what it is worth is what the hold of that sum in a sandbox is worth. -/
noncomputable def Tryz.pinned : Pinned := { name := "ytdepnglgbgpahaagreat", sum := "d6c67f99d1688cf1f7a866e7a1cbc9837e90f79925712ea6c2fcfa09a0a3f9cb", checked := Tryz.checked }
namespace Rows
def none {H : Type} : Left H := { results := [], args := [] }

/-- 'veneerlaw17.HistTimes': WHATEVER THE INPUT: true; the input reads as it did. -/
def histTimesSpec : ChangeSpec := { name := "histTimes", fn := fun _ => fun
  | [d] => { results := [.lit (.bool true)], args := [d] }
  | _ => none }
def histTimesRow : OpenClaim := { program := "ytdepnglgbgpahaagreat", sum := "d6c67f99d1688cf1f7a866e7a1cbc9837e90f79925712ea6c2fcfa09a0a3f9cb", func := "veneer/veneerlaw17.HistTimes", spec := "histTimes", inPlace := ["internal/bytealg.IndexByteString", "internal/bytealg.abigen_runtime_cmpstring", "slices.overlaps[veneer/api.Entry]"], unfollowed := true, recurses := true, apart := false }
def HistTimesSaid : Prop := histTimesRow.holds Tryz.pinned (OpenSpec.ofChange histTimesSpec)

/-- ITS FALSE NEIGHBOUR: 'it returns false'. Refute it at one input. -/
def histTimesWrong : ChangeSpec := { name := "histTimes", fn := fun _ => fun
  | [d] => { results := [.lit (.bool false)], args := [d] }
  | _ => none }
def HistTimesWrongFalsely : Prop := histTimesRow.holds Tryz.pinned (OpenSpec.ofChange histTimesWrong)

/-- 'veneerlaw17.HistAhead': WHATEVER THE INPUT: true; the input reads as it did. -/
def histAheadSpec : ChangeSpec := { name := "histAhead", fn := fun _ => fun
  | [d1, d2, d3] => { results := [.lit (.bool true)], args := [d1, d2, d3] }
  | _ => none }
def histAheadRow : OpenClaim := { program := "ytdepnglgbgpahaagreat", sum := "d6c67f99d1688cf1f7a866e7a1cbc9837e90f79925712ea6c2fcfa09a0a3f9cb", func := "veneer/veneerlaw17.HistAhead", spec := "histAhead", inPlace := ["internal/bytealg.IndexByteString", "internal/bytealg.abigen_runtime_cmpstring", "slices.overlaps[veneer/api.Entry]"], unfollowed := true, recurses := true, apart := false }
def HistAheadSaid : Prop := histAheadRow.holds Tryz.pinned (OpenSpec.ofChange histAheadSpec)

/-- ITS FALSE NEIGHBOUR: 'it returns false'. Refute it at one input. -/
def histAheadWrong : ChangeSpec := { name := "histAhead", fn := fun _ => fun
  | [d1, d2, d3] => { results := [.lit (.bool false)], args := [d1, d2, d3] }
  | _ => none }
def HistAheadWrongFalsely : Prop := histAheadRow.holds Tryz.pinned (OpenSpec.ofChange histAheadWrong)

/-- 'veneerlaw17.HistNever': WHATEVER THE INPUT: true; the input reads as it did. -/
def histNeverSpec : ChangeSpec := { name := "histNever", fn := fun _ => fun
  | [d1, d2] => { results := [.lit (.bool true)], args := [d1, d2] }
  | _ => none }
def histNeverRow : OpenClaim := { program := "ytdepnglgbgpahaagreat", sum := "d6c67f99d1688cf1f7a866e7a1cbc9837e90f79925712ea6c2fcfa09a0a3f9cb", func := "veneer/veneerlaw17.HistNever", spec := "histNever", inPlace := ["internal/bytealg.IndexByteString", "internal/bytealg.abigen_runtime_cmpstring", "slices.overlaps[veneer/api.Entry]"], unfollowed := true, recurses := true, apart := false }
def HistNeverSaid : Prop := histNeverRow.holds Tryz.pinned (OpenSpec.ofChange histNeverSpec)

/-- ITS FALSE NEIGHBOUR: 'it returns false'. Refute it at one input. -/
def histNeverWrong : ChangeSpec := { name := "histNever", fn := fun _ => fun
  | [d1, d2] => { results := [.lit (.bool false)], args := [d1, d2] }
  | _ => none }
def HistNeverWrongFalsely : Prop := histNeverRow.holds Tryz.pinned (OpenSpec.ofChange histNeverWrong)

/- THE SECOND FORM. 'bulk': how many values and letters a reading holds, each counted each time it is reached (what is shared counts as often as it is met; a slice's spare places count too). A statement '..UptoSaid' is the law's where the arguments, and the package variables that the reading takes, are together of bulk at most 1048576: NARROWER than '..Said'. Prove '..Said' where nothing that the law and all that it calls make is longer than what came in: it says more and counts as full. Else prove '..UptoSaid'. A law counts once. -/
mutual
def uptoBulk {H : Type} : DataW H → Nat
  | .lit (.string bytes) => bytes.length + 1
  | .lit _ => 1
  | .nil => 1
  | .ptr d => uptoBulk d + 1
  | .slice elems spare => uptoBulkAll elems + uptoBulkAll spare + 1
  | .agg parts => uptoBulkAll parts + 1
  | .iface _ d => uptoBulk d + 1
  | .map entries => uptoBulkEntries entries + 1
  | .held _ => 1
def uptoBulkAll {H : Type} : List (DataW H) → Nat
  | [] => 0
  | d :: r => uptoBulk d + uptoBulkAll r
def uptoBulkEntries {H : Type} : List (Lit × DataW H) → Nat
  | [] => 0
  | x :: r => uptoBulkEntry x + uptoBulkEntries r
def uptoBulkEntry {H : Type} : Lit × DataW H → Nat
  | (.string bytes, d) => bytes.length + uptoBulk d + 1
  | (_, d) => uptoBulk d + 1
 end
def uptoSmall : (H : Type) → List (DataW H) → Bool := fun _ ds => decide (uptoBulkAll ds ≤ 1048576)
def OpenSpec.upto (s : _root_.Go.ChangeSpec) : _root_.Go.OpenSpec := { _root_.Go.OpenSpec.ofChange s with cond := some uptoSmall }

/-- 'veneerlaw17.HistTimes', WHERE WHAT IT READS IS OF BULK AT MOST 1048576: true; the input reads as it did. -/
def histTimesUptoRow : OpenClaim := { program := "ytdepnglgbgpahaagreat", sum := "d6c67f99d1688cf1f7a866e7a1cbc9837e90f79925712ea6c2fcfa09a0a3f9cb", func := "veneer/veneerlaw17.HistTimes", spec := "histTimes", inPlace := ["internal/bytealg.IndexByteString", "internal/bytealg.abigen_runtime_cmpstring", "slices.overlaps[veneer/api.Entry]"], unfollowed := true, recurses := true, apart := false, narrowed := true }
def HistTimesUptoSaid : Prop := histTimesUptoRow.holds Tryz.pinned (OpenSpec.upto histTimesSpec)

/-- 'veneerlaw17.HistAhead', WHERE WHAT IT READS IS OF BULK AT MOST 1048576: true; the input reads as it did. -/
def histAheadUptoRow : OpenClaim := { program := "ytdepnglgbgpahaagreat", sum := "d6c67f99d1688cf1f7a866e7a1cbc9837e90f79925712ea6c2fcfa09a0a3f9cb", func := "veneer/veneerlaw17.HistAhead", spec := "histAhead", inPlace := ["internal/bytealg.IndexByteString", "internal/bytealg.abigen_runtime_cmpstring", "slices.overlaps[veneer/api.Entry]"], unfollowed := true, recurses := true, apart := false, narrowed := true }
def HistAheadUptoSaid : Prop := histAheadUptoRow.holds Tryz.pinned (OpenSpec.upto histAheadSpec)

/-- 'veneerlaw17.HistNever', WHERE WHAT IT READS IS OF BULK AT MOST 1048576: true; the input reads as it did. -/
def histNeverUptoRow : OpenClaim := { program := "ytdepnglgbgpahaagreat", sum := "d6c67f99d1688cf1f7a866e7a1cbc9837e90f79925712ea6c2fcfa09a0a3f9cb", func := "veneer/veneerlaw17.HistNever", spec := "histNever", inPlace := ["internal/bytealg.IndexByteString", "internal/bytealg.abigen_runtime_cmpstring", "slices.overlaps[veneer/api.Entry]"], unfollowed := true, recurses := true, apart := false, narrowed := true }
def HistNeverUptoSaid : Prop := histNeverUptoRow.holds Tryz.pinned (OpenSpec.upto histNeverSpec)

end Rows
end Go.Proofs.YtdepnglgbgpahaaGreat
