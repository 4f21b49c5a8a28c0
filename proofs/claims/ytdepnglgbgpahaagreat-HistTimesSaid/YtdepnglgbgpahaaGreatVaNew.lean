/-
  branch.New's result, worked out.
-/
import Derived.Test.YtdepnglgbgpahaaGreatProg
import Derived.Test.YtdepnglgbgpahaaGreatVeSum
import Derived.KernelRfl
set_option linter.unusedSectionVars false
set_option linter.unusedVariables false
set_option linter.unusedSimpArgs false
namespace Go.Proofs.YtdepnglgbgpahaaGreat
open Go Go.VE Go.Proofs

noncomputable def T : Tab := tabOf Tryz.prog [(162, .indexByteString), (175, .cmpString)]

theorem fits162 : ExtFits Tryz.prog 162 .indexByteString := ⟨Tryz.f162, Tryz.func162, by kernel_rfl, by kernel_rfl, by kernel_rfl, by kernel_rfl⟩
theorem fits175 : ExtFits Tryz.prog 175 .cmpString := ⟨Tryz.f175, Tryz.func175, by kernel_rfl, by kernel_rfl, by kernel_rfl, by kernel_rfl⟩
theorem T_ok : TabOk Tryz.prog T := tabOf_ok fun p hp => by
  simp only [List.mem_cons, List.not_mem_nil, or_false] at hp
  rcases hp with rfl | rfl
  · exact fits162
  · exact fits175

def ptr (i : Nat) : Value := .pointer (some ⟨i, 0, none⟩)
def free : Nat → Nat → List Value
  | 0, _ => []
  | n + 1, i => .int .i64 (.ofNat (i + 2)) :: .int .i64 (.ofNat (i + 2)) :: .int .i64 (.ofNat i) :: free n (i + 1)
def nils : Nat → List Value → List Value
  | 0, l => l
  | n + 1, l => .pointer none :: nils n l

def newSm (room : Int) : Sm where
  f := 20
  args := [.int .i64 room]
  v := ptr 2
  objs := [
    some (.cells [.int .i64 room, .int .i64 0] 0),
    some (.cells [.slice (some ⟨3, 0, none⟩) 199 1, .int .i64 199] 0),
    some (.cells (ptr 0 :: .pointer none :: ptr 5 :: nils 199 [ptr 1]) 0),
    some (.cells (free 199 0) 3),
    some (.cells [.slice none 0 0] 0),
    some (.cells [.int .i64 2, .int .i64 1, .int .i64 0, .int .i64 0, .int .i64 1, .pointer none, ptr 4, .string ⟨#[]⟩] 0)]

def newOlds : List Nat := [0, 1, 2, 794, 797, 798]
noncomputable def plainCall : CallR := (evS Tryz.prog T (fun _ _ _ => none) 10000).1
end Go.Proofs.YtdepnglgbgpahaaGreat
