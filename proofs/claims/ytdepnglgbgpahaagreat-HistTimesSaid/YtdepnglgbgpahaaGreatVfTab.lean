/-
  What the program's table of types says.
-/
import Derived.Test.YtdepnglgbgpahaaGreatVaNew
import Derived.Test.YtdepnglgbgpahaaGreatVeStep
set_option linter.unusedSectionVars false
set_option linter.unusedVariables false
set_option linter.unusedSimpArgs false
namespace Go.Proofs.YtdepnglgbgpahaaGreat
open Go Go.VE Go.Proofs

noncomputable def zeroOf (k : Nat) : Value := match T.ty k with
  | some ti => ti.zero
  | none => .nilFunc
noncomputable def fieldsOf (k : Nat) : Array Field := match T.ty k with
  | some { d := .struct fs, .. } => fs
  | _ => #[]
noncomputable def fld (k f : Nat) : Field := match (fieldsOf k)[f]? with
  | some x => x
  | none => ⟨ "", 0, 0, false, "", "", 0⟩

theorem ty2 : T.ty 2 = some ⟨1, 8, .int .i64 0, false, .int .i64⟩ := by kernel_rfl
theorem ty3 : T.ty 3 = some ⟨1, 8, .int .i64 0, false, .int .i64⟩ := by kernel_rfl
theorem ty4 : T.ty 4 = some ⟨1, 1, .bool false, false, .bool⟩ := by kernel_rfl
theorem ty9 : T.ty 9 = some ⟨1, 16, .string ⟨#[]⟩, false, .string⟩ := by kernel_rfl
theorem ty22 : T.ty 22 = some ⟨1, 24, .slice none 0 0, false, .slice 37⟩ := by kernel_rfl
theorem ty25 : T.ty 25 = some ⟨1, 24, .slice none 0 0, false, .slice 3⟩ := by kernel_rfl
theorem ty28 : T.ty 28 = some ⟨1, 8, .map none, false, .map 3 3⟩ := by kernel_rfl
theorem ty39 : T.ty 39 = some ⟨1, 24, .slice none 0 0, false, .slice 47⟩ := by kernel_rfl
theorem ty48 : T.ty 48 = some ⟨1, 8, .map none, false, .map 2 4⟩ := by kernel_rfl
theorem ty30 : T.ty 30 = some ⟨7, 72, zeroOf 30, true, .struct (fieldsOf 30)⟩ := by kernel_rfl
theorem ty37 : T.ty 37 = some ⟨18, 168, zeroOf 37, true, .struct (fieldsOf 37)⟩ := by kernel_rfl
theorem ty47 : T.ty 47 = some ⟨3, 40, zeroOf 47, true, .struct (fieldsOf 47)⟩ := by kernel_rfl
theorem f37_1 : (fieldsOf 37)[1]? = some (fld 37 1) := by kernel_rfl
theorem t37_1 : (fld 37 1).type = 30 := by kernel_rfl
theorem o37_1 : (fld 37 1).offset = 1 := by kernel_rfl
theorem f37_3 : (fieldsOf 37)[3]? = some (fld 37 3) := by kernel_rfl
theorem t37_3 : (fld 37 3).type = 2 := by kernel_rfl
theorem o37_3 : (fld 37 3).offset = 14 := by kernel_rfl
theorem f37_4 : (fieldsOf 37)[4]? = some (fld 37 4) := by kernel_rfl
theorem t37_4 : (fld 37 4).type = 2 := by kernel_rfl
theorem o37_4 : (fld 37 4).offset = 15 := by kernel_rfl
theorem f37_5 : (fieldsOf 37)[5]? = some (fld 37 5) := by kernel_rfl
theorem t37_5 : (fld 37 5).type = 2 := by kernel_rfl
theorem o37_5 : (fld 37 5).offset = 16 := by kernel_rfl
theorem f37_6 : (fieldsOf 37)[6]? = some (fld 37 6) := by kernel_rfl
theorem t37_6 : (fld 37 6).type = 4 := by kernel_rfl
theorem o37_6 : (fld 37 6).offset = 17 := by kernel_rfl
theorem f30_5 : (fieldsOf 30)[5]? = some (fld 30 5) := by kernel_rfl
theorem t30_5 : (fld 30 5).type = 9 := by kernel_rfl
theorem o30_5 : (fld 30 5).offset = 5 := by kernel_rfl
theorem f30_6 : (fieldsOf 30)[6]? = some (fld 30 6) := by kernel_rfl
theorem t30_6 : (fld 30 6).type = 9 := by kernel_rfl
theorem o30_6 : (fld 30 6).offset = 6 := by kernel_rfl
theorem f47_0 : (fieldsOf 47)[0]? = some (fld 47 0) := by kernel_rfl
theorem t47_0 : (fld 47 0).type = 9 := by kernel_rfl
theorem o47_0 : (fld 47 0).offset = 0 := by kernel_rfl
theorem f47_2 : (fieldsOf 47)[2]? = some (fld 47 2) := by kernel_rfl
theorem t47_2 : (fld 47 2).type = 9 := by kernel_rfl
theorem o47_2 : (fld 47 2).offset = 2 := by kernel_rfl
end Go.Proofs.YtdepnglgbgpahaaGreat
