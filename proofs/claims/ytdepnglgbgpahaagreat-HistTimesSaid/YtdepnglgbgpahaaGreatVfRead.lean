/-
  An event as the statement reads it: 18 cells.
-/
import Derived.Test.YtdepnglgbgpahaaGreatVfTab
import Derived.ChangeArms
set_option linter.unusedSectionVars false
set_option linter.unusedVariables false
set_option linter.unusedSimpArgs false
namespace Go.Proofs.YtdepnglgbgpahaaGreat
open Go Go.VE Go.Proofs Go.ChangeShapes Go.WideShapes
variable {H : Type} {enc : TypeId × Value → H} {w : World} {base : Nat} {spare : Nat → Bool} {held : Bool}

theorem take_one {cs : List Value} {o : Nat} {a : Value} (h : (cs.drop o).take 1 = [a]) : cs[o]? = some a := by
  have : ((cs.drop o).take 1)[0]? = some a := by rw [h]; rfl
  rw [List.getElem?_take, if_pos (by omega), List.getElem?_drop] at this
  simpa using this
theorem drop_at {cs : List Value} {o n i : Nat} {a : Value} (h : ((cs.drop o).take n)[i]? = some a) : cs[o + i]? = some a := by
  rw [List.getElem?_take] at h
  split at h
  · rwa [List.getElem?_drop] at h
  · cases h

theorem und2 : Tryz.prog.underlying 2 = some (.int .i64) := by kernel_rfl
theorem und3 : Tryz.prog.underlying 3 = some (.int .i64) := by kernel_rfl
theorem und31 : Tryz.prog.underlying 31 = some (.int .i64) := by kernel_rfl
theorem und4 : Tryz.prog.underlying 4 = some (.bool) := by kernel_rfl
theorem und9 : Tryz.prog.underlying 9 = some (.string) := by kernel_rfl
noncomputable def fs (t : TypeId) : Array Field := match Tryz.prog.underlying t with
  | some (.struct fs) => fs
  | _ => #[]
noncomputable def fo (t j : Nat) : Field := match (fs t)[j]? with
  | some f => f
  | none => ⟨ "", 0, 0, false, "", "", 0⟩
theorem und37 : Tryz.prog.underlying 37 = some (.struct (fs 37)) := by kernel_rfl
theorem g37_0 : (fs 37)[0]? = some (fo 37 0) ∧ (fo 37 0).type = 3 ∧ (fo 37 0).offset = 0 ∧ Tryz.prog.cellsOf 3 = 1 ∧ 0 < (fs 37).size := ⟨by kernel_rfl, by kernel_rfl, by kernel_rfl, by kernel_rfl, of_decide_eq_true (by kernel_rfl)⟩
theorem g37_1 : (fs 37)[1]? = some (fo 37 1) ∧ (fo 37 1).type = 30 ∧ (fo 37 1).offset = 1 ∧ Tryz.prog.cellsOf 30 = 7 ∧ 1 < (fs 37).size := ⟨by kernel_rfl, by kernel_rfl, by kernel_rfl, by kernel_rfl, of_decide_eq_true (by kernel_rfl)⟩
theorem g37_2 : (fs 37)[2]? = some (fo 37 2) ∧ (fo 37 2).type = 35 ∧ (fo 37 2).offset = 8 ∧ Tryz.prog.cellsOf 35 = 6 ∧ 2 < (fs 37).size := ⟨by kernel_rfl, by kernel_rfl, by kernel_rfl, by kernel_rfl, of_decide_eq_true (by kernel_rfl)⟩
theorem g37_3 : (fs 37)[3]? = some (fo 37 3) ∧ (fo 37 3).type = 2 ∧ (fo 37 3).offset = 14 ∧ Tryz.prog.cellsOf 2 = 1 ∧ 3 < (fs 37).size := ⟨by kernel_rfl, by kernel_rfl, by kernel_rfl, by kernel_rfl, of_decide_eq_true (by kernel_rfl)⟩
theorem g37_4 : (fs 37)[4]? = some (fo 37 4) ∧ (fo 37 4).type = 2 ∧ (fo 37 4).offset = 15 ∧ Tryz.prog.cellsOf 2 = 1 ∧ 4 < (fs 37).size := ⟨by kernel_rfl, by kernel_rfl, by kernel_rfl, by kernel_rfl, of_decide_eq_true (by kernel_rfl)⟩
theorem g37_5 : (fs 37)[5]? = some (fo 37 5) ∧ (fo 37 5).type = 2 ∧ (fo 37 5).offset = 16 ∧ Tryz.prog.cellsOf 2 = 1 ∧ 5 < (fs 37).size := ⟨by kernel_rfl, by kernel_rfl, by kernel_rfl, by kernel_rfl, of_decide_eq_true (by kernel_rfl)⟩
theorem g37_6 : (fs 37)[6]? = some (fo 37 6) ∧ (fo 37 6).type = 4 ∧ (fo 37 6).offset = 17 ∧ Tryz.prog.cellsOf 4 = 1 ∧ 6 < (fs 37).size := ⟨by kernel_rfl, by kernel_rfl, by kernel_rfl, by kernel_rfl, of_decide_eq_true (by kernel_rfl)⟩
theorem und22 : Tryz.prog.underlying 22 = some (.slice 37) := by kernel_rfl
theorem und30 : Tryz.prog.underlying 30 = some (.struct (fs 30)) := by kernel_rfl
theorem g30_0 : (fs 30)[0]? = some (fo 30 0) ∧ (fo 30 0).type = 3 ∧ (fo 30 0).offset = 0 ∧ Tryz.prog.cellsOf 3 = 1 ∧ 0 < (fs 30).size := ⟨by kernel_rfl, by kernel_rfl, by kernel_rfl, by kernel_rfl, of_decide_eq_true (by kernel_rfl)⟩
theorem g30_1 : (fs 30)[1]? = some (fo 30 1) ∧ (fo 30 1).type = 3 ∧ (fo 30 1).offset = 1 ∧ Tryz.prog.cellsOf 3 = 1 ∧ 1 < (fs 30).size := ⟨by kernel_rfl, by kernel_rfl, by kernel_rfl, by kernel_rfl, of_decide_eq_true (by kernel_rfl)⟩
theorem g30_2 : (fs 30)[2]? = some (fo 30 2) ∧ (fo 30 2).type = 3 ∧ (fo 30 2).offset = 2 ∧ Tryz.prog.cellsOf 3 = 1 ∧ 2 < (fs 30).size := ⟨by kernel_rfl, by kernel_rfl, by kernel_rfl, by kernel_rfl, of_decide_eq_true (by kernel_rfl)⟩
theorem g30_3 : (fs 30)[3]? = some (fo 30 3) ∧ (fo 30 3).type = 2 ∧ (fo 30 3).offset = 3 ∧ Tryz.prog.cellsOf 2 = 1 ∧ 3 < (fs 30).size := ⟨by kernel_rfl, by kernel_rfl, by kernel_rfl, by kernel_rfl, of_decide_eq_true (by kernel_rfl)⟩
theorem g30_4 : (fs 30)[4]? = some (fo 30 4) ∧ (fo 30 4).type = 2 ∧ (fo 30 4).offset = 4 ∧ Tryz.prog.cellsOf 2 = 1 ∧ 4 < (fs 30).size := ⟨by kernel_rfl, by kernel_rfl, by kernel_rfl, by kernel_rfl, of_decide_eq_true (by kernel_rfl)⟩
theorem g30_5 : (fs 30)[5]? = some (fo 30 5) ∧ (fo 30 5).type = 9 ∧ (fo 30 5).offset = 5 ∧ Tryz.prog.cellsOf 9 = 1 ∧ 5 < (fs 30).size := ⟨by kernel_rfl, by kernel_rfl, by kernel_rfl, by kernel_rfl, of_decide_eq_true (by kernel_rfl)⟩
theorem g30_6 : (fs 30)[6]? = some (fo 30 6) ∧ (fo 30 6).type = 9 ∧ (fo 30 6).offset = 6 ∧ Tryz.prog.cellsOf 9 = 1 ∧ 6 < (fs 30).size := ⟨by kernel_rfl, by kernel_rfl, by kernel_rfl, by kernel_rfl, of_decide_eq_true (by kernel_rfl)⟩
theorem und35 : Tryz.prog.underlying 35 = some (.struct (fs 35)) := by kernel_rfl
theorem g35_0 : (fs 35)[0]? = some (fo 35 0) ∧ (fo 35 0).type = 31 ∧ (fo 35 0).offset = 0 ∧ Tryz.prog.cellsOf 31 = 1 ∧ 0 < (fs 35).size := ⟨by kernel_rfl, by kernel_rfl, by kernel_rfl, by kernel_rfl, of_decide_eq_true (by kernel_rfl)⟩
theorem g35_1 : (fs 35)[1]? = some (fo 35 1) ∧ (fo 35 1).type = 2 ∧ (fo 35 1).offset = 1 ∧ Tryz.prog.cellsOf 2 = 1 ∧ 1 < (fs 35).size := ⟨by kernel_rfl, by kernel_rfl, by kernel_rfl, by kernel_rfl, of_decide_eq_true (by kernel_rfl)⟩
theorem g35_2 : (fs 35)[2]? = some (fo 35 2) ∧ (fo 35 2).type = 9 ∧ (fo 35 2).offset = 2 ∧ Tryz.prog.cellsOf 9 = 1 ∧ 2 < (fs 35).size := ⟨by kernel_rfl, by kernel_rfl, by kernel_rfl, by kernel_rfl, of_decide_eq_true (by kernel_rfl)⟩
theorem g35_3 : (fs 35)[3]? = some (fo 35 3) ∧ (fo 35 3).type = 33 ∧ (fo 35 3).offset = 3 ∧ Tryz.prog.cellsOf 33 = 3 ∧ 3 < (fs 35).size := ⟨by kernel_rfl, by kernel_rfl, by kernel_rfl, by kernel_rfl, of_decide_eq_true (by kernel_rfl)⟩
theorem und33 : Tryz.prog.underlying 33 = some (.struct (fs 33)) := by kernel_rfl
theorem g33_0 : (fs 33)[0]? = some (fo 33 0) ∧ (fo 33 0).type = 3 ∧ (fo 33 0).offset = 0 ∧ Tryz.prog.cellsOf 3 = 1 ∧ 0 < (fs 33).size := ⟨by kernel_rfl, by kernel_rfl, by kernel_rfl, by kernel_rfl, of_decide_eq_true (by kernel_rfl)⟩
theorem g33_1 : (fs 33)[1]? = some (fo 33 1) ∧ (fo 33 1).type = 3 ∧ (fo 33 1).offset = 1 ∧ Tryz.prog.cellsOf 3 = 1 ∧ 1 < (fs 33).size := ⟨by kernel_rfl, by kernel_rfl, by kernel_rfl, by kernel_rfl, of_decide_eq_true (by kernel_rfl)⟩
theorem g33_2 : (fs 33)[2]? = some (fo 33 2) ∧ (fo 33 2).type = 3 ∧ (fo 33 2).offset = 2 ∧ Tryz.prog.cellsOf 3 = 1 ∧ 2 < (fs 33).size := ⟨by kernel_rfl, by kernel_rfl, by kernel_rfl, by kernel_rfl, of_decide_eq_true (by kernel_rfl)⟩

/-- field j's cells -/
theorem field_trod {t j ty off sz : Nat} {n : Nat} {cs : List Value} {x : DataW H × List MemPlace} (hu : Tryz.prog.underlying t = some (.struct (fs t)))
    (g : (fs t)[j]? = some (fo t j) ∧ (fo t j).type = ty ∧ (fo t j).offset = off ∧ Tryz.prog.cellsOf ty = sz ∧ j < (fs t).size) (h : DataW.trod enc Tryz.prog w base spare held n t cs = some x) :
    ∃ m y, DataW.trod enc Tryz.prog w base spare held m ty ((cs.drop off).take sz) = some y := by
  obtain ⟨xs, m, _, _, _, hlen, hf⟩ := DataW.trod_struct hu h
  obtain ⟨g1, rfl, rfl, rfl, g5⟩ := g
  have := hf j _ g1
  rw [List.getElem?_eq_getElem (by omega)] at this
  exact ⟨m, _, this⟩
theorem int_of {ty off n : Nat} {cs : List Value} {y : DataW H × List MemPlace} (hu : Tryz.prog.underlying ty = some (.int .i64)) (h : DataW.trod enc Tryz.prog w base spare held n ty ((cs.drop off).take 1) = some y) : ∃ v, cs[off]? = some (.int .i64 v) := by
  obtain ⟨v, h1, _⟩ := DataW.trod_int hu h
  exact ⟨v, take_one h1⟩
theorem str_of {off n : Nat} {cs : List Value} {y : DataW H × List MemPlace} (h : DataW.trod enc Tryz.prog w base spare held n 9 ((cs.drop off).take 1) = some y) : ∃ v, cs[off]? = some (.string v) := by
  obtain ⟨v, h1, _⟩ := DataW.trod_string und9 h
  exact ⟨v, take_one h1⟩
theorem bool_of {off n : Nat} {cs : List Value} {y : DataW H × List MemPlace} (h : DataW.trod enc Tryz.prog w base spare held n 4 ((cs.drop off).take 1) = some y) : ∃ v, cs[off]? = some (.bool v) := by
  obtain ⟨v, h1, _⟩ := DataW.trod_bool und4 h
  exact ⟨v, take_one h1⟩

theorem event_open {n : Nat} {cs : List Value} {x : DataW H × List MemPlace} (hl : cs.length = 18) (h : DataW.trod enc Tryz.prog w base spare held n 37 cs = some x) :
    ∃ (fr at' to : Int) (bk : Bool) (sa sb : ByteArray), cs[6]? = some (.string sa) ∧ cs[7]? = some (.string sb) ∧ cs[14]? = some (.int .i64 fr) ∧ cs[15]? = some (.int .i64 at') ∧ cs[16]? = some (.int .i64 to) ∧ cs[17]? = some (.bool bk) ∧ cs.all atom = true := by
  obtain ⟨_, _, k0⟩ := field_trod und37 g37_0 h
  obtain ⟨v0, e0⟩ := int_of und3 k0
  obtain ⟨_, _, k1⟩ := field_trod und37 g37_1 h
  obtain ⟨_, _, k2⟩ := field_trod und30 g30_0 k1
  obtain ⟨v1, e1⟩ := int_of und3 k2
  replace e1 := drop_at e1
  obtain ⟨_, _, k3⟩ := field_trod und30 g30_1 k1
  obtain ⟨v2, e2⟩ := int_of und3 k3
  replace e2 := drop_at e2
  obtain ⟨_, _, k4⟩ := field_trod und30 g30_2 k1
  obtain ⟨v3, e3⟩ := int_of und3 k4
  replace e3 := drop_at e3
  obtain ⟨_, _, k5⟩ := field_trod und30 g30_3 k1
  obtain ⟨v4, e4⟩ := int_of und2 k5
  replace e4 := drop_at e4
  obtain ⟨_, _, k6⟩ := field_trod und30 g30_4 k1
  obtain ⟨v5, e5⟩ := int_of und2 k6
  replace e5 := drop_at e5
  obtain ⟨_, _, k7⟩ := field_trod und30 g30_5 k1
  obtain ⟨v6, e6⟩ := str_of k7
  replace e6 := drop_at e6
  obtain ⟨_, _, k8⟩ := field_trod und30 g30_6 k1
  obtain ⟨v7, e7⟩ := str_of k8
  replace e7 := drop_at e7
  obtain ⟨_, _, k9⟩ := field_trod und37 g37_2 h
  obtain ⟨_, _, k10⟩ := field_trod und35 g35_0 k9
  obtain ⟨v8, e8⟩ := int_of und31 k10
  replace e8 := drop_at e8
  obtain ⟨_, _, k11⟩ := field_trod und35 g35_1 k9
  obtain ⟨v9, e9⟩ := int_of und2 k11
  replace e9 := drop_at e9
  obtain ⟨_, _, k12⟩ := field_trod und35 g35_2 k9
  obtain ⟨v10, e10⟩ := str_of k12
  replace e10 := drop_at e10
  obtain ⟨_, _, k13⟩ := field_trod und35 g35_3 k9
  obtain ⟨_, _, k14⟩ := field_trod und33 g33_0 k13
  obtain ⟨v11, e11⟩ := int_of und3 k14
  replace e11 := drop_at e11
  replace e11 := drop_at e11
  obtain ⟨_, _, k15⟩ := field_trod und33 g33_1 k13
  obtain ⟨v12, e12⟩ := int_of und3 k15
  replace e12 := drop_at e12
  replace e12 := drop_at e12
  obtain ⟨_, _, k16⟩ := field_trod und33 g33_2 k13
  obtain ⟨v13, e13⟩ := int_of und3 k16
  replace e13 := drop_at e13
  replace e13 := drop_at e13
  obtain ⟨_, _, k17⟩ := field_trod und37 g37_3 h
  obtain ⟨v14, e14⟩ := int_of und2 k17
  obtain ⟨_, _, k18⟩ := field_trod und37 g37_4 h
  obtain ⟨v15, e15⟩ := int_of und2 k18
  obtain ⟨_, _, k19⟩ := field_trod und37 g37_5 h
  obtain ⟨v16, e16⟩ := int_of und2 k19
  obtain ⟨_, _, k20⟩ := field_trod und37 g37_6 h
  obtain ⟨v17, e17⟩ := bool_of k20
  refine ⟨v14, v15, v16, v17, v6, v7, e6, e7, e14, e15, e16, e17, ?_⟩
  rw [List.all_eq_true]
  intro v hv
  obtain ⟨i, hi⟩ := List.getElem?_of_mem hv
  have hlt : i < 18 := by have := (List.getElem?_eq_some_iff.1 hi).1; omega
  have key : ∀ {j : Nat} {u : Value}, cs[j]? = some u → atom u = true → i = j → atom v = true := by
    rintro j u h1 h2 rfl
    rw [hi] at h1
    obtain rfl := Option.some.inj h1
    exact h2
  have hc : i = 0 ∨ i = 1 ∨ i = 2 ∨ i = 3 ∨ i = 4 ∨ i = 5 ∨ i = 6 ∨ i = 7 ∨ i = 8 ∨ i = 9 ∨ i = 10 ∨ i = 11 ∨ i = 12 ∨ i = 13 ∨ i = 14 ∨ i = 15 ∨ i = 16 ∨ i = 17 := by omega
  rcases hc with z | z | z | z | z | z | z | z | z | z | z | z | z | z | z | z | z | z
  · exact key e0 rfl z
  · exact key e1 rfl z
  · exact key e2 rfl z
  · exact key e3 rfl z
  · exact key e4 rfl z
  · exact key e5 rfl z
  · exact key e6 rfl z
  · exact key e7 rfl z
  · exact key e8 rfl z
  · exact key e9 rfl z
  · exact key e10 rfl z
  · exact key e11 rfl z
  · exact key e12 rfl z
  · exact key e13 rfl z
  · exact key e14 rfl z
  · exact key e15 rfl z
  · exact key e16 rfl z
  · exact key e17 rfl z
end Go.Proofs.YtdepnglgbgpahaaGreat
