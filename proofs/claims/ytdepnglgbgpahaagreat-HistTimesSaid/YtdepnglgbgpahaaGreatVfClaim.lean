/-
  HistTimes: for every row of events the law answers true, and the row reads afterwards as it read before. No condition.
-/
import Derived.Test.YtdepnglgbgpahaaGreatVfJoin
import Derived.WalkKit
set_option linter.unusedSectionVars false
set_option linter.unusedVariables false
set_option linter.unusedSimpArgs false
namespace Go.Proofs.YtdepnglgbgpahaaGreat.histTimes
open Go Go.Proofs Go.ChangeShapes Go.WideShapes Go.ChangeAt Go.RowKit
set_option linter.unusedVariables false

theorem own : ownKnob Tryz.prog.godebug = none := by kernel_rfl
theorem laidOut : laidOutB Tryz.prog = true := by kernel_rfl

set_option maxRecDepth 100000 in
theorem contract (H : Type) (enc : TypeId × Value → H) (W : World) (base : Nat) (args : Array Value) (ds gs : List (DataW H)) (before : List MemPlace)
    (hval : ∀ (j : Nat) t v, Tryz.f3.params[j]? = some t → args[j]? = some v → Value.okWide Tryz.prog W .any base t v)
    (hW : DataW.Whole enc Tryz.prog Tryz.f3.params.toList Rows.histTimesSpec.vars false W args.toList ds gs before) :
    Calls Tryz.prog 3 args W fun e W' => ∃ v, e = .returned v ∧ Rows.histTimesSpec.post enc Tryz.prog Tryz.f3 false true false false W args v W' := by
  have hW' := hW
  obtain ⟨p, q, hA0, hV, rfl, hfz, hnd⟩ := hW
  have hA : DataW.TrodAll enc Tryz.prog W 0 (fun _ => true) true Tryz.f3.params.toList args.toList ds p := hA0
  rw [Tryz.params3] at hA hval
  obtain ⟨v0, vs0, d0, ds0, p0, q0, hargs, rfl, rfl, h0, r0⟩ := trodAll_cons hA
  obtain ⟨rfl, rfl, rfl⟩ := trodAll_nil r0
  obtain rfl : args = #[v0] := by cases args; simp_all
  obtain ⟨rfl, rfl⟩ := trodVars_none hV
  simp only [List.append_nil] at hW'
  have hlt : ∀ x ∈ p0, x.block < W.heap.size := fun x hx => hW'.lt x hx
  refine (times_val W (okWide_slice und22 (hval 0 22 v0 rfl rfl)) h0).mono fun e W' ⟨he, hb⟩ => ?_
  subst he
  refine ⟨_, rfl, ?_⟩
  have hres : ∀ (b : Nat) (sp : Nat → Bool) (hd : Bool), DataW.TrodAll enc Tryz.prog W' b sp hd Tryz.f3.resultTypes.toList ((Value.bool true).resultList Tryz.f3.resultTypes.size) (Rows.histTimesSpec.fn H [d0]).results [] :=
    fun _ _ _ => (trodAll_cons_mk (shut_bool und4 _) trodAll_mk0)
  have hargs : ∀ sp : Nat → Bool, (∀ x ∈ p0, sp x.block = true) → DataW.TrodAll enc Tryz.prog W' 0 sp true Tryz.f3.params.toList #[v0].toList (Rows.histTimesSpec.fn H [d0]).args p0 := by
    intro sp hsp
    have := trodAll_cons_mk (WideElems.Trod_stays (sp' := sp) laidOut (by kernel_rfl) (of_decide_eq_true (by kernel_rfl)) h0 (fun x hx => hb.same (hlt x hx)) hsp) (trodAll_mk0 (enc := enc) (P := Tryz.prog))
    rw [List.append_nil] at this
    exact this
  have hvars : ∀ sp : Nat → Bool, DataW.TrodVars enc Tryz.prog W' sp Rows.histTimesSpec.vars (Rows.histTimesSpec.fn H [d0]).vars [] := fun _ => rfl
  have hold : ∀ x ∈ p0, (fun b => decide (b < W.heap.size)) x.block = true := fun x hx => by simpa using hlt x hx
  have hok : ∀ (j : Nat) (t : TypeId) (r : Value), Tryz.f3.resultTypes[j]? = some t → ((Value.bool true).resultList Tryz.f3.resultTypes.size)[j]? = some r → Value.okWide Tryz.prog W' .any 0 t r := ok_one (by kernel_rfl) rfl (okWide_bool_mk und4 _)
  refine ⟨[d0], [], p0, [], p0, [], hW', hres _ _ _, hargs _ hold, hvars _, World.keptBut_mono (fun x hx => ⟨hx, by simpa using hx⟩) (hb.frame (· ∈ p0)), fun _ => ⟨hok, _, _, ([] ++ p0) ++ [], ⟨[] ++ p0, [], trodAll_append (hargs _ (fun _ _ => rfl)) (hres _ _ _), hvars _, rfl, ?_, ?_⟩, ?_⟩⟩
  · intro b off hp
    have hin : MemPlace.cell b off ∈ p0 := by simpa using hp
    rw [hb.frozen (hlt _ hin)]
    exact hfz b off (by simpa using hin)
  · intro h
    cases h
  · intro x hx _
    simpa using hx


set_option maxRecDepth 100000 in
theorem lifted (os : Os) (started : os.Started) (H : Type) (enc : TypeId × Value → H) :
    ReturnsInHanded {} Tryz.checked os 3 .any (Rows.histTimesSpec.pre6 enc Tryz.prog Tryz.f3 Rows.histTimesRow.domain false) (Rows.histTimesSpec.post enc Tryz.prog Tryz.f3 false true false false) := by
  refine returnsInHanded_of_change (C := Tryz.checked) own started (by kernel_rfl) Tryz.func3
    (ChangeSpec.witness6 (enc := enc) (C := Tryz.checked) false ⟨#[], #[.slice none 0 0], []⟩ 8 (by kernel_rfl) (by kernel_rfl) (by kernel_rfl) (by kernel_rfl)) ?_
  intro W base args ds gs before hval hW _ _
  exact contract H enc W base args ds gs before hval hW

theorem histTimes_holds : Rows.HistTimesSaid :=
  OpenClaim.holds_of_wide 3 Tryz.f3 rfl rfl rfl rfl rfl rfl rfl ⟨rfl, rfl, rfl, rfl, rfl⟩ rfl rfl rfl rfl rfl (by kernel_rfl) Tryz.func3 (by kernel_rfl)
    (of_decide_eq_true (by kernel_rfl)) (by unfold Func.isWrapper; first | (rw [if_pos (by decide +kernel)]; kernel_rfl) | (rw [if_neg (by decide +kernel)]; exact ⟨rfl, rfl⟩))
    (fun os started H enc _ => lifted os started H enc)

#print axioms histTimes_holds
end Go.Proofs.YtdepnglgbgpahaaGreat.histTimes
