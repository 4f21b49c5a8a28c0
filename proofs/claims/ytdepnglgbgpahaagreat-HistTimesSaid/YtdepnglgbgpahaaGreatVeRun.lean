/-
  Every operation; a region in the text's order.
-/
import Derived.Test.YtdepnglgbgpahaaGreatVeCall
import Derived.Tactics
set_option linter.unusedSectionVars false
set_option linter.unusedVariables false
set_option linter.unusedSimpArgs false
namespace Go.VE
open Go Go.RowKit
variable {P : Program} {T : Tab} {call : CallR} {B : Nat} {W0 W : World} {φ : Phi} {s s' : St} {a : Act} {t : List Value} {o : Oper} {v : Value}

theorem OpR.wp (h : OpR P B W0 φ s s' v a.eval o W) {K : Act → World → Prop} {Q : Exit → Act → World → Prop}
    (hk : ∀ φ' v' W', Grow s s' φ φ' → Sim B W0 φ' s' W' → VR φ' v v' → K (a.put o.dst v') W') : o.wp P a W K Q := by
  obtain ⟨φ', v', W', h1, h2, h3, h4⟩ := h
  exact wp_of_does h4 (hk φ' v' W' h1 h2 h3)

theorem aop_wp (hT : TabOk P T) (hcall : CallOk P call) (hs : Sim B W0 φ s W) (ht : VRs φ t a.tmps.toList) (h : aop P T call t o s = some (v, s')) {K : Act → World → Prop} {Q : Exit → Act → World → Prop}
    (hk : ∀ φ' v' W', Grow s s' φ φ' → Sim B W0 φ' s' W' → VR φ' v v' → K (a.put o.dst v') W') : o.wp P a W K Q := by
  have he := env_of ht
  unfold aop at h
  split at h
  case _ ho => exact (sound_move hs he (.inl ho) h).wp hk
  case _ ho => exact (sound_move hs he (.inr ho) h).wp hk
  case _ ho => exact (sound_pick hs he ho h).wp hk
  case _ ho => exact (sound_alloc hT hs he ho h).wp hk
  case _ ho => exact (sound_box hT hs he ho h).wp hk
  case _ ho => exact (sound_build hT hs he ho h).wp hk
  case _ ho => exact (sound_buildSlice hT hs he ho h).wp hk
  case _ ho => exact (sound_load hT hs he ho h).wp hk
  case _ ho => exact (sound_store hT hs he ho h).wp hk
  case _ ho => exact (sound_nilCheck hT hs he ho h).wp hk
  case _ ho => exact (sound_binOp hT hs he ho h).wp hk
  case _ ho => exact (sound_unOp hT hs he ho h).wp hk
  case _ ho => exact (sound_convert hT hs he ho h).wp hk
  case _ ho => exact (sound_makeInterface hT hs he ho h).wp hk
  case _ ho => exact (sound_makeFunc hT hs he ho h).wp hk
  case _ ho => exact (sound_makeMap hT hs he ho h).wp hk
  case _ ho => exact (sound_makeSlice hT hs he ho h).wp hk
  case _ ho => exact (sound_slice hT hs he ho h).wp hk
  case _ ho => exact (sound_fieldAddr hT hs he ho h).wp hk
  case _ ho => exact (sound_field hT hs he ho h).wp hk
  case _ ho => exact (sound_indexAddr hT hs he ho h).wp hk
  case _ ho => exact (sound_index hT hs he ho h).wp hk
  case _ ho => exact (sound_lookup hT hs he ho h).wp hk
  case _ ho => exact (sound_mapUpdate hT hs he ho h).wp hk
  case _ ho => exact (sound_range hT hs he ho h).wp hk
  case _ ho => exact (sound_next hT hs he ho h).wp hk
  case _ ho => exact (sound_entry hT hs he ho h).wp hk
  case _ ho => exact (sound_typeAssert hT hs he ho h).wp hk
  case _ ho => exact (sound_extract hT hs he ho h).wp hk
  case _ c ho =>
    unfold opCall at h
    split at h
    · rename_i b hb
      exact (sound_builtin hT hs he ho hb h).wp hk
    · split at h
      · rename_i f args hc
        obtain ⟨l', hl, hrun⟩ := callee_sound hT hs he hc ho
        split at h
        · rename_i e hx
          split at h
          · rename_i u hu
            simp only [ok, Option.some.injEq, Prod.mk.injEq] at h
            obtain ⟨rfl, rfl⟩ := h
            obtain ⟨h1, h2, h3⟩ := hT.ext _ _ _ _ hx hu
            obtain rfl := VRs.eq_of_atoms h1 hl
            exact (OpR.same hs (VR.of_atom h2) (by rw [hrun]; exact h3 W)).wp hk
          · cases h
        · split at h
          · rename_i fi hfi
            obtain ⟨fn, f1, f2, f3, f4, f5⟩ := hT.fn _ _ hfi
            have henter : (callFunc f l'.toArray).run P W = .ok (.enter f l'.toArray) W := by
              simp only [callFunc, program, Sem.run_bind, Sem.run, Result.andThen_ok, f1, f5, f2]
              simp
            unfold Oper.wp
            rw [hrun, henter, Oper.upon_enter]
            refine (hcall f args s v s' h B W0 φ W l' hs hl).mono ?_
            rintro e W' ⟨φ', v', k1, k2, rfl, k3⟩
            exact hk φ' v' W' k1 k2 k3
          · cases h
      · cases h
  · cases h

theorem put_env {φ : Phi} (ht : VRs φ t a.tmps.toList) {v v' : Value} (hv : VR φ v v') (o : Oper) : VRs φ (dstSet t o v) (a.put o.dst v').tmps.toList := by
  unfold dstSet Act.put
  cases o.dst with
  | none => exact ht
  | some d =>
    simp only [setNth_eq, Array.toList_setIfInBounds]
    exact ht.set hv d
theorem put_defers (a : Act) (d : Option Tmp) (v : Value) : (a.put d v).defers = a.defers := by cases d <;> rfl

/-- is it wanted? the same on both sides -/
theorem wanted_sound {ops : Array Oper} (ht : VRs φ t a.tmps.toList) : Region.wanted o (yielded ops a.tmps) = wantedL ops.toList t o := by
  unfold Region.wanted wantedL
  cases hg : o.guard with
  | none => rfl
  | some g =>
    obtain ⟨j, w⟩ := g
    simp only
    unfold yielded
    have e : (ops.toList[j]?).bind (·.dst) = (ops[j]?).bind (·.dst) := by simp
    rw [e]
    cases hd : (ops[j]?).bind (·.dst) with
    | none => simp
    | some d =>
      simp only [Option.bind_some]
      rw [nth_eq]
      have hR := ht.getD (VR.undef φ) d
      have hlen := ht.length
      by_cases hd' : d < t.length
      · have hd2 : d < a.tmps.size := by simpa [hlen] using hd'
        have hr : a.tmps.toList.getD d undef = a.tmps[d] := by simp [List.getD_eq_getElem?_getD, hd2]
        rw [hr] at hR
        have : a.tmps[d]? = some a.tmps[d] := by simp [hd2]
        rw [this]
        generalize t.getD d undef = x at hR
        generalize a.tmps[d] = y at hR
        cases hR <;> simp
      · have hd2 : a.tmps.size ≤ d := by
          simp only [Array.length_toList] at hlen
          rw [← hlen]
          exact Nat.le_of_not_lt hd'
        have h1 : t.getD d undef = undef := by simp [List.getD_eq_getElem?_getD, List.getElem?_eq_none (Nat.le_of_not_lt hd')]
        have h2 : a.tmps[d]? = none := Array.getElem?_eq_none hd2
        rw [h1, h2]
        simp [undef]

theorem runOps_nil {ops : List Oper} : runOps P T call ops [] t s = some (t, s) := rfl
theorem runOps_cons {ops r : List Oper} : runOps P T call ops (o :: r) t s = match wantedL ops t o with
      | true => match aop P T call t o s with
        | some (v, s) => runOps P T call ops r (dstSet t o v) s
        | none => none
      | false => runOps P T call ops r (dstSet t o undef) s := rfl

/-- a region in the text's order -/
theorem runOps_wp (hT : TabOk P T) (hcall : CallOk P call) {ops : Array Oper} : ∀ (l : List Oper) {t t' : List Value} {s s' : St} {a : Act} {φ : Phi} {W : World}, Sim B W0 φ s W → VRs φ t a.tmps.toList →
    runOps P T call ops.toList l t s = some (t', s') → ∀ {Q : Exit → Act → World → Prop},
    (∀ φ' a' W', Grow s s' φ φ' → Sim B W0 φ' s' W' → VRs φ' t' a'.tmps.toList → a'.defers = a.defers → Q .normal a' W') → wpList P ops Q l a W
  | [], t, t', s, s', a, φ, W, hs, ht, h, Q, hq => by
    rw [runOps_nil] at h
    simp only [Option.some.injEq, Prod.mk.injEq] at h
    obtain ⟨rfl, rfl⟩ := h
    exact hq φ a W (Grow.refl _ _) hs ht rfl
  | o :: l, t, t', s, s', a, φ, W, hs, ht, h, Q, hq => by
    rw [runOps_cons] at h
    have hw := wanted_sound (o := o) (ops := ops) ht
    refine wpList_step fun K hK => ?_
    rw [hw]
    cases hb : wantedL ops.toList t o with
    | true =>
      simp only [hb] at h
      rw [if_pos rfl]
      cases ha : aop P T call t o s with
      | none => simp [ha] at h
      | some r =>
        obtain ⟨v, s1⟩ := r
        simp only [ha] at h
        refine aop_wp hT hcall hs ht ha fun φ' v' W' k1 k2 k3 => hK _ _ ?_
        refine runOps_wp hT hcall l k2 (put_env (ht.mono k1.le) k3 o) h fun φ2 a2 W2 q1 q2 q3 q4 => ?_
        exact hq φ2 a2 W2 (k1.trans q1) q2 q3 (by rw [q4, put_defers])
    | false =>
      simp only [hb] at h
      rw [if_neg (by simp)]
      refine hK _ _ (runOps_wp hT hcall l hs (put_env ht (VR.undef _) o) h fun φ2 a2 W2 q1 q2 q3 q4 => ?_)
      exact hq φ2 a2 W2 q1 q2 q3 (by rw [q4, put_defers])
end Go.VE
