/-
  More operations: values that are built, addresses, computations.
-/
import Derived.Test.YtdepnglgbgpahaaGreatVeOps
set_option linter.unusedSectionVars false
set_option linter.unusedVariables false
set_option linter.unusedSimpArgs false
namespace Go.VE
open Go Go.RowKit
variable {P : Program} {T : Tab} {B : Nat} {W0 W : World} {φ : Phi} {s s' : St} {a : Act} {t : List Value} {o : Oper} {v : Value}

/-! ## Parts -/

theorem setIf_list (cs : Array Value) (k : Nat) (v : Value) : (cs.setIfInBounds k v).toList = cs.toList.set k v := by simp

theorem fold_sound {off : Nat} : ∀ {l m : List Value}, VRs φ l m → ∀ (j : Nat) (A C : Array Value), VRs φ A.toList C.toList →
    VRs φ ((l.zipIdx j).foldl (fun cs x => cs.setIfInBounds (off + x.2) x.1) A).toList ((m.zipIdx j).foldl (fun cs x => cs.setIfInBounds (off + x.2) x.1) C).toList
  | _, _, .nil, _, _, _, h => h
  | _, _, .cons hv hs, j, A, C, h => by
    simp only [List.zipIdx_cons, List.foldl_cons]
    exact fold_sound hs (j + 1) _ _ (by rw [setIf_list, setIf_list]; exact h.set hv _)

theorem fill_sound {place : Nat → Option (Nat × Nat)} : ∀ {l m : List (Nat × Value)}, PartsR φ l m → ∀ (A C D : Array Value), VRs φ A.toList C.toList → Instr.fill place A l = some D →
    ∃ E, Instr.fill place C m = some E ∧ VRs φ D.toList E.toList
  | _, _, .nil, A, C, D, h, e => by
    simp only [Instr.fill, Option.some.injEq] at e
    subst e
    exact ⟨C, rfl, h⟩
  | _, _, .cons (i := i) (v := v) (w := w) hv hs, A, C, D, h, e => by
    simp only [Instr.fill] at e ⊢
    cases hp : place i with
    | none => simp [hp] at e
    | some q =>
      obtain ⟨off, size⟩ := q
      simp only [hp] at e ⊢
      have hc := hv.cells
      have h1 : v.cells.size = w.cells.size := by simpa using hc.length
      have h2 : A.size = C.size := by simpa using h.length
      by_cases hb : (v.cells.size ≠ size || decide (off + v.cells.size > A.size)) = true
      · rw [if_pos hb] at e; cases e
      · rw [if_neg hb] at e
        rw [if_neg (by rw [← h1, ← h2]; exact hb)]
        refine fill_sound hs _ _ D ?_ e
        rw [← Array.foldl_toList, ← Array.foldl_toList, Array.toList_zipIdx, Array.toList_zipIdx]
        exact fold_sound hc 0 A C h

theorem placesOf_run {P : Program} {T : Tab} (hT : TabOk P T) {W : World} : ∀ (l : List Field) (r : List (Nat × Nat)), placesOf T l = some r →
    (l.mapM (m := Sem) fun f => do pure (f.offset, ← sizeOf f.type)).run P W = .ok r W
  | [], r, h => by simp only [placesOf, Option.some.injEq] at h; subst h; rfl
  | f :: l, r, h => by
    simp only [placesOf] at h
    cases hf : T.ty f.type with
    | none => simp [hf] at h
    | some ti =>
      cases hl : placesOf T l with
      | none => simp [hf, hl] at h
      | some q =>
        simp only [hf, hl, Option.some.injEq] at h
        subst h
        obtain ⟨i, hi⟩ := hT.ty _ _ hf
        rw [List.mapM_cons]
        simp only [Sem.run_bind, run_sizeOf hi, Result.andThen_ok, Sem.run_pure, placesOf_run hT l q hl]

theorem add_lit (b o n : Nat) : (⟨b, o, none⟩ : Addr).add n = ⟨b, o + n, none⟩ := Addr.add_mid b o n

section ops
variable (hT : TabOk P T) (hs : Sim B W0 φ s W) {ρ : Operand → Value} (he : Env φ t ρ)
include hs he hT

theorem sound_build {ty : TypeId} {parts : Array (Nat × Operand)} (ho : o.op = .build ty parts) (h : opBuild T t ty parts s = some (v, s')) : OpR P B W0 φ s s' v ρ o W := by
  unfold opBuild at h
  cases hty : T.ty ty with
  | none => simp [hty] at h
  | some ti =>
    cases hp : evalP t parts.toList with
    | none => simp [hty, hp] at h
    | some ps =>
      simp only [hty, hp] at h
      cases hb : buildV T ti ps with
      | none => simp [hb] at h
      | some u =>
        simp only [hb, ok, Option.some.injEq, Prod.mk.injEq] at h
        obtain ⟨rfl, rfl⟩ := h
        obtain ⟨i, hi⟩ := hT.ty ty ti hty
        have hR := env_parts he _ _ hp
        have hmap : (parts.map fun x => (x.1, ρ x.2)).toList = parts.toList.map fun x => (x.1, ρ x.2) := by simp
        have hz : VRs φ ti.zero.cells.toList ti.zero.cells.toList := VRs.of_atoms hi.atoms
        unfold buildV at hb
        cases hd : ti.d with
        | struct fields =>
          simp only [hd] at hb
          cases hl : placesOf T fields.toList with
          | none => simp [hl] at hb
          | some l =>
            simp only [hl, Option.map_eq_some_iff] at hb
            obtain ⟨D, hD, rfl⟩ := hb
            obtain ⟨E, hE, hR'⟩ := fill_sound hR _ _ D hz hD
            have hrun := placesOf_run hT (W := W) _ _ hl
            refine .same hs (v' := .agg E) (by have := VR.agg hR'; simpa using this) (run_v (m := Instr.build ty (parts.map fun x => (x.1, ρ x.2))) (by unfold execOp; rw [ho]) ?_)
            have hm : (fields.mapM (m := Sem) fun f => do pure (f.offset, ← sizeOf f.type)).run P W = .ok l.toArray W := by
              rw [Array.mapM_eq_mapM_toList, map_eq_pure_bind]
              simp only [Sem.run_bind, hrun, Result.andThen_ok, Sem.run_pure]
            simp only [Instr.build, Sem.run_bind, run_zero hi, Result.andThen_ok, run_underlying hi.under, hd, hm, hmap]
            have hE' : Instr.fill (fun x => l.toArray[x]?) ti.zero.cells (parts.toList.map fun x => (x.1, ρ x.2)) = some E := by simpa using hE
            rw [hE']
            rfl
        | array n e =>
          simp only [hd] at hb
          cases hte : T.ty e with
          | none => simp [hte] at hb
          | some te =>
            simp only [hte, Option.map_eq_some_iff] at hb
            obtain ⟨D, hD, rfl⟩ := hb
            obtain ⟨E, hE, hR'⟩ := fill_sound hR _ _ D hz hD
            obtain ⟨j, hj⟩ := hT.ty e te hte
            refine .same hs (v' := .agg E) (by have := VR.agg hR'; simpa using this) (run_v (m := Instr.build ty (parts.map fun x => (x.1, ρ x.2))) (by unfold execOp; rw [ho]) ?_)
            simp only [Instr.build, Sem.run_bind, run_zero hi, Result.andThen_ok, run_underlying hi.under, hd, run_sizeOf hj, hmap, hE]
            rfl
        | _ => simp [hd] at hb

theorem sound_extract {x : Operand} {ix : Nat} (ho : o.op = .extract x ix) (h : opExtract t x ix s = some (v, s')) : OpR P B W0 φ s s' v ρ o W := by
  unfold opExtract at h
  cases hx : evalO t x with
  | none => simp [hx] at h
  | some q =>
    have hR := he x q hx
    cases q with
    | tuple vs =>
      simp only [hx] at h
      cases hk : vs[ix]? with
      | none => simp [hk] at h
      | some u =>
        simp only [hk, ok, Option.some.injEq, Prod.mk.injEq] at h
        obtain ⟨rfl, rfl⟩ := h
        generalize hq : ρ x = q' at hR
        cases hR with
        | tuple hl =>
          rename_i la lb
          obtain ⟨w, hw, hv⟩ := hl.get ix _ (by simpa using hk)
          exact .same hs hv (run_v (m := Instr.extract (ρ x) ix) (by unfold execOp; rw [ho]) (by simp [Instr.extract, hq, hw]))
    | _ => simp [hx] at h

theorem sound_nilCheck {x : Operand} (ho : o.op = .nilCheck x) (h : opNilCheck t x s = some (v, s')) : OpR P B W0 φ s s' v ρ o W := by
  unfold opNilCheck at h
  cases hx : evalO t x with
  | none => simp [hx] at h
  | some q =>
    have hR := he x q hx
    generalize hq : ρ x = q' at hR
    cases hR with
    | ptr hb =>
      simp only [hx, ok, Option.some.injEq, Prod.mk.injEq] at h
      obtain ⟨rfl, rfl⟩ := h
      exact .same hs (.ptr hb) (by simp [execOp, ho, hq])
    | iface d hv =>
      simp only [hx, ok, Option.some.injEq, Prod.mk.injEq] at h
      obtain ⟨rfl, rfl⟩ := h
      exact .same hs (.iface d hv) (by simp [execOp, ho, hq])
    | func fn h1 h2 =>
      cases fn with
      | func g =>
        simp only [hx, ok, Option.some.injEq, Prod.mk.injEq] at h
        obtain ⟨rfl, rfl⟩ := h
        exact .same hs (.func _ h1 h2) (by simp [execOp, ho, hq])
      | _ => simp [hx] at h
    | _ => simp [hx] at h

theorem sound_makeFunc {fn : Fn} {first captured : Array Operand} (ho : o.op = .makeFunc fn first captured) (h : opMakeFunc t fn first captured s = some (v, s')) : OpR P B W0 φ s s' v ρ o W := by
  unfold opMakeFunc at h
  cases h1 : evalL t first.toList with
  | none => cases fn <;> simp [h1] at h
  | some l1 =>
    cases h2 : evalL t captured.toList with
    | none => cases fn <;> simp [h1, h2] at h
    | some l2 =>
      have r1 := env_list he _ _ h1
      have r2 := env_list he _ _ h2
      have key : ∀ fn', v = .func fn' l1.toArray l2.toArray → s' = s → fn' = fn → OpR P B W0 φ s s' v ρ o W := by
        rintro fn' rfl rfl rfl
        refine .same hs (v' := .func fn' (first.map ρ) (captured.map ρ)) ?_ (by simp [execOp, ho, Instr.makeFunc])
        have e : ∀ l : Array Operand, (List.map ρ l.toList).toArray = l.map ρ := fun l => Array.ext' (by simp)
        have := VR.func fn' r1 r2
        rw [e, e] at this
        exact this
      cases fn with
      | func g =>
        simp only [h1, h2, ok, Option.some.injEq, Prod.mk.injEq] at h
        exact key _ h.1.symm h.2.symm rfl
      | method m =>
        simp only [h1, h2, ok, Option.some.injEq, Prod.mk.injEq] at h
        exact key _ h.1.symm h.2.symm rfl
      | _ => simp [h1, h2] at h

theorem sound_makeInterface {xt : TypeId} {x : Operand} (ho : o.op = .makeInterface xt x) (h : opMakeInterface T t xt x s = some (v, s')) : OpR P B W0 φ s s' v ρ o W := by
  unfold opMakeInterface at h
  cases hty : T.ty xt with
  | none => simp [hty] at h
  | some ti =>
    cases hx : evalO t x with
    | none => simp [hty, hx] at h
    | some q =>
      obtain ⟨i, hi⟩ := hT.ty xt ti hty
      have hR := he x q hx
      simp only [hty, hx] at h
      have hrun : v = .iface xt q ∧ s' = s ∧ (Instr.makeInterface xt (ρ x)).run P W = .ok (.iface xt (ρ x)) W := by
        cases hd : ti.d <;> simp only [hd, ok, Option.some.injEq, Prod.mk.injEq, reduceCtorEq] at h <;>
          exact ⟨h.1.symm, h.2.symm, by simp [Instr.makeInterface, run_underlying hi.under, hd]⟩
      obtain ⟨rfl, rfl, hr⟩ := hrun
      exact .same hs (.iface xt hR) (run_v (m := Instr.makeInterface xt (ρ x)) (by unfold execOp; rw [ho]) hr)

theorem sound_makeMap {ty : TypeId} (ho : o.op = .makeMap ty none) (h : opMakeMap s = some (v, s')) : OpR P B W0 φ s s' v ρ o W := by
  unfold opMakeMap at h
  simp only [ok, Option.some.injEq, Prod.mk.injEq] at h
  obtain ⟨rfl, rfl⟩ := h
  have hn : Sim B W0 (ext φ s.nx ⟨W.heap.size, 0, 0, 0⟩) (s.push (.map [] 0)) (W.alloc (.map #[] 0)) := by
    refine hs.push ((Below.refl _ W).alloc (Nat.le_refl _) _) _ _ rfl (by show W.heap.size < (W.heap.push _).size; rw [Array.size_push]; omega) ⟨#[], ?_, .nil⟩
    show (W.heap.push _)[W.heap.size]? = _
    simp
  refine ⟨_, .map (some W.heap.size), _, Grow.push hs _ _, hn, .map (ext_same φ s.nx ⟨W.heap.size, 0, 0, 0⟩), .inl ?_⟩
  refine run_v (m := Instr.makeMap ty none) (by unfold execOp; rw [ho]; rfl) ?_
  simp [Instr.makeMap, newObj, Sem.run]

theorem sound_fieldAddr {st : TypeId} {x : Operand} {f : Nat} (ho : o.op = .fieldAddr st x f) (h : opFieldAddr T t st x f s = some (v, s')) : OpR P B W0 φ s s' v ρ o W := by
  unfold opFieldAddr at h
  cases hty : T.ty st with
  | none => simp [hty] at h
  | some ti =>
    obtain ⟨i, hi⟩ := hT.ty st ti hty
    obtain ⟨z1, z2, z3, z4, d⟩ := ti
    cases d with
    | struct fields =>
      cases hx : evalO t x with
      | none => simp [hty, hx] at h
      | some q =>
        have hR := he x q hx
        generalize hq : ρ x = q' at hR
        cases hR with
        | @ptr b off L hb =>
          simp only [hty, hx] at h
          cases hf : fields[f]? with
          | none => simp [hf] at h
          | some fi =>
            simp only [hf] at h
            cases htf : T.ty fi.type with
            | none => simp [htf] at h
            | some tf =>
              obtain ⟨j, hj⟩ := hT.ty _ _ htf
              simp only [htf] at h
              split at h
              · rename_i hpos
                simp only [ok, Option.some.injEq, Prod.mk.injEq] at h
                obtain ⟨rfl, rfl⟩ := h
                refine .same hs (v' := .pointer (some (Addr.add ⟨L.blk, L.sh + off, none⟩ fi.offset))) ?_ (run_v (m := Instr.fieldAt st (ρ x) f) (by unfold execOp; rw [ho]) ?_)
                rotate_left
                · have hne : ¬ tf.size = 0 := by omega
                  simp only [Instr.fieldAt, Sem.run_bind, run_underlying hi.under, Result.andThen_ok, hf, hq, Instr.sureAddr, Sem.run_pure, fieldPlace, run_sizeOf hj, hne, if_false]
                · rw [add_lit, add_lit, Nat.add_assoc]
                  exact .ptr hb
              · cases h
        | _ => simp [hty, hx] at h
    | _ => cases hx : evalO t x <;> simp [hty, hx] at h

theorem part_sound {ti : TI} {i : TypeInfo} {y : TypeId} (hi : TyOk P y ti i) {cs cs' : Array Value} (hR : VRs φ cs.toList cs'.toList) {off : Nat} (h : partV ti cs off s = some (v, s')) :
    s' = s ∧ ∃ v', VR φ v v' ∧ (part y cs' off).run P W = .ok v' W := by
  unfold partV at h
  cases hag : ti.agg with
  | true =>
    simp only [hag, if_true, ok, Option.some.injEq, Prod.mk.injEq] at h
    obtain ⟨rfl, rfl⟩ := h
    refine ⟨rfl, .agg (cs'.extract off (off + ti.size)), ?_, ?_⟩
    · have : VRs φ (cs.extract off (off + ti.size)).toList (cs'.extract off (off + ti.size)).toList := by
        simp only [Array.toList_extract, List.extract_eq_take_drop]
        exact (hR.drop _).take _
      have := VR.agg this
      rw [Array.toArray_toList, Array.toArray_toList] at this
      exact this
    · simp [part, run_isAgg hi, hag, run_sizeOf hi]
  | false =>
    simp only [hag, Bool.false_eq_true, if_false] at h
    cases hk : cs[off]? with
    | none => simp [hk] at h
    | some u =>
      simp only [hk, ok, Option.some.injEq, Prod.mk.injEq] at h
      obtain ⟨rfl, rfl⟩ := h
      obtain ⟨w, hw, hv⟩ := hR.get off _ (by simpa using hk)
      refine ⟨rfl, w, hv, ?_⟩
      have : cs'[off]? = some w := by simpa using hw
      simp [part, run_isAgg hi, hag, this]

theorem sound_field {xt : TypeId} {x : Operand} {f : Nat} (ho : o.op = .field xt x f) (h : opField T t xt x f s = some (v, s')) : OpR P B W0 φ s s' v ρ o W := by
  unfold opField at h
  cases hty : T.ty xt with
  | none => simp [hty] at h
  | some ti =>
    obtain ⟨i, hi⟩ := hT.ty xt ti hty
    obtain ⟨z1, z2, z3, z4, d⟩ := ti
    cases d with
    | struct fields =>
      cases hx : evalO t x with
      | none => simp [hty, hx] at h
      | some q =>
        have hR := he x q hx
        generalize hq : ρ x = q' at hR
        cases hR with
        | agg hl =>
          simp only [hty, hx] at h
          cases hf : fields[f]? with
          | none => simp [hf] at h
          | some fi =>
            simp only [hf] at h
            cases htf : T.ty fi.type with
            | none => simp [htf] at h
            | some tf =>
              obtain ⟨j, hj⟩ := hT.ty _ _ htf
              simp only [htf] at h
              obtain ⟨rfl, v', h1, h2⟩ := part_sound hT hs he hj (by simpa using hl) h
              refine .same hs h1 (run_v (m := Instr.field xt (ρ x) f) (by unfold execOp; rw [ho]) ?_)
              simp only [Instr.field, Sem.run_bind, run_underlying hi.under, Result.andThen_ok, hf, hq, asAgg, Sem.run_pure, h2]
        | _ => simp [hty, hx] at h
    | _ => cases hx : evalO t x <;> simp [hty, hx] at h

theorem asN_sound {x : Operand} {k : Nat} (h : opt (evalO t x) asN = some k) : ∃ j n, ρ x = .int j n ∧ 0 ≤ n ∧ n.toNat = k := by
  cases hx : evalO t x with
  | none => simp [opt, hx] at h
  | some q =>
    have hR := he x q hx
    cases q with
    | int j n =>
      generalize hq : ρ x = q' at hR
      cases hR
      simp only [opt, hx, asN] at h
      split at h
      · exact ⟨j, n, rfl, by assumption, Option.some.inj h⟩
      · cases h
    | _ => simp [opt, hx, asN] at h

theorem sound_indexAddr {ty : TypeId} {x y : Operand} (ho : o.op = .indexAddr ty x y) (h : opIndexAddr T t ty x y s = some (v, s')) : OpR P B W0 φ s s' v ρ o W := by
  unfold opIndexAddr at h
  cases hty : T.ty ty with
  | none => simp [hty] at h
  | some ti =>
    obtain ⟨i, hi⟩ := hT.ty ty ti hty
    cases hx : evalO t x with
    | none => simp [hty, hx] at h
    | some q =>
      have hR := he x q hx
      cases hk : opt (evalO t y) asN with
      | none => simp [hty, hx, hk] at h
      | some k =>
        obtain ⟨jk, n, hn1, hn2, hn3⟩ := asN_sound hT hs he hk
        generalize hq : ρ x = q' at hR
        cases hd : ti.d with
        | array n' e =>
          cases hR with
          | @ptr b off L hb =>
            simp only [hty, hx, hk, hd] at h
            cases hte : T.ty e with
            | none => simp [hte] at h
            | some te =>
              obtain ⟨j, hj⟩ := hT.ty _ _ hte
              simp only [hte] at h
              split at h
              · rename_i hlt
                simp only [ok, Option.some.injEq, Prod.mk.injEq] at h
                obtain ⟨rfl, rfl⟩ := h
                refine .same hs (v' := .pointer (some (Addr.add ⟨L.blk, L.sh + off, none⟩ (k * te.size)))) ?_ (run_v (m := Instr.indexAt ty (ρ x) (ρ y)) (by unfold execOp; rw [ho]) ?_)
                rotate_left
                · have : 0 ≤ n ∧ n < (n' : Int) := ⟨hn2, by omega⟩
                  simp only [Instr.indexAt, Sem.run_bind, hn1, asIntOf, Sem.run_pure, Result.andThen_ok, run_underlying hi.under, hd, hq, Instr.sureAddr, this, and_self, if_true, run_sizeOf hj, hn3]
                · rw [add_lit, add_lit, Nat.add_assoc]
                  exact .ptr hb
              · cases h
          | _ => simp [hty, hx, hk, hd] at h
        | slice e =>
          cases hR with
          | @slice b off len c c' L hb h1 h2 h3 h4 =>
            simp only [hty, hx, hk, hd] at h
            cases hte : T.ty e with
            | none => simp [hte] at h
            | some te =>
              obtain ⟨j, hj⟩ := hT.ty _ _ hte
              simp only [hte] at h
              split at h
              · rename_i hlt
                simp only [ok, Option.some.injEq, Prod.mk.injEq] at h
                obtain ⟨rfl, rfl⟩ := h
                refine .same hs (v' := .pointer (some (Addr.add ⟨L.blk, L.sh + off, none⟩ (k * te.size)))) ?_ (run_v (m := Instr.indexAt ty (ρ x) (ρ y)) (by unfold execOp; rw [ho]) ?_)
                rotate_left
                · have : 0 ≤ n ∧ n < (len : Int) := ⟨hn2, by omega⟩
                  simp only [Instr.indexAt, Sem.run_bind, hn1, asIntOf, Sem.run_pure, Result.andThen_ok, run_underlying hi.under, hd, hq, this, and_self, if_true, run_sizeOf hj, hn3]
                · rw [add_lit, add_lit, Nat.add_assoc]
                  exact .ptr hb
              · cases h
          | slice0 _ =>
            simp only [hty, hx, hk, hd] at h
            cases hte : T.ty e with
            | none => simp [hte] at h
            | some te => simp [hte] at h
          | _ => simp [hty, hx, hk, hd] at h
        | _ => simp [hty, hx, hk, hd] at h
end ops
end Go.VE
