/-
  The built-in functions; calls; every operation.
-/
import Derived.Test.YtdepnglgbgpahaaGreatVeOps8
set_option linter.unusedSectionVars false
set_option linter.unusedVariables false
set_option linter.unusedSimpArgs false
namespace Go.VE
open Go Go.RowKit
variable {P : Program} {T : Tab} {B : Nat} {W0 W : World} {φ : Phi} {s s' : St} {a : Act} {t : List Value} {o : Oper} {v : Value}

theorem run_builtin {ρ : Operand → Value} {b : Builtin} {c : Call} (ho : o.op = .call c) (hc : c.callee = .builtin b) {m : Sem Value} {w : Value} {W' : World}
    (hb : ∀ consts, builtin b c.argTypes o.type consts (c.args.map ρ) = (do pure (.value (← m)))) (h : m.run P W = .ok w W') : (execOp ρ o).run P W = .ok (.value w) W' := by
  have he : execOp ρ o = (do let d ← resolve ρ c o.type; invoke d.target d.args) := by unfold execOp; rw [ho]
  rw [he]
  simp only [resolve, hc, Sem.run_bind, Sem.run_pure, Result.andThen_ok, invoke, hb]
  simp [h]

/-- what a call of a function gives -/
def CallOk (P : Program) (call : CallR) : Prop :=
  ∀ f args s v s', call f args s = some (v, s') → ∀ B W0 φ W args', Sim B W0 φ s W → VRs φ args args' →
    Calls P f args'.toArray W fun e W' => ∃ φ' v', Grow s s' φ φ' ∧ Sim B W0 φ' s' W' ∧ e = .returned v' ∧ VR φ' v v'

section ops
variable (hT : TabOk P T) (hs : Sim B W0 φ s W) {ρ : Operand → Value} (he : Env φ t ρ)
include hs he hT

theorem sound_builtin {b : Builtin} {c : Call} (ho : o.op = .call c) (hc : c.callee = .builtin b) (h : builtinOp T t b c s = some (v, s')) : OpR P B W0 φ s s' v ρ o W := by
  unfold builtinOp at h
  split at h
  · -- len
    split at h
    · rename_i x ty hx hty
      obtain ⟨args, htys⟩ : ∃ x', c.args.toList = [x'] := by
        cases hl : c.args.toList with
        | nil => rw [hl, evalL_nil] at hx; cases hx
        | cons y r => cases r with
          | nil => exact ⟨y, rfl⟩
          | cons z r =>
            rw [hl] at hx
            have := (env_list he _ _ hx).length
            simp at this
      rw [htys, evalL_cons, evalL_nil] at hx
      cases hxx : evalO t args with
      | none => simp [hxx] at hx
      | some u =>
        simp only [hxx, Option.some.injEq, List.cons.injEq, and_true] at hx
        subst hx
        obtain ⟨rfl, v', h1, h2⟩ := sound_len hT hs he hxx h
        refine .same hs h1 (run_builtin (m := Builtin.len_ c.argTypes o.type (c.args.map ρ)) ho hc (fun _ => rfl) ?_)
        have e1 : c.argTypes = [ty].toArray := by apply Array.ext'; simpa using hty
        have e2 : c.args.map ρ = #[ρ args] := by apply Array.ext'; simp [htys]
        rw [e1, e2]
        exact h2 o.type []
    · cases h
  · -- cap
    split at h
    · rename_i x ty hx hty
      unfold capOp at h
      split at h
      · rename_i ti hti
        obtain ⟨i, hi⟩ := hT.ty _ _ hti
        split at h
        · rename_i hd
          simp only [ok, Option.some.injEq, Prod.mk.injEq] at h
          obtain ⟨rfl, rfl⟩ := h
          have hl := env_list he _ _ hx
          cases hcl : c.args.toList.map ρ with
          | nil => rw [hcl] at hl; cases hl
          | cons y r =>
            rw [hcl] at hl
            cases hl with
            | cons h1 h2 =>
              cases h2
              cases h1
              refine .same hs (.int _ _) (run_builtin (m := Builtin.cap_ c.argTypes o.type (c.args.map ρ)) ho hc (fun _ => rfl) ?_)
              have e1 : c.argTypes = #[ty] := by apply Array.ext'; simpa using hty
              have e2 : c.args.map ρ = #[.slice none 0 0] := by apply Array.ext'; simpa using hcl
              rw [e1, e2]
              simp [Builtin.cap_, run_underlying hi.under, hd, goInt]
        · cases h
      · cases h
    · cases h
  · -- append
    split at h
    · rename_i x y t1 t2 hx hty
      have hl := env_list he _ _ hx
      have e1 : c.argTypes = #[t1, t2] := by apply Array.ext'; simpa using hty
      cases hcl : c.args.toList.map ρ with
      | nil => rw [hcl] at hl; cases hl
      | cons x' r =>
        rw [hcl] at hl
        cases hl with
        | cons hx' hr =>
          cases hr with
          | @cons _ y' _ _ hy' hr2 =>
            cases hr2
            have e2 : c.args.map ρ = #[x', y'] := by apply Array.ext'; simpa using hcl
            have fin : ∀ {φ' v' W'}, Grow s s' φ φ' → Sim B W0 φ' s' W' → VR φ' v v' → (Builtin.append_ #[t1, t2] o.type #[x', y']).run P W = .ok v' W' → OpR P B W0 φ s s' v ρ o W := by
              intro φ' v' W' k1 k2 k3 k4
              exact ⟨φ', v', W', k1, k2, k3, .inl (run_builtin (m := Builtin.append_ c.argTypes o.type (c.args.map ρ)) ho hc (fun _ => rfl) (by rw [e1, e2]; exact k4))⟩
            unfold appendA at h
            cases hti : T.ty t1 with
            | none => simp [hti] at h
            | some ti =>
              cases htx : T.ty t2 with
              | none => simp [hti, htx] at h
              | some tx =>
                obtain ⟨i1, hi1⟩ := hT.ty _ _ hti
                obtain ⟨i2, hi2⟩ := hT.ty _ _ htx
                simp only [hti, htx] at h
                split at h
                · rename_i e hd
                  cases hte : T.ty e with
                  | none => simp [hte] at h
                  | some te =>
                    obtain ⟨j, hj⟩ := hT.ty _ _ hte
                    simp only [hte] at h
                    have src : ((∃ e, tx.d = .slice e) ∨ tx.d = .string) → (match sliceCells s te.size y, lenV y with
                        | some news, some m => appendOp te s x news m
                        | _, _ => none) = some (v, s') → OpR P B W0 φ s s' v ρ o W := by
                      intro hk h
                      cases hcells : sliceCells s te.size y with
                      | none => simp [hcells] at h
                      | some news =>
                        cases hm : lenV y with
                        | none => simp [hcells, hm] at h
                        | some m =>
                          simp only [hcells, hm] at h
                          have hcond : len news = m * te.size ∧ news.all oneCell = true ∧ 0 < te.size := by
                            unfold appendOp at h
                            split at h
                            · assumption
                            · cases h
                          rw [len_eq] at hcond
                          obtain ⟨news', k1, k2⟩ := src_sound hT hs hy' hcells hm hi2 hk hcond.1 hcond.2.1
                          obtain ⟨φ', v', W', q1, q2, q3, q4⟩ := appendOp_sound hT hs (ty := o.type) hi1 hd hj hx' k1 k2 h
                          exact fin q1 q2 q3 q4
                    unfold appendB at h
                    split at h
                    · rename_i kk hk
                      split at h
                      · rename_i n hn
                        split at h
                        · rename_i hf
                          obtain ⟨f1, f2⟩ := fits_spec hf
                          cases hx'
                          obtain ⟨jy, ny, rfl, b1, b2⟩ := asN_of hn hy'
                          have hzl := zeros_length te.zero.cells.toList (n + 1)
                          unfold appendOp at h
                          split at h
                          · rename_i hc3
                            simp only [] at h
                            rw [if_pos hf] at h
                            simp only [ok, Option.some.injEq, Prod.mk.injEq] at h
                            obtain ⟨rfl, rfl⟩ := h
                            have hcm := grownCap_le_maxLen W (n + 1) 0 e (by unfold maxLen; omega)
                            have hge := grownCap_ge W (n + 1) 0 e
                            have hz : VRs φ (zeros te.zero.cells.toList (n + 1)) (zeros te.zero.cells.toList (n + 1)) := VRs.of_atoms (zeros_all hj.atoms _)
                            obtain ⟨φ', k1, k2, k3⟩ := row_sound hs (Below.drewB W) rfl e (Builtin.zeroCells te.zero.cells (grownCap W (n + 1) 0 e - (n + 1))).toList hz (es := te.size) (n := n + 1) (cap := grownCap W (n + 1) 0 e) (c := unknownCap) hge hcm
                              (by
                                rw [List.length_append, hzl, Array.length_toList, Array.length_toList, size_zeroCells, hj.cells, ← Nat.add_mul]
                                congr 1
                                omega) (by intro hh; simp [unknownCap] at hh)
                            have hr := Lib.run_append_nil_zeros (P := P) W t1 t2 o.type e j te.zero jy kk (by rw [hi1.under, hd]) (by rw [hi2.under, hk]) hj.info hj.zero (n + 1) (by omega) (by rw [hj.size]; exact hc3.2.2) (by omega) (by rw [hj.bytes]; omega)
                            have eny : ny = ((n + 1 : Nat) : Int) := by omega
                            refine fin k1 k2 k3 ?_
                            rw [eny, hr]
                            congr 3
                            have hmade : Builtin.zeroCells te.zero.cells (n + 1) = (zeros te.zero.cells.toList (n + 1)).toArray := made_eq te.zero.cells (n + 1)
                            rw [hmade]
                            apply Array.ext'
                            simp
                          · cases h
                        · cases h
                      · cases h
                    · rename_i e2 hk
                      exact src (.inl ⟨e2, hk⟩) h
                    · rename_i hk
                      exact src (.inr hk) h
                    · cases h
                · cases h
    · cases h
  · -- min
    split at h
    · rename_i k x kk y hx
      simp only [ok, Option.some.injEq, Prod.mk.injEq] at h
      obtain ⟨rfl, rfl⟩ := h
      have hl := env_list he _ _ hx
      cases hcl : c.args.toList.map ρ with
      | nil => rw [hcl] at hl; cases hl
      | cons x' r =>
        rw [hcl] at hl
        cases hl with
        | cons hx' hr =>
          cases hr with
          | cons hy' hr2 =>
            cases hr2
            cases hx'
            cases hy'
            refine .same hs (.int _ _) (run_builtin (m := Builtin.min_ c.argTypes o.type (c.args.map ρ)) ho hc (fun _ => rfl) ?_)
            have e2 : c.args.map ρ = #[.int k x, .int kk y] := by apply Array.ext'; simpa using hcl
            rw [e2]
            rfl
    · cases h
  · cases h

theorem viaM_sound {d : TypeId} {x y : Value} (hR : VR φ x y) {name : String} {args args' : List Value} (ha : VRs φ args args') {f : Nat} {l : List Value} (h : calleeOf.viaM T s d x name args = some (f, l)) :
    ∃ r, VRs φ l (r :: args') ∧ (method (P.types.size + Made.depth) d y name).run P W = .ok (f, r) W := by
  unfold calleeOf.viaM at h
  split at h
  · rename_i g hm
    simp only [Option.some.injEq, Prod.mk.injEq] at h
    obtain ⟨rfl, rfl⟩ := h
    exact ⟨y, .cons hR ha, hT.meth _ _ _ hm y W⟩
  · rename_i g e hm
    split at h
    · rename_i ad te hte
      obtain ⟨j, hj⟩ := hT.ty _ _ hte
      cases hR with
      | @ptr b off L hb =>
        split at h
        · rename_i z hr
          simp only [Option.some.injEq, Prod.mk.injEq] at h
          obtain ⟨rfl, rfl⟩ := h
          obtain ⟨v', k1, k2⟩ := run_loadT hT hs he hj hb hr
          exact ⟨v', .cons k1 ha, hT.methAt _ _ _ _ hm _ W v' k2⟩
        · cases h
    · cases h
  · cases h

/-- a call of a function: what is called, and with what -/
theorem callee_sound {c : Call} {f : Nat} {l : List Value} (h : calleeOf T s t c = some (f, l)) (ho : o.op = .call c) :
    ∃ l', VRs φ l l' ∧ (execOp ρ o).run P W = (callFunc f l'.toArray).run P W := by
  have hx : execOp ρ o = (do let d ← resolve ρ c o.type; invoke d.target d.args) := by unfold execOp; rw [ho]
  rw [hx]
  unfold calleeOf at h
  cases hc : c.callee with
  | builtin b => simp [hc] at h
  | value fo =>
    simp only [hc] at h
    cases hf : evalO t fo with
    | none => simp [hf] at h
    | some fv =>
      cases hl : evalL t c.args.toList with
      | none => cases fv <;> simp [hf, hl] at h
      | some args =>
        have ha := env_list he _ _ hl
        have hfR := he fo fv hf
        generalize hq : ρ fo = q at hfR
        cases hfR with
        | @func fn la lb lc ld h1 h2 =>
          cases fn with
          | func g =>
            simp only [hf, hl, Option.some.injEq, Prod.mk.injEq] at h
            obtain ⟨rfl, rfl⟩ := h
            refine ⟨lb ++ c.args.toList.map ρ ++ ld, by simpa using (h1.append ha).append h2, ?_⟩
            simp only [resolve, hc, hq, Deferred.ofValue, Sem.run_bind, Sem.run_pure, Result.andThen_ok, invoke]
            congr 2
            apply Array.ext'
            simp
          | method name =>
            simp only [hf, hl] at h
            split at h
            · rename_i d x r
              cases h1 with
              | cons hi hrest =>
                cases hi with
                | @iface _ _ y hxy =>
                  rename_i mrest
                  obtain ⟨rv, k1, k2⟩ := viaM_sound hT hs he hxy (hrest.append ha) h
                  refine ⟨rv :: (mrest ++ c.args.toList.map ρ), k1, ?_⟩
                  simp only [resolve, hc, hq, Deferred.ofValue, Sem.run_bind, Sem.run_pure, Result.andThen_ok, invoke]
                  have e0 : (List.toArray (Value.iface d y :: mrest) ++ Array.map ρ c.args)[0]? = some (.iface d y) := by rw [Array.getElem?_append_left (by simp)]; rfl
                  simp only [e0, callMethod, Sem.run_bind, program, Sem.run, Sem.run_pure, Result.andThen_ok, k2]
                  congr 2
                  apply Array.ext'
                  simp
                  rw [List.take_of_length_le (by simp), List.take_of_length_le (by simp)]
            · cases h
          | _ => simp [hf, hl] at h
        | _ => simp [hf, hl] at h
  | invoke recv name =>
    simp only [hc] at h
    cases hf : evalO t recv with
    | none => simp [hf] at h
    | some fv =>
      cases hl : evalL t c.args.toList with
      | none => cases fv <;> simp [hf, hl] at h
      | some args =>
        have ha := env_list he _ _ hl
        have hfR := he recv fv hf
        generalize hq : ρ recv = q at hfR
        cases hfR with
        | @iface d x y hxy =>
          simp only [hf, hl] at h
          obtain ⟨rv, k1, k2⟩ := viaM_sound hT hs he hxy ha h
          refine ⟨rv :: c.args.toList.map ρ, k1, ?_⟩
          simp only [resolve, hc, hq, Sem.run_bind, Sem.run_pure, Result.andThen_ok, invoke]
          have e0 : (#[Value.iface d y] ++ Array.map ρ c.args)[0]? = some (.iface d y) := by rw [Array.getElem?_append_left (by simp)]; rfl
          simp only [e0, callMethod, Sem.run_bind, program, Sem.run, Sem.run_pure, Result.andThen_ok, k2]
          congr 2
          apply Array.ext'
          simp
          exact List.take_of_length_le (by simp)
        | _ => simp [hf, hl] at h
end ops
end Go.VE
