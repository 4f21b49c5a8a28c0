/-
  More operations: computations, comparisons, slices, indexes, assertions.
-/
import Derived.Test.YtdepnglgbgpahaaGreatVeOps2
set_option linter.unusedSectionVars false
set_option linter.unusedVariables false
set_option linter.unusedSimpArgs false
namespace Go.VE
open Go Go.RowKit
variable {P : Program} {T : Tab} {B : Nat} {W0 W : World} {φ : Phi} {s s' : St} {a : Act} {t : List Value} {o : Oper} {v : Value}

theorem pureV_run {m : Sem Value} (h : pureV P m = some v) : plain v = true ∧ ∀ W, m.run P W = .ok v W := by
  unfold pureV at h
  cases hp : pureRun P m with
  | none => simp [hp] at h
  | some u =>
    simp only [hp] at h
    split at h
    · obtain rfl := Option.some.inj h
      exact ⟨by assumption, pureRun_run m _ hp⟩
    · cases h

theorem run_eqGuard_int {op : BinOp} {y : TypeId} {x1 x2 : Operand} {j k : IntKind} {m n : Int} : (eqGuard op y x1 x2 (.int j m) (.int k n)).run P W = .ok () W := by
  unfold eqGuard
  cases op <;> simp [Sem.run_bind] <;> rfl

theorem nilOf_sound {a b : Value} (h : VR φ a b) : nilOf b = nilOf a := by
  cases h <;> rfl

theorem kindOk_sound {d : TypeDesc} {a b : Value} (h : VR φ a b) : kindOk d b = kindOk d a := by
  cases h <;> cases d <;> rfl

theorem litNil_spec {ρ : Operand → Value} (he : Env φ t ρ) {y : Operand} {b : Value} (hy : evalO t y = some b) (h : litNil y = true) : ρ y = b ∧ isNilV b = true ∧ ∃ c, y = .const c := by
  cases y with
  | const c =>
    simp only [litNil] at h
    simp only [evalO] at hy
    split at hy
    · obtain rfl := Option.some.inj hy
      have hR := he _ _ (show evalO t (.const c) = some c by simp [evalO, *])
      exact ⟨VR.eq_of_plain (by assumption) hR, h, c, rfl⟩
    · cases hy
  | _ => simp [litNil] at h

theorem nil_cases {d : TypeDesc} {b : Value} (h : kindOk d b = true) (hn : isNilV b = true) :
    (∃ e, d = .pointer e ∧ b = .pointer none) ∨ (∃ e, d = .slice e ∧ b = .slice none 0 0) ∨ (∃ k e, d = .map k e ∧ b = .map none) ∨ (∃ p r x, d = .func p r x ∧ b = .nilFunc) ∨ (∃ m, d = .interface m ∧ b = .nilIface) := by
  unfold kindOk at h
  split at h
  · rename_i e p; cases p with
    | none => exact .inl ⟨_, rfl, rfl⟩
    | some p => cases hn
  · rename_i e p n c
    cases p with
    | none => cases n with
      | zero => cases c with
        | zero => exact .inr (.inl ⟨_, rfl, rfl⟩)
        | succ c => cases hn
      | succ n => cases hn
    | some p => cases hn
  · rename_i k e p; cases p with
    | none => exact .inr (.inr (.inl ⟨_, _, rfl, rfl⟩))
    | some p => cases hn
  · exact .inr (.inr (.inr (.inl ⟨_, _, _, rfl, rfl⟩)))
  · cases hn
  · exact .inr (.inr (.inr (.inr ⟨_, rfl, rfl⟩)))
  · cases hn
  · cases h

theorem equalIn_nil {n : Nat} {ty : TypeId} {a b : Value} {ti : TI} {i : TypeInfo} (hi : TyOk P ty ti i) (ha : kindOk ti.d a = true) (hb : kindOk ti.d b = true) (hn : isNilV b = true) {r : Bool}
    (hr : nilOf a = some r) : (Op.equalIn (n + 1) ty a b).run P W = .ok r W := by
  have hu := hi.under
  rcases nil_cases hb hn with ⟨e, hd, rfl⟩ | ⟨e, hd, rfl⟩ | ⟨k, e, hd, rfl⟩ | ⟨p, q, x, hd, rfl⟩ | ⟨m, hd, rfl⟩
  · rw [hd] at ha hu
    cases a <;> simp only [kindOk, Bool.false_eq_true] at ha
    rename_i p
    simp only [nilOf, Option.some.injEq] at hr
    subst hr
    cases p <;> simp [Op.equalIn, run_underlying hu]
  · rw [hd] at ha hu
    cases a <;> simp only [kindOk, Bool.false_eq_true] at ha
    rename_i p _ _
    simp only [nilOf, Option.some.injEq] at hr
    subst hr
    cases p <;> simp [Op.equalIn, run_underlying hu]
  · rw [hd] at ha hu
    cases a <;> simp only [kindOk, Bool.false_eq_true] at ha
    rename_i p
    simp only [nilOf, Option.some.injEq] at hr
    subst hr
    cases p <;> simp [Op.equalIn, run_underlying hu]
  · rw [hd] at ha hu
    cases a <;> simp only [kindOk, Bool.false_eq_true] at ha
    · simp only [nilOf, Option.some.injEq] at hr
      subst hr
      simp [Op.equalIn, run_underlying hu]
    · simp only [nilOf, Option.some.injEq] at hr
      subst hr
      simp [Op.equalIn, run_underlying hu]
  · rw [hd] at ha hu
    cases a <;> simp only [kindOk, Bool.false_eq_true] at ha
    · simp only [nilOf, Option.some.injEq] at hr
      subst hr
      simp [Op.equalIn, run_underlying hu]
    · simp only [nilOf, Option.some.injEq] at hr
      subst hr
      simp [Op.equalIn, run_underlying hu]

theorem eqGuard_nil {ty : TypeId} {a b : Value} (hn : isNilV b = true) (op : BinOp) (x : Operand) (c : Value) : (eqGuard op ty x (.const c) a b).run P W = .ok () W := by
  unfold eqGuard
  cases op <;> first | rfl | skip
  all_goals
    unfold isNilV at hn
    split at hn <;> first | (cases hn; done) | skip
    all_goals (cases a <;> first | rfl | simp)

theorem run_nilCmp {op : BinOp} {ty : TypeId} {x1 y : Operand} {a b : Value} {ti : TI} {i : TypeInfo} (hi : TyOk P ty ti i) (ha : kindOk ti.d a = true) (hb : kindOk ti.d b = true) (hn : isNilV b = true) {r : Bool}
    (hr : nilOf a = some r) (hy : ∃ c, y = .const c) (hop : nilCmp op r = some v) : (do eqGuard op ty x1 y a b; binOp op ty a b : Sem Value).run P W = .ok v W := by
  obtain ⟨c, rfl⟩ := hy
  simp only [Sem.run_bind, eqGuard_nil hn, Result.andThen_ok]
  have heq := fun W => equalIn_nil (P := P) (W := W) (n := 9999) hi ha hb hn hr
  have heq' : ∀ W, (Op.equal ty a b).run P W = .ok r W := heq
  have hshape : binOp .eql ty a b = (do pure (.bool (← Op.equal ty a b))) ∧ binOp .neq ty a b = (do pure (.bool (!(← Op.equal ty a b)))) := by
    unfold isNilV at hn
    split at hn <;> first | (cases hn; done) | skip
    all_goals (cases a <;> first | exact ⟨rfl, rfl⟩ | (exfalso; revert ha hb; cases ti.d <;> simp [kindOk]))
  cases op <;> simp only [nilCmp, Option.some.injEq, reduceCtorEq] at hop
  · subst hop
    rw [hshape.1]
    simp [heq']
  · subst hop
    rw [hshape.2]
    simp [heq']

section ops
variable (hT : TabOk P T) (hs : Sim B W0 φ s W) {ρ : Operand → Value} (he : Env φ t ρ)
include hs he hT

theorem intOp_run {op : BinOp} {ty : TypeId} {j : IntKind} {m n : Int} (h : intOp P op ty j m n = some v) : plain v = true ∧ (binOp op ty (.int j m) (.int j n)).run P W = .ok v W := by
  unfold intOp at h
  cases hc : cmpInt op m n with
  | some r =>
    simp only [hc, Option.some.injEq] at h
    subst h
    refine ⟨rfl, ?_⟩
    cases op <;> simp only [cmpInt, Option.some.injEq, reduceCtorEq] at hc <;> subst hc <;> simp [binOp, Op.intCmp]
  | none =>
    simp only [hc] at h
    split at h
    · obtain rfl := Option.some.inj h
      exact ⟨rfl, by simp [binOp, Op.intArith]⟩
    · obtain rfl := Option.some.inj h
      exact ⟨rfl, by simp [binOp, Op.intArith]⟩
    · obtain ⟨h1, h2⟩ := pureV_run h
      exact ⟨h1, h2 W⟩

theorem sound_binOp {op : BinOp} {xt yt : TypeId} {x y : Operand} (ho : o.op = .binOp op xt x y yt) (h : opBinOp P T t op xt x y s = some (v, s')) : OpR P B W0 φ s s' v ρ o W := by
  unfold opBinOp at h
  cases hx : evalO t x with
  | none => simp [hx] at h
  | some p =>
    cases hy : evalO t y with
    | none => simp [hx, hy] at h
    | some q =>
      have hp := he x p hx
      have hq := he y q hy
      simp only [hx, hy] at h
      cases hb : binOpV P T op xt x y p q with
      | none => simp [hb] at h
      | some u =>
        simp only [hb, ok, Option.some.injEq, Prod.mk.injEq] at h
        obtain ⟨rfl, rfl⟩ := h
        have fin : ∀ {v' : Value}, VR φ u v' → (do eqGuard op xt x y (ρ x) (ρ y); binOp op xt (ρ x) (ρ y) : Sem Value).run P W = .ok v' W → OpR P B W0 φ s s u ρ o W :=
          fun hv hr => .same hs hv (run_v (m := do eqGuard op xt x y (ρ x) (ρ y); binOp op xt (ρ x) (ρ y)) (by unfold execOp; rw [ho]) hr)
        unfold binOpV at hb
        split at hb
        · rename_i j m k n
          have e1 := VR.eq_of_atom (by rfl) hp
          have e2 := VR.eq_of_atom (by rfl) hq
          split at hb
          · rename_i hjk
            subst hjk
            obtain ⟨h1, h2⟩ := intOp_run hT hs he hb
            refine fin (VR.of_plain h1) ?_
            rw [e1, e2]
            simp only [Sem.run_bind, run_eqGuard_int, Result.andThen_ok, h2]
          · obtain ⟨h1, h2⟩ := pureV_run hb
            refine fin (VR.of_plain h1) ?_
            rw [e1, e2]
            exact h2 W
        · split at hb
          · rename_i hlit
            obtain ⟨e2, hn, hc⟩ := litNil_spec he hy hlit
            cases hty : T.ty xt with
            | none => simp [hty] at hb
            | some ti =>
              obtain ⟨i, hi⟩ := hT.ty _ _ hty
              simp only [hty] at hb
              split at hb
              · rename_i hk
                simp only [Bool.and_eq_true] at hk
                cases hr : nilOf p with
                | none => simp [hr] at hb
                | some r =>
                  simp only [hr] at hb
                  have hkx : kindOk ti.d (ρ x) = true := by rw [kindOk_sound hp]; exact hk.1
                  have hv : plain u = true := by
                    unfold nilCmp at hb
                    split at hb <;> first | (obtain rfl := Option.some.inj hb; rfl) | cases hb
                  refine fin (VR.of_plain hv) ?_
                  rw [e2]
                  exact run_nilCmp hi hkx hk.2 hn (by rw [nilOf_sound hp]; exact hr) hc hb
              · cases hb
          · split at hb
            · rename_i hpl
              simp only [Bool.and_eq_true] at hpl
              obtain ⟨h1, h2⟩ := pureV_run hb
              refine fin (VR.of_plain h1) ?_
              rw [VR.eq_of_plain hpl.1 hp, VR.eq_of_plain hpl.2 hq]
              exact h2 W
            · cases hb

theorem sound_unOp {op : UnOp} {xt : TypeId} {x : Operand} (ho : o.op = .unOp op xt x) (h : opUnOp P t op x s = some (v, s')) : OpR P B W0 φ s s' v ρ o W := by
  unfold opUnOp at h
  cases hx : evalO t x with
  | none => simp [hx] at h
  | some p =>
    have hp := he x p hx
    simp only [hx] at h
    split at h
    · rename_i hpl
      cases hr : pureRun P (Op.unary op p) with
      | none => simp [hr] at h
      | some u =>
        simp only [hr] at h
        split at h
        · rename_i hu
          simp only [ok, Option.some.injEq, Prod.mk.injEq] at h
          obtain ⟨rfl, rfl⟩ := h
          refine .same hs (VR.of_plain hu) (run_v (m := Op.unary op (ρ x)) (by unfold execOp; rw [ho]) ?_)
          rw [VR.eq_of_plain hpl hp]
          exact pureRun_run _ _ hr W
        · cases h
    · cases h

theorem sound_convert {a b : TypeId} {x : Operand} (ho : o.op = .convert a b x) (h : opConvert T t a b x s = some (v, s')) : OpR P B W0 φ s s' v ρ o W := by
  unfold opConvert at h
  cases hta : T.ty a with
  | none => simp [hta] at h
  | some ta =>
    cases htb : T.ty b with
    | none => simp [hta, htb] at h
    | some tb =>
      obtain ⟨i, hi⟩ := hT.ty _ _ hta
      obtain ⟨j, hj⟩ := hT.ty _ _ htb
      cases hx : evalO t x with
      | none => simp [hta, htb, hx] at h
      | some p =>
        have hp := he x p hx
        simp only [hta, htb, hx] at h
        split at h
        · rename_i hd
          simp only [ok, Option.some.injEq, Prod.mk.injEq] at h
          obtain ⟨rfl, rfl⟩ := h
          have e := VR.eq_of_atom (by rfl) hp
          refine .same hs (.int _ _) (run_v (m := convert a b (ρ x)) (by unfold execOp; rw [ho]) ?_)
          rw [e]
          simp only [convert, Sem.run_bind, run_underlying hi.under, run_underlying hj.under, Result.andThen_ok, hd]
          simp [Conv.intToInt]
        · rename_i hd
          simp only [ok, Option.some.injEq, Prod.mk.injEq] at h
          obtain ⟨rfl, rfl⟩ := h
          have e := VR.eq_of_atom (by rfl) hp
          refine .same hs (.string _) (run_v (m := convert a b (ρ x)) (by unfold execOp; rw [ho]) ?_)
          rw [e]
          simp only [convert, Sem.run_bind, run_underlying hi.under, run_underlying hj.under, Result.andThen_ok, hd]
          simp
        · cases h

theorem sound_typeAssert {x : Operand} {xt asserted : TypeId} {c : Bool} (ho : o.op = .typeAssert x xt asserted c) (h : opTypeAssert T t x asserted c s = some (v, s')) : OpR P B W0 φ s s' v ρ o W := by
  unfold opTypeAssert at h
  cases hta : T.ty asserted with
  | none => simp [hta] at h
  | some ta =>
    obtain ⟨i, hi⟩ := hT.ty _ _ hta
    cases hx : evalO t x with
    | none => simp [hta, hx] at h
    | some p =>
      have hp := he x p hx
      generalize hq : ρ x = q at hp
      cases hp with
      | @iface d u w hv =>
        simp only [hta, hx] at h
        have hnot : ∀ m, ta.d ≠ .interface m := by
          intro m hm
          simp [hm] at h
        have h' : (if d = asserted then ok (if c = true then Value.tuple #[u, Value.bool true] else u) s else none) = some (v, s') := by
          revert h
          cases hd : ta.d <;> simp only [] <;> intro h <;> first | exact h | exact absurd hd (hnot _)
        split at h'
        · rename_i hda
          subst hda
          simp only [ok, Option.some.injEq, Prod.mk.injEq] at h'
          obtain ⟨rfl, rfl⟩ := h'
          refine .same hs (v' := if c = true then Value.tuple #[w, Value.bool true] else w) ?_ (run_v (m := Instr.typeAssert (ρ x) xt d c) (by unfold execOp; rw [ho]) ?_)
          · cases c
            · exact hv
            · exact VR.tuple (.cons hv (.cons (.bool true) .nil))
          · simp only [Instr.typeAssert, Sem.run_bind, run_underlying hi.under, Result.andThen_ok, hq]
            cases hd : ta.d <;> simp <;> first | rfl | exact absurd hd (hnot _)
        · cases h'
      | _ => simp [hta, hx] at h

theorem sound_index {ty : TypeId} {x y : Operand} (ho : o.op = .index ty x y) (h : opIndex T t ty x y s = some (v, s')) : OpR P B W0 φ s s' v ρ o W := by
  unfold opIndex at h
  cases hty : T.ty ty with
  | none => simp [hty] at h
  | some ti =>
    obtain ⟨i, hi⟩ := hT.ty ty ti hty
    cases hx : evalO t x with
    | none => simp [hty, hx] at h
    | some q =>
      have hR := he x q hx
      cases hk : opt (evalO t y) asN with
      | none => simp [hty, hx, hk] at h
      | some k =>
        obtain ⟨jk, n, hn1, hn2, hn3⟩ := asN_sound hT hs he hk
        generalize hq : ρ x = q' at hR
        cases hd : ti.d with
        | array n' e =>
          cases hR with
          | agg hl =>
            simp only [hty, hx, hk, hd] at h
            cases hte : T.ty e with
            | none => simp [hte] at h
            | some te =>
              obtain ⟨j, hj⟩ := hT.ty _ _ hte
              simp only [hte] at h
              split at h
              · rename_i hlt
                obtain ⟨rfl, v', h1, h2⟩ := part_sound hT hs he hj (by simpa using hl) h
                refine .same hs h1 (run_v (m := Instr.index ty (ρ x) (ρ y)) (by unfold execOp; rw [ho]) ?_)
                have : 0 ≤ n ∧ n < (n' : Int) := ⟨hn2, by omega⟩
                simp only [Instr.index, Sem.run_bind, hn1, asIntOf, Sem.run_pure, Result.andThen_ok, run_underlying hi.under, hd, hq, this, and_self, if_true, run_sizeOf hj, hn3, h2]
              · cases h
          | _ => simp [hty, hx, hk, hd] at h
        | string =>
          cases hR with
          | string b =>
            simp only [hty, hx, hk, hd] at h
            cases hb : b.data[k]? with
            | none => simp [hb] at h
            | some c =>
              simp only [hb, ok, Option.some.injEq, Prod.mk.injEq] at h
              obtain ⟨rfl, rfl⟩ := h
              refine .same hs (.int _ _) (run_v (m := Instr.index ty (ρ x) (ρ y)) (by unfold execOp; rw [ho]) ?_)
              have hb' : b[k]? = some c := hb
              simp only [Instr.index, Sem.run_bind, hn1, asIntOf, Sem.run_pure, Result.andThen_ok, run_underlying hi.under, hd, hq, hn2, if_true, hn3, hb']
          | _ => simp [hty, hx, hk, hd] at h
        | _ => simp [hty, hx, hk, hd] at h
end ops
end Go.VE
