/-
  Each operation: what the interpreter does the model does.
-/
import Derived.Test.YtdepnglgbgpahaaGreatVeMem
set_option linter.unusedSectionVars false
set_option linter.unusedVariables false
set_option linter.unusedSimpArgs false
namespace Go.VE
open Go Go.RowKit
variable {P : Program} {T : Tab} {B : Nat} {W0 W : World} {φ : Phi} {s s' : St} {a : Act} {t : List Value} {o : Oper} {v : Value}

structure TyOk (P : Program) (t : TypeId) (ti : TI) (i : TypeInfo) : Prop where
  info : P.info? t = some i
  zero : i.zero = some ti.zero
  size : i.size = ti.size
  bytes : i.bytes = ti.bytes
  under : P.underlying t = some ti.d
  agg : ti.agg = (match ti.d with | .struct _ | .array _ _ => true | _ => false)
  atoms : ti.zero.cells.toList.all atom = true
  cells : ti.zero.cells.size = ti.size

structure TabOk (P : Program) (T : Tab) : Prop where
  ty : ∀ t ti, T.ty t = some ti → ∃ i, TyOk P t ti i
  fn : ∀ f fi, T.fn f = some fi → ∃ fn, P.funcs[f]? = some fn ∧ fn.body = some fi.code ∧ fn.ntmps = fi.ntmps ∧ fn.results.toList = fi.results ∧ (fn.name == "runtime.NumGoroutine") = false
  meth : ∀ t name f, T.meth t name = some (f, none) → ∀ v W, (method (P.types.size + Made.depth) t v name).run P W = .ok (f, v) W
  methAt : ∀ t name f e, T.meth t name = some (f, some e) → ∀ x W v, (loadVar e x).run P W = .ok v W → (method (P.types.size + Made.depth) t (.pointer (some x)) name).run P W = .ok (f, v) W
  ext : ∀ f e args v, T.ext f = some e → e args = some v → args.all atom = true ∧ atom v = true ∧ ∀ W, (callFunc f args.toArray).run P W = .ok (.value v) W

/-- the operation's value and world -/
def Does (P : Program) (ρ : Operand → Value) (o : Oper) (W : World) (v : Value) (W' : World) : Prop :=
  (execOp ρ o).run P W = .ok (.value v) W' ∨ (v = undef ∧ (execOp ρ o).run P W = .ok .skip W')

theorem wp_of_does {W' : World} {K : Act → World → Prop} {Q : Exit → Act → World → Prop} (h : Does P a.eval o W v W') (hk : K (a.put o.dst v) W') : o.wp P a W K Q := by
  unfold Oper.wp
  rcases h with h | ⟨rfl, h⟩ <;> rw [h] <;> exact hk

def OpR (P : Program) (B : Nat) (W0 : World) (φ : Phi) (s s' : St) (v : Value) (ρ : Operand → Value) (o : Oper) (W : World) : Prop :=
  ∃ φ' v' W', Grow s s' φ φ' ∧ Sim B W0 φ' s' W' ∧ VR φ' v v' ∧ Does P ρ o W v' W'

theorem OpR.same {ρ : Operand → Value} (hs : Sim B W0 φ s W) {v' : Value} (hv : VR φ v v') (h : (execOp ρ o).run P W = .ok (.value v') W) : OpR P B W0 φ s s v ρ o W :=
  ⟨φ, v', W, Grow.refl _ _, hs, hv, .inl h⟩

/-- operands -/
def Env (φ : Phi) (t : List Value) (ρ : Operand → Value) : Prop := ∀ x v, evalO t x = some v → VR φ v (ρ x)

theorem env_of (ht : VRs φ t a.tmps.toList) : Env φ t a.eval := by
  intro x v h
  cases x with
  | tmp k =>
    simp only [evalO, Option.some.injEq] at h
    subst h
    rw [nth_eq]
    have := ht.getD (VR.undef φ) k
    simpa [Act.eval, Array.getD_eq_getD_getElem?, List.getD_eq_getElem?_getD] using this
  | const c =>
    simp only [evalO] at h
    split at h
    · obtain rfl := Option.some.inj h
      exact VR.of_plain (by assumption)
    · cases h
  | global g => simp [evalO] at h
  | func f =>
    simp only [evalO, Option.some.injEq] at h
    subst h
    exact VR.func (a := []) (b := []) (c := []) (d := []) _ .nil .nil

theorem evalL_nil : evalL t [] = some [] := rfl
theorem evalL_cons (x : Operand) (l : List Operand) : evalL t (x :: l) = match evalO t x, evalL t l with
      | some v, some vs => some (v :: vs)
      | _, _ => none := rfl
theorem env_list {ρ : Operand → Value} (he : Env φ t ρ) : ∀ (l : List Operand) (vs : List Value), evalL t l = some vs → VRs φ vs (l.map ρ)
  | [], vs, h => by rw [evalL_nil] at h; obtain rfl := Option.some.inj h; exact .nil
  | x :: l, vs, h => by
    rw [evalL_cons] at h
    cases hx : evalO t x with
    | none => simp [hx] at h
    | some v =>
      cases hl : evalL t l with
      | none => simp [hx, hl] at h
      | some r =>
        simp [hx, hl] at h
        subst h
        exact .cons (he x v hx) (env_list he l r hl)

inductive PartsR (φ : Phi) : List (Nat × Value) → List (Nat × Value) → Prop where
  | nil : PartsR φ [] []
  | cons {i : Nat} {v w : Value} {l m : List (Nat × Value)} (h : VR φ v w) (hs : PartsR φ l m) : PartsR φ ((i, v) :: l) ((i, w) :: m)
theorem evalP_nil : evalP t [] = some [] := rfl
theorem evalP_cons (x : Nat × Operand) (l : List (Nat × Operand)) : evalP t (x :: l) = match evalO t x.2, evalP t l with
      | some v, some vs => some ((x.1, v) :: vs)
      | _, _ => none := rfl
theorem env_parts {ρ : Operand → Value} (he : Env φ t ρ) : ∀ (l : List (Nat × Operand)) (vs : List (Nat × Value)), evalP t l = some vs → PartsR φ vs (l.map fun x => (x.1, ρ x.2))
  | [], vs, h => by rw [evalP_nil] at h; obtain rfl := Option.some.inj h; exact .nil
  | (i, x) :: l, vs, h => by
    rw [evalP_cons] at h
    cases hx : evalO t x with
    | none => simp [hx] at h
    | some v =>
      cases hl : evalP t l with
      | none => simp [hx, hl] at h
      | some r =>
        simp [hx, hl] at h
        subst h
        exact .cons (he x v hx) (env_parts he l r hl)

theorem pureRun_run {α : Type} : ∀ (m : Sem α) (x : α), pureRun P m = some x → ∀ W, m.run P W = .ok x W
  | .pure y, x, h, W => by simp only [pureRun, Option.some.injEq] at h; subst h; rfl
  | .program k, x, h, W => by simp only [pureRun] at h; simp only [Sem.run]; exact pureRun_run (k P) x h W
  | .mark m k, x, h, W => by simp only [pureRun] at h; simp only [Sem.run]; exact pureRun_run k x h W
  | .load .., _, h, _ => by simp [pureRun] at h
  | .store .., _, h, _ => by simp [pureRun] at h
  | .new .., _, h, _ => by simp [pureRun] at h
  | .shape .., _, h, _ => by simp [pureRun] at h
  | .freeze .., _, h, _ => by simp [pureRun] at h
  | .frozen .., _, h, _ => by simp [pureRun] at h
  | .getObj .., _, h, _ => by simp [pureRun] at h
  | .setObj .., _, h, _ => by simp [pureRun] at h
  | .choose .., _, h, _ => by simp [pureRun] at h
  | .sys .., _, h, _ => by simp [pureRun] at h
  | .halt .., _, h, _ => by simp [pureRun] at h

/-- an operation that is one computation of a value -/
theorem run_v {ρ : Operand → Value} {m : Sem Value} {w : Value} {W' : World} (ho : execOp ρ o = (do pure (.value (← m)))) (h : m.run P W = .ok w W') : (execOp ρ o).run P W = .ok (.value w) W' := by
  rw [ho]; simp [h]
theorem run_u {ρ : Operand → Value} {m : Sem Unit} {W' : World} (ho : execOp ρ o = (do m; pure .skip)) (h : m.run P W = .ok () W') : (execOp ρ o).run P W = .ok .skip W' := by
  rw [ho]; simp [h]

theorem run_sizeOf {ti : TI} {i : TypeInfo} {y : TypeId} (h : TyOk P y ti i) : (sizeOf y).run P W = .ok ti.size W := by
  simp [sizeOf, typeInfo, h.info, h.size]
theorem run_typeInfo {ti : TI} {i : TypeInfo} {y : TypeId} (h : TyOk P y ti i) : (typeInfo y).run P W = .ok i W := by
  simp [typeInfo, h.info]
theorem run_zero {ti : TI} {i : TypeInfo} {y : TypeId} (h : TyOk P y ti i) : (zeroValue y).run P W = .ok ti.zero W := by
  simp [zeroValue, typeInfo, h.info, h.zero]
theorem run_isAgg {ti : TI} {i : TypeInfo} {y : TypeId} (h : TyOk P y ti i) : (isAgg y).run P W = .ok ti.agg W := by
  rw [h.agg]
  simp only [isAgg, Sem.run_bind, run_underlying h.under, Result.andThen_ok]
  cases ti.d <;> rfl

section ops
variable (hT : TabOk P T) (hs : Sim B W0 φ s W) {ρ : Operand → Value} (he : Env φ t ρ)
include hs he

theorem sound_move {x : Operand} (ho : o.op = .move x ∨ o.op = .assign x) (h : opMove t x s = some (v, s')) : OpR P B W0 φ s s' v ρ o W := by
  unfold opMove at h
  cases hx : evalO t x with
  | none => simp [hx] at h
  | some u =>
    simp only [hx, ok, Option.some.injEq, Prod.mk.injEq] at h
    obtain ⟨rfl, rfl⟩ := h
    exact .same hs (he x u hx) (by rcases ho with ho | ho <;> simp [execOp, ho])

theorem sound_pick {c x y : Operand} (ho : o.op = .pick c x y) (h : opPick t c x y s = some (v, s')) : OpR P B W0 φ s s' v ρ o W := by
  unfold opPick at h
  cases hc : evalO t c with
  | none => simp [hc] at h
  | some q =>
    have hcv := he c q hc
    cases q with
    | bool r =>
      generalize hq : ρ c = q' at hcv
      cases hcv
      cases r with
      | true =>
        cases hx : evalO t x with
        | none => simp [hc, hx] at h
        | some u =>
          simp only [hc, hx, ok, Option.some.injEq, Prod.mk.injEq] at h
          obtain ⟨rfl, rfl⟩ := h
          exact .same hs (he x _ hx) (by simp [execOp, ho, hq, asBool])
      | false =>
        cases hy : evalO t y with
        | none => simp [hc, hy] at h
        | some u =>
          simp only [hc, hy, ok, Option.some.injEq, Prod.mk.injEq] at h
          obtain ⟨rfl, rfl⟩ := h
          exact .same hs (he y _ hy) (by simp [execOp, ho, hq, asBool])
    | _ => simp [hc] at h

include hT
theorem sound_alloc {e : TypeId} (ho : o.op = .alloc e) (h : opAlloc T e s = some (v, s')) : OpR P B W0 φ s s' v ρ o W := by
  unfold opAlloc at h
  cases hty : T.ty e with
  | none => simp [hty] at h
  | some ti =>
    simp only [hty, ok, Option.some.injEq, Prod.mk.injEq] at h
    obtain ⟨rfl, rfl⟩ := h
    obtain ⟨i, hi⟩ := hT.ty e ti hty
    have hn := new_sound hs (Below.refl _ W) rfl e [] (VRs.of_atoms (φ := φ) hi.atoms) 0
    refine ⟨_, .pointer (some ⟨W.heap.size, 0, none⟩), _, Grow.push hs _ _, hn, ?_, .inl ?_⟩
    · have := VR.ptr (φ := ext φ s.nx ⟨W.heap.size, 0, (ti.zero.cells.toList ++ []).length, 0⟩) (o := 0) (ext_same _ _ _)
      simpa using this
    · refine run_v (m := Instr.alloc e true (.tuple #[])) (by unfold execOp; rw [ho]) ?_
      simp [Instr.alloc, run_zero hi, newVar, newRow, newObj, Sem.run]

theorem sound_box {e : TypeId} {x : Operand} (ho : o.op = .box e x) (h : opBox T t e x s = some (v, s')) : OpR P B W0 φ s s' v ρ o W := by
  unfold opBox at h
  split at h
  · rename_i ti u hty hx
    simp only [ok, Option.some.injEq, Prod.mk.injEq] at h
    obtain ⟨rfl, rfl⟩ := h
    have hn := new_sound hs (Below.refl _ W) rfl e [] (he x u hx).cells 0
    refine ⟨_, .pointer (some ⟨W.heap.size, 0, none⟩), _, Grow.push hs _ _, hn, ?_, .inl ?_⟩
    · have := VR.ptr (φ := ext φ s.nx ⟨W.heap.size, 0, ((ρ x).cells.toList ++ []).length, 0⟩) (o := 0) (ext_same _ _ _)
      simpa using this
    · refine run_v (m := Instr.box e (ρ x)) (by unfold execOp; rw [ho]) ?_
      simp [Instr.box, newVar, newRow, newObj, Sem.run]
  · cases h

theorem run_loadT {ty : TypeId} {ti : TI} {i : TypeInfo} (hi : TyOk P ty ti i) {b o : Nat} {L : Loc} (hb : φ b = some L) (h : rdT ti s ⟨b, o, none⟩ = some v) :
    ∃ v', VR φ v v' ∧ (loadVar ty ⟨L.blk, L.sh + o, none⟩).run P W = .ok v' W := by
  unfold rdT at h
  cases hr : rd s ⟨b, o, none⟩ ti.size with
  | none => simp [hr] at h
  | some vs =>
    obtain ⟨vs', h1, h2, h3, h4⟩ := rd_sound hs hb hr
    simp only [hr] at h
    have hagg := hi.agg
    cases ha : ti.agg with
    | true =>
      simp only [ha, if_true, Option.some.injEq] at h
      subst h
      refine ⟨.agg vs'.toArray, .agg h1, run_loadVar_mid W _ _ ty vs' ti.d h4 hi.under ?_ (by simp [hi.info, hi.size, h3])⟩
      rw [ha] at hagg
      revert hagg
      cases ti.d <;> simp [TypeDesc.isRow]
    | false =>
      simp only [ha, Bool.false_eq_true, if_false] at h
      split at h
      · rename_i u
        obtain rfl := Option.some.inj h
        cases h1 with
        | cons hv hn =>
          cases hn
          rename_i u'
          refine ⟨u', hv, ?_⟩
          have hc := h4 0 u' rfl
          have hl : (isAgg ty).run P W = .ok false W := by rw [run_isAgg hi, ha]
          simp [loadVar, Sem.run_bind, hl, load, Sem.run]
          simp only [Nat.add_zero] at hc
          rw [hc]
      · cases h

theorem sound_load {ty : TypeId} {x : Operand} (ho : o.op = .load ty x) (h : opLoad T t ty x s = some (v, s')) : OpR P B W0 φ s s' v ρ o W := by
  unfold opLoad at h
  split at h
  · rename_i ti p hty hx
    split at h
    · rename_i u hr
      simp only [ok, Option.some.injEq, Prod.mk.injEq] at h
      obtain ⟨rfl, rfl⟩ := h
      obtain ⟨i, hi⟩ := hT.ty ty ti hty
      have hp := he x _ hx
      generalize hq : ρ x = q at hp
      cases hp with
      | ptr hb =>
        obtain ⟨v', h1, h2⟩ := run_loadT hT hs he hi hb hr
        exact .same hs h1 (run_v (m := Instr.loadAt ty (ρ x)) (by unfold execOp; rw [ho]) (by simp [Instr.loadAt, Instr.sureAddr, hq, Sem.run_bind, h2]))
    · cases h
  · cases h

theorem sound_store {ty : TypeId} {x y : Operand} (ho : o.op = .store ty x y) (h : opStore T t ty x y s = some (v, s')) : OpR P B W0 φ s s' v ρ o W := by
  unfold opStore at h
  split at h
  · rename_i ti p u hty hx hy
    split at h
    · rename_i hsz
      split at h
      · rename_i s1 hw
        simp only [ok, Option.some.injEq, Prod.mk.injEq] at h
        obtain ⟨rfl, rfl⟩ := h
        obtain ⟨i, hi⟩ := hT.ty ty ti hty
        have hp := he x _ hx
        generalize hq : ρ x = q at hp
        cases hp with
        | ptr hb =>
          have hv := (he y _ hy).cells
          obtain ⟨h1, h2, h3, h4⟩ := wr_sound hs hb hw hv
          have hlen : (ρ y).cells.size = ti.size := by have := hv.length; simp at this; omega
          refine ⟨φ, undef, _, Grow.of_nx _ h4, h3, .undef _, .inr ⟨rfl, run_u (m := Instr.storeAt ty (ρ x) (ρ y)) (by unfold execOp; rw [ho]) ?_⟩⟩
          simp [Instr.storeAt, Instr.sureAddr, hq, Sem.run_bind, storeVar, run_sizeOf hi, hlen, run_store _ _ _ _ h1 h2]
      · cases h
    · cases h
  · cases h
end ops
end Go.VE
