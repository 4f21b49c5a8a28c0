/-
  The tables of a program are right.
-/
import Derived.Test.YtdepnglgbgpahaaGreatVeMain
import Derived.Laws.Externs
set_option linter.unusedSectionVars false
set_option linter.unusedVariables false
set_option linter.unusedSimpArgs false
namespace Go.VE
open Go Go.RowKit
variable {P : Program}

theorem tiOf_ok {t : TypeId} {ti : TI} (h : tiOf P t = some ti) : ∃ i, TyOk P t ti i := by
  unfold tiOf at h
  split at h
  · rename_i i d hi hd
    split at h
    · rename_i z hz
      split at h
      · rename_i hc
        obtain rfl := Option.some.inj h
        simp only [Bool.and_eq_true, beq_iff_eq] at hc
        exact ⟨i, hi, hz, rfl, rfl, hd, rfl, hc.1, hc.2⟩
      · cases h
    · cases h
  · cases h

theorem fnOf_ok {f : FuncId} {fi : FnI} (h : fnOf P f = some fi) : ∃ fn, P.funcs[f]? = some fn ∧ fn.body = some fi.code ∧ fn.ntmps = fi.ntmps ∧ fn.results.toList = fi.results ∧ (fn.name == "runtime.NumGoroutine") = false := by
  unfold fnOf at h
  split at h
  · rename_i fn hfn
    split at h
    · rename_i c hb
      split at h
      · cases h
      · rename_i hn
        obtain rfl := Option.some.inj h
        exact ⟨fn, hfn, hb, rfl, rfl, by simpa using hn⟩
    · cases h
  · cases h

theorem depth_pos : ∃ k, P.types.size + Made.depth = k + 1 := ⟨P.types.size + 99, rfl⟩

theorem run_method {t : TypeId} {name : String} {i : TypeInfo} {m : Method} (hi : P.info? t = some i) (hm : i.methods.find? (·.name == name) = some m) (hp : m.path.isEmpty = true) {f : FuncId} {r : Bool} (hf : m.func = some (f, r)) (v : Value) (W : World) :
    (method (P.types.size + Made.depth) t v name).run P W = ((receiverAt t (.val v) r (some ((name.splitOn ".").getLastD name))).run P W).andThen fun x w => .ok (f, x) w := by
  obtain ⟨k, hk⟩ := depth_pos (P := P)
  rw [hk]
  have hnil : m.path.toList = [] := by simpa [Array.isEmpty_iff] using hp
  simp only [method, Sem.run_bind, typeInfo, program, Sem.run, Result.andThen_ok, hi, Sem.run_pure, hm, hnil, follow, hf, hp, if_true]

theorem meth_cases {t : TypeId} {name : String} {f : Nat} {r : Option Nat} (h : methOf P t name = some (f, r)) : ∃ i m, P.info? t = some i ∧ i.methods.find? (·.name == name) = some m ∧ m.path.isEmpty = true ∧
    ((r = none ∧ m.func = some (f, true) ∧ ∃ e, P.underlying t = some (.pointer e)) ∨ (r = none ∧ m.func = some (f, false) ∧ ∃ d, P.underlying t = some d ∧ ∀ e, d ≠ .pointer e) ∨ (∃ e, r = some e ∧ m.func = some (f, false) ∧ P.underlying t = some (.pointer e))) := by
  unfold methOf at h
  split at h
  · rename_i i hi
    split at h
    · rename_i m hm
      split at h
      · rename_i hp
        refine ⟨i, m, hi, hm, hp, ?_⟩
        split at h
        · rename_i g b d h1 h2
          unfold ptrCase at h
          split at h
          · rename_i e
            cases b with
            | true =>
              simp only [if_true, Option.some.injEq, Prod.mk.injEq] at h
              obtain ⟨rfl, rfl⟩ := h
              exact .inl ⟨rfl, h1, e, h2⟩
            | false =>
              simp only [Bool.false_eq_true, if_false, Option.some.injEq, Prod.mk.injEq] at h
              obtain ⟨rfl, rfl⟩ := h
              exact .inr (.inr ⟨e, rfl, h1, h2⟩)
          · rename_i hne
            cases b with
            | true => simp at h
            | false =>
              simp only [Bool.false_eq_true, if_false, Option.some.injEq, Prod.mk.injEq] at h
              obtain ⟨rfl, rfl⟩ := h
              exact .inr (.inl ⟨rfl, h1, d, h2, fun e he => hne e he⟩)
        · cases h
      · cases h
    · cases h
  · cases h

theorem run_under {t : TypeId} {d : TypeDesc} (h : P.underlying t = some d) (W : World) : (underlying t).run P W = .ok d W := by
  unfold underlying
  simp only [Sem.run_bind, program, Sem.run, Result.andThen_ok, h, Sem.run_pure]

theorem meth_ok {t : TypeId} {name : String} {f : Nat} (h : methOf P t name = some (f, none)) (v : Value) (W : World) :
    (method (P.types.size + Made.depth) t v name).run P W = .ok (f, v) W := by
  obtain ⟨i, m, hi, hm, hp, h | h | h⟩ := meth_cases h
  · obtain ⟨_, hf, e, hu⟩ := h
    rw [run_method hi hm hp hf]
    simp only [receiverAt, Sem.run_bind, run_under hu, Result.andThen_ok, Place.get, Sem.run_pure]
  · obtain ⟨_, hf, d, hu, hne⟩ := h
    rw [run_method hi hm hp hf]
    simp only [receiverAt, Sem.run_bind, run_under hu, Result.andThen_ok]
    simp only [Place.get, Sem.run_pure, Result.andThen_ok]
  · obtain ⟨e, he, _⟩ := h
    cases he

theorem methAt_ok {t : TypeId} {name : String} {f e : Nat} (h : methOf P t name = some (f, some e)) (x : Addr) (W : World) (v : Value) (hl : (loadVar e x).run P W = .ok v W) :
    (method (P.types.size + Made.depth) t (.pointer (some x)) name).run P W = .ok (f, v) W := by
  obtain ⟨i, m, hi, hm, hp, h | h | h⟩ := meth_cases h
  · cases h.1
  · cases h.1
  · obtain ⟨e', he, hf, hu⟩ := h
    obtain rfl := Option.some.inj he
    rw [run_method hi hm hp hf]
    simp only [receiverAt, Sem.run_bind, run_under hu, Result.andThen_ok, Place.get, Sem.run_pure]
    have hw : ∀ nm : String, (Builtin.ssaWrapNilChk_ #[t] t #[.pointer (some x), strVal "", strVal nm]).run P W = .ok (.pointer (some x)) W := fun nm => rfl
    have ha : (asAddr (.pointer (some x))).run P W = .ok x W := rfl
    simp only [hw, Sem.run_bind, Result.andThen_ok, ha, hl]

/-- the model's entry -/
def Ext.entry : Ext → Array Value → Sem Value
  | .indexByteString => Extern.BytealgIndexByte.indexByte
  | .cmpString => Extern.BytealgCompare.compare

structure ExtFits (P : Program) (f : Nat) (e : Ext) : Prop where
  fits : ∃ fn, P.funcs[f]? = some fn ∧ (fn.name == "runtime.NumGoroutine") = false ∧ fn.body.isNone = true ∧ Extern.findNext fn = none ∧ Extern.find fn = some e.entry

theorem ext_run {f : Nat} {e : Ext} (h : ExtFits P f e) {args : List Value} {v : Value} (hv : e.run args = some v) : args.all atom = true ∧ atom v = true ∧ ∀ W, (callFunc f args.toArray).run P W = .ok (.value v) W := by
  obtain ⟨fn, h1, h2, h3, h4, h5⟩ := h.fits
  unfold Ext.run at hv
  split at hv
  · obtain rfl := Option.some.inj hv
    refine ⟨rfl, rfl, fun W => ?_⟩
    rw [run_callFunc_extern h1 h2 h3 h4 h5]
    rw [show Ext.indexByteString.entry = Extern.BytealgIndexByte.indexByte from rfl, Lib.run_indexByteString]
    rfl
  · obtain rfl := Option.some.inj hv
    refine ⟨rfl, rfl, fun W => ?_⟩
    rw [run_callFunc_extern h1 h2 h3 h4 h5]
    rw [show Ext.cmpString.entry = Extern.BytealgCompare.compare from rfl, Lib.run_compareString]
    rfl
  · cases hv

theorem extOf_mem {l : List (Nat × Ext)} {f : Nat} {e : List Value → Option Value} (h : extOf l f = some e) : ∃ x, (f, x) ∈ l ∧ e = x.run := by
  induction l with
  | nil => cases h
  | cons p l ih =>
    obtain ⟨g, y⟩ := p
    unfold extOf at h
    split at h
    · rename_i he
      subst he
      exact ⟨y, by simp, (Option.some.inj h).symm⟩
    · obtain ⟨x, h1, h2⟩ := ih h
      exact ⟨x, by simp [h1], h2⟩

/-- the tables are right -/
theorem tabOf_ok {l : List (Nat × Ext)} (h : ∀ p ∈ l, ExtFits P p.1 p.2) : TabOk P (tabOf P l) where
  ty := fun _ _ h => tiOf_ok h
  fn := fun _ _ h => fnOf_ok h
  meth := fun _ _ _ h v W => meth_ok h v W
  methAt := fun _ _ _ _ h x W v hl => methAt_ok h x W v hl
  ext := fun f e args v h1 h2 => by
    obtain ⟨x, hx, rfl⟩ := extOf_mem h1
    exact ext_run (h _ hx) h2
end Go.VE
