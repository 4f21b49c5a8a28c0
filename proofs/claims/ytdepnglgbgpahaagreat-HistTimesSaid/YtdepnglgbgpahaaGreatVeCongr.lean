/-
  What an operation hangs on: its operands; memory, if it looks into it.
-/
import Derived.Test.YtdepnglgbgpahaaGreatVeRun
set_option linter.unusedSectionVars false
set_option linter.unusedVariables false
set_option linter.unusedSimpArgs false
namespace Go.VE
open Go Go.RowKit
variable {P : Program} {T : Tab} {call : CallR} {s s' : St} {t t2 : List Value} {o : Oper} {v : Value}

theorem evalL_congr : ∀ {l : List Operand}, (∀ x ∈ l, evalO t x = evalO t2 x) → evalL t l = evalL t2 l
  | [], _ => rfl
  | x :: l, h => by
    rw [evalL_cons, evalL_cons, h x (by simp), evalL_congr (fun y hy => h y (by simp [hy]))]
theorem evalP_congr : ∀ {l : List (Nat × Operand)}, (∀ x ∈ l.map (·.2), evalO t x = evalO t2 x) → evalP t l = evalP t2 l
  | [], _ => rfl
  | x :: l, h => by
    rw [evalP_cons, evalP_cons, h x.2 (by simp), evalP_congr (fun y hy => h y (by simp at hy ⊢; exact .inr hy))]
theorem evalOpt_congr {x : Option Operand} (h : ∀ y, x = some y → evalO t y = evalO t2 y) : evalOpt t x = evalOpt t2 x := by
  cases x with
  | none => rfl
  | some y => simp only [evalOpt, h y rfl]

theorem aop_congr (h : ∀ x ∈ o.op.operands.toList, evalO t x = evalO t2 x) : aop P T call t o s = aop P T call t2 o s := by
  unfold aop
  cases ho : o.op with
  | move x => rw [ho] at h; simp only [opMove, h x (by simp [Op.operands])]
  | assign x => rw [ho] at h; simp only [opMove, h x (by simp [Op.operands])]
  | pick c a b => rw [ho] at h; simp only [opPick, h c (by simp [Op.operands]), h a (by simp [Op.operands]), h b (by simp [Op.operands])]
  | box e x => rw [ho] at h; simp only [opBox, h x (by simp [Op.operands])]
  | build ty ps => rw [ho] at h; simp only [opBuild, evalP_congr (t := t) (t2 := t2) (l := ps.toList) (fun x hx => h x (by simpa [Op.operands] using hx))]
  | buildSlice ty n ps => rw [ho] at h; simp only [opBuildSlice, evalP_congr (t := t) (t2 := t2) (l := ps.toList) (fun x hx => h x (by simpa [Op.operands] using hx))]
  | load ty x => rw [ho] at h; simp only [opLoad, h x (by simp [Op.operands])]
  | store ty x y => rw [ho] at h; simp only [opStore, h x (by simp [Op.operands]), h y (by simp [Op.operands])]
  | nilCheck x => rw [ho] at h; simp only [opNilCheck, h x (by simp [Op.operands])]
  | binOp op xt x y yt => rw [ho] at h; simp only [opBinOp, h x (by simp [Op.operands]), h y (by simp [Op.operands])]
  | unOp op xt x => rw [ho] at h; simp only [opUnOp, h x (by simp [Op.operands])]
  | convert a b x => rw [ho] at h; simp only [opConvert, h x (by simp [Op.operands])]
  | makeInterface xt x => rw [ho] at h; simp only [opMakeInterface, h x (by simp [Op.operands])]
  | makeFunc fn f c =>
    rw [ho] at h
    simp only [opMakeFunc, evalL_congr (t := t) (t2 := t2) (l := f.toList) (fun x hx => h x (by simp [Op.operands] at hx ⊢; exact .inl hx)),
      evalL_congr (t := t) (t2 := t2) (l := c.toList) (fun x hx => h x (by simp [Op.operands] at hx ⊢; exact .inr hx))]
  | makeSlice ty x y => rw [ho] at h; simp only [opMakeSlice, h x (by simp [Op.operands]), h y (by simp [Op.operands])]
  | slice ty x lo hi mx =>
    rw [ho] at h
    simp only [opSlice, h x (by simp [Op.operands]), evalOpt_congr (t := t) (t2 := t2) (x := lo) (fun y hy => h y (by subst hy; simp [Op.operands])),
      evalOpt_congr (t := t) (t2 := t2) (x := hi) (fun y hy => h y (by subst hy; simp [Op.operands])), evalOpt_congr (t := t) (t2 := t2) (x := mx) (fun y hy => h y (by subst hy; simp [Op.operands]))]
  | fieldAddr st x f => rw [ho] at h; simp only [opFieldAddr, h x (by simp [Op.operands])]
  | field xt x f => rw [ho] at h; simp only [opField, h x (by simp [Op.operands])]
  | indexAddr ty x y => rw [ho] at h; simp only [opIndexAddr, h x (by simp [Op.operands]), h y (by simp [Op.operands])]
  | index ty x y => rw [ho] at h; simp only [opIndex, h x (by simp [Op.operands]), h y (by simp [Op.operands])]
  | lookup ty x y c => rw [ho] at h; simp only [opLookup, h x (by simp [Op.operands]), h y (by simp [Op.operands])]
  | mapUpdate ty m x y => rw [ho] at h; simp only [opMapUpdate, h m (by simp [Op.operands]), h x (by simp [Op.operands]), h y (by simp [Op.operands])]
  | range ty x => rw [ho] at h; simp only [opRange, h x (by simp [Op.operands])]
  | next x b => rw [ho] at h; cases b <;> simp only [opNext, h x (by simp [Op.operands])]
  | entry x => rw [ho] at h; simp only [opEntry, h x (by simp [Op.operands])]
  | typeAssert x xt ty c => rw [ho] at h; simp only [opTypeAssert, h x (by simp [Op.operands])]
  | extract x i => rw [ho] at h; simp only [opExtract, h x (by simp [Op.operands])]
  | call c =>
    rw [ho] at h
    have hargs : evalL t c.args.toList = evalL t2 c.args.toList := evalL_congr fun x hx => h x (by simp [Op.operands, Call.operands]; exact .inr (by simpa using hx))
    cases hc : c.callee with
    | builtin b => simp only [opCall, hc, builtinOp, hargs]
    | value f =>
      have hf : evalO t f = evalO t2 f := h f (by simp [Op.operands, Call.operands, hc])
      simp only [opCall, hc, calleeOf, hf, hargs]
    | invoke r n =>
      have hf : evalO t r = evalO t2 r := h r (by simp [Op.operands, Call.operands, hc])
      simp only [opCall, hc, calleeOf, hf, hargs]
  | makeMap ty r => cases r <;> rfl
  | _ => rfl

/-- what turns no memory leaves it; what doesn't look into it is the same everywhere -/
theorem opt_split {x : Option Value} {f : Value → Res} (h : (match x with | some v => f v | none => none) = some (v, s')) : ∃ u, x = some u ∧ f u = some (v, s') := by
  cases x with
  | none => cases h
  | some u => exact ⟨u, rfl, h⟩
theorem partV_same {ti : TI} {cs : Array Value} {off : Nat} (h : partV ti cs off s = some (v, s')) : s' = s ∧ ∀ s2, partV ti cs off s2 = some (v, s2) := by
  unfold partV at h ⊢
  split at h
  · rename_i hag
    simp only [ok, Option.some.injEq, Prod.mk.injEq] at h
    obtain ⟨rfl, rfl⟩ := h
    exact ⟨rfl, fun s2 => by rw [if_pos hag]; rfl⟩
  · rename_i hag
    cases hk : cs[off]? with
    | none => simp [hk] at h
    | some u =>
      simp only [hk, ok, Option.some.injEq, Prod.mk.injEq] at h
      obtain ⟨rfl, rfl⟩ := h
      exact ⟨rfl, fun s2 => by rw [if_neg hag]; rfl⟩

/-- an operation that is a value: the same in every memory -/
def Flat (f : St → Res) : Prop := ∃ x : Option Value, ∀ s, f s = match x with
  | some v => some (v, s)
  | none => none
theorem Flat.none : Flat fun _ => none := ⟨Option.none, fun _ => rfl⟩
theorem Flat.ok (v : Value) : Flat fun s => VE.ok v s := ⟨some v, fun _ => rfl⟩
theorem Flat.use {f : St → Res} (h : Flat f) (e : f s = some (v, s')) : s' = s ∧ ∀ s2, f s2 = some (v, s2) := by
  obtain ⟨x, hx⟩ := h
  rw [hx] at e
  cases x with
  | none => cases e
  | some u =>
    simp only [Option.some.injEq, Prod.mk.injEq] at e
    obtain ⟨rfl, rfl⟩ := e
    exact ⟨rfl, fun s2 => by rw [hx]⟩
theorem Flat.ite {c : Prop} [Decidable c] {f g : St → Res} (h : c → Flat f) (h' : ¬ c → Flat g) : Flat fun s => if c then f s else g s := by
  by_cases hc : c
  · simp only [if_pos hc]; exact h hc
  · simp only [if_neg hc]; exact h' hc
theorem flat_part (ti : TI) (cs : Array Value) (off : Nat) : Flat fun s => partV ti cs off s := by
  unfold partV
  refine Flat.ite (fun _ => .ok _) fun _ => ?_
  cases cs[off]? with
  | none => exact .none
  | some v => exact .ok v

theorem flat_op (he : isEff T o = false) (hr : isRead o = false) : Flat fun s => aop P T call t o s := by
  unfold aop
  unfold isEff at he
  unfold isRead at hr
  cases ho : o.op with
  | move x => simp only [opMove]; cases evalO t x <;> first | exact .none | exact .ok _
  | assign x => simp only [opMove]; cases evalO t x <;> first | exact .none | exact .ok _
  | pick c a b => simp only [opPick]; split <;> first | exact .none | exact .ok _
  | build ty ps => simp only [opBuild]; split <;> (first | exact .none | (split <;> first | exact .none | exact .ok _))
  | nilCheck x => simp only [opNilCheck]; split <;> first | exact .none | exact .ok _
  | binOp op xt x y yt => simp only [opBinOp]; split <;> (first | exact .none | (split <;> first | exact .none | exact .ok _))
  | unOp op xt x => simp only [opUnOp]; split <;> (first | exact .none | (refine Flat.ite (fun _ => ?_) (fun _ => .none); split <;> first | exact .none | exact Flat.ite (fun _ => .ok _) (fun _ => .none)))
  | makeInterface xt x => simp only [opMakeInterface]; split <;> (first | exact .none | (split <;> first | exact .none | exact .ok _))
  | makeFunc fn f c => simp only [opMakeFunc]; split <;> first | exact .none | exact .ok _
  | fieldAddr st x f => simp only [opFieldAddr]; split <;> (first | exact .none | (split <;> (first | exact .none | (split <;> (first | exact .none | exact Flat.ite (fun _ => .ok _) (fun _ => .none))))))
  | field xt x f => simp only [opField]; split <;> (first | exact .none | (split <;> (first | exact .none | (split <;> (first | exact .none | exact flat_part _ _ _)))))
  | indexAddr ty x y => simp only [opIndexAddr]; split <;> (first | exact .none | (split <;> (first | exact .none | (split <;> (first | exact .none | exact Flat.ite (fun _ => .ok _) (fun _ => .none))))))
  | index ty x y => simp only [opIndex]; split <;> (first | exact .none | (split <;> (first | exact .none | (split <;> (first | exact .none | exact .ok _ | exact Flat.ite (fun _ => flat_part _ _ _) (fun _ => .none))))))
  | typeAssert x xt ty c => simp only [opTypeAssert]; split <;> (first | exact .none | (split <;> (first | exact .none | exact Flat.ite (fun _ => .ok _) (fun _ => .none))))
  | extract x i => simp only [opExtract]; split <;> (first | exact .none | (split <;> first | exact .none | exact .ok _))
  | next x b => cases b <;> first | exact .none | simp [ho] at he
  | makeMap ty r => cases r <;> first | exact .none | simp [ho] at he
  | load _ _ => simp [ho] at hr
  | lookup _ _ _ _ => simp [ho] at hr
  | entry _ => simp [ho] at hr
  | call _ => simp [ho] at hr
  | convert _ _ _ => simp [ho] at hr
  | slice _ _ _ _ _ => simp [ho] at hr
  | alloc _ => simp [ho] at hr
  | store _ _ _ => simp [ho] at he
  | box _ _ => simp [ho] at he
  | buildSlice _ _ _ => simp [ho] at he
  | makeSlice _ _ _ => simp [ho] at he
  | mapUpdate _ _ _ _ => simp [ho] at he
  | range _ _ => simp [ho] at he
  | _ => exact .none

/-- what turns no memory leaves it -/
def Stays (f : St → Res) : Prop := ∀ s v s', f s = some (v, s') → s' = s
theorem Stays.ok (v : Value) : Stays fun s => VE.ok v s := fun s u s' h => by simp only [VE.ok, Option.some.injEq, Prod.mk.injEq] at h; exact h.2.symm
theorem Stays.none : Stays fun _ => none := fun s u s' h => by cases h
theorem stays_op (he : isEff T o = false) (hal : isAlloc o = none) : Stays fun s => aop P T call t o s := by
  intro s v s' h
  by_cases hr : isRead o = false
  · exact ((flat_op (P := P) (T := T) (call := call) (t := t) he hr).use h).1
  · unfold aop at h
    unfold isEff at he
    unfold isAlloc at hal
    unfold isRead at hr
    cases ho : o.op with
    | load ty x =>
      simp only [ho, opLoad] at h
      split at h
      · split at h
        · exact Stays.ok _ _ _ _ h
        · cases h
      · cases h
    | lookup ty x y c =>
      simp only [ho, opLookup] at h
      split at h
      · split at h
        · split at h
          · split at h
            · split at h
              · exact Stays.ok _ _ _ _ h
              · exact Stays.ok _ _ _ _ h
              · cases h
            · cases h
          · cases h
        · cases h
      · cases h
    | entry x =>
      simp only [ho, opEntry] at h
      split at h
      · split at h
        · split at h
          · split at h
            · split at h
              · exact Stays.ok _ _ _ _ h
              · cases h
            · cases h
          · cases h
        · cases h
      · cases h
    | convert a b x =>
      simp only [ho, opConvert] at h
      split at h
      · split at h <;> first | exact Stays.ok _ _ _ _ h | cases h
      · cases h
    | slice ty x lo hi mx =>
      simp only [ho, opSlice] at h
      split at h
      · split at h
        · split at h
          · split at h <;> first | exact Stays.ok _ _ _ _ h | cases h
          · cases h
        · split at h <;> first | exact Stays.ok _ _ _ _ h | cases h
      · cases h
    | call c =>
      simp only [ho] at he h
      cases hc : c.callee with
      | builtin b =>
        simp only [opCall, hc] at h
        simp only [hc] at he
        unfold builtinOp at h
        split at h
        · split at h
          · unfold lenOp at h
            split at h
            · split at h
              · exact Stays.ok _ _ _ _ h
              · exact Stays.ok _ _ _ _ h
              · exact Stays.ok _ _ _ _ h
              · split at h <;> first | exact Stays.ok _ _ _ _ h | cases h
              · exact Stays.ok _ _ _ _ h
              · cases h
            · cases h
          · cases h
        · split at h
          · unfold capOp at h
            split at h
            · split at h <;> first | exact Stays.ok _ _ _ _ h | cases h
            · cases h
          · cases h
        · cases he
        · split at h <;> first | exact Stays.ok _ _ _ _ h | cases h
        · cases h
      | value f => simp [hc] at he
      | invoke r n => simp [hc] at he
    | alloc e => simp [ho] at hal
    | _ => simp [ho] at hr
end Go.VE
