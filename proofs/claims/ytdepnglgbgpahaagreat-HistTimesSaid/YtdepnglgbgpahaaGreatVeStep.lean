/-
  The interpreter with open values: rules to show what it computes.
-/
import Derived.Test.YtdepnglgbgpahaaGreatVeSum
set_option linter.unusedSectionVars false
set_option linter.unusedVariables false
set_option linter.unusedSimpArgs false
namespace Go.VE
open Go Go.RowKit
variable {P : Program} {T : Tab} {S : CallR} {s s1 s' : St} {t t1 t' : List Value} {v : Value} {c a b : Code} {e : Ex}

/-- from some number of steps on -/
def Big (P : Program) (T : Tab) (S : CallR) (c : Code) (t : List Value) (s : St) (e : Ex) (t' : List Value) (s' : St) : Prop := ∃ n0, ∀ n, n0 ≤ n → (evS P T S n).2 c t s = some (e, t', s')
def BigC (P : Program) (T : Tab) (S : CallR) (f : Nat) (args : List Value) (s : St) (v : Value) (s' : St) : Prop := ∃ n0, ∀ n, n0 ≤ n → (evS P T S n).1 f args s = some (v, s')
def BigO (P : Program) (T : Tab) (S : CallR) (ops l : List Oper) (t : List Value) (s : St) (t' : List Value) (s' : St) : Prop := ∃ n0, ∀ n, n0 ≤ n → runOps P T (evS P T S n).1 ops l t s = some (t', s')

theorem evS_code (n : Nat) (c : Code) : (evS P T S (n + 1)).2 c t s = codeStep P T (evS P T S n).1 (evS P T S n).2 c t s := rfl
theorem evS_call (n f : Nat) (args : List Value) : (evS P T S (n + 1)).1 f args s = orElseR S (callStep T (evS P T S n).2) f args s := rfl

theorem Big.of {n0 : Nat} (h : ∀ n, n0 ≤ n → codeStep P T (evS P T S n).1 (evS P T S n).2 c t s = some (e, t', s')) : Big P T S c t s e t' s' :=
  ⟨n0 + 1, fun n hn => by
    obtain ⟨k, rfl⟩ : ∃ k, n = k + 1 := ⟨n - 1, by omega⟩
    rw [evS_code]; exact h k (by omega)⟩

theorem Big.skip : Big P T S .skip t s .normal t s := Big.of (n0 := 0) fun _ _ => rfl
theorem Big.exit (i : Nat) : Big P T S (.exit i) t s (.exit i) t s := Big.of (n0 := 0) fun _ _ => rfl
theorem Big.ret : Big P T S .ret t s .ret t s := Big.of (n0 := 0) fun _ _ => rfl
theorem Big.seq (h : Big P T S a t s .normal t1 s1) (k : Big P T S b t1 s1 e t' s') : Big P T S (.seq a b) t s e t' s' := by
  obtain ⟨n, h⟩ := h
  obtain ⟨m, k⟩ := k
  refine Big.of (n0 := n + m) fun i hi => ?_
  show cSeq _ b (_ : Option (Ex × List Value × St)) = _
  rw [h i (by omega)]
  exact k i (by omega)
theorem Big.seqOut (h : Big P T S a t s e t' s') (he : e ≠ .normal) : Big P T S (.seq a b) t s e t' s' := by
  obtain ⟨n, h⟩ := h
  refine Big.of (n0 := n) fun i hi => ?_
  show cSeq _ b (_ : Option (Ex × List Value × St)) = _
  rw [h i hi]
  cases e with
  | normal => exact absurd rfl he
  | _ => rfl
theorem Big.cond {x : Operand} {q : Bool} (hq : evalO t x = some (.bool q)) (h : Big P T S (bif q then a else b) t s e t' s') : Big P T S (.cond x a b) t s e t' s' := by
  obtain ⟨n, h⟩ := h
  refine Big.of (n0 := n) fun i hi => ?_
  show cCond _ a b t s (evalO t x) = _
  rw [hq]
  cases q with
  | true => exact h i hi
  | false => exact h i hi
theorem Big.condT {x : Operand} (hq : evalO t x = some (.bool true)) (h : Big P T S a t s e t' s') : Big P T S (.cond x a b) t s e t' s' := Big.cond hq h
theorem Big.condF {x : Operand} (hq : evalO t x = some (.bool false)) (h : Big P T S b t s e t' s') : Big P T S (.cond x a b) t s e t' s' := Big.cond hq h
def outB (id : Nat) : Ex → Ex
  | .exit i => if i = id then .normal else .exit i
  | e => e
theorem Big.block {id : Nat} (h : Big P T S b t s e t' s') : Big P T S (.block id b) t s (outB id e) t' s' := by
  obtain ⟨n, h⟩ := h
  refine Big.of (n0 := n) fun i hi => ?_
  show cBlock id (_ : Option (Ex × List Value × St)) = _
  rw [h i hi]
  cases e with
  | exit j =>
    simp only [cBlock, outB]
    split <;> rfl
  | _ => rfl
theorem Big.blockN {id : Nat} (h : Big P T S b t s .normal t' s') : Big P T S (.block id b) t s .normal t' s' := Big.block h
theorem Big.blockR {id : Nat} (h : Big P T S b t s .ret t' s') : Big P T S (.block id b) t s .ret t' s' := Big.block h
theorem Big.blockX {id : Nat} (h : Big P T S b t s (.exit id) t' s') : Big P T S (.block id b) t s .normal t' s' := by
  have := Big.block (id := id) h
  simpa [outB] using this
theorem Big.round (h : Big P T S b t s .normal t1 s1) (k : Big P T S (.loop b) t1 s1 e t' s') : Big P T S (.loop b) t s e t' s' := by
  obtain ⟨n, h⟩ := h
  obtain ⟨m, k⟩ := k
  refine Big.of (n0 := n + m) fun i hi => ?_
  show cSeq _ (.loop b) (_ : Option (Ex × List Value × St)) = _
  rw [h i (by omega)]
  exact k i (by omega)
theorem Big.loopOut (h : Big P T S b t s e t' s') (he : e ≠ .normal) : Big P T S (.loop b) t s e t' s' := by
  obtain ⟨n, h⟩ := h
  refine Big.of (n0 := n) fun i hi => ?_
  show cSeq _ (.loop b) (_ : Option (Ex × List Value × St)) = _
  rw [h i hi]
  cases e with
  | normal => exact absurd rfl he
  | _ => rfl
theorem Big.region {id : Nat} {ops : Array Oper} (h : BigO P T S ops.toList ops.toList t s t' s') : Big P T S (.region id ops false) t s .normal t' s' := by
  obtain ⟨n, h⟩ := h
  refine Big.of (n0 := n) fun i hi => ?_
  show cRegion (runOps _ _ _ _ _ _ _) = _
  rw [h i hi]
  rfl

theorem BigO.nil {ops : List Oper} : BigO P T S ops [] t s t s := ⟨0, fun _ _ => rfl⟩
theorem BigO.run {ops l : List Oper} {o : Oper} (hw : wantedL ops t o = true) (h : ∀ call, aop P T call t o s = some (v, s1)) (k : BigO P T S ops l (dstSet t o v) s1 t' s') : BigO P T S ops (o :: l) t s t' s' := by
  obtain ⟨n, k⟩ := k
  refine ⟨n, fun i hi => ?_⟩
  show (match wantedL ops t o with
      | true => match aop P T (evS P T S i).1 t o s with
        | some (v, s) => runOps P T (evS P T S i).1 ops l (dstSet t o v) s
        | none => none
      | false => runOps P T (evS P T S i).1 ops l (dstSet t o undef) s) = _
  rw [hw]
  simp only [h]
  exact k i hi
theorem BigO.callee {ops l : List Oper} {o : Oper} {c : Call} {f : Nat} {args : List Value} {fi : FnI} (hw : wantedL ops t o = true) (ho : o.op = .call c) (hb : ∀ b, c.callee ≠ .builtin b) (hf : calleeOf T s t c = some (f, args)) (hx : T.ext f = none) (hfn : T.fn f = some fi)
    (h : BigC P T S f args s v s1) (k : BigO P T S ops l (dstSet t o v) s1 t' s') : BigO P T S ops (o :: l) t s t' s' := by
  obtain ⟨n, h⟩ := h
  obtain ⟨m, k⟩ := k
  refine ⟨n + m, fun i hi => ?_⟩
  show (match wantedL ops t o with
      | true => match aop P T (evS P T S i).1 t o s with
        | some (v, s) => runOps P T (evS P T S i).1 ops l (dstSet t o v) s
        | none => none
      | false => runOps P T (evS P T S i).1 ops l (dstSet t o undef) s) = _
  have ha : aop P T (evS P T S i).1 t o s = some (v, s1) := by
    cases hc : c.callee with
    | builtin b => exact absurd hc (hb b)
    | _ =>
      simp only [aop, ho, opCall, hc, hf, hx, hfn]
      exact h i (by omega)
  rw [hw, ha]
  exact k i (by omega)
theorem BigO.passed {ops l : List Oper} {o : Oper} (hw : wantedL ops t o = false) (k : BigO P T S ops l (dstSet t o undef) s t' s') : BigO P T S ops (o :: l) t s t' s' := by
  obtain ⟨n, k⟩ := k
  refine ⟨n, fun i hi => ?_⟩
  show (match wantedL ops t o with
      | true => match aop P T (evS P T S i).1 t o s with
        | some (v, s) => runOps P T (evS P T S i).1 ops l (dstSet t o v) s
        | none => none
      | false => runOps P T (evS P T S i).1 ops l (dstSet t o undef) s) = _
  rw [hw]
  exact k i hi

theorem BigC.summary {f : Nat} {args : List Value} (h : S f args s = some (v, s')) : BigC P T S f args s v s' :=
  ⟨1, fun n hn => by
    obtain ⟨k, rfl⟩ : ∃ k, n = k + 1 := ⟨n - 1, by omega⟩
    rw [evS_call, orElseR, h]⟩
theorem BigC.body {f : Nat} {args : List Value} {fi : FnI} (hS : S f args s = none) (hf : T.fn f = some fi) (he : e = .normal ∨ e = .ret) (h : Big P T S fi.code (app args (List.replicate (fi.ntmps - args.length) undef)) s e t' s')
    {vs : List Value} (hr : resOf T t' s' fi.results = some vs) (hv : v = match vs with | [v] => v | vs => .tuple vs.toArray) : BigC P T S f args s v s' := by
  obtain ⟨n, h⟩ := h
  refine ⟨n + 1, fun i hi => ?_⟩
  obtain ⟨k, rfl⟩ : ∃ k, i = k + 1 := ⟨i - 1, by omega⟩
  rw [evS_call, orElseR, hS]
  simp only [callStep, hf, h k (by omega)]
  subst hv
  rcases he with rfl | rfl <;> (simp only [hr]; cases vs with
    | nil => rfl
    | cons x r => cases r <;> rfl)

/-! ## A region that draws its order and turns nothing -/

noncomputable def runQ (P : Program) (T : Tab) (call : CallR) (ops l : List Oper) (t : List Value) (s : St) : Option (List Value) :=
  match l with
  | [] => some t
  | o :: l => match wantedL ops t o with
    | true => match aop P T call t o s with
      | some (v, _) => match eqv 3 v v with
        | true => runQ P T call ops l (dstSet t o v) s
        | false => none
      | none => none
    | false => runQ P T call ops l (dstSet t o undef) s

noncomputable def still (T : Tab) (ops : List Oper) : Bool := ops.all (fun o => !isEff T o && (isAlloc o).isNone) && (rinfo T ops).isSome

theorem prealloc_none (s : St) (l : List Oper) : (∀ o ∈ l, isAlloc o = none) → prealloc T l s = some (l.map fun _ => none, s) := by
  induction l with
  | nil => intro _; rfl
  | cons o l ih =>
    intro h
    have h1 := h o (by simp)
    have h2 := ih fun o ho => h o (by simp [ho])
    simp only [prealloc, h1, h2, List.map_cons]

theorem runD_quiet {call : CallR} {ops : List Oper} {s : St} : ∀ (l : List Oper) (t : List Value) (ds : List Done) (t' : List Value), (∀ o ∈ l, isEff T o = false) →
    runQ P T call ops l t s = some t' → ∃ ds', runD P T call ops (l.zip (l.map fun _ => none)) t s ds [] = some (t', ds.reverse ++ ds', [s]) ∧ ds'.length = l.length ∧
      ∀ d ∈ ds', d.ran = true → d.id = none ∧ eqv 3 d.v d.v = true ∧ ∃ q, aop P T call d.t d.o s = some (d.v, q)
  | [], t, ds, t', _, h => by
    simp only [runQ, Option.some.injEq] at h
    subst h
    exact ⟨[], by simp [runD], rfl, fun d hd => by simp at hd⟩
  | o :: l, t, ds, t', he, h => by
    have heo := he o (by simp)
    have hel : ∀ o ∈ l, isEff T o = false := fun o ho => he o (by simp [ho])
    simp only [runQ] at h
    have step : ∀ (t1 : List Value) (d : Done) (h1 : runQ P T call ops l t1 s = some t') (hd : d.ran = true → d.id = none ∧ eqv 3 d.v d.v = true ∧ ∃ q, aop P T call d.t d.o s = some (d.v, q)),
        ∃ ds', runD P T call ops (l.zip (l.map fun _ => none)) t1 s (d :: ds) [] = some (t', ds.reverse ++ ds', [s]) ∧ ds'.length = (o :: l).length ∧
          ∀ d ∈ ds', d.ran = true → d.id = none ∧ eqv 3 d.v d.v = true ∧ ∃ q, aop P T call d.t d.o s = some (d.v, q) := by
      intro t1 d h1 hd
      obtain ⟨ds', k1, k2, k3⟩ := runD_quiet l t1 (d :: ds) t' hel h1
      refine ⟨d :: ds', by rw [k1]; simp, by simp [k2], fun x hx => ?_⟩
      rcases List.mem_cons.1 hx with rfl | hx
      · exact hd
      · exact k3 x hx
    show ∃ ds', (match wantedL ops t o with
      | true => match runD1 P T call t o none s with
        | some (v, s') => match isEff T o with
          | true => runD P T call ops (l.zip (l.map fun _ => none)) (dstSet t o v) s' (⟨t, o, none, v, true⟩ :: ds) (s :: [])
          | false => runD P T call ops (l.zip (l.map fun _ => none)) (dstSet t o v) s (⟨t, o, none, v, true⟩ :: ds) []
        | none => none
      | false => runD P T call ops (l.zip (l.map fun _ => none)) (dstSet t o undef) s (⟨t, o, none, undef, false⟩ :: ds) (match isEff T o with | true => s :: [] | false => [])) = _ ∧ _
    cases hw : wantedL ops t o with
    | false =>
      simp only [hw] at h
      simp only [heo]
      exact step _ ⟨t, o, none, undef, false⟩ h (fun h => by cases h)
    | true =>
      simp only [hw] at h
      cases ha : aop P T call t o s with
      | none => simp [ha] at h
      | some r =>
        obtain ⟨v, q⟩ := r
        simp only [ha] at h
        cases hv : eqv 3 v v with
        | false => simp [hv] at h
        | true =>
          simp only [hv] at h
          simp only [runD1, ha, heo]
          exact step _ ⟨t, o, none, v, true⟩ h (fun _ => ⟨rfl, hv, q, ha⟩)

theorem sameAt_quiet {call : CallR} {d : Done} (hd : d.id = none ∧ eqv 3 d.v d.v = true ∧ ∃ q, aop P T call d.t d.o s = some (d.v, q)) (l : List St) : (∀ x ∈ l, x = s) → sameAt P T call d.t d.o d.id d.v l = true := by
  obtain ⟨h1, h2, q, h3⟩ := hd
  rw [h1]
  induction l with
  | nil => intro _; rfl
  | cons x l ih =>
    intro h
    obtain rfl := h x (by simp)
    have ih := ih fun y hy => h y (by simp [hy])
    simp only [sameAt, h3, h2, ih, Bool.and_true]

theorem checkD_quiet {call : CallR} {ss : List St} (hss : ∀ x ∈ ss, x = s) : ∀ (ds : List Done) (inf : List (Nat × Nat)), ds.length = inf.length →
    (∀ d ∈ ds, d.ran = true → d.id = none ∧ eqv 3 d.v d.v = true ∧ ∃ q, aop P T call d.t d.o s = some (d.v, q)) → checkD P T call ss ds inf = true
  | [], _, _, _ => rfl
  | _ :: _, [], h, _ => by simp at h
  | d :: ds, (lo, hi) :: inf, h, hd => by
    have ih := checkD_quiet (call := call) hss ds inf (by simpa using h) fun x hx => hd x (by simp [hx])
    simp only [checkD, ih, Bool.and_true]
    cases hr : d.ran with
    | false => simp
    | true =>
      rw [sameAt_quiet (hd d (by simp) hr) _ fun x hx => hss x (List.mem_of_mem_drop (List.mem_of_mem_take hx))]
      simp

theorem rinfo_length {ops : List Oper} {inf : List (Nat × Nat)} (h : rinfo T ops = some inf) : inf.length = ops.length := by
  unfold rinfo at h
  simp only at h
  split at h
  · obtain rfl := Option.some.inj h
    simp
  · cases h

theorem regionDraw_still {call : CallR} {ops : List Oper} (hst : still T ops = true) (h : runQ P T call ops ops t s = some t') : regionDraw P T call ops t s = some (t', s) := by
  simp only [still, Bool.and_eq_true, List.all_eq_true] at hst
  obtain ⟨h1, h2⟩ := hst
  obtain ⟨inf, hinf⟩ := Option.isSome_iff_exists.1 h2
  have ha : ∀ o ∈ ops, isAlloc o = none := fun o ho => by have := h1 o ho; simpa using this.2
  have he : ∀ o ∈ ops, isEff T o = false := fun o ho => by have := h1 o ho; simpa using this.1
  obtain ⟨ds, k1, k2, k3⟩ := runD_quiet ops t [] t' he h
  simp only [regionDraw, hinf, prealloc_none s _ ha, k1, List.reverse_nil, List.nil_append]
  rw [checkD_quiet (s := s) (by simp) ds inf (by rw [k2, rinfo_length hinf]) k3]
  simp

theorem Big.draw {id : Nat} {ops : Array Oper} (hst : still T ops.toList = true) (h : ∀ call, runQ P T call ops.toList ops.toList t s = some t') : Big P T S (.region id ops true) t s .normal t' s := by
  refine Big.of (n0 := 0) fun i _ => ?_
  show cRegion (regionDraw _ _ _ _ _ _) = _
  rw [regionDraw_still hst (h _)]
  rfl

/-! ## Slots -/
theorem nth_set_same {v : Value} {k : Nat} (h : k < t.length) : nth undef (setNth v t k) k = v := by
  rw [nth_eq, setNth_eq]; simp [List.getD, h]
theorem nth_set_ne {v : Value} {j k : Nat} (h : j ≠ k) : nth undef (setNth v t k) j = nth undef t j := by
  rw [nth_eq, setNth_eq, nth_eq, List.getD, List.getD, List.getElem?_set_ne (Ne.symm h)]
theorem length_set {v : Value} {k : Nat} : (setNth v t k).length = t.length := by rw [setNth_eq]; simp

/-- parts of code -/
def codeOf (f : Func) : Code := match f.body with
  | some c => c
  | none => .skip
def Code.at : List Nat → Code → Code
  | [], c => c
  | 0 :: p, .seq a _ => Code.at p a
  | _ :: p, .seq _ b => Code.at p b
  | 0 :: p, .cond _ a _ => Code.at p a
  | _ :: p, .cond _ _ b => Code.at p b
  | _ :: p, .block _ b => Code.at p b
  | _ :: p, .loop b => Code.at p b
  | _, _ => .skip
end Go.VE
namespace Go.VE
open Go Go.RowKit
variable {P : Program} {T : Tab} {S : CallR} {s s1 s' : St} {t t1 t' : List Value} {v : Value} {c a b : Code} {e : Ex}
theorem BigO.pure {ops l : List Oper} (h : ∀ call, runOps P T call ops l t s = some (t', s')) : BigO P T S ops l t s t' s' := ⟨0, fun _ _ => h _⟩
theorem get_push_same (s : St) (o : AObj) (h : s.nx < 4096) : (s.push o).get s.nx = some o :=
  Tr.get_set_same (some o) depth s.h s.nx h
theorem slc_one {vs : List Value} {o : Nat} {v : Value} (h : vs[o]? = some v) : slc vs o 1 = some [v] := by
  induction vs generalizing o with
  | nil => simp at h
  | cons a r ih =>
    cases o with
    | zero =>
      simp only [List.getElem?_cons_zero, Option.some.injEq] at h
      subst h
      cases r <;> rfl
    | succ o => exact ih (by simpa using h)
theorem slc_all {vs : List Value} {n : Nat} (h : vs.length = n) : slc vs 0 n = some vs := by
  subst h
  induction vs with
  | nil => rfl
  | cons a r ih =>
    show (match slc r 0 r.length with | some q => some (a :: q) | none => none) = _
    rw [ih]

/-! ## Goal first -/
def BigE (P : Program) (T : Tab) (S : CallR) (c : Code) (t : List Value) (s : St) (Q : Ex → List Value → St → Prop) : Prop := ∃ e t' s', Big P T S c t s e t' s' ∧ Q e t' s'
def Then (P : Program) (T : Tab) (S : CallR) (b : Code) (Q : Ex → List Value → St → Prop) (e : Ex) (t : List Value) (s : St) : Prop := match e with
  | .normal => BigE P T S b t s Q
  | e => Q e t s
variable {Q : Ex → List Value → St → Prop}
theorem BigE.seq (h : BigE P T S a t s (Then P T S b Q)) : BigE P T S (.seq a b) t s Q := by
  obtain ⟨e, t1, s1, h, k⟩ := h
  cases e with
  | normal =>
    obtain ⟨e', t2, s2, k1, k2⟩ := k
    exact ⟨_, _, _, Big.seq h k1, k2⟩
  | exit i => exact ⟨_, _, _, Big.seqOut h (by simp), k⟩
  | ret => exact ⟨_, _, _, Big.seqOut h (by simp), k⟩
theorem BigE.reg {id : Nat} {ops : Array Oper} (h : ∀ call, runOps P T call ops.toList ops.toList t s = some (t', s')) (k : Q .normal t' s') : BigE P T S (.region id ops false) t s Q :=
  ⟨_, _, _, Big.region (BigO.pure h), k⟩
theorem BigE.regO {id : Nat} {ops : Array Oper} (h : BigO P T S ops.toList ops.toList t s t' s') (k : Q .normal t' s') : BigE P T S (.region id ops false) t s Q :=
  ⟨_, _, _, Big.region h, k⟩
theorem BigE.draw {id : Nat} {ops : Array Oper} (hst : still T ops.toList = true) (h : ∀ call, runQ P T call ops.toList ops.toList t s = some t') (k : Q .normal t' s) : BigE P T S (.region id ops true) t s Q :=
  ⟨_, _, _, Big.draw hst h, k⟩
theorem BigE.skip (k : Q .normal t s) : BigE P T S .skip t s Q := ⟨_, _, _, Big.skip, k⟩
theorem BigE.exit {i : Nat} (k : Q (.exit i) t s) : BigE P T S (.exit i) t s Q := ⟨_, _, _, Big.exit i, k⟩
theorem BigE.ret (k : Q .ret t s) : BigE P T S .ret t s Q := ⟨_, _, _, Big.ret, k⟩
theorem BigE.condT {x : Operand} (hq : evalO t x = some (.bool true)) (h : BigE P T S a t s Q) : BigE P T S (.cond x a b) t s Q := by
  obtain ⟨e, t1, s1, h, k⟩ := h
  exact ⟨_, _, _, Big.condT hq h, k⟩
theorem BigE.condF {x : Operand} (hq : evalO t x = some (.bool false)) (h : BigE P T S b t s Q) : BigE P T S (.cond x a b) t s Q := by
  obtain ⟨e, t1, s1, h, k⟩ := h
  exact ⟨_, _, _, Big.condF hq h, k⟩
theorem BigE.block {id : Nat} (h : BigE P T S b t s fun e t s => Q (outB id e) t s) : BigE P T S (.block id b) t s Q := by
  obtain ⟨e, t1, s1, h, k⟩ := h
  exact ⟨_, _, _, Big.block h, k⟩
theorem BigE.round (h : BigE P T S b t s (Then P T S (.loop b) Q)) : BigE P T S (.loop b) t s Q := by
  obtain ⟨e, t1, s1, h, k⟩ := h
  cases e with
  | normal =>
    obtain ⟨e', t2, s2, k1, k2⟩ := k
    exact ⟨_, _, _, Big.round h k1, k2⟩
  | exit i => exact ⟨_, _, _, Big.loopOut h (by simp), k⟩
  | ret => exact ⟨_, _, _, Big.loopOut h (by simp), k⟩
theorem BigE.mono {Q' : Ex → List Value → St → Prop} (h : BigE P T S c t s Q) (k : ∀ e t s, Q e t s → Q' e t s) : BigE P T S c t s Q' := by
  obtain ⟨e, t1, s1, h, q⟩ := h
  exact ⟨_, _, _, h, k _ _ _ q⟩
/-- rounds: a relation by the number of rounds still to go -/
theorem BigE.loop {I : Nat → List Value → St → Prop} (hstep : ∀ k t s, I (k + 1) t s → BigE P T S b t s fun e t' s' => match e with
      | .normal => I k t' s'
      | e => Q e t' s')
    (hlast : ∀ t s, I 0 t s → BigE P T S b t s fun e t' s' => e ≠ .normal ∧ Q e t' s') : ∀ k t s, I k t s → BigE P T S (.loop b) t s Q
  | 0, t, s, h => by
    obtain ⟨e, t1, s1, h1, h2, h3⟩ := hlast t s h
    exact ⟨_, _, _, Big.loopOut h1 h2, h3⟩
  | k + 1, t, s, h => by
    obtain ⟨e, t1, s1, h1, h2⟩ := hstep k t s h
    cases e with
    | normal =>
      obtain ⟨e', t2, s2, k1, k2⟩ := BigE.loop hstep hlast k t1 s1 h2
      exact ⟨_, _, _, Big.round h1 k1, k2⟩
    | exit i => exact ⟨_, _, _, Big.loopOut h1 (by simp), h2⟩
    | ret => exact ⟨_, _, _, Big.loopOut h1 (by simp), h2⟩

theorem BigO.start {id : Nat} {ops : Array Oper} {l : List Oper} (hl : ops.toList = l) (h : BigO P T S l l t s t' s') (k : Q .normal t' s') : BigE P T S (.region id ops false) t s Q := BigE.regO (hl ▸ h) k
theorem runQ_run {call : CallR} {ops l : List Oper} {o : Oper} (hw : wantedL ops t o = true) (h : aop P T call t o s = some (v, s1)) (hv : eqv 3 v v = true) (k : runQ P T call ops l (dstSet t o v) s = some t') : runQ P T call ops (o :: l) t s = some t' := by
  simp only [runQ, hw, h, hv, k]
theorem runQ_passed {call : CallR} {ops l : List Oper} {o : Oper} (hw : wantedL ops t o = false) (k : runQ P T call ops l (dstSet t o undef) s = some t') : runQ P T call ops (o :: l) t s = some t' := by
  simp only [runQ, hw, k]
theorem BigE.drawn {id : Nat} {ops : Array Oper} {l : List Oper} (hl : ops.toList = l) (hst : still T l = true) (h : ∀ call, runQ P T call l l t s = some t') (k : Q .normal t' s) : BigE P T S (.region id ops true) t s Q := by
  subst hl
  exact BigE.draw hst h k

theorem BigE.regL {id : Nat} {l : List Oper} (h : BigO P T S l l t s t' s') (k : Q .normal t' s') : BigE P T S (.region id l.toArray false) t s Q := BigE.regO (by simpa using h) k
theorem BigE.drawL {id : Nat} {l : List Oper} (hst : still T l = true) (h : ∀ call, runQ P T call l l t s = some t') (k : Q .normal t' s) : BigE P T S (.region id l.toArray true) t s Q :=
  BigE.drawn (by simp) hst h k

theorem pureRun_not {q : Bool} : pureRun P (Op.unary .not (.bool q)) = some (.bool (!q)) := by cases q <;> rfl
end Go.VE
