/-
  A region that draws its order: whatever the order, what the text's order does.
-/
import Derived.Test.YtdepnglgbgpahaaGreatVeCongr
import Derived.Orders
set_option linter.unusedSectionVars false
set_option linter.unusedVariables false
set_option linter.unusedSimpArgs false
namespace Go.VE
open Go Go.RowKit
variable {P : Program} {T : Tab} {call : CallR} {B : Nat} {W0 W : World} {φ : Phi} {s s' : St} {a : Act} {t : List Value} {o : Oper} {v : Value}

/-! ## What must be ahead -/

def maskOf (ms : List Nat) (o : Oper) : Nat := o.after.toList.foldl (fun m e => if Region.binds .any e then m ||| 2 ^ e.on ||| ms.getD e.on 0 else m) 0

theorem fold_congr {ms ms' : List Nat} : ∀ (l : List Edge) (m : Nat), (∀ e ∈ l, Region.binds .any e = true → ms.getD e.on 0 = ms'.getD e.on 0) →
    l.foldl (fun m e => if Region.binds .any e then m ||| 2 ^ e.on ||| ms.getD e.on 0 else m) m = l.foldl (fun m e => if Region.binds .any e then m ||| 2 ^ e.on ||| ms'.getD e.on 0 else m) m
  | [], _, _ => rfl
  | e :: l, m, h => by
    simp only [List.foldl_cons]
    have : (if Region.binds .any e then m ||| 2 ^ e.on ||| ms.getD e.on 0 else m) = (if Region.binds .any e then m ||| 2 ^ e.on ||| ms'.getD e.on 0 else m) := by
      split
      · rename_i hb; rw [h e (by simp) hb]
      · rfl
    rw [this]
    exact fold_congr l _ fun e' he' => h e' (by simp [he'])

theorem fold_bits {ms : List Nat} : ∀ (l : List Edge) (m j : Nat), (l.foldl (fun m e => if Region.binds .any e then m ||| 2 ^ e.on ||| ms.getD e.on 0 else m) m).testBit j = true ↔
    m.testBit j = true ∨ ∃ e ∈ l, Region.binds .any e = true ∧ (j = e.on ∨ (ms.getD e.on 0).testBit j = true)
  | [], m, j => by simp
  | e :: l, m, j => by
    rw [List.foldl_cons, fold_bits l]
    by_cases hb : Region.binds .any e = true
    · rw [if_pos hb]
      simp only [Nat.testBit_or, Nat.testBit_two_pow, Bool.or_eq_true, decide_eq_true_eq, List.mem_cons]
      constructor
      · rintro (((h | h) | h) | ⟨e', h1, h2⟩)
        · exact .inl h
        · exact .inr ⟨e, .inl rfl, hb, .inl h.symm⟩
        · exact .inr ⟨e, .inl rfl, hb, .inr h⟩
        · exact .inr ⟨e', .inr h1, h2⟩
      · rintro (h | ⟨e', h1 | h1, h2, h3⟩)
        · exact .inl (.inl (.inl h))
        · subst h1
          rcases h3 with h3 | h3
          · exact .inl (.inl (.inr h3.symm))
          · exact .inl (.inr h3)
        · exact .inr ⟨e', h1, h2, h3⟩
    · rw [if_neg hb]
      simp only [List.mem_cons]
      constructor
      · rintro (h | ⟨e', h1, h2⟩)
        · exact .inl h
        · exact .inr ⟨e', .inr h1, h2⟩
      · rintro (h | ⟨e', h1 | h1, h2, h3⟩)
        · exact .inl h
        · subst h1; exact absurd h2 hb
        · exact .inr ⟨e', h1, h2, h3⟩

theorem masks_cons (o : Oper) (r : List Oper) (acc : List Nat) : masks (o :: r) acc = masks r (acc ++ [maskOf acc o]) := rfl
theorem masks_spec : ∀ (l : List Oper) (acc : List Nat), (∀ (i : Nat) (o : Oper), l[i]? = some o → ∀ e ∈ o.after.toList, Region.binds .any e = true → e.on < acc.length + i) →
    (masks l acc).length = acc.length + l.length ∧ (∀ k, k < acc.length → (masks l acc).getD k 0 = acc.getD k 0) ∧ ∀ (i : Nat) (o : Oper), l[i]? = some o → (masks l acc).getD (acc.length + i) 0 = maskOf (masks l acc) o
  | [], acc, _ => ⟨by simp [masks], fun _ _ => rfl, fun i o h => by simp at h⟩
  | o :: l, acc, h => by
    rw [masks_cons]
    have h' : ∀ (i : Nat) (o' : Oper), l[i]? = some o' → ∀ e ∈ o'.after.toList, Region.binds .any e = true → e.on < (acc ++ [maskOf acc o]).length + i := by
      intro i o' hi e he hb
      have := h (i + 1) o' (by simpa using hi) e he hb
      simp; omega
    obtain ⟨h1, h2, h3⟩ := masks_spec l (acc ++ [maskOf acc o]) h'
    have hkeep : ∀ k, k < acc.length → (masks l (acc ++ [maskOf acc o])).getD k 0 = acc.getD k 0 := by
      intro k hk
      rw [h2 k (by simp; omega)]
      simp [List.getD_eq_getElem?_getD, List.getElem?_append_left hk]
    refine ⟨by rw [h1]; simp; omega, hkeep, fun i o' hi => ?_⟩
    cases i with
    | zero =>
      simp only [List.getElem?_cons_zero, Option.some.injEq] at hi
      subst hi
      rw [Nat.add_zero, h2 acc.length (by simp)]
      have : (acc ++ [maskOf acc o]).getD acc.length 0 = maskOf acc o := by simp [List.getD_eq_getElem?_getD]
      rw [this]
      unfold maskOf
      refine fold_congr _ _ fun e he hb => ?_
      have := h 0 o rfl e he hb
      exact (hkeep _ (by omega)).symm
    | succ i =>
      have := h3 i o' (by simpa using hi)
      rw [← this]
      congr 1
      simp; omega

/-! ## The run in the text's order, as facts -/

inductive Runs (P : Program) (T : Tab) (call : CallR) (ops : List Oper) : List (Oper × Option Nat) → List Value → St → List Done → List St → List Value → Prop where
  | nil (t : List Value) (s : St) : Runs P T call ops [] t s [] [s] t
  | cons {o : Oper} {id : Option Nat} {r : List (Oper × Option Nat)} {t t' : List Value} {s s1 : St} {ds : List Done} {ss : List St} {v : Value} {ran : Bool}
      (hran : wantedL ops t o = ran) (hrun : ran = true → ∃ sx, runD1 P T call t o id s = some (v, sx) ∧ (isEff T o = true → s1 = sx))
      (hskip : ran = false → v = undef ∧ s1 = s) (hneff : isEff T o = false → s1 = s) (rest : Runs P T call ops r (dstSet t o v) s1 ds ss t') :
      Runs P T call ops ((o, id) :: r) t s (⟨t, o, id, v, ran⟩ :: ds) (if isEff T o then s :: ss else ss) t'

theorem runD_nil {ops : List Oper} {ds : List Done} {ss : List St} : runD P T call ops [] t s ds ss = some (t, ds.reverse, (s :: ss).reverse) := rfl
theorem runD_cons {ops : List Oper} {x : Oper × Option Nat} {r : List (Oper × Option Nat)} {ds : List Done} {ss : List St} : runD P T call ops (x :: r) t s ds ss = match wantedL ops t x.1 with
      | true => match runD1 P T call t x.1 x.2 s with
        | some (v, s') => match isEff T x.1 with
          | true => runD P T call ops r (dstSet t x.1 v) s' (⟨t, x.1, x.2, v, true⟩ :: ds) (s :: ss)
          | false => runD P T call ops r (dstSet t x.1 v) s (⟨t, x.1, x.2, v, true⟩ :: ds) ss
        | none => none
      | false => runD P T call ops r (dstSet t x.1 undef) s (⟨t, x.1, x.2, undef, false⟩ :: ds) (match isEff T x.1 with | true => s :: ss | false => ss) := rfl

theorem runD_runs {ops : List Oper} : ∀ (l : List (Oper × Option Nat)) {t t' : List Value} {s : St} {ds0 ds' : List Done} {ss0 ss' : List St}, runD P T call ops l t s ds0 ss0 = some (t', ds', ss') →
    ∃ ds ss, Runs P T call ops l t s ds ss t' ∧ ds' = ds0.reverse ++ ds ∧ ss' = ss0.reverse ++ ss
  | [], t, t', s, ds0, ds', ss0, ss', h => by
    rw [runD_nil] at h
    simp only [Option.some.injEq, Prod.mk.injEq] at h
    obtain ⟨rfl, rfl, rfl⟩ := h
    exact ⟨[], [s], .nil _ _, by simp, by simp⟩
  | (o, id) :: l, t, t', s, ds0, ds', ss0, ss', h => by
    rw [runD_cons] at h
    simp only at h
    cases hw : wantedL ops t o with
    | true =>
      simp only [hw] at h
      cases hr : runD1 P T call t o id s with
      | none => simp [hr] at h
      | some q =>
        obtain ⟨v, sx⟩ := q
        simp only [hr] at h
        cases he : isEff T o with
        | true =>
          simp only [he] at h
          obtain ⟨ds, ss, h1, h2, h3⟩ := runD_runs l h
          refine ⟨⟨t, o, id, v, true⟩ :: ds, s :: ss, ?_, by rw [h2]; simp, by rw [h3]; simp⟩
          have := Runs.cons (P := P) (T := T) (call := call) (ops := ops) (id := id) (s := s) (s1 := sx) (v := v) (ran := true) hw (fun _ => ⟨sx, hr, fun _ => rfl⟩) (fun h => by cases h) (fun h => by rw [he] at h; cases h) h1
          simpa [he] using this
        | false =>
          simp only [he] at h
          obtain ⟨ds, ss, h1, h2, h3⟩ := runD_runs l h
          refine ⟨⟨t, o, id, v, true⟩ :: ds, ss, ?_, by rw [h2]; simp, h3⟩
          have := Runs.cons (P := P) (T := T) (call := call) (ops := ops) (id := id) (s := s) (s1 := s) (v := v) (ran := true) hw (fun _ => ⟨sx, hr, fun h => by rw [he] at h; cases h⟩) (fun h => by cases h) (fun _ => rfl) h1
          simpa [he] using this
    | false =>
      simp only [hw] at h
      obtain ⟨ds, ss, h1, h2, h3⟩ := runD_runs l h
      have := Runs.cons (P := P) (T := T) (call := call) (ops := ops) (id := id) (s := s) (s1 := s) (v := undef) (ran := false) hw (fun h => by cases h) (fun _ => ⟨rfl, rfl⟩) (fun _ => rfl) h1
      cases he : isEff T o with
      | true =>
        simp only [he] at h3 this
        exact ⟨⟨t, o, id, undef, false⟩ :: ds, s :: ss, by simpa using this, by rw [h2]; simp, by rw [h3]; simp⟩
      | false =>
        simp only [he] at h3 this
        exact ⟨⟨t, o, id, undef, false⟩ :: ds, ss, by simpa using this, by rw [h2]; simp, h3⟩

/-- how many turns of memory there are among the first i -/
def cnt (T : Tab) (l : List Oper) (i : Nat) : Nat := (l.take i).countP (isEff T)

/-- the slots behind the first i -/
noncomputable def tempAt (t : List Value) (ds : List Done) (i : Nat) : List Value := (ds.take i).foldl (fun t d => dstSet t d.o d.v) t

structure RunFacts (P : Program) (T : Tab) (call : CallR) (ops : List Oper) (l : List (Oper × Option Nat)) (t : List Value) (s : St) (ds : List Done) (ss : List St) (t' : List Value) : Prop where
  dlen : ds.length = l.length
  slen : ss.length = cnt T (l.map (·.1)) l.length + 1
  first : ss[0]? = some s
  last : t' = tempAt t ds l.length
  each : ∀ i d, ds[i]? = some d → l[i]? = some (d.o, d.id) ∧ d.t = tempAt t ds i ∧ wantedL ops d.t d.o = d.ran ∧ (d.ran = false → d.v = undef) ∧
    ∃ si, ss[cnt T (l.map (·.1)) i]? = some si ∧ (d.ran = true → ∃ sx, runD1 P T call d.t d.o d.id si = some (d.v, sx) ∧ (isEff T d.o = true → ss[cnt T (l.map (·.1)) i + 1]? = some sx)) ∧
      (d.ran = false → isEff T d.o = true → ss[cnt T (l.map (·.1)) i + 1]? = some si)

theorem runs_facts {ops : List Oper} {l : List (Oper × Option Nat)} {t t' : List Value} {s : St} {ds : List Done} {ss : List St} (h : Runs P T call ops l t s ds ss t') : RunFacts P T call ops l t s ds ss t' := by
  induction h with
  | nil t s => exact ⟨rfl, rfl, rfl, rfl, fun i d h => by simp at h⟩
  | @cons o id r t t' s s1 ds ss v ran hran hrun hskip hneff rest ih =>
    obtain ⟨i1, i2, i3, i4, i5⟩ := ih
    have hcnt : ∀ i, cnt T (((o, id) :: r).map (·.1)) (i + 1) = (if isEff T o then 1 else 0) + cnt T (r.map (·.1)) i := by
      intro i
      simp only [cnt, List.map_cons, List.take_succ_cons, List.countP_cons]
      omega
    have htemp : ∀ i, tempAt t (⟨t, o, id, v, ran⟩ :: ds) (i + 1) = tempAt (dstSet t o v) ds i := fun i => rfl
    refine ⟨by simp [i1], ?_, ?_, ?_, ?_⟩
    · rw [List.length_cons, hcnt]
      split <;> simp [i2] <;> omega
    · split
      · rfl
      · rename_i he
        rw [i3, hneff (by simpa using he)]
    · rw [List.length_cons, htemp]; exact i4
    · intro i d hd
      cases i with
      | zero =>
        simp only [List.getElem?_cons_zero, Option.some.injEq] at hd
        subst hd
        refine ⟨rfl, rfl, hran, fun h => (hskip h).1, s, ?_, ?_, ?_⟩
        · simp only [cnt, List.take_zero, List.countP_nil]
          split
          · rfl
          · rename_i he; rw [i3, hneff (by simpa using he)]
        · intro hr
          obtain ⟨sx, h1, h2⟩ := hrun hr
          refine ⟨sx, h1, fun he => ?_⟩
          simp only [cnt, List.take_zero, List.countP_nil, Nat.zero_add]
          rw [if_pos he]
          simp only [List.getElem?_cons_succ]
          rw [i3, h2 he]
        · intro hr he
          simp only [cnt, List.take_zero, List.countP_nil, Nat.zero_add]
          rw [if_pos he]
          simp only [List.getElem?_cons_succ]
          rw [i3, (hskip hr).2]
      | succ i =>
        simp only [List.getElem?_cons_succ] at hd
        obtain ⟨j1, j2, j3, j4, si, j5, j6, j7⟩ := i5 i d hd
        refine ⟨by simpa using j1, by rw [htemp]; exact j2, j3, j4, si, ?_, ?_, ?_⟩
        · rw [hcnt]
          split
          · rw [Nat.add_comm, List.getElem?_cons_succ]; exact j5
          · rw [Nat.zero_add]; exact j5
        · intro hr
          obtain ⟨sx, k1, k2⟩ := j6 hr
          refine ⟨sx, k1, fun he => ?_⟩
          have := k2 he
          rw [hcnt]
          split
          · rw [show 1 + cnt T (r.map (·.1)) i + 1 = (cnt T (r.map (·.1)) i + 1) + 1 by omega, List.getElem?_cons_succ]; exact this
          · rw [Nat.zero_add]; exact this
        · intro hr he
          have := j7 hr he
          rw [hcnt]
          split
          · rw [show 1 + cnt T (r.map (·.1)) i + 1 = (cnt T (r.map (·.1)) i + 1) + 1 by omega, List.getElem?_cons_succ]; exact this
          · rw [Nat.zero_add]; exact this
end Go.VE
