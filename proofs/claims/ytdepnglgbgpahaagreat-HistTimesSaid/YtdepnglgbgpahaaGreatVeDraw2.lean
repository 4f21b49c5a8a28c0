/-
  A region that draws its order: the orders.
-/
import Derived.Test.YtdepnglgbgpahaaGreatVeDraw
set_option linter.unusedSectionVars false
set_option linter.unusedVariables false
set_option linter.unusedSimpArgs false
namespace Go.VE
open Go Go.RowKit
variable {P : Program} {T : Tab} {call : CallR} {B : Nat} {W0 W : World} {φ : Phi} {s s' : St} {a : Act} {t : List Value} {o : Oper} {v : Value}

/-! ## Who wrote a slot last -/

/-- of the operations below i that S holds: the value of the last one that wrote slot x -/
def lastW (ds : List Done) (S : Nat → Bool) (x : Nat) : Nat → Option Value
  | 0 => none
  | i + 1 => match ds[i]? with
    | some d => if S i && decide (d.o.dst = some x) then some d.v else lastW ds S x i
    | none => lastW ds S x i

theorem tempAt_succ {ds : List Done} {i : Nat} {d : Done} (h : ds[i]? = some d) : tempAt t ds (i + 1) = dstSet (tempAt t ds i) d.o d.v := by
  unfold tempAt
  have : ds.take (i + 1) = ds.take i ++ [d] := by rw [List.take_add_one, h]; rfl
  rw [this, List.foldl_append]
  rfl
theorem tempAt_len (ds : List Done) : ∀ i, (tempAt t ds i).length = t.length := by
  intro i
  unfold tempAt
  generalize ds.take i = l
  induction l generalizing t with
  | nil => rfl
  | cons d l ih =>
    rw [List.foldl_cons, ih]
    unfold dstSet
    split
    · rw [setNth_eq, List.length_set]
    · rfl

theorem dstSet_get {x : Nat} (hx : x < t.length) : (dstSet t o v)[x]? = if o.dst = some x then some v else t[x]? := by
  unfold dstSet
  cases o.dst with
  | none => simp
  | some d =>
    simp only [setNth_eq, Option.some.injEq]
    rw [List.getElem?_set]
    split
    · rename_i e; subst e; simp [hx]
    · rfl

theorem tempAt_get (ds : List Done) {x : Nat} (hx : x < t.length) : ∀ i, i ≤ ds.length → (tempAt t ds i)[x]? = some ((lastW ds (fun _ => true) x i).getD (t.getD x undef))
  | 0, _ => by simp [tempAt, lastW, List.getD_eq_getElem?_getD, hx]
  | i + 1, hi => by
    obtain ⟨d, hd⟩ : ∃ d, ds[i]? = some d := ⟨ds[i], by simp⟩
    rw [tempAt_succ hd, dstSet_get (by rw [tempAt_len]; exact hx), tempAt_get ds hx i (by omega)]
    simp only [lastW, hd, Bool.true_and]
    by_cases e : d.o.dst = some x
    · simp [e]
    · simp [e]

theorem lastW_congr {ds : List Done} {S S' : Nat → Bool} {x : Nat} : ∀ i, (∀ j d, j < i → ds[j]? = some d → d.o.dst = some x → S j = S' j) → lastW ds S x i = lastW ds S' x i
  | 0, _ => rfl
  | i + 1, h => by
    simp only [lastW]
    have ih := lastW_congr i (S := S) (S' := S') (fun j d hj => h j d (by omega))
    cases hd : ds[i]? with
    | none => simpa using ih
    | some d =>
      simp only
      by_cases e : d.o.dst = some x
      · rw [h i d (by omega) hd e, ih]
      · simp [e, ih]

/-- nobody from i on -/
theorem lastW_cut {ds : List Done} {S : Nat → Bool} {x i : Nat} : ∀ n, i ≤ n → (∀ j d, i ≤ j → j < n → ds[j]? = some d → d.o.dst = some x → S j = false) → lastW ds S x n = lastW ds S x i
  | 0, h, _ => by rw [Nat.le_zero.1 h]
  | n + 1, h, hj => by
    rcases Nat.lt_or_ge n i with hlt | hge
    · have e : n + 1 = i := by omega
      rw [e]
    · simp only [lastW]
      have ih := lastW_cut n hge (fun j d h1 h2 => hj j d h1 (by omega))
      cases hd : ds[n]? with
      | none => simpa using ih
      | some d =>
        simp only
        by_cases e : d.o.dst = some x
        · simp [hj n d hge (by omega) hd e, ih]
        · simp [e, ih]

/-! ## The set-up of a region -/

structure Setup (P : Program) (T : Tab) (call : CallR) (ops : Array Oper) (t : List Value) (s0 : St) (ids : List (Option Nat)) (ds : List Done) (ss : List St) (t' : List Value) : Prop where
  idl : ids.length = ops.size
  facts : RunFacts P T call ops.toList (ops.toList.zip ids) t s0 ds ss t'
  ms : List.length (masks ops.toList []) = ops.size
  mask : ∀ (i : Nat) (o : Oper), ops[i]? = some o → (masks ops.toList []).getD i 0 = maskOf (masks ops.toList []) o
  edge : ∀ (i : Nat) (o : Oper), ops[i]? = some o → ∀ e ∈ o.after.toList, Region.binds .any e = true → e.on < i
  guard : ∀ (i : Nat) (o : Oper) (j : Nat) (w : Bool), ops[i]? = some o → o.guard = some (j, w) → ∃ e ∈ o.after.toList, Region.binds .any e = true ∧ e.on = j
  pair : ∀ (i j : Nat) (x y : Oper), i < j → ops[i]? = some x → ops[j]? = some y → okPair T ops.toList (masks ops.toList []) (x, i) (y, j) = true
  alloc : ∀ (i : Nat) (o : Oper) (id : Option Nat), ops[i]? = some o → ids[i]? = some id → (id.isSome = true ↔ (isAlloc o).isSome = true)
  apart : ∀ (i j : Nat) (q : Nat), ids[i]? = some (some q) → ids[j]? = some (some q) → i = j
  low : ∀ (i q : Nat), ids[i]? = some (some q) → q < s0.nx
  check : ∀ (i : Nat) (d : Done), ds[i]? = some d → d.ran = true → isEff T d.o = false → isRead d.o = true →
    ∀ k sk, ((effsOf T ops.toList).countP fun e => (masks ops.toList [] |>.getD i 0).testBit e) ≤ k → k ≤ ((effsOf T ops.toList).countP fun e => !((masks ops.toList [] |>.getD e 0).testBit i)) → ss[k]? = some sk →
      sameAt P T call d.t d.o d.id d.v [sk] = true

/-- the effects among the listed -/
def effIn (T : Tab) (ops : Array Oper) (S : Nat → Bool) : Nat := (effsOf T ops.toList).countP S

theorem mem_effs {ops : List Oper} {i : Nat} : i ∈ effsOf T ops ↔ ∃ o, ops[i]? = some o ∧ isEff T o = true := by
  unfold effsOf
  simp only [List.mem_map, List.mem_filter]
  constructor
  · rintro ⟨⟨o, j⟩, ⟨h1, h2⟩, rfl⟩
    have := List.mem_zipIdx h1
    exact ⟨o, by simpa [List.getElem?_eq_some_iff] using ⟨by omega, this.2.2.symm⟩, h2⟩
  · rintro ⟨o, h1, h2⟩
    refine ⟨(o, i), ⟨?_, h2⟩, rfl⟩
    rw [List.mem_zipIdx_iff_getElem?]
    exact h1

theorem cnt_eq {ops : List Oper} (i : Nat) (hi : i ≤ ops.length) : cnt T ops i = (effsOf T ops).countP fun e => decide (e < i) := by
  unfold cnt effsOf
  rw [List.countP_map, List.countP_filter]
  have key : ∀ (l : List Oper) (k i : Nat), (l.take i).countP (isEff T) = (l.zipIdx k).countP fun x => decide ((x.2) < k + i) && isEff T x.1 := by
    intro l
    induction l with
    | nil => intro k i; simp
    | cons o l ih =>
      intro k i
      cases i with
      | zero =>
        rw [List.take_zero, List.countP_nil, eq_comm, List.countP_eq_zero]
        intro x hx
        have := List.mem_zipIdx hx
        simp; omega
      | succ i =>
        rw [List.take_succ_cons, List.countP_cons, List.zipIdx_cons, List.countP_cons, ih (k + 1) i]
        congr 1
        · congr 1
          funext x
          rw [show k + 1 + i = k + (i + 1) by omega]
        · simp
  have := key ops 0 i
  simp only [Nat.zero_add] at this
  rw [this]
  congr 1

section orders
variable {ops : Array Oper} {s0 : St} {ids : List (Option Nat)} {ds : List Done} {ss : List St} {t' : List Value}

/-- the slots, where S is done -/
noncomputable def slots (t : List Value) (ds : List Done) (S : Nat → Bool) (n : Nat) : List Value := (List.range t.length).map fun x => (lastW ds S x n).getD (t.getD x undef)
theorem slots_len (S : Nat → Bool) (n : Nat) : (slots t ds S n).length = t.length := by simp [slots]
theorem slots_get {S : Nat → Bool} {n x : Nat} (hx : x < t.length) : (slots t ds S n)[x]? = some ((lastW ds S x n).getD (t.getD x undef)) := by simp [slots, hx]

structure Inv (ops : Array Oper) (t : List Value) (s : St) (s0 : St) (ids : List (Option Nat)) (ds : List Done) (ss : List St) (T : Tab) (B : Nat) (W0 : World) (φ0 : Phi) (dfr : List Deferred) (S : Nat → Bool) (a : Act) (W : World) : Prop where
  closed : ∀ j, S j = true → j < ops.size ∧ ∀ i, ((masks ops.toList []).getD j 0).testBit i = true → S i = true
  sim : ∃ φ sk, ss[effIn T ops S]? = some sk ∧ Sim B W0 φ sk W ∧ φ0.le φ ∧ (∀ i, i < s.nx → φ i = φ0 i) ∧ s0.nx ≤ sk.nx ∧ (∀ (i q : Nat), ids[i]? = some (some q) → S i = false → φ q = none) ∧ VRs φ (slots t ds S ops.size) a.tmps.toList
  defers : a.defers = dfr

def adds (S : Nat → Bool) (i : Nat) : Nat → Bool := fun j => j == i || S j

theorem zip_fst {α β : Type} : ∀ {l : List α} {m : List β}, l.length = m.length → (l.zip m).map (·.1) = l
  | [], [], _ => rfl
  | [], _ :: _, h => by simp at h
  | _ :: _, [], h => by simp at h
  | a :: l, b :: m, h => by simp [List.zip_cons_cons, zip_fst (by simpa using h)]

theorem Setup.fst (SU : Setup P T call ops t s0 ids ds ss t') : (ops.toList.zip ids).map (·.1) = ops.toList := zip_fst (by simpa using SU.idl.symm)
theorem Setup.zlen (SU : Setup P T call ops t s0 ids ds ss t') : (ops.toList.zip ids).length = ops.size := by simp [SU.idl]
theorem Setup.done (SU : Setup P T call ops t s0 ids ds ss t') {i : Nat} {o : Oper} (ho : ops[i]? = some o) : ∃ d, ds[i]? = some d ∧ d.o = o ∧ ids[i]? = some d.id := by
  have hi : i < ops.size := (Array.getElem?_eq_some_iff.1 ho).1
  have hd : i < ds.length := by rw [SU.facts.dlen, SU.zlen]; exact hi
  refine ⟨ds[i], by simp [hd], ?_⟩
  have := (SU.facts.each i ds[i] (by simp [hd])).1
  rw [List.getElem?_zip_eq_some] at this
  refine ⟨?_, this.2⟩
  have h1 := this.1
  rw [Array.getElem?_toList, ho] at h1
  exact (Option.some.inj h1).symm

theorem dstIn_of {x : Oper} {l : List Nat} {d : Nat} (h : x.dst = some d) (hm : d ∈ l) : dstIn x l = true := by
  simp [dstIn, h, hm]

/-- what stands to an operation's slots, and to its turning memory, in every order -/
theorem Setup.order (SU : Setup P T call ops t s0 ids ds ss t') {S : Nat → Bool} (hcl : ∀ j, S j = true → ∀ i, ((masks ops.toList []).getD j 0).testBit i = true → S i = true) {i : Nat} {o : Oper} (ho : ops[i]? = some o) (hi : S i = false)
    (hm : ∀ j, ((masks ops.toList []).getD i 0).testBit j = true → S j = true) {j : Nat} {y : Oper} (hy : ops[j]? = some y) (hne : j ≠ i)
    (hc : (isEff T o = true ∧ isEff T y = true) ∨ ∃ x, y.dst = some x ∧ x ∈ namesOf ops.toList o) : (j < i → S j = true) ∧ (i < j → S j = false) := by
  refine ⟨fun h => ?_, fun h => ?_⟩
  · have := SU.pair j i y o h hy ho
    unfold okPair at this
    simp only [Bool.or_eq_true, Bool.and_eq_true, Bool.not_eq_true'] at this
    rcases this with h1 | ⟨⟨h1, h2⟩, h3⟩
    · exact hm j h1
    · rcases hc with ⟨e1, e2⟩ | ⟨x, e1, e2⟩
      · rw [e1, e2] at h1; cases h1
      · rw [dstIn_of e1 e2] at h2; cases h2
  · have := SU.pair i j o y h ho hy
    unfold okPair at this
    simp only [Bool.or_eq_true, Bool.and_eq_true, Bool.not_eq_true'] at this
    rcases this with h1 | ⟨⟨h1, h2⟩, h3⟩
    · cases hj : S j with
      | false => rfl
      | true => have := hcl j hj i h1; rw [hi] at this; cases this
    · rcases hc with ⟨e1, e2⟩ | ⟨x, e1, e2⟩
      · rw [e1, e2] at h1; cases h1
      · rw [dstIn_of e1 e2] at h3; cases h3

/-- the slots that an operation names read as in the text's order -/
theorem Setup.slots_eq (SU : Setup P T call ops t s0 ids ds ss t') {S : Nat → Bool} (hcl : ∀ j, S j = true → ∀ i, ((masks ops.toList []).getD j 0).testBit i = true → S i = true) {i : Nat} {o : Oper} (ho : ops[i]? = some o) (hi : S i = false)
    (hm : ∀ j, ((masks ops.toList []).getD i 0).testBit j = true → S j = true) {d : Done} (hd : ds[i]? = some d) {x : Nat} (hx : x ∈ namesOf ops.toList o) : nth undef d.t x = nth undef (slots t ds S ops.size) x := by
  have hdt := (SU.facts.each i d hd).2.1
  have hil : i < ops.size := (Array.getElem?_eq_some_iff.1 ho).1
  have hdl : ds.length = ops.size := by rw [SU.facts.dlen, SU.zlen]
  rw [nth_eq, nth_eq, hdt]
  simp only [List.getD_eq_getElem?_getD]
  by_cases hxl : x < t.length
  · rw [tempAt_get ds hxl i (by omega), slots_get hxl]
    have opsOf : ∀ (j : Nat) (dj : Done), ds[j]? = some dj → ops[j]? = some dj.o := by
      intro j dj hj
      have := (SU.facts.each j dj hj).1
      rw [List.getElem?_zip_eq_some] at this
      simpa using this.1
    have key : lastW ds S x ops.size = lastW ds (fun _ => true) x i := by
      rw [lastW_cut (i := i) ops.size (by omega)]
      · refine lastW_congr i fun j dj hj hdj hdst => ?_
        have := SU.order hcl ho hi hm (opsOf j dj hdj) (by omega) (.inr ⟨x, hdst, hx⟩)
        exact this.1 hj
      · intro j dj h1 h2 hdj hdst
        rcases Nat.lt_or_eq_of_le h1 with h3 | h3
        · have := SU.order hcl ho hi hm (opsOf j dj hdj) (by omega) (.inr ⟨x, hdst, hx⟩)
          exact this.2 h3
        · rw [← h3]; exact hi
    rw [key]
  · have h1 : (tempAt t ds i)[x]? = none := List.getElem?_eq_none (by rw [tempAt_len]; omega)
    have h2 : (slots t ds S ops.size)[x]? = none := List.getElem?_eq_none (by rw [slots_len]; omega)
    rw [h1, h2]

/-- the slots behind one more operation -/
theorem Setup.slots_add (SU : Setup P T call ops t s0 ids ds ss t') {S : Nat → Bool} (hcl : ∀ j, S j = true → ∀ i, ((masks ops.toList []).getD j 0).testBit i = true → S i = true) {i : Nat} {o : Oper} (ho : ops[i]? = some o) (hi : S i = false)
    (hm : ∀ j, ((masks ops.toList []).getD i 0).testBit j = true → S j = true) {d : Done} (hd : ds[i]? = some d) (hdo : d.o = o) : slots t ds (adds S i) ops.size = dstSet (slots t ds S ops.size) o d.v := by
  have hil : i < ops.size := (Array.getElem?_eq_some_iff.1 ho).1
  have opsOf : ∀ (j : Nat) (dj : Done), ds[j]? = some dj → ops[j]? = some dj.o := by
    intro j dj hj
    have := (SU.facts.each j dj hj).1
    rw [List.getElem?_zip_eq_some] at this
    simpa using this.1
  apply List.ext_getElem?
  intro x
  by_cases hxl : x < t.length
  · rw [slots_get hxl, dstSet_get (by rw [slots_len]; exact hxl), slots_get hxl]
    by_cases hdst : o.dst = some x
    · rw [if_pos hdst]
      have hx : x ∈ namesOf ops.toList o := by simp [namesOf, hdst]
      have key : lastW ds (adds S i) x ops.size = some d.v := by
        rw [lastW_cut (i := i + 1) ops.size (by omega)]
        · simp only [lastW, hd]
          rw [if_pos]
          simp [adds, hdo, hdst]
        · intro j dj h1 h2 hdj hdstj
          have := (SU.order hcl ho hi hm (opsOf j dj hdj) (by omega) (.inr ⟨x, hdstj, hx⟩)).2 (by omega)
          simp only [adds, this, Bool.or_false, beq_eq_false_iff_ne]
          omega
      rw [key]
      rfl
    · rw [if_neg hdst]
      congr 2
      refine lastW_congr _ fun j dj hj hdj hdstj => ?_
      have hne : j ≠ i := by
        intro e
        subst e
        rw [hd] at hdj
        obtain rfl := Option.some.inj hdj
        rw [hdo] at hdstj
        exact hdst hdstj
      simp [adds, hne]
  · rw [List.getElem?_eq_none (by rw [slots_len]; omega), List.getElem?_eq_none]
    unfold dstSet
    split
    · rw [setNth_eq, List.length_set, slots_len]; omega
    · rw [slots_len]; omega

/-- how often memory has turned where an operation that turns it stands -/
theorem Setup.eff_at (SU : Setup P T call ops t s0 ids ds ss t') {S : Nat → Bool} (hcl : ∀ j, S j = true → ∀ i, ((masks ops.toList []).getD j 0).testBit i = true → S i = true) {i : Nat} {o : Oper} (ho : ops[i]? = some o) (hi : S i = false)
    (hm : ∀ j, ((masks ops.toList []).getD i 0).testBit j = true → S j = true) (he : isEff T o = true) : effIn T ops S = cnt T ops.toList i ∧ effIn T ops (adds S i) = cnt T ops.toList i + 1 := by
  have hil : i < ops.size := (Array.getElem?_eq_some_iff.1 ho).1
  have key : ∀ e ∈ effsOf T ops.toList, e ≠ i → (S e = true ↔ e < i) := by
    intro e hmem hne
    obtain ⟨y, hy, hey⟩ := mem_effs.1 hmem
    have := SU.order hcl ho hi hm (by simpa using hy) hne (.inl ⟨he, hey⟩)
    constructor
    · intro h
      rcases Nat.lt_or_ge e i with h1 | h1
      · exact h1
      · have := this.2 (by omega); rw [h] at this; cases this
    · exact this.1
  constructor
  · rw [cnt_eq i (by simpa using Nat.le_of_lt hil)]
    refine List.countP_congr fun e hmem => ?_
    by_cases hne : e = i
    · subst hne; simp [hi]
    · simpa using key e hmem hne
  · have : cnt T ops.toList (i + 1) = cnt T ops.toList i + 1 := by
      unfold cnt
      rw [List.take_add_one]
      have : ops.toList[i]? = some o := by simpa using ho
      rw [this, List.countP_append]
      simp [he]
    rw [← this, cnt_eq (i + 1) (by rw [Array.length_toList]; omega)]
    refine List.countP_congr fun e hmem => ?_
    by_cases hne : e = i
    · subst hne; simp [adds]
    · have := key e hmem hne
      simp only [adds, Bool.or_eq_true, beq_iff_eq, decide_eq_true_eq]
      constructor
      · rintro (h | h)
        · exact absurd h hne
        · have := this.1 h; omega
      · intro h; exact .inr (this.2 (by omega))

theorem Setup.eff_not (SU : Setup P T call ops t s0 ids ds ss t') {S : Nat → Bool} {i : Nat} {o : Oper} (ho : ops[i]? = some o) (he : isEff T o = false) : effIn T ops (adds S i) = effIn T ops S := by
  refine List.countP_congr fun e hmem => ?_
  have hne : e ≠ i := by
    intro h
    subst h
    obtain ⟨y, hy, hey⟩ := mem_effs.1 hmem
    have : ops[e]? = some y := by simpa using hy
    rw [ho] at this
    obtain rfl := Option.some.inj this
    rw [he] at hey; cases hey
  simp [adds, hne]
end orders
end Go.VE
