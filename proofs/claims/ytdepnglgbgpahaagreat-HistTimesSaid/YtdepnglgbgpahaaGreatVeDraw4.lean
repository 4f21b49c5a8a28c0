/-
  A region that draws its order: the whole.
-/
import Derived.Test.YtdepnglgbgpahaaGreatVeDraw3
set_option linter.unusedSectionVars false
set_option linter.unusedVariables false
set_option linter.unusedSimpArgs false
namespace Go.VE
open Go Go.RowKit
variable {P : Program} {T : Tab} {call : CallR} {B : Nat} {W0 W : World} {φ : Phi} {s s' : St} {a : Act} {t : List Value} {o : Oper} {v : Value}

theorem Sim.hide (h : Sim B W0 φ s W) (o : AObj) : Sim B W0 φ (s.push o) W := by
  have ne : ∀ i L, φ i = some L → i ≠ s.nx := fun i L hi e => by have := (h.dom i L hi).1; omega
  refine ⟨h.below, h.base, ?_, ?_, ?_⟩
  · intro i L x hi hx
    rw [St.get_push_old s o i (ne i L hi)] at hx
    exact h.objs i L x hi hx
  · intro i j L L' hi hj hsi hsj he
    rw [St.get_push_old s o i (ne i L hi)] at hsi
    rw [St.get_push_old s o j (ne j L' hj)] at hsj
    exact h.inj i j L L' hi hj hsi hsj he
  · intro i L hi
    have := h.dom i L hi
    rw [St.nx_push, ro_push s o i (ne i L hi)]
    exact ⟨by omega, this.2.1, by omega⟩

theorem prealloc_spec : ∀ (l : List Oper) (s : St) (ids : List (Option Nat)) (s0 : St), prealloc T l s = some (ids, s0) →
    ids.length = l.length ∧ s.nx ≤ s0.nx ∧ (∀ (B : Nat) (W0 W : World) (φ : Phi), Sim B W0 φ s W → Sim B W0 φ s0 W) ∧
    (∀ (i : Nat) (o : Oper) (id : Option Nat), l[i]? = some o → ids[i]? = some id → (id.isSome = true ↔ (isAlloc o).isSome = true)) ∧
    (∀ (i q : Nat), ids[i]? = some (some q) → s.nx ≤ q ∧ q < s0.nx) ∧
    ∀ (i j q : Nat), ids[i]? = some (some q) → ids[j]? = some (some q) → i = j
  | [], s, ids, s0, h => by
    simp only [prealloc, Option.some.injEq, Prod.mk.injEq] at h
    obtain ⟨rfl, rfl⟩ := h
    exact ⟨rfl, Nat.le_refl _, fun _ _ _ _ h => h, fun i o id h => by simp at h, fun i q h => by simp at h, fun i j q h => by simp at h⟩
  | o :: l, s, ids, s0, h => by
    simp only [prealloc] at h
    cases ha : isAlloc o with
    | some e =>
      simp only [ha] at h
      cases hty : T.ty e with
      | none => simp [hty] at h
      | some ti =>
        simp only [hty] at h
        cases hp : prealloc T l (s.push (.cells ti.zero.cells.toList 0)) with
        | none => simp [hp] at h
        | some r =>
          obtain ⟨ids', s1⟩ := r
          simp only [hp, Option.some.injEq, Prod.mk.injEq] at h
          obtain ⟨rfl, rfl⟩ := h
          obtain ⟨h1, h2, h3, h4, h5, h6⟩ := prealloc_spec l _ _ _ hp
          rw [St.nx_push] at h2
          have h5' : ∀ (i q : Nat), ids'[i]? = some (some q) → s.nx + 1 ≤ q ∧ q < s1.nx := by
            intro i q hq
            have := h5 i q hq
            rw [St.nx_push] at this
            exact this
          refine ⟨by simp [h1], by omega, fun B W0 W φ hs => h3 B W0 W φ (hs.hide _), ?_, ?_, ?_⟩
          · intro i o' id ho hid
            cases i with
            | zero =>
              simp at ho hid
              subst ho; subst hid
              simp [ha]
            | succ i => exact h4 i o' id (by simpa using ho) (by simpa using hid)
          · intro i q hq
            cases i with
            | zero =>
              simp at hq
              omega
            | succ i =>
              have := h5' i q (by simpa using hq)
              omega
          · intro i j q hi hj
            cases i with
            | zero =>
              cases j with
              | zero => rfl
              | succ j =>
                simp at hi
                have := h5' j q (by simpa using hj)
                omega
            | succ i =>
              cases j with
              | zero =>
                simp at hj
                have := h5' i q (by simpa using hi)
                omega
              | succ j => rw [h6 i j q (by simpa using hi) (by simpa using hj)]
    | none =>
      simp only [ha] at h
      cases hp : prealloc T l s with
      | none => simp [hp] at h
      | some r =>
        obtain ⟨ids', s1⟩ := r
        simp only [hp, Option.some.injEq, Prod.mk.injEq] at h
        obtain ⟨rfl, rfl⟩ := h
        obtain ⟨h1, h2, h3, h4, h5, h6⟩ := prealloc_spec l _ _ _ hp
        refine ⟨by simp [h1], h2, h3, ?_, ?_, ?_⟩
        · intro i o' id ho hid
          cases i with
          | zero =>
            simp at ho hid
            subst ho; subst hid
            simp [ha]
          | succ i => exact h4 i o' id (by simpa using ho) (by simpa using hid)
        · intro i q hq
          cases i with
          | zero => simp at hq
          | succ i => exact h5 i q (by simpa using hq)
        · intro i j q hi hj
          cases i with
          | zero => simp at hi
          | succ i =>
            cases j with
            | zero => simp at hj
            | succ j => rw [h6 i j q (by simpa using hi) (by simpa using hj)]

theorem okAll_spec {ops : List Oper} {ms : List Nat} : ∀ (l : List (Oper × Nat)), okAll T ops ms l = true → ∀ (i j : Nat) (x y : Oper × Nat), i < j → l[i]? = some x → l[j]? = some y → okPair T ops ms x y = true
  | [], _, i, j, x, y, _, hi, _ => by simp at hi
  | z :: l, h, i, j, x, y, hij, hi, hj => by
    simp only [okAll, Bool.and_eq_true] at h
    cases i with
    | zero =>
      simp at hi
      subst hi
      cases j with
      | zero => omega
      | succ j => exact List.all_eq_true.1 h.1 y (List.mem_of_getElem? (by simpa using hj))
    | succ i =>
      cases j with
      | zero => omega
      | succ j => exact okAll_spec l h.2 i j x y (by omega) (by simpa using hi) (by simpa using hj)

theorem sameAt_mem {id : Option Nat} : ∀ {l : List St}, sameAt P T call t o id v l = true → ∀ sk ∈ l, sameAt P T call t o id v [sk] = true
  | [], _, sk, h => by cases h
  | x :: l, h, sk, hm => by
    simp only [sameAt, Bool.and_eq_true] at h
    rcases List.mem_cons.1 hm with rfl | hm
    · simp only [sameAt, Bool.and_true]; exact h.1
    · exact sameAt_mem h.2 sk hm

theorem checkD_spec {ss : List St} : ∀ (ds : List Done) (inf : List (Nat × Nat)), checkD P T call ss ds inf = true → ∀ (i : Nat) (d : Done) (r : Nat × Nat), ds[i]? = some d → inf[i]? = some r →
    (!d.ran || isEff T d.o || !isRead d.o || sameAt P T call d.t d.o d.id d.v ((ss.drop r.1).take (r.2 + 1 - r.1))) = true
  | [], _, _, i, d, r, hd, _ => by simp at hd
  | _ :: _, [], h, _, _, _, _, _ => by simp [checkD] at h
  | d0 :: ds, (lo, hi) :: inf, h, i, d, r, hd, hr => by
    simp only [checkD, Bool.and_eq_true] at h
    cases i with
    | zero =>
      simp at hd hr
      subst hd; subst hr
      exact h.1
    | succ i => exact checkD_spec ds inf h.2 i d r (by simpa using hd) (by simpa using hr)

section orders
variable {ops : Array Oper} {s0 : St} {ids : List (Option Nat)} {ds : List Done} {ss : List St} {t' : List Value} {φ0 : Phi} {dfr : List Deferred} {Q : Exit → Act → World → Prop}

theorem setup_of {inf : List (Nat × Nat)} (h1 : rinfo T ops.toList = some inf) (h2 : prealloc T ops.toList s = some (ids, s0)) (h3 : runD P T call ops.toList (ops.toList.zip ids) t s0 [] [] = some (t', ds, ss)) (h4 : checkD P T call ss ds inf = true) :
    Setup P T call ops t s0 ids ds ss t' := by
  obtain ⟨p1, p2, p3, p4, p5, p6⟩ := prealloc_spec _ _ _ _ h2
  unfold rinfo at h1
  simp only at h1
  split at h1
  · rename_i hc
    simp only [Bool.and_eq_true] at hc
    have hinf := Option.some.inj h1
    have hed : ∀ (i : Nat) (o : Oper), ops[i]? = some o → edgesOk (o, i) = true := by
      intro i o ho
      refine List.all_eq_true.1 hc.1 (o, i) ?_
      rw [List.mem_zipIdx_iff_getElem?]
      simpa using ho
    have hedge : ∀ (i : Nat) (o : Oper), ops[i]? = some o → ∀ e ∈ o.after.toList, Region.binds .any e = true → e.on < i := by
      intro i o ho e he hb
      have := hed i o ho
      unfold edgesOk at this
      simp only [Bool.and_eq_true] at this
      have := List.all_eq_true.1 this.1 e he
      simpa [hb] using this
    obtain ⟨m1, m2, m3⟩ := masks_spec ops.toList [] (fun i o ho e he hb => by simpa using hedge i o (by simpa using ho) e he hb)
    obtain ⟨ds', ss', r1, r2, r3⟩ := runD_runs _ h3
    simp only [List.reverse_nil, List.nil_append] at r2 r3
    subst r2; subst r3
    refine ⟨by simpa using p1, runs_facts r1, by simpa using m1, ?_, hedge, ?_, ?_, ?_, ?_, ?_, ?_⟩
    · intro i o ho
      have := m3 i o (by simpa using ho)
      simpa using this
    · intro i o j w ho hg
      have := hed i o ho
      unfold edgesOk at this
      simp only [Bool.and_eq_true, hg] at this
      obtain ⟨e, he, hb⟩ := List.any_eq_true.1 this.2
      simp only [Bool.and_eq_true, beq_iff_eq] at hb
      exact ⟨e, he, hb.1, hb.2⟩
    · intro i j x y hij hx hy
      refine okAll_spec _ hc.2 i j (x, i) (y, j) hij ?_ ?_
      · rw [List.getElem?_zipIdx]; simp [hx]
      · rw [List.getElem?_zipIdx]; simp [hy]
    · intro i o id ho hid
      exact p4 i o id (by simpa using ho) hid
    · exact p6
    · intro i q hq
      exact (p5 i q hq).2
    · intro i d hd hran he hrd k sk hlo hhi hk
      have hfacts := runs_facts r1
      have hi : i < ops.size := by
        have hlt := (List.getElem?_eq_some_iff.1 hd).1
        have h' := hfacts.dlen
        simp [p1] at h'
        omega
      have hr : inf[i]? = some (rangeOf (effsOf T ops.toList) (masks ops.toList []) i) := by
        rw [← hinf]
        simp [hi]
      have := checkD_spec _ _ h4 i d _ hd hr
      simp only [hran, he, hrd, Bool.not_true, Bool.false_or] at this
      refine sameAt_mem this sk ?_
      refine List.mem_of_getElem? (i := k - (rangeOf (effsOf T ops.toList) (masks ops.toList []) i).1) ?_
      have e1 : (rangeOf (effsOf T ops.toList) (masks ops.toList []) i).1 ≤ k := by
        simp only [rangeOf, ← List.countP_eq_length_filter]; exact hlo
      have e2 : k ≤ (rangeOf (effsOf T ops.toList) (masks ops.toList []) i).2 := by
        simp only [rangeOf, ← List.countP_eq_length_filter]; exact hhi
      rw [List.getElem?_take, if_pos (by omega), List.getElem?_drop, show (rangeOf (effsOf T ops.toList) (masks ops.toList []) i).1 + (k - (rangeOf (effsOf T ops.toList) (masks ops.toList []) i).1) = k by omega]
      exact hk
  · cases h1

theorem ready_mem {listed : Array Bool} {i : Nat} : i ∈ Region.ready .any ops listed ↔ i < ops.size ∧ listed.getD i true = false ∧ ∃ o, ops[i]? = some o ∧ ∀ e ∈ o.after.toList, Region.binds .any e = true → listed.getD e.on false = true := by
  unfold Region.ready
  simp only [List.mem_filter, List.mem_range, Bool.and_eq_true, Bool.not_eq_true']
  constructor
  · rintro ⟨h1, h2, h3⟩
    refine ⟨h1, h2, ops[i], by simp [h1], ?_⟩
    simp [h1] at h3
    intro e he hb
    obtain ⟨k, hk⟩ := List.getElem?_of_mem he
    have hk' : k < ops[i].after.size := by
      have := (List.getElem?_eq_some_iff.1 hk).1
      simpa using this
    have hke : ops[i].after[k] = e := by simpa [hk'] using hk
    have := h3 k hk'
    rw [hke] at this
    rcases this with h | h
    · rw [hb] at h; cases h
    · simpa using h
  · rintro ⟨h1, h2, o, ho, h3⟩
    refine ⟨h1, h2, ?_⟩
    have : ops[i] = o := by simpa [h1] using ho
    simp only [ho, Option.map_some, Option.getD_some]
    rw [← Array.all_toList]
    refine List.all_eq_true.2 fun e he => ?_
    cases hb : Region.binds .any e with
    | false => simp
    | true => simp [h3 e he hb]

theorem orders_all (hT : TabOk P T) (hcall : CallOk P call) (SU : Setup P T call ops t s0 ids ds ss t') (hhigh : ∀ (i q : Nat), ids[i]? = some (some q) → s.nx ≤ q) (hs0 : s.nx ≤ s0.nx)
    (hq : ∀ S a W, (∀ j, j < ops.size → S j = true) → Inv ops t s s0 ids ds ss T B W0 φ0 dfr S a W → Q .normal a W) :
    ∀ (fuel : Nat) (listed : Array Bool) (a : Act) (W : World), listed.size = ops.size → Inv ops t s s0 ids ds ss T B W0 φ0 dfr (fun j => listed.getD j false) a W →
      fuel + (List.range ops.size).countP (fun j => listed.getD j false) = ops.size → wpAny P .any ops Q fuel listed a W := by
  have getDs : ∀ (listed : Array Bool) (j : Nat), listed.size = ops.size → j < ops.size → listed.getD j true = listed.getD j false := by
    intro listed j h1 h2
    simp [Array.getD_eq_getD_getElem?, h1, h2]
  have empty : ∀ (listed : Array Bool), listed.size = ops.size → Region.ready .any ops listed = [] → ∀ j, j < ops.size → listed.getD j false = true := by
    intro listed hsz hr j
    induction j using Nat.strongRecOn with
    | _ j ih =>
      intro hj
      cases hb : listed.getD j false with
      | true => rfl
      | false =>
        exfalso
        have : j ∈ Region.ready .any ops listed := by
          refine ready_mem.2 ⟨hj, by rw [getDs listed j hsz hj]; exact hb, ops[j], by simp [hj], ?_⟩
          intro e he hbd
          have := SU.edge j ops[j] (by simp [hj]) e he hbd
          exact ih e.on this (by omega)
        rw [hr] at this
        cases this
  intro fuel
  induction fuel with
  | zero =>
    intro listed a W hsz hI hf
    have hall : ∀ j, j < ops.size → listed.getD j false = true := by
      have : (List.range ops.size).countP (fun j => listed.getD j false) = (List.range ops.size).length := by simpa using hf
      rw [List.countP_eq_length] at this
      intro j hj
      exact this j (List.mem_range.2 hj)
    refine ⟨?_, hq _ a W hall hI⟩
    cases hr : Region.ready .any ops listed with
    | nil => rfl
    | cons i r =>
      have : i ∈ Region.ready .any ops listed := by rw [hr]; simp
      obtain ⟨h1, h2, -⟩ := ready_mem.1 this
      rw [getDs listed i hsz h1, hall i h1] at h2
      cases h2
  | succ fuel ih =>
    intro listed a W hsz hI hf
    refine ⟨fun hr => hq _ a W (empty listed hsz hr) hI, fun i hi => ?_⟩
    obtain ⟨h1, h2, o, ho, h3⟩ := ready_mem.1 hi
    rw [getDs listed i hsz h1] at h2
    refine step_inv hT hcall SU hhigh hs0 hI ho h2 h3 fun a' W' hI' => ?_
    have hadds : adds (fun j => listed.getD j false) i = fun j => (listed.setIfInBounds i true).getD j false := by
      funext j
      simp only [adds, Array.getD_eq_getD_getElem?, Array.getElem?_setIfInBounds]
      by_cases e : i = j
      · subst e
        have : i < listed.size := by omega
        simp [this]
      · have e' : ¬ j = i := fun h => e h.symm
        simp [e, e']
    rw [hadds] at hI'
    refine ih (listed.setIfInBounds i true) a' W' (by simpa using hsz) hI' ?_
    rw [← hadds]
    have hcount : ∀ n, i < n → (List.range n).countP (adds (fun j => listed.getD j false) i) = (List.range n).countP (fun j => listed.getD j false) + 1 := by
      intro n
      induction n with
      | zero => intro h; omega
      | succ n ihn =>
        intro hn
        rw [List.range_succ, List.countP_append, List.countP_append]
        by_cases e : i = n
        · subst e
          have hlow : (List.range i).countP (adds (fun j => listed.getD j false) i) = (List.range i).countP (fun j => listed.getD j false) := by
            refine List.countP_congr fun j hj => ?_
            have : j ≠ i := by have := List.mem_range.1 hj; omega
            simp [adds, this]
          rw [hlow]
          simp only [List.countP_cons, List.countP_nil, adds, beq_self_eq_true, Bool.true_or, if_true, h2]
          simp
        · rw [ihn (by omega)]
          have : n ≠ i := fun h => e h.symm
          simp [adds, this]
          omega
    rw [hcount ops.size h1]
    omega

/-- A region that draws its order does what it does in the text's. -/
theorem draw_wp (hT : TabOk P T) (hcall : CallOk P call) (hs : Sim B W0 φ s W) (ht : VRs φ t a.tmps.toList) (h : regionDraw P T call ops.toList t s = some (t', s'))
    (hq : ∀ φ' a' W', Grow s s' φ φ' → Sim B W0 φ' s' W' → VRs φ' t' a'.tmps.toList → a'.defers = a.defers → Q .normal a' W') :
    wpAny P .any ops Q ops.size (Array.replicate ops.size false) a W := by
  unfold regionDraw at h
  split at h
  · rename_i inf ids s0 h1 h2
    split at h
    · rename_i tt ds ss h3
      split at h
      · rename_i h4
        cases hl : ss.getLast? with
        | none => simp [hl] at h
        | some sl =>
          simp only [hl, Option.some.injEq, Prod.mk.injEq] at h
          obtain ⟨rfl, rfl⟩ := h
          have SU := setup_of h1 h2 h3 h4
          obtain ⟨p1, p2, p3, p4, p5, p6⟩ := prealloc_spec _ _ _ _ h2
          have hs0 := p3 _ _ _ _ hs
          have hnone : effIn T ops (fun j => (Array.replicate ops.size false).getD j false) = 0 := by
            unfold effIn
            rw [List.countP_eq_zero]
            intro e _
            simp [Array.getD_eq_getD_getElem?, Array.getElem?_replicate]
            split <;> simp
          refine orders_all (B := B) (W0 := W0) (dfr := a.defers) (φ0 := φ) hT hcall SU (fun i q hq => (p5 i q hq).1) p2 (fun S a' W' hall hI => ?_) ops.size _ a W (by simp) ?_ ?_
          · obtain ⟨φ', sk, hk, hsim, hle, hsame, hnx, -, hslots⟩ := hI.sim
            have heff : effIn T ops S = cnt T ops.toList ops.size := by
              rw [cnt_eq _ (by simp)]
              refine List.countP_congr fun e he => ?_
              obtain ⟨y, hy, -⟩ := mem_effs.1 he
              have hlt : e < ops.size := by
                have := (List.getElem?_eq_some_iff.1 hy).1
                simpa using this
              simp [hall e hlt, hlt]
            have hlen := SU.facts.slen
            rw [SU.fst, SU.zlen] at hlen
            have hsk : sk = sl := by
              rw [heff] at hk
              rw [List.getLast?_eq_getElem?, hlen, Nat.add_sub_cancel] at hl
              rw [hl] at hk
              exact (Option.some.inj hk).symm
            subst hsk
            have htt : slots t ds S ops.size = tt := by
              rw [SU.facts.last, SU.zlen]
              apply List.ext_getElem?
              intro x
              have hdl : ds.length = ops.size := by rw [SU.facts.dlen, SU.zlen]
              by_cases hx : x < t.length
              · rw [slots_get hx, tempAt_get ds hx _ (by omega)]
                congr 2
                refine lastW_congr _ fun j d hj _ _ => ?_
                rw [hall j hj]
              · rw [List.getElem?_eq_none (by rw [slots_len]; omega), List.getElem?_eq_none (by rw [tempAt_len]; omega)]
            rw [htt] at hslots
            exact hq φ' a' W' ⟨hle, hsame, Nat.le_trans p2 hnx⟩ hsim hslots hI.defers
          · refine ⟨fun j hj => ?_, ⟨φ, s0, ?_, hs0, Phi.le_refl _, fun _ _ => rfl, Nat.le_refl _, fun i q hq _ => ?_, ?_⟩, rfl⟩
            · simp [Array.getD_eq_getD_getElem?, Array.getElem?_replicate] at hj
              split at hj <;> simp at hj
            · rw [hnone]; exact SU.facts.first
            · cases hφ : φ q with
              | none => rfl
              | some L => have := (hs.dom q L hφ).1; have := (p5 i q hq).1; omega
            · have : slots t ds (fun j => (Array.replicate ops.size false).getD j false) ops.size = t := by
                apply List.ext_getElem?
                intro x
                by_cases hx : x < t.length
                · rw [slots_get hx]
                  have : ∀ n, lastW ds (fun j => (Array.replicate ops.size false).getD j false) x n = none := by
                    intro n
                    induction n with
                    | zero => rfl
                    | succ n ih =>
                      simp only [lastW]
                      have hf : (Array.replicate ops.size false).getD n false = false := by
                        simp [Array.getD_eq_getD_getElem?, Array.getElem?_replicate]
                        split <;> simp
                      cases ds[n]? with
                      | none => exact ih
                      | some d => simp only [hf, Bool.false_and]; exact ih
                  rw [this]
                  simp [List.getD_eq_getElem?_getD, hx]
                · rw [List.getElem?_eq_none (by rw [slots_len]; omega), List.getElem?_eq_none (by omega)]
              rw [this]
              exact ht
          · have : (List.range ops.size).countP (fun j => (Array.replicate ops.size false).getD j false) = 0 := by
              rw [List.countP_eq_zero]
              intro e _
              simp [Array.getD_eq_getD_getElem?, Array.getElem?_replicate]
              split <;> simp
            omega
      · cases h
    · cases h
  · cases h
end orders
end Go.VE
