/-
  A region that draws its order: each step of whatever order; the whole.
-/
import Derived.Test.YtdepnglgbgpahaaGreatVeDraw2
set_option linter.unusedSectionVars false
set_option linter.unusedVariables false
set_option linter.unusedSimpArgs false
namespace Go.VE
open Go Go.RowKit
variable {P : Program} {T : Tab} {call : CallR} {B : Nat} {W0 W : World} {φ : Phi} {s s' : St} {a : Act} {t : List Value} {o : Oper} {v : Value}

/-! ## Alike values -/

theorem eq0_eq {x y : Value} (h : eq0 x y = true) : x = y := by
  unfold eq0 at h
  split at h
  · simp at h; rw [h]
  · simp at h; rw [h.1, h.2]
  · rename_i a b
    have : a.data.toList = b.data.toList := by simpa using h
    have : a = b := ByteArray.ext (Array.ext' this)
    rw [this]
  · simp at h; rw [h]
  · simp at h; rw [h.1.1, h.1.2, h.2]
  · simp at h; rw [h]
  · rfl
  · rfl
  · cases h
theorem eqL_eq {f : Value → Value → Bool} (hf : ∀ x y, f x y = true → x = y) : ∀ {l m : List Value}, eqL f l m = true → l = m
  | [], [], _ => rfl
  | [], _ :: _, h => by simp [eqL] at h
  | _ :: _, [], h => by simp [eqL] at h
  | x :: l, y :: m, h => by
    simp only [eqL, Bool.and_eq_true] at h
    rw [hf x y h.1, eqL_eq hf h.2]
theorem arr_eq {a b : Array Value} (h : a.toList = b.toList) : a = b := Array.ext' h
theorem eqv_eq : ∀ (n : Nat) (x y : Value), eqv n x y = true → x = y
  | 0, x, y, h => eq0_eq h
  | n + 1, x, y, h => by
    have ih := eqv_eq n
    unfold eqv at h
    split at h
    · rw [arr_eq (eqL_eq ih h)]
    · rw [arr_eq (eqL_eq ih h)]
    · simp only [Bool.and_eq_true, beq_iff_eq] at h
      rw [h.1.1, arr_eq (eqL_eq ih h.1.2), arr_eq (eqL_eq ih h.2)]
    · simp only [Bool.and_eq_true, beq_iff_eq] at h
      rw [h.1.1, arr_eq (eqL_eq ih h.1.2), arr_eq (eqL_eq ih h.2)]
    · simp only [Bool.and_eq_true, beq_iff_eq] at h
      rw [h.1, ih _ _ h.2]
    · exact eq0_eq h

/-- A name that is there and has no block gets one. -/
theorem Sim.adopt (h : Sim B W0 φ s W) {W' : World} (hb : Below W.heap.size W W') {q : Nat} (L : Loc) (hL : L.blk = W.heap.size) (hs : W.heap.size < W'.heap.size) (hq : φ q = none) (hqn : q < s.nx)
    (ho : ∀ o, s.get q = some o → ObjR (ext φ q L) W' L o) : Sim B W0 (ext φ q L) s W' := by
  have hle := ext_le (φ := φ) (L := L) hq
  have split : ∀ i M, ext φ q L i = some M → (i = q ∧ M = L) ∨ (i ≠ q ∧ φ i = some M) := by
    intro i M hi
    unfold ext at hi
    split at hi
    · exact .inl ⟨by assumption, (Option.some.inj hi).symm⟩
    · exact .inr ⟨by assumption, hi⟩
  refine ⟨h.below.trans (hb.mono h.size), h.base, ?_, ?_, ?_⟩
  · intro i M x hi hx
    rcases split i M hi with ⟨rfl, rfl⟩ | ⟨hne, hi⟩
    · exact ho x hx
    · exact (h.objs i M x hi hx).mono hle (hb.block _ (h.dom i M hi).2.2)
  · intro i j M M' hi hj hsi hsj he
    rcases split i M hi with ⟨rfl, rfl⟩ | ⟨hne, hi'⟩ <;> rcases split j M' hj with ⟨rfl, rfl⟩ | ⟨hne', hj'⟩
    · rfl
    · have := (h.dom j M' hj').2.2; omega
    · have := (h.dom i M hi').2.2; omega
    · exact h.inj i j M M' hi' hj' hsi hsj he
  · intro i M hi
    rcases split i M hi with ⟨rfl, rfl⟩ | ⟨hne, hi⟩
    · have := h.size; exact ⟨by omega, fun _ => by omega, by omega⟩
    · have := h.dom i M hi; exact ⟨by omega, this.2.1, by omega⟩

section orders
variable {ops : Array Oper} {s0 : St} {ids : List (Option Nat)} {ds : List Done} {ss : List St} {t' : List Value} {φ0 : Phi} {dfr : List Deferred} {Q : Exit → Act → World → Prop}

theorem mask_bit (SU : Setup P T call ops t s0 ids ds ss t') {i : Nat} {o : Oper} (ho : ops[i]? = some o) (j : Nat) : ((masks ops.toList []).getD i 0).testBit j = true ↔
    ∃ e ∈ o.after.toList, Region.binds .any e = true ∧ (j = e.on ∨ ((masks ops.toList []).getD e.on 0).testBit j = true) := by
  rw [SU.mask i o ho, maskOf, fold_bits]
  simp

theorem operand_names {ops : List Oper} {o : Oper} {k : Nat} (h : Operand.tmp k ∈ o.op.operands.toList) : k ∈ namesOf ops o := by
  unfold namesOf
  simp only [List.mem_append, List.mem_flatMap]
  exact .inl (.inr ⟨_, h, by simp [tmpOf]⟩)

theorem evalO_of_nth {t t2 : List Value} {x : Operand} (h : ∀ k, x = .tmp k → nth undef t k = nth undef t2 k) : evalO t x = evalO t2 x := by
  cases x with
  | tmp k => simp only [evalO, h k rfl]
  | _ => rfl

theorem wanted_congr {ops : List Oper} {t t2 : List Value} {o : Oper} (h : ∀ x ∈ namesOf ops o, nth undef t x = nth undef t2 x) : wantedL ops t o = wantedL ops t2 o := by
  unfold wantedL
  cases hg : o.guard with
  | none => rfl
  | some g =>
    obtain ⟨j, w⟩ := g
    simp only
    cases hd : (ops[j]?).bind (·.dst) with
    | none => rfl
    | some d =>
      simp only
      rw [h d (by unfold namesOf; rw [hg]; simp [hd])]

/-- One step of an order. -/
theorem step_inv (hT : TabOk P T) (hcall : CallOk P call) (SU : Setup P T call ops t s0 ids ds ss t') (hhigh : ∀ (i q : Nat), ids[i]? = some (some q) → s.nx ≤ q) (hs0 : s.nx ≤ s0.nx) {S : Nat → Bool} {W : World} {a : Act} (hI : Inv ops t s s0 ids ds ss T B W0 φ0 dfr S a W) {i : Nat} {o : Oper} (ho : ops[i]? = some o) (hi : S i = false)
    (hready : ∀ e ∈ o.after.toList, Region.binds .any e = true → S e.on = true) {K : Act → World → Prop} (hK : ∀ a' W', Inv ops t s s0 ids ds ss T B W0 φ0 dfr (adds S i) a' W' → K a' W') :
    wpOp P ops Q i K a W := by
  have hil : i < ops.size := (Array.getElem?_eq_some_iff.1 ho).1
  have hcl : ∀ j, S j = true → ∀ i, ((masks ops.toList []).getD j 0).testBit i = true → S i = true := fun j hj => (hI.closed j hj).2
  have hm : ∀ j, ((masks ops.toList []).getD i 0).testBit j = true → S j = true := by
    intro j hj
    obtain ⟨e, h1, h2, h3⟩ := (mask_bit SU ho j).1 hj
    rcases h3 with rfl | h3
    · exact hready e h1 h2
    · exact hcl _ (hready e h1 h2) _ h3
  obtain ⟨d, hd, hdo, hid⟩ := SU.done ho
  obtain ⟨-, hdt, hdw, hdv, si, hsi, hsr, hsk⟩ := SU.facts.each i d hd
  rw [SU.fst] at hsi hsr hsk
  obtain ⟨φ, sk, hk, hs, hle, hsame, hnx, hids, ht⟩ := hI.sim
  have hslots : ∀ x ∈ namesOf ops.toList o, nth undef d.t x = nth undef (slots t ds S ops.size) x := fun x hx => SU.slots_eq hcl ho hi hm hd hx
  have hw : Region.wanted o (yielded ops a.tmps) = d.ran := by
    rw [wanted_sound ht, ← wanted_congr hslots, ← hdo, hdw]
  have hadd := SU.slots_add hcl ho hi hm hd hdo
  have hclosed : ∀ j, adds S i j = true → j < ops.size ∧ ∀ k, ((masks ops.toList []).getD j 0).testBit k = true → adds S i k = true := by
    intro j hj
    simp only [adds, Bool.or_eq_true, beq_iff_eq] at hj
    rcases hj with rfl | hj
    · exact ⟨hil, fun k hk => by simp [adds, hm k hk]⟩
    · exact ⟨(hI.closed j hj).1, fun k hk => by simp [adds, (hI.closed j hj).2 k hk]⟩
  unfold wpOp
  simp only [ho]
  rw [hw]
  -- what is left to show behind the operation
  have done : ∀ {φ' : Phi} {v' : Value} {W' : World} {sk' : St}, φ.le φ' → (∀ j, j < s0.nx → ids[i]? ≠ some (some j) → φ' j = φ j) → s0.nx ≤ sk'.nx → ss[effIn T ops (adds S i)]? = some sk' → Sim B W0 φ' sk' W' → VR φ' d.v v' →
      Inv ops t s s0 ids ds ss T B W0 φ0 dfr (adds S i) (a.put o.dst v') W' := by
    intro φ' v' W' sk' hle' hsm hnx' hss hsim hv
    refine ⟨hclosed, ⟨φ', sk', hss, hsim, Phi.le_trans hle hle', fun j hj => ?_, hnx', fun j q hj hSj => ?_, ?_⟩, by rw [put_defers]; exact hI.defers⟩
    · rw [hsm j (by omega) (fun h => by have := hhigh i j h; omega)]
      exact hsame j hj
    · simp only [adds, Bool.or_eq_false_iff, beq_eq_false_iff_ne] at hSj
      rw [hsm q (SU.low j q hj) (fun h => hSj.1 (SU.apart j i q hj h))]
      exact hids j q hj hSj.2
    · rw [hadd]
      exact put_env (ht.mono hle') hv o
  have same : isEff T o = true → sk = si := by
    intro he
    have := (SU.eff_at hcl ho hi hm he).1
    rw [this, hsi] at hk
    exact (Option.some.inj hk).symm
  cases hran : d.ran with
  | false =>
    rw [if_neg (by simp)]
    apply hK
    rw [← hdv hran]
    cases he : isEff T o with
    | true =>
      have h1 := (SU.eff_at hcl ho hi hm he).2
      refine done (Phi.le_refl _) (fun _ _ _ => rfl) hnx (by rw [h1, hsk hran (by rw [hdo]; exact he), same he]) hs ?_
      rw [hdv hran]; exact .undef _
    | false =>
      refine done (Phi.le_refl _) (fun _ _ _ => rfl) hnx (by rw [SU.eff_not ho he]; exact hk) hs ?_
      rw [hdv hran]; exact .undef _
  | true =>
    rw [if_pos rfl]
    refine .inl ?_
    obtain ⟨sx, hr1, hr2⟩ := hsr hran
    rw [hdo] at hr1 hr2
    -- the operation's place among the turns of memory
    have hrange : isEff T o = false → isRead o = true → sameAt P T call d.t o d.id d.v [sk] = true := by
      intro he hrd
      have := SU.check i d hd hran (by rw [hdo]; exact he) (by rw [hdo]; exact hrd) (effIn T ops S) sk ?_ ?_ hk
      · rw [hdo] at this; exact this
      · exact List.countP_mono_left fun e _ h => hm e h
      · refine List.countP_mono_left fun e _ h => ?_
        simp only [Bool.not_eq_true']
        cases hb : ((masks ops.toList []).getD e 0).testBit i with
        | false => rfl
        | true => have := hcl e h i hb; rw [hi] at this; cases this
    cases hidc : d.id with
    | some q =>
      rw [hidc] at hid hr1
      have hal := (SU.alloc i o (some q) ho hid).1 rfl
      obtain ⟨e, hal⟩ := Option.isSome_iff_exists.1 hal
      have hop : o.op = .alloc e := by
        unfold isAlloc at hal
        split at hal
        · rename_i e' he'; obtain rfl := Option.some.inj hal; exact he'
        · cases hal
      have he : isEff T o = false := by unfold isEff; rw [hop]
      have hrd : isRead o = true := by unfold isRead; rw [hop]
      have hsa := hrange he hrd
      rw [hidc] at hsa
      simp only [sameAt, hal, Bool.and_true] at hsa
      simp only [runD1, Option.some.injEq, Prod.mk.injEq] at hr1
      cases hgq : sk.get q with
      | none => rw [hgq] at hsa; simp at hsa
      | some ob =>
        cases ob with
        | cells vs es =>
          cases es with
          | succ n => rw [hgq] at hsa; simp at hsa
          | zero =>
            cases hty : T.ty e with
            | none => rw [hgq, hty] at hsa; simp at hsa
            | some ti =>
              rw [hgq, hty] at hsa
              simp only at hsa
              have hvs : vs = ti.zero.cells.toList := eqL_eq (fun _ _ h => eq0_eq h) hsa
              obtain ⟨ty, hty'⟩ := hT.ty e ti hty
              have hfree := hids i q hid hi
              have hzz : VRs (ext φ q ⟨W.heap.size, 0, ti.zero.cells.size, 0⟩) ti.zero.cells.toList ti.zero.cells.toList := VRs.of_atoms hty'.atoms
              have hadopt : Sim B W0 (ext φ q ⟨W.heap.size, 0, ti.zero.cells.size, 0⟩) sk (W.alloc (.cells ti.zero.cells e)) := by
                refine hs.adopt ((Below.refl _ W).alloc (Nat.le_refl _) _) _ rfl (by show W.heap.size < (W.heap.push _).size; rw [Array.size_push]; omega) hfree (Nat.lt_of_lt_of_le (SU.low i q hid) hnx) ?_
                intro ob hob
                rw [hgq] at hob
                obtain rfl := Option.some.inj hob
                refine ⟨ti.zero.cells, e, (0, 0), ?_, rfl, rfl, .inl (Nat.le_refl _), fun h => absurd rfl h, by simp [hvs], ?_⟩
                · show (W.heap.push _)[W.heap.size]? = _
                  simp
                · intro k u hku
                  rw [hvs] at hku
                  obtain ⟨u', h1, h2⟩ := hzz.get k u hku
                  exact ⟨u', by simpa using h1, h2⟩
              have hrun : (execOp a.eval o).run P W = .ok (.value (.pointer (some ⟨W.heap.size, 0, none⟩))) (W.alloc (.cells ti.zero.cells e)) := by
                refine run_v (m := Instr.alloc e true (.tuple #[])) (by unfold execOp; rw [hop]) ?_
                simp [Instr.alloc, run_zero hty', newVar, newRow, newObj, Sem.run]
              refine wp_of_does (.inl hrun) (hK _ _ (done (ext_le hfree) (fun j _ hne => ?_) hnx (by rw [SU.eff_not ho he]; exact hk) hadopt ?_))
              · unfold ext
                rw [if_neg]
                intro e'
                subst e'
                exact hne hid
              · rw [← hr1.1]
                have := VR.ptr (φ := ext φ q ⟨W.heap.size, 0, ti.zero.cells.size, 0⟩) (o := 0) (ext_same _ _ _)
                simpa using this
        | _ => rw [hgq] at hsa; simp at hsa
    | none =>
      rw [hidc] at hid hr1
      have hal : isAlloc o = none := by
        cases hq : isAlloc o with
        | none => rfl
        | some e => have := (SU.alloc i o none ho hid).2 (by simp [hq]); cases this
      simp only [runD1] at hr1
      have hcg : ∀ s1, aop P T call d.t o s1 = aop P T call (slots t ds S ops.size) o s1 := fun s1 => aop_congr fun x hx => evalO_of_nth fun k hk => hslots k (operand_names (by rw [← hk]; exact hx))
      cases he : isEff T o with
      | true =>
        have h1 := (SU.eff_at hcl ho hi hm he).2
        have hsx := hr2 he
        rw [same he] at hs hnx
        rw [hcg] at hr1
        refine aop_wp hT hcall hs ht hr1 fun φ' v' W' k1 k2 k3 => hK _ _ (done k1.le (fun j hj _ => k1.same j (by omega)) (Nat.le_trans hnx k1.nx) (by rw [h1]; exact hsx) k2 k3)
      | false =>
        have hsk' : aop P T call d.t o sk = some (d.v, sk) := by
          cases hrd : isRead o with
          | false => exact ((flat_op he hrd).use hr1).2 sk
          | true =>
            have hsa := hrange he hrd
            rw [hidc] at hsa
            simp only [sameAt, Bool.and_true] at hsa
            cases hap : aop P T call d.t o sk with
            | none => rw [hap] at hsa; simp at hsa
            | some r =>
              obtain ⟨u, s2⟩ := r
              rw [hap] at hsa
              simp only at hsa
              have := stays_op (P := P) (T := T) (call := call) (t := d.t) he hal sk u s2 hap
              rw [this, eqv_eq 3 u d.v hsa]
        rw [hcg] at hsk'
        exact aop_wp hT hcall hs ht hsk' fun φ' v' W' k1 k2 k3 => hK _ _ (done k1.le (fun j hj _ => k1.same j (by omega)) (Nat.le_trans hnx k1.nx) (by rw [SU.eff_not ho he]; exact hk) k2 k3)
end orders
end Go.VE
