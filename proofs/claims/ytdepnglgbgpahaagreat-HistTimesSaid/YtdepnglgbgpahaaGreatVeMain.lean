/-
  Code; functions; the theorem.
-/
import Derived.Test.YtdepnglgbgpahaaGreatVeDraw4
import Derived.LoopN
import Derived.Scope
set_option linter.unusedSectionVars false
set_option linter.unusedVariables false
set_option linter.unusedSimpArgs false
namespace Go.VE
open Go Go.RowKit
variable {P : Program} {T : Tab} {call : CallR} {B : Nat} {W0 W : World} {φ : Phi} {s s' : St} {a : Act} {t t' : List Value} {o : Oper} {v : Value}

def exOf : Ex → Exit
  | .normal => .normal
  | .exit i => .exit i
  | .ret => .ret

def Post (B : Nat) (W0 : World) (φ : Phi) (s s' : St) (t' : List Value) (e : Ex) (dfr : List Deferred) : Exit → Act → World → Prop := fun e' a' W' =>
  e' = exOf e ∧ ∃ φ', Grow s s' φ φ' ∧ Sim B W0 φ' s' W' ∧ VRs φ' t' a'.tmps.toList ∧ a'.defers = dfr

def CodeOk (P : Program) (rec : CodeR) : Prop := ∀ c t s e t' s', rec c t s = some (e, t', s') →
  (∀ B W0 φ W (a : Act), Sim B W0 φ s W → VRs φ t a.tmps.toList → c.wp P (Post B W0 φ s s' t' e a.defers) a W) ∧
  ∀ b, c = .loop b → ∃ n, ∀ B W0 φ W (a : Act), Sim B W0 φ s W → VRs φ t a.tmps.toList → Code.rounds P b (Post B W0 φ s s' t' e a.defers) n a W

theorem Post.up {s1 : St} {φ1 : Phi} {e : Ex} {dfr dfr1 : List Deferred} (hg : Grow s s1 φ φ1) (hd : dfr1 = dfr) {e' : Exit} {a' : Act} {W' : World} (h : Post B W0 φ1 s1 s' t' e dfr1 e' a' W') : Post B W0 φ s s' t' e dfr e' a' W' := by
  obtain ⟨h1, φ', h2, h3, h4, h5⟩ := h
  exact ⟨h1, φ', hg.trans h2, h3, h4, by rw [h5, hd]⟩

/-- what a run that ends otherwise than normally hands on -/
theorem Post.other {e : Ex} {dfr : List Deferred} {e' : Exit} {a' : Act} {W' : World} {next : Act → World → Prop} {Q : Exit → Act → World → Prop} (hne : e ≠ .normal) (h : Post B W0 φ s s' t' e dfr e' a' W') (hq : Q e' a' W') : Exit.then next Q e' a' W' := by
  obtain ⟨h1, -⟩ := h
  subst h1
  cases e with
  | normal => exact absurd rfl hne
  | exit i => exact hq
  | ret => exact hq

theorem codeStep_ok (hT : TabOk P T) (hmix : P.follows .mixedOrders = true) {rec : CodeR} (hcall : CallOk P call) (hrec : CodeOk P rec) : CodeOk P (codeStep P T call rec) := by
  -- one thing behind another
  have seqq : ∀ {x : Code} {y : Code} {t : List Value} {s : St} {e : Ex} {t' : List Value} {s' : St}, cSeq rec y (rec x t s) = some (e, t', s') → ∀ {B : Nat} {W0 : World} {φ : Phi} {W : World} {a : Act}, Sim B W0 φ s W → VRs φ t a.tmps.toList →
      x.wp P (Exit.then (y.wp P (Post B W0 φ s s' t' e a.defers)) (Post B W0 φ s s' t' e a.defers)) a W := by
    intro x y t s e t' s' h B W0 φ W a hs ht
    cases hx : rec x t s with
    | none => simp [hx, cSeq] at h
    | some r =>
      obtain ⟨e1, t1, s1⟩ := r
      have hx1 := (hrec _ _ _ _ _ _ hx).1 B W0 φ W a hs ht
      rw [hx] at h
      cases e1 with
      | normal =>
        simp only [cSeq] at h
        refine wp_mono hx1 fun e' a' W' hp => ?_
        obtain ⟨h1, φ', h2, h3, h4, h5⟩ := hp
        subst h1
        exact wp_mono ((hrec _ _ _ _ _ _ h).1 B W0 φ' W' a' h3 h4) fun e2 a2 W2 hp2 => Post.up h2 h5 hp2
      | exit i =>
        simp only [cSeq, Option.some.injEq, Prod.mk.injEq] at h
        obtain ⟨rfl, rfl, rfl⟩ := h
        exact wp_mono hx1 fun e' a' W' hp => Post.other (by simp) hp hp
      | ret =>
        simp only [cSeq, Option.some.injEq, Prod.mk.injEq] at h
        obtain ⟨rfl, rfl, rfl⟩ := h
        exact wp_mono hx1 fun e' a' W' hp => Post.other (by simp) hp hp
  have rounds : ∀ {b : Code} {t : List Value} {s : St} {e : Ex} {t' : List Value} {s' : St}, cSeq rec (.loop b) (rec b t s) = some (e, t', s') → ∃ n, ∀ B W0 φ W (a : Act), Sim B W0 φ s W → VRs φ t a.tmps.toList →
      Code.rounds P b (Post B W0 φ s s' t' e a.defers) n a W := by
    intro b t s e t' s' h
    cases hx : rec b t s with
    | none => simp [hx, cSeq] at h
    | some r =>
      obtain ⟨e1, t1, s1⟩ := r
      have hx1 := (hrec _ _ _ _ _ _ hx).1
      rw [hx] at h
      cases e1 with
      | normal =>
        simp only [cSeq] at h
        obtain ⟨n, hn⟩ := (hrec _ _ _ _ _ _ h).2 b rfl
        refine ⟨n + 1, fun B W0 φ W a hs ht => ?_⟩
        rw [rounds_succ]
        refine wp_mono (hx1 B W0 φ W a hs ht) fun e' a' W' hp => ?_
        obtain ⟨h1, φ', h2, h3, h4, h5⟩ := hp
        subst h1
        have := hn B W0 φ' W' a' h3 h4
        have mono : ∀ n (Q Q' : Exit → Act → World → Prop), (∀ e a w, Q e a w → Q' e a w) → ∀ a w, Code.rounds P b Q n a w → Code.rounds P b Q' n a w := by
          intro n Q Q' hqq
          induction n with
          | zero => intro a w h; exact h
          | succ n ih =>
            intro a w h
            rw [rounds_succ] at h ⊢
            refine wp_mono h fun e a w hq => ?_
            cases e with
            | normal => exact ih a w hq
            | _ => exact hqq _ _ _ hq
        exact mono n _ _ (fun e a w hp2 => Post.up h2 h5 hp2) a' W' this
      | exit i =>
        simp only [cSeq, Option.some.injEq, Prod.mk.injEq] at h
        obtain ⟨rfl, rfl, rfl⟩ := h
        refine ⟨1, fun B W0 φ W a hs ht => ?_⟩
        rw [rounds_succ]
        exact wp_mono (hx1 B W0 φ W a hs ht) fun e' a' W' hp => Post.other (by simp) hp hp
      | ret =>
        simp only [cSeq, Option.some.injEq, Prod.mk.injEq] at h
        obtain ⟨rfl, rfl, rfl⟩ := h
        refine ⟨1, fun B W0 φ W a hs ht => ?_⟩
        rw [rounds_succ]
        exact wp_mono (hx1 B W0 φ W a hs ht) fun e' a' W' hp => Post.other (by simp) hp hp
  intro c t s e t' s' h
  refine ⟨?_, ?_⟩
  · intro B W0 φ W a hs ht
    have here : e = .normal → t' = t → s' = s → Post B W0 φ s s' t' e a.defers .normal a W := by
      rintro rfl rfl rfl
      exact ⟨rfl, φ, Grow.refl _ _, hs, ht, rfl⟩
    unfold codeStep at h
    split at h
    · simp only [Option.some.injEq, Prod.mk.injEq] at h
      exact wp_skip (here h.1.symm h.2.1.symm h.2.2.symm)
    · simp only [Option.some.injEq, Prod.mk.injEq] at h
      exact wp_label (here h.1.symm h.2.1.symm h.2.2.symm)
    · exact wp_seq (seqq h hs ht)
    · rename_i cx x y
      unfold cCond at h
      split at h
      · rename_i hc
        have hR := env_of ht _ _ hc
        generalize hq : a.eval cx = q at hR
        cases hR
        exact wp_cond_true hq ((hrec _ _ _ _ _ _ h).1 B W0 φ W a hs ht)
      · rename_i hc
        have hR := env_of ht _ _ hc
        generalize hq : a.eval cx = q at hR
        cases hR
        exact wp_cond_false hq ((hrec _ _ _ _ _ _ h).1 B W0 φ W a hs ht)
      · cases h
    · rename_i id b
      cases hx : rec b t s with
      | none => simp [hx, cBlock] at h
      | some r =>
        obtain ⟨e1, t1, s1⟩ := r
        have hx1 := (hrec _ _ _ _ _ _ hx).1 B W0 φ W a hs ht
        rw [hx] at h
        refine wp_block (wp_mono hx1 fun e' a' W' hp => ?_)
        obtain ⟨h1, hrest⟩ := hp
        subst h1
        cases e1 with
        | normal =>
          simp only [cBlock, Option.some.injEq, Prod.mk.injEq] at h
          obtain ⟨rfl, rfl, rfl⟩ := h
          exact ⟨rfl, hrest⟩
        | ret =>
          simp only [cBlock, Option.some.injEq, Prod.mk.injEq] at h
          obtain ⟨rfl, rfl, rfl⟩ := h
          exact ⟨rfl, hrest⟩
        | exit i =>
          simp only [cBlock] at h
          simp only [exOf, Exit.inBlock]
          split at h
          · rename_i hi
            simp only [Option.some.injEq, Prod.mk.injEq] at h
            obtain ⟨rfl, rfl, rfl⟩ := h
            rw [if_pos hi]
            exact ⟨rfl, hrest⟩
          · rename_i hi
            simp only [Option.some.injEq, Prod.mk.injEq] at h
            obtain ⟨rfl, rfl, rfl⟩ := h
            rw [if_neg hi]
            exact ⟨rfl, hrest⟩
    · obtain ⟨n, hn⟩ := rounds h
      exact wp_loop_rounds n (hn B W0 φ W a hs ht)
    · rename_i b
      refine wp_scope_straight (wp_mono ((hrec _ _ _ _ _ _ h).1 B W0 φ W a hs ht) fun e' a' W' hp => ?_)
      obtain ⟨h1, hrest⟩ := hp
      subst h1
      cases e <;> exact ⟨rfl, hrest⟩
    · simp only [Option.some.injEq, Prod.mk.injEq] at h
      obtain ⟨rfl, rfl, rfl⟩ := h
      exact wp_exit ⟨rfl, φ, Grow.refl _ _, hs, ht, rfl⟩
    · simp only [Option.some.injEq, Prod.mk.injEq] at h
      obtain ⟨rfl, rfl, rfl⟩ := h
      exact wp_ret ⟨rfl, φ, Grow.refl _ _, hs, ht, rfl⟩
    · rename_i id ops
      unfold cRegion at h
      split at h
      · rename_i t1 s1 hr
        simp only [Option.some.injEq, Prod.mk.injEq] at h
        obtain ⟨rfl, rfl, rfl⟩ := h
        have hs1 : Sim B W0 φ s { W with drawn := W.drawn + 1 } := hs.of_heap (Below.drewB W) rfl
        exact wp_region_any hmix (draw_wp hT hcall hs1 ht hr fun φ' a' W' k1 k2 k3 k4 => ⟨rfl, φ', k1, k2, k3, k4⟩)
      · cases h
    · rename_i id ops
      unfold cRegion at h
      split at h
      · rename_i t1 s1 hr
        simp only [Option.some.injEq, Prod.mk.injEq] at h
        obtain ⟨rfl, rfl, rfl⟩ := h
        exact wp_region_list (runOps_wp hT hcall _ hs ht hr fun φ' a' W' k1 k2 k3 k4 => ⟨rfl, φ', k1, k2, k3, k4⟩)
      · cases h
    · cases h
  · rintro b rfl
    exact rounds h

def resultOf (tmps : Array Value) : ResultVar → Sem Value
  | .tmp t => pure (tmps.getD t undef)
  | .cell x t => do loadVar t (← asAddr (tmps.getD x undef))
theorem results_eq (fn : Func) (tmps : Array Value) : results fn tmps = (do
    let vs ← fn.results.mapM (resultOf tmps)
    pure (if h : vs.size = 1 then vs[0] else .tuple vs)) := rfl

theorem resOf_sound (hT : TabOk P T) (hs : Sim B W0 φ s W) (ht : VRs φ t a.tmps.toList) : ∀ (l : List ResultVar) (r : List Value), resOf T t s l = some r →
    ∃ r', VRs φ r r' ∧ (l.mapM (resultOf a.tmps)).run P W = .ok r' W
  | [], r, h => by
    simp only [resOf, Option.some.injEq] at h
    subst h
    exact ⟨[], .nil, rfl⟩
  | .tmp k :: l, r, h => by
    simp only [resOf] at h
    cases hl : resOf T t s l with
    | none => simp [hl] at h
    | some q =>
      simp only [hl, Option.some.injEq] at h
      subst h
      obtain ⟨r', h1, h2⟩ := resOf_sound hT hs ht l q hl
      have hv := env_of ht (.tmp k) _ rfl
      refine ⟨a.tmps.getD k undef :: r', .cons (by rw [nth_eq] at hv ⊢; exact hv) h1, ?_⟩
      rw [List.mapM_cons]
      simp only [resultOf, Sem.run_bind, Sem.run_pure, Result.andThen_ok, h2]
  | .cell x ty :: l, r, h => by
    simp only [resOf] at h
    split at h
    · rename_i ad ti q hx hty hl
      split at h
      · rename_i u hr
        obtain rfl := Option.some.inj h
        obtain ⟨r', h1, h2⟩ := resOf_sound hT hs ht l q hl
        obtain ⟨i, hi⟩ := hT.ty _ _ hty
        have hv := env_of ht (.tmp x) _ rfl
        rw [nth_eq, hx] at hv
        have hq : a.eval (.tmp x) = a.tmps.getD x undef := rfl
        rw [hq] at hv
        generalize hqq : a.tmps.getD x undef = y at hv
        cases hv with
        | @ptr b off L hb =>
          obtain ⟨v', k1, k2⟩ := run_loadT hT hs (env_of ht) hi hb hr
          refine ⟨v' :: r', .cons k1 h1, ?_⟩
          rw [List.mapM_cons]
          have ha : (asAddr (.pointer (some ⟨L.blk, L.sh + off, none⟩))).run P W = .ok ⟨L.blk, L.sh + off, none⟩ W := rfl
          simp only [resultOf, Sem.run_bind, hqq, ha, Sem.run_pure, Result.andThen_ok, k2, h2]
      · cases h
    · cases h

theorem callStep_ok (hT : TabOk P T) {rec : CodeR} (hrec : CodeOk P rec) : CallOk P (callStep T rec) := by
  intro f args s v s' h B W0 φ W args' hs hargs
  unfold callStep at h
  cases hfi : T.fn f with
  | none => simp [hfi] at h
  | some fi =>
    obtain ⟨fn, f1, f2, f3, f4, f5⟩ := hT.fn _ _ hfi
    simp only [hfi] at h
    have hstart : VRs φ (app args (List.replicate (fi.ntmps - args.length) undef)) (args'.toArray ++ Array.replicate (fn.ntmps - args'.toArray.size) undef).toList := by
      rw [app_eq]
      simp only [Array.toList_append, Array.toList_replicate, List.size_toArray]
      rw [f3, ← hargs.length]
      exact hargs.append (VRs.replicate (VR.undef φ) _)
    have fin : ∀ {e : Ex} {t1 : List Value} {s1 : St}, (e = .normal ∨ e = .ret) → rec fi.code (app args (List.replicate (fi.ntmps - args.length) undef)) s = some (e, t1, s1) →
        (match resOf T t1 s1 fi.results with
          | some [v] => ok v s1
          | some vs => ok (.tuple vs.toArray) s1
          | none => none) = some (v, s') →
        Calls P f args'.toArray W fun e W' => ∃ φ' v', Grow s s' φ φ' ∧ Sim B W0 φ' s' W' ∧ e = .returned v' ∧ VR φ' v v' := by
      intro e t1 s1 he hc hr
      have hcode := (hrec _ _ _ _ _ _ hc).1 B W0 φ W { tmps := args'.toArray ++ Array.replicate (fn.ntmps - args'.toArray.size) undef, defers := [] } hs hstart
      refine calls_of_wp f1 f2 (wp_mono hcode fun e' a' W' hp => ?_)
      obtain ⟨h1, φ', h2, h3, h4, h5⟩ := hp
      subst h1
      cases hres : resOf T t1 s1 fi.results with
      | none => simp [hres] at hr
      | some vs =>
        obtain ⟨vs', k1, k2⟩ := resOf_sound hT h3 h4 _ _ hres
        have hrun : ∀ {w : Value}, (if h : vs'.toArray.size = 1 then vs'.toArray[0] else .tuple vs'.toArray) = w → (results fn a'.tmps).run P W' = .ok w W' := by
          intro w hw
          rw [results_eq, Array.mapM_eq_mapM_toList, f4]
          simp only [Sem.run_bind, Sem.run_map, k2, Result.andThen_ok, Sem.run_pure]
          rw [← hw]
        have out : ∃ w, (results fn a'.tmps).run P W' = .ok w W' ∧ s' = s1 ∧ VR φ' v w := by
          rw [hres] at hr
          cases k1 with
          | nil =>
            simp only [ok, Option.some.injEq, Prod.mk.injEq] at hr
            exact ⟨.tuple #[], hrun rfl, hr.2.symm, by rw [← hr.1]; exact VR.tuple .nil⟩
          | cons kv kr =>
            cases kr with
            | nil =>
              simp only [ok, Option.some.injEq, Prod.mk.injEq] at hr
              exact ⟨_, hrun rfl, hr.2.symm, by rw [← hr.1]; exact kv⟩
            | cons kv2 kr2 =>
              simp only [ok, Option.some.injEq, Prod.mk.injEq] at hr
              refine ⟨_, hrun (by rw [dif_neg (by simp)]), hr.2.symm, ?_⟩
              rw [← hr.1]
              exact VR.tuple (.cons kv (.cons kv2 kr2))
        obtain ⟨w, q1, rfl, q3⟩ := out
        rcases he with rfl | rfl
        · exact ⟨h5, w, q1, φ', w, h2, h3, rfl, q3⟩
        · exact ⟨h5, w, q1, φ', w, h2, h3, rfl, q3⟩
    split at h
    · rename_i t1 s1 hc
      exact fin (.inl rfl) hc h
    · rename_i t1 s1 hc
      exact fin (.inr rfl) hc h
    · cases h

theorem ev_ok (hT : TabOk P T) (hmix : P.follows .mixedOrders = true) : ∀ n, CallOk P (ev P T n).1 ∧ CodeOk P (ev P T n).2
  | 0 => ⟨fun f args s v s' h => (by cases (show (none : Res) = some (v, s') from h)), fun c t s e t' s' h => (by cases (show (none : Option (Ex × List Value × St)) = some (e, t', s') from h))⟩
  | n + 1 => by
    obtain ⟨h1, h2⟩ := ev_ok hT hmix n
    exact ⟨callStep_ok hT h2, codeStep_ok hT hmix h1 h2⟩

/-- WHAT THE INTERPRETER COMPUTES THE PROGRAM DOES, in whatever memory, whatever the tape. -/
theorem calls_of_ev (hT : TabOk P T) (hmix : P.follows .mixedOrders = true) {n f : Nat} {args : List Value} (hargs : args.all atom = true) {v : Value} {s' : St} (h : (ev P T n).1 f args ⟨.nil, 0⟩ = some (v, s')) (hv : atom v = true) (W : World) :
    Calls P f args.toArray W fun e W' => e = .returned v ∧ Below W.heap.size W W' := by
  have hs : Sim W.heap.size W (fun _ => none) ⟨.nil, 0⟩ W :=
    ⟨Below.refl _ _, Nat.le_refl _, fun i L o h => (by cases h), fun i j L L' h => (by cases h), fun i L h => (by cases h)⟩
  refine ((ev_ok hT hmix n).1 f args _ v s' h W.heap.size W (fun _ => none) W args hs (VRs.of_atoms hargs)).mono ?_
  rintro e W' ⟨φ', v', h1, h2, rfl, h3⟩
  rw [VR.eq_of_atom hv h3]
  exact ⟨rfl, h2.below⟩
end Go.VE
