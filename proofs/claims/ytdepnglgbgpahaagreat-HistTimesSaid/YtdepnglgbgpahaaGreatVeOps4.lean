/-
  More operations: slices, maps, rows that are made and grow.
-/
import Derived.Test.YtdepnglgbgpahaaGreatVeOps3
import Derived.Laws.AppendOwn
set_option linter.unusedSectionVars false
set_option linter.unusedVariables false
set_option linter.unusedSimpArgs false
namespace Go.VE
open Go Go.RowKit
variable {P : Program} {T : Tab} {B : Nat} {W0 W : World} {φ : Phi} {s s' : St} {a : Act} {t : List Value} {o : Oper} {v : Value}

/-! ## Cutting -/

theorem asN_of {x y : Value} {k : Nat} (h : asN x = some k) (hR : VR φ x y) : ∃ j n, y = .int j n ∧ 0 ≤ n ∧ n.toNat = k := by
  cases x <;> simp only [asN, reduceCtorEq] at h
  rename_i j n
  cases hR
  split at h
  · exact ⟨j, n, rfl, by assumption, Option.some.inj h⟩
  · cases h

inductive OptR (φ : Phi) : Option Value → Option Value → Prop where
  | none : OptR φ none none
  | some {v w : Value} (h : VR φ v w) : OptR φ (some v) (some w)

theorem evalOpt_sound {ρ : Operand → Value} (he : Env φ t ρ) {x : Option Operand} {r : Option Value} (h : evalOpt t x = some r) : OptR φ r (x.map ρ) := by
  cases x with
  | none => simp only [evalOpt, Option.some.injEq] at h; subst h; exact .none
  | some x =>
    simp only [evalOpt] at h
    cases hx : evalO t x with
    | none => simp [hx] at h
    | some v => simp only [hx, Option.some.injEq] at h; subst h; exact .some (he x v hx)

theorem run_bound {x : Value} {k y : Nat} {c : BoundsCode} (h : ∃ j n, x = .int j n ∧ 0 ≤ n ∧ n.toNat = k) (hk : k ≤ y) : (Instr.sliceBound x y c).run P W = .ok k W := by
  obtain ⟨j, n, rfl, h0, rfl⟩ := h
  have : 0 ≤ n ∧ n ≤ (y : Int) := ⟨h0, by omega⟩
  simp [Instr.sliceBound, asIntOf, this]

/-- the bounds of a cut -/
theorem run_bounds {isS : Bool} {n c l h : Nat} {lo hi lo' hi' : Option Value} (hlo : OptR φ lo lo') (hhi : OptR φ hi hi') (e1 : natOr 0 lo = some l) (e2 : natOr n hi = some h) (h1 : l ≤ h) (h2 : h ≤ c) :
    (Instr.sliceBounds isS n c lo' hi' none).run P W = .ok (l, h, c) W := by
  have hh : ∀ m : String, (match hi', (none : Option Value) with
    | some v, some _ => Instr.sliceBound v c .slice3B
    | some v, none => Instr.sliceBound v c (if isS then .sliceAcap else .sliceAlen)
    | none, none => pure n
    | none, some _ => stuck m : Sem Nat).run P W = .ok h W := by
    intro m
    cases hhi with
    | none => simp only [natOr, Option.some.injEq] at e2; subst e2; rfl
    | some hv => exact run_bound (asN_of (by simpa [natOr] using e2) hv) h2
  have hl : (match lo' with
    | some v => Instr.sliceBound v h .sliceB
    | none => pure 0 : Sem Nat).run P W = .ok l W := by
    cases hlo with
    | none => simp only [natOr, Option.some.injEq] at e1; subst e1; rfl
    | some hv => exact run_bound (asN_of (by simpa [natOr] using e1) hv) h1
  unfold Instr.sliceBounds
  simp only [Sem.run_bind, Sem.run_pure, Result.andThen_ok]
  cases hhi <;> cases hlo <;> simp_all [Sem.run_bind]

theorem run_bounds3 {n c l h m : Nat} {lo hi lo' hi' : Option Value} {x y : Value} (hlo : OptR φ lo lo') (hhi : OptR φ hi hi') (hx : VR φ x y) (hsome : hi.isSome = true) (e1 : natOr 0 lo = some l) (e2 : natOr n hi = some h) (e3 : asN x = some m)
    (h1 : l ≤ h) (h2 : h ≤ m) (h3 : m ≤ c) :
    (Instr.sliceBounds true n c lo' hi' (some y)).run P W = .ok (l, h, m) W := by
  have hm : (Instr.sliceBound y c .slice3Acap).run P W = .ok m W := run_bound (asN_of e3 hx) h3
  cases hhi with
  | none => cases hsome
  | some hv =>
    have hh : (Instr.sliceBound _ m .slice3B).run P W = .ok h W := run_bound (asN_of (by simpa [natOr] using e2) hv) h2
    unfold Instr.sliceBounds
    cases hlo with
    | none =>
      simp only [natOr, Option.some.injEq] at e1
      subst e1
      simp [Sem.run_bind, hm, hh]
    | some hv' =>
      have hl : (Instr.sliceBound _ h .slice3C).run P W = .ok l W := run_bound (asN_of (by simpa [natOr] using e1) hv') h1
      simp [Sem.run_bind, hm, hh, hl]

section ops
variable (hT : TabOk P T) (hs : Sim B W0 φ s W) {ρ : Operand → Value} (he : Env φ t ρ)
include hs he hT

theorem rowOk_spec {b l size : Nat} {L : Loc} (hb : φ b = some L) (h : rowOk s b l size = true) : l = 0 ∨ L.es = 0 ∨ L.es = size := by
  unfold rowOk at h
  cases l with
  | zero => exact .inl rfl
  | succ l =>
    simp only at h
    cases hg : s.get b with
    | none => simp [hg] at h
    | some x =>
      cases x with
      | cells vs es =>
        simp only [hg, Bool.or_eq_true, beq_iff_eq] at h
        obtain ⟨c, e, fr, _, _, h3, _⟩ := hs.objs b L _ hb hg
        rw [h3]
        exact .inr h
      | _ => simp [hg] at h

/-- a cut of a slice, as the two sides have it -/
theorem cut_sound {size : Nat} {ad : Addr} {n c : Nat} {y : Value} (hR : VR φ (.slice (some ad) n c) y) {l h : Nat} {m : Option Nat} (hrow : rowOk s ad.block l size = true) (hc : cutSlice ad n c size l h m = some v) :
    ∃ ad' c', y = .slice (some ad') n c' ∧ l ≤ h ∧ h ≤ n ∧ n ≤ c' ∧ (∀ k, m = some k → h ≤ k ∧ k ≤ c') ∧
      ∀ m', m' = m.getD c' → VR φ v (.slice (if m' = l then some ad' else (some ad').map (·.add (l * size))) (h - l) (m' - l)) := by
  have hex : ∀ k, exact k % 2 = 0 → k = exact k / 2 := by intro k _; unfold exact; omega
  have hcut : ∀ {c' : Nat}, (c % 2 = 0 → c' = c / 2) → capCut c l % 2 = 0 → c' - l = capCut c l / 2 := by
    intro c' h4 hev
    unfold capCut at hev ⊢
    split
    · rename_i e; rw [h4 e]; exact hex _ (by unfold exact; omega)
    · rename_i e; rw [if_neg e] at hev; cases hev
  have hlow : ∀ {c' : Nat}, (c % 2 = 0 → c' = c / 2) → n ≤ c' → capLow c n ≤ c' := by
    intro c' h4 h1
    unfold capLow
    split
    · rename_i e; have := h4 e; omega
    · exact h1
  cases hR with
  | @slice b off _ _ c' L hb h1 h2 h3 h4 =>
    have hrow' := rowOk_spec hT hs he hb hrow
    have hcap : ∀ k, k ≤ c' → l ≤ k → L.es ≠ 0 → L.sh + (off + l * size) + (k - l) * L.es ≤ L.cap := by
      intro k hk hlk hes
      have := h3 hes
      rcases hrow' with rfl | h0 | h0
      · have : (k - 0) * L.es ≤ c' * L.es := Nat.mul_le_mul_right _ (by omega)
        omega
      · exact absurd h0 hes
      · rw [← h0]
        have e : l * L.es + (k - l) * L.es = k * L.es := by rw [← Nat.add_mul]; congr 1; omega
        have : k * L.es ≤ c' * L.es := Nat.mul_le_mul_right _ hk
        omega
    cases m with
    | none =>
      unfold cutSlice at hc
      try simp only at hc
      by_cases hlh : l ≤ h ∧ h ≤ n
      · rw [if_pos hlh] at hc
        obtain rfl := Option.some.inj hc
        refine ⟨_, c', rfl, hlh.1, hlh.2, h1, (by intro k hk; cases hk), ?_⟩
        intro m' hm'
        rw [show m' = c' from hm']
        clear hm'
        by_cases e : c' = l
        · rw [if_pos e, show c' - l = 0 by omega, show h - l = 0 by omega]
          refine .slice0 fun hev => ?_
          have := hcut h4 hev
          omega
        · rw [if_neg e]
          simp only [Option.map_some, add_lit]
          rw [Nat.add_assoc]
          exact .slice hb (by omega) (by omega) (hcap c' (Nat.le_refl _) (by omega)) (hcut h4)
      · rw [if_neg hlh] at hc; cases hc
    | some k =>
      unfold cutSlice at hc
      try simp only at hc
      by_cases hlh : l ≤ h ∧ h ≤ k ∧ k ≤ capLow c n ∧ h ≤ n
      · rw [if_pos hlh] at hc
        obtain rfl := Option.some.inj hc
        have hk : k ≤ c' := by have := hlow h4 h1; omega
        refine ⟨_, c', rfl, hlh.1, hlh.2.2.2, h1, (by intro k' hk'; obtain rfl := Option.some.inj hk'; exact ⟨hlh.2.1, hk⟩), ?_⟩
        intro m' hm'
        rw [show m' = k from hm']
        clear hm'
        by_cases e : k = l
        · rw [if_pos e, show k - l = 0 by omega, show h - l = 0 by omega]
          exact .slice0 (by intro _; unfold exact; omega)
        · rw [if_neg e]
          simp only [Option.map_some, add_lit]
          rw [Nat.add_assoc]
          exact .slice hb (by omega) (by omega) (hcap k hk (by omega)) (hex _)
      · rw [if_neg hlh] at hc; cases hc
  | @slice0 _ a' _ he0 =>
    cases m with
    | none =>
      unfold cutSlice at hc
      try simp only at hc
      by_cases hlh : l ≤ h ∧ h ≤ 0
      · rw [if_pos hlh] at hc
        obtain rfl := Option.some.inj hc
        refine ⟨a', 0, rfl, hlh.1, hlh.2, Nat.le_refl _, (by intro k hk; cases hk), ?_⟩
        intro m' hm'
        rw [show m' = 0 from hm']
        clear hm'
        obtain rfl : l = 0 := by omega
        obtain rfl : h = 0 := by omega
        refine .slice0 fun hev => ?_
        have := hcut (c' := 0) (fun e => (he0 e).symm) hev
        omega
      · rw [if_neg hlh] at hc; cases hc
    | some k =>
      unfold cutSlice at hc
      try simp only at hc
      by_cases hlh : l ≤ h ∧ h ≤ k ∧ k ≤ capLow c 0 ∧ h ≤ 0
      · rw [if_pos hlh] at hc
        obtain rfl := Option.some.inj hc
        have hk : k = 0 := by have := hlow (c' := 0) (fun e => (he0 e).symm) (Nat.le_refl _); omega
        subst hk
        refine ⟨a', 0, rfl, hlh.1, hlh.2.2.2, Nat.le_refl _, (by intro k' hk'; obtain rfl := Option.some.inj hk'; exact ⟨by omega, Nat.le_refl _⟩), ?_⟩
        intro m' hm'
        rw [show m' = 0 from hm']
        clear hm'
        obtain rfl : l = 0 := by omega
        obtain rfl : h = 0 := by omega
        exact .slice0 (by intro _; unfold exact; omega)
      · rw [if_neg hlh] at hc; cases hc

theorem sliceOp_sound {ty : TypeId} {x y : Value} (hxy : VR φ x y) {lo hi mx lo' hi' mx' : Option Value} (hlo : OptR φ lo lo') (hhi : OptR φ hi hi') (hmx : OptR φ mx mx') (h : sliceOp T s ty x lo hi mx = some v) :
    ∃ v', VR φ v v' ∧ (Instr.sliceAt ty y lo' hi' mx').run P W = .ok v' W := by
  unfold sliceOp at h
  cases hty : T.ty ty with
  | none => simp [hty] at h
  | some ti =>
    obtain ⟨i, hi'⟩ := hT.ty _ _ hty
    simp only [hty] at h
    split at h
    · rename_i e ad n c hd
      cases hte : T.ty e with
      | none => simp [hte] at h
      | some te =>
        obtain ⟨j, hj⟩ := hT.ty _ _ hte
        simp only [hte] at h
        unfold sliceSlice at h
        cases e1 : natOr 0 lo with
        | none => simp [e1] at h
        | some l =>
          cases e2 : natOr n hi with
          | none => simp [e1, e2] at h
          | some hh =>
            simp only [e1, e2] at h
            split at h
            · rename_i hrow
              cases hmx with
              | none =>
                obtain ⟨ad', c', rfl, k1, k2, k3, k4, k5⟩ := cut_sound hT hs he hxy hrow h
                refine ⟨_, k5 c' rfl, ?_⟩
                have hb := run_bounds (P := P) (W := W) (isS := true) (c := c') hlo hhi e1 e2 k1 (by omega)
                simp only [Instr.sliceAt, Sem.run_bind, run_underlying hi'.under, Result.andThen_ok, hd, Instr.slice, hb, run_sizeOf hj, Sem.run_pure]
              | @some xm ym hxm =>
                simp only at h
                cases e3 : asN xm with
                | none => simp [e3] at h
                | some m =>
                  cases hhi with
                  | none => simp [e3] at h
                  | some hv =>
                    simp only [e3] at h
                    obtain ⟨ad', c', rfl, k1, k2, k3, k4, k5⟩ := cut_sound hT hs he hxy hrow h
                    refine ⟨_, k5 m rfl, ?_⟩
                    obtain ⟨q1, q2⟩ := k4 m rfl
                    have hb := run_bounds3 (P := P) (W := W) (c := c') hlo (.some hv) hxm rfl e1 e2 e3 k1 q1 q2
                    simp only [Instr.sliceAt, Sem.run_bind, run_underlying hi'.under, Result.andThen_ok, hd, Instr.slice, hb, run_sizeOf hj, Sem.run_pure]
            · cases h
    · rename_i e hd
      cases hxy with
      | sliceNil =>
        cases hte : T.ty e with
        | none => simp [hte] at h
        | some te =>
          obtain ⟨j, hj⟩ := hT.ty _ _ hte
          simp only [hte] at h
          unfold sliceNone at h
          split at h
          · rename_i e1 e2
            cases hmx with
            | none =>
              simp only [Option.some.injEq] at h
              subst h
              refine ⟨_, .sliceNil, ?_⟩
              have hb := run_bounds (P := P) (W := W) (isS := true) (c := 0) hlo hhi e1 e2 (Nat.le_refl _) (Nat.le_refl _)
              simp [Instr.sliceAt, Sem.run_bind, run_underlying hi'.under, hd, Instr.slice, hb, run_sizeOf hj]
            | @some xm ym hxm =>
              simp only at h
              cases hhi with
              | none => split at h <;> first | (rename_i hq; cases hq; done) | (cases h; done)
              | some hv =>
                split at h
                · rename_i e3 _
                  obtain rfl := Option.some.inj h
                  refine ⟨_, .sliceNil, ?_⟩
                  have hb := run_bounds3 (P := P) (W := W) (c := 0) hlo (.some hv) hxm rfl e1 e2 e3 (Nat.le_refl _) (Nat.le_refl _) (Nat.le_refl _)
                  simp [Instr.sliceAt, Sem.run_bind, run_underlying hi'.under, hd, Instr.slice, hb, run_sizeOf hj]
                · cases h
          · cases h
    · rename_i n e ad hd
      cases hte : T.ty e with
      | none => simp [hte] at h
      | some te =>
        obtain ⟨j, hj⟩ := hT.ty _ _ hte
        cases hmx with
        | some hv => simp [hte] at h
        | none =>
          simp only [hte] at h
          cases hxy with
          | @ptr b off L hb =>
            unfold sliceArr at h
            split at h
            · rename_i l hh vs e1 e2 hg
              split at h
              · rename_i hc
                obtain rfl := Option.some.inj h
                obtain ⟨c, e', fr, _, _, h3, _⟩ := hs.objs b L _ hb hg
                have hb' := run_bounds (P := P) (W := W) (isS := false) (c := n) hlo hhi e1 e2 hc.1 hc.2.1
                refine ⟨.slice (some (if n = l then ⟨L.blk, L.sh + off, none⟩ else (⟨L.blk, L.sh + off, none⟩ : Addr).add (l * te.size))) (hh - l) (n - l), ?_, ?_⟩
                · by_cases e : n = l
                  · rw [if_pos e, if_pos e, show n - l = 0 by omega, show hh - l = 0 by omega]
                    exact .slice0 (by intro _; unfold exact; omega)
                  · rw [if_neg e, if_neg e, add_lit, Nat.add_assoc]
                    exact .slice hb (by omega) (by unfold maxLen; omega) (fun h => absurd h3 h) (by intro _; unfold exact; omega)
                · simp only [Instr.sliceAt, Sem.run_bind, run_underlying hi'.under, Result.andThen_ok, hd, Instr.sureAddr, Sem.run_pure, hb', run_sizeOf hj]
              · cases h
            · cases h
    · cases h

theorem sound_slice {ty : TypeId} {x : Operand} {lo hi mx : Option Operand} (ho : o.op = .slice ty x lo hi mx) (h : opSlice P T t ty x lo hi mx s = some (v, s')) : OpR P B W0 φ s s' v ρ o W := by
  unfold opSlice at h
  cases hx : evalO t x with
  | none => simp [hx] at h
  | some p =>
    cases h1 : evalOpt t lo with
    | none => simp [hx, h1] at h
    | some l =>
      cases h2 : evalOpt t hi with
      | none => simp [hx, h1, h2] at h
      | some hh =>
        cases h3 : evalOpt t mx with
        | none => simp [hx, h1, h2, h3] at h
        | some m =>
          simp only [hx, h1, h2, h3] at h
          have hp := he x p hx
          have r1 := evalOpt_sound he h1
          have r2 := evalOpt_sound he h2
          have r3 := evalOpt_sound he h3
          have plainEq : ∀ {q q' : Option Value}, plainO q = true → OptR φ q q' → q' = q := by
            intro q q' hq hr
            cases hr with
            | none => rfl
            | some hv => rw [VR.eq_of_plain hq hv]
          have fin : ∀ {v' : Value}, VR φ v v' → s' = s → (Instr.sliceAt ty (ρ x) (lo.map ρ) (hi.map ρ) (mx.map ρ)).run P W = .ok v' W → OpR P B W0 φ s s' v ρ o W := by
            rintro v' hv rfl hr
            exact .same hs hv (run_v (m := Instr.sliceAt ty (ρ x) (lo.map ρ) (hi.map ρ) (mx.map ρ)) (by unfold execOp; rw [ho]) hr)
          split at h
          · rename_i b
            split at h
            · rename_i hpl
              simp only [Bool.and_eq_true] at hpl
              cases hr : pureV P (Instr.sliceAt ty (.string b) l hh m) with
              | none => simp [hr] at h
              | some u =>
                simp only [hr, ok, Option.some.injEq, Prod.mk.injEq] at h
                obtain ⟨rfl, rfl⟩ := h
                obtain ⟨q1, q2⟩ := pureV_run hr
                refine fin (VR.of_plain q1) rfl ?_
                rw [VR.eq_of_atom (by rfl) hp, plainEq hpl.1.1 r1, plainEq hpl.1.2 r2, plainEq hpl.2 r3]
                exact q2 W
            · cases h
          · cases hr : sliceOp T s ty p l hh m with
            | none => simp [hr] at h
            | some u =>
              simp only [hr, ok, Option.some.injEq, Prod.mk.injEq] at h
              obtain ⟨rfl, rfl⟩ := h
              obtain ⟨v', q1, q2⟩ := sliceOp_sound hT hs he hp r1 r2 r3 hr
              exact fin q1 rfl q2
end ops
end Go.VE
