/-
  Rows: made, measured, grown.
-/
import Derived.Test.YtdepnglgbgpahaaGreatVeOps6
import Derived.IntWalk
set_option linter.unusedSectionVars false
set_option linter.unusedVariables false
set_option linter.unusedSimpArgs false
namespace Go.VE
open Go Go.RowKit
variable {P : Program} {T : Tab} {B : Nat} {W0 W : World} {φ : Phi} {s s' : St} {a : Act} {t : List Value} {o : Oper} {v : Value}

theorem len_eq {α : Type} (l : List α) : len l = l.length := by
  have key : ∀ (l : List α) (n : Nat), List.rec (motive := fun _ => Nat → Nat) (fun n => n) (fun _ _ ih n => ih (n + 1)) l n = n + l.length := by
    intro l
    induction l with
    | nil => intro n; rfl
    | cons a l ih => intro n; show List.rec (motive := fun _ => Nat → Nat) (fun n => n) (fun _ _ ih n => ih (n + 1)) l (n + 1) = _; rw [ih]; simp; omega
  have := key l 0
  simpa [len] using this

/-- a new row, with spare places -/
theorem row_sound (hs : Sim B W0 φ s W) {W1 : World} (hb : Below W.heap.size W W1) (hsz : W1.heap.size = W.heap.size) (e : TypeId) {vs ws : List Value} (rest : List Value) (hw : VRs φ vs ws) {es n cap c : Nat}
    (hn : n ≤ cap) (hm : cap ≤ maxLen) (hlen : (ws ++ rest).length = cap * es) (hc : c % 2 = 0 → cap = c / 2) :
    ∃ φ', Grow s (s.push (.cells vs es)) φ φ' ∧ Sim B W0 φ' (s.push (.cells vs es)) (W1.alloc (.cells (ws ++ rest).toArray e)) ∧ VR φ' (.slice (some ⟨s.nx, 0, none⟩) n c) (.slice (some ⟨W.heap.size, 0, none⟩) n cap) := by
  refine ⟨_, Grow.push hs _ _, new_sound hs hb hsz e rest hw es, ?_⟩
  have := VR.slice (φ := ext φ s.nx ⟨W.heap.size, 0, (ws ++ rest).length, es⟩) (o := 0) (c := c) (ext_same _ _ _) hn hm (by intro _; simp only [Nat.zero_add]; rw [hlen]; exact Nat.le_refl _) hc
  simpa using this

section ops
variable (hT : TabOk P T) (hs : Sim B W0 φ s W) {ρ : Operand → Value} (he : Env φ t ρ)
include hs he hT

theorem sound_buildSlice {ty : TypeId} {n : Nat} {parts : Array (Nat × Operand)} (ho : o.op = .buildSlice ty n parts) (h : opBuildSlice T t ty n parts s = some (v, s')) : OpR P B W0 φ s s' v ρ o W := by
  unfold opBuildSlice at h
  cases hty : T.ty ty with
  | none => simp [hty] at h
  | some ti =>
    obtain ⟨i, hi⟩ := hT.ty _ _ hty
    obtain ⟨z1, z2, z3, z4, d⟩ := ti
    cases d with
    | slice e =>
      cases hp : evalP t parts.toList with
      | none => simp [hty, hp] at h
      | some ps =>
        simp only [hty, hp] at h
        cases hte : T.ty e with
        | none => simp [hte] at h
        | some te =>
          obtain ⟨j, hj⟩ := hT.ty _ _ hte
          simp only [hte] at h
          by_cases hlim : 0 < te.size ∧ n * te.size ≤ 65536
          · rw [if_pos hlim] at h
            cases hf : Instr.fill (fun i => some (i * te.size, te.size)) (zeros te.zero.cells.toList n).toArray ps with
            | none => simp [hf] at h
            | some cs =>
              simp only [hf, ok, Option.some.injEq, Prod.mk.injEq] at h
              obtain ⟨rfl, rfl⟩ := h
              have hR := env_parts he _ _ hp
              have hz : VRs φ (zeros te.zero.cells.toList n).toArray.toList (zeros te.zero.cells.toList n).toArray.toList := VRs.of_atoms (zeros_all hj.atoms n)
              obtain ⟨E, hE, hR'⟩ := fill_sound hR _ _ cs hz hf
              have fill_size : ∀ (l : List (Nat × Value)) (A C : Array Value) (p : Nat → Option (Nat × Nat)), Instr.fill p A l = some C → C.size = A.size := by
                intro l
                induction l with
                | nil => intro A C p h; simp only [Instr.fill, Option.some.injEq] at h; rw [h]
                | cons x l ih =>
                  obtain ⟨xi, xv⟩ := x
                  intro A C p h
                  simp only [Instr.fill] at h
                  split at h
                  · cases h
                  · split at h
                    · cases h
                    · have := ih _ _ _ h
                      rw [this, ← Array.foldl_toList]
                      have key : ∀ (l : List (Value × Nat)) (D : Array Value) (q : Nat), (l.foldl (fun cs x => cs.setIfInBounds (q + x.2) x.1) D).size = D.size := by
                        intro l
                        induction l with
                        | nil => intro D q; rfl
                        | cons y l ih => intro D q; rw [List.foldl_cons, ih]; simp
                      exact key _ _ _
              have hsize : E.toList.length = n * te.size := by
                have := fill_size _ _ _ _ hE
                simp only [List.size_toArray, zeros_length] at this
                have hc := hj.cells
                simp only [Array.length_toList] at this ⊢
                rw [this, hc]
              obtain ⟨φ', k1, k2, k3⟩ := row_sound hs (Below.refl _ W) rfl e [] hR' (es := te.size) (n := n) (cap := n) (c := exact n) (Nat.le_refl _)
                (by
                  have := Nat.le_mul_of_pos_right n hlim.1
                  unfold maxLen
                  omega) (by simpa using hsize) (by intro _; unfold exact; omega)
              refine ⟨φ', _, _, k1, k2, k3, .inl (run_v (m := Instr.buildSlice ty n (parts.map fun x => (x.1, ρ x.2))) (by unfold execOp; rw [ho]) ?_)⟩
              have hmap : (parts.map fun x => (x.1, ρ x.2)).toList = parts.toList.map fun x => (x.1, ρ x.2) := by simp
              have hbig : ¬ n * te.size > 2 ^ 24 := by omega
              have hzs : te.zero.cells.size = te.size := hj.cells
              by_cases hn0 : n * te.size = 0
              · have hnil : (zeros te.zero.cells.toList n).toArray = #[] := by
                  have h0 : (zeros te.zero.cells.toList n).length = 0 := by rw [zeros_length, Array.length_toList, hzs, hn0]
                  rw [List.eq_nil_of_length_eq_zero h0]
                rw [hnil] at hE
                have hr0 : Array.map (fun _ => (default : Value)) (Array.range 0) = #[] := Array.ext' (by simp)
                simp [Instr.buildSlice, Sem.run_bind, run_underlying hi.under, run_sizeOf hj, hn0, hr0, hE, newRow, newObj, Sem.run]
              · have hmade := made_eq te.zero.cells n
                rw [hzs] at hmade
                have hE2 : Instr.fill (fun i => some (i * te.size, te.size)) ((Array.range (n * te.size)).map fun i => te.zero.cells[i % te.size]!) (parts.toList.map fun x => (x.1, ρ x.2)) = some E := by rw [hmade]; exact hE
                simp [Instr.buildSlice, Sem.run_bind, run_underlying hi.under, run_sizeOf hj, hn0, hbig, run_zero hj, hzs, hE2, newRow, newObj, Sem.run]
          · rw [if_neg hlim] at h; cases h
    | _ => cases hp : evalP t parts.toList <;> simp [hty, hp] at h

theorem sound_makeSlice {ty : TypeId} {x y : Operand} (ho : o.op = .makeSlice ty x y) (h : opMakeSlice T t ty x y s = some (v, s')) : OpR P B W0 φ s s' v ρ o W := by
  unfold opMakeSlice at h
  cases hty : T.ty ty with
  | none => simp [hty] at h
  | some ti =>
    obtain ⟨i, hi⟩ := hT.ty _ _ hty
    obtain ⟨z1, z2, z3, z4, d⟩ := ti
    cases d with
    | slice e =>
      cases hx : opt (evalO t x) asN with
      | none => simp [hty, hx] at h
      | some n =>
        cases hy : opt (evalO t y) asN with
        | none => simp [hty, hx, hy] at h
        | some m =>
          obtain ⟨j1, n1, a1, a2, a3⟩ := asN_sound hT hs he hx
          obtain ⟨j2, n2, b1, b2, b3⟩ := asN_sound hT hs he hy
          simp only [hty, hx, hy] at h
          cases hte : T.ty e with
          | none => simp [hte] at h
          | some te =>
            obtain ⟨j, hj⟩ := hT.ty _ _ hte
            simp only [hte] at h
            split at h
            · rename_i hc
              obtain ⟨rfl, hc2, hc3, hc4⟩ := hc
              simp only [ok, Option.some.injEq, Prod.mk.injEq] at h
              obtain ⟨rfl, rfl⟩ := h
              have hzs : te.zero.cells.size = te.size := hj.cells
              have hz : VRs φ (zeros te.zero.cells.toList n) (zeros te.zero.cells.toList n) := VRs.of_atoms (zeros_all hj.atoms n)
              obtain ⟨φ', k1, k2, k3⟩ := row_sound hs (Below.refl _ W) rfl e [] hz (es := te.size) (n := n) (cap := n) (c := exact n) (Nat.le_refl _) (by unfold maxLen; omega)
                (by rw [List.append_nil, zeros_length, Array.length_toList, hzs]) (by intro _; unfold exact; omega)
              refine ⟨φ', _, _, k1, k2, k3, .inl (run_v (m := Instr.makeSlice ty (ρ x) (ρ y)) (by unfold execOp; rw [ho]) ?_)⟩
              have e1 : IntKind.i64.wrap n1 = n1 := IntWalk.i64_in _ ⟨by omega, by omega⟩
              have e2 : IntKind.i64.wrap n2 = n2 := IntWalk.i64_in _ ⟨by omega, by omega⟩
              obtain rfl : n1 = n2 := by omega
              have hb : ¬ ((te.bytes : Int) * n1 > 281474976710656) := by
                have : (te.bytes : Int) * n1 = ((te.bytes * n : Nat) : Int) := by rw [← a3]; push_cast; rw [Int.toNat_of_nonneg a2]
                rw [this]; omega
              have hroom : ¬ (n1.toNat * te.bytes > roomBytes) := by
                rw [a3, Nat.mul_comm]; unfold roomBytes; omega
              have hmade := made_eq te.zero.cells n
              rw [hzs] at hmade
              have hn1 : ¬ n1 < 0 := by omega
              have hn1' : (n1.toNat : Int) = n1 := Int.toNat_of_nonneg a2
              by_cases hn0 : n * te.size = 0
              · have hnil : (zeros te.zero.cells.toList n).toArray = #[] := by
                  have h0 : (zeros te.zero.cells.toList n).length = 0 := by rw [zeros_length, Array.length_toList, hzs, hn0]
                  rw [List.eq_nil_of_length_eq_zero h0]
                simp only [Instr.makeSlice, Sem.run_bind, run_underlying hi.under, Result.andThen_ok, asInt, a1, b1, asIntOf, Sem.run_pure, run_typeInfo hj, hj.bytes, e1]
                have hr0 : Array.map (fun _ => (default : Value)) (Array.range 0) = #[] := Array.ext' (by simp)
                simp [hb, hn1, askRoom, hroom, run_sizeOf hj, a3, hn0, hr0, newRow, newObj, Sem.run, hnil]
              · simp only [Instr.makeSlice, Sem.run_bind, run_underlying hi.under, Result.andThen_ok, asInt, a1, b1, asIntOf, Sem.run_pure, run_typeInfo hj, hj.bytes, e1]
                simp [hb, hn1, askRoom, hroom, run_sizeOf hj, a3, hn0, run_zero hj, hzs, hmade, newRow, newObj, Sem.run]
            · cases h
    | _ => cases hx : opt (evalO t x) asN <;> cases hy : opt (evalO t y) asN <;> simp [hty, hx, hy] at h

theorem sound_len {ty : TypeId} {x : Operand} {u : Value} (hx : evalO t x = some u) (h : lenOp T ty u s = some (v, s')) : s' = s ∧ ∃ v', VR φ v v' ∧ ∀ y tys, (Builtin.len_ (ty :: tys).toArray y #[ρ x]).run P W = .ok v' W := by
  unfold lenOp at h
  cases hty : T.ty ty with
  | none => simp [hty] at h
  | some ti =>
    obtain ⟨i, hi⟩ := hT.ty _ _ hty
    have hR := he x u hx
    simp only [hty] at h
    generalize ρ x = q at hR
    split at h
    · rename_i hd
      simp only [ok, Option.some.injEq, Prod.mk.injEq] at h
      obtain ⟨rfl, rfl⟩ := h
      cases hR
      exact ⟨rfl, _, .int _ _, fun y tys => by simp [Builtin.len_, run_underlying hi.under, hd, goInt]⟩
    · rename_i hd
      simp only [ok, Option.some.injEq, Prod.mk.injEq] at h
      obtain ⟨rfl, rfl⟩ := h
      cases hR <;> exact ⟨rfl, _, .int _ _, fun y tys => by simp [Builtin.len_, run_underlying hi.under, hd, goInt]⟩
    · rename_i hd
      simp only [ok, Option.some.injEq, Prod.mk.injEq] at h
      obtain ⟨rfl, rfl⟩ := h
      cases hR
      exact ⟨rfl, _, .int _ _, fun y tys => by simp [Builtin.len_, run_underlying hi.under, hd, goInt]⟩
    · rename_i r hd
      cases hR with
      | @map _ L hr =>
        cases hg : s.get r with
        | none => simp [hg] at h
        | some ob =>
          cases ob with
          | map es clock =>
            simp only [hg, ok, Option.some.injEq, Prod.mk.injEq] at h
            obtain ⟨rfl, rfl⟩ := h
            obtain ⟨es', hb, hes⟩ := map_block hT hs he hr hg
            have hlen := hes.length
            refine ⟨rfl, .int .i64 es.length, .int _ _, fun y tys => ?_⟩
            have : es'.size = es.length := by simpa using hlen.symm
            simp [Builtin.len_, run_underlying hi.under, hd, goInt, getObj, Sem.run, hb, this]
          | _ => simp [hg] at h
    · rename_i hd
      simp only [ok, Option.some.injEq, Prod.mk.injEq] at h
      obtain ⟨rfl, rfl⟩ := h
      exact ⟨rfl, _, .int _ _, fun y tys => by simp [Builtin.len_, run_underlying hi.under, hd, goInt]⟩
    · cases h
end ops
end Go.VE
