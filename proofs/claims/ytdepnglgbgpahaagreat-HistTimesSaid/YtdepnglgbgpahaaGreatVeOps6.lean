/-
  Iterators; rows that are made; lengths.
-/
import Derived.Test.YtdepnglgbgpahaaGreatVeOps5
set_option linter.unusedSectionVars false
set_option linter.unusedVariables false
set_option linter.unusedSimpArgs false
namespace Go.VE
open Go Go.RowKit
variable {P : Program} {T : Tab} {B : Nat} {W0 W : World} {φ : Phi} {s s' : St} {a : Act} {t : List Value} {o : Oper} {v : Value}

theorem zeros_length (z : List Value) : ∀ n, (zeros z n).length = n * z.length
  | 0 => by simp [zeros]
  | n + 1 => by simp [zeros, zeros_length z n, Nat.add_mul]; omega
theorem zeros_get (z : List Value) : ∀ (n k : Nat), k < n * z.length → (zeros z n)[k]? = z[k % z.length]?
  | 0, k, h => by simp at h
  | n + 1, k, h => by
    rw [Nat.add_mul] at h
    rw [zeros]
    by_cases hk : k < z.length
    · rw [List.getElem?_append_left hk, Nat.mod_eq_of_lt hk]
    · rw [List.getElem?_append_right (by omega), zeros_get z n (k - z.length) (by omega)]
      congr 1
      rw [Nat.mod_eq_sub_mod (a := k) (by omega)]
theorem zeros_all {z : List Value} (h : z.all atom = true) : ∀ n, (zeros z n).all atom = true
  | 0 => rfl
  | n + 1 => by rw [zeros, List.all_append, h, zeros_all h n]; rfl

theorem made_eq (z : Array Value) (n : Nat) : ((Array.range (n * z.size)).map fun i => z[i % z.size]!) = (zeros z.toList n).toArray := by
  apply Array.ext'
  apply List.ext_getElem?
  intro k
  simp only [Array.toList_map, Array.toList_range, List.getElem?_map]
  by_cases hk : k < n * z.size
  · rw [zeros_get _ _ _ (by simpa using hk)]
    have hpos : 0 < z.size := by
      by_cases h : z.size = 0
      · simp [h] at hk
      · omega
    have hm := Nat.mod_lt k hpos
    simp [List.getElem?_range hk, hm]
  · rw [List.getElem?_eq_none (by simp; omega), List.getElem?_eq_none (by rw [zeros_length]; simpa using hk)]
    rfl

section ops
variable (hT : TabOk P T) (hs : Sim B W0 φ s W) {ρ : Operand → Value} (he : Env φ t ρ)
include hs he hT

theorem sound_range {ty : TypeId} {x : Operand} (ho : o.op = .range ty x) (h : opRange T t ty x s = some (v, s')) : OpR P B W0 φ s s' v ρ o W := by
  unfold opRange at h
  cases hty : T.ty ty with
  | none => simp [hty] at h
  | some ti =>
    obtain ⟨i, hi⟩ := hT.ty _ _ hty
    obtain ⟨z1, z2, z3, z4, d⟩ := ti
    cases d with
    | map kt et =>
      cases hx : evalO t x with
      | none => simp [hty, hx] at h
      | some p =>
        have hp := he x p hx
        generalize hq : ρ x = q at hp
        cases hp with
        | @map r L hr =>
          simp only [hty, hx] at h
          cases hg : s.get r with
          | none => simp [hg] at h
          | some ob =>
            cases ob with
            | map es clock =>
              obtain ⟨es', hb, hes⟩ := map_block hT hs he hr hg
              simp only [hg, ok, Option.some.injEq, Prod.mk.injEq] at h
              obtain ⟨rfl, rfl⟩ := h
              have hn : Sim B W0 (ext φ s.nx ⟨W.heap.size, 0, 0, 0⟩) (s.push (.iter (some r) clock [] clock)) (W.alloc (.mapIter (some L.blk) clock #[] clock)) := by
                refine hs.push ((Below.refl _ W).alloc (Nat.le_refl _) _) _ _ rfl (by show W.heap.size < (W.heap.push _).size; rw [Array.size_push]; omega) ⟨rfl, some L.blk, ?_, ?_⟩
                · show (W.heap.push _)[W.heap.size]? = _
                  simp
                · intro r' hr'
                  obtain rfl := Option.some.inj hr'
                  exact ⟨L, ext_le hs.fresh _ _ hr, rfl⟩
              refine ⟨_, .pointer (some ⟨W.heap.size, 0, none⟩), _, Grow.push hs _ _, hn, ?_, .inl ?_⟩
              · have := VR.ptr (φ := ext φ s.nx ⟨W.heap.size, 0, 0, 0⟩) (o := 0) (ext_same _ _ _)
                simpa using this
              · refine run_v (m := Instr.range ty (ρ x)) (by unfold execOp; rw [ho]) ?_
                simp [Instr.range, Sem.run_bind, run_underlying hi.under, hq, getObj, Sem.run, hb, newObj]
            | _ => simp [hg] at h
        | _ => simp [hty, hx] at h
    | _ => cases hx : evalO t x <;> simp [hty, hx] at h

theorem iter_block {r : Nat} {L : Loc} (hr : φ r = some L) {m : Option Nat} {since stepped : Nat} {seen : List Nat} (hg : s.get r = some (.iter m since seen stepped)) :
    L.sh = 0 ∧ ∃ m', W.heap[L.blk]? = some (.mapIter m' since seen.toArray stepped) ∧ ∀ r, m = some r → ∃ L', φ r = some L' ∧ m' = some L'.blk := hs.objs r L _ hr hg

theorem sound_entry {x : Operand} (ho : o.op = .entry x) (h : opEntry t x s = some (v, s')) : OpR P B W0 φ s s' v ρ o W := by
  unfold opEntry at h
  cases hx : evalO t x with
  | none => simp [hx] at h
  | some p =>
    have hp := he x p hx
    generalize hq : ρ x = q at hp
    cases hp with
    | @ptr r off L hr =>
      cases off with
      | succ n => simp [hx] at h
      | zero =>
        simp only [hx] at h
        cases hg : s.get r with
        | none => simp [hg] at h
        | some ob =>
          cases ob with
          | iter m since seen stepped =>
            cases m with
            | none => simp [hg] at h
            | some m =>
              simp only [hg] at h
              cases hl : seen.getLast? with
              | none => simp [hl] at h
              | some stamp =>
                simp only [hl] at h
                cases hgm : s.get m with
                | none => simp [hgm] at h
                | some obm =>
                  cases obm with
                  | map es clock =>
                    simp only [hgm] at h
                    split at h
                    · rename_i hcl
                      cases hf : es.find? (fun e => e.born == stamp) with
                      | none => simp [hf] at h
                      | some e =>
                        simp only [hf, ok, Option.some.injEq, Prod.mk.injEq] at h
                        obtain ⟨rfl, rfl⟩ := h
                        obtain ⟨hsh, m', hb, hm⟩ := iter_block hT hs he hr hg
                        obtain ⟨Lm, hLm, rfl⟩ := hm m rfl
                        obtain ⟨es', hbm, hes⟩ := map_block hT hs he hLm hgm
                        obtain ⟨e', hf', hE⟩ := EntriesR.find (f := fun n => n == stamp) hes e hf
                        refine .same hs (VR.tuple (.cons hE.key (.cons hE.val .nil))) (run_v (m := Instr.entry (ρ x)) (by unfold execOp; rw [ho]) ?_)
                        have hback : seen.toArray.back? = some stamp := by
                          rw [List.getLast?_eq_getElem?] at hl
                          simpa [Array.back?] using hl
                        have hfind : es'.find? (fun e => e.born == stamp) = some e' := by
                          rw [← Array.find?_toList]; exact hf'
                        have hne : (clock != stepped) = false := by simp [hcl]
                        simp [Instr.entry, hq, hsh, Sem.run_bind, getObj, Sem.run, hb, hbm, hback, hne, hfind, hcl]
                    · cases h
                  | _ => simp [hgm] at h
          | _ => simp [hg] at h
    | _ => simp [hx] at h

theorem sound_next {x : Operand} (ho : o.op = .next x false) (h : opNext t x s = some (v, s')) : OpR P B W0 φ s s' v ρ o W := by
  unfold opNext at h
  cases hx : evalO t x with
  | none => simp [hx] at h
  | some p =>
    have hp := he x p hx
    generalize hq : ρ x = q at hp
    cases hp with
    | @ptr r off L hr =>
      cases off with
      | succ n => simp [hx] at h
      | zero =>
        simp only [hx] at h
        cases hg : s.get r with
        | none => simp [hg] at h
        | some ob =>
          cases ob with
          | iter m since seen last =>
            cases m with
            | none => simp [hg] at h
            | some m =>
              simp only [hg] at h
              cases hgm : s.get m with
              | none => simp [hgm] at h
              | some obm =>
                cases obm with
                | map es clock =>
                  simp only [hgm] at h
                  obtain ⟨hsh, m', hb, hm⟩ := iter_block hT hs he hr hg
                  obtain ⟨Lm, hLm, rfl⟩ := hm m rfl
                  obtain ⟨es', hbm, hes⟩ := map_block hT hs he hLm hgm
                  obtain ⟨l', rfl⟩ : ∃ l' : List MapEntry, es' = l'.toArray := ⟨es'.toList, by simp⟩
                  have hes : EntriesR φ es l' := hes
                  have hall := EntriesR.all (f := fun n => decide (last ≤ n)) hes
                  have hem : l'.isEmpty = es.isEmpty := by cases hes <;> rfl
                  by_cases hbad : (!seen.isEmpty && !es.isEmpty && es.all fun e => decide (last ≤ e.born)) = true
                  · rw [if_pos hbad] at h; cases h
                  · rw [if_neg hbad] at h
                    have hfil := EntriesR.filter (f := fun n => !seen.contains n) hes
                    have hbad' : (!seen.toArray.isEmpty && !l'.toArray.isEmpty && l'.toArray.all fun e => decide (last ≤ e.born)) = false := by
                      have e1 : (l'.toArray.all fun e => decide (last ≤ e.born)) = es.all fun e => decide (last ≤ e.born) := by rw [← hall, List.all_toArray]
                      rw [e1, List.isEmpty_toArray, List.isEmpty_toArray, hem]
                      simpa using hbad
                    have hleft : (l'.toArray.filter fun e => !seen.toArray.contains e.born) = (l'.filter fun e => !seen.contains e.born).toArray := by simp
                    have start : ∀ {w : Value} {W' : World}, ((do
                        let old := (l'.filter fun e => !seen.contains e.born).toArray.filter (·.born < since)
                        let new := (l'.filter fun e => !seen.contains e.born).toArray.filter (·.born ≥ since)
                        let candidates := (if old.isEmpty then #[none] else #[]) ++ (old ++ new).map some
                        match candidates[← choose (.mapNext candidates.size)]? with
                        | some (some e) =>
                          setObj L.blk (.mapIter (some Lm.blk) since (seen.toArray.push e.born) clock)
                          pure (.tuple #[.bool true, e.key, e.val])
                        | some none => pure (.tuple #[.bool false])
                        | none => stuck "Next: no such candidate" : Sem Value).run P W = .ok w W') → (Instr.next (ρ x) false o.type).run P W = .ok w W' := by
                      intro w W' hr'
                      rw [← hr']
                      simp only [Instr.next, hq, hsh, Nat.zero_add, Sem.run_bind, getObj, Sem.run, hb, hbm, Sem.run_pure, Result.andThen_ok, hbad', hleft, Bool.false_eq_true, if_false]
                      rfl
                    cases hfl : es.filter fun e => !seen.contains e.born with
                    | nil =>
                      rw [hfl] at hfil
                      simp only [hfl, ok, Option.some.injEq, Prod.mk.injEq] at h
                      obtain ⟨rfl, rfl⟩ := h
                      have hl0 : l'.filter (fun e => !seen.contains e.born) = [] := by
                        generalize l'.filter (fun e => !seen.contains e.born) = q at hfil
                        cases hfil; rfl
                      refine .same hs (VR.tuple (.cons (.bool false) .nil)) (run_v (m := Instr.next (ρ x) false o.type) (by unfold execOp; rw [ho]) (start ?_))
                      rw [hl0]
                      simp [choose, Sem.run, Question.forced]
                    | cons e rest =>
                      cases rest with
                      | cons _ _ => rw [hfl] at h; cases h
                      | nil =>
                        rw [hfl] at h
                        simp only at h
                        split at h
                        · rename_i hb2
                          simp only [ok, Option.some.injEq, Prod.mk.injEq] at h
                          obtain ⟨rfl, rfl⟩ := h
                          rw [hfl] at hfil
                          have hone : ∃ e', l'.filter (fun e => !seen.contains e.born) = [e'] ∧ EntryR φ e e' := by
                            generalize l'.filter (fun e => !seen.contains e.born) = q at hfil
                            cases hfil with
                            | cons hE hn => cases hn; exact ⟨_, rfl, hE⟩
                          obtain ⟨e', hl1, hE⟩ := hone
                          have hlt : L.blk < W.heap.size := (hs.dom r L hr).2.2
                          have hb3 : e'.born < since := by rw [hE.born]; exact hb2
                          refine ⟨φ, .tuple #[.bool true, e'.key, e'.val], { W with heap := W.heap.setIfInBounds L.blk (.mapIter (some Lm.blk) since (seen.toArray.push e'.born) clock) }, Grow.of_nx _ rfl, ?_,
                            VR.tuple (.cons (.bool true) (.cons hE.key (.cons hE.val .nil))), .inl (run_v (m := Instr.next (ρ x) false o.type) (by unfold execOp; rw [ho]) (start ?_))⟩
                          · refine hs.put hr (by simp [hg]) (by simp [St.ro, hg]) (fun k hk => by simp [Array.getElem?_setIfInBounds, Ne.symm hk]) (by simp) rfl rfl rfl ⟨hsh, some Lm.blk, ?_, ?_⟩
                            · simp [hlt, hE.born]
                            · intro r' hr'
                              obtain rfl := Option.some.inj hr'
                              exact ⟨Lm, hLm, rfl⟩
                          · rw [hl1]
                            have hge : ¬ since ≤ e'.born := by omega
                            simp [hb3, hge, choose, Sem.run, Question.forced, setObj, hb]
                        · cases h
                | _ => simp [hgm] at h
          | _ => simp [hg] at h
    | _ => simp [hx] at h
end ops
end Go.VE
