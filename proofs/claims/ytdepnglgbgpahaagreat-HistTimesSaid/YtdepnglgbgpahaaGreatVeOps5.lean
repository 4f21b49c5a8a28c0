/-
  Maps.
-/
import Derived.Test.YtdepnglgbgpahaaGreatVeOps4
set_option linter.unusedSectionVars false
set_option linter.unusedVariables false
set_option linter.unusedSimpArgs false
namespace Go.VE
open Go Go.RowKit
variable {P : Program} {T : Tab} {B : Nat} {W0 W : World} {φ : Phi} {s s' : St} {a : Act} {t : List Value} {o : Oper} {v : Value}

theorem EntriesR.length : ∀ {l m : List MapEntry}, EntriesR φ l m → l.length = m.length
  | _, _, .nil => rfl
  | _, _, .cons _ hs => by simp [EntriesR.length hs]

theorem keyEq_sound {k x x' : Value} {r : Bool} {d : TypeDesc} (hk : keyTy d k = true) (h : keyEq k x = some r) (hR : VR φ x x') : Instr.sameNow d k x' = some r ∧ x' = x := by
  cases k <;> cases d <;> simp only [keyTy, Bool.false_eq_true] at hk <;> cases x <;> simp only [keyEq, reduceCtorEq] at h <;> cases hR
  · simp [Instr.sameNow] at *; exact h
  · simp only [Instr.sameNow]; exact ⟨h, trivial⟩
  · simp [Instr.sameNow] at *; exact h

theorem findK_sound {k : Value} {d : TypeDesc} (hk : keyTy d k = true) : ∀ {l m : List MapEntry}, EntriesR φ l m → ∀ (i : Nat) (r : Option (Nat × Value)), findK k l i = some r →
    ∃ r', Instr.findNow d k m i = some r' ∧ (match r, r' with
      | none, none => True
      | some (i, v), some (j, w) => i = j ∧ VR φ v w
      | _, _ => False)
  | _, _, .nil, i, r, h => by
    simp only [findK, Option.some.injEq] at h
    subst h
    exact ⟨none, rfl, trivial⟩
  | _, _, .cons (e := e) (e' := e') he hs, i, r, h => by
    simp only [findK] at h
    cases hq : keyEq k e.key with
    | none => simp [hq] at h
    | some b =>
      obtain ⟨h1, h2⟩ := keyEq_sound hk hq he.key
      simp only [hq] at h
      cases b with
      | true =>
        simp only [Option.some.injEq] at h
        subst h
        exact ⟨some (i, e'.val), by simp [Instr.findNow, h1], rfl, he.val⟩
      | false =>
        simp only at h
        obtain ⟨r', h3, h4⟩ := findK_sound hk hs (i + 1) r h
        exact ⟨r', by simp [Instr.findNow, h1, h3], h4⟩

theorem findK_lt {k : Value} : ∀ {l : List MapEntry} {n i : Nat} {v : Value}, findK k l n = some (some (i, v)) → n ≤ i ∧ i < n + l.length ∧ ∃ e, l[i - n]? = some e ∧ keyEq k e.key = some true
  | [], n, i, v, h => by simp [findK] at h
  | e :: l, n, i, v, h => by
    simp only [findK] at h
    cases hq : keyEq k e.key with
    | none => simp [hq] at h
    | some b =>
      simp only [hq] at h
      cases b with
      | true =>
        simp only [Option.some.injEq, Prod.mk.injEq] at h
        obtain ⟨rfl, _⟩ := h
        exact ⟨Nat.le_refl _, by simp, e, by simp, hq⟩
      | false =>
        simp only at h
        obtain ⟨h1, h2, e', h3, h4⟩ := findK_lt h
        refine ⟨by omega, by simp; omega, e', ?_, h4⟩
        rw [show i - n = (i - (n + 1)) + 1 by omega]
        simpa using h3

theorem bytes_eq {a b : ByteArray} (h : (a == b) = true) : a = b := ByteArray.ext (eq_of_beq (show (a.data == b.data) = true from h))
theorem bytes_beq (a : ByteArray) : (a == a) = true := show (a.data == a.data) = true from by simp

theorem keyEq_true {k x : Value} (h : keyEq k x = some true) : atom x = true ∧ x = k := by
  cases k <;> cases x <;> simp only [keyEq, reduceCtorEq] at h
  · simp at h; exact ⟨rfl, by rw [h]⟩
  · split at h
    · simp at h; rename_i e; subst e; exact ⟨rfl, by rw [h]⟩
    · cases h
  · exact ⟨rfl, by rw [bytes_eq (Option.some.inj h)]⟩

theorem run_checkKey {e : Bool} {n : Nat} {y : TypeId} {d : TypeDesc} {k : Value} (hu : P.underlying y = some d) (hk : keyTy d k = true) : (Instr.checkKey e (n + 1) y k).run P W = .ok () W := by
  cases k <;> cases d <;> simp only [keyTy, Bool.false_eq_true] at hk <;> simp [Instr.checkKey, run_underlying hu]

theorem sameBits_key {d : TypeDesc} {k : Value} (hk : keyTy d k = true) (n : Nat) : Instr.sameBits n k k = true := by
  cases k <;> cases d <;> simp only [keyTy, Bool.false_eq_true] at hk <;> cases n <;> simp [Instr.sameBits, bytes_beq]

theorem keyTy_atom {d : TypeDesc} {k : Value} (hk : keyTy d k = true) : atom k = true := by
  cases k <;> cases d <;> simp only [keyTy, Bool.false_eq_true] at hk <;> rfl

theorem EntriesR.append {l m l' m' : List MapEntry} (h : EntriesR φ l m) (h' : EntriesR φ l' m') : EntriesR φ (l ++ l') (m ++ m') := by
  induction h with
  | nil => exact h'
  | cons e _ ih => exact .cons e ih

theorem EntriesR.modify : ∀ {l m : List MapEntry}, EntriesR φ l m → ∀ (i : Nat) {f g : MapEntry → MapEntry}, (∀ e e', EntryR φ e e' → EntryR φ (f e) (g e')) → EntriesR φ (l.modify i f) (m.modify i g)
  | _, _, .nil, i, f, g, _ => by cases i <;> exact .nil
  | _, _, .cons h hs, 0, f, g, hf => .cons (hf _ _ h) hs
  | _, _, .cons h hs, i + 1, f, g, hf => .cons h (EntriesR.modify hs i hf)

theorem EntriesR.filter {f : Nat → Bool} : ∀ {l m : List MapEntry}, EntriesR φ l m → EntriesR φ (l.filter fun e => f e.born) (m.filter fun e => f e.born)
  | _, _, .nil => .nil
  | _, _, .cons h hs => by
    rw [List.filter_cons, List.filter_cons, h.born]
    split
    · exact .cons h (EntriesR.filter hs)
    · exact EntriesR.filter hs

theorem EntriesR.all {f : Nat → Bool} : ∀ {l m : List MapEntry}, EntriesR φ l m → (m.all fun e => f e.born) = l.all fun e => f e.born
  | _, _, .nil => rfl
  | _, _, .cons h hs => by simp only [List.all_cons, h.born, EntriesR.all hs]

theorem EntriesR.find {f : Nat → Bool} : ∀ {l m : List MapEntry}, EntriesR φ l m → ∀ e, l.find? (fun e => f e.born) = some e → ∃ e', m.find? (fun e => f e.born) = some e' ∧ EntryR φ e e'
  | _, _, .nil, e, h => by simp at h
  | _, _, .cons (e' := b) h hs, e, he => by
    rw [List.find?_cons] at he ⊢
    rw [h.born]
    split at he
    · obtain rfl := Option.some.inj he
      exact ⟨b, rfl, h⟩
    · exact EntriesR.find hs e he

section ops
variable (hT : TabOk P T) (hs : Sim B W0 φ s W) {ρ : Operand → Value} (he : Env φ t ρ)
include hs he hT

theorem map_block {r : Nat} {L : Loc} (hr : φ r = some L) {es : List MapEntry} {clock : Nat} (hg : s.get r = some (.map es clock)) :
    ∃ es', W.heap[L.blk]? = some (.map es' clock) ∧ EntriesR φ es es'.toList := hs.objs r L _ hr hg

theorem sound_lookup {ty : TypeId} {x y : Operand} {c : Bool} (ho : o.op = .lookup ty x y c) (h : opLookup T t ty x y c s = some (v, s')) : OpR P B W0 φ s s' v ρ o W := by
  unfold opLookup at h
  cases hty : T.ty ty with
  | none => simp [hty] at h
  | some ti =>
    obtain ⟨i, hi⟩ := hT.ty _ _ hty
    obtain ⟨z1, z2, z3, z4, d⟩ := ti
    cases d with
    | map kt et =>
      cases hx : evalO t x with
      | none => simp [hty, hx] at h
      | some p =>
        cases hy : evalO t y with
        | none => simp [hty, hx, hy] at h
        | some key =>
          simp only [hty, hx, hy] at h
          cases htk : T.ty kt with
          | none => simp [htk] at h
          | some tk =>
            cases hte : T.ty et with
            | none => simp [htk, hte] at h
            | some te =>
              obtain ⟨ik, hik⟩ := hT.ty _ _ htk
              obtain ⟨ie, hie⟩ := hT.ty _ _ hte
              have hp := he x p hx
              have hkey := he y key hy
              generalize hq : ρ x = q at hp
              cases hp with
              | @map r L hr =>
                simp only [htk, hte] at h
                cases hg : s.get r with
                | none => simp [hg] at h
                | some ob =>
                  cases ob with
                  | map es clock =>
                    obtain ⟨es', hb, hes⟩ := map_block hT hs he hr hg
                    simp only [hg] at h
                    split at h
                    · rename_i hk
                      have ek := VR.eq_of_atom (keyTy_atom hk) hkey
                      cases hf : findK key es 0 with
                      | none => simp [hf] at h
                      | some res =>
                        obtain ⟨r', hr', hm⟩ := findK_sound hk hes 0 res hf
                        have hrun : ∀ u ok', (match r' with | some (_, u) => (u, true) | none => (te.zero, false)) = (u, ok') →
                            (Instr.lookup ty (ρ x) (ρ y) c).run P W = .ok (if c then .tuple #[u, .bool ok'] else u) W := by
                          intro u ok' hu
                          have hck := run_checkKey (P := P) (W := W) (e := es'.isEmpty) (n := 9999) hik.under hk
                          simp only [Nat.reduceAdd] at hck
                          simp only [Instr.lookup, Sem.run_bind, run_underlying hi.under, Result.andThen_ok, hq, getObj, Sem.run, hb, ek, Sem.run_pure, hck, Instr.findKey, Sem.run_bind, run_underlying hik.under, hr', Sem.run_pure]
                          cases r' with
                          | none =>
                            simp only [Prod.mk.injEq] at hu
                            obtain ⟨rfl, rfl⟩ := hu
                            simp [run_zero hie]
                          | some pr =>
                            obtain ⟨pi, pv⟩ := pr
                            simp only [Prod.mk.injEq] at hu
                            obtain ⟨rfl, rfl⟩ := hu
                            simp
                        simp only [hf] at h
                        cases res with
                        | none =>
                          cases r' with
                          | some pr => exact hm.elim
                          | none =>
                            simp only [ok, Option.some.injEq, Prod.mk.injEq] at h
                            obtain ⟨rfl, rfl⟩ := h
                            have hz : VR φ te.zero te.zero := by
                              have := hie.atoms
                              cases hzz : te.zero with
                              | agg cs => rw [hzz] at this; exact VR.of_plain this
                              | tuple cs => rw [hzz] at this; exact VR.of_plain (by simp [Value.cells] at this; simp [atom] at this)
                              | _ => rw [hzz] at this; exact VR.of_atom (by simpa [Value.cells] using this)
                            refine .same hs ?_ (run_v (m := Instr.lookup ty (ρ x) (ρ y) c) (by unfold execOp; rw [ho]) (hrun _ _ rfl))
                            cases c
                            · exact hz
                            · exact VR.tuple (.cons hz (.cons (.bool _) .nil))
                        | some pr =>
                          obtain ⟨pi, pv⟩ := pr
                          cases r' with
                          | none => exact hm.elim
                          | some pr' =>
                            obtain ⟨pi', pv'⟩ := pr'
                            simp only [ok, Option.some.injEq, Prod.mk.injEq] at h
                            obtain ⟨rfl, rfl⟩ := h
                            refine .same hs ?_ (run_v (m := Instr.lookup ty (ρ x) (ρ y) c) (by unfold execOp; rw [ho]) (hrun _ _ rfl))
                            cases c
                            · exact hm.2
                            · exact VR.tuple (.cons hm.2 (.cons (.bool _) .nil))
                    · cases h
                  | _ => simp [hg] at h
              | _ => simp [htk, hte] at h
    | _ => cases hx : evalO t x <;> cases hy : evalO t y <;> simp [hty, hx, hy] at h

theorem sound_mapUpdate {ty : TypeId} {m x y : Operand} (ho : o.op = .mapUpdate ty m x y) (h : opMapUpdate T t ty m x y s = some (v, s')) : OpR P B W0 φ s s' v ρ o W := by
  unfold opMapUpdate at h
  cases hty : T.ty ty with
  | none => simp [hty] at h
  | some ti =>
    obtain ⟨i, hi⟩ := hT.ty _ _ hty
    obtain ⟨z1, z2, z3, z4, d⟩ := ti
    cases d with
    | map kt et =>
      cases hm : evalO t m with
      | none => simp [hty, hm] at h
      | some p =>
        cases hx : evalO t x with
        | none => cases p <;> simp [hty, hm, hx] at h
        | some key =>
          cases hy : evalO t y with
          | none => cases p <;> simp [hty, hm, hx, hy] at h
          | some u =>
            have hp := he m p hm
            have hkey := he x key hx
            have hv := he y u hy
            generalize hq : ρ m = q at hp
            cases hp with
            | @map r L hr =>
              simp only [hty, hm, hx, hy] at h
              cases htk : T.ty kt with
              | none => simp [htk] at h
              | some tk =>
                obtain ⟨ik, hik⟩ := hT.ty _ _ htk
                cases hg : s.get r with
                | none => simp [htk, hg] at h
                | some ob =>
                  cases ob with
                  | map es clock =>
                    obtain ⟨es', hb, hes⟩ := map_block hT hs he hr hg
                    simp only [htk, hg] at h
                    split at h
                    · rename_i hk
                      have ek := VR.eq_of_atom (keyTy_atom hk) hkey
                      cases hf : findK key es 0 with
                      | none => simp [hf] at h
                      | some res =>
                        obtain ⟨r', hr', hmm⟩ := findK_sound hk hes 0 res hf
                        have hck := run_checkKey (P := P) (W := W) (e := false) (n := 9999) hik.under hk
                        simp only [Nat.reduceAdd] at hck
                        have base : ∀ {es2 : List MapEntry} {es2' : Array MapEntry} {k2 : Nat}, EntriesR φ es2 es2'.toList → (Instr.mapUpdate ty (ρ m) (ρ x) (ρ y)).run P W = .ok () { W with heap := W.heap.setIfInBounds L.blk (.map es2' k2) } →
                            OpR P B W0 φ s (s.put r (some (.map es2 k2))) undef ρ o W := by
                          intro es2 es2' k2 h1 h2
                          refine ⟨φ, undef, _, Grow.of_nx _ rfl, ?_, .undef _, .inr ⟨rfl, run_u (m := Instr.mapUpdate ty (ρ m) (ρ x) (ρ y)) (by unfold execOp; rw [ho]) h2⟩⟩
                          have hlt : L.blk < W.heap.size := (hs.dom r L hr).2.2
                          refine hs.put hr (by simp [hg]) (by simp [St.ro, hg]) (fun k hk => by simp [Array.getElem?_setIfInBounds, Ne.symm hk]) (by simp) rfl rfl rfl ⟨es2', ?_, h1⟩
                          simp [hlt]
                        simp only [hf] at h
                        cases res with
                        | none =>
                          cases r' with
                          | some pr => exact hmm.elim
                          | none =>
                            simp only [ok, Option.some.injEq, Prod.mk.injEq] at h
                            obtain ⟨rfl, rfl⟩ := h
                            refine base (es2' := es'.push { key := ρ x, val := ρ y, born := clock }) ?_ ?_
                            · rw [Array.toList_push]
                              exact hes.append (.cons ⟨hkey, hv, rfl⟩ .nil)
                            · simp only [Instr.mapUpdate, Sem.run_bind, run_underlying hi.under, Result.andThen_ok, hq, getObj, Sem.run, hb, ek, Sem.run_pure, hck, Instr.findKey, Sem.run_bind, run_underlying hik.under, hr', Sem.run_pure, setObj, Sem.run, hb]
                        | some pr =>
                          obtain ⟨pi, pv⟩ := pr
                          cases r' with
                          | none => exact hmm.elim
                          | some pr' =>
                            obtain ⟨pi', pv'⟩ := pr'
                            obtain ⟨rfl, _⟩ := hmm
                            simp only [ok, Option.some.injEq, Prod.mk.injEq] at h
                            obtain ⟨rfl, rfl⟩ := h
                            obtain ⟨f1, f2, e0, f3, f4⟩ := findK_lt hf
                            obtain ⟨f5, f6⟩ := keyEq_true f4
                            have hkk : ((es'[pi]?).map (·.key)).getD (ρ x) = key := by
                              rw [ek]
                              cases hh : es'[pi]? with
                              | none => simp
                              | some e1 =>
                                have hlen := hes.length
                                have : ∀ {l m : List MapEntry}, EntriesR φ l m → ∀ (k : Nat) (e e' : MapEntry), l[k]? = some e → m[k]? = some e' → EntryR φ e e' := by
                                  intro l m hlm
                                  induction hlm with
                                  | nil => intro k e e' h1; simp at h1
                                  | cons h0 _ ih =>
                                    intro k e e' h1 h2
                                    cases k with
                                    | zero => simp at h1 h2; subst h1; subst h2; exact h0
                                    | succ k => exact ih k e e' (by simpa using h1) (by simpa using h2)
                                have hE := this hes pi e0 e1 (by simpa using f3) (by simpa using hh)
                                simp only [Option.map_some, Option.getD_some]
                                rw [VR.eq_of_atom f5 hE.key, f6]
                            have hst : (Instr.keyThatStays key key).run P W = .ok key W := by
                              simp [Instr.keyThatStays, sameBits_key hk]
                            refine base (es2' := es'.modify pi fun e => { e with key := key, val := ρ y }) ?_ ?_
                            · rw [Array.toList_modify]
                              exact hes.modify pi fun e e' hE => ⟨VR.of_atom (keyTy_atom hk), hv, hE.born⟩
                            · rw [ek] at hkk
                              simp only [Instr.mapUpdate, Sem.run_bind, run_underlying hi.under, Result.andThen_ok, hq, getObj, Sem.run, hb, ek, Sem.run_pure, hck, Instr.findKey, Sem.run_bind, run_underlying hik.under, hr', Sem.run_pure, hkk, hst, setObj, Sem.run, hb]
                    · cases h
                  | _ => simp [htk, hg] at h
            | _ => simp [hty, hm, hx, hy] at h
    | _ => cases hm : evalO t m <;> cases hx : evalO t x <;> cases hy : evalO t y <;> simp [hty, hm, hx, hy] at h
end ops
end Go.VE
