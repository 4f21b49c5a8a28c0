/-
  A call worked out once, used again: its result moved to the names that are free where it is called.
-/
import Derived.Test.YtdepnglgbgpahaaGreatVeTab
set_option linter.unusedSectionVars false
set_option linter.unusedVariables false
set_option linter.unusedSimpArgs false
namespace Go.VE
open Go Go.RowKit
variable {P : Program} {T : Tab} {call : CallR} {B : Nat} {W0 W : World} {φ ψ : Phi} {s s' : St} {v : Value}

def orElseR (S c : CallR) : CallR := fun f args s => match S f args s with
  | some r => some r
  | none => c f args s
noncomputable def evS (P : Program) (T : Tab) (S : CallR) (n : Nat) : CallR × CodeR :=
  Nat.rec (motive := fun _ => CallR × CodeR) (fun _ _ _ => none, fun _ _ _ => none) (fun _ ih => (orElseR S (callStep T ih.2), codeStep P T ih.1 ih.2)) n

theorem orElse_ok {S c : CallR} (hS : CallOk P S) (hc : CallOk P c) : CallOk P (orElseR S c) := by
  intro f args s v s' h
  unfold orElseR at h
  cases e : S f args s with
  | some r =>
    simp only [e] at h
    obtain rfl := Option.some.inj h
    exact hS f args s v s' e
  | none =>
    simp only [e] at h
    exact hc f args s v s' h

theorem evS_ok (hT : TabOk P T) (hmix : P.follows .mixedOrders = true) {S : CallR} (hS : CallOk P S) : ∀ n, CallOk P (evS P T S n).1 ∧ CodeOk P (evS P T S n).2
  | 0 => ⟨fun f args s v s' h => (by cases (show (none : Res) = some (v, s') from h)), fun c t s e t' s' h => (by cases (show (none : Option (Ex × List Value × St)) = some (e, t', s') from h))⟩
  | n + 1 => by
    obtain ⟨h1, h2⟩ := evS_ok hT hmix hS n
    exact ⟨orElse_ok hS (callStep_ok hT h2), codeStep_ok hT hmix h1 h2⟩

theorem none_ok : CallOk P (fun _ _ _ => none) := fun _ _ _ _ _ h => by cases h

/-- THE PROGRAM DOES WHAT A RIGHT CALL SAYS. -/
theorem calls_of_ok (hc : CallOk P call) {f : Nat} {args : List Value} (hargs : args.all atom = true) {v : Value} {s' : St} (h : call f args ⟨.nil, 0⟩ = some (v, s')) (hv : atom v = true) (W : World) :
    Calls P f args.toArray W fun e W' => e = .returned v ∧ Below W.heap.size W W' := by
  have hs : Sim W.heap.size W (fun _ => none) ⟨.nil, 0⟩ W :=
    ⟨Below.refl _ _, Nat.le_refl _, fun i L o h => (by cases h), fun i j L L' h => (by cases h), fun i L h => (by cases h)⟩
  refine (hc f args _ v s' h W.heap.size W (fun _ => none) W args hs (VRs.of_atoms hargs)).mono ?_
  rintro e W' ⟨φ', v', h1, h2, rfl, h3⟩
  rw [VR.eq_of_atom hv h3]
  exact ⟨rfl, h2.below⟩

/-! ## Other names -/

def renL (f : Value → Option Value) : List Value → Option (List Value)
  | [] => some []
  | v :: r => match f v, renL f r with
    | some w, some q => some (w :: q)
    | _, _ => none

def renP (r : Nat → Option Nat) : Value → Option Value
  | .pointer (some ⟨b, o, none⟩) => match r b with
    | some j => some (.pointer (some ⟨j, o, none⟩))
    | none => none
  | .slice (some ⟨b, o, none⟩) n c => match r b with
    | some j => some (.slice (some ⟨j, o, none⟩) n c)
    | none => none
  | .map (some b) => match r b with
    | some j => some (.map (some j))
    | none => none
  | v => match atom v with
    | true => some v
    | false => none

def renV (r : Nat → Option Nat) : Nat → Value → Option Value
  | 0, v => renP r v
  | n + 1, .func fn a c => match renL (renV r n) a.toList, renL (renV r n) c.toList with
    | some a, some c => some (.func fn a.toArray c.toArray)
    | _, _ => none
  | n + 1, .iface t v => match renV r n v with
    | some v => some (.iface t v)
    | none => none
  | n + 1, .agg a => match renL (renV r n) a.toList with
    | some a => some (.agg a.toArray)
    | none => none
  | n + 1, .tuple a => match renL (renV r n) a.toList with
    | some a => some (.tuple a.toArray)
    | none => none
  | _ + 1, v => renP r v

def renE (f : Value → Option Value) : List MapEntry → Option (List MapEntry)
  | [] => some []
  | e :: r => match f e.key, f e.val, renE f r with
    | some k, some v, some q => some ({ e with key := k, val := v } :: q)
    | _, _, _ => none

def fuel : Nat := 5

def renO (r : Nat → Option Nat) : AObj → Option AObj
  | .cells vs es => match renL (renV r fuel) vs with
    | some ws => some (.cells ws es)
    | none => none
  | .map es clock => match renE (renV r fuel) es with
    | some q => some (.map q clock)
    | none => none
  | .iter _ _ _ _ => none
  | .ro _ => none

def Ren (r : Nat → Option Nat) (φ ψ : Phi) : Prop := ∀ i j L, r i = some j → φ i = some L → ψ j = some L

variable {r : Nat → Option Nat}

theorem renL_ok {f : Value → Option Value} (hf : ∀ v v' w, f v = some v' → VR φ v w → VR ψ v' w) : ∀ {l l' m : List Value}, renL f l = some l' → VRs φ l m → VRs ψ l' m
  | [], l', _, h, .nil => by
    simp only [renL, Option.some.injEq] at h
    subst h
    exact .nil
  | v :: q, l', _, h, .cons hv hs => by
    simp only [renL] at h
    split at h
    · rename_i w q' h1 h2
      obtain rfl := Option.some.inj h
      exact .cons (hf _ _ _ h1 hv) (renL_ok hf h2 hs)
    · cases h

theorem renP_ok (hr : Ren r φ ψ) {v v' w : Value} (h : renP r v = some v') (k : VR φ v w) : VR ψ v' w := by
  unfold renP at h
  split at h
  · split at h
    · rename_i j hj
      obtain rfl := Option.some.inj h
      cases k with
      | ptr hb => exact .ptr (hr _ _ _ hj hb)
    · cases h
  · split at h
    · rename_i j hj
      obtain rfl := Option.some.inj h
      cases k with
      | slice hb h1 h2 h3 h4 => exact .slice (hr _ _ _ hj hb) h1 h2 h3 h4
      | slice0 h1 => exact .slice0 h1
    · cases h
  · split at h
    · rename_i j hj
      obtain rfl := Option.some.inj h
      cases k with
      | map hb => exact .map (hr _ _ _ hj hb)
    · cases h
  · split at h
    · rename_i ha
      obtain rfl := Option.some.inj h
      rw [VR.eq_of_atom ha k]
      exact VR.of_atom ha
    · cases h

theorem renV_ok (hr : Ren r φ ψ) : ∀ (n : Nat) (v v' w : Value), renV r n v = some v' → VR φ v w → VR ψ v' w
  | 0, v, v', w, h, k => renP_ok hr h k
  | n + 1, v, v', w, h, k => by
    cases v with
    | func fn a c =>
      simp only [renV] at h
      split at h
      · rename_i a' c' h1 h2
        obtain rfl := Option.some.inj h
        cases k with
        | func _ k1 k2 => exact .func _ (renL_ok (renV_ok hr n) h1 (by simpa using k1)) (renL_ok (renV_ok hr n) h2 (by simpa using k2))
      · cases h
    | iface t u =>
      simp only [renV] at h
      split at h
      · rename_i u' h1
        obtain rfl := Option.some.inj h
        cases k with
        | iface _ k1 => exact .iface _ (renV_ok hr n _ _ _ h1 k1)
      · cases h
    | agg a =>
      simp only [renV] at h
      split at h
      · rename_i a' h1
        obtain rfl := Option.some.inj h
        cases k with
        | agg k1 => exact .agg (renL_ok (renV_ok hr n) h1 (by simpa using k1))
      · cases h
    | tuple a =>
      simp only [renV] at h
      split at h
      · rename_i a' h1
        obtain rfl := Option.some.inj h
        cases k with
        | tuple k1 => exact .tuple (renL_ok (renV_ok hr n) h1 (by simpa using k1))
      · cases h
    | _ => exact renP_ok hr (by simpa [renV] using h) k

theorem renE_ok {f : Value → Option Value} (hf : ∀ v v' w, f v = some v' → VR φ v w → VR ψ v' w) : ∀ {l l' m : List MapEntry}, renE f l = some l' → EntriesR φ l m → EntriesR ψ l' m
  | [], l', _, h, .nil => by
    simp only [renE, Option.some.injEq] at h
    subst h
    exact .nil
  | v :: q, l', _, h, .cons hv hs => by
    simp only [renE] at h
    split at h
    · rename_i k' w' q' h1 h2 h3
      obtain rfl := Option.some.inj h
      exact .cons ⟨hf _ _ _ h1 hv.key, hf _ _ _ h2 hv.val, hv.born⟩ (renE_ok hf h3 hs)
    · cases h

theorem renL_length {f : Value → Option Value} : ∀ {l l' : List Value}, renL f l = some l' → l'.length = l.length
  | [], l', h => by
    simp only [renL, Option.some.injEq] at h
    subst h; rfl
  | v :: q, l', h => by
    simp only [renL] at h
    split at h
    · rename_i h1 h2
      obtain rfl := Option.some.inj h
      simp [renL_length h2]
    · cases h
theorem renL_get {f : Value → Option Value} : ∀ {l l' : List Value}, renL f l = some l' → ∀ (k : Nat) (v' : Value), l'[k]? = some v' → ∃ v, l[k]? = some v ∧ f v = some v'
  | [], l', h, k, v', hk => by
    simp only [renL, Option.some.injEq] at h
    subst h; simp at hk
  | v :: q, l', h, k, v', hk => by
    simp only [renL] at h
    split at h
    · rename_i h1 h2
      obtain rfl := Option.some.inj h
      cases k with
      | zero =>
        simp only [List.getElem?_cons_zero, Option.some.injEq] at hk
        subst hk
        exact ⟨v, rfl, h1⟩
      | succ k =>
        obtain ⟨u, a, b⟩ := renL_get h2 k v' (by simpa using hk)
        exact ⟨u, by simpa using a, b⟩
    · cases h

theorem renO_ok (hr : Ren r φ ψ) {o o' : AObj} (h : renO r o = some o') {L : Loc} (k : ObjR φ W L o) : ObjR ψ W L o' := by
  cases o with
  | cells vs es =>
    simp only [renO] at h
    split at h
    · rename_i ws h1
      obtain rfl := Option.some.inj h
      obtain ⟨c, e, fr, k1, k2, k3, k4, k5, k6, k7⟩ := k
      refine ⟨c, e, fr, k1, k2, k3, k4, k5, by rw [renL_length h1]; exact k6, ?_⟩
      intro i v' hv
      obtain ⟨v, a, b⟩ := renL_get h1 i v' hv
      obtain ⟨w, c1, c2⟩ := k7 i v a
      exact ⟨w, c1, renV_ok hr _ _ _ _ b c2⟩
    · cases h
  | map es clock =>
    simp only [renO] at h
    split at h
    · rename_i ws h1
      obtain rfl := Option.some.inj h
      obtain ⟨es', k1, k2⟩ := k
      exact ⟨es', k1, renE_ok (renV_ok hr fuel) h1 k2⟩
    · cases h
  | iter m a b c => cases h
  | ro vs => cases h

/-! ## What a call left -/

/-- the objects moved to the free names -/
def place (r : Nat → Option Nat) : List (Option AObj) → St → Option St
  | [], s => some s
  | none :: l, s => place r l ⟨s.h.set none depth s.nx, s.nx + 1⟩
  | some o :: l, s => match renO r o with
    | some o => place r l (s.push o)
    | none => none

theorem get_drop_same (s : St) : St.get ⟨s.h.set none depth s.nx, s.nx + 1⟩ s.nx = none := by
  show Tr.get depth (Tr.set none depth s.h s.nx) s.nx = none
  by_cases hb : s.nx < 2 ^ depth
  · exact Tr.get_set_same none depth s.h s.nx hb
  · exact Tr.get_big depth _ s.nx hb

theorem place_ok {r : Nat → Option Nat} : ∀ {l : List (Option AObj)} {s s' : St}, place r l s = some s' → s'.nx = s.nx + l.length ∧ (∀ i, i < s.nx → s'.get i = s.get i) ∧
    ∀ i o, s.nx ≤ i → i < s'.nx → s'.get i = some o → ∃ o0, l[i - s.nx]? = some (some o0) ∧ renO r o0 = some o
  | [], s, s', h => by
    simp only [place, Option.some.injEq] at h
    subst h
    exact ⟨rfl, fun _ _ => rfl, fun i o h1 h2 => by omega⟩
  | none :: l, s, s', h => by
    simp only [place] at h
    obtain ⟨h1, h2, h3⟩ := place_ok h
    simp only at h1 h2 h3
    refine ⟨by simp [h1]; omega, fun i hi => ?_, fun i o ha hb hg => ?_⟩
    · rw [h2 i (by omega)]
      exact Tr.get_set_ne none depth s.h s.nx i (by omega)
    · by_cases he : i = s.nx
      · subst he
        rw [h2 _ (by omega), get_drop_same] at hg
        cases hg
      · obtain ⟨o0, k1, k2⟩ := h3 i o (by omega) hb hg
        refine ⟨o0, ?_, k2⟩
        have e : i - s.nx = (i - (s.nx + 1)) + 1 := by omega
        rw [e]; simpa using k1
  | some o :: l, s, s', h => by
    simp only [place] at h
    split at h
    · rename_i o1 ho
      obtain ⟨h1, h2, h3⟩ := place_ok h
      rw [St.nx_push] at h1 h2 h3
      refine ⟨by simp [h1]; omega, fun i hi => ?_, fun i o' ha hb hg => ?_⟩
      · rw [h2 i (by omega)]
        exact St.get_push_old _ _ _ (by omega)
      · by_cases he : i = s.nx
        · subst he
          rw [h2 _ (by omega)] at hg
          obtain rfl := St.get_push_new _ _ _ hg
          exact ⟨o, by simp, ho⟩
        · obtain ⟨o0, k1, k2⟩ := h3 i o' (by omega) hb hg
          refine ⟨o0, ?_, k2⟩
          have e : i - s.nx = (i - (s.nx + 1)) + 1 := by omega
          rw [e]; simpa using k1
    · cases h

structure Sm where
  f : Nat
  args : List Value
  v : Value
  objs : List (Option AObj)

def shift (k : Nat) (i : Nat) : Option Nat := some (Nat.add i k)

def Sm.run (m : Sm) : CallR := fun f args s => match Nat.beq f m.f with
  | true => match eqL eq0 args m.args with
    | true => match renV (shift s.nx) fuel m.v, place (shift s.nx) m.objs s with
      | some v, some s => some (v, s)
      | _, _ => none
    | false => none
  | false => none

/-- what is known of a call: at whatever world it gives that -/
def Sm.Ok (P : Program) (m : Sm) : Prop := ∀ W, Calls P m.f m.args.toArray W fun e W' => ∃ ψ w, Below W.heap.size W W' ∧ e = .returned w ∧ VR ψ m.v w ∧
  (∀ j L, ψ j = some L → j < m.objs.length ∧ W.heap.size ≤ L.blk ∧ L.blk < W'.heap.size) ∧
  (∀ j o L, m.objs[j]? = some (some o) → ψ j = some L → ObjR ψ W' L o) ∧
  (∀ i j o o' L L', m.objs[i]? = some (some o) → m.objs[j]? = some (some o') → ψ i = some L → ψ j = some L' → L.blk = L'.blk → i = j)

theorem Sm.run_ok {m : Sm} (hargs : m.args.all atom = true) (hm : m.Ok P) : CallOk P m.run := by
  intro f args s v s' h B W0 φ W args' hs ha
  unfold Sm.run at h
  split at h
  · rename_i hf
    obtain rfl := Nat.eq_of_beq_eq_true hf
    split at h
    · rename_i he
      obtain rfl := eqL_eq (fun x y => eq0_eq) he
      obtain rfl := VRs.eq_of_atoms hargs ha
      split at h
      · rename_i v1 s1 hv hp
        simp only [Option.some.injEq, Prod.mk.injEq] at h
        obtain ⟨rfl, rfl⟩ := h
        obtain ⟨n1, n2, n3⟩ := place_ok hp
        refine (hm W).mono ?_
        rintro e W' ⟨ψ, w, hb, rfl, hw, hd, ho, hi⟩
        let φ' : Phi := fun i => if i < s.nx then φ i else ψ (i - s.nx)
        have small : ∀ i, i < s.nx → φ' i = φ i := fun i hi => if_pos hi
        have big : ∀ i, ¬ i < s.nx → φ' i = ψ (i - s.nx) := fun i hi => if_neg hi
        have hle : φ.le φ' := fun i L h => by rw [small i (hs.dom i L h).1]; exact h
        have hren : Ren (shift s.nx) ψ φ' := by
          intro i j L h k
          have : j = i + s.nx := (Option.some.inj h).symm
          subst this
          rw [big _ (by omega), Nat.add_sub_cancel]
          exact k
        refine ⟨φ', w, ⟨hle, small, by omega⟩, ?_, rfl, renV_ok hren _ _ _ _ hv hw⟩
        have hsz := hs.size
        refine ⟨hs.below.trans (hb.mono hsz), hs.base, ?_, ?_, ?_⟩
        · intro i L o h1 h2
          by_cases hlt : i < s.nx
          · rw [small i hlt] at h1
            rw [n2 i hlt] at h2
            exact (hs.objs i L o h1 h2).mono hle (hb.block _ (hs.dom i L h1).2.2)
          · rw [big i hlt] at h1
            obtain ⟨d1, d2, d3⟩ := hd _ _ h1
            obtain ⟨o0, k1, k2⟩ := n3 i o (by omega) (by omega) h2
            exact renO_ok hren k2 (ho _ _ _ k1 h1)
        · intro i j L L' h1 h2 g1 g2 hbk
          by_cases hi' : i < s.nx <;> by_cases hj : j < s.nx
          · rw [small i hi'] at h1
            rw [small j hj] at h2
            rw [n2 i hi'] at g1
            rw [n2 j hj] at g2
            exact hs.inj i j L L' h1 h2 g1 g2 hbk
          · rw [small i hi'] at h1
            rw [big j hj] at h2
            have a := (hs.dom i L h1).2.2
            have b := (hd _ _ h2).2.1
            omega
          · rw [big i hi'] at h1
            rw [small j hj] at h2
            have a := (hs.dom j L' h2).2.2
            have b := (hd _ _ h1).2.1
            omega
          · rw [big i hi'] at h1
            rw [big j hj] at h2
            obtain ⟨o, ho'⟩ := Option.isSome_iff_exists.mp g1
            obtain ⟨o', ho''⟩ := Option.isSome_iff_exists.mp g2
            have a := (hd _ _ h1).1
            have b := (hd _ _ h2).1
            obtain ⟨o0, k1, _⟩ := n3 i o (by omega) (by omega) ho'
            obtain ⟨o1, k2, _⟩ := n3 j o' (by omega) (by omega) ho''
            have := hi _ _ _ _ _ _ k1 k2 h1 h2 hbk
            omega
        · intro i L h1
          have hsz' := hb.size
          by_cases hlt : i < s.nx
          · rw [small i hlt] at h1
            obtain ⟨d1, d2, d3⟩ := hs.dom i L h1
            refine ⟨by omega, fun hr => d2 ?_, by omega⟩
            unfold St.ro at hr ⊢
            rw [n2 i hlt] at hr
            exact hr
          · rw [big i hlt] at h1
            obtain ⟨d1, d2, d3⟩ := hd _ _ h1
            exact ⟨by omega, fun _ => by omega, d3⟩
      · cases h
    · cases h
  · cases h

/-! ## From the interpreter -/

def idx (i : Nat) : List Nat → Nat → Option Nat
  | [], _ => none
  | x :: l, k => match Nat.beq i x with
    | true => some k
    | false => idx i l (Nat.succ k)

theorem idx_get (i : Nat) : ∀ (l : List Nat) (k j : Nat), idx i l k = some j → k ≤ j ∧ l[j - k]? = some i
  | [], _, _, h => by cases h
  | x :: l, k, j, h => by
    unfold idx at h
    split at h
    · rename_i he
      obtain rfl := Nat.eq_of_beq_eq_true he
      obtain rfl := Option.some.inj h
      exact ⟨Nat.le_refl _, by simp⟩
    · obtain ⟨a, b⟩ := idx_get i l (k + 1) j h
      refine ⟨by omega, ?_⟩
      have : j - k = (j - (k + 1)) + 1 := by omega
      rw [this]; simpa using b

def incr : Nat → List Nat → Bool
  | _, [] => true
  | k, x :: l => match Nat.ble k x with
    | true => incr (Nat.succ x) l
    | false => false

theorem incr_le : ∀ (l : List Nat) (k : Nat), incr k l = true → ∀ (j x : Nat), l[j]? = some x → k ≤ x
  | [], _, _, _, _, h => by simp at h
  | y :: l, k, h, j, x, hj => by
    unfold incr at h
    split at h
    · rename_i hk
      have hk := Nat.le_of_ble_eq_true hk
      cases j with
      | zero => simp at hj; omega
      | succ j =>
        have := incr_le l _ h j x (by simpa using hj)
        omega
    · cases h
theorem incr_inj : ∀ (l : List Nat) (k : Nat), incr k l = true → ∀ (i j x : Nat), l[i]? = some x → l[j]? = some x → i = j
  | [], _, _, _, _, _, h, _ => by simp at h
  | y :: l, k, h, i, j, x, hi, hj => by
    unfold incr at h
    split at h
    · cases i with
      | zero =>
        cases j with
        | zero => rfl
        | succ j =>
          have := incr_le l _ h j x (by simpa using hj)
          simp at hi; omega
      | succ i =>
        cases j with
        | zero =>
          have := incr_le l _ h i x (by simpa using hi)
          simp at hj; omega
        | succ j => rw [incr_inj l _ h i j x (by simpa using hi) (by simpa using hj)]
    · cases h

def eqE : List MapEntry → List MapEntry → Bool
  | [], [] => true
  | a :: r, b :: q => eqv fuel a.key b.key && eqv fuel a.val b.val && Nat.beq a.born b.born && eqE r q
  | _, _ => false

def eqO : Option AObj → Option AObj → Bool
  | some (.cells a n), some (.cells b m) => eqL (eqv fuel) a b && Nat.beq n m
  | some (.map a n), some (.map b m) => eqE a b && Nat.beq n m
  | _, _ => false

theorem eqE_eq : ∀ {l m : List MapEntry}, eqE l m = true → l = m
  | [], [], _ => rfl
  | [], _ :: _, h => by cases h
  | _ :: _, [], h => by cases h
  | a :: r, b :: q, h => by
    simp only [eqE, Bool.and_eq_true] at h
    obtain ⟨⟨⟨h1, h2⟩, h3⟩, h4⟩ := h
    obtain rfl := eqE_eq h4
    have e1 := eqv_eq _ _ _ h1
    have e2 := eqv_eq _ _ _ h2
    have e3 := Nat.eq_of_beq_eq_true h3
    cases a; cases b
    simp only at e1 e2 e3
    subst e1 e2 e3
    rfl

theorem eqO_eq {a b : Option AObj} (h : eqO a b = true) : a = b := by
  unfold eqO at h
  split at h
  · simp only [Bool.and_eq_true] at h
    obtain rfl := eqL_eq (eqv_eq _) h.1
    obtain rfl := Nat.eq_of_beq_eq_true h.2
    rfl
  · simp only [Bool.and_eq_true] at h
    obtain rfl := eqE_eq h.1
    obtain rfl := Nat.eq_of_beq_eq_true h.2
    rfl
  · cases h

/-- the old names hold what is said -/
def left (r : Nat → Option Nat) (s : St) : List Nat → List (Option AObj) → Bool
  | [], [] => true
  | i :: l, none :: m => match s.get i with
    | none => left r s l m
    | some _ => false
  | i :: l, some o :: m => match s.get i with
    | some o' => match eqO (renO r o') (some o) with
      | true => left r s l m
      | false => false
    | none => false
  | _, _ => false

theorem left_get {r : Nat → Option Nat} {s : St} : ∀ {l : List Nat} {m : List (Option AObj)}, left r s l m = true → l.length = m.length ∧ ∀ (j : Nat) (o : AObj), m[j]? = some (some o) → ∃ i o', l[j]? = some i ∧ s.get i = some o' ∧ renO r o' = some o
  | [], [], _ => ⟨rfl, fun j o h => by simp at h⟩
  | [], _ :: _, h => by simp [left] at h
  | _ :: _, [], h => by simp [left] at h
  | i :: l, none :: m, h => by
    simp only [left] at h
    split at h
    · obtain ⟨h1, h2⟩ := left_get h
      refine ⟨by simp [h1], fun j o hj => ?_⟩
      cases j with
      | zero => simp at hj
      | succ j => simpa using h2 j o (by simpa using hj)
    · cases h
  | i :: l, some o :: m, h => by
    simp only [left] at h
    split at h
    · rename_i o' ho
      split at h
      · rename_i he
        obtain ⟨h1, h2⟩ := left_get h
        refine ⟨by simp [h1], fun j o1 hj => ?_⟩
        cases j with
        | zero =>
          simp only [List.getElem?_cons_zero, Option.some.injEq] at hj
          subst hj
          exact ⟨i, o', rfl, ho, eqO_eq he⟩
        | succ j => simpa using h2 j o1 (by simpa using hj)
      · cases h
    · cases h

theorem left_ro {r : Nat → Option Nat} {s : St} : ∀ {l : List Nat} {m : List (Option AObj)}, left r s l m = true → ∀ (j i : Nat), l[j]? = some i → s.ro i = false
  | [], [], _, j, i, h => by simp at h
  | [], _ :: _, h, _, _, _ => by simp [left] at h
  | _ :: _, [], h, _, _, _ => by simp [left] at h
  | k :: l, none :: m, h, j, i, hj => by
    simp only [left] at h
    split at h
    · rename_i hk
      cases j with
      | zero =>
        simp only [List.getElem?_cons_zero, Option.some.injEq] at hj
        subst hj
        simp [St.ro, hk]
      | succ j => exact left_ro h j i (by simpa using hj)
    · cases h
  | k :: l, some o :: m, h, j, i, hj => by
    simp only [left] at h
    split at h
    · rename_i o' ho
      split at h
      · rename_i he
        cases j with
        | zero =>
          simp only [List.getElem?_cons_zero, Option.some.injEq] at hj
          subst hj
          have := eqO_eq he
          cases o' with
          | ro vs => cases this
          | _ => simp [St.ro, ho]
        | succ j => exact left_ro h j i (by simpa using hj)
      · cases h
    · cases h

def Sm.check (m : Sm) (olds : List Nat) (call : CallR) : Bool :=
  match call m.f m.args ⟨.nil, 0⟩ with
  | some (v, s) => match renV (fun i => idx i olds 0) fuel v with
    | some w => eqv fuel w m.v && left (fun i => idx i olds 0) s olds m.objs && incr 0 olds
    | none => false
  | none => false

theorem Sm.ok_of_check {m : Sm} {olds : List Nat} (hc : CallOk P call) (hargs : m.args.all atom = true) (h : m.check olds call = true) : m.Ok P := by
  unfold Sm.check at h
  split at h
  · rename_i v s he
    split at h
    · rename_i w hw
      simp only [Bool.and_eq_true] at h
      obtain ⟨⟨h1, h2⟩, h3⟩ := h
      have h1 := eqv_eq _ _ _ h1
      obtain ⟨l1, l2⟩ := left_get h2
      intro W
      have hs : Sim W.heap.size W (fun _ => none) ⟨.nil, 0⟩ W :=
        ⟨Below.refl _ _, Nat.le_refl _, fun i L o h => (by cases h), fun i j L L' h => (by cases h), fun i L h => (by cases h)⟩
      refine (hc m.f m.args _ v s he W.heap.size W (fun _ => none) W m.args hs (VRs.of_atoms hargs)).mono ?_
      rintro e W' ⟨φ', v', g1, g2, rfl, g3⟩
      let ψ : Phi := fun j => match olds[j]? with
        | some i => φ' i
        | none => none
      have hpsi : ∀ j L, ψ j = some L → ∃ i, olds[j]? = some i ∧ φ' i = some L := by
        intro j L h
        cases ho : olds[j]? with
        | none => simp [ψ, ho] at h
        | some i => exact ⟨i, rfl, by simpa [ψ, ho] using h⟩
      have hren : Ren (fun i => idx i olds 0) φ' ψ := by
        intro i j L h k
        have := (idx_get i olds 0 j h).2
        simp only [Nat.sub_zero] at this
        show ψ j = some L
        simp only [ψ, this]
        exact k
      refine ⟨ψ, v', g2.below, rfl, ?_, ?_, ?_, ?_⟩
      · rw [← h1]
        exact renV_ok hren _ _ _ _ hw g3
      · intro j L hj
        obtain ⟨i, a, b⟩ := hpsi j L hj
        have := g2.dom i L b
        refine ⟨?_, this.2.1 (left_ro h2 j i a), this.2.2⟩
        rw [← l1]
        exact (List.getElem?_eq_some_iff.mp a).1
      · intro j o L hj hL
        obtain ⟨i, a, b⟩ := hpsi j L hL
        obtain ⟨i', o', c1, c2, c3⟩ := l2 j o hj
        rw [a] at c1
        obtain rfl := Option.some.inj c1
        exact renO_ok hren c3 (g2.objs i L o' b c2)
      · intro i j o o' L L' hi hj hL hL' hb
        obtain ⟨i1, a, b⟩ := hpsi i L hL
        obtain ⟨j1, a', b'⟩ := hpsi j L' hL'
        obtain ⟨i2, o1, c1, c2, c3⟩ := l2 i o hi
        obtain ⟨j2, o2, d1, d2, d3⟩ := l2 j o' hj
        rw [a] at c1
        rw [a'] at d1
        obtain rfl := Option.some.inj c1
        obtain rfl := Option.some.inj d1
        have := g2.inj i1 j1 L L' b b' (by rw [c2]; rfl) (by rw [d2]; rfl) hb
        subst this
        exact incr_inj olds 0 h3 i j i1 a a'
    · cases h
  · cases h
end Go.VE
