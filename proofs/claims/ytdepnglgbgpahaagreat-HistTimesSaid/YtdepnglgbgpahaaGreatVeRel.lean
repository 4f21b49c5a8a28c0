/-
  How the interpreter's memory stands to the model's world.
-/
import Derived.Test.YtdepnglgbgpahaaGreatVeBase
import Derived.Below
import Derived.Deep.MidRow
set_option linter.unusedSectionVars false
set_option linter.unusedVariables false
set_option linter.unusedSimpArgs false
namespace Go.VE
open Go Go.RowKit

structure Loc where
  blk : Nat
  sh : Nat
  cap : Nat
  es : Nat

abbrev Phi := Nat → Option Loc

mutual
/-- an abstract value and one of the model's -/
inductive VR (φ : Phi) : Value → Value → Prop where
  | bool (b : Bool) : VR φ (.bool b) (.bool b)
  | int (k : IntKind) (n : Int) : VR φ (.int k n) (.int k n)
  | string (s : ByteArray) : VR φ (.string s) (.string s)
  | ptrNil : VR φ (.pointer none) (.pointer none)
  | ptr {b o : Nat} {L : Loc} (h : φ b = some L) : VR φ (.pointer (some ⟨b, o, none⟩)) (.pointer (some ⟨L.blk, L.sh + o, none⟩))
  | sliceNil : VR φ (.slice none 0 0) (.slice none 0 0)
  | slice {b o n c c' : Nat} {L : Loc} (h : φ b = some L) (hn : n ≤ c') (hm : c' ≤ maxLen) (hc : L.es ≠ 0 → L.sh + o + c' * L.es ≤ L.cap) (he : c % 2 = 0 → c' = c / 2) :
      VR φ (.slice (some ⟨b, o, none⟩) n c) (.slice (some ⟨L.blk, L.sh + o, none⟩) n c')
  | slice0 {a a' : Addr} {c : Nat} (he : c % 2 = 0 → c / 2 = 0) : VR φ (.slice (some a) 0 c) (.slice (some a') 0 0)
  | mapNil : VR φ (.map none) (.map none)
  | map {b : Nat} {L : Loc} (h : φ b = some L) : VR φ (.map (some b)) (.map (some L.blk))
  | nilFunc : VR φ .nilFunc .nilFunc
  | func (fn : Fn) {a b c d : List Value} (h : VRs φ a b) (h' : VRs φ c d) : VR φ (.func fn a.toArray c.toArray) (.func fn b.toArray d.toArray)
  | nilIface : VR φ .nilIface .nilIface
  | iface (t : TypeId) {v w : Value} (h : VR φ v w) : VR φ (.iface t v) (.iface t w)
  | agg {a b : List Value} (h : VRs φ a b) : VR φ (.agg a.toArray) (.agg b.toArray)
  | tuple {a b : List Value} (h : VRs φ a b) : VR φ (.tuple a.toArray) (.tuple b.toArray)
inductive VRs (φ : Phi) : List Value → List Value → Prop where
  | nil : VRs φ [] []
  | cons {a b : Value} {l m : List Value} (h : VR φ a b) (hs : VRs φ l m) : VRs φ (a :: l) (b :: m)
end

/-- more is known -/
def Phi.le (φ ψ : Phi) : Prop := ∀ i L, φ i = some L → ψ i = some L
theorem Phi.le_refl (φ : Phi) : φ.le φ := fun _ _ h => h
theorem Phi.le_trans {φ ψ χ : Phi} (h : φ.le ψ) (k : ψ.le χ) : φ.le χ := fun i L e => k i L (h i L e)

mutual
theorem VR.mono {φ ψ : Phi} (hle : φ.le ψ) {v w : Value} (h : VR φ v w) : VR ψ v w := by
  cases h with
  | bool b => exact .bool b
  | int k n => exact .int k n
  | string s => exact .string s
  | ptrNil => exact .ptrNil
  | ptr h => exact .ptr (hle _ _ h)
  | sliceNil => exact .sliceNil
  | slice h hn hm hc he => exact .slice (hle _ _ h) hn hm hc he
  | slice0 he => exact .slice0 he
  | mapNil => exact .mapNil
  | map h => exact .map (hle _ _ h)
  | nilFunc => exact .nilFunc
  | func fn h h' => exact .func fn (VRs.mono hle h) (VRs.mono hle h')
  | nilIface => exact .nilIface
  | iface t h => exact .iface t (VR.mono hle h)
  | agg h => exact .agg (VRs.mono hle h)
  | tuple h => exact .tuple (VRs.mono hle h)
theorem VRs.mono {φ ψ : Phi} (hle : φ.le ψ) {v w : List Value} (h : VRs φ v w) : VRs ψ v w := by
  cases h with
  | nil => exact .nil
  | cons h hs => exact .cons (VR.mono hle h) (VRs.mono hle hs)
end

theorem VRs.length {φ : Phi} : ∀ {l m : List Value}, VRs φ l m → l.length = m.length
  | _, _, .nil => rfl
  | _, _, .cons _ hs => by simp [VRs.length hs]
theorem VRs.get {φ : Phi} : ∀ {l m : List Value}, VRs φ l m → ∀ (k : Nat) (v : Value), l[k]? = some v → ∃ w, m[k]? = some w ∧ VR φ v w
  | _, _, .nil, k, v, h => by simp at h
  | _, _, .cons (b := b) h hs, 0, v, e => by simp at e; subst e; exact ⟨b, rfl, h⟩
  | _, _, .cons h hs, k + 1, v, e => by
    obtain ⟨w, hw, hr⟩ := VRs.get hs k v (by simpa using e)
    exact ⟨w, by simpa using hw, hr⟩
theorem VRs.getRight {φ : Phi} : ∀ {l m : List Value}, VRs φ l m → ∀ (k : Nat) (w : Value), m[k]? = some w → ∃ v, l[k]? = some v ∧ VR φ v w
  | _, _, .nil, k, v, h => by simp at h
  | _, _, .cons (a := a) h hs, 0, v, e => by simp at e; subst e; exact ⟨a, rfl, h⟩
  | _, _, .cons h hs, k + 1, v, e => by
    obtain ⟨w, hw, hr⟩ := VRs.getRight hs k v (by simpa using e)
    exact ⟨w, by simpa using hw, hr⟩
theorem VRs.getD {φ : Phi} {l m : List Value} (h : VRs φ l m) {d e : Value} (hd : VR φ d e) (k : Nat) : VR φ (l.getD k d) (m.getD k e) := by
  simp only [List.getD_eq_getElem?_getD]
  cases hl : l[k]? with
  | some v =>
    obtain ⟨w, hw, hr⟩ := h.get k v hl
    simpa [hw] using hr
  | none =>
    have : m[k]? = none := by
      rw [List.getElem?_eq_none_iff] at hl ⊢
      rw [← h.length]; exact hl
    simpa [this] using hd
theorem VRs.of_get {φ : Phi} : ∀ {l m : List Value}, l.length = m.length → (∀ (k : Nat) (v w : Value), l[k]? = some v → m[k]? = some w → VR φ v w) → VRs φ l m
  | [], [], _, _ => .nil
  | [], _ :: _, h, _ => by simp at h
  | _ :: _, [], h, _ => by simp at h
  | a :: l, b :: m, h, hg => .cons (hg 0 a b rfl rfl) (VRs.of_get (by simpa using h) fun k v w hv hw => hg (k + 1) v w (by simpa using hv) (by simpa using hw))
theorem VRs.set {φ : Phi} : ∀ {l m : List Value}, VRs φ l m → ∀ {v w : Value}, VR φ v w → ∀ k, VRs φ (l.set k v) (m.set k w)
  | _, _, .nil, _, _, _, k => by simp; exact .nil
  | _, _, .cons h hs, _, _, hv, 0 => .cons hv hs
  | _, _, .cons h hs, _, _, hv, k + 1 => .cons h (VRs.set hs hv k)
theorem VRs.append {φ : Phi} : ∀ {l m : List Value}, VRs φ l m → ∀ {l' m' : List Value}, VRs φ l' m' → VRs φ (l ++ l') (m ++ m')
  | _, _, .nil, _, _, h => h
  | _, _, .cons h hs, _, _, h' => .cons h (VRs.append hs h')
theorem VRs.drop {φ : Phi} : ∀ {l m : List Value}, VRs φ l m → ∀ k, VRs φ (l.drop k) (m.drop k)
  | _, _, .nil, k => by simp; exact .nil
  | _, _, .cons h hs, 0 => .cons h hs
  | _, _, .cons h hs, k + 1 => by simpa using VRs.drop hs k
theorem VRs.take {φ : Phi} : ∀ {l m : List Value}, VRs φ l m → ∀ k, VRs φ (l.take k) (m.take k)
  | _, _, .nil, k => by simp; exact .nil
  | _, _, .cons h hs, 0 => by simp; exact .nil
  | _, _, .cons h hs, k + 1 => by simpa using VRs.cons h (VRs.take hs k)
theorem VRs.replicate {φ : Phi} {v w : Value} (h : VR φ v w) : ∀ n, VRs φ (List.replicate n v) (List.replicate n w)
  | 0 => .nil
  | n + 1 => by simpa [List.replicate_succ] using VRs.cons h (VRs.replicate h n)
theorem VR.undef (φ : Phi) : VR φ undef undef := .tuple .nil

theorem VR.of_atom {φ : Phi} {v : Value} (h : atom v = true) : VR φ v v := by
  unfold atom at h
  split at h <;> first | exact .bool _ | exact .int _ _ | exact .string _ | exact .ptrNil | exact .mapNil | exact .nilFunc | exact .nilIface | exact .sliceNil | cases h
theorem VRs.of_atoms {φ : Phi} : ∀ {l : List Value}, l.all atom = true → VRs φ l l
  | [], _ => .nil
  | a :: l, h => by
    simp at h
    exact .cons (VR.of_atom h.1) (VRs.of_atoms (by simpa using h.2))
theorem VR.of_plain {φ : Phi} {v : Value} (h : plain v = true) : VR φ v v := by
  unfold plain at h
  split at h
  · rename_i cs
    have := VR.agg (VRs.of_atoms (φ := φ) h)
    simpa using this
  · rename_i cs
    have := VR.tuple (VRs.of_atoms (φ := φ) h)
    simpa using this
  · exact VR.of_atom h

/-- what holds no address stands for itself alone -/
theorem VR.eq_of_atom {φ : Phi} {v w : Value} (h : atom v = true) (r : VR φ v w) : w = v := by
  cases r with
  | slice h' => simp [atom] at h
  | slice0 => simp [atom] at h
  | _ => first | rfl | simp [atom] at h
theorem VRs.eq_of_atoms {φ : Phi} : ∀ {l m : List Value}, l.all atom = true → VRs φ l m → m = l
  | [], _, _, .nil => rfl
  | a :: l, _, h, .cons r rs => by
    simp at h
    rw [VR.eq_of_atom h.1 r, VRs.eq_of_atoms (by simpa using h.2) rs]
theorem VR.eq_of_plain {φ : Phi} {v w : Value} (h : plain v = true) (r : VR φ v w) : w = v := by
  cases r with
  | agg rs => simp only [plain] at h; rw [VRs.eq_of_atoms (by simpa using h) rs]
  | tuple rs => simp only [plain] at h; rw [VRs.eq_of_atoms (by simpa using h) rs]
  | _ => exact VR.eq_of_atom (φ := φ) (by simpa [plain] using h) (by constructor <;> assumption)

theorem VR.cells {φ : Phi} {v w : Value} (h : VR φ v w) : VRs φ v.cells.toList w.cells.toList := by
  have one : ∀ {a b : Value}, VR φ a b → VRs φ [a] [b] := fun h => .cons h .nil
  cases h with
  | agg hs => simpa [Value.cells] using hs
  | _ => simp only [Value.cells]; apply one; constructor <;> assumption

theorem VR.oneCell {φ : Phi} {v w : Value} (h : VR φ v w) : VE.oneCell v = w.oneCell' := by
  cases h <;> rfl

/-! ## Memory -/

def CellsR (φ : Phi) (c : Array Value) (sh : Nat) (vs : List Value) : Prop := ∀ k v, vs[k]? = some v → ∃ v', c[sh + k]? = some v' ∧ VR φ v v'

/-- none of the cells is frozen -/
def Thawed (n : Nat) (fr : Nat × Nat) : Prop := fr.2 ≤ fr.1 ∨ n ≤ fr.1

structure EntryR (φ : Phi) (e e' : MapEntry) : Prop where
  key : VR φ e.key e'.key
  val : VR φ e.val e'.val
  born : e'.born = e.born

inductive EntriesR (φ : Phi) : List MapEntry → List MapEntry → Prop where
  | nil : EntriesR φ [] []
  | cons {e e' : MapEntry} {l m : List MapEntry} (h : EntryR φ e e') (hs : EntriesR φ l m) : EntriesR φ (e :: l) (e' :: m)

def ObjR (φ : Phi) (W : World) (L : Loc) : AObj → Prop
  | .cells vs es => ∃ c e fr, W.heap[L.blk]? = some (.cells c e fr) ∧ c.size = L.cap ∧ L.es = es ∧ Thawed c.size fr ∧ (es ≠ 0 → fr = (0, 0)) ∧
      L.sh + vs.length ≤ c.size ∧ CellsR φ c L.sh vs
  | .map es clock => ∃ es', W.heap[L.blk]? = some (.map es' clock) ∧ EntriesR φ es es'.toList
  | .iter m since seen stepped => L.sh = 0 ∧ ∃ m', W.heap[L.blk]? = some (.mapIter m' since seen.toArray stepped) ∧ ∀ r, m = some r → ∃ L', φ r = some L' ∧ m' = some L'.blk
  | .ro vs => ∃ c e fr, W.heap[L.blk]? = some (.cells c e fr) ∧ L.sh + vs.length ≤ c.size ∧ CellsR φ c L.sh vs

theorem EntryR.mono {φ ψ : Phi} (hle : φ.le ψ) {e e' : MapEntry} (h : EntryR φ e e') : EntryR ψ e e' := ⟨h.key.mono hle, h.val.mono hle, h.born⟩
theorem EntriesR.mono {φ ψ : Phi} (hle : φ.le ψ) : ∀ {l m : List MapEntry}, EntriesR φ l m → EntriesR ψ l m
  | _, _, .nil => .nil
  | _, _, .cons h hs => .cons (h.mono hle) (EntriesR.mono hle hs)
theorem CellsR.mono {φ ψ : Phi} (hle : φ.le ψ) {c : Array Value} {sh : Nat} {vs : List Value} (h : CellsR φ c sh vs) : CellsR ψ c sh vs :=
  fun k v hk => let ⟨v', h1, h2⟩ := h k v hk; ⟨v', h1, h2.mono hle⟩

/-- the same where the block is the same -/
theorem ObjR.mono {φ ψ : Phi} (hle : φ.le ψ) {W W' : World} {L : Loc} (hb : W'.heap[L.blk]? = W.heap[L.blk]?) {o : AObj} (h : ObjR φ W L o) : ObjR ψ W' L o := by
  cases o with
  | cells vs es =>
    obtain ⟨c, e, fr, h1, h2, h3, h4, h5, h6, h7⟩ := h
    exact ⟨c, e, fr, by rw [hb, h1], h2, h3, h4, h5, h6, h7.mono hle⟩
  | map es clock =>
    obtain ⟨es', h1, h2⟩ := h
    exact ⟨es', by rw [hb, h1], h2.mono hle⟩
  | iter m since seen stepped =>
    obtain ⟨h0, m', h1, h2⟩ := h
    exact ⟨h0, m', by rw [hb, h1], fun r hr => let ⟨L', h3, h4⟩ := h2 r hr; ⟨L', hle _ _ h3, h4⟩⟩
  | ro vs =>
    obtain ⟨c, e, fr, h1, h6, h7⟩ := h
    exact ⟨c, e, fr, by rw [hb, h1], h6, h7.mono hle⟩

structure Sim (B : Nat) (W0 : World) (φ : Phi) (s : St) (W : World) : Prop where
  below : Below B W0 W
  base : B ≤ W0.heap.size
  objs : ∀ i L o, φ i = some L → s.get i = some o → ObjR φ W L o
  inj : ∀ i j L L', φ i = some L → φ j = some L' → (s.get i).isSome = true → (s.get j).isSome = true → L.blk = L'.blk → i = j
  dom : ∀ i L, φ i = some L → i < s.nx ∧ (s.ro i = false → B ≤ L.blk) ∧ L.blk < W.heap.size

variable {B : Nat} {W0 W : World} {φ : Phi} {s : St}

theorem ro_push (s : St) (o : AObj) (i : Nat) (h : i ≠ s.nx) : (s.push o).ro i = s.ro i := by
  unfold St.ro
  rw [St.get_push_old s o i h]
theorem ro_put (s : St) (o : Option AObj) (i j : Nat) (h : j ≠ i) : (s.put i o).ro j = s.ro j := by
  unfold St.ro
  rw [St.get_put_ne s i j o h]

theorem Sim.size (h : Sim B W0 φ s W) : B ≤ W.heap.size := Nat.le_trans h.base h.below.size

def ext (φ : Phi) (i : Nat) (L : Loc) : Phi := fun j => if j = i then some L else φ j
theorem ext_le {φ : Phi} {i : Nat} {L : Loc} (h : φ i = none) : φ.le (ext φ i L) := by
  intro j L' hj
  unfold ext
  split
  · rename_i e; subst e; rw [h] at hj; cases hj
  · exact hj
theorem ext_same (φ : Phi) (i : Nat) (L : Loc) : ext φ i L i = some L := by simp [ext]
theorem Sim.fresh (h : Sim B W0 φ s W) : φ s.nx = none := by
  cases e : φ s.nx with
  | none => rfl
  | some L => have := (h.dom _ _ e).1; omega

/-- more is known, of new names alone -/
structure Grow (s s' : St) (φ φ' : Phi) : Prop where
  le : φ.le φ'
  same : ∀ i, i < s.nx → φ' i = φ i
  nx : s.nx ≤ s'.nx
theorem Grow.refl (s : St) (φ : Phi) : Grow s s φ φ := ⟨Phi.le_refl _, fun _ _ => rfl, Nat.le_refl _⟩
theorem Grow.of_nx {s s' : St} (φ : Phi) (h : s'.nx = s.nx) : Grow s s' φ φ := ⟨Phi.le_refl _, fun _ _ => rfl, by omega⟩
theorem Grow.trans {s s1 s2 : St} {φ φ1 φ2 : Phi} (h : Grow s s1 φ φ1) (k : Grow s1 s2 φ1 φ2) : Grow s s2 φ φ2 :=
  ⟨Phi.le_trans h.le k.le, fun i hi => (k.same i (Nat.lt_of_lt_of_le hi h.nx)).trans (h.same i hi), Nat.le_trans h.nx k.nx⟩
theorem Grow.push (h : Sim B W0 φ s W) (o : AObj) (L : Loc) : Grow s (s.push o) φ (ext φ s.nx L) :=
  ⟨ext_le h.fresh, fun i hi => by unfold ext; rw [if_neg (by omega)], by rw [St.nx_push]; omega⟩

/-- A draw changes nothing. -/
theorem Sim.of_heap (h : Sim B W0 φ s W) {W' : World} (hb : Below W.heap.size W W') (hs : W'.heap.size = W.heap.size) : Sim B W0 φ s W' where
  below := h.below.trans (hb.mono h.size)
  base := h.base
  objs := fun i L o hi ho => (h.objs i L o hi ho).mono (Phi.le_refl _) (hb.block _ (h.dom i L hi).2.2)
  inj := h.inj
  dom := fun i L hi => by have := h.dom i L hi; exact ⟨this.1, this.2.1, by omega⟩

/-- A new block for a new name. -/
theorem Sim.push (h : Sim B W0 φ s W) {W' : World} (hb : Below W.heap.size W W') (o : AObj) (L : Loc) (hL : L.blk = W.heap.size) (hs : W.heap.size < W'.heap.size)
    (ho : ObjR (ext φ s.nx L) W' L o) : Sim B W0 (ext φ s.nx L) (s.push o) W' := by
  have hle := ext_le (φ := φ) (L := L) h.fresh
  have split : ∀ i M, ext φ s.nx L i = some M → (i = s.nx ∧ M = L) ∨ (i ≠ s.nx ∧ φ i = some M) := by
    intro i M hi
    unfold ext at hi
    split at hi
    · exact .inl ⟨by assumption, (Option.some.inj hi).symm⟩
    · exact .inr ⟨by assumption, hi⟩
  refine ⟨h.below.trans (hb.mono h.size), h.base, ?_, ?_, ?_⟩
  · intro i M x hi hx
    rcases split i M hi with ⟨rfl, rfl⟩ | ⟨hne, hi⟩
    · rw [St.get_push_new s o x hx]; exact ho
    · rw [St.get_push_old s o i hne] at hx
      exact (h.objs i M x hi hx).mono hle (hb.block _ (h.dom i M hi).2.2)
  · intro i j M M' hi hj hsi hsj he
    rcases split i M hi with ⟨rfl, rfl⟩ | ⟨hne, hi'⟩ <;> rcases split j M' hj with ⟨rfl, rfl⟩ | ⟨hne', hj'⟩
    · rfl
    · have := (h.dom j M' hj').2.2; omega
    · have := (h.dom i M hi').2.2; omega
    · rw [St.get_push_old s o i hne] at hsi
      rw [St.get_push_old s o j hne'] at hsj
      exact h.inj i j M M' hi' hj' hsi hsj he
  · intro i M hi
    rw [St.nx_push]
    rcases split i M hi with ⟨rfl, rfl⟩ | ⟨hne, hi⟩
    · have := h.size; exact ⟨by omega, fun _ => by omega, by omega⟩
    · have := h.dom i M hi; rw [ro_push s o i hne]; exact ⟨by omega, this.2.1, by omega⟩

/-- One object changes, and its block. -/
theorem Sim.put (h : Sim B W0 φ s W) {W' : World} {i : Nat} {L : Loc} (hi : φ i = some L) {o : AObj} (hg : (s.get i).isSome = true) (hro : s.ro i = false)
    (hb : ∀ k, k ≠ L.blk → W'.heap[k]? = W.heap[k]?) (hs : W'.heap.size = W.heap.size) (hos : W'.os = W.os) (ht : W'.tape = W.tape) (hout : W'.output = W.output)
    (ho : ObjR φ W' L o) : Sim B W0 φ (s.put i (some o)) W' := by
  have hd := h.dom i L hi
  have hdB := hd.2.1 hro
  refine ⟨h.below.trans ⟨hos, ht, hout, by omega, fun k hk => hb k (by omega)⟩, h.base, ?_, ?_, ?_⟩
  · intro j M x hj hx
    by_cases e : j = i
    · subst e
      rw [hi] at hj
      obtain rfl := Option.some.inj hj
      rw [St.get_put_same s j _ hg] at hx
      obtain rfl := Option.some.inj hx
      exact ho
    · rw [St.get_put_ne s i j _ e] at hx
      refine (h.objs j M x hj hx).mono (Phi.le_refl _) (hb _ fun he => e ?_)
      exact h.inj j i M L hj hi (by simp [hx]) hg he
  · intro a b M M' ha hb' hsa hsb he
    have key : ∀ a, ((s.put i (some o)).get a).isSome = true → (s.get a).isSome = true := by
      intro a hsa
      by_cases e : a = i
      · subst e; exact hg
      · rw [St.get_put_ne s i a _ e] at hsa; exact hsa
    exact h.inj a b M M' ha hb' (key a hsa) (key b hsb) he
  · intro j M hj
    have := h.dom j M hj
    rw [St.nx_put]
    by_cases e : j = i
    · subst e
      rw [hi] at hj
      obtain rfl := Option.some.inj hj
      exact ⟨by omega, fun _ => hdB, by omega⟩
    · rw [ro_put s _ i j e]
      exact ⟨by omega, this.2.1, by omega⟩

/-- A name goes. -/
theorem Sim.kill (h : Sim B W0 φ s W) (i : Nat) (hg : (s.get i).isSome = true) (hro : s.ro i = false) : Sim B W0 φ (s.put i none) W where
  below := h.below
  base := h.base
  objs := by
    intro j M x hj hx
    by_cases e : j = i
    · subst e; rw [St.get_put_same s j _ hg] at hx; cases hx
    · rw [St.get_put_ne s i j _ e] at hx; exact h.objs j M x hj hx
  inj := by
    intro a b M M' ha hb' hsa hsb he
    have key : ∀ a, ((s.put i none).get a).isSome = true → (s.get a).isSome = true := by
      intro a hsa
      by_cases e : a = i
      · subst e; exact hg
      · rw [St.get_put_ne s i a _ e] at hsa; exact hsa
    exact h.inj a b M M' ha hb' (key a hsa) (key b hsb) he
  dom := fun j L hi => by
    have := h.dom j L hi
    by_cases e : j = i
    · subst e; exact ⟨this.1, fun _ => this.2.1 hro, this.2.2⟩
    · rw [ro_put s _ i j e]; exact this

theorem Sim.kill_blocks (h : Sim B W0 φ s W) (i : Nat) (hg : (s.get i).isSome = true) {L : Loc} (hi : φ i = some L) : ∀ j M, φ j = some M → ((s.put i none).get j).isSome = true → M.blk ≠ L.blk := by
  intro j M hj hs he
  by_cases e : j = i
  · subst e; rw [St.get_put_same s j _ hg] at hs; cases hs
  · rw [St.get_put_ne s i j _ e] at hs
    exact e (h.inj j i M L hj hi hs hg he)

/-- A new name for a block that no living name has. -/
theorem Sim.renew (h : Sim B W0 φ s W) {W' : World} (o : AObj) (L : Loc) (hL : B ≤ L.blk ∧ L.blk < W.heap.size)
    (hdead : ∀ j M, φ j = some M → (s.get j).isSome = true → M.blk ≠ L.blk)
    (hb : ∀ k, k ≠ L.blk → W'.heap[k]? = W.heap[k]?) (hs : W'.heap.size = W.heap.size) (hos : W'.os = W.os) (ht : W'.tape = W.tape) (hout : W'.output = W.output)
    (ho : ObjR (ext φ s.nx L) W' L o) : Sim B W0 (ext φ s.nx L) (s.push o) W' := by
  have hle := ext_le (φ := φ) (L := L) h.fresh
  have split : ∀ i M, ext φ s.nx L i = some M → (i = s.nx ∧ M = L) ∨ (i ≠ s.nx ∧ φ i = some M) := by
    intro i M hi
    unfold ext at hi
    split at hi
    · exact .inl ⟨by assumption, (Option.some.inj hi).symm⟩
    · exact .inr ⟨by assumption, hi⟩
  refine ⟨h.below.trans ⟨hos, ht, hout, by omega, fun k hk => hb k (by omega)⟩, h.base, ?_, ?_, ?_⟩
  · intro i M x hi hx
    rcases split i M hi with ⟨rfl, rfl⟩ | ⟨hne, hi⟩
    · rw [St.get_push_new s o x hx]; exact ho
    · rw [St.get_push_old s o i hne] at hx
      exact (h.objs i M x hi hx).mono hle (hb _ (hdead i M hi (by simp [hx])))
  · intro i j M M' hi hj hsi hsj he
    rcases split i M hi with ⟨rfl, rfl⟩ | ⟨hne, hi'⟩ <;> rcases split j M' hj with ⟨rfl, rfl⟩ | ⟨hne', hj'⟩
    · rfl
    · rw [St.get_push_old s o j hne'] at hsj
      exact absurd he.symm (hdead j M' hj' hsj)
    · rw [St.get_push_old s o i hne] at hsi
      exact absurd he (hdead i M hi' hsi)
    · rw [St.get_push_old s o i hne] at hsi
      rw [St.get_push_old s o j hne'] at hsj
      exact h.inj i j M M' hi' hj' hsi hsj he
  · intro i M hi
    rw [St.nx_push]
    rcases split i M hi with ⟨rfl, rfl⟩ | ⟨hne, hi⟩
    · exact ⟨by omega, fun _ => by omega, by omega⟩
    · have := h.dom i M hi; rw [ro_push s o i hne]; exact ⟨by omega, this.2.1, by omega⟩
end Go.VE
