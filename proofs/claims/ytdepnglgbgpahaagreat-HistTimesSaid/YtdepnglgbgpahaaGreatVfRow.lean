/-
  A row of events.
-/
import Derived.Test.YtdepnglgbgpahaaGreatVfRead
import Derived.Test.YtdepnglgbgpahaaGreatVfCore
set_option linter.unusedSectionVars false
set_option linter.unusedVariables false
set_option linter.unusedSimpArgs false
namespace Go.Proofs.YtdepnglgbgpahaaGreat
open Go Go.VE Go.Proofs Go.RowKit

/-- an event's cells -/
def EvCells (cs : List Value) : Prop := cs.length = 18 ∧ cs.all atom = true ∧ ∃ (fr at' to : Int) (bk : Bool) (sa sb : ByteArray), cs[6]? = some (.string sa) ∧ cs[7]? = some (.string sb) ∧ cs[14]? = some (.int .i64 fr) ∧ cs[15]? = some (.int .i64 at') ∧ cs[16]? = some (.int .i64 to) ∧ cs[17]? = some (.bool bk)

def intAt (vs : List Value) (o : Nat) : Int := match vs[o]? with
  | some (.int _ v) => v
  | _ => 0
def boolAt (vs : List Value) (o : Nat) : Bool := match vs[o]? with
  | some (.bool v) => v
  | _ => false

theorem evs_of {vs : List Value} {n : Nat} (hl : vs.length = n * 18) (h : ∀ i, i < n → ∃ cs, EvCells cs ∧ ∀ k, k < 18 → vs[i * 18 + k]? = cs[k]?) :
    Evs vs n (fun i => intAt vs (i * 18 + 14)) (fun i => intAt vs (i * 18 + 15)) (fun i => intAt vs (i * 18 + 16)) (fun i => boolAt vs (i * 18 + 17)) ∧ vs.all atom = true := by
  refine ⟨⟨hl, ?_, ?_, ?_, ?_, ?_, ?_⟩, ?_⟩
  · intro i hi
    obtain ⟨cs, ⟨_, _, _, _, _, _, sa, sb, e6, e7, e14, e15, e16, e17⟩, hk⟩ := h i hi
    exact ⟨sa, by rw [hk 6 (by omega), e6]⟩
  · intro i hi
    obtain ⟨cs, ⟨_, _, _, _, _, _, sa, sb, e6, e7, e14, e15, e16, e17⟩, hk⟩ := h i hi
    exact ⟨sb, by rw [hk 7 (by omega), e7]⟩
  · intro i hi
    obtain ⟨cs, ⟨_, _, _, _, _, _, sa, sb, e6, e7, e14, e15, e16, e17⟩, hk⟩ := h i hi
    have := hk 14 (by omega)
    rw [e14] at this
    simp [intAt, this]
  · intro i hi
    obtain ⟨cs, ⟨_, _, _, _, _, _, sa, sb, e6, e7, e14, e15, e16, e17⟩, hk⟩ := h i hi
    have := hk 15 (by omega)
    rw [e15] at this
    simp [intAt, this]
  · intro i hi
    obtain ⟨cs, ⟨_, _, _, _, _, _, sa, sb, e6, e7, e14, e15, e16, e17⟩, hk⟩ := h i hi
    have := hk 16 (by omega)
    rw [e16] at this
    simp [intAt, this]
  · intro i hi
    obtain ⟨cs, ⟨_, _, _, _, _, _, sa, sb, e6, e7, e14, e15, e16, e17⟩, hk⟩ := h i hi
    have := hk 17 (by omega)
    rw [e17] at this
    simp [boolAt, this]
  · rw [List.all_eq_true]
    intro v hv
    obtain ⟨j, hj⟩ := List.getElem?_of_mem hv
    have hlt : j < n * 18 := by have := (List.getElem?_eq_some_iff.1 hj).1; omega
    obtain ⟨cs, ⟨hc, ha, _⟩, hk⟩ := h (j / 18) (by omega)
    have := hk (j % 18) (by omega)
    rw [show j / 18 * 18 + j % 18 = j by omega, hj] at this
    exact List.all_eq_true.1 ha v (List.mem_of_getElem? this.symm)

theorem atom_one {vs : List Value} (h : vs.all atom = true) : vs.all oneCell = true := by
  rw [List.all_eq_true] at *
  intro v hv
  have := h v hv
  cases v <;> first | rfl | simp [atom] at this

/-- THE CALL, AT A ROW OF EVENTS. -/
theorem times_row (W : World) {blk off n c : Nat} (hn : n < 9223372036854775808) (hc : n ≤ c) (hm : c ≤ maxLen) (h0 : 0 < n) (h : ∀ i, i < n → ∃ cs, EvCells cs ∧ ∀ k, k < 18 → W.cell? ⟨blk, off + (i * 18 + k), none⟩ = cs[k]?) :
    Calls Tryz.prog 3 #[.slice (some ⟨blk, off, none⟩) n c] W fun e W' => e = .returned (.bool true) ∧ Below W.heap.size W W' := by
  have hb : ∃ (cc : Array Value) (e : TypeId) (fr : Nat × Nat), W.heap[blk]? = some (.cells cc e fr) := by
    obtain ⟨cs, ⟨_, _, _, _, _, _, sa, sb, e6, _⟩, hk⟩ := h 0 h0
    have := hk 6 (by omega)
    rw [e6] at this
    unfold World.cell? at this
    simp only at this
    cases hh : W.heap[blk]? with
    | none => simp [hh] at this
    | some o =>
      cases o with
      | cells a b d => exact ⟨a, b, d, rfl⟩
      | _ => simp [hh] at this
  obtain ⟨cc, e, fr, hb⟩ := hb
  have hat : ∀ i, i < n → ∃ cs, EvCells cs ∧ ∀ k, k < 18 → cc[off + (i * 18 + k)]? = cs[k]? := by
    intro i hi
    obtain ⟨cs, h1, h2⟩ := h i hi
    exact ⟨cs, h1, fun k hk => by rw [← h2 k hk, cell_of_block hb]⟩
  have hsz : off + n * 18 ≤ cc.size := by
    obtain ⟨cs, ⟨_, _, _, _, _, _, sa, sb, e6, e7, e14, e15, e16, e17⟩, hk⟩ := hat (n - 1) (by omega)
    have := hk 17 (by omega)
    rw [e17] at this
    have := (Array.getElem?_eq_some_iff.1 this).1
    omega
  have hlen : ((cc.toList.drop off).take (n * 18)).length = n * 18 := by simp; omega
  have hget : ∀ j, j < n * 18 → ((cc.toList.drop off).take (n * 18))[j]? = cc[off + j]? := by
    intro j hj
    rw [List.getElem?_take, if_pos hj, List.getElem?_drop, Array.getElem?_toList]
  obtain ⟨hE, ha⟩ := evs_of (vs := (cc.toList.drop off).take (n * 18)) hlen fun i hi => by
    obtain ⟨cs, h1, h2⟩ := hat i hi
    exact ⟨cs, h1, fun k hk => by rw [hget _ (by omega), h2 k hk]⟩
  have hs := sim_row W hb (vs := (cc.toList.drop off).take (n * 18)) (off := off) (by omega) (fun k v hk => by
    have hlt : k < n * 18 := by have := (List.getElem?_eq_some_iff.1 hk).1; omega
    rw [← hget k hlt]; exact hk) ha
  refine times_core W (p := some ⟨0, 0, none⟩) (b := 0) (c := 1) hE (atom_one ha) hn (fun _ => ⟨rfl, get_push_same ⟨.nil, 0⟩ _ (by show (0 : Nat) < 4096; omega), by show (0 : Nat) < 0 + 1; omega⟩) (by show (0 : Nat) + 1 < 100; omega) hs ?_
  exact .slice (L := ⟨blk, off, 0, 0⟩) rfl hc hm (by simp) (by simp)

theorem times_nil (W : World) : Calls Tryz.prog 3 #[.slice none 0 0] W fun e W' => e = .returned (.bool true) ∧ Below W.heap.size W W' := by
  have hs : Sim W.heap.size W (fun _ => none) ⟨.nil, 0⟩ W :=
    ⟨Below.refl _ _, Nat.le_refl _, fun i L o h => (by cases h), fun i j L L' h => (by cases h), fun i L h => (by cases h)⟩
  exact times_core W (vs := []) (n := 0) (fr := fun _ => 0) (at' := fun _ => 0) (to := fun _ => 0) (bk := fun _ => false) (s0 := ⟨.nil, 0⟩) (p := none) (b := 0) (c := 0)
    ⟨rfl, fun i h => by omega, fun i h => by omega, fun i h => by omega, fun i h => by omega, fun i h => by omega, fun i h => by omega⟩ rfl (by omega) (fun h => by omega) (by show (0 : Nat) < 100; omega) hs .sliceNil
end Go.Proofs.YtdepnglgbgpahaaGreat
