/-
  The two summaries that HistTimes's open walk takes: awake, slices.SortFunc.
-/
import Derived.Test.YtdepnglgbgpahaaGreatVaJoin
import Derived.Test.YtdepnglgbgpahaaGreatVfCmp
import Derived.Test.YtdepnglgbgpahaaGreatVeStep
set_option linter.unusedSectionVars false
set_option linter.unusedVariables false
set_option linter.unusedSimpArgs false
namespace Go.VE
open Go Go.RowKit
variable {B : Nat} {W0 W : World} {φ : Phi} {s : St}
theorem Sim.later (h : Sim B W0 φ s W) {W' : World} (hb : Below W.heap.size W W') : Sim B W0 φ s W' where
  below := h.below.trans (hb.mono h.size)
  base := h.base
  objs := fun i L o hi ho => (h.objs i L o hi ho).mono (Phi.le_refl _) (hb.block _ (h.dom i L hi).2.2)
  inj := h.inj
  dom := fun i L hi => by
    have h1 := h.dom i L hi
    have h2 := hb.size
    exact ⟨h1.1, h1.2.1, by omega⟩
end Go.VE
namespace Go.Proofs.YtdepnglgbgpahaaGreat
open Go Go.VE Go.Proofs Go.RowKit

def awakeS : CallR := fun f args s => match Nat.beq f 6, args with
  | true, [] => some (.bool true, s)
  | _, _ => none

theorem awakeS_ok : CallOk Tryz.prog awakeS := by
  intro f args s v s' h B W0 φ W args' hs ha
  unfold awakeS at h
  split at h
  · rename_i hf
    obtain rfl := Nat.eq_of_beq_eq_true hf
    simp only [Option.some.injEq, Prod.mk.injEq] at h
    obtain ⟨rfl, rfl⟩ := h
    cases ha
    exact (awake_any W).mono fun e W' ⟨he, hb⟩ => ⟨φ, _, Grow.refl _ _, hs.later hb, he, .bool true⟩
  · cases h

/-- what SortFunc does to a row of places of events -/
def SortRel (vs : List Value) (n : Nat) (at' : Nat → Int) (f : Nat) (args : List Value) (s : St) (r : Value × St) : Prop :=
  f = 13 ∧ ((∃ x, args = [.slice none 0 0, .func (.func 14) #[] #[.pointer (some ⟨x, 0, none⟩)]] ∧ r = (.tuple #[], s)) ∨
    ∃ (x b q c c' : Nat) (L L' : List Nat), args = [.slice (some ⟨q, 0, none⟩) L.length c, .func (.func 14) #[] #[.pointer (some ⟨x, 0, none⟩)]] ∧ s.get x = some (.cells [.slice (some ⟨b, 0, none⟩) n c'] 0) ∧
      s.get b = some (.ro vs) ∧ s.get q = some (.cells (L.map fun i : Nat => Value.int .i64 (i : Int)) 1) ∧ (∀ i, i ∈ L → i < n) ∧ (L.map at').Nodup ∧ 0 < L.length ∧ L.length ≤ n ∧ n ≤ 40 ∧ L'.Perm L ∧ L'.Pairwise (fun i j => at' i < at' j) ∧
      r = (.tuple #[], s.put q (some (.cells (L'.map fun i : Nat => Value.int .i64 (i : Int)) 1))))

open Classical in
noncomputable def sortS (vs : List Value) (n : Nat) (at' : Nat → Int) : CallR := fun f args s =>
  if h : ∃ r, SortRel vs n at' f args s r then some h.choose else none

theorem ints_inj {L M : List Nat} (h : (L.map fun i : Nat => Value.int .i64 (i : Int)) = M.map fun i : Nat => Value.int .i64 (i : Int)) : L = M := by
  induction L generalizing M with
  | nil => cases M with
    | nil => rfl
    | cons _ _ => simp at h
  | cons a L ih => cases M with
    | nil => simp at h
    | cons b M =>
      simp only [List.map_cons, List.cons.injEq, Value.int.injEq, true_and] at h
      rw [ih h.2, show a = b by omega]

theorem sorted_exists (at' : Nat → Int) (L : List Nat) (h : (L.map at').Nodup) : ∃ L' : List Nat, L'.Perm L ∧ L'.Pairwise (fun i j => at' i < at' j) := by
  refine ⟨L.mergeSort (fun i j => decide (at' i ≤ at' j)), List.mergeSort_perm _ _, ?_⟩
  have h1 : (L.mergeSort (fun i j => decide (at' i ≤ at' j))).Pairwise (fun i j => decide (at' i ≤ at' j) = true) :=
    List.pairwise_mergeSort (fun a b c x y => by simp at *; omega) (fun a b => by simp; omega) L
  have h2 : ((L.mergeSort (fun i j => decide (at' i ≤ at' j))).map at').Nodup := ((List.mergeSort_perm L _).map at').nodup_iff.2 h
  rw [List.Nodup, List.pairwise_map] at h2
  refine (h1.and h2).imp ?_
  rintro a b ⟨x, y⟩
  simp at x
  omega

theorem hSort0_ok {vs : List Value} {n : Nat} {at' : Nat → Int} (s : St) (x : Nat) : sortS vs n at' 13 [.slice none 0 0, .func (.func 14) #[] #[.pointer (some ⟨x, 0, none⟩)]] s = some (.tuple #[], s) := by
  have h : ∃ r, SortRel vs n at' 13 [.slice none 0 0, .func (.func 14) #[] #[.pointer (some ⟨x, 0, none⟩)]] s r := ⟨_, rfl, .inl ⟨x, rfl, rfl⟩⟩
  unfold sortS
  rw [dif_pos h]
  obtain ⟨-, ⟨x', h1, h2⟩ | ⟨x', b, q, c, c', L, L', h1, _⟩⟩ := h.choose_spec
  · rw [h2]
  · simp at h1

theorem hSort_ok {vs : List Value} {n : Nat} {at' : Nat → Int} (s : St) (x b r m c c' : Nat) (L : List Nat) (h1 : s.get x = some (.cells [.slice (some ⟨b, 0, none⟩) m c'] 0)) (h2 : s.get b = some (.ro vs)) (h3 : s.get r = some (.cells (L.map fun i : Nat => Value.int .i64 (i : Int)) 1))
    (h4 : ∀ i, i ∈ L → i < m) (h5 : m = n) (h6 : (L.map at').Nodup) (h7 : 0 < L.length) (h8 : L.length ≤ n) (h9 : n ≤ 40) :
      ∃ L' : List Nat, L'.Perm L ∧ L'.Pairwise (fun i j => at' i < at' j) ∧ sortS vs n at' 13 [.slice (some ⟨r, 0, none⟩) L.length c, .func (.func 14) #[] #[.pointer (some ⟨x, 0, none⟩)]] s = some (.tuple #[], s.put r (some (.cells (L'.map fun i : Nat => Value.int .i64 (i : Int)) 1))) := by
  subst h5
  obtain ⟨L1, p1, p2⟩ := sorted_exists at' L h6
  have h : ∃ q, SortRel vs m at' 13 [.slice (some ⟨r, 0, none⟩) L.length c, .func (.func 14) #[] #[.pointer (some ⟨x, 0, none⟩)]] s q := ⟨_, rfl, .inr ⟨x, b, r, c, c', L, L1, rfl, h1, h2, h3, h4, h6, h7, h8, h9, p1, p2, rfl⟩⟩
  obtain ⟨-, ⟨x', k1, k2⟩ | ⟨x', b', q', d, d', M, M', k1, k2, k3, k4, k5, k6, k7, k7', -, k8, k9, k10⟩⟩ := h.choose_spec
  · simp at k1
  · simp only [List.cons.injEq, Value.slice.injEq, Option.some.injEq, Addr.mk.injEq, and_true, true_and] at k1
    obtain ⟨⟨rfl, _, rfl⟩, _⟩ := k1
    rw [h3] at k4
    simp only [Option.some.injEq, AObj.cells.injEq, and_true] at k4
    obtain rfl := ints_inj k4
    refine ⟨M', k8, k9, ?_⟩
    unfold sortS
    rw [dif_pos h, k10]
end Go.Proofs.YtdepnglgbgpahaaGreat
