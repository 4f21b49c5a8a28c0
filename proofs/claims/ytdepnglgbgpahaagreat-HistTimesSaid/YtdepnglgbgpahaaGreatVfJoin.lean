/-
  HistTimes: the statement.
-/
import Derived.Test.YtdepnglgbgpahaaGreatVfRow
import Derived.Test.YtdepnglgbgpahaaGreatRows
import Derived.ProofKit
import Derived.OpenShut
import Derived.JoinedCond
import Derived.Carry
import Derived.Deep.Slices
set_option linter.unusedSectionVars false
set_option linter.unusedVariables false
set_option linter.unusedSimpArgs false
namespace Go.Proofs.YtdepnglgbgpahaaGreat
open Go Go.VE Go.Proofs Go.RowKit Go.ChangeShapes Go.WideShapes Go.Deep

theorem times_empty (W : World) {blk off c : Nat} {cc : Array Value} {e : TypeId} {fr : Nat × Nat} (hb : W.heap[blk]? = some (.cells cc e fr)) (ho : off ≤ cc.size) (hm : c ≤ maxLen) :
    Calls Tryz.prog 3 #[.slice (some ⟨blk, off, none⟩) 0 c] W fun e W' => e = .returned (.bool true) ∧ Below W.heap.size W W' := by
  have hs := sim_row W hb (vs := []) (off := off) (by simpa using ho) (fun k v hk => by simp at hk) rfl
  refine times_core W (vs := []) (n := 0) (fr := fun _ => 0) (at' := fun _ => 0) (to := fun _ => 0) (bk := fun _ => false) (p := some ⟨0, 0, none⟩) (b := 0) (c := 1)
    ⟨rfl, fun i h => by omega, fun i h => by omega, fun i h => by omega, fun i h => by omega, fun i h => by omega, fun i h => by omega⟩ rfl (by omega) (fun h => by omega) (by show (0 : Nat) + 1 < 100; omega) hs ?_
  exact .slice (L := ⟨blk, off, 0, 0⟩) rfl (Nat.zero_le _) hm (by simp) (by simp)
theorem times_zero (W : World) (a : Addr) : Calls Tryz.prog 3 #[.slice (some a) 0 0] W fun e W' => e = .returned (.bool true) ∧ Below W.heap.size W W' := by
  have hs : Sim W.heap.size W (fun _ => none) ⟨.nil, 0⟩ W :=
    ⟨Below.refl _ _, Nat.le_refl _, fun i L o h => (by cases h), fun i j L L' h => (by cases h), fun i L h => (by cases h)⟩
  exact times_core W (vs := []) (n := 0) (fr := fun _ => 0) (at' := fun _ => 0) (to := fun _ => 0) (bk := fun _ => false) (s0 := ⟨.nil, 0⟩) (p := some ⟨0, 0, none⟩) (b := 0) (c := 1)
    ⟨rfl, fun i h => by omega, fun i h => by omega, fun i h => by omega, fun i h => by omega, fun i h => by omega, fun i h => by omega⟩ rfl (by omega) (fun h => by omega) (by show (0 : Nat) < 100; omega) hs (.slice0 (by simp))

theorem times_val (W : World) {H : Type} {enc : TypeId × Value → H} {v : Value} {d : DataW H} {p : List MemPlace} (hv0 : ∃ a len cap, v = .slice a len cap) (h : DataW.Trod enc Tryz.prog W 0 (fun _ => true) true 22 v d p) :
    Calls Tryz.prog 3 #[v] W fun e W' => e = .returned (.bool true) ∧ Below W.heap.size W W' := by
  obtain ⟨fuel, hf⟩ := h
  obtain ⟨a0, l0, c0, rfl⟩ := hv0
  have hC : Tryz.prog.cellsOf 37 = 18 := by kernel_rfl
  rcases open_slice und22 hf with ⟨h1, _⟩ | ⟨a, len, cap, m, n, D, Pl, h1, _, hl, hm, hmm, hx, hi⟩
  · have h1 : [Value.slice a0 l0 c0] = [Value.slice none 0 0] := h1
    simp only [List.cons.injEq, and_true] at h1
    rw [h1]
    exact times_nil W
  · simp only [if_true] at hmm
    subst hmm
    rw [hC] at hi
    have h1 : [Value.slice a0 l0 c0] = [Value.slice (some a) len m] := h1
    simp only [List.cons.injEq, and_true] at h1
    rw [h1]
    simp only [Prod.mk.injEq] at hx
    have hlen : len < 9223372036854775808 := by
      have : maxLen = 9223372036854775807 := rfl
      omega
    have hev : ∀ i, i < m → ∃ cs, EvCells cs ∧ ∀ k, k < 18 → W.cell? ((a.add (i * 18)).add k) = cs[k]? := by
      intro i him
      obtain ⟨cs, hc, ht⟩ := hi i him
      obtain ⟨_, h18, hk⟩ := World.cells?_some hc
      obtain ⟨fr, at', to, bk, sa, sb, e6, e7, e14, e15, e16, e17, ha⟩ := event_open h18 ht
      exact ⟨cs, ⟨h18, ha, fr, at', to, bk, sa, sb, e6, e7, e14, e15, e16, e17⟩, hk⟩
    by_cases hm0 : m = 0
    · subst hm0
      obtain rfl : len = 0 := by omega
      exact times_zero W a
    · obtain ⟨blk, off, spot⟩ := a
      obtain rfl : spot = none := by
        obtain ⟨cs, ⟨h18, _⟩, hk⟩ := hev 0 (by omega)
        have := hk 0 (by omega)
        rw [List.getElem?_eq_getElem (by omega)] at this
        simpa [Addr.add] using World.cell?_spot this
      simp only [add_lit] at hev
      by_cases h0 : 0 < len
      · exact times_row W (by omega) hl hm h0 fun i hi => by
          obtain ⟨cs, h1, h2⟩ := hev i (by omega)
          exact ⟨cs, h1, fun k hk => by rw [← h2 k hk, Nat.add_assoc]⟩
      · obtain rfl : len = 0 := by omega
        obtain ⟨cs, ⟨_, _, _, _, _, _, sa, sb, e6, _⟩, hk⟩ := hev 0 (by omega)
        have := hk 6 (by omega)
        rw [e6] at this
        unfold World.cell? at this
        simp only at this
        cases hh : W.heap[blk]? with
        | none => simp [hh] at this
        | some o =>
          cases o with
          | cells a b d =>
            simp only [hh] at this
            have := (Array.getElem?_eq_some_iff.1 this).1
            exact times_empty W hh (by omega) hm
          | _ => simp [hh] at this
end Go.Proofs.YtdepnglgbgpahaaGreat
