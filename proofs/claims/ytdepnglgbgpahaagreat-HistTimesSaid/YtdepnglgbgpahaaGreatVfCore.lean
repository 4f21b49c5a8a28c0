/-
  HistTimes at a row of events that lies in the caller's memory.
-/
import Derived.Test.YtdepnglgbgpahaaGreatVfSort2
set_option linter.unusedSectionVars false
set_option linter.unusedVariables false
set_option linter.unusedSimpArgs false
namespace Go.Proofs.YtdepnglgbgpahaaGreat
open Go Go.VE Go.Proofs Go.RowKit

variable {vs : List Value} {n : Nat} {fr at' to : Nat → Int} {bk : Nat → Bool}

noncomputable def lawS (vs : List Value) (n : Nat) (at' : Nat → Int) : CallR := orElseR awakeS (sortS vs n at')

theorem lawS_six (s : St) : lawS vs n at' 6 [] s = some (.bool true, s) := rfl
theorem lawS_other {f : Nat} (h6 : f ≠ 6) (h13 : f ≠ 13) (args : List Value) (s : St) : lawS vs n at' f args s = none := by
  have h1 : awakeS f args s = none := by
    unfold awakeS
    split
    · rename_i hf; exact absurd (Nat.eq_of_beq_eq_true hf) h6
    · rfl
  unfold lawS orElseR
  rw [h1]
  unfold sortS
  rw [dif_neg]
  rintro ⟨r, h, _⟩
  exact h13 h
theorem lawS_sort (args : List Value) (s : St) : lawS vs n at' 13 args s = sortS vs n at' 13 args s := rfl

theorem times_core (W : World) {s0 : St} {φ : Phi} {p : Option Addr} {b c : Nat} {y : Value} (hE : Evs vs n fr at' to bk) (hone : vs.all oneCell = true) (hn : n < 9223372036854775808)
    (hp : 0 < n → p = some ⟨b, 0, none⟩ ∧ s0.get b = some (.ro vs) ∧ b < s0.nx) (hnx : s0.nx < 100) (hs : Sim W.heap.size W φ s0 W) (hy : VR φ (.slice p n c) y) :
    Calls Tryz.prog 3 #[y] W fun e W' => e = .returned (.bool true) ∧ Below W.heap.size W W' := by
  obtain ⟨s', n0, h⟩ := times_big (S := lawS vs n at') (vs := vs) (n := n) (fr := fr) (at' := at') (to := to) (bk := bk) (s0 := s0) (p := p) (b := b) (c := c) lawS_six (lawS_other (by decide) (by decide)) (lawS_other (by decide) (by decide))
    (fun s x => by rw [lawS_sort]; exact hSort0_ok s x)
    (fun s x b r m c c' L h1 h2 h3 h4 h5 h6 h7 h8 h9 => by simp only [lawS_sort]; exact hSort_ok s x b r m c c' L h1 h2 h3 h4 h5 h6 h7 h8 h9)
    (lawS_other (by decide) (by decide)) (lawS_other (by decide) (by decide)) hE hone hp hn hnx
  have hok := (evS_ok T_ok mixed (orElse_ok awakeS_ok (sortS_ok hE hn)) n0).1
  refine (hok 3 _ s0 _ s' (h n0 (Nat.le_refl _)) W.heap.size W φ W [y] hs (.cons hy .nil)).mono ?_
  rintro e W' ⟨φ', v', h1, h2, rfl, h3⟩
  cases h3
  exact ⟨rfl, h2.below⟩

/-- one name, for a row that is only read -/
theorem sim_row (W : World) {blk off : Nat} {cs : Array Value} {e : TypeId} {fr : Nat × Nat} (h : W.heap[blk]? = some (.cells cs e fr)) (hl : off + vs.length ≤ cs.size) (hv : ∀ k v, vs[k]? = some v → cs[off + k]? = some v) (ha : vs.all atom = true) :
    Sim W.heap.size W (fun i => if i = 0 then some ⟨blk, off, 0, 0⟩ else none) ((⟨.nil, 0⟩ : St).push (.ro vs)) W := by
  have hg : ((⟨.nil, 0⟩ : St).push (.ro vs)).get 0 = some (.ro vs) := get_push_same ⟨.nil, 0⟩ _ (by show (0 : Nat) < 4096; omega)
  have one : ∀ (i : Nat) (L : VE.Loc), (if i = 0 then some (⟨blk, off, 0, 0⟩ : VE.Loc) else none) = some L → i = 0 ∧ L = ⟨blk, off, 0, 0⟩ := by
    intro i L h
    split at h
    · exact ⟨by assumption, (Option.some.inj h).symm⟩
    · cases h
  refine ⟨Below.refl _ _, Nat.le_refl _, ?_, ?_, ?_⟩
  · intro i L o h1 h2
    obtain ⟨rfl, rfl⟩ := one i L h1
    rw [hg] at h2
    obtain rfl := Option.some.inj h2
    refine ⟨cs, e, fr, h, hl, fun k v hk => ⟨v, hv k v hk, VR.of_atom ?_⟩⟩
    exact List.all_eq_true.1 ha v (List.mem_of_getElem? hk)
  · intro i j L L' h1 h2 _ _ _
    rw [(one i L h1).1, (one j L' h2).1]
  · intro i L h1
    obtain ⟨rfl, rfl⟩ := one i L h1
    refine ⟨by show (0 : Nat) < 0 + 1; omega, fun hr => ?_, ?_⟩
    · simp [St.ro, hg] at hr
    · exact (Array.getElem?_eq_some_iff.1 h).1
end Go.Proofs.YtdepnglgbgpahaaGreat
