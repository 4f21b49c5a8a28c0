/-
  Reading and writing: the interpreter's memory and the model's.
-/
import Derived.Test.YtdepnglgbgpahaaGreatVeRel
set_option linter.unusedSectionVars false
set_option linter.unusedVariables false
set_option linter.unusedSimpArgs false
namespace Go.VE
open Go Go.RowKit
variable {P : Program} {T : Tab} {B : Nat} {W0 W : World} {φ : Phi} {s s' : St}

theorem cell_of_block {W : World} {b o : Nat} {c : Array Value} {e : TypeId} {fr : Nat × Nat} (h : W.heap[b]? = some (.cells c e fr)) : W.cell? ⟨b, o, none⟩ = c[o]? := by
  simp [World.cell?, h]
theorem thawed_of_block {W : World} {b o : Nat} {c : Array Value} {e : TypeId} {fr : Nat × Nat} (h : W.heap[b]? = some (.cells c e fr)) (ht : Thawed c.size fr) (ho : o < c.size) : W.frozen? ⟨b, o, none⟩ = false := by
  obtain ⟨lo, hi⟩ := fr
  unfold Thawed at ht
  simp only [World.frozen?, h, Bool.and_eq_false_iff, decide_eq_false_iff_not]
  simp at ht
  omega

theorem cellsR_range {c : Array Value} {sh o n : Nat} {vs : List Value} (hR : CellsR φ c sh vs) (hlen : sh + vs.length ≤ c.size) {r : List Value} (h : slc vs o n = some r) :
    VRs φ r ((c.toList.drop (sh + o)).take n) ∧ r.length = n ∧ ((c.toList.drop (sh + o)).take n).length = n := by
  obtain ⟨h1, h2⟩ := slc_get h
  have h3 := (slc_spec _ _ _ _ h).1
  have hl : ((c.toList.drop (sh + o)).take n).length = n := by simp; omega
  refine ⟨VRs.of_get (by omega) fun k v w hv hw => ?_, h1, hl⟩
  have hk := h2 k v hv
  obtain ⟨v', h4, h5⟩ := hR _ _ hk
  have hkn : k < n := by have := (List.getElem?_eq_some_iff.1 hv).1; omega
  rw [List.getElem?_take, if_pos hkn, List.getElem?_drop, Array.getElem?_toList] at hw
  rw [show sh + o + k = sh + (o + k) by omega] at hw
  rw [h4] at hw
  obtain rfl := Option.some.inj hw
  exact h5

theorem rd_sound (hs : Sim B W0 φ s W) {b o n : Nat} {L : Loc} (hb : φ b = some L) {vs : List Value} (h : rd s ⟨b, o, none⟩ n = some vs) :
    ∃ vs', VRs φ vs vs' ∧ vs.length = n ∧ vs'.length = n ∧ W.rangeAt L.blk (L.sh + o) vs' := by
  unfold rd at h
  simp only at h
  cases hg : s.get b with
  | none => simp [hg] at h
  | some x =>
    cases x with
    | cells cs es =>
      simp only [hg] at h
      obtain ⟨c, e, fr, h1, h2, h3, h4, h5, h6, h7⟩ := hs.objs b L _ hb hg
      obtain ⟨k1, k2, k3⟩ := cellsR_range h7 h6 h
      refine ⟨_, k1, k2, k3, fun j v hv => ?_⟩
      rw [cell_of_block h1]
      have hj : j < n := by have := (List.getElem?_eq_some_iff.1 hv).1; omega
      rw [List.getElem?_take, if_pos hj, List.getElem?_drop, Array.getElem?_toList] at hv
      exact hv
    | map _ _ => simp [hg] at h
    | iter _ _ _ _ => simp [hg] at h
    | ro cs =>
      simp only [hg] at h
      obtain ⟨c, e, fr, h1, h6, h7⟩ := hs.objs b L _ hb hg
      obtain ⟨k1, k2, k3⟩ := cellsR_range h7 h6 h
      refine ⟨_, k1, k2, k3, fun j v hv => ?_⟩
      rw [cell_of_block h1]
      have hj : j < n := by have := (List.getElem?_eq_some_iff.1 hv).1; omega
      rw [List.getElem?_take, if_pos hj, List.getElem?_drop, Array.getElem?_toList] at hv
      exact hv

/-- what a row of stores leaves -/
theorem setCells_block (b : Nat) : ∀ (vs : List Value) (o : Nat) (w : World) (c : Array Value) (e : TypeId) (fr : Nat × Nat), w.heap[b]? = some (.cells c e fr) → o + vs.length ≤ c.size →
    ∃ c' : Array Value, (w.setCells b o vs).heap[b]? = some (.cells c' e fr) ∧ c'.size = c.size ∧ ∀ k, c'[k]? = if o ≤ k ∧ k < o + vs.length then vs[k - o]? else c[k]?
  | [], o, w, c, e, fr, h, _ => ⟨c, h, rfl, fun k => by rw [if_neg (by simp)]⟩
  | v :: r, o, w, c, e, fr, h, hl => by
    simp only [List.length_cons] at hl
    have h1 : (w.setCell ⟨b, o, none⟩ v).heap[b]? = some (.cells (c.setIfInBounds o v) e fr) := by
      simp only [World.setCell, Array.getElem?_modify, h]
      simp
    obtain ⟨c', h2, h3, h4⟩ := setCells_block b r (o + 1) (w.setCell ⟨b, o, none⟩ v) (c.setIfInBounds o v) e fr h1 (by simp; omega)
    refine ⟨c', h2, by simpa using h3, fun k => ?_⟩
    rw [h4 k]
    by_cases hk : k = o
    · subst hk
      rw [if_neg (by omega), if_pos (by simp)]
      have : k < c.size := by omega
      simp [this]
    · by_cases hk2 : o + 1 ≤ k ∧ k < o + 1 + r.length
      · rw [if_pos hk2, if_pos (by simp; omega), show k - o = (k - (o + 1)) + 1 by omega]
        simp
      · rw [if_neg hk2, if_neg (by simp; omega), Array.getElem?_setIfInBounds, if_neg (by omega)]

theorem setCells_frame (b : Nat) : ∀ (vs : List Value) (o : Nat) (w : World), (∀ k, k ≠ b → (w.setCells b o vs).heap[k]? = w.heap[k]?) ∧ (w.setCells b o vs).heap.size = w.heap.size ∧
    (w.setCells b o vs).os = w.os ∧ (w.setCells b o vs).tape = w.tape ∧ (w.setCells b o vs).output = w.output
  | [], _, _ => ⟨fun _ _ => rfl, rfl, rfl, rfl, rfl⟩
  | v :: r, o, w => by
    obtain ⟨h1, h2, h3, h4, h5⟩ := setCells_frame b r (o + 1) (w.setCell ⟨b, o, none⟩ v)
    refine ⟨fun k hk => ?_, ?_, h3, h4, h5⟩
    · rw [World.setCells, h1 k hk, Below.heap_setCell w ⟨b, o, none⟩ v k hk]
    · rw [World.setCells, h2]; simp [World.setCell]

/-- The block behind a name turns as the name's cells do. -/
theorem write_sound (hs : Sim B W0 φ s W) {b : Nat} {L : Loc} (hb : φ b = some L) {vs : List Value} {es : Nat} (hg : s.get b = some (.cells vs es)) {o : Nat} {ws ws' r : List Value}
    (hsp : spl vs o ws = some r) (hw : VRs φ ws ws') (h1 : ws.all oneCell = true) :
    W.there L.blk (L.sh + o) ws'.length ∧ (∀ v ∈ ws', v.oneCell' = true) ∧ Sim B W0 φ (s.put b (some (.cells r es))) (W.setCells L.blk (L.sh + o) ws') := by
  obtain ⟨c, e, fr, g1, g2, g3, g4, g5, g6, g7⟩ := hs.objs b L _ hb hg
  obtain ⟨k1, k2, k3⟩ := spl_get hsp
  have hlen := hw.length
  refine ⟨fun j hj => ⟨?_, ?_⟩, ?_, ?_⟩
  · rw [cell_of_block g1]
    have : L.sh + o + j < c.size := by omega
    simp [this]
  · exact thawed_of_block g1 g4 (by omega)
  · intro v hv
    obtain ⟨k, hk⟩ := List.getElem?_of_mem hv
    obtain ⟨u, hu, hr⟩ := hw.getRight k v hk
    rw [← hr.oneCell]
    exact List.all_eq_true.1 h1 u (List.mem_of_getElem? hu)
  · obtain ⟨c', q1, q2, q3⟩ := setCells_block L.blk ws' (L.sh + o) W c e fr g1 (by omega)
    obtain ⟨f1, f2, f3, f4, f5⟩ := setCells_frame L.blk ws' (L.sh + o) W
    refine hs.put hb (by simp [hg]) (by simp [St.ro, hg]) f1 f2 f3 f4 f5 ⟨c', e, fr, q1, by omega, g3, by rw [q2]; exact g4, g5, by omega, fun k v hk => ?_⟩
    rw [k3] at hk
    rw [q3]
    split at hk
    · rename_i hin
      rw [if_pos (by omega), show L.sh + k - (L.sh + o) = k - o by omega]
      exact hw.get _ _ hk
    · rename_i hout
      rw [if_neg (by omega)]
      exact g7 k v hk

theorem wr_sound (hs : Sim B W0 φ s W) {b o : Nat} {L : Loc} (hb : φ b = some L) {ws ws' : List Value} (h : wr s ⟨b, o, none⟩ ws = some s') (hw : VRs φ ws ws') :
    W.there L.blk (L.sh + o) ws'.length ∧ (∀ v ∈ ws', v.oneCell' = true) ∧ Sim B W0 φ s' (W.setCells L.blk (L.sh + o) ws') ∧ s'.nx = s.nx := by
  unfold wr at h
  simp only at h
  cases hg : s.get b with
  | none => simp [hg] at h
  | some x =>
    cases x with
    | cells cs es =>
      simp only [hg] at h
      cases h1 : ws.all oneCell with
      | false => simp [h1] at h
      | true =>
        simp only [h1] at h
        cases hsp : spl cs o ws with
        | none => simp [hsp] at h
        | some r =>
          simp only [hsp] at h
          obtain rfl := Option.some.inj h
          obtain ⟨q1, q2, q3⟩ := write_sound hs hb hg hsp hw h1
          exact ⟨q1, q2, q3, rfl⟩
    | map _ _ => simp [hg] at h
    | iter _ _ _ _ => simp [hg] at h
    | ro _ => simp [hg] at h

theorem run_store (b o : Nat) (vs : List Value) (w : World) (h : w.there b o vs.length) (h1 : ∀ v ∈ vs, v.oneCell' = true) : (storeCells ⟨b, o, none⟩ vs).run P w = .ok () (w.setCells b o vs) :=
  run_storeCells_cells b o vs 0 w (fun j hj => (h j hj).1) (fun j hj => (h j hj).2) h1

/-- A new block of cells. -/
theorem new_sound (hs : Sim B W0 φ s W) {W1 : World} (hb : Below W.heap.size W W1) (hsz : W1.heap.size = W.heap.size) (e : TypeId) {vs ws : List Value} (rest : List Value) (hw : VRs φ vs ws) (es : Nat) :
    Sim B W0 (ext φ s.nx ⟨W.heap.size, 0, (ws ++ rest).length, es⟩) (s.push (.cells vs es)) (W1.alloc (.cells (ws ++ rest).toArray e)) := by
  refine hs.push (hb.alloc (by omega) _) _ _ rfl (by show W.heap.size < (W1.heap.push _).size; rw [Array.size_push]; omega) ?_
  refine ⟨(ws ++ rest).toArray, e, (0, 0), ?_, rfl, rfl, .inl (Nat.le_refl _), fun _ => rfl, ?_, ?_⟩
  · show (W1.heap.push _)[W.heap.size]? = _
    rw [← hsz]; simp
  · have := hw.length; simp; omega
  · intro k v hk
    obtain ⟨w, h1, h2⟩ := hw.get k v hk
    refine ⟨w, ?_, h2.mono (ext_le hs.fresh)⟩
    have : k < ws.length := (List.getElem?_eq_some_iff.1 h1).1
    simp only [Nat.zero_add, List.getElem?_toArray]
    rw [List.getElem?_append_left this]
    exact h1
end Go.VE
