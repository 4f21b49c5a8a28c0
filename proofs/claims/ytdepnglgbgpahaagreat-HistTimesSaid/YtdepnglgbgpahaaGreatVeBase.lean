/-
  Lemmas on the tables and lists of VeDefs.
-/
import Derived.Test.YtdepnglgbgpahaaGreatVeDefs
set_option linter.unusedSectionVars false
set_option linter.unusedVariables false
set_option linter.unusedSimpArgs false
namespace Go.VE
open Go

namespace Tr
variable {α : Type}

theorem get_zero_leaf (v : α) : Tr.get 0 (.leaf v) 0 = some v := rfl
theorem mod_two (k : Nat) : k % 2 = 0 ∨ k % 2 = 1 := by omega

theorem get_succ (d : Nat) (t : Tr α) (k : Nat) : Tr.get (d + 1) t k = match t with
    | .node l r => if k % 2 = 0 then Tr.get d l (k / 2) else Tr.get d r (k / 2)
    | _ => none := by
  cases t with
  | nil => rfl
  | leaf v => rfl
  | node l r =>
    show Nat.rec (motive := fun _ => Option α) (Tr.get d l (k / 2)) (fun _ _ => Tr.get d r (k / 2)) (k % 2) = _
    rcases mod_two k with h | h <;> simp only [h] <;> rfl

theorem set_succ (v : Option α) (d : Nat) (t : Tr α) (k : Nat) : Tr.set v (d + 1) t k = match t with
    | .node l r => if k % 2 = 0 then .node (Tr.set v d l (k / 2)) r else .node l (Tr.set v d r (k / 2))
    | _ => if k % 2 = 0 then .node (Tr.set v d .nil (k / 2)) .nil else .node .nil (Tr.set v d .nil (k / 2)) := by
  cases t with
  | nil =>
    show Nat.rec (motive := fun _ => Tr α) (.node (Tr.set v d .nil (k / 2)) .nil) (fun _ _ => .node .nil (Tr.set v d .nil (k / 2))) (k % 2) = _
    rcases mod_two k with h | h <;> simp only [h] <;> rfl
  | leaf x =>
    show Nat.rec (motive := fun _ => Tr α) (.node (Tr.set v d .nil (k / 2)) .nil) (fun _ _ => .node .nil (Tr.set v d .nil (k / 2))) (k % 2) = _
    rcases mod_two k with h | h <;> simp only [h] <;> rfl
  | node l r =>
    show Nat.rec (motive := fun _ => Tr α) (.node (Tr.set v d l (k / 2)) r) (fun _ _ => .node l (Tr.set v d r (k / 2))) (k % 2) = _
    rcases mod_two k with h | h <;> simp only [h] <;> rfl

theorem get_nil (d k : Nat) : Tr.get d (.nil : Tr α) k = none := by cases d <;> rfl

theorem get_set_same (v : Option α) (d : Nat) (t : Tr α) (k : Nat) (h : k < 2 ^ d) : Tr.get d (Tr.set v d t k) k = v := by
  induction d generalizing t k with
  | zero =>
    obtain rfl : k = 0 := by simpa using h
    cases v <;> rfl
  | succ d ih =>
    have h2 : k / 2 < 2 ^ d := by rw [Nat.pow_succ] at h; omega
    rw [get_succ, set_succ]
    cases t <;> (rcases mod_two k with e | e <;> simp [e, ih _ _ h2])

theorem get_set_ne (v : Option α) (d : Nat) (t : Tr α) (k j : Nat) (h : j ≠ k) : Tr.get d (Tr.set v d t k) j = Tr.get d t j := by
  induction d generalizing t k j with
  | zero =>
    cases k with
    | zero =>
      cases j with
      | zero => exact absurd rfl h
      | succ j => cases v <;> cases t <;> rfl
    | succ k => rfl
  | succ d ih =>
    rw [get_succ, set_succ, get_succ]
    have key : j / 2 ≠ k / 2 ∨ j % 2 ≠ k % 2 := by omega
    cases t <;> (rcases mod_two k with e | e <;> rcases mod_two j with f | f <;> simp [e, f, get_nil] <;>
      (try rw [ih _ _ _ (by omega)]) <;> (try simp [get_nil]))

theorem set_big (v : Option α) (d : Nat) (t : Tr α) (k : Nat) (h : ¬ k < 2 ^ d) (j : Nat) : Tr.get d (Tr.set v d t k) j = Tr.get d t j := by
  induction d generalizing t k j with
  | zero =>
    cases k with
    | zero => simp at h
    | succ k => rfl
  | succ d ih =>
    have h2 : ¬ k / 2 < 2 ^ d := by rw [Nat.pow_succ] at h; omega
    rw [get_succ, set_succ, get_succ]
    cases t <;> (rcases mod_two k with e | e <;> rcases mod_two j with f | f <;> simp [e, f, get_nil, ih _ _ h2])
theorem get_big (d : Nat) (t : Tr α) (k : Nat) (h : ¬ k < 2 ^ d) : Tr.get d t k = none := by
  induction d generalizing t k with
  | zero =>
    cases k with
    | zero => simp at h
    | succ k => cases t <;> rfl
  | succ d ih =>
    have h2 : ¬ k / 2 < 2 ^ d := by rw [Nat.pow_succ] at h; omega
    rw [get_succ]
    cases t <;> simp [ih _ _ h2]
end Tr

namespace St
theorem get_put_same (s : St) (i : Nat) (o : Option AObj) (h : (s.get i).isSome) : (s.put i o).get i = o := by
  unfold St.get St.put
  refine Tr.get_set_same _ _ _ _ ?_
  apply Classical.byContradiction
  intro hb
  have := Tr.get_big depth s.h i hb
  unfold St.get at h
  simp [this] at h
theorem get_put_ne (s : St) (i j : Nat) (o : Option AObj) (h : j ≠ i) : (s.put i o).get j = s.get j := Tr.get_set_ne _ _ _ _ _ h
theorem get_push_old (s : St) (o : AObj) (j : Nat) (h : j ≠ s.nx) : (s.push o).get j = s.get j := by
  show Tr.get depth (Tr.set (some o) depth s.h s.nx) j = Tr.get depth s.h j
  exact Tr.get_set_ne (some o) depth s.h s.nx j h
theorem get_push_new (s : St) (o x : AObj) (h : (s.push o).get s.nx = some x) : x = o := by
  unfold St.get St.push at h
  by_cases hb : s.nx < 2 ^ depth
  · rw [Tr.get_set_same _ _ _ _ hb] at h; exact (Option.some.inj h).symm
  · have := Tr.get_big depth (Tr.set (some o) depth s.h s.nx) s.nx hb
    simp [this] at h
theorem nx_push (s : St) (o : AObj) : (s.push o).nx = s.nx + 1 := rfl
theorem nx_put (s : St) (i : Nat) (o : Option AObj) : (s.put i o).nx = s.nx := rfl
end St

theorem nth_nil {α : Type} (d : α) (k : Nat) : nth d [] k = d := rfl
theorem nth_cons_zero {α : Type} (d a : α) (l : List α) : nth d (a :: l) 0 = a := rfl
theorem nth_cons_succ {α : Type} (d a : α) (l : List α) (k : Nat) : nth d (a :: l) (k + 1) = nth d l k := rfl
theorem nth_eq {α : Type} (d : α) (l : List α) (k : Nat) : nth d l k = l.getD k d := by
  induction l generalizing k with
  | nil => simp [nth_nil]
  | cons a l ih => cases k with
    | zero => simp [nth_cons_zero]
    | succ k => simp [nth_cons_succ, ih]
theorem setNth_eq {α : Type} (v : α) (l : List α) (k : Nat) : setNth v l k = l.set k v := by
  induction l generalizing k with
  | nil => rfl
  | cons a l ih => cases k with
    | zero => rfl
    | succ k => show a :: setNth v l k = _; rw [ih]; rfl
theorem app_eq {α : Type} (l m : List α) : app l m = l ++ m := by
  induction l with
  | nil => rfl
  | cons a l ih => show a :: app l m = _; rw [ih]; rfl

theorem slc_nil_zero : slc [] 0 0 = some [] := rfl
theorem slc_spec (vs : List Value) (o n : Nat) (r : List Value) (h : slc vs o n = some r) : o + n ≤ vs.length ∧ r = (vs.drop o).take n := by
  induction vs generalizing o n r with
  | nil =>
    cases o with
    | succ o => exact absurd h (by simp [slc])
    | zero => cases n with
      | succ n => exact absurd h (by simp [slc])
      | zero =>
        obtain rfl : r = [] := (Option.some.inj (show some [] = some r from h)).symm
        simp
  | cons v vs ih =>
    cases o with
    | succ o =>
      have h' : slc vs o n = some r := h
      obtain ⟨h1, h2⟩ := ih o n r h'
      exact ⟨by simp; omega, by simpa using h2⟩
    | zero => cases n with
      | zero =>
        obtain rfl : r = [] := (Option.some.inj (show some [] = some r from h)).symm
        simp
      | succ n =>
        have h' : (match slc vs 0 n with | some r => some (v :: r) | none => none) = some r := h
        cases hs : slc vs 0 n with
        | none => simp [hs] at h'
        | some q =>
          simp [hs] at h'
          subst h'
          obtain ⟨h1, h2⟩ := ih 0 n q hs
          exact ⟨by simp; omega, by simp [h2]⟩

theorem slc_get {vs : List Value} {o n : Nat} {r : List Value} (h : slc vs o n = some r) : r.length = n ∧ ∀ k v, r[k]? = some v → vs[o + k]? = some v := by
  obtain ⟨h1, rfl⟩ := slc_spec _ _ _ _ h
  refine ⟨by simp; omega, fun k v hk => ?_⟩
  rw [List.getElem?_take] at hk
  split at hk
  · rw [List.getElem?_drop] at hk; exact hk
  · cases hk

theorem spl_spec (vs : List Value) (o : Nat) (ws r : List Value) (h : spl vs o ws = some r) : o + ws.length ≤ vs.length ∧ r = vs.take o ++ ws ++ vs.drop (o + ws.length) := by
  induction vs generalizing o ws r with
  | nil =>
    cases o with
    | succ o => exact absurd h (by simp [spl])
    | zero => cases ws with
      | nil =>
        obtain rfl : r = [] := (Option.some.inj (show some [] = some r from h)).symm
        simp
      | cons w ws => exact absurd h (by simp [spl])
  | cons v vs ih =>
    cases o with
    | succ o =>
      have h' : (match spl vs o ws with | some r => some (v :: r) | none => none) = some r := h
      cases hs : spl vs o ws with
      | none => simp [hs] at h'
      | some q =>
        simp [hs] at h'
        subst h'
        obtain ⟨h1, h2⟩ := ih o ws q hs
        refine ⟨by simp; omega, ?_⟩
        rw [show o + 1 + ws.length = (o + ws.length) + 1 by omega]
        simp [h2]
    | zero => cases ws with
      | nil =>
        obtain rfl : r = v :: vs := (Option.some.inj (show some (v :: vs) = some r from h)).symm
        simp
      | cons w ws =>
        have h' : (match spl vs 0 ws with | some r => some (w :: r) | none => none) = some r := h
        cases hs : spl vs 0 ws with
        | none => simp [hs] at h'
        | some q =>
          simp [hs] at h'
          subst h'
          obtain ⟨h1, h2⟩ := ih 0 ws q hs
          refine ⟨by simp; omega, ?_⟩
          simp [h2]

theorem spl_get {vs : List Value} {o : Nat} {ws r : List Value} (h : spl vs o ws = some r) :
    r.length = vs.length ∧ o + ws.length ≤ vs.length ∧ ∀ k, r[k]? = if o ≤ k ∧ k < o + ws.length then ws[k - o]? else vs[k]? := by
  obtain ⟨h1, rfl⟩ := spl_spec _ _ _ _ h
  refine ⟨by simp; omega, h1, fun k => ?_⟩
  rw [List.append_assoc]
  by_cases hk : k < o
  · rw [List.getElem?_append_left (by simp; omega), List.getElem?_take, if_pos hk, if_neg (by omega)]
  · rw [List.getElem?_append_right (by simp; omega)]
    have hl : (List.take o vs).length = o := by simp; omega
    rw [hl]
    by_cases hk2 : k < o + ws.length
    · rw [List.getElem?_append_left (by omega), if_pos ⟨by omega, hk2⟩]
    · rw [List.getElem?_append_right (by omega), if_neg (by omega), List.getElem?_drop]
      congr 1
      omega
end Go.VE
