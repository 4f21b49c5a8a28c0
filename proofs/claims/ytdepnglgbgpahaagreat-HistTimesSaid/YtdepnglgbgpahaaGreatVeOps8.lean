/-
  append; the built-in functions.
-/
import Derived.Test.YtdepnglgbgpahaaGreatVeOps7
import Derived.Deep.AppendSrc
import Derived.Lib.AppendZeros
set_option linter.unusedSectionVars false
set_option linter.unusedVariables false
set_option linter.unusedSimpArgs false
namespace Go.VE
open Go Go.RowKit
variable {P : Program} {T : Tab} {B : Nat} {W0 W : World} {φ : Phi} {s s' : St} {a : Act} {t : List Value} {o : Oper} {v : Value}

theorem Below.drewB (W : World) : Below W.heap.size W W.drew := (Below.refl _ W).drew

theorem fits_spec {n b : Nat} (h : fits n b = true) : n * b ≤ 140737488355328 ∧ n ≤ 1000000000 := by
  unfold fits at h
  simp only [Bool.and_eq_true] at h
  exact ⟨Nat.le_of_ble_eq_true h.1, Nat.le_of_ble_eq_true h.2⟩

section ops
variable (hT : TabOk P T) (hs : Sim B W0 φ s W)
include hs hT

theorem rowCells {size : Nat} {y y' : Value} (hR : VR φ y y') {news : List Value} (h : sliceCells s size y = some news) {ad : Option Addr} {n c : Nat} (hy : y = .slice ad n c) :
    ∃ news' ad' c', y' = .slice ad' n c' ∧ VRs φ news news' ∧ news'.length = n * size ∧ (∀ W1 : World, (∀ x, W1.cell? x = W.cell? x) → (Builtin.firstCells size n y').run P W1 = .ok news'.toArray W1) ∧
      ∀ a', ad' = some a' → ∀ k u, news'[k]? = some u → W.cell? (a'.add k) = some u := by
  subst hy
  cases hR with
  | sliceNil =>
    simp only [sliceCells, Option.some.injEq] at h
    subst h
    exact ⟨[], none, 0, rfl, .nil, by simp, fun W1 _ => run_firstCells_none (P := P) W1 size 0 0 0, fun _ _ k u hk => by simp at hk⟩
  | @slice b off _ _ c' L hb h1 h2 h3 h4 =>
    simp only [sliceCells] at h
    by_cases hn : n = 0
    · subst hn
      rw [if_pos rfl] at h
      obtain rfl := Option.some.inj h
      exact ⟨[], _, c', rfl, .nil, by simp, fun W1 _ => run_firstCells_some W1 size 0 _ 0 c' [] (by simp) (by intro j v hj; simp at hj), fun _ _ k u hk => by simp at hk⟩
    · rw [if_neg hn] at h
      obtain ⟨vs', k1, k2, k3, k4⟩ := rd_sound hs hb h
      refine ⟨vs', _, c', rfl, k1, k3, fun W1 hW => run_firstCells_some W1 size n _ n c' vs' k3 fun j v hj => ?_, ?_⟩
      · rw [hW, add_lit]
        exact k4 j v hj
      · intro a' ha' k u hk
        obtain rfl := Option.some.inj ha'
        rw [add_lit]
        exact k4 k u hk
  | @slice0 a0 a' c0 he0 =>
    simp only [sliceCells, if_true, Option.some.injEq] at h
    subst h
    exact ⟨[], some a', 0, rfl, .nil, by simp, fun W1 _ => run_firstCells_some W1 size 0 _ 0 0 [] (by simp) (by intro j v hj; simp at hj), fun _ _ k u hk => by simp at hk⟩

theorem src_sound {size : Nat} {y y' : Value} (hR : VR φ y y') {news : List Value} {m : Nat} (h : sliceCells s size y = some news) (hm : lenV y = some m) {t2 : TypeId} {tx : TI} {i2 : TypeInfo} (h2 : TyOk P t2 tx i2)
    (hk : (∃ e, tx.d = .slice e) ∨ tx.d = .string) (hlen : news.length = m * size) (h1 : news.all oneCell = true) :
    ∃ news', VRs φ news news' ∧ Src P size t2 y' m news' W := by
  have kind : (∃ e', P.underlying t2 = some (.slice e')) ∨ P.underlying t2 = some .string := by
    rw [h2.under]
    rcases hk with ⟨e, hk⟩ | hk
    · exact .inl ⟨e, by rw [hk]⟩
    · exact .inr (by rw [hk])
  have ones : ∀ {news' : List Value}, VRs φ news news' → ∀ u ∈ news', u.oneCell' = true := by
    intro news' hw u hu
    obtain ⟨k, hk⟩ := List.getElem?_of_mem hu
    obtain ⟨q, hq, hr⟩ := hw.getRight k u hk
    rw [← hr.oneCell]
    exact List.all_eq_true.1 h1 q (List.mem_of_getElem? hq)
  cases y with
  | slice ad n c =>
    simp only [lenV, Option.some.injEq] at hm
    subst hm
    obtain ⟨news', ad', c', rfl, k1, k2, k3, _⟩ := rowCells hT hs hR h rfl
    exact ⟨news', k1, kind, fun _ => rfl, k3 W (fun _ => rfl), k3 W.drew (fun _ => rfl), k2, ones k1⟩
  | string b =>
    cases hR
    simp only [lenV, Option.some.injEq] at hm
    subst hm
    simp only [sliceCells, Option.some.injEq] at h
    subst h
    have hat : (b.data.toList.map fun x => Value.int .u8 x.toNat).all atom = true := List.all_eq_true.2 (by intro x hx; obtain ⟨_, _, rfl⟩ := List.mem_map.1 hx; rfl)
    refine ⟨_, VRs.of_atoms hat, kind, fun _ => rfl, ?_, ?_, hlen, ones (VRs.of_atoms hat)⟩
    · exact firstCells_string b W
    · exact firstCells_string b W.drew
  | _ => simp [lenV] at hm

theorem appendOp_sound {t1 t2 e : TypeId} {ty : TypeId} {ti te : TI} {i1 j : TypeInfo} (h1 : TyOk P t1 ti i1) (hd : ti.d = .slice e) (hj : TyOk P e te j) {x x' : Value} (hx : VR φ x x') {y' : Value} {news news' : List Value} {m : Nat}
    (hw : VRs φ news news') (hsrc : Src P te.size t2 y' m news' W) (h : appendOp te s x news m = some (v, s')) :
    ∃ φ' v' W', Grow s s' φ φ' ∧ Sim B W0 φ' s' W' ∧ VR φ' v v' ∧ (Builtin.append_ #[t1, t2] ty #[x', y']).run P W = .ok v' W' := by
  have hu : P.underlying t1 = some (.slice e) := by rw [h1.under, hd]
  have hsrc' : Src P j.size t2 y' m news' W := by rw [hj.size]; exact hsrc
  unfold appendOp at h
  split at h
  · rename_i hc
    rw [len_eq] at hc
    obtain ⟨hc1, hc2, hc3⟩ := hc
    -- a new row behind a draw
    have grow : ∀ {base : Option Addr} {n c' : Nat} {olds olds' : List Value} {s1 : St}, s1.nx = s.nx → Sim B W0 φ s1 W → VRs φ olds olds' → olds'.length = n * te.size →
        (Builtin.firstCells te.size n (.slice base n c')).run P W.drew = .ok olds'.toArray W.drew → c' < n + m → fits (n + m) te.bytes = true →
        ∃ φ' v' W', Grow s (s1.push (.cells (app olds news) te.size)) φ φ' ∧ Sim B W0 φ' (s1.push (.cells (app olds news) te.size)) W' ∧ VR φ' (.slice (some ⟨s1.nx, 0, none⟩) (n + m) unknownCap) v' ∧
          (Builtin.append_ #[t1, t2] ty #[.slice base n c', y']).run P W = .ok v' W' := by
      intro base n c' olds olds' s1 hnx hs1 ho holen hfo hg hf
      obtain ⟨f1, f2⟩ := fits_spec hf
      have hfit : Builtin.nextslicecap (n + m) c' * j.bytes ≤ 281474976710656 := growslice_fits hg (by rw [hj.bytes]; exact f1)
      have hr := run_append_grow_src (P := P) W t1 t2 ty e j te.zero hu hj.info hj.zero base n c' olds' (by rw [hj.size]; exact hfo) y' m news' hsrc' hg (by omega) hfit
      have hge := grownCap_ge W (n + m) c' e
      have hcm := grownCap_le_maxLen W (n + m) c' e (by unfold maxLen; omega)
      obtain ⟨φ', k1, k2, k3⟩ := row_sound hs1 (Below.drewB W) rfl e (Builtin.zeroCells te.zero.cells (grownCap W (n + m) c' e - (n + m))).toList (ho.append hw) (es := te.size) (n := n + m) (cap := grownCap W (n + m) c' e) (c := unknownCap) hge hcm
        (by
          have hz : (Builtin.zeroCells te.zero.cells (grownCap W (n + m) c' e - (n + m))).size = (grownCap W (n + m) c' e - (n + m)) * te.size := by rw [size_zeroCells, hj.cells]
          have hnl := hsrc.newsLen
          simp only [List.length_append, Array.length_toList, hz, holen, hnl]
          rw [← Nat.add_mul, ← Nat.add_mul]
          congr 1
          omega)
        (by intro hh; simp [unknownCap] at hh)
      refine ⟨φ', _, _, (Grow.of_nx φ hnx).trans (by rw [app_eq]; exact k1), by rw [app_eq]; exact k2, k3, ?_⟩
      rw [hr]
      congr 3
      apply Array.ext'
      simp
    -- in its place
    have place : ∀ {ad : Addr} {n c' : Nat}, m = 0 → n ≤ c' → (Builtin.append_ #[t1, t2] ty #[.slice (some ad) n c', y']).run P W = .ok (.slice (some ad) n c') W := by
      intro ad n c' hm hn
      subst hm
      have hnl : news' = [] := List.eq_nil_of_length_eq_zero (by rw [hsrc.newsLen]; simp)
      subst hnl
      rcases hsrc.kind with ⟨e', hk⟩ | hk <;> simp [Builtin.append_, run_underlying hu, run_underlying hk, run_sizeOf hj, hsrc.len, hn, hsrc.cells, storeCells]
    split at h
    · simp only [ok, Option.some.injEq, Prod.mk.injEq] at h
      obtain ⟨rfl, rfl⟩ := h
      cases hx
      have hnl : news' = [] := List.eq_nil_of_length_eq_zero (by rw [hsrc.newsLen]; simp)
      refine ⟨φ, _, W, Grow.refl _ _, hs, .sliceNil, ?_⟩
      rcases hsrc.kind with ⟨e', hk⟩ | hk <;> simp [Builtin.append_, run_underlying hu, run_underlying hk, run_sizeOf hj, hsrc.len, hsrc.cells]
    · simp only [ok, Option.some.injEq, Prod.mk.injEq] at h
      obtain ⟨rfl, rfl⟩ := h
      cases hx with
      | slice hb q1 q2 q3 q4 => exact ⟨φ, _, W, Grow.refl _ _, hs, .slice hb q1 q2 q3 q4, place rfl q1⟩
      | slice0 q => exact ⟨φ, _, W, Grow.refl _ _, hs, .slice0 q, place rfl (Nat.le_refl _)⟩
    · rename_i hm0
      split at h
      · rename_i hf
        simp only [ok, Option.some.injEq, Prod.mk.injEq] at h
        obtain ⟨rfl, rfl⟩ := h
        cases hx
        have hpos : 0 < m := Nat.pos_of_ne_zero (by assumption)
        have := grow (base := none) (n := 0) (c' := 0) rfl hs (VRs.nil) (by simp) (run_firstCells_none (P := P) W.drew te.size 0 0 0) (by omega) (by simpa using hf)
        simpa [app_eq] using this
      · cases h
    · rename_i ad n c hm0
      split at h
      · rename_i hf
        have hpos : 0 < m := Nat.pos_of_ne_zero (by assumption)
        unfold appendTo at h
        split at h
        · rename_i hev
          unfold appendExact at h
          by_cases hfit : n + m ≤ c / 2
          · rw [if_pos hfit] at h
            cases hx with
            | @slice b off _ _ c' L hb q1 q2 q3 q4 =>
              have hcc : c' = c / 2 := q4 hev
              split at h
              · rename_i s1 hwr
                simp only [ok, Option.some.injEq, Prod.mk.injEq] at h
                obtain ⟨rfl, rfl⟩ := h
                obtain ⟨w1, w2, w3, w4⟩ := wr_sound hs hb hwr hw
                refine ⟨φ, _, _, Grow.of_nx _ w4, w3, .slice hb (by omega) q2 q3 q4, ?_⟩
                have hroom : n + m ≤ c' := by omega
                have hr := run_append_room_src (P := P) W t1 t2 ty e j hu hj.info L.blk (L.sh + off) n c' y' m news' hsrc' hroom
                  (fun k hk => by have := (w1 k hk).1; rw [hj.size, Nat.add_assoc L.sh]; simpa using this) (fun k hk => by have := (w1 k hk).2; rw [hj.size, Nat.add_assoc L.sh]; simpa using this)
                rw [hj.size, Nat.add_assoc L.sh] at hr
                exact hr
              · cases h
            | slice0 q => have := q hev; omega
          · rw [if_neg hfit] at h
            cases hcells : sliceCells s te.size (.slice (some ad) n c) with
            | none => simp [hcells] at h
            | some olds =>
              simp only [hcells, ok, Option.some.injEq, Prod.mk.injEq] at h
              obtain ⟨rfl, rfl⟩ := h
              obtain ⟨olds', ad', c', rfl, k1, k2, k3, _⟩ := rowCells hT hs hx hcells rfl
              have hcc : c' = c / 2 := by cases hx with
                | slice hb q1 q2 q3 q4 => exact q4 hev
                | slice0 q => exact (q hev).symm
              exact grow rfl hs k1 k2 (k3 W.drew (fun _ => rfl)) (by omega) hf
        · rename_i hodd
          unfold appendOpen at h
          split at h
          · rename_i vs es olds hg hcells
            split at h
            · rename_i hes
              subst hes
              simp only [ok, Option.some.injEq, Prod.mk.injEq] at h
              obtain ⟨rfl, rfl⟩ := h
              obtain ⟨olds', ad', c', rfl, k1, k2, k3, k4⟩ := rowCells hT hs hx hcells rfl
              have hsome : (s.get ad.block).isSome = true := by simp [hg]
              have hkill := hs.kill ad.block hsome (by simp [St.ro, hg])
              by_cases hroom : n + m ≤ c'
              · -- there is room: the row goes on under a new name
                cases hx with
                | @slice b off _ _ _ L hb q1 q2 q3 q4 =>
                  obtain ⟨cc, ee, fr, g1, g2, g3, g4, g5, g6, g7⟩ := hs.objs b L _ hb hg
                  have hfr : fr = (0, 0) := g5 (by omega)
                  have hcap := q3 (by rw [g3]; omega)
                  have hnl := hsrc.newsLen
                  have hmul : n * te.size + m * te.size ≤ c' * te.size := by rw [← Nat.add_mul]; exact Nat.mul_le_mul_right _ hroom
                  rw [g3] at hcap
                  have hin : ∀ k, k < news'.length → L.sh + off + n * te.size + k < cc.size := by intro k hk; omega
                  have hr := run_append_room_src (P := P) W t1 t2 ty e j hu hj.info L.blk (L.sh + off) n c' y' m news' hsrc' hroom
                    (fun k hk => by rw [cell_of_block g1, hj.size]; have := hin k hk; simp [this]) (fun k hk => by rw [hj.size]; exact thawed_of_block g1 g4 (hin k hk))
                  rw [hj.size] at hr
                  obtain ⟨cc', p1, p2, p3⟩ := setCells_block L.blk news' (L.sh + off + n * te.size) W cc ee fr g1 (by omega)
                  obtain ⟨f1, f2, f3, f4, f5⟩ := setCells_frame L.blk news' (L.sh + off + n * te.size) W
                  have hd3 := hs.dom b L hb
                  have hold : ∀ k u, olds'[k]? = some u → cc[L.sh + off + k]? = some u := by
                    intro k u hk
                    have := k4 _ rfl k u hk
                    rw [add_lit, cell_of_block g1] at this
                    exact this
                  have hsim := hkill.renew (W' := W.setCells L.blk (L.sh + off + n * te.size) news') (.cells (app olds news) te.size) ⟨L.blk, L.sh + off, L.cap, te.size⟩ ⟨hd3.2.1 (by simp [St.ro, hg]), hd3.2.2⟩
                    (fun i M hi hsi => hs.kill_blocks b hsome hb i M hi hsi) f1 f2 f3 f4 f5
                    ⟨cc', ee, fr, p1, by rw [p2]; exact g2, rfl, by rw [p2]; exact g4, fun _ => hfr, by
                      have h1 := k1.length
                      have h2 := hw.length
                      rw [app_eq]
                      simp only [List.length_append, p2]
                      omega, by
                      intro k u hk
                      rw [app_eq] at hk
                      have h1 := k1.length
                      have h2 := hw.length
                      have hle := ext_le (L := ⟨L.blk, L.sh + off, L.cap, te.size⟩) hkill.fresh
                      rw [p3]
                      by_cases hkn : k < olds.length
                      · rw [List.getElem?_append_left hkn] at hk
                        obtain ⟨u', hu', hru⟩ := k1.get k u hk
                        rw [if_neg (by simp only; omega)]
                        exact ⟨u', hold k u' hu', hru.mono hle⟩
                      · rw [List.getElem?_append_right (by omega)] at hk
                        obtain ⟨u', hu', hru⟩ := hw.get _ u hk
                        have hlt : k - olds.length < news'.length := (List.getElem?_eq_some_iff.1 hu').1
                        rw [if_pos (by simp only; omega)]
                        refine ⟨u', ?_, hru.mono hle⟩
                        rw [← hu']
                        congr 1
                        simp only
                        omega⟩
                  refine ⟨_, _, _, (Grow.of_nx φ (by rfl)).trans (Grow.push hkill _ _), hsim, ?_, hr⟩
                  have hv := VR.slice (φ := ext φ s.nx ⟨L.blk, L.sh + off, L.cap, te.size⟩) (o := 0) (n := n + m) (c := unknownCap) (ext_same _ _ _) hroom q2 (by intro _; simp only [Nat.add_zero]; exact hcap) (by intro hh; simp [unknownCap] at hh)
                  rw [Nat.add_zero] at hv
                  exact hv
                | slice0 q => omega
              · have := grow (s1 := s.put ad.block none) rfl hkill k1 k2 (k3 W.drew (fun _ => rfl)) (by omega) hf
                exact this
            · cases h
          · cases h
      · cases h
    · cases h
  · cases h
end ops
end Go.VE
