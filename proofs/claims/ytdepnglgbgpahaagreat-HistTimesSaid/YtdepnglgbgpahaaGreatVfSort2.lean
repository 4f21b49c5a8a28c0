/-
  slices.SortFunc's summary is right.
-/
import Derived.Test.YtdepnglgbgpahaaGreatVfSort
import Derived.Test.YtdepnglgbgpahaaGreatVfTimes
set_option linter.unusedSectionVars false
set_option linter.unusedVariables false
set_option linter.unusedSimpArgs false
namespace Go.Proofs.YtdepnglgbgpahaaGreat
open Go Go.VE Go.Proofs Go.RowKit

theorem sorted_unique {at' : Nat → Int} {L M : List Nat} (h : L.Perm M) (h1 : L.Pairwise (fun i j => at' i < at' j)) (h2 : M.Pairwise (fun i j => at' i < at' j)) : L = M :=
  List.Perm.eq_of_pairwise (le := fun i j => at' i < at' j) (fun a b _ _ x y => by omega) h1 h2 h

theorem sortWorld_heap {α : Type} [Inhabited α] (enc : α → Value) (w : World) (blk off m : Nat) (d : Array α) (os : Array Obj) (k : Nat) (hk : k < w.heap.size) (hne : k ≠ blk) : (sortWorld enc w blk off m d os).heap[k]? = w.heap[k]? := by
  simp only [sortWorld, Go.Sort.grow, Go.Sort.putRow, Go.Sort.mapBlock, Go.Sort.ahead]
  rw [Array.getElem?_append_left (by simpa using hk), Array.getElem?_modify, if_neg (Ne.symm hne)]

theorem cell_same {W W' : World} {k o : Nat} (h : W'.heap[k]? = W.heap[k]?) : W'.cell? ⟨k, o, none⟩ = W.cell? ⟨k, o, none⟩ := by
  simp [World.cell?, h]

variable {vs : List Value} {n : Nat} {fr at' to : Nat → Int} {bk : Nat → Bool}

theorem sortS_ok (hE : Evs vs n fr at' to bk) (hn : n < 9223372036854775808) : CallOk Tryz.prog (sortS vs n at') := by
  intro f args s v s' h B W0 φ W args' hs ha
  unfold sortS at h
  split at h
  · rename_i hex
    have hr : hex.choose = (v, s') := Option.some.inj h
    have hspec := hex.choose_spec
    rw [hr] at hspec
    obtain ⟨rfl, ⟨x, rfl, h2⟩ | ⟨x, b, q, c, c', L, L', rfl, hx, hb, hq, hL, hN, h0, h0', h40, hp, hpw, h2⟩⟩ := hspec
    · simp only [Prod.mk.injEq] at h2
      obtain ⟨rfl, rfl⟩ := h2
      cases ha with
      | cons h1 h2 =>
        cases h1
        cases h2 with
        | @cons _ fv _ _ h3 h4 =>
          cases h4
          have hc := AnyF.slices_SortFunc_none (P := Tryz.prog) (ρ := Tryz.sortL_ren) { Tryz.sortL with } none 0 fv W
          change Calls Tryz.prog 13 _ _ _ at hc
          refine hc.mono ?_
          rintro e w' ⟨rfl, rfl⟩
          exact ⟨φ, _, Grow.refl _ _, hs, rfl, .tuple .nil⟩
    · simp only [Prod.mk.injEq] at h2
      obtain ⟨rfl, rfl⟩ := h2
      have hn0 : 0 < n := by
        obtain ⟨i, hi⟩ := List.exists_mem_of_length_pos h0
        have := hL i hi
        omega
      cases ha with
      | cons a1 a2 =>
        generalize hll : L.length = ll at a1 h0 h0'
        cases a1 with
        | slice0 => omega
        | @slice _ _ _ _ cc Lq hbq u1 u2 u3 u4 =>
          cases a2 with
          | cons a3 a4 =>
            cases a4
            cases a3 with
            | func _ f1 f2 =>
              cases f1
              cases f2 with
              | cons g1 g2 =>
                cases g2
                cases g1 with
                | @ptr _ _ Lx hbx =>
                  obtain ⟨cq, eq', frq, q1, q2, q3, q4, q5, q6, q7⟩ := hs.objs q Lq _ hbq hq
                  obtain ⟨cx, ex, frx, x1, x2, x3, x4, x5, x6, x7⟩ := hs.objs x Lx _ hbx hx
                  obtain ⟨sv, y1, y2⟩ := x7 0 _ rfl
                  generalize hnn : n = nn at y2
                  cases y2 with
                  | slice0 => omega
                  | @slice _ _ _ _ cb' Lb hbb v1 v2 v3 v4 =>
                    subst hnn
                    obtain ⟨cb, eb, frb, b1, b6, b7⟩ := hs.objs b Lb _ hbb hb
                    have hat : ∀ i, i < n → cb[Lb.sh + (i * 18 + 15)]? = some (.int .i64 (at' i)) := by
                      intro i hi
                      obtain ⟨w, k1, k2⟩ := b7 _ _ (hE.at' i hi)
                      cases k2
                      exact k1
                    haveI : Inhabited (Fin n) := ⟨⟨0, hn0⟩⟩
                    let enc : Fin n → Value := fun i => .int .i64 (i.val : Int)
                    let d : Array (Fin n) := (L.attach.map fun i => (⟨i.1, hL i.1 i.2⟩ : Fin n)).toArray
                    have hdl : d.toList.map (·.val) = L := by simp [d]
                    have hds : d.size = L.length := by simp [d]
                    have hxq : Lx.blk ≠ Lq.blk := fun e => by
                      have := hs.inj x q Lx Lq hbx hbq (by simp [hx]) (by simp [hq]) e
                      subst this
                      rw [hx] at hq
                      simp at hq
                    have hbq' : Lb.blk ≠ Lq.blk := fun e => by
                      have := hs.inj b q Lb Lq hbb hbq (by simp [hb]) (by simp [hq]) e
                      subst this
                      rw [hb] at hq
                      simp at hq
                    have dq := hs.dom q Lq hbq
                    have dx := hs.dom x Lx hbx
                    have db := hs.dom b Lb hbb
                    simp only [List.length_map] at q6
                    have hH : Go.Sort.Holds enc W Lq.blk (Lq.sh + 0) d := by
                      intro j hj
                      have hjL : j < L.length := by omega
                      obtain ⟨w, k1, k2⟩ := q7 j (.int .i64 (L[j] : Int)) (by simp [hjL])
                      cases k2
                      refine ⟨?_, thawed_of_block q1 q4 (by omega)⟩
                      rw [cell_of_block q1, show Lq.sh + 0 + j = Lq.sh + j by omega, k1, getElem!_pos d j hj]
                      simp [enc, d]
                    have eg : ∀ args w, (callFunc 14 args).run Tryz.prog w = .ok (.enter 14 args) w := enters_of Tryz.func14 (by kernel_rfl) rfl
                    let cf : Fin n → Fin n → Int := fun i j => Lib.compareInt (at' i.val) (at' j.val)
                    have hcf : ∀ i j : Fin n, ltOf cf i j = decide (at' i.val < at' j.val) := by
                      intro i j
                      simp only [ltOf, cf, Lib.compareInt]
                      by_cases z1 : at' i.val < at' j.val
                      · simp [z1]
                      · by_cases z2 : at' j.val < at' i.val <;> simp [z1, z2]
                    have swo : Go.Sort.SWO (ltOf cf) := ⟨fun i => by rw [hcf]; simp, fun i j k z1 z2 => by rw [hcf] at *; simp at *; omega, fun i j k z1 z2 => by rw [hcf] at *; simp at *; omega⟩
                    have hcmp : CmpReads Tryz.prog 14 #[.pointer (some ⟨Lx.blk, Lx.sh + 0, none⟩)] enc cf Lq.blk (Lq.sh + 0) d.size W := by
                      intro m os dk hdk i j
                      have c1 := fun k (z : k < W.heap.size) (z' : k ≠ Lq.blk) => sortWorld_heap enc W Lq.blk (Lq.sh + 0) m dk os k z z'
                      refine cmp14 i.val j.val n cb' Lx.blk (Lx.sh + 0) Lb.blk (Lb.sh + 0) (at' i.val) (at' j.val) _ i.2 j.2 hn ?_ ?_ ?_
                      · rw [cell_same (c1 _ dx.2.2 hxq), cell_of_block x1]; exact y1
                      · rw [cell_same (c1 _ db.2.2 hbq'), cell_of_block b1, ← hat i.val i.2]; congr 1; try omega
                      · rw [cell_same (c1 _ db.2.2 hbq'), cell_of_block b1, ← hat j.val j.2]; congr 1; try omega
                    have hcon := Any.slices_SortFunc Tryz.sortL enc (fun _ => rfl) cf swo 14 #[.pointer (some ⟨Lx.blk, Lx.sh + 0, none⟩)] Lq.blk (Lq.sh + 0) cc d W eg hcmp.lays hH dq.2.2 (by omega)
                    change Calls Tryz.prog 13 _ _ _ at hcon
                    rw [hds, hll] at hcon
                    refine hcon.mono ?_
                    rintro e w' ⟨rfl, d', k, os, hp', hs', rfl⟩
                    obtain ⟨hp1, -, hp3⟩ := hp'
                    have hdz : d.size = ll := by rw [hds, hll]
                    have hd'z : d'.size = ll := by rw [hp1, hdz]
                    have e1 : d'.extract 0 ll = d' := by rw [← hd'z]; exact Array.extract_size
                    have e2 : d.extract 0 ll = d := by rw [← hdz]; exact Array.extract_size
                    have hperm : (d'.toList.map (·.val)).Perm L := by
                      rw [e1, e2] at hp3
                      have := hp3.map (·.val)
                      rwa [hdl] at this
                    have hML : d'.toList.map (·.val) = L' := by
                      refine sorted_unique (hperm.trans hp.symm) ?_ hpw
                      have n1 : ((d'.toList.map (·.val)).map at').Nodup := (hperm.map at').nodup_iff.2 hN
                      rw [List.Nodup, List.pairwise_map] at n1
                      have n2 : (d'.toList.map (·.val)).Pairwise (fun i j => at' i ≤ at' j) := by
                        rw [List.pairwise_map, List.pairwise_iff_getElem]
                        intro i j hi hj hij
                        have hi' : i < d'.size := by simpa using hi
                        have hj' : j < d'.size := by simpa using hj
                        have := hs' i j (Nat.zero_le _) hij (by omega)
                        rw [hcf, getElem!_pos d' j hj', getElem!_pos d' i hi'] at this
                        simp at this
                        simpa using this
                      exact (n2.and n1).imp fun {a b} ⟨z1, z2⟩ => by omega
                    have hlen' : L'.length = ll := by rw [hp.length_eq, hll]
                    have hblk : (Go.Sort.putRow enc (Go.Sort.ahead W k) Lq.blk (Lq.sh + 0) d').heap[Lq.blk]? = some (.cells (Go.Sort.putCells enc (Lq.sh + 0) d' cq) eq' frq) := by
                      simp only [Go.Sort.putRow, Go.Sort.mapBlock, Go.Sort.ahead, Array.getElem?_modify, if_true, q1, Option.map_some, Go.Sort.onCells]
                    have hcs : (Go.Sort.putCells enc (Lq.sh + 0) d' cq).size = cq.size := by simp [Go.Sort.putCells]
                    have hput : Sim B W0 φ (s.put q (some (.cells (L'.map fun i : Nat => Value.int .i64 (i : Int)) 1))) (Go.Sort.putRow enc (Go.Sort.ahead W k) Lq.blk (Lq.sh + 0) d') := by
                      refine hs.put hbq (by simp [hq]) (by simp [St.ro, hq]) (fun k' hk' => ?_) (by simp [Go.Sort.putRow, Go.Sort.mapBlock, Go.Sort.ahead]) rfl rfl rfl ⟨_, eq', frq, hblk, by rw [hcs]; exact q2, q3, by rw [hcs]; exact q4, q5, by rw [hcs]; simp only [List.length_map]; omega, ?_⟩
                      · simp only [Go.Sort.putRow, Go.Sort.mapBlock, Go.Sort.ahead, Array.getElem?_modify]
                        rw [if_neg (Ne.symm hk')]
                      · intro j v hv
                        have hj : j < L'.length := by have := (List.getElem?_eq_some_iff.1 hv).1; simpa using this
                        have hjd : j < d'.size := by omega
                        refine ⟨v, ?_, ?_⟩
                        · simp only [Go.Sort.putCells, Array.getElem?_mapIdx]
                          have hin : Lq.sh + j < cq.size := by omega
                          rw [Array.getElem?_eq_getElem hin]
                          simp only [Option.map_some]
                          rw [if_pos ⟨by omega, by omega⟩, show Lq.sh + j - (Lq.sh + 0) = j by omega, getElem!_pos d' j hjd, ← hv, ← hML]
                          simp [enc, hjd]
                        · simp only [List.getElem?_map, Option.map_eq_some_iff] at hv
                          obtain ⟨z, _, rfl⟩ := hv
                          exact .int _ _
                    refine ⟨φ, _, Grow.of_nx φ rfl, hput.later ⟨rfl, rfl, rfl, by simp [sortWorld, Go.Sort.grow], fun k' hk' => ?_⟩, rfl, .tuple .nil⟩
                    simp only [sortWorld, Go.Sort.grow]
                    rw [Array.getElem?_append_left hk']
  · cases h
end Go.Proofs.YtdepnglgbgpahaaGreat
