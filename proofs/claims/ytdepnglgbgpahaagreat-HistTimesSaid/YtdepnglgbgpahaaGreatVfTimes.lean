/-
  HistTimes, worked out for whatever events.
-/
import Derived.Test.YtdepnglgbgpahaaGreatVfOrder
set_option linter.unusedSectionVars false
set_option linter.unusedVariables false
set_option linter.unusedSimpArgs false
namespace Go.Proofs.YtdepnglgbgpahaaGreat
open Go Go.VE Go.Proofs
variable {S : CallR}

attribute [local simp] aop opMove opPick opAlloc opBox opLoad opStore opBinOp opUnOp opFieldAddr opIndexAddr opLookup opMapUpdate opExtract opMakeMap opMakeFunc opCall builtinOp lenOp
  evalO evalL wantedL dstSet runOps_cons runOps_nil ok rdT rd binOpV intOp cmpInt litNil isNilV kindOk nilOf plain atom asN opt pureRun
  ty2 ty3 ty4 ty9 ty22 ty25 ty28 ty39 ty48 ty30 ty37 ty47 f30_5 f30_6 t30_5 t30_6 o30_5 o30_6 f37_1 f37_3 f37_4 f37_5 f37_6 t37_1 t37_3 t37_4 t37_5 t37_6 o37_1 o37_3 o37_4 o37_5 o37_6
  pureRun_not keyTy cells_agg cells_slice length_set nth_set_same nth_set_ne add_lit

theorem fn3 : T.fn 3 = some ⟨codeOf Tryz.f3, 108, [.tmp 2]⟩ := by kernel_rfl
theorem fn6 : T.fn 6 = some ⟨codeOf Tryz.f6, 81, [.tmp 0]⟩ := by kernel_rfl
theorem ext6 : T.ext 6 = none := by kernel_rfl
theorem ext7 : T.ext 7 = none := by kernel_rfl
theorem ext8 : T.ext 8 = none := by kernel_rfl

variable {vs : List Value} {n : Nat} {fr at' to : Nat → Int} {bk : Nat → Bool}

/-- a map that tells of each of xs its place, from 1 on -/
def Place (es : List MapEntry) (xs : List Nat) (o : Nat) : Prop := es.map (fun e => (e.key, e.val)) = (xs.zipIdx o).map fun x => (Value.int .i64 (x.1 : Int), Value.int .i64 ((x.2 + 1 : Nat) : Int))

theorem place_find : ∀ {es : List MapEntry} {xs : List Nat} {o : Nat}, Place es xs o → ∀ (j c : Nat),
    (∃ q i, xs[q]? = some j ∧ findK (.int .i64 (j : Int)) es c = some (some (i, .int .i64 ((o + q + 1 : Nat) : Int)))) ∨ (j ∉ xs ∧ findK (.int .i64 (j : Int)) es c = some none)
  | [], [], o, h, j, c => .inr ⟨by simp, rfl⟩
  | [], x :: xs, o, h, j, c => by simp [Place] at h
  | e :: es, [], o, h, j, c => by simp [Place] at h
  | e :: es, x :: xs, o, h, j, c => by
    simp only [Place, List.map_cons, List.zipIdx_cons, List.cons.injEq, Prod.mk.injEq] at h
    obtain ⟨⟨h1, h2⟩, h3⟩ := h
    have hke : keyEq (.int .i64 (j : Int)) e.key = some ((j : Int) == (x : Int)) := by rw [h1]; simp [keyEq]
    by_cases hj : j = x
    · subst hj
      refine .inl ⟨0, c, rfl, ?_⟩
      simp only [findK, hke, beq_self_eq_true, h2, Nat.add_zero]
    · have hj' : ((j : Int) == (x : Int)) = false := by simp; omega
      rcases place_find (es := es) (xs := xs) (o := o + 1) h3 j (c + 1) with ⟨q, i, k1, k2⟩ | ⟨k1, k2⟩
      · refine .inl ⟨q + 1, i, by simpa using k1, ?_⟩
        simp only [findK, hke, hj', k2]
        congr 5
        omega
      · exact .inr ⟨by simp [hj, k1], by simp only [findK, hke, hj', k2]⟩

theorem place_snoc {es : List MapEntry} {xs : List Nat} {x clock : Nat} (h : Place es xs 0) : Place (es ++ [⟨.int .i64 (x : Int), .int .i64 ((xs.length + 1 : Nat) : Int), clock⟩]) (xs ++ [x]) 0 := by
  unfold Place at *
  simp only [List.map_append, h, List.map_cons, List.map_nil, List.zipIdx_append, List.zipIdx_cons, List.zipIdx_nil, Nat.zero_add]

theorem pairOk {es : List MapEntry} (L : List Nat) (hfit : ∀ i, i < n → fitsB (fr i) (at' i) (to i) (bk i) = true) (hmem : ∀ i, i ∈ L ↔ i < n ∧ at' i ≠ 0) (hpw : L.Pairwise (fun i j => at' i < at' j))
    (hfind : ∀ j : Nat, (∃ q i, L[q]? = some j ∧ findK (.int .i64 (j : Int)) es 0 = some (some (i, .int .i64 ((0 + q + 1 : Nat) : Int)))) ∨ (j ∉ L ∧ findK (.int .i64 (j : Int)) es 0 = some none)) {i j : Nat} (hi : i < n) (hj : j < n) :
    bk i = false ∨ (bk i = true ∧ decide (to i < fr j) = false) ∨ ((bk i = true ∧ True) ∧ decide (to i < fr j) = true ∧ findK (.int .i64 (j : Int)) es 0 = some none) ∨
    (bk i = true ∧ decide (to i < fr j) = true ∧ ∃ q1 q2 i1 i2, findK (.int .i64 (i : Int)) es 0 = some (some (i1, .int .i64 ((0 + q1 + 1 : Nat) : Int))) ∧ findK (.int .i64 (j : Int)) es 0 = some (some (i2, .int .i64 ((0 + q2 + 1 : Nat) : Int))) ∧
      decide (0 < ((0 + q2 + 1 : Nat) : Int)) = true ∧ decide (((0 + q2 + 1 : Nat) : Int) < ((0 + q1 + 1 : Nat) : Int)) = false) := by
  cases hb : bk i with
  | false => exact .inl rfl
  | true =>
    refine .inr ?_
    by_cases ht : to i < fr j
    · refine .inr ?_
      have ht' : decide (to i < fr j) = true := by simpa using ht
      rcases hfind j with ⟨q2, i2, k1, k2⟩ | ⟨k1, k2⟩
      · refine .inr ⟨rfl, ht', ?_⟩
        have f1 := hfit i hi
        have f2 := hfit j hj
        rw [hb] at f1
        simp [fitsB] at f1 f2
        have hjL : j ∈ L := List.mem_of_getElem? k1
        have hj0 := ((hmem j).1 hjL).2
        have hiL : i ∈ L := (hmem i).2 ⟨hi, f1.2.1⟩
        rcases hfind i with ⟨q1, i1, k3, k4⟩ | ⟨k3, k4⟩
        · refine ⟨q1, q2, i1, i2, k4, k2, by simp, ?_⟩
          have hlt : at' i < at' j := by omega
          have : ¬ q2 < q1 := by
            intro h
            obtain ⟨g1, g2⟩ := List.getElem?_eq_some_iff.1 k1
            obtain ⟨g3, g4⟩ := List.getElem?_eq_some_iff.1 k3
            have := List.pairwise_iff_getElem.1 hpw q2 q1 g1 g3 h
            rw [g2, g4] at this
            omega
          simp
          omega
        · exact absurd hiL k3
      · exact .inl ⟨⟨rfl, trivial⟩, ht', k2⟩
    · exact .inl ⟨rfl, by simpa using ht⟩

theorem neq_bool (x y : Operand) (a b : Bool) : pureV Tryz.prog (do eqGuard .neq 4 x y (.bool a) (.bool b); binOp .neq 4 (.bool a) (.bool b)) = some (.bool (a != b)) := by
  cases a <;> cases b <;> kernel_rfl

set_option maxHeartbeats 4000000 in
set_option maxRecDepth 100000 in
theorem times_big (hS6 : ∀ s, S 6 [] s = some (.bool true, s)) (hS3 : ∀ args s, S 3 args s = none) (hS7 : ∀ args s, S 7 args s = none)
    (hSort0 : ∀ (s : St) (x : Nat), S 13 [.slice none 0 0, .func (.func 14) #[] #[.pointer (some ⟨x, 0, none⟩)]] s = some (.tuple #[], s))
    (hSort : ∀ (s : St) (x b r m c c' : Nat) (L : List Nat), s.get x = some (.cells [.slice (some ⟨b, 0, none⟩) m c'] 0) → s.get b = some (.ro vs) → s.get r = some (.cells (L.map fun i : Nat => Value.int .i64 (i : Int)) 1) → (∀ i, i ∈ L → i < m) → m = n → (L.map at').Nodup → 0 < L.length → L.length ≤ n → n ≤ 40 →
      ∃ L' : List Nat, L'.Perm L ∧ L'.Pairwise (fun i j => at' i < at' j) ∧ S 13 [.slice (some ⟨r, 0, none⟩) L.length c, .func (.func 14) #[] #[.pointer (some ⟨x, 0, none⟩)]] s = some (.tuple #[], s.put r (some (.cells (L'.map fun i : Nat => Value.int .i64 (i : Int)) 1))))
    (hS8 : ∀ args s, S 8 args s = none) (hS12 : ∀ args s, S 12 args s = none) (hE : Evs vs n fr at' to bk) (hone : vs.all oneCell = true) {s0 : St} {p : Option Addr} {b c : Nat}
    (hp : 0 < n → p = some ⟨b, 0, none⟩ ∧ s0.get b = some (.ro vs) ∧ b < s0.nx) (hn : n < 9223372036854775808) (hnx : s0.nx < 100) :
    ∃ s', BigC Tryz.prog T S 3 [.slice p n c] s0 (.bool true) s' := by
  have key : BigE Tryz.prog T S (codeOf Tryz.f3) (app [.slice p n c] (List.replicate 107 undef)) s0 fun e t' s' => (e = .normal ∨ e = .ret) ∧ nth undef t' 2 = .bool true := by
    generalize ht : app [.slice p n c] (List.replicate 107 undef) = t
    have hlen : t.length = 108 := by subst ht; rfl
    have h0 : nth undef t 0 = .slice p n c := by subst ht; rfl
    clear ht
    apply BigE.seq; apply BigE.regL
    · iterate 1 first
        | (apply BigO.run
           · simp [hlen, h0]
           · intro call
             conv => lhs; simp [hlen, h0])
        | (apply BigO.passed
           · first | (simp [hlen, h0]; done) | (simp [hlen, h0]; rfl))
      exact BigO.nil
    show BigE _ _ _ _ _ _ _
    apply BigE.seq
    apply BigE.seq; apply BigE.regL
    · apply BigO.callee
      · simp [hlen]
      · rfl
      · intro b; simp
      · simp [calleeOf, hlen]; exact ⟨rfl, rfl⟩
      · exact ext6
      · exact fn6
      · exact BigC.summary (hS6 s0)
      iterate 1 first
        | (apply BigO.run
           · simp [hlen]
           · intro call
             conv => lhs; simp [hlen])
        | (apply BigO.passed
           · first | (simp [hlen]; done) | (simp [hlen]; rfl))
      exact BigO.nil
    show BigE _ _ _ _ _ _ _
    apply BigE.condF
    · simp [hlen]
    apply BigE.skip
    show BigE _ _ _ _ _ _ _
    obtain ⟨sm, hsm, hsm40⟩ := small_big (S := S) hS7 hE (s := s0) (p := p) (b := b) (c := c) (fun h => ⟨(hp h).1, (hp h).2.1⟩) hn
    cases sm with
    | false =>
      apply BigE.seq
      apply BigE.seq; apply BigE.regL
      · apply BigO.run
        · simp [hlen]
        · intro call
          conv => lhs; simp [hlen, h0]
        apply BigO.callee
        · simp [hlen]
        · rfl
        · intro b; simp
        · simp [calleeOf, hlen]; exact ⟨rfl, rfl⟩
        · exact ext7
        · exact fn7
        · exact hsm
        iterate 1 first
          | (apply BigO.run
             · simp [hlen]
             · intro call
               conv => lhs; simp [hlen])
          | (apply BigO.passed
             · first | (simp [hlen]; done) | (simp [hlen]; rfl))
        exact BigO.nil
      show BigE _ _ _ _ _ _ _
      apply BigE.condT
      · simp [hlen]
      apply BigE.seq; apply BigE.regL
      · iterate 1 first
          | (apply BigO.run
             · simp [hlen]
             · intro call
               conv => lhs; simp [hlen])
          | (apply BigO.passed
             · first | (simp [hlen]; done) | (simp [hlen]; rfl))
        exact BigO.nil
      show BigE _ _ _ _ _ _ _
      apply BigE.ret
      exact ⟨.inr rfl, by simp [hlen]⟩
    | true =>
      have hn40 := hsm40 rfl
      apply BigE.seq
      apply BigE.seq; apply BigE.regL
      · apply BigO.run
        · simp [hlen]
        · intro call
          conv => lhs; simp [hlen, h0]
        apply BigO.callee
        · simp [hlen]
        · rfl
        · intro b; simp
        · simp [calleeOf, hlen]; exact ⟨rfl, rfl⟩
        · exact ext7
        · exact fn7
        · exact hsm
        iterate 1 first
          | (apply BigO.run
             · simp [hlen]
             · intro call
               conv => lhs; simp [hlen])
          | (apply BigO.passed
             · first | (simp [hlen]; done) | (simp [hlen]; rfl))
        exact BigO.nil
      show BigE _ _ _ _ _ _ _
      apply BigE.condF
      · simp [hlen]
      apply BigE.skip
      show BigE _ _ _ _ _ _ _
      obtain ⟨ov, s1, ho, hord, hold, hnx1, hnx2⟩ := order_big (S := S) hSort0 hSort hS8 hS12 hE hone (s0 := s0) (p := p) (b := b) (c := c) hp hn40 hnx
      rcases hord with ⟨k, hk, rfl⟩ | ⟨L, idv, rfl, hfit, hmem, hpw, hLlen, hrow⟩
      · apply BigE.seq; apply BigE.regL
        · apply BigO.run
          · simp [hlen]
          · intro call
            conv => lhs; simp [hlen, h0]
          apply BigO.callee
          · simp [hlen]
          · rfl
          · intro b; simp
          · simp [calleeOf, hlen]; exact ⟨rfl, rfl⟩
          · exact ext8
          · exact fn8
          · exact ho
          iterate 5 first
            | (apply BigO.run
               · simp [hlen]
               · intro call
                 conv => lhs; simp [hlen])
            | (apply BigO.passed
               · first | (simp [hlen]; done) | (simp [hlen]; rfl))
          exact BigO.nil
        show BigE _ _ _ _ _ _ _
        apply BigE.seq
        apply BigE.seq; apply BigE.regL
        · iterate 2 first
            | (apply BigO.run
               · simp [hlen]
               · intro call
                 conv => lhs; simp [hlen])
            | (apply BigO.passed
               · first | (simp [hlen]; done) | (simp [hlen]; rfl))
          exact BigO.nil
        show BigE _ _ _ _ _ _ _
        apply BigE.condT
        · simp [hlen]
        apply BigE.seq; apply BigE.regL
        · iterate 10 first
            | (apply BigO.run
               · simp [hlen, hk, h0]
               · intro call
                 conv => lhs; simp [hlen, hk, h0])
            | (apply BigO.passed
               · first | (simp [hlen, hk, h0]; done) | (simp [hlen, hk, h0]; rfl))
          exact BigO.nil
        show BigE _ _ _ _ _ _ _
        apply BigE.ret
        exact ⟨.inr rfl, by simp [hlen]⟩
      · apply BigE.seq; apply BigE.regL
        · apply BigO.run
          · simp [hlen]
          · intro call
            conv => lhs; simp [hlen, h0]
          apply BigO.callee
          · simp [hlen]
          · rfl
          · intro b; simp
          · simp [calleeOf, hlen]; exact ⟨rfl, rfl⟩
          · exact ext8
          · exact fn8
          · exact ho
          iterate 5 first
            | (apply BigO.run
               · simp [hlen]
               · intro call
                 conv => lhs; simp [hlen])
            | (apply BigO.passed
               · first | (simp [hlen]; done) | (simp [hlen]; rfl))
          exact BigO.nil
        show BigE _ _ _ _ _ _ _
        apply BigE.seq
        apply BigE.seq; apply BigE.regL
        · iterate 2 first
            | (apply BigO.run
               · simp [hlen]
               · intro call
                 conv => lhs; simp [hlen])
            | (apply BigO.passed
               · first | (simp [hlen]; done) | (simp [hlen]; rfl))
          exact BigO.nil
        show BigE _ _ _ _ _ _ _
        apply BigE.condF
        · simp [hlen]
        apply BigE.skip
        show BigE _ _ _ _ _ _ _
        apply BigE.seq; apply BigE.regL
        · iterate 2 first
            | (apply BigO.run
               · simp [hlen]
               · intro call
                 conv => lhs; simp [hlen])
            | (apply BigO.passed
               · first | (simp [hlen]; done) | (simp [hlen]; rfl))
          exact BigO.nil
        show BigE _ _ _ _ _ _ _
        have hm1 : (s1.push (.map [] 0)).get s1.nx = some (.map [] 0) := get_push_same s1 _ (by omega)
        have hold1 : ∀ i, i < s1.nx → (s1.push (.map [] 0)).get i = s1.get i := fun i hi => St.get_push_old _ _ _ (by omega)
        have hnx3 : (s1.push (.map [] 0)).nx = s1.nx + 1 := rfl
        obtain ⟨p', r, c', rfl, hrow'⟩ : ∃ p' r c', idv = .slice p' L.length c' ∧ (0 < L.length → p' = some ⟨r, 0, none⟩ ∧ r < s1.nx ∧ s1.get r = some (.cells (L.map fun i : Nat => Value.int .i64 (i : Int)) 1)) := by
          rcases hrow with ⟨rfl, rfl⟩ | ⟨r, c', h1, h2, rfl, h4⟩
          · exact ⟨none, 0, 0, rfl, fun h => by simp at h⟩
          · exact ⟨_, r, c', rfl, fun _ => ⟨rfl, h2, h4⟩⟩
        have hro : 0 < n → s1.get b = some (.ro vs) ∧ b < s1.nx := fun h => ⟨by rw [hold b (hp h).2.2, (hp h).2.1], by have := (hp h).2.2; omega⟩
        have hLn : L.Nodup := hpw.imp (fun h e => by subst e; omega)
        generalize hs2 : s1.push (.map [] 0) = s2 at hm1 hold1 hnx3 ⊢
        have hrow2 : 0 < L.length → p' = some ⟨r, 0, none⟩ ∧ r ≠ s1.nx ∧ s2.get r = some (.cells (L.map fun i : Nat => Value.int .i64 (i : Int)) 1) := fun h => by
          obtain ⟨x1, x2, x3⟩ := hrow' h
          exact ⟨x1, by omega, by rw [hold1 r x2, x3]⟩
        have hro2 : 0 < n → s2.get b = some (.ro vs) ∧ b ≠ s1.nx := fun h => by
          obtain ⟨x1, x2⟩ := hro h
          exact ⟨by rw [hold1 b x2, x1], by omega⟩
        generalize s1.nx = m at hm1 hrow2 hro2 ⊢
        apply BigE.seq
        apply BigE.seq; apply BigE.regL
        · iterate 3 first
            | (apply BigO.run
               · simp [hlen]
               · intro call
                 conv => lhs; simp [hlen])
            | (apply BigO.passed
               · first | (simp [hlen]; done) | (simp [hlen]; rfl))
          exact BigO.nil
        show BigE _ _ _ _ _ _ _
        apply BigE.block
        refine BigE.loop (I := fun j t' s' => ∃ i, i + j = L.length ∧ t'.length = 108 ∧ nth undef t' 0 = .slice p n c ∧ nth undef t' 5 = .map (some m) ∧ nth undef t' 32 = .slice p' L.length c' ∧ nth undef t' 33 = .int .i64 (L.length : Int) ∧
          nth undef t' 34 = .int .i64 (i : Int) ∧ (0 < L.length → s'.get r = some (.cells (L.map fun i : Nat => Value.int .i64 (i : Int)) 1)) ∧ (0 < n → s'.get b = some (.ro vs)) ∧ ∃ es clock, s'.get m = some (.map es clock) ∧ Place es (L.take i) 0) ?_ ?_ L.length _ _ ?_
        · rintro j t' s' ⟨i, hi, hlen, h0, h5, h32, h33, h34, gr, gb, es, clock, gm, hpl⟩
          have hlt : i < L.length := by omega
          obtain ⟨rfl, hrm, _⟩ := hrow2 (by omega)
          have gr := gr (by omega)
          have hLi : L[i]? = some L[i] := List.getElem?_eq_getElem hlt
          generalize hx : L[i] = x at hLi
          have hxL : x ∈ L := List.mem_of_getElem? hLi
          have hxn : x < n := ((hmem x).1 hxL).1
          have hw := wrap_succ (k := i) (by omega)
          have hrd := slc_one (vs := L.map fun i : Nat => Value.int .i64 (i : Int)) (o := i) (v := .int .i64 (x : Int)) (by simp [hLi])
          have x0 : decide ((x : Int) < 0) = false := by simp
          have x1 : decide ((n : Int) ≤ x) = false := by simp; omega
          have x2 : decide (n ≤ x) = false := by simp; omega
          have hnot : x ∉ L.take i := by
            intro hc
            have := hLn
            rw [← List.take_append_drop i L, List.nodup_append] at this
            refine this.2.2 x hc x ?_ rfl
            rw [List.drop_eq_getElem_cons hlt, hx]
            simp
          have hfk : findK (.int .i64 (x : Int)) es 0 = some none := by
            rcases place_find hpl x 0 with ⟨q, i', k1, k2⟩ | ⟨k1, k2⟩
            · exact absurd (List.mem_of_getElem? k1) hnot
            · exact k2
          apply BigE.seq; apply BigE.regL
          · iterate 1 first
              | (apply BigO.run
                 · simp [hlen, h33, h34, hlt]
                 · intro call
                   conv => lhs; simp [hlen, h33, h34, hlt])
              | (apply BigO.passed
                 · first | (simp [hlen, h33, h34, hlt]; done) | (simp [hlen, h33, h34, hlt]; rfl))
            exact BigO.nil
          show BigE _ _ _ _ _ _ _
          apply BigE.seq; apply BigE.condT
          · simp [hlen, hlt]
          apply BigE.skip
          show BigE _ _ _ _ _ _ _
          apply BigE.seq
          apply BigE.block
          apply BigE.seq; apply BigE.regL
          · iterate 5 first
              | (apply BigO.run
                 · simp [hlen, h32, h34, hlt, gr, hrd]
                 · intro call
                   conv => lhs; simp [hlen, h32, h34, hlt, gr, hrd])
              | (apply BigO.passed
                 · first | (simp [hlen, h32, h34, hlt, gr, hrd]; done) | (simp [hlen, h32, h34, hlt, gr, hrd]; rfl))
            exact BigO.nil
          show BigE _ _ _ _ _ _ _
          apply BigE.seq
          apply BigE.seq; apply BigE.regL
          · iterate 8 first
              | (apply BigO.run
                 · simp [hlen, h0, x0, x1, x2]
                 · intro call
                   conv => lhs; simp [hlen, h0, x0, x1, x2])
              | (apply BigO.passed
                 · first | (simp [hlen, h0, x0, x1, x2]; done) | (simp [hlen, h0, x0, x1, x2]; rfl))
            exact BigO.nil
          show BigE _ _ _ _ _ _ _
          apply BigE.condF
          · simp [hlen]
          apply BigE.skip
          show BigE _ _ _ _ _ _ _
          apply BigE.regL
          · iterate 5 first
              | (apply BigO.run
                 · simp [hlen, h5, h34, hw, gm, hfk]
                 · intro call
                   conv => lhs; simp [hlen, h5, h34, hw, gm, hfk])
              | (apply BigO.passed
                 · first | (simp [hlen, h5, h34, hw, gm, hfk]; done) | (simp [hlen, h5, h34, hw, gm, hfk]; rfl))
            exact BigO.nil
          show BigE _ _ _ _ _ _ _
          apply BigE.regL
          · iterate 2 first
              | (apply BigO.run
                 · simp [hlen, h34, hw]
                 · intro call
                   conv => lhs; simp [hlen, h34, hw])
              | (apply BigO.passed
                 · first | (simp [hlen, h34, hw]; done) | (simp [hlen, h34, hw]; rfl))
            exact BigO.nil
          have htake : L.take (i + 1) = L.take i ++ [x] := by
            rw [List.take_succ_eq_append_getElem hlt, hx]
          have hti : (L.take i).length = i := by rw [List.length_take]; omega
          refine ⟨i + 1, by omega, by simp [hlen], by simp [hlen, h0], by simp [hlen, h5], by simp [hlen, h32], by simp [hlen, h33], by simp [hlen], fun _ => ?_, fun h => ?_, _, clock + 1, St.get_put_same _ _ _ (by rw [gm]; rfl), ?_⟩
          · rw [St.get_put_ne _ _ _ _ hrm]; exact gr
          · rw [St.get_put_ne _ _ _ _ (hro2 h).2]; exact gb h
          · have := place_snoc (x := x) (clock := clock) hpl
            rw [hti] at this
            rw [htake]
            exact this
        · rintro t' s' ⟨i, hi, hlen, h0, h5, h32, h33, h34, gr, gb, es, clock, gm, hpl⟩
          obtain rfl : i = L.length := by omega
          rw [List.take_length] at hpl
          apply BigE.seq; apply BigE.regL
          · iterate 1 first
              | (apply BigO.run
                 · simp [hlen, h33, h34]
                 · intro call
                   conv => lhs; simp [hlen, h33, h34])
              | (apply BigO.passed
                 · first | (simp [hlen, h33, h34]; done) | (simp [hlen, h33, h34]; rfl))
            exact BigO.nil
          show BigE _ _ _ _ _ _ _
          apply BigE.seq; apply BigE.condF
          · simp [hlen]
          apply BigE.exit
          refine ⟨by simp, ?_⟩
          show BigE _ _ _ _ _ _ _
          have hfind := fun j => place_find hpl j 0
          apply BigE.seq
          apply BigE.seq; apply BigE.regL
          · iterate 3 first
              | (apply BigO.run
                 · simp [hlen, h0]
                 · intro call
                   conv => lhs; simp [hlen, h0])
              | (apply BigO.passed
                 · first | (simp [hlen, h0]; done) | (simp [hlen, h0]; rfl))
            exact BigO.nil
          show BigE _ _ _ _ _ _ _
          apply BigE.block
          refine BigE.loop (I := fun j t' s'' => s'' = s' ∧ ∃ i, i + j = n ∧ t'.length = 108 ∧ nth undef t' 0 = .slice p n c ∧ nth undef t' 5 = .map (some m) ∧ nth undef t' 53 = .int .i64 (n : Int) ∧ nth undef t' 54 = .int .i64 (i : Int)) ?_ ?_ n _ _ ?_
          · rintro j t' s' ⟨rfl, i, hi, hlen, h0, h5, h53, h54⟩
            have hlt : i < n := by omega
            obtain ⟨rfl, _, _⟩ := hp (by omega)
            have gb := gb (by omega)
            have hw := wrap_succ (k := i) (by omega)
            have sAt := slc_one (hE.at' i hlt)
            apply BigE.seq; apply BigE.regL
            · iterate 1 first
                | (apply BigO.run
                   · simp [hlen, h53, h54, hlt]
                   · intro call
                     conv => lhs; simp [hlen, h53, h54, hlt])
                | (apply BigO.passed
                   · first | (simp [hlen, h53, h54, hlt]; done) | (simp [hlen, h53, h54, hlt]; rfl))
              exact BigO.nil
            show BigE _ _ _ _ _ _ _
            apply BigE.seq; apply BigE.condT
            · simp [hlen, hlt]
            apply BigE.skip
            show BigE _ _ _ _ _ _ _
            apply BigE.seq
            apply BigE.block
            apply BigE.seq; apply BigE.regL
            · iterate 2 first
                | (apply BigO.run
                   · simp [hlen, h54]
                   · intro call
                     conv => lhs; simp [hlen, h54])
                | (apply BigO.passed
                   · first | (simp [hlen, h54]; done) | (simp [hlen, h54]; rfl))
              exact BigO.nil
            show BigE _ _ _ _ _ _ _
            have ci : (i ∈ L ∧ ((at' i == 0) = false ∧ (at' i != 0) = true) ∧ ∃ q i', L[q]? = some i ∧ findK (.int .i64 (i : Int)) es 0 = some (some (i', .int .i64 ((0 + q + 1 : Nat) : Int))) ∧ decide (0 < ((0 + q + 1 : Nat) : Int)) = true) ∨ (at' i = 0 ∧ findK (.int .i64 (i : Int)) es 0 = some none) := by
              rcases hfind i with ⟨q, i', k1, k2⟩ | ⟨k1, k2⟩
              · have hiL : i ∈ L := List.mem_of_getElem? k1
                have := ((hmem i).1 hiL).2
                exact .inl ⟨hiL, by simpa using this, q, i', k1, k2, by simp⟩
              · refine .inr ⟨?_, k2⟩
                apply Classical.byContradiction
                intro h
                exact k1 ((hmem i).2 ⟨hlt, h⟩)
            rcases ci with ⟨hiL, ⟨a1, a2⟩, q, i', k1, k2, k3⟩ | ⟨a1, k2⟩
            · apply BigE.seq
              apply BigE.seq; apply BigE.drawL
              · kernel_rfl
              · intro call
                iterate 11 first
                  | (apply runQ_run
                     · simp [hlen, h0, h5, hlt, gb, gm, sAt, a1, a2, k2, k3, neq_bool]
                     · conv => lhs; simp [hlen, h0, h5, hlt, gb, gm, sAt, a1, a2, k2, k3, neq_bool]
                     · simp [eqv, eq0])
                  | (apply runQ_passed
                     · first | (simp [hlen, h0, h5, hlt, gb, gm, sAt, a1, a2, k2, k3, neq_bool]; done) | (simp [hlen, h0, h5, hlt, gb, gm, sAt, a1, a2, k2, k3, neq_bool]; rfl))
                rfl
              show BigE _ _ _ _ _ _ _
              apply BigE.condF
              · simp [hlen]
              apply BigE.skip
              show BigE _ _ _ _ _ _ _
              apply BigE.seq; apply BigE.regL
              · iterate 3 first
                  | (apply BigO.run
                     · simp [hlen, h0]
                     · intro call
                       conv => lhs; simp [hlen, h0])
                  | (apply BigO.passed
                     · first | (simp [hlen, h0]; done) | (simp [hlen, h0]; rfl))
                exact BigO.nil
              show BigE _ _ _ _ _ _ _
              apply BigE.block
              refine BigE.loop (I := fun jj t'' s'' => s'' = s' ∧ ∃ j2, j2 + jj = n ∧ t''.length = 108 ∧ nth undef t'' 0 = .slice (some ⟨b, 0, none⟩) n c ∧ nth undef t'' 5 = .map (some m) ∧ nth undef t'' 8 = .int .i64 (i : Int) ∧ nth undef t'' 53 = .int .i64 (n : Int) ∧ nth undef t'' 54 = .int .i64 (i : Int) ∧
                nth undef t'' 69 = .int .i64 (n : Int) ∧ nth undef t'' 70 = .int .i64 (j2 : Int)) ?_ ?_ n _ _ ?_
              · rintro jj t' s' ⟨rfl, j2, hj2, hlen, h0, h5, h8, h53, h54, h69, h70⟩
                have hlt2 : j2 < n := by omega
                have hw2 := wrap_succ (k := j2) (by omega)
                have sTo := slc_one (hE.to i hlt)
                have sBk := slc_one (hE.back i hlt)
                have sFr := slc_one (hE.from' j2 hlt2)
                apply BigE.seq; apply BigE.regL
                · iterate 1 first
                    | (apply BigO.run
                       · simp [hlen, h69, h70, hlt2]
                       · intro call
                         conv => lhs; simp [hlen, h69, h70, hlt2])
                    | (apply BigO.passed
                       · first | (simp [hlen, h69, h70, hlt2]; done) | (simp [hlen, h69, h70, hlt2]; rfl))
                  exact BigO.nil
                show BigE _ _ _ _ _ _ _
                apply BigE.seq; apply BigE.condT
                · simp [hlen, hlt2]
                apply BigE.skip
                show BigE _ _ _ _ _ _ _
                apply BigE.seq
                apply BigE.block
                apply BigE.seq; apply BigE.regL
                · iterate 2 first
                    | (apply BigO.run
                       · simp [hlen, h70]
                       · intro call
                         conv => lhs; simp [hlen, h70])
                    | (apply BigO.passed
                       · first | (simp [hlen, h70]; done) | (simp [hlen, h70]; rfl))
                  exact BigO.nil
                show BigE _ _ _ _ _ _ _
                have cj := pairOk L hfit hmem hpw hfind hlt hlt2
                rcases cj with b1 | ⟨b1, b2⟩ | ⟨⟨b1, _⟩, b2, b3⟩ | ⟨b1, b2, q1, q2, i1, i2, b3, b4, b5, b6⟩
                · apply BigE.seq; apply BigE.drawL
                  · kernel_rfl
                  · intro call
                    iterate 33 first
                      | (apply runQ_run
                         · simp [hlen, h0, h5, h8, h54, hlt, hlt2, gb, gm, sTo, sFr, sBk, b1]
                         · conv => lhs; simp [hlen, h0, h5, h8, h54, hlt, hlt2, gb, gm, sTo, sFr, sBk, b1]
                         · simp [eqv, eq0])
                      | (apply runQ_passed
                         · first | (simp [hlen, h0, h5, h8, h54, hlt, hlt2, gb, gm, sTo, sFr, sBk, b1]; done) | (simp [hlen, h0, h5, h8, h54, hlt, hlt2, gb, gm, sTo, sFr, sBk, b1]; rfl))
                    rfl
                  show BigE _ _ _ _ _ _ _
                  apply BigE.condF
                  · simp [hlen]
                  apply BigE.skip
                  show BigE _ _ _ _ _ _ _
                  apply BigE.regL
                  · iterate 2 first
                      | (apply BigO.run
                         · simp [hlen, h70, hw2]
                         · intro call
                           conv => lhs; simp [hlen, h70, hw2])
                      | (apply BigO.passed
                         · first | (simp [hlen, h70, hw2]; done) | (simp [hlen, h70, hw2]; rfl))
                    exact BigO.nil
                  exact ⟨rfl, j2 + 1, by omega, by simp [hlen], by simp [hlen, h0], by simp [hlen, h5], by simp [hlen, h8], by simp [hlen, h53], by simp [hlen, h54], by simp [hlen, h69], by simp [hlen]⟩
                · apply BigE.seq; apply BigE.drawL
                  · kernel_rfl
                  · intro call
                    iterate 33 first
                      | (apply runQ_run
                         · simp [hlen, h0, h5, h8, h54, hlt, hlt2, gb, gm, sTo, sFr, sBk, b1, b2]
                         · conv => lhs; simp [hlen, h0, h5, h8, h54, hlt, hlt2, gb, gm, sTo, sFr, sBk, b1, b2]
                         · simp [eqv, eq0])
                      | (apply runQ_passed
                         · first | (simp [hlen, h0, h5, h8, h54, hlt, hlt2, gb, gm, sTo, sFr, sBk, b1, b2]; done) | (simp [hlen, h0, h5, h8, h54, hlt, hlt2, gb, gm, sTo, sFr, sBk, b1, b2]; rfl))
                    rfl
                  show BigE _ _ _ _ _ _ _
                  apply BigE.condF
                  · simp [hlen]
                  apply BigE.skip
                  show BigE _ _ _ _ _ _ _
                  apply BigE.regL
                  · iterate 2 first
                      | (apply BigO.run
                         · simp [hlen, h70, hw2]
                         · intro call
                           conv => lhs; simp [hlen, h70, hw2])
                      | (apply BigO.passed
                         · first | (simp [hlen, h70, hw2]; done) | (simp [hlen, h70, hw2]; rfl))
                    exact BigO.nil
                  exact ⟨rfl, j2 + 1, by omega, by simp [hlen], by simp [hlen, h0], by simp [hlen, h5], by simp [hlen, h8], by simp [hlen, h53], by simp [hlen, h54], by simp [hlen, h69], by simp [hlen]⟩
                · apply BigE.seq; apply BigE.drawL
                  · kernel_rfl
                  · intro call
                    iterate 33 first
                      | (apply runQ_run
                         · simp [hlen, h0, h5, h8, h54, hlt, hlt2, gb, gm, sTo, sFr, sBk, b1, b2, b3]
                         · conv => lhs; simp [hlen, h0, h5, h8, h54, hlt, hlt2, gb, gm, sTo, sFr, sBk, b1, b2, b3]
                         · simp [eqv, eq0])
                      | (apply runQ_passed
                         · first | (simp [hlen, h0, h5, h8, h54, hlt, hlt2, gb, gm, sTo, sFr, sBk, b1, b2, b3]; done) | (simp [hlen, h0, h5, h8, h54, hlt, hlt2, gb, gm, sTo, sFr, sBk, b1, b2, b3]; rfl))
                    rfl
                  show BigE _ _ _ _ _ _ _
                  apply BigE.condF
                  · simp [hlen]
                  apply BigE.skip
                  show BigE _ _ _ _ _ _ _
                  apply BigE.regL
                  · iterate 2 first
                      | (apply BigO.run
                         · simp [hlen, h70, hw2]
                         · intro call
                           conv => lhs; simp [hlen, h70, hw2])
                      | (apply BigO.passed
                         · first | (simp [hlen, h70, hw2]; done) | (simp [hlen, h70, hw2]; rfl))
                    exact BigO.nil
                  exact ⟨rfl, j2 + 1, by omega, by simp [hlen], by simp [hlen, h0], by simp [hlen, h5], by simp [hlen, h8], by simp [hlen, h53], by simp [hlen, h54], by simp [hlen, h69], by simp [hlen]⟩
                · apply BigE.seq; apply BigE.drawL
                  · kernel_rfl
                  · intro call
                    iterate 33 first
                      | (apply runQ_run
                         · simp [hlen, h0, h5, h8, h54, hlt, hlt2, gb, gm, sTo, sFr, sBk, b1, b2, b3, b4, b5, b6]
                         · conv => lhs; simp [hlen, h0, h5, h8, h54, hlt, hlt2, gb, gm, sTo, sFr, sBk, b1, b2, b3, b4, b5, b6]
                         · simp [eqv, eq0])
                      | (apply runQ_passed
                         · first | (simp [hlen, h0, h5, h8, h54, hlt, hlt2, gb, gm, sTo, sFr, sBk, b1, b2, b3, b4, b5, b6]; done) | (simp [hlen, h0, h5, h8, h54, hlt, hlt2, gb, gm, sTo, sFr, sBk, b1, b2, b3, b4, b5, b6]; rfl))
                    rfl
                  show BigE _ _ _ _ _ _ _
                  apply BigE.condF
                  · first | (simp [hlen]; done) | (simp [hlen]; simpa using b6)
                  apply BigE.skip
                  show BigE _ _ _ _ _ _ _
                  apply BigE.regL
                  · iterate 2 first
                      | (apply BigO.run
                         · simp [hlen, h70, hw2]
                         · intro call
                           conv => lhs; simp [hlen, h70, hw2])
                      | (apply BigO.passed
                         · first | (simp [hlen, h70, hw2]; done) | (simp [hlen, h70, hw2]; rfl))
                    exact BigO.nil
                  exact ⟨rfl, j2 + 1, by omega, by simp [hlen], by simp [hlen, h0], by simp [hlen, h5], by simp [hlen, h8], by simp [hlen, h53], by simp [hlen, h54], by simp [hlen, h69], by simp [hlen]⟩
              · rintro t' s' ⟨rfl, j2, hj2, hlen, h0, h5, h8, h53, h54, h69, h70⟩
                obtain rfl : j2 = n := by omega
                apply BigE.seq; apply BigE.regL
                · iterate 1 first
                    | (apply BigO.run
                       · simp [hlen, h69, h70]
                       · intro call
                         conv => lhs; simp [hlen, h69, h70])
                    | (apply BigO.passed
                       · first | (simp [hlen, h69, h70]; done) | (simp [hlen, h69, h70]; rfl))
                  exact BigO.nil
                show BigE _ _ _ _ _ _ _
                apply BigE.seq; apply BigE.condF
                · simp [hlen]
                apply BigE.exit
                refine ⟨by simp, ?_⟩
                show BigE _ _ _ _ _ _ _
                apply BigE.regL
                · iterate 2 first
                    | (apply BigO.run
                       · simp [hlen, h54, hw]
                       · intro call
                         conv => lhs; simp [hlen, h54, hw])
                    | (apply BigO.passed
                       · first | (simp [hlen, h54, hw]; done) | (simp [hlen, h54, hw]; rfl))
                  exact BigO.nil
                exact ⟨rfl, i + 1, by omega, by simp [hlen], by simp [hlen, h0], by simp [hlen, h5], by simp [hlen, h53], by simp [hlen]⟩
              · exact ⟨rfl, 0, by omega, by simp [hlen], by simp [hlen, h0], by simp [hlen, h5], by simp [hlen], by simp [hlen, h53], by simp [hlen, h54], by simp [hlen], by simp [hlen]⟩
            · apply BigE.seq
              apply BigE.seq; apply BigE.drawL
              · kernel_rfl
              · intro call
                iterate 11 first
                  | (apply runQ_run
                     · simp [hlen, h0, h5, hlt, gb, gm, sAt, a1, k2, neq_bool]
                     · conv => lhs; simp [hlen, h0, h5, hlt, gb, gm, sAt, a1, k2, neq_bool]
                     · simp [eqv, eq0])
                  | (apply runQ_passed
                     · first | (simp [hlen, h0, h5, hlt, gb, gm, sAt, a1, k2, neq_bool]; done) | (simp [hlen, h0, h5, hlt, gb, gm, sAt, a1, k2, neq_bool]; rfl))
                rfl
              show BigE _ _ _ _ _ _ _
              apply BigE.condF
              · simp [hlen]
              apply BigE.skip
              show BigE _ _ _ _ _ _ _
              apply BigE.seq; apply BigE.regL
              · iterate 3 first
                  | (apply BigO.run
                     · simp [hlen, h0]
                     · intro call
                       conv => lhs; simp [hlen, h0])
                  | (apply BigO.passed
                     · first | (simp [hlen, h0]; done) | (simp [hlen, h0]; rfl))
                exact BigO.nil
              show BigE _ _ _ _ _ _ _
              apply BigE.block
              refine BigE.loop (I := fun jj t'' s'' => s'' = s' ∧ ∃ j2, j2 + jj = n ∧ t''.length = 108 ∧ nth undef t'' 0 = .slice (some ⟨b, 0, none⟩) n c ∧ nth undef t'' 5 = .map (some m) ∧ nth undef t'' 8 = .int .i64 (i : Int) ∧ nth undef t'' 53 = .int .i64 (n : Int) ∧ nth undef t'' 54 = .int .i64 (i : Int) ∧
                nth undef t'' 69 = .int .i64 (n : Int) ∧ nth undef t'' 70 = .int .i64 (j2 : Int)) ?_ ?_ n _ _ ?_
              · rintro jj t' s' ⟨rfl, j2, hj2, hlen, h0, h5, h8, h53, h54, h69, h70⟩
                have hlt2 : j2 < n := by omega
                have hw2 := wrap_succ (k := j2) (by omega)
                have sTo := slc_one (hE.to i hlt)
                have sBk := slc_one (hE.back i hlt)
                have sFr := slc_one (hE.from' j2 hlt2)
                apply BigE.seq; apply BigE.regL
                · iterate 1 first
                    | (apply BigO.run
                       · simp [hlen, h69, h70, hlt2]
                       · intro call
                         conv => lhs; simp [hlen, h69, h70, hlt2])
                    | (apply BigO.passed
                       · first | (simp [hlen, h69, h70, hlt2]; done) | (simp [hlen, h69, h70, hlt2]; rfl))
                  exact BigO.nil
                show BigE _ _ _ _ _ _ _
                apply BigE.seq; apply BigE.condT
                · simp [hlen, hlt2]
                apply BigE.skip
                show BigE _ _ _ _ _ _ _
                apply BigE.seq
                apply BigE.block
                apply BigE.seq; apply BigE.regL
                · iterate 2 first
                    | (apply BigO.run
                       · simp [hlen, h70]
                       · intro call
                         conv => lhs; simp [hlen, h70])
                    | (apply BigO.passed
                       · first | (simp [hlen, h70]; done) | (simp [hlen, h70]; rfl))
                  exact BigO.nil
                show BigE _ _ _ _ _ _ _
                have cj := pairOk L hfit hmem hpw hfind hlt hlt2
                rcases cj with b1 | ⟨b1, b2⟩ | ⟨⟨b1, _⟩, b2, b3⟩ | ⟨b1, b2, q1, q2, i1, i2, b3, b4, b5, b6⟩
                · apply BigE.seq; apply BigE.drawL
                  · kernel_rfl
                  · intro call
                    iterate 33 first
                      | (apply runQ_run
                         · simp [hlen, h0, h5, h8, h54, hlt, hlt2, gb, gm, sTo, sFr, sBk, b1]
                         · conv => lhs; simp [hlen, h0, h5, h8, h54, hlt, hlt2, gb, gm, sTo, sFr, sBk, b1]
                         · simp [eqv, eq0])
                      | (apply runQ_passed
                         · first | (simp [hlen, h0, h5, h8, h54, hlt, hlt2, gb, gm, sTo, sFr, sBk, b1]; done) | (simp [hlen, h0, h5, h8, h54, hlt, hlt2, gb, gm, sTo, sFr, sBk, b1]; rfl))
                    rfl
                  show BigE _ _ _ _ _ _ _
                  apply BigE.condF
                  · simp [hlen]
                  apply BigE.skip
                  show BigE _ _ _ _ _ _ _
                  apply BigE.regL
                  · iterate 2 first
                      | (apply BigO.run
                         · simp [hlen, h70, hw2]
                         · intro call
                           conv => lhs; simp [hlen, h70, hw2])
                      | (apply BigO.passed
                         · first | (simp [hlen, h70, hw2]; done) | (simp [hlen, h70, hw2]; rfl))
                    exact BigO.nil
                  exact ⟨rfl, j2 + 1, by omega, by simp [hlen], by simp [hlen, h0], by simp [hlen, h5], by simp [hlen, h8], by simp [hlen, h53], by simp [hlen, h54], by simp [hlen, h69], by simp [hlen]⟩
                · apply BigE.seq; apply BigE.drawL
                  · kernel_rfl
                  · intro call
                    iterate 33 first
                      | (apply runQ_run
                         · simp [hlen, h0, h5, h8, h54, hlt, hlt2, gb, gm, sTo, sFr, sBk, b1, b2]
                         · conv => lhs; simp [hlen, h0, h5, h8, h54, hlt, hlt2, gb, gm, sTo, sFr, sBk, b1, b2]
                         · simp [eqv, eq0])
                      | (apply runQ_passed
                         · first | (simp [hlen, h0, h5, h8, h54, hlt, hlt2, gb, gm, sTo, sFr, sBk, b1, b2]; done) | (simp [hlen, h0, h5, h8, h54, hlt, hlt2, gb, gm, sTo, sFr, sBk, b1, b2]; rfl))
                    rfl
                  show BigE _ _ _ _ _ _ _
                  apply BigE.condF
                  · simp [hlen]
                  apply BigE.skip
                  show BigE _ _ _ _ _ _ _
                  apply BigE.regL
                  · iterate 2 first
                      | (apply BigO.run
                         · simp [hlen, h70, hw2]
                         · intro call
                           conv => lhs; simp [hlen, h70, hw2])
                      | (apply BigO.passed
                         · first | (simp [hlen, h70, hw2]; done) | (simp [hlen, h70, hw2]; rfl))
                    exact BigO.nil
                  exact ⟨rfl, j2 + 1, by omega, by simp [hlen], by simp [hlen, h0], by simp [hlen, h5], by simp [hlen, h8], by simp [hlen, h53], by simp [hlen, h54], by simp [hlen, h69], by simp [hlen]⟩
                · apply BigE.seq; apply BigE.drawL
                  · kernel_rfl
                  · intro call
                    iterate 33 first
                      | (apply runQ_run
                         · simp [hlen, h0, h5, h8, h54, hlt, hlt2, gb, gm, sTo, sFr, sBk, b1, b2, b3]
                         · conv => lhs; simp [hlen, h0, h5, h8, h54, hlt, hlt2, gb, gm, sTo, sFr, sBk, b1, b2, b3]
                         · simp [eqv, eq0])
                      | (apply runQ_passed
                         · first | (simp [hlen, h0, h5, h8, h54, hlt, hlt2, gb, gm, sTo, sFr, sBk, b1, b2, b3]; done) | (simp [hlen, h0, h5, h8, h54, hlt, hlt2, gb, gm, sTo, sFr, sBk, b1, b2, b3]; rfl))
                    rfl
                  show BigE _ _ _ _ _ _ _
                  apply BigE.condF
                  · simp [hlen]
                  apply BigE.skip
                  show BigE _ _ _ _ _ _ _
                  apply BigE.regL
                  · iterate 2 first
                      | (apply BigO.run
                         · simp [hlen, h70, hw2]
                         · intro call
                           conv => lhs; simp [hlen, h70, hw2])
                      | (apply BigO.passed
                         · first | (simp [hlen, h70, hw2]; done) | (simp [hlen, h70, hw2]; rfl))
                    exact BigO.nil
                  exact ⟨rfl, j2 + 1, by omega, by simp [hlen], by simp [hlen, h0], by simp [hlen, h5], by simp [hlen, h8], by simp [hlen, h53], by simp [hlen, h54], by simp [hlen, h69], by simp [hlen]⟩
                · apply BigE.seq; apply BigE.drawL
                  · kernel_rfl
                  · intro call
                    iterate 33 first
                      | (apply runQ_run
                         · simp [hlen, h0, h5, h8, h54, hlt, hlt2, gb, gm, sTo, sFr, sBk, b1, b2, b3, b4, b5, b6]
                         · conv => lhs; simp [hlen, h0, h5, h8, h54, hlt, hlt2, gb, gm, sTo, sFr, sBk, b1, b2, b3, b4, b5, b6]
                         · simp [eqv, eq0])
                      | (apply runQ_passed
                         · first | (simp [hlen, h0, h5, h8, h54, hlt, hlt2, gb, gm, sTo, sFr, sBk, b1, b2, b3, b4, b5, b6]; done) | (simp [hlen, h0, h5, h8, h54, hlt, hlt2, gb, gm, sTo, sFr, sBk, b1, b2, b3, b4, b5, b6]; rfl))
                    rfl
                  show BigE _ _ _ _ _ _ _
                  apply BigE.condF
                  · first | (simp [hlen]; done) | (simp [hlen]; simpa using b6)
                  apply BigE.skip
                  show BigE _ _ _ _ _ _ _
                  apply BigE.regL
                  · iterate 2 first
                      | (apply BigO.run
                         · simp [hlen, h70, hw2]
                         · intro call
                           conv => lhs; simp [hlen, h70, hw2])
                      | (apply BigO.passed
                         · first | (simp [hlen, h70, hw2]; done) | (simp [hlen, h70, hw2]; rfl))
                    exact BigO.nil
                  exact ⟨rfl, j2 + 1, by omega, by simp [hlen], by simp [hlen, h0], by simp [hlen, h5], by simp [hlen, h8], by simp [hlen, h53], by simp [hlen, h54], by simp [hlen, h69], by simp [hlen]⟩
              · rintro t' s' ⟨rfl, j2, hj2, hlen, h0, h5, h8, h53, h54, h69, h70⟩
                obtain rfl : j2 = n := by omega
                apply BigE.seq; apply BigE.regL
                · iterate 1 first
                    | (apply BigO.run
                       · simp [hlen, h69, h70]
                       · intro call
                         conv => lhs; simp [hlen, h69, h70])
                    | (apply BigO.passed
                       · first | (simp [hlen, h69, h70]; done) | (simp [hlen, h69, h70]; rfl))
                  exact BigO.nil
                show BigE _ _ _ _ _ _ _
                apply BigE.seq; apply BigE.condF
                · simp [hlen]
                apply BigE.exit
                refine ⟨by simp, ?_⟩
                show BigE _ _ _ _ _ _ _
                apply BigE.regL
                · iterate 2 first
                    | (apply BigO.run
                       · simp [hlen, h54, hw]
                       · intro call
                         conv => lhs; simp [hlen, h54, hw])
                    | (apply BigO.passed
                       · first | (simp [hlen, h54, hw]; done) | (simp [hlen, h54, hw]; rfl))
                  exact BigO.nil
                exact ⟨rfl, i + 1, by omega, by simp [hlen], by simp [hlen, h0], by simp [hlen, h5], by simp [hlen, h53], by simp [hlen]⟩
              · exact ⟨rfl, 0, by omega, by simp [hlen], by simp [hlen, h0], by simp [hlen, h5], by simp [hlen], by simp [hlen, h53], by simp [hlen, h54], by simp [hlen], by simp [hlen]⟩
          · rintro t' s' ⟨rfl, i, hi, hlen, h0, h5, h53, h54⟩
            obtain rfl : i = n := by omega
            apply BigE.seq; apply BigE.regL
            · iterate 1 first
                | (apply BigO.run
                   · simp [hlen, h53, h54]
                   · intro call
                     conv => lhs; simp [hlen, h53, h54])
                | (apply BigO.passed
                   · first | (simp [hlen, h53, h54]; done) | (simp [hlen, h53, h54]; rfl))
              exact BigO.nil
            show BigE _ _ _ _ _ _ _
            apply BigE.seq; apply BigE.condF
            · simp [hlen]
            apply BigE.exit
            refine ⟨by simp, ?_⟩
            show BigE _ _ _ _ _ _ _
            apply BigE.seq; apply BigE.regL
            · iterate 1 first
                | (apply BigO.run
                   · simp [hlen]
                   · intro call
                     conv => lhs; simp [hlen])
                | (apply BigO.passed
                   · first | (simp [hlen]; done) | (simp [hlen]; rfl))
              exact BigO.nil
            show BigE _ _ _ _ _ _ _
            apply BigE.ret
            exact ⟨.inr rfl, by simp [hlen]⟩
          · exact ⟨rfl, 0, by omega, by simp [hlen], by simp [hlen, h0], by simp [hlen, h5], by simp [hlen], by simp [hlen]⟩
        · exact ⟨0, by omega, by simp [hlen], by simp [hlen, h0], by simp [hlen], by simp [hlen], by simp [hlen], by simp [hlen], fun h => (hrow2 h).2.2, fun h => (hro2 h).1, [], 0, hm1, by simp [Place]⟩
  obtain ⟨e, t', s', k1, he, k2⟩ := key
  exact ⟨s', BigC.body (e := e) (hS3 _ _) fn3 he k1 (vs := [.bool true]) (by simp [resOf, k2]) rfl⟩
end Go.Proofs.YtdepnglgbgpahaaGreat
