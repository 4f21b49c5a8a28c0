/-
  hist.Order, worked out for whatever events.
-/
import Derived.Test.YtdepnglgbgpahaaGreatVfAppend
set_option linter.unusedSectionVars false
set_option linter.unusedVariables false
set_option linter.unusedSimpArgs false
namespace Go.Proofs.YtdepnglgbgpahaaGreat
open Go Go.VE Go.Proofs
variable {S : CallR}

theorem cells_agg (a : Array Value) : (Value.agg a).cells = a := rfl
theorem cells_slice (p : Option Addr) (n c : Nat) : (Value.slice p n c).cells = #[.slice p n c] := rfl

attribute [local simp] aop opMove opPick opAlloc opBox opLoad opStore opBinOp opUnOp opFieldAddr opIndexAddr opLookup opMapUpdate opExtract opMakeMap opMakeFunc opCall builtinOp lenOp
  evalO evalL wantedL dstSet runOps_cons runOps_nil ok rdT rd binOpV intOp cmpInt litNil isNilV kindOk nilOf plain atom asN opt pureRun
  ty2 ty3 ty4 ty9 ty22 ty25 ty28 ty39 ty48 ty30 ty37 ty47 f30_5 f30_6 t30_5 t30_6 o30_5 o30_6 f37_1 f37_3 f37_4 f37_5 f37_6 t37_1 t37_3 t37_4 t37_5 t37_6 o37_1 o37_3 o37_4 o37_5 o37_6
  pureRun_not keyTy cells_agg cells_slice length_set nth_set_same nth_set_ne add_lit

theorem slc_take : ∀ {vs : List Value} {o n : Nat}, o + n ≤ vs.length → slc vs o n = some ((vs.drop o).take n)
  | [], 0, 0, _ => rfl
  | [], 0, n + 1, h => by simp at h
  | [], o + 1, n, h => by simp at h
  | v :: r, 0, 0, _ => rfl
  | v :: r, 0, n + 1, h => by
    show (match slc r 0 n with | some q => some (v :: q) | none => none) = _
    rw [slc_take (by simpa using h)]
    simp
  | v :: r, o + 1, n, h => by
    show slc r o n = _
    rw [slc_take (by simp at h; omega)]
    simp
theorem spl_all : ∀ {vs ws : List Value}, ws.length = vs.length → spl vs 0 ws = some ws
  | [], [], _ => rfl
  | [], _ :: _, h => by simp at h
  | v :: r, [], h => by simp at h
  | v :: r, w :: q, h => by
    show (match spl r 0 q with | some r => some (w :: r) | none => none) = _
    rw [spl_all (by simpa using h)]

theorem wr_cells {s : St} {b o es : Nat} {vs ws r : List Value} (hg : s.get b = some (.cells vs es)) (h1 : ws.all oneCell = true) (hs : spl vs o ws = some r) : wr s ⟨b, o, none⟩ ws = some (s.put b (some (.cells r es))) := by
  simp only [wr, hg, h1, hs]

theorem findK_ints {es : List MapEntry} {xs : List Int} {u : Value} (hk : es.map (·.key) = xs.map (Value.int .i64)) (hv : ∀ e ∈ es, e.val = u) (a : Int) (j : Nat) :
    (a ∈ xs ∧ ∃ i, findK (.int .i64 a) es j = some (some (i, u))) ∨ (a ∉ xs ∧ findK (.int .i64 a) es j = some none) := by
  induction es generalizing xs j with
  | nil =>
    cases xs with
    | nil => exact .inr ⟨by simp, rfl⟩
    | cons _ _ => simp at hk
  | cons e es ih =>
    cases xs with
    | nil => simp at hk
    | cons b xs =>
      simp only [List.map_cons, List.cons.injEq] at hk
      have hke : keyEq (.int .i64 a) e.key = some (a == b) := by rw [hk.1]; simp [keyEq]
      by_cases hab : a = b
      · subst hab
        refine .inl ⟨by simp, j, ?_⟩
        simp only [findK, hke, beq_self_eq_true]
        rw [hv e (by simp)]
      · have hab' : (a == b) = false := by simpa using hab
        rcases ih hk.2 (fun x hx => hv x (by simp [hx])) (j + 1) with ⟨h1, i, h2⟩ | ⟨h1, h2⟩
        · exact .inl ⟨by simp [h1], i, by simp only [findK, hke, hab', h2]⟩
        · exact .inr ⟨by simp [hab, h1], by simp only [findK, hke, hab', h2]⟩

theorem fn8 : T.fn 8 = some ⟨codeOf Tryz.f8, 46, [.tmp 2, .tmp 3]⟩ := by kernel_rfl
theorem ext12 : T.ext 12 = none := by kernel_rfl
theorem ext13 : T.ext 13 = none := by kernel_rfl
theorem fn13 : T.fn 13 = some ⟨codeOf Tryz.f13, 14, []⟩ := by kernel_rfl
theorem zero37 : (zeroOf 37).cells.toList.length = 18 := by kernel_rfl

variable {vs : List Value} {n : Nat} {fr at' to : Nat → Int} {bk : Nat → Bool}

/-- the state of the loop behind k rounds -/
structure Inv (s0 : St) (vs : List Value) (dv : Value) (fr at' to : Nat → Int) (bk : Nat → Bool) (n k : Nat) (t : List Value) (s : St) : Prop where
  len : t.length = 46
  t1 : nth undef t 1 = .pointer (some ⟨s0.nx, 0, none⟩)
  t4 : nth undef t 4 = .map (some (s0.nx + 1))
  t9 : nth undef t 9 = dv
  t10 : nth undef t 10 = .int .i64 (n : Int)
  t11 : nth undef t 11 = .int .i64 (k : Int)
  nx : s.nx ≤ s0.nx + 2 + 4 * k ∧ s0.nx + 2 ≤ s.nx
  old : ∀ i, i < s0.nx → s.get i = s0.get i
  box : s.get s0.nx = some (.cells [dv] 0)
  fits : ∀ i, i < k → fitsB (fr i) (at' i) (to i) (bk i) = true
  got : ∃ (L : List Nat) (es : List MapEntry) (clock : Nat), L.length ≤ k ∧ (∀ i, i ∈ L ↔ i < k ∧ at' i ≠ 0) ∧ (L.map at').Nodup ∧ s.get (s0.nx + 1) = some (.map es clock) ∧ es.map (·.key) = (L.map at').map (Value.int .i64) ∧ (∀ e ∈ es, e.val = .bool true) ∧
    ((L = [] ∧ nth undef t 5 = .slice none 0 0) ∨ ∃ r, 0 < L.length ∧ s0.nx + 2 ≤ r ∧ r < s.nx ∧ nth undef t 5 = .slice (some ⟨r, 0, none⟩) L.length 1 ∧ s.get r = some (.cells (L.map fun i : Nat => Value.int .i64 (i : Int)) 1))

/-- what Order hands back -/
def Ordered (s0 : St) (at' fr to : Nat → Int) (bk : Nat → Bool) (n : Nat) (v : Value) (s : St) : Prop :=
  (∃ k, k < n ∧ v = .tuple #[.slice none 0 0, .int .i64 (k : Int)]) ∨
  ∃ (L : List Nat) (idv : Value), v = .tuple #[idv, .int .i64 (-1)] ∧ (∀ i, i < n → fitsB (fr i) (at' i) (to i) (bk i) = true) ∧ (∀ i, i ∈ L ↔ i < n ∧ at' i ≠ 0) ∧ L.Pairwise (fun i j => at' i < at' j) ∧ L.length ≤ n ∧
    ((L = [] ∧ idv = .slice none 0 0) ∨ ∃ r c, s0.nx ≤ r ∧ r < s.nx ∧ idv = .slice (some ⟨r, 0, none⟩) L.length c ∧ s.get r = some (.cells (L.map fun i : Nat => Value.int .i64 (i : Int)) 1))

set_option maxRecDepth 100000 in
theorem order_big (hSort0 : ∀ (s : St) (x : Nat), S 13 [.slice none 0 0, .func (.func 14) #[] #[.pointer (some ⟨x, 0, none⟩)]] s = some (.tuple #[], s))
    (hSort : ∀ (s : St) (x b r m c c' : Nat) (L : List Nat), s.get x = some (.cells [.slice (some ⟨b, 0, none⟩) m c'] 0) → s.get b = some (.ro vs) → s.get r = some (.cells (L.map fun i : Nat => Value.int .i64 (i : Int)) 1) → (∀ i, i ∈ L → i < m) → m = n → (L.map at').Nodup → 0 < L.length → L.length ≤ n → n ≤ 40 →
      ∃ L' : List Nat, L'.Perm L ∧ L'.Pairwise (fun i j => at' i < at' j) ∧ S 13 [.slice (some ⟨r, 0, none⟩) L.length c, .func (.func 14) #[] #[.pointer (some ⟨x, 0, none⟩)]] s = some (.tuple #[], s.put r (some (.cells (L'.map fun i : Nat => Value.int .i64 (i : Int)) 1))))
    (hS8 : ∀ args s, S 8 args s = none) (hS12 : ∀ args s, S 12 args s = none) (hE : Evs vs n fr at' to bk) (hone : vs.all oneCell = true) {s0 : St} {p : Option Addr} {b c : Nat}
    (hp : 0 < n → p = some ⟨b, 0, none⟩ ∧ s0.get b = some (.ro vs) ∧ b < s0.nx) (hn : n ≤ 40) (hnx : s0.nx < 100) :
    ∃ v s', BigC Tryz.prog T S 8 [.slice p n c] s0 v s' ∧ Ordered s0 at' fr to bk n v s' ∧ (∀ i, i < s0.nx → s'.get i = s0.get i) ∧ s0.nx ≤ s'.nx ∧ s'.nx ≤ 400 := by
  have key : BigE Tryz.prog T S (codeOf Tryz.f8) (app [.slice p n c] (List.replicate 45 undef)) s0 fun e t' s' => (e = .normal ∨ e = .ret) ∧ Ordered s0 at' fr to bk n (.tuple #[nth undef t' 2, nth undef t' 3]) s' ∧ (∀ i, i < s0.nx → s'.get i = s0.get i) ∧ s0.nx ≤ s'.nx ∧ s'.nx ≤ 400 := by
    generalize ht : app [.slice p n c] (List.replicate 45 undef) = t
    have hlen : t.length = 46 := by subst ht; rfl
    have h0 : nth undef t 0 = .slice p n c := by subst ht; rfl
    clear ht
    have hz : (Value.slice p n c).cells.toList = [.slice p n c] := rfl
    apply BigE.seq; apply BigE.regL
    · iterate 3 first
        | (apply BigO.run
           · simp [hlen, h0]
           · intro call
             conv => lhs; simp [hlen, h0])
        | (apply BigO.passed
           · first | (simp [hlen, h0]; done) | (simp [hlen, h0]; rfl))
      exact BigO.nil
    show BigE _ _ _ _ _ _ _
    apply BigE.seq; apply BigE.regL
    · iterate 2 first
        | (apply BigO.run
           · simp [hlen, h0]
           · intro call
             conv => lhs; simp [hlen, h0])
        | (apply BigO.passed
           · first | (simp [hlen, h0]; done) | (simp [hlen, h0]; rfl))
      exact BigO.nil
    show BigE _ _ _ _ _ _ _
    apply BigE.seq; apply BigE.regL
    · iterate 1 first
        | (apply BigO.run
           · simp [hlen, h0]
           · intro call
             conv => lhs; simp [hlen, h0])
        | (apply BigO.passed
           · first | (simp [hlen, h0]; done) | (simp [hlen, h0]; rfl))
      exact BigO.nil
    show BigE _ _ _ _ _ _ _
    have hbox : ((s0.push (.cells [.slice p n c] 0)).push (.map [] 0)).get s0.nx = some (.cells [.slice p n c] 0) := by
      rw [St.get_push_old _ _ _ (by rw [St.nx_push]; omega)]
      exact get_push_same s0 _ (by omega)
    have hmap : ((s0.push (.cells [.slice p n c] 0)).push (.map [] 0)).get (s0.nx + 1) = some (.map [] 0) := get_push_same (s0.push (.cells [.slice p n c] 0)) _ (by rw [St.nx_push]; omega)
    have hsl : slc [Value.slice p n c] 0 1 = some [.slice p n c] := rfl
    apply BigE.seq
    apply BigE.seq; apply BigE.regL
    · iterate 3 first
        | (apply BigO.run
           · simp [hlen, h0, hbox, hsl, St.nx_push]
           · intro call
             conv => lhs; simp [hlen, h0, hbox, hsl, St.nx_push])
        | (apply BigO.passed
           · first | (simp [hlen, h0, hbox, hsl, St.nx_push]; done) | (simp [hlen, h0, hbox, hsl, St.nx_push]; rfl))
      exact BigO.nil
    show BigE _ _ _ _ _ _ _
    apply BigE.block
    refine BigE.loop (I := fun j t' s' => ∃ k, k + j = n ∧ Inv s0 vs (.slice p n c) fr at' to bk n k t' s') ?_ ?_ n _ _ ?_
    · rintro j t' s' ⟨k, hk, I⟩
      have hlt : k < n := by omega
      obtain ⟨rfl, hgb0, hbn⟩ := hp (by omega)
      have hgb : s'.get b = some (.ro vs) := by rw [I.old b hbn, hgb0]
      obtain ⟨ev, hevs, hevl, e14, e15, e16, e17, hevone⟩ : ∃ ev, slc vs (k * 18) 18 = some ev ∧ ev.length = 18 ∧ ev[14]? = some (.int .i64 (fr k)) ∧ ev[15]? = some (.int .i64 (at' k)) ∧ ev[16]? = some (.int .i64 (to k)) ∧ ev[17]? = some (.bool (bk k)) ∧ ev.all oneCell = true := by
        refine ⟨(vs.drop (k * 18)).take 18, slc_take (by rw [hE.len]; omega), by simp [hE.len]; omega, ?_, ?_, ?_, ?_, ?_⟩
        · rw [List.getElem?_take, if_pos (by omega), List.getElem?_drop]; exact hE.from' k hlt
        · rw [List.getElem?_take, if_pos (by omega), List.getElem?_drop]; exact hE.at' k hlt
        · rw [List.getElem?_take, if_pos (by omega), List.getElem?_drop]; exact hE.to k hlt
        · rw [List.getElem?_take, if_pos (by omega), List.getElem?_drop]; exact hE.back k hlt
        · rw [List.all_eq_true] at hone ⊢
          exact fun x hx => hone x (List.mem_of_mem_drop (List.mem_of_mem_take hx))
      obtain ⟨hnx1, hnx2⟩ := I.nx
      have hpush : ∀ o, (s'.push o).get s'.nx = some o := fun o => get_push_same s' o (by omega)
      have hwr : wr (s'.push (.cells (zeroOf 37).cells.toList 0)) ⟨s'.nx, 0, none⟩ ev = some ((s'.push (.cells (zeroOf 37).cells.toList 0)).put s'.nx (some (.cells ev 0))) :=
        wr_cells (hpush _) hevone (spl_all (by rw [hevl, zero37]))
      have hlen := I.len
      have h1 := I.t1
      have h4 := I.t4
      have h9 := I.t9
      have h10 := I.t10
      have h11 := I.t11
      apply BigE.seq; apply BigE.regL
      · iterate 1 first
          | (apply BigO.run
             · simp [hlen, h10, h11, hlt]
             · intro call
               conv => lhs; simp [hlen, h10, h11, hlt])
          | (apply BigO.passed
             · first | (simp [hlen, h10, h11, hlt]; done) | (simp [hlen, h10, h11, hlt]; rfl))
        exact BigO.nil
      show BigE _ _ _ _ _ _ _
      apply BigE.seq; apply BigE.condT
      · simp [hlen, hlt]
      apply BigE.skip
      show BigE _ _ _ _ _ _ _
      apply BigE.seq
      apply BigE.block
      apply BigE.seq; apply BigE.regL
      · iterate 6 first
          | (apply BigO.run
             · simp [hlen, h9, h10, h11, hlt, hgb, hevs, hwr, hevl]
             · intro call
               conv => lhs; simp [hlen, h9, h10, h11, hlt, hgb, hevs, hwr, hevl])
          | (apply BigO.passed
             · first | (simp [hlen, h9, h10, h11, hlt, hgb, hevs, hwr, hevl]; done) | (simp [hlen, h9, h10, h11, hlt, hgb, hevs, hwr, hevl]; rfl))
        exact BigO.nil
      show BigE _ _ _ _ _ _ _
      have h2q : ((s'.push (.cells (zeroOf 37).cells.toList 0)).put s'.nx (some (.cells ev 0))).get s'.nx = some (.cells ev 0) := St.get_put_same _ _ _ (by rw [hpush]; rfl)
      have h2old : ∀ i, i < s'.nx → ((s'.push (.cells (zeroOf 37).cells.toList 0)).put s'.nx (some (.cells ev 0))).get i = s'.get i := by
        intro i hi
        rw [St.get_put_ne _ _ _ _ (by omega), St.get_push_old _ _ _ (by omega)]
      have h2nx : ((s'.push (.cells (zeroOf 37).cells.toList 0)).put s'.nx (some (.cells ev 0))).nx = s'.nx + 1 := rfl
      generalize ((s'.push (.cells (zeroOf 37).cells.toList 0)).put s'.nx (some (.cells ev 0))) = s2 at h2q h2old h2nx ⊢
      have hea := slc_all hevl
      have hfit := fits_big hS12 hevl e14 e15 e16 e17 s2 (by omega)
      have h3q : (s2.push (.cells ev 0)).get s'.nx = some (.cells ev 0) := by rw [St.get_push_old _ _ _ (by omega), h2q]
      have h3old : ∀ i, i < s'.nx → (s2.push (.cells ev 0)).get i = s'.get i := by
        intro i hi
        rw [St.get_push_old _ _ _ (by omega), h2old i hi]
      have h3nx : (s2.push (.cells ev 0)).nx = s'.nx + 2 := by rw [St.nx_push, h2nx]
      have s15 := slc_one e15
      have hw := wrap_succ (k := k) (by omega)
      obtain ⟨L, es, clock, g0, g1, g2, g3, g4, g5, g6⟩ := I.got
      have h3m : (s2.push (.cells ev 0)).get (s0.nx + 1) = some (.map es clock) := by rw [h3old _ (by omega), g3]
      have hlook := findK_ints g4 g5 (at' k) 0
      obtain ⟨s3, hs3⟩ : ∃ s3, s3 = s2.push (.cells ev 0) := ⟨_, rfl⟩
      rw [← hs3] at hfit h3q h3old h3nx h3m
      clear hs3
      have hfrm : ∀ i, i < s0.nx → s3.get i = s0.get i := fun i hi => by rw [h3old i (by omega), I.old i hi]
      have cs : fitsB (fr k) (at' k) (to k) (bk k) = false ∨ (fitsB (fr k) (at' k) (to k) (bk k) = true ∧ at' k = 0) ∨ (fitsB (fr k) (at' k) (to k) (bk k) = true ∧ ((at' k == 0) = false ∧ (at' k != 0) = true)) := by
        cases fitsB (fr k) (at' k) (to k) (bk k) <;> simp <;> omega
      rcases cs with c1 | ⟨c1, c2⟩ | ⟨c1, c2, c3⟩
      · rw [c1] at hfit
        apply BigE.seq
        apply BigE.seq; apply BigE.regL
        · apply BigO.run
          · simp [hlen]
          · intro call
            conv => lhs; simp [hlen, h2q, hea]
          apply BigO.callee
          · simp [hlen]
          · rfl
          · intro b; simp
          · simp [calleeOf, hlen]; exact ⟨rfl, rfl⟩
          · exact ext12
          · exact fn12
          · exact hfit
          iterate 12 first
            | (apply BigO.run
               · simp [hlen, h3q, h3m, s15, h4]
               · intro call
                 conv => lhs; simp [hlen, h3q, h3m, s15, h4])
            | (apply BigO.passed
               · first | (simp [hlen, h3q, h3m, s15, h4]; done) | (simp [hlen, h3q, h3m, s15, h4]; rfl))
          exact BigO.nil
        show BigE _ _ _ _ _ _ _
        apply BigE.condT
        · simp [hlen]
        apply BigE.seq; apply BigE.regL
        · iterate 3 first
            | (apply BigO.run
               · simp [hlen, h11]
               · intro call
                 conv => lhs; simp [hlen, h11])
            | (apply BigO.passed
               · first | (simp [hlen, h11]; done) | (simp [hlen, h11]; rfl))
          exact BigO.nil
        show BigE _ _ _ _ _ _ _
        apply BigE.ret
        exact ⟨.inr rfl, .inl ⟨k, hlt, by simp [hlen, h11]⟩, hfrm, by omega, by omega⟩
      · rw [c1] at hfit
        apply BigE.seq
        apply BigE.seq; apply BigE.regL
        · apply BigO.run
          · simp [hlen]
          · intro call
            conv => lhs; simp [hlen, h2q, hea]
          apply BigO.callee
          · simp [hlen]
          · rfl
          · intro b; simp
          · simp [calleeOf, hlen]; exact ⟨rfl, rfl⟩
          · exact ext12
          · exact fn12
          · exact hfit
          iterate 12 first
            | (apply BigO.run
               · simp [hlen, h3q, h3m, s15, h4, c2]
               · intro call
                 conv => lhs; simp [hlen, h3q, h3m, s15, h4, c2])
            | (apply BigO.passed
               · first | (simp [hlen, h3q, h3m, s15, h4, c2]; done) | (simp [hlen, h3q, h3m, s15, h4, c2]; rfl))
          exact BigO.nil
        show BigE _ _ _ _ _ _ _
        apply BigE.condF
        · simp [hlen]
        apply BigE.skip
        show BigE _ _ _ _ _ _ _
        apply BigE.seq; apply BigE.regL
        · iterate 3 first
            | (apply BigO.run
               · simp [hlen, h3q, s15, c2]
               · intro call
                 conv => lhs; simp [hlen, h3q, s15, c2])
            | (apply BigO.passed
               · first | (simp [hlen, h3q, s15, c2]; done) | (simp [hlen, h3q, s15, c2]; rfl))
          exact BigO.nil
        show BigE _ _ _ _ _ _ _
        apply BigE.condF
        · simp [hlen]
        apply BigE.skip
        show BigE _ _ _ _ _ _ _
        apply BigE.regL
        · iterate 2 first
            | (apply BigO.run
               · simp [hlen, h11, hw]
               · intro call
                 conv => lhs; simp [hlen, h11, hw])
            | (apply BigO.passed
               · first | (simp [hlen, h11, hw]; done) | (simp [hlen, h11, hw]; rfl))
          exact BigO.nil
        refine ⟨k + 1, by omega, ?_⟩
        refine ⟨by simp [hlen], by simp [hlen, h1], by simp [hlen, h4], by simp [hlen, h9], by simp [hlen, h10], by simp [hlen], ⟨by omega, by omega⟩, hfrm, by rw [h3old _ (by omega), I.box], ?_, L, es, clock, by omega, ?_, g2, h3m, g4, g5, ?_⟩
        · intro i hi
          by_cases e : i = k
          · subst e; exact c1
          · exact I.fits i (by omega)
        · intro i
          rw [g1]
          constructor
          · rintro ⟨x, y⟩; exact ⟨by omega, y⟩
          · rintro ⟨x, y⟩
            refine ⟨?_, y⟩
            have : i ≠ k := by rintro rfl; exact y c2
            omega
        · rcases g6 with ⟨x, y⟩ | ⟨r, x0, x1, x2, x3, x4⟩
          · exact .inl ⟨x, by simp [hlen, y]⟩
          · exact .inr ⟨r, x0, x1, by omega, by simp [hlen, x3], by rw [h3old r x2, x4]⟩
      · rw [c1] at hfit
        rcases hlook with ⟨d1, q, d2⟩ | ⟨d1, d2⟩
        · apply BigE.seq
          apply BigE.seq; apply BigE.regL
          · apply BigO.run
            · simp [hlen]
            · intro call
              conv => lhs; simp [hlen, h2q, hea]
            apply BigO.callee
            · simp [hlen]
            · rfl
            · intro b; simp
            · simp [calleeOf, hlen]; exact ⟨rfl, rfl⟩
            · exact ext12
            · exact fn12
            · exact hfit
            iterate 12 first
              | (apply BigO.run
                 · simp [hlen, h3q, h3m, s15, h4, c2, c3, d2]
                 · intro call
                   conv => lhs; simp [hlen, h3q, h3m, s15, h4, c2, c3, d2])
              | (apply BigO.passed
                 · first | (simp [hlen, h3q, h3m, s15, h4, c2, c3, d2]; done) | (simp [hlen, h3q, h3m, s15, h4, c2, c3, d2]; rfl))
            exact BigO.nil
          show BigE _ _ _ _ _ _ _
          apply BigE.condT
          · simp [hlen]
          apply BigE.seq; apply BigE.regL
          · iterate 3 first
              | (apply BigO.run
                 · simp [hlen, h11]
                 · intro call
                   conv => lhs; simp [hlen, h11])
              | (apply BigO.passed
                 · first | (simp [hlen, h11]; done) | (simp [hlen, h11]; rfl))
            exact BigO.nil
          show BigE _ _ _ _ _ _ _
          apply BigE.ret
          exact ⟨.inr rfl, .inl ⟨k, hlt, by simp [hlen, h11]⟩, hfrm, by omega, by omega⟩
        · apply BigE.seq
          apply BigE.seq; apply BigE.regL
          · apply BigO.run
            · simp [hlen]
            · intro call
              conv => lhs; simp [hlen, h2q, hea]
            apply BigO.callee
            · simp [hlen]
            · rfl
            · intro b; simp
            · simp [calleeOf, hlen]; exact ⟨rfl, rfl⟩
            · exact ext12
            · exact fn12
            · exact hfit
            iterate 12 first
              | (apply BigO.run
                 · simp [hlen, h3q, h3m, s15, h4, c2, c3, d2]
                 · intro call
                   conv => lhs; simp [hlen, h3q, h3m, s15, h4, c2, c3, d2])
              | (apply BigO.passed
                 · first | (simp [hlen, h3q, h3m, s15, h4, c2, c3, d2]; done) | (simp [hlen, h3q, h3m, s15, h4, c2, c3, d2]; rfl))
            exact BigO.nil
          show BigE _ _ _ _ _ _ _
          apply BigE.condF
          · simp [hlen]
          apply BigE.skip
          show BigE _ _ _ _ _ _ _
          apply BigE.seq; apply BigE.regL
          · iterate 3 first
              | (apply BigO.run
                 · simp [hlen, h3q, s15, c2, c3]
                 · intro call
                   conv => lhs; simp [hlen, h3q, s15, c2, c3])
              | (apply BigO.passed
                 · first | (simp [hlen, h3q, s15, c2, c3]; done) | (simp [hlen, h3q, s15, c2, c3]; rfl))
            exact BigO.nil
          show BigE _ _ _ _ _ _ _
          apply BigE.condT
          · simp [hlen]
          apply BigE.seq; apply BigE.regL
          · iterate 4 first
              | (apply BigO.run
                 · simp [hlen, h3q, h3m, s15, h4, c2, c3, d2]
                 · intro call
                   conv => lhs; simp [hlen, h3q, h3m, s15, h4, c2, c3, d2])
              | (apply BigO.passed
                 · first | (simp [hlen, h3q, h3m, s15, h4, c2, c3, d2]; done) | (simp [hlen, h3q, h3m, s15, h4, c2, c3, d2]; rfl))
            exact BigO.nil
          show BigE _ _ _ _ _ _ _
          have h6m : (s3.put (s0.nx + 1) (some (.map (es ++ [⟨.int .i64 (at' k), .bool true, clock⟩]) (clock + 1)))).get (s0.nx + 1) = some (.map (es ++ [⟨.int .i64 (at' k), .bool true, clock⟩]) (clock + 1)) := St.get_put_same _ _ _ (by rw [h3m]; rfl)
          have h6old : ∀ i, i ≠ s0.nx + 1 → (s3.put (s0.nx + 1) (some (.map (es ++ [⟨.int .i64 (at' k), .bool true, clock⟩]) (clock + 1)))).get i = s3.get i := fun i hi => St.get_put_ne _ _ _ _ hi
          have h6nx : (s3.put (s0.nx + 1) (some (.map (es ++ [⟨.int .i64 (at' k), .bool true, clock⟩]) (clock + 1)))).nx = s'.nx + 2 := h3nx
          generalize (s3.put (s0.nx + 1) (some (.map (es ++ [⟨.int .i64 (at' k), .bool true, clock⟩]) (clock + 1)))) = s6 at h6m h6old h6nx ⊢
          have h7q : (s6.push (.cells [.int .i64 (k : Int)] 1)).get s6.nx = some (.cells [.int .i64 (k : Int)] 1) := get_push_same s6 _ (by omega)
          have h7old : ∀ i, i < s6.nx → (s6.push (.cells [.int .i64 (k : Int)] 1)).get i = s6.get i := fun i hi => St.get_push_old _ _ _ (by omega)
          have h7nx : (s6.push (.cells [.int .i64 (k : Int)] 1)).nx = s'.nx + 3 := by rw [St.nx_push, h6nx]
          have atL : ∀ i, i ∈ L ++ [k] ↔ i < k + 1 ∧ at' i ≠ 0 := by
            intro i
            have hk0 : at' k ≠ 0 := by simpa using c2
            simp only [List.mem_append, List.mem_singleton, g1]
            constructor
            · rintro (⟨x, y⟩ | rfl)
              · exact ⟨by omega, y⟩
              · exact ⟨by omega, hk0⟩
            · rintro ⟨x, y⟩
              by_cases e : i = k
              · exact .inr e
              · exact .inl ⟨by omega, y⟩
          have atN : ((L ++ [k]).map at').Nodup := by
            rw [List.map_append, List.nodup_append]
            refine ⟨g2, by simp, ?_⟩
            intro x hx y hy
            simp only [List.map_cons, List.map_nil, List.mem_singleton] at hy
            rintro rfl
            subst hy
            exact d1 hx
          have atK : (es ++ [(⟨.int .i64 (at' k), .bool true, clock⟩ : MapEntry)]).map (·.key) = ((L ++ [k]).map at').map (Value.int .i64) := by
            simp [g4]
          have atV : ∀ e ∈ es ++ [(⟨.int .i64 (at' k), .bool true, clock⟩ : MapEntry)], e.val = .bool true := by
            intro e he
            simp only [List.mem_append, List.mem_singleton] at he
            rcases he with he | rfl
            · exact g5 e he
            · rfl
          have atF : ∀ i, i < k + 1 → fitsB (fr i) (at' i) (to i) (bk i) = true := by
            intro i hi
            by_cases e : i = k
            · subst e; exact c1
            · exact I.fits i (by omega)
          rcases g6 with ⟨rfl, h5⟩ | ⟨r, x0, x1, x2, h5, x4⟩
          · have happ := append_nil h7q
            apply BigE.regL
            · iterate 5 first
                | (apply BigO.run
                   · simp [hlen, h5, h11, opBuildSlice, evalP, cells_int, fill_one, fill_one', exact_one, happ]
                   · intro call
                     conv => lhs; simp [hlen, h5, h11, opBuildSlice, evalP, cells_int, fill_one, fill_one', exact_one, happ])
                | (apply BigO.passed
                   · first | (simp [hlen, h5, h11, opBuildSlice, evalP, cells_int, fill_one, fill_one', exact_one, happ]; done) | (simp [hlen, h5, h11, opBuildSlice, evalP, cells_int, fill_one, fill_one', exact_one, happ]; rfl))
              exact BigO.nil
            show BigE _ _ _ _ _ _ _
            apply BigE.regL
            · iterate 2 first
                | (apply BigO.run
                   · simp [hlen, h11, hw]
                   · intro call
                     conv => lhs; simp [hlen, h11, hw])
                | (apply BigO.passed
                   · first | (simp [hlen, h11, hw]; done) | (simp [hlen, h11, hw]; rfl))
              exact BigO.nil
            refine ⟨k + 1, by omega, by simp [hlen], by simp [hlen, h1], by simp [hlen, h4], by simp [hlen, h9], by simp [hlen, h10], by simp [hlen], ⟨by rw [St.nx_push, h7nx]; omega, by rw [St.nx_push, h7nx]; omega⟩, ?_, ?_, atF, [] ++ [k], es ++ [⟨.int .i64 (at' k), .bool true, clock⟩], clock + 1, by simp, atL, atN, ?_, atK, atV, .inr ⟨(s6.push (.cells [.int .i64 (k : Int)] 1)).nx, by simp, ?_, ?_, by simp [hlen], ?_⟩⟩
            · intro i hi
              rw [St.get_push_old _ _ _ (by omega), h7old i (by omega), h6old i (by omega), hfrm i hi]
            · rw [St.get_push_old _ _ _ (by omega), h7old _ (by omega), h6old _ (by omega), h3old _ (by omega), I.box]
            · rw [St.get_push_old _ _ _ (by omega), h7old _ (by omega), h6m]
            · rw [h7nx]; omega
            · exact Nat.lt_succ_self _
            · exact get_push_same _ _ (by omega)
          · have happ := append_row h7q (r := r) (by rw [h7old r (by omega), h6old r (by omega), h3old r x2, x4]) (m := L.length) (by simp) x0 (by omega)
            apply BigE.regL
            · iterate 5 first
                | (apply BigO.run
                   · simp [hlen, h5, h11, opBuildSlice, evalP, cells_int, fill_one, fill_one', exact_one, happ]
                   · intro call
                     conv => lhs; simp [hlen, h5, h11, opBuildSlice, evalP, cells_int, fill_one, fill_one', exact_one, happ])
                | (apply BigO.passed
                   · first | (simp [hlen, h5, h11, opBuildSlice, evalP, cells_int, fill_one, fill_one', exact_one, happ]; done) | (simp [hlen, h5, h11, opBuildSlice, evalP, cells_int, fill_one, fill_one', exact_one, happ]; rfl))
              exact BigO.nil
            show BigE _ _ _ _ _ _ _
            apply BigE.regL
            · iterate 2 first
                | (apply BigO.run
                   · simp [hlen, h11, hw]
                   · intro call
                     conv => lhs; simp [hlen, h11, hw])
                | (apply BigO.passed
                   · first | (simp [hlen, h11, hw]; done) | (simp [hlen, h11, hw]; rfl))
              exact BigO.nil
            have h8old : ∀ i, i ≠ r → i < s6.nx → ((s6.push (.cells [.int .i64 (k : Int)] 1)).put r none).get i = s6.get i := fun i hi hj => by rw [St.get_put_ne _ _ _ _ hi, h7old i hj]
            have h8nx : ((s6.push (.cells [.int .i64 (k : Int)] 1)).put r none).nx = s'.nx + 3 := h7nx
            refine ⟨k + 1, by omega, by simp [hlen], by simp [hlen, h1], by simp [hlen, h4], by simp [hlen, h9], by simp [hlen, h10], by simp [hlen], ⟨by rw [St.nx_push, h8nx]; omega, by rw [St.nx_push, h8nx]; omega⟩, ?_, ?_, atF, L ++ [k], es ++ [⟨.int .i64 (at' k), .bool true, clock⟩], clock + 1, by simp; omega, atL, atN, ?_, atK, atV, .inr ⟨s'.nx + 3, by simp, ?_, ?_, by simp [hlen, h7nx], ?_⟩⟩
            · intro i hi
              rw [St.get_push_old _ _ _ (by omega), h8old i (by omega) (by omega), h6old i (by omega), hfrm i hi]
            · rw [St.get_push_old _ _ _ (by omega), h8old _ (by omega) (by omega), h6old _ (by omega), h3old _ (by omega), I.box]
            · rw [St.get_push_old _ _ _ (by omega), h8old _ (by omega) (by omega), h6m]
            · omega
            · rw [St.nx_push, h8nx]; omega
            · rw [← h8nx]
              have := get_push_same ((s6.push (.cells [.int .i64 (k : Int)] 1)).put r none) (.cells ((L.map fun i : Nat => Value.int .i64 (i : Int)) ++ [.int .i64 (k : Int)]) 1) (by omega)
              rw [this]; simp
    · rintro t' s' ⟨k, hk, I⟩
      obtain rfl : k = n := by omega
      obtain ⟨hnx1, hnx2⟩ := I.nx
      have hlen := I.len
      have h1 := I.t1
      have h10 := I.t10
      have h11 := I.t11
      apply BigE.seq; apply BigE.regL
      · iterate 1 first
          | (apply BigO.run
             · simp [hlen, h10, h11]
             · intro call
               conv => lhs; simp [hlen, h10, h11])
          | (apply BigO.passed
             · first | (simp [hlen, h10, h11]; done) | (simp [hlen, h10, h11]; rfl))
        exact BigO.nil
      show BigE _ _ _ _ _ _ _
      apply BigE.seq; apply BigE.condF
      · simp [hlen]
      apply BigE.exit
      refine ⟨by simp, ?_⟩
      show BigE _ _ _ _ _ _ _
      obtain ⟨L, es, clock, g0, g1, g2, g3, g4, g5, g6⟩ := I.got
      rcases g6 with ⟨rfl, h5⟩ | ⟨r, x0, x1, x2, h5, x4⟩
      · apply BigE.seq; apply BigE.regL
        · apply BigO.run
          · simp [hlen, h1, h5]
          · intro call
            conv => lhs; simp [hlen, h1, h5]
          apply BigO.run
          · simp [hlen, h1, h5]
          · intro call
            conv => lhs; simp [hlen, h1, h5]
          apply BigO.callee
          · simp [hlen]
          · rfl
          · intro b; simp
          · simp [calleeOf, hlen]; exact ⟨rfl, rfl⟩
          · exact ext13
          · exact fn13
          · exact BigC.summary (hSort0 s' s0.nx)
          exact BigO.nil
        show BigE _ _ _ _ _ _ _
        apply BigE.seq; apply BigE.regL
        · iterate 3 first
            | (apply BigO.run
               · simp [hlen, h5]
               · intro call
                 conv => lhs; simp [hlen, h5])
            | (apply BigO.passed
               · first | (simp [hlen, h5]; done) | (simp [hlen, h5]; rfl))
          exact BigO.nil
        show BigE _ _ _ _ _ _ _
        apply BigE.ret
        exact ⟨.inr rfl, .inr ⟨[], .slice none 0 0, by simp [hlen], I.fits, g1, by simp, by simp, .inl ⟨rfl, rfl⟩⟩, I.old, by omega, by omega⟩
      · have hn0 : 0 < k := by omega
        obtain ⟨rfl, hgb0, hbn⟩ := hp hn0
        obtain ⟨L', p1, p2, p3⟩ := hSort s' s0.nx b r k 1 c L I.box (by rw [I.old b hbn, hgb0]) x4 (fun i hi => ((g1 i).1 hi).1) rfl g2 x0 g0 hn
        apply BigE.seq; apply BigE.regL
        · apply BigO.run
          · simp [hlen, h1, h5]
          · intro call
            conv => lhs; simp [hlen, h1, h5]
          apply BigO.run
          · simp [hlen, h1, h5]
          · intro call
            conv => lhs; simp [hlen, h1, h5]
          apply BigO.callee
          · simp [hlen]
          · rfl
          · intro b; simp
          · simp [calleeOf, hlen]; exact ⟨rfl, rfl⟩
          · exact ext13
          · exact fn13
          · exact BigC.summary p3
          exact BigO.nil
        show BigE _ _ _ _ _ _ _
        apply BigE.seq; apply BigE.regL
        · iterate 3 first
            | (apply BigO.run
               · simp [hlen, h5]
               · intro call
                 conv => lhs; simp [hlen, h5])
            | (apply BigO.passed
               · first | (simp [hlen, h5]; done) | (simp [hlen, h5]; rfl))
          exact BigO.nil
        show BigE _ _ _ _ _ _ _
        apply BigE.ret
        refine ⟨.inr rfl, .inr ⟨L', .slice (some ⟨r, 0, none⟩) L'.length 1, by simp [hlen, p1.length_eq], I.fits, fun i => by rw [p1.mem_iff, g1], p2, by rw [p1.length_eq]; exact g0, .inr ⟨r, 1, by omega, by rw [St.nx_put]; exact x2, rfl, ?_⟩⟩, ?_, by rw [St.nx_put]; omega, by rw [St.nx_put]; omega⟩
        · exact St.get_put_same _ _ _ (by rw [x4]; rfl)
        · intro i hi
          rw [St.get_put_ne _ _ _ _ (by omega), I.old i hi]
    · have hmap' := hmap
      refine ⟨0, by omega, by simp [hlen], by simp [hlen], by simp [hlen, St.nx_push], by simp [hlen], by simp [hlen], by simp [hlen], ⟨by simp [St.nx_push], by simp [St.nx_push]⟩, ?_, hbox, fun i hi => absurd hi (by omega), [], [], 0, by simp, by simp, by simp, hmap, rfl, by simp, .inl ⟨rfl, by simp [hlen]⟩⟩
      intro i hi
      rw [St.get_push_old _ _ _ (by rw [St.nx_push]; omega), St.get_push_old _ _ _ (by omega)]
  obtain ⟨e, t', s', k1, he, k2⟩ := key
  exact ⟨_, s', BigC.body (e := e) (hS8 _ _) fn8 he k1 (vs := [nth undef t' 2, nth undef t' 3]) (by simp [resOf]) rfl, k2⟩
end Go.Proofs.YtdepnglgbgpahaaGreat
