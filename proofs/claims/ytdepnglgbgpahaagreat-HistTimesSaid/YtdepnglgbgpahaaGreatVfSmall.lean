/-
  small(nil, d): what it tells of the number of events.
-/
import Derived.Test.YtdepnglgbgpahaaGreatVfFits
set_option linter.unusedSectionVars false
set_option linter.unusedVariables false
set_option linter.unusedSimpArgs false
namespace Go.Proofs.YtdepnglgbgpahaaGreat
open Go Go.VE Go.Proofs
variable {S : CallR}

attribute [local simp] aop opMove opPick opAlloc opBox opLoad opStore opBinOp opUnOp opFieldAddr opIndexAddr opLookup opMapUpdate opExtract opMakeMap opMakeFunc opCall builtinOp lenOp
  evalO evalL wantedL dstSet runOps_cons runOps_nil ok rdT rd wr binOpV intOp cmpInt litNil isNilV kindOk nilOf plain atom asN opt pureRun
  ty2 ty3 ty4 ty9 ty22 ty25 ty28 ty39 ty48 ty30 ty37 ty47 f30_5 f30_6 t30_5 t30_6 o30_5 o30_6 f37_1 f37_3 f37_4 f37_5 f37_6 t37_1 t37_3 t37_4 t37_5 t37_6 o37_1 o37_3 o37_4 o37_5 o37_6
  pureRun_not Value.cells length_set nth_set_same nth_set_ne add_lit

/-- a row of events -/
structure Evs (vs : List Value) (n : Nat) (fr at' to : Nat → Int) (bk : Nat → Bool) : Prop where
  len : vs.length = n * 18
  a : ∀ i, i < n → ∃ b, vs[i * 18 + 6]? = some (.string b)
  b : ∀ i, i < n → ∃ b, vs[i * 18 + 7]? = some (.string b)
  from' : ∀ i, i < n → vs[i * 18 + 14]? = some (.int .i64 (fr i))
  at' : ∀ i, i < n → vs[i * 18 + 15]? = some (.int .i64 (at' i))
  to : ∀ i, i < n → vs[i * 18 + 16]? = some (.int .i64 (to i))
  back : ∀ i, i < n → vs[i * 18 + 17]? = some (.bool (bk i))

theorem wrap_succ {k : Nat} (h : k + 1 < 9223372036854775808) : IntKind.i64.wrap ((k : Int) + 1) = ((k + 1 : Nat) : Int) := by
  have := IntWalk.i64_in ((k : Int) + 1) (by omega)
  rw [this]; rfl

theorem fn7 : T.fn 7 = some ⟨codeOf Tryz.f7, 65, [.tmp 4]⟩ := by kernel_rfl

variable {vs : List Value} {n : Nat} {fr at' to : Nat → Int} {bk : Nat → Bool}
set_option maxRecDepth 100000 in
theorem small_big (hS : ∀ args s, S 7 args s = none) (hE : Evs vs n fr at' to bk) {s : St} {p : Option Addr} {b c : Nat} (hp : 0 < n → p = some ⟨b, 0, none⟩ ∧ s.get b = some (.ro vs)) (hn : n < 9223372036854775808) :
    ∃ r, BigC Tryz.prog T S 7 [.slice none 0 0, .slice p n c] s (.bool r) s ∧ (r = true → n ≤ 40) := by
  have key : BigE Tryz.prog T S (codeOf Tryz.f7) (app [.slice none 0 0, .slice p n c] (List.replicate 63 undef)) s fun e t' s' => e = .ret ∧ s' = s ∧ ∃ r, nth undef t' 4 = .bool r ∧ (r = true → n ≤ 40) := by
    generalize ht : app [.slice none 0 0, .slice p n c] (List.replicate 63 undef) = t
    have hlen : t.length = 65 := by subst ht; rfl
    have h0 : nth undef t 0 = .slice none 0 0 := by subst ht; rfl
    have h1 : nth undef t 1 = .slice p n c := by subst ht; rfl
    clear ht
    apply BigE.seq; apply BigE.regL
    · iterate 1 first
        | (apply BigO.run
           · simp [*]
           · intro call
             conv => lhs; simp [*])
      exact BigO.nil
    show BigE _ _ _ _ _ _ _
    apply BigE.seq; apply BigE.regL
    · iterate 1 first
        | (apply BigO.run
           · simp [*]
           · intro call
             conv => lhs; simp [*])
      exact BigO.nil
    show BigE _ _ _ _ _ _ _
    apply BigE.seq
    apply BigE.seq; apply BigE.regL
    · iterate 3 first
        | (apply BigO.run
           · simp [*]
           · intro call
             conv => lhs; simp [*])
        | (apply BigO.passed
           · first | (simp [*]; done) | (simp [*]; rfl))
      exact BigO.nil
    show BigE _ _ _ _ _ _ _
    apply BigE.block; apply BigE.round
    apply BigE.seq; apply BigE.regL
    · iterate 1 first
        | (apply BigO.run
           · simp [*]
           · intro call
             conv => lhs; simp [*])
        | (apply BigO.passed
           · first | (simp [*]; done) | (simp [*]; rfl))
      exact BigO.nil
    show BigE _ _ _ _ _ _ _
    apply BigE.seq; apply BigE.condF
    · simp [*]
    apply BigE.exit
    show BigE _ _ _ _ _ _ _
    apply BigE.seq
    apply BigE.seq; apply BigE.regL
    · iterate 3 first
        | (apply BigO.run
           · simp [*]
           · intro call
             conv => lhs; simp [*])
        | (apply BigO.passed
           · first | (simp [*]; done) | (simp [*]; rfl))
      exact BigO.nil
    show BigE _ _ _ _ _ _ _
    apply BigE.block
    refine BigE.loop (I := fun j t' s' => s' = s ∧ t'.length = 65 ∧ nth undef t' 1 = .slice p n c ∧ nth undef t' 38 = .int .i64 (n : Int) ∧ ∃ k, k + j = n ∧ k ≤ 40 ∧ nth undef t' 39 = .int .i64 (k : Int)) ?_ ?_ n _ _ ?_
    · rintro j t' s' ⟨rfl, hlen, h1, h38, k, hk, hk40, h39⟩
      have hlt : k < n := by omega
      obtain ⟨rfl, hg⟩ := hp (by omega)
      obtain ⟨ba, hba⟩ := hE.a k hlt
      obtain ⟨bb, hbb⟩ := hE.b k hlt
      have sa := slc_one hba
      have sb := slc_one hbb
      have hw := wrap_succ (k := k) (by omega)
      apply BigE.seq; apply BigE.regL
      · iterate 1 first
          | (apply BigO.run
             · simp [hlen, h1, h38, h39, hlt]
             · intro call
               conv => lhs; simp [hlen, h1, h38, h39, hlt])
          | (apply BigO.passed
             · first | (simp [hlen, h1, h38, h39, hlt]; done) | (simp [hlen, h1, h38, h39, hlt]; rfl))
        exact BigO.nil
      show BigE _ _ _ _ _ _ _
      apply BigE.seq; apply BigE.condT
      · simp [hlen, hlt]
      apply BigE.skip
      show BigE _ _ _ _ _ _ _
      have cs : (decide (2048 < ba.size) = true ∧ decide ((2048 : Int) < ba.size) = true) ∨ ((decide (2048 < ba.size) = false ∧ decide ((2048 : Int) < ba.size) = false) ∧ (decide (2048 < bb.size) = true ∧ decide ((2048 : Int) < bb.size) = true)) ∨
          ((decide (2048 < ba.size) = false ∧ decide ((2048 : Int) < ba.size) = false) ∧ (decide (2048 < bb.size) = false ∧ decide ((2048 : Int) < bb.size) = false) ∧ (decide (40 ≤ k) = true ∧ decide ((40 : Int) ≤ k) = true)) ∨
          ((decide (2048 < ba.size) = false ∧ decide ((2048 : Int) < ba.size) = false) ∧ (decide (2048 < bb.size) = false ∧ decide ((2048 : Int) < bb.size) = false) ∧ (decide (40 ≤ k) = false ∧ decide ((40 : Int) ≤ k) = false)) := by
        simp; omega
      apply BigE.seq
      apply BigE.block
      apply BigE.seq; apply BigE.regL
      · iterate 2 first
          | (apply BigO.run
             · simp [hlen, h1, h38, h39, hlt]
             · intro call
               conv => lhs; simp [hlen, h1, h38, h39, hlt])
          | (apply BigO.passed
             · first | (simp [hlen, h1, h38, h39, hlt]; done) | (simp [hlen, h1, h38, h39, hlt]; rfl))
        exact BigO.nil
      show BigE _ _ _ _ _ _ _
      rcases cs with ⟨a1, a2⟩ | ⟨⟨a1, a2⟩, ⟨b1, b2⟩⟩ | ⟨⟨a1, a2⟩, ⟨b1, b2⟩, ⟨c1, c2⟩⟩ | ⟨⟨a1, a2⟩, ⟨b1, b2⟩, ⟨c1, c2⟩⟩
      · apply BigE.seq; apply BigE.regL
        · iterate 22 first
            | (apply BigO.run
               · simp [hlen, h1, h38, h39, hlt, hg, sa, sb, a1, a2]
               · intro call
                 conv => lhs; simp [hlen, h1, h38, h39, hlt, hg, sa, sb, a1, a2])
            | (apply BigO.passed
               · first | (simp [hlen, h1, h38, h39, hlt, hg, sa, sb, a1, a2]; done) | (simp [hlen, h1, h38, h39, hlt, hg, sa, sb, a1, a2]; rfl))
          exact BigO.nil
        show BigE _ _ _ _ _ _ _
        apply BigE.condT
        · simp [hlen, a1, a2]
        apply BigE.seq; apply BigE.regL
        · iterate 1 first
            | (apply BigO.run
               · simp [hlen]
               · intro call
                 conv => lhs; simp [hlen])
            | (apply BigO.passed
               · first | (simp [hlen]; done) | (simp [hlen]; rfl))
          exact BigO.nil
        show BigE _ _ _ _ _ _ _
        apply BigE.ret
        exact ⟨rfl, rfl, false, by simp [hlen], by simp⟩
      · apply BigE.seq; apply BigE.regL
        · iterate 22 first
            | (apply BigO.run
               · simp [hlen, h1, h38, h39, hlt, hg, sa, sb, a1, a2, b1, b2]
               · intro call
                 conv => lhs; simp [hlen, h1, h38, h39, hlt, hg, sa, sb, a1, a2, b1, b2])
            | (apply BigO.passed
               · first | (simp [hlen, h1, h38, h39, hlt, hg, sa, sb, a1, a2, b1, b2]; done) | (simp [hlen, h1, h38, h39, hlt, hg, sa, sb, a1, a2, b1, b2]; rfl))
          exact BigO.nil
        show BigE _ _ _ _ _ _ _
        apply BigE.condT
        · simp [hlen, b1, b2]
        apply BigE.seq; apply BigE.regL
        · iterate 1 first
            | (apply BigO.run
               · simp [hlen]
               · intro call
                 conv => lhs; simp [hlen])
            | (apply BigO.passed
               · first | (simp [hlen]; done) | (simp [hlen]; rfl))
          exact BigO.nil
        show BigE _ _ _ _ _ _ _
        apply BigE.ret
        exact ⟨rfl, rfl, false, by simp [hlen], by simp⟩
      · apply BigE.seq; apply BigE.regL
        · iterate 22 first
            | (apply BigO.run
               · simp [hlen, h1, h38, h39, hlt, hg, sa, sb, a1, a2, b1, b2, c1, c2]
               · intro call
                 conv => lhs; simp [hlen, h1, h38, h39, hlt, hg, sa, sb, a1, a2, b1, b2, c1, c2])
            | (apply BigO.passed
               · first | (simp [hlen, h1, h38, h39, hlt, hg, sa, sb, a1, a2, b1, b2, c1, c2]; done) | (simp [hlen, h1, h38, h39, hlt, hg, sa, sb, a1, a2, b1, b2, c1, c2]; rfl))
          exact BigO.nil
        show BigE _ _ _ _ _ _ _
        apply BigE.condT
        · simp [hlen, c1, c2]
        apply BigE.seq; apply BigE.regL
        · iterate 1 first
            | (apply BigO.run
               · simp [hlen]
               · intro call
                 conv => lhs; simp [hlen])
            | (apply BigO.passed
               · first | (simp [hlen]; done) | (simp [hlen]; rfl))
          exact BigO.nil
        show BigE _ _ _ _ _ _ _
        apply BigE.ret
        exact ⟨rfl, rfl, false, by simp [hlen], by simp⟩
      · apply BigE.seq; apply BigE.regL
        · iterate 22 first
            | (apply BigO.run
               · simp [hlen, h1, h38, h39, hlt, hg, sa, sb, a1, a2, b1, b2, c1, c2]
               · intro call
                 conv => lhs; simp [hlen, h1, h38, h39, hlt, hg, sa, sb, a1, a2, b1, b2, c1, c2])
            | (apply BigO.passed
               · first | (simp [hlen, h1, h38, h39, hlt, hg, sa, sb, a1, a2, b1, b2, c1, c2]; done) | (simp [hlen, h1, h38, h39, hlt, hg, sa, sb, a1, a2, b1, b2, c1, c2]; rfl))
          exact BigO.nil
        show BigE _ _ _ _ _ _ _
        apply BigE.condF
        · simp [hlen, c1, c2]
        apply BigE.skip
        show BigE _ _ _ _ _ _ _
        apply BigE.regL
        · iterate 2 first
            | (apply BigO.run
               · simp [hlen, h39, hw]
               · intro call
                 conv => lhs; simp [hlen, h39, hw])
            | (apply BigO.passed
               · first | (simp [hlen, h39, hw]; done) | (simp [hlen, h39, hw]; rfl))
          exact BigO.nil
        have hk40 : k < 40 := by simpa using c1
        exact ⟨rfl, by simp [hlen], by simp [hlen, h1], by simp [hlen, h38], k + 1, by omega, by omega, by simp [hlen]⟩
    · rintro t' s' ⟨rfl, hlen, h1, h38, k, hk, hk40, h39⟩
      obtain rfl : k = n := by omega
      apply BigE.seq; apply BigE.regL
      · iterate 1 first
          | (apply BigO.run
             · simp [hlen, h38, h39]
             · intro call
               conv => lhs; simp [hlen, h38, h39])
          | (apply BigO.passed
             · first | (simp [hlen, h38, h39]; done) | (simp [hlen, h38, h39]; rfl))
        exact BigO.nil
      show BigE _ _ _ _ _ _ _
      apply BigE.seq; apply BigE.condF
      · simp [hlen]
      apply BigE.exit
      refine ⟨by simp, ?_⟩
      show BigE _ _ _ _ _ _ _
      apply BigE.seq; apply BigE.regL
      · iterate 1 first
          | (apply BigO.run
             · simp [hlen]
             · intro call
               conv => lhs; simp [hlen])
          | (apply BigO.passed
             · first | (simp [hlen]; done) | (simp [hlen]; rfl))
        exact BigO.nil
      show BigE _ _ _ _ _ _ _
      apply BigE.ret
      refine ⟨rfl, rfl, true, by simp [hlen], fun _ => hk40⟩
    · exact ⟨rfl, by simp [hlen], by simp [h1], by simp [hlen], 0, by omega, by omega, by simp [hlen]⟩
  obtain ⟨e, t', s', k1, rfl, rfl, r, k2, k3⟩ := key
  exact ⟨r, BigC.body (e := .ret) (hS _ _) fn7 (.inr rfl) k1 (vs := [.bool r]) (by simp [resOf, k2]) rfl, k3⟩
end Go.Proofs.YtdepnglgbgpahaaGreat
