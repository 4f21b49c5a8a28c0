/-
  Event.fits and the comparison, worked out for whatever event.
-/
import Derived.Test.YtdepnglgbgpahaaGreatVfTab
set_option linter.unusedSectionVars false
set_option linter.unusedVariables false
set_option linter.unusedSimpArgs false
namespace Go.Proofs.YtdepnglgbgpahaaGreat
open Go Go.VE Go.Proofs
variable {S : CallR}

def fitsB (fr at' to : Int) (bk : Bool) : Bool := decide (0 < fr) && (at' == 0 || decide (fr ≤ at')) && (!bk || (at' != 0 && decide (at' ≤ to)))

theorem fn12 : T.fn 12 = some ⟨codeOf Tryz.f12, 35, [.tmp 2]⟩ := by kernel_rfl

attribute [local simp] aop opMove opPick opAlloc opBox opLoad opStore opBinOp opUnOp opFieldAddr opIndexAddr opLookup opMapUpdate opExtract opMakeMap opMakeFunc opCall builtinOp lenOp
  evalO evalL wantedL dstSet runOps_cons runOps_nil ok rdT rd wr binOpV intOp cmpInt litNil isNilV kindOk nilOf plain atom asN opt pureRun
  ty2 ty3 ty4 ty9 ty22 ty25 ty28 ty39 ty48 ty30 ty37 ty47 f37_1 f37_3 f37_4 f37_5 f37_6 t37_1 t37_3 t37_4 t37_5 t37_6 o37_1 o37_3 o37_4 o37_5 o37_6
  pureRun_not Value.cells length_set nth_set_same nth_set_ne Addr.add

set_option maxRecDepth 100000 in
theorem fits_big (hS : ∀ args s, S 12 args s = none) {vs : List Value} {fr at' to : Int} {bk : Bool} (hl : vs.length = 18) (h14 : vs[14]? = some (.int .i64 fr)) (h15 : vs[15]? = some (.int .i64 at')) (h16 : vs[16]? = some (.int .i64 to)) (h17 : vs[17]? = some (.bool bk))
    (s : St) (hn : s.nx < 4096) : BigC Tryz.prog T S 12 [.agg vs.toArray] s (.bool (fitsB fr at' to bk)) (s.push (.cells vs 0)) := by
  have key : ∃ t', Big Tryz.prog T S (codeOf Tryz.f12) (app [.agg vs.toArray] (List.replicate 34 undef)) s .ret t' (s.push (.cells vs 0)) ∧ nth undef t' 2 = .bool (fitsB fr at' to bk) := by
    generalize ht : app [.agg vs.toArray] (List.replicate 34 undef) = t
    have hlen : t.length = 35 := by subst ht; rfl
    have h0 : nth undef t 0 = .agg vs.toArray := by subst ht; rfl
    clear ht
    have hg := get_push_same s (.cells vs 0) hn
    have s14 := slc_one h14
    have s15 := slc_one h15
    have s16 := slc_one h16
    have s17 := slc_one h17
    have key : BigE Tryz.prog T S (codeOf Tryz.f12) t s fun e t' s' => e = .ret ∧ s' = s.push (.cells vs 0) ∧ nth undef t' 2 = .bool (fitsB fr at' to bk) := by
      apply BigE.seq; apply BigE.regL
      · apply BigO.run
        · simp
        · intro call
          conv => lhs; simp [h0, hlen]
        apply BigO.run
        · simp
        · intro call
          conv => lhs; simp [h0, hlen]
        exact BigO.nil
      · show BigE _ _ _ _ _ _ _
        have cases7 : (decide (0 < fr) = false) ∨ (0 < fr ∧ at' = 0 ∧ bk = false) ∨ (0 < fr ∧ at' = 0 ∧ bk = true) ∨ (0 < fr ∧ ((at' == 0) = false ∧ (at' != 0) = true) ∧ decide (fr ≤ at') = false) ∨ (0 < fr ∧ ((at' == 0) = false ∧ (at' != 0) = true) ∧ fr ≤ at' ∧ bk = false) ∨
            (0 < fr ∧ ((at' == 0) = false ∧ (at' != 0) = true) ∧ fr ≤ at' ∧ bk = true ∧ at' ≤ to) ∨ (0 < fr ∧ ((at' == 0) = false ∧ (at' != 0) = true) ∧ fr ≤ at' ∧ bk = true ∧ decide (at' ≤ to) = false) := by
          cases bk <;> simp <;> omega
        rcases cases7 with h1 | ⟨h1, h2, h3⟩ | ⟨h1, h2, h3⟩ | ⟨h1, ⟨h2, h2'⟩, h3⟩ | ⟨h1, ⟨h2, h2'⟩, h3, h4⟩ | ⟨h1, ⟨h2, h2'⟩, h3, h4, h5⟩ | ⟨h1, ⟨h2, h2'⟩, h3, h4, h5⟩
        all_goals
          apply BigE.seq; apply BigE.regL
          · iterate 33 first
              | (apply BigO.run
                 · simp [*]
                 · intro call
                   conv => lhs; simp [*])
              | (apply BigO.passed
                 · first | (simp [*]; done) | (simp [*]; rfl))
            exact BigO.nil
          · show BigE _ _ _ _ _ _ _
            refine BigE.ret ⟨rfl, rfl, ?_⟩
            simp [fitsB, *]
    obtain ⟨e, t', s', k1, rfl, rfl, k3⟩ := key
    exact ⟨t', k1, k3⟩
  obtain ⟨t', k1, k2⟩ := key
  exact BigC.body (e := .ret) (hS _ _) fn12 (.inr rfl) k1 (vs := [.bool (fitsB fr at' to bk)]) (by simp [resOf, k2]) rfl
end Go.Proofs.YtdepnglgbgpahaaGreat
