/- The plain law of InstClasses: for every number the printed function answers true. No condition. -/
import Derived.Test.YtlnfjjbfdbcgbaaPInstClassesx6
namespace Go.Proofs.Ytlnfjjbfdbcgbaa.Pure
open Go.RowKit Go.Proofs.Ytlnfjjbfdbcgbaa.PInstClasses Go.Proofs.YtlnfjjbfdbcgbaaW.PrintWords Go.Proofs.YtlnfjjbfdbcgbaaW.PrintLast

set_option maxRecDepth 100000 in
theorem aw : drawknifelaw02_awake.f 35 = some true := by decide +kernel

/-- The class of any number is the one that the law counts out, and it is seen where the law says so. -/
theorem InstClasses : drawknifelaw02_InstClasses.Pure := by
  intro a0 _
  refine ⟨40, ?_⟩
  have h : (¬ a0 ≥ 1) ∨ (a0 ≥ 1 ∧ ¬ a0 ≥ 18) ∨ (a0 ≥ 18 ∧ a0 ≤ 19) ∨ (a0 ≥ 20 ∧ a0 ≤ 32) ∨ (a0 ≥ 33 ∧ a0 ≤ 38) ∨ (¬ a0 ≤ 38) := by omega
  rcases h with h | ⟨h, h'⟩ | ⟨h, h'⟩ | ⟨h, h'⟩ | ⟨h, h'⟩ | h
  · have e1 : decide (a0 ≥ 1) = false := decide_eq_false h
    have n2 : ¬ a0 ≥ 18 := by omega
    have n3 : ¬ a0 ≥ 20 := by omega
    have n4 : ¬ a0 ≥ 33 := by omega
    simp [drawknifelaw02_InstClasses.f, drawknifelaw02_InstClasses.j0, drawknifelaw02_InstClasses.j1, drawknifelaw02_InstClasses.j2, drawknifelaw02_InstClasses.j3, drawknifelaw02_InstClasses.j4, aw, inst_Class.f, inst_Class.j0, inst_Class.j1, inst_Seen.f, -ge_iff_le, h, n2, n3, n4]
  · have n2 : a0 ≤ 19 := by omega
    have n3 : ¬ a0 ≥ 20 := by omega
    have n4 : ¬ a0 ≥ 33 := by omega
    simp [drawknifelaw02_InstClasses.f, drawknifelaw02_InstClasses.j0, drawknifelaw02_InstClasses.j1, drawknifelaw02_InstClasses.j2, drawknifelaw02_InstClasses.j3, drawknifelaw02_InstClasses.j4, aw, inst_Class.f, inst_Class.j0, inst_Class.j1, inst_Seen.f, -ge_iff_le, h, h', n2, n3, n4]
  · have n1 : a0 ≥ 1 := by omega
    have n2 : a0 ≤ 38 := by omega
    have n3 : ¬ a0 ≥ 20 := by omega
    have n4 : ¬ a0 ≥ 33 := by omega
    simp [drawknifelaw02_InstClasses.f, drawknifelaw02_InstClasses.j0, drawknifelaw02_InstClasses.j1, drawknifelaw02_InstClasses.j2, drawknifelaw02_InstClasses.j3, drawknifelaw02_InstClasses.j4, aw, inst_Class.f, inst_Class.j0, inst_Class.j1, inst_Seen.f, -ge_iff_le, h, h', n1, n2, n3, n4]
  · have n1 : a0 ≥ 1 := by omega
    have n2 : ¬ a0 ≤ 19 := by omega
    have n3 : a0 ≥ 18 := by omega
    have n4 : ¬ a0 ≥ 33 := by omega
    have n5 : a0 ≤ 38 := by omega
    simp [drawknifelaw02_InstClasses.f, drawknifelaw02_InstClasses.j0, drawknifelaw02_InstClasses.j1, drawknifelaw02_InstClasses.j2, drawknifelaw02_InstClasses.j3, drawknifelaw02_InstClasses.j4, aw, inst_Class.f, inst_Class.j0, inst_Class.j1, inst_Seen.f, -ge_iff_le, h, h', n1, n2, n3, n4, n5]
  · have n1 : a0 ≥ 1 := by omega
    have n2 : ¬ a0 ≤ 19 := by omega
    have n3 : a0 ≥ 18 := by omega
    have n4 : a0 ≥ 20 := by omega
    have n5 : ¬ a0 ≤ 32 := by omega
    simp [drawknifelaw02_InstClasses.f, drawknifelaw02_InstClasses.j0, drawknifelaw02_InstClasses.j1, drawknifelaw02_InstClasses.j2, drawknifelaw02_InstClasses.j3, drawknifelaw02_InstClasses.j4, aw, inst_Class.f, inst_Class.j0, inst_Class.j1, inst_Seen.f, -ge_iff_le, h, h', n1, n2, n3, n4, n5]
  · have n1 : a0 ≥ 1 := by omega
    have n2 : ¬ a0 ≤ 19 := by omega
    have n3 : a0 ≥ 18 := by omega
    have n4 : a0 ≥ 20 := by omega
    have n5 : ¬ a0 ≤ 32 := by omega
    have n6 : a0 ≥ 33 := by omega
    simp [drawknifelaw02_InstClasses.f, drawknifelaw02_InstClasses.j0, drawknifelaw02_InstClasses.j1, drawknifelaw02_InstClasses.j2, drawknifelaw02_InstClasses.j3, drawknifelaw02_InstClasses.j4, aw, inst_Class.f, inst_Class.j0, inst_Class.j1, inst_Seen.f, -ge_iff_le, h, n1, n2, n3, n4, n5, n6]
end Go.Proofs.Ytlnfjjbfdbcgbaa.Pure
