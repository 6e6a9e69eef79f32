/- Plain law: the reference's Sound and the program's are one, where no count is below 0. -/
import Derived.Test.YtlnfjjbfdbcgbaaInstS
namespace Go.Proofs.Ytlnfjjbfdbcgbaa
open Go.RowKit

theorem reg_true (n : Int) : regB n true = fieldB n true 8 := by
  unfold regB fieldB
  rw [Bool.eq_iff_iff]
  simp
  omega
theorem reg_false (n : Int) : regB n false = fieldB n false 8 := by
  unfold regB fieldB
  simp

theorem below_eq {m n : Int} (h : 0 ≤ m) : belowB m false n = (decide (0 < m) && decide (n < m)) := by
  unfold belowB
  rw [if_neg (by omega)]
  rfl

theorem field_M (c M : Int) : (decide (0 ≤ c) && decide (c < M)) = fieldB c true M := by unfold fieldB; simp
theorem below_m1 (n : Int) : belowB (-1) false n = decide (n = 0) := rfl
theorem below_any (m n : Int) : belowB m true n = true := rfl

theorem sound_eq {nf M C ns np : Int} (op a b c n : Int) (h1 : 0 ≤ nf) (h2 : 0 ≤ M) (h3 : 0 ≤ C) (h4 : 0 ≤ ns) (h5 : 0 ≤ np) : refSound (hasS op) nf M C ns np a b c n = soundB nf M C ns np op a b c n := by
  by_cases h : 1 ≤ op ∧ op ≤ 38
  · obtain ⟨g1, g2⟩ := h
    have h : op = 1 ∨ op = 2 ∨ op = 3 ∨ op = 4 ∨ op = 5 ∨ op = 6 ∨ op = 7 ∨ op = 8 ∨ op = 9 ∨ op = 10 ∨ op = 11 ∨ op = 12 ∨ op = 13 ∨ op = 14 ∨ op = 15 ∨ op = 16 ∨ op = 17 ∨ op = 18 ∨ op = 19 ∨ op = 20 ∨ op = 21 ∨ op = 22 ∨ op = 23 ∨ op = 24 ∨ op = 25 ∨ op = 26 ∨ op = 27 ∨ op = 28 ∨ op = 29 ∨ op = 30 ∨ op = 31 ∨ op = 32 ∨ op = 33 ∨ op = 34 ∨ op = 35 ∨ op = 36 ∨ op = 37 ∨ op = 38 := by omega
    clear g1 g2
    rcases h with rfl | rfl | rfl | rfl | rfl | rfl | rfl | rfl | rfl | rfl | rfl | rfl | rfl | rfl | rfl | rfl | rfl | rfl | rfl | rfl | rfl | rfl | rfl | rfl | rfl | rfl | rfl | rfl | rfl | rfl | rfl | rfl | rfl | rfl | rfl | rfl | rfl | rfl
    all_goals
      unfold refSound soundB
      simp only [hasS, hasT, inB, lastB, ofs, soundF, cls]
      simp [reg_true, reg_false, tailB, mostI, below_eq, below_m1, below_any, field_M, h1, h2, h3, h4, h5]
  · have hc : cls op = 0 := by unfold cls; (repeat' split) <;> omega
    have hh : hasS op = [] := by
      unfold hasS
      split
      · by_cases h39 : op.toNat < 39
        · obtain rfl : op = 0 := by omega
          rfl
        · rw [List.getD_eq_getElem?_getD, List.getElem?_eq_none (by show 39 ≤ op.toNat; omega)]; rfl
      · rfl
    rw [hh]
    unfold refSound soundB
    rw [hc]
    rfl
end Go.Proofs.Ytlnfjjbfdbcgbaa
