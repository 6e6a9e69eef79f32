/- Package num and its reference: kinds, the lesser and the greater one, sums by the language's own. -/
import Derived.Test.YtlnoejmckpimnaaNumB
namespace Go.Proofs.Ytlnoejmckpimnaa
open Go.RowKit Ieee

theorem rung_of_small {r : Nat} (h : r < 9223372036854775808) : rungOf r = r ∧ signOf r = false := by
  unfold rungOf signOf
  refine ⟨by omega, ?_⟩
  rw [show r / 9223372036854775808 = 0 by omega]
  decide

/-- What an order says of two words that are numbers. -/
theorem order_of {x y : Nat} (hx : nanB x = false) (hy : nanB y = false) : double.order x y = some (compare (keyOf x) (keyOf y)) :=
  order_key (of_decide_eq_false (p := isNan x) hx) (of_decide_eq_false (p := isNan y) hy)
theorem order_none {x y : Nat} (h : nanB x = true ∨ nanB y = true) : double.order x y = none :=
  order_nan (h.imp (fun h => of_decide_eq_true (p := isNan x) h) (fun h => of_decide_eq_true (p := isNan y) h))

theorem inf_says (x : Nat) (hn : nanB x = false) : (double.order (rungOf x) 9218868437227405311 == some .gt) = decide (rungOf x = infR) := by
  have hr := rung_of_small (rung_lt x)
  have h1 : nanB (rungOf x) = false := by unfold nanB at hn ⊢; rw [hr.1]; exact hn
  have h2 : nanB 9218868437227405311 = false := by decide
  rw [order_of h1 h2]
  have k1 : keyOf (rungOf x) = rungOf x := by unfold keyOf; rw [hr.2, hr.1]; rfl
  have k2 : keyOf 9218868437227405311 = 9218868437227405311 := by decide
  rw [k1, k2]
  have hle : rungOf x ≤ infR := by unfold nanB at hn; have := of_decide_eq_false hn; omega
  unfold infR at *
  by_cases h : rungOf x = 9218868437227405312
  · rw [compare_gt (by omega), decide_eq_true h]; rfl
  · rw [decide_eq_false h]
    by_cases e : rungOf x = 9218868437227405311
    · rw [compare_eq (by omega)]; rfl
    · rw [compare_lt (by omega)]; rfl

theorem zero_says (x : Nat) (hn : nanB x = false) : (double.order x 0 == some .eq) = decide (rungOf x = 0) := by
  have h2 : nanB 0 = false := by decide
  rw [order_of hn h2]
  have k2 : keyOf 0 = 0 := by decide
  rw [k2]
  unfold keyOf
  by_cases h : rungOf x = 0
  · rw [h, decide_eq_true rfl, compare_eq (by split <;> rfl)]; rfl
  · rw [decide_eq_false h]
    cases signOf x
    · simp only [Bool.false_eq_true, if_false]
      rw [compare_gt (by omega)]; rfl
    · simp only [if_true]
      rw [compare_lt (by omega)]; rfl

end Go.Proofs.Ytlnoejmckpimnaa
