/- The statements NumTwo and NumMin. -/
import Derived.Test.YtlnoejmckpimnaaNumH
namespace Go.Proofs.Ytlnoejmckpimnaa
open Go.RowKit Ieee

theorem word_of {a : Int} (h : (Lit.int .u64 a).wf = true) : ∃ x : Nat, a = (x : Int) ∧ x < 18446744073709551616 := by
  have e1 : IntKind.u64.min = 0 := by decide
  have e2 : IntKind.u64.max = 18446744073709551615 := by decide
  simp [Lit.wf, e1, e2] at h
  exact ⟨a.toNat, by omega, by omega⟩
theorem eq_self (a : Int) : (a == a) = true := beq_self_eq_true a

end Go.Proofs.Ytlnoejmckpimnaa
