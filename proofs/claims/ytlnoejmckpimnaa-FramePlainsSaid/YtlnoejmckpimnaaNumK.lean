/- The statement NumOrder. -/
import Derived.Test.YtlnoejmckpimnaaNumJ
namespace Go.Proofs.Ytlnoejmckpimnaa
open Go.RowKit Ieee

def NYes (w : World) (e : Ending) (w' : World) : Prop := e = .returned (.bool true) ∧ Below w.heap.size w w'
theorem yes_of {w w' : World} {b : Bool} (h : b = true) (k : Keeps NoBlock w w') : NYes w (.returned (.bool b)) w' := ⟨by rw [h], k.below (Nat.le_refl _) (fun k h => h.elim)⟩

theorem int_ne {x y : Nat} (h : x ≠ y) : ((x : Int) == (y : Int)) = false := beq_eq_false_iff_ne.2 (fun e => h (by omega))

end Go.Proofs.Ytlnoejmckpimnaa
