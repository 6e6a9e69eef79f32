/- The statements NumTwo and NumMin; the fixed fact. -/
import Derived.Test.YtlnoejmckpimnaaNumG
namespace Go.Proofs.Ytlnoejmckpimnaa
open Go.RowKit Ieee

theorem kall (a b : World) (h : Keeps NoBlock a b) (c : World) (k : Keeps NoBlock b c) : Keeps NoBlock a c := h.trans k (fun _ _ h => h)
end Go.Proofs.Ytlnoejmckpimnaa
