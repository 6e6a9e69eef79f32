/- The reference of inst: may a program be. -/
import Derived.Test.YtlnfjjbfdbcgbaaInstP
import Derived.StillTailTactics
import Derived.Deep.RegionHeld3
namespace Go.Proofs.Ytlnfjjbfdbcgbaa
open Go.RowKit

def refP (p : Pg) (x : In5) : Bool := refSound (hasS x.1) p.funcs.length p.mutexes p.conds p.sems.length p.pipes.length x.2.1 x.2.2.1 x.2.2.2.1 x.2.2.2.2
def refAll (p : Pg) (l : List (List In5)) : Bool := l.all (fun f => f.all (refP p))
def refI (p : Pg) : Int := if capsB p then (if refAll p p.funcs then 0 else 8) else 9

theorem rSound_at (v : Value) (p : Pg) (x : In5) (w0 w : World) (h : ProgAt w0 v p) (hx : ok5 x) : Calls Try.prog 25 #[v, .agg #[.int .i64 x.1, .int .i64 x.2.1, .int .i64 x.2.2.1, .int .i64 x.2.2.2.1, .int .u64 x.2.2.2.2]] w (BoolPost w (refP p x)) := by
  obtain ⟨⟨fa, sa, pa, nf, fc, ns, sc, np, pc, fb, fo, sb, so, pb, po, rfl, hF, hS, hP, hb1, hb2, hb3⟩, hM, hC⟩ := h
  have h1 := hF.length
  have h2 := hS.length
  have h3 := hP.length
  unfold refP
  rw [h1, h2, h3]
  exact rSound_calls fa sa pa nf fc ns sc np pc _ _ _ _ _ _ _ _ _ _ w hb1 hb2 hb3 hM hC hx.1 hx.2

def AllOk {α : Type} (f : α → Bool) (l : List α) : Prop := l.all f = true

theorem refAll_snoc {p : Pg} {l : List (List In5)} {k : Nat} {f : List In5} (hk : l[k]? = some f) (h : refAll p (l.take k) = true) (hf : f.all (refP p) = true) : refAll p (l.take (k + 1)) = true := by
  unfold refAll
  rw [all_snoc l _ k f hk]
  unfold refAll at h
  rw [h, hf]; rfl
theorem refAll_not {p : Pg} {l : List (List In5)} {k : Nat} {f : List In5} (hk : l[k]? = some f) {j : Nat} {x : In5} (hj : f[j]? = some x) (hx : refP p x = false) : refAll p l = false := by
  unfold refAll
  rw [List.all_eq_false]
  refine ⟨f, List.mem_of_getElem? hk, ?_⟩
  rw [Bool.not_eq_true, List.all_eq_false]
  exact ⟨x, List.mem_of_getElem? hj, by rw [hx]; simp⟩
theorem all_not {α : Type} {l : List α} {f : α → Bool} {k : Nat} {x : α} (hk : l[k]? = some x) (hx : f x = false) : l.all f = false := by
  rw [List.all_eq_false]
  exact ⟨x, List.mem_of_getElem? hk, by rw [hx]; simp⟩

end Go.Proofs.Ytlnfjjbfdbcgbaa
