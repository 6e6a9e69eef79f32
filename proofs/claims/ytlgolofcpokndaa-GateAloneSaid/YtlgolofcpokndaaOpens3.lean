/- What a value that came in reads as: structs with fields of whatever size, truth values. -/
import Derived.Test.YtlgolofcpokndaaOpens2
import Derived.Test.YtlgolofcpokndaaLst
namespace Go.Proofs.Ytlgolofcpokndaa
open Go.RowKit Go.ChangeShapes Go.WideShapes

variable {H : Type} {enc0 : TypeId × Value → H} {P : Program} {W : World} {base : Nat} {spare : Nat → Bool} {held : Bool} {α : Type} {R : α → List Value → Prop} {t e : TypeId}

theorem opens_bool (ht : P.underlying t = some .bool) : Opens enc0 P W base spare held (fun (b : Bool) cs => cs = [.bool b]) t := by
  intro fuel cs x hf _
  obtain ⟨b, rfl, _⟩ := DataW.trod_bool ht hf
  exact ⟨b, rfl⟩

/-- A struct, field by field. -/
theorem opens_structN {fs : Array Field} (he : P.underlying t = some (.struct fs))
    (hdec : ∀ (cs : List Value), cs.length = P.cellsOf t → (∀ (j : Nat) (f : Field), fs[j]? = some f → ∃ (n : Nat) (y : DataW H × List MemPlace), DataW.trod enc0 P W base spare held n f.type ((cs.drop f.offset).take (P.cellsOf f.type)) = some y ∧ Light P f.type y.1) → ∃ x, R x cs) : Opens enc0 P W base spare held R t := by
  intro fuel cs x hf hl
  obtain ⟨ys, n', hn', hy, hlen, hyl, hff⟩ := DataW.trod_struct he hf
  have hx1 : x.1 = .agg (ys.map (·.1)) := by rw [hy]
  rw [hx1] at hl
  refine hdec cs hlen (fun q f hq => ?_)
  have hql : q < fs.size := (Array.getElem?_eq_some_iff.1 hq).1
  have h1 := hff q f hq
  have hys : ys[q]? = some (ys[q]'(by omega)) := List.getElem?_eq_getElem (by omega)
  refine ⟨_, _, h1.trans hys, fun n hn => hl n ?_⟩
  simp only [DataW.weights, he]
  refine DataW.weights_mem_each (j := q) (t := f.type) (d := (ys[q]'(by omega)).1) ?_ ?_ n hn
  · simp [hq]
  · simp [hys]
theorem cell1 {n : Nat} {cs : List Value} {o : Nat} {y : DataW H × List MemPlace} {c : Nat} (hc : P.cellsOf t = c) (h : DataW.trod enc0 P W base spare held n t ((cs.drop o).take (P.cellsOf t)) = some y) : DataW.trod enc0 P W base spare held n t ((cs.drop o).take c) = some y := by rw [← hc]; exact h

theorem rd_of_sl {α : Type} {enc : α → List Value} {s B : Nat} {xs : List α} {a : Option Addr} {len cap : Nat} (h : SlR W (fun x cs => cs = enc x) s B xs [.slice a len cap]) (hs : 0 < s) (he : ∀ x, (enc x).length = s) : Rd enc s W (.slice a len cap) xs := by
  obtain ⟨A, b, off, cap', hcs, hA, _, _, hx⟩ := h
  simp only [List.cons.injEq, Value.slice.injEq, and_true] at hcs
  obtain ⟨rfl, rfl, rfl⟩ := hcs
  refine ⟨a, b, off, cap, rfl, fun h0 => ⟨hA h0, ?_⟩, fun j x i u hj hi => ?_⟩
  · obtain ⟨ds, rfl, _, hc⟩ := hx 0 _ (List.getElem?_eq_getElem h0)
    have hl := he xs[0]
    have hl0 : 0 < (enc xs[0]).length := by omega
    exact World.block_lt_of_cell? W _ (hc 0 (enc xs[0])[0] (List.getElem?_eq_getElem hl0))
  · obtain ⟨ds, rfl, _, hc⟩ := hx j x hj
    exact hc i u hi

end Go.Proofs.Ytlgolofcpokndaa
