/- What an argument that came in is, as facts on cells: slices of whole numbers. -/
import Derived.Test.YtpenanbnadohfaaMem
import Derived.SizedLaws
import Derived.ChangeSlices
import Derived.ChangeShapes
import Derived.WideShapes
import Derived.OpenShut
namespace Go.Proofs.Ytpenanbnadohfaa
open Go.RowKit Go.ChangeShapes Go.WideShapes

/-- A slice of whole numbers that came in. -/
structure IntsAt (k : IntKind) (w : World) (A : Option Addr) (b off len : Nat) (zs : List Int) : Prop where
  addr : 0 < len → A = some ⟨b, off, none⟩
  cell : ∀ j, j < len → w.cell? ⟨b, off + j, none⟩ = some (.int k (zs.getD j 0))
  wf : ∀ j, j < len → (Lit.int k (zs.getD j 0)).wf = true
  length : zs.length = len

theorem cell_spot {w : World} {a : Addr} {v : Value} (h : w.cell? a = some v) : a = ⟨a.block, a.off, none⟩ := by
  obtain ⟨b, o, s⟩ := a
  cases s with
  | none => rfl
  | some x =>
    simp [World.cell?] at h
    split at h <;> simp_all

theorem intsAt_open {H : Type} {enc : TypeId × Value → H} {P : Program} {W : World} {base : Nat} {spare : Nat → Bool} {held : Bool} {t e : TypeId} {k : IntKind} {a : Option Addr} {len cap : Nat} {d : DataW H} {ps : List MemPlace} {ts : List TypeId} {ds : List (DataW H)} {j : Nat}
    (hsz : (DataW.weightsEach P ts ds).all (· ≤ reachBytes) = true) (ht : ts[j]? = some t) (hd : ds[j]? = some d) (hu : P.underlying t = some (.slice e)) (he : P.underlying e = some (.int k)) (hc : P.cellsOf e = 1) {B : Nat} (hB : P.bytesOf e = B)
    (h : DataW.Trod enc P W base spare held t (.slice a len cap) d ps) : ∃ b off zs, IntsAt k W a b off len zs ∧ len ≤ cap ∧ len * B ≤ 140737488351232 := by
  obtain ⟨fuel, hf⟩ := h
  rcases open_ints hu he hc hf with ⟨hcs, _⟩ | ⟨x, l, c, zs, hcs, _, hl, _, hz, hx, hcell, hwf⟩
  · simp [Value.cells] at hcs
    obtain ⟨rfl, rfl, rfl⟩ := hcs
    exact ⟨0, 0, [], ⟨fun h => by omega, fun j hj => by omega, fun j hj => by omega, rfl⟩, Nat.le_refl _, by simp⟩
  · simp [Value.cells] at hcs
    obtain ⟨rfl, rfl, rfl⟩ := hcs
    have hl2 : len ≤ zs.length := by
      rw [hz]
      split
      · exact hl
      · exact Nat.le_refl _
    refine ⟨x.block, x.off, zs.take len, ⟨fun h => ?_, fun j hj => ?_, fun j hj => ?_, by simp; omega⟩, hl, ?_⟩
    · have := hcell 0 (by omega)
      rw [show x.add 0 = x from rfl] at this
      rw [← cell_spot this]
    · have h1 := hcell j (by omega)
      have h0 := hcell 0 (by omega)
      rw [show x.add 0 = x from rfl] at h0
      have e : x.add j = ⟨x.block, x.off + j, none⟩ := by
        unfold Addr.add
        split
        · subst_vars; rw [Nat.add_zero]; exact cell_spot h0
        · rfl
      rw [e] at h1
      rw [h1]
      simp [List.getD, hj]
    · have hj2 : j < zs.length := by omega
      have : (zs.take len).getD j 0 = zs[j] := by simp [List.getD, hj, hj2]
      rw [this]
      exact hwf _ (List.getElem_mem hj2)
    · obtain ⟨hx, _⟩ := Prod.mk.inj hx
      subst hx
      have z := sized_slice hsz ht hd hu
      rw [hB] at z
      have h1 : (lits (H := H) k (zs.take len)).length + (lits (H := H) k (zs.drop len)).length = zs.length := by
        simp [lits]
        omega
      rw [h1] at z
      exact Nat.le_trans (Nat.mul_le_mul_right _ hl2) z
end Go.Proofs.Ytpenanbnadohfaa
