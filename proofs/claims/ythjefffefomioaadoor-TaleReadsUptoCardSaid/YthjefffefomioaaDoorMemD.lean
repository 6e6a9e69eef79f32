/- Memory words for a row that is cut in place: what clear leaves. -/
import Derived.Test.YthjefffefomioaaDoorMem
import Derived.Laws.IdiomCopy
namespace Go.Proofs.YthjefffefomioaaDoor
open Go.RowKit

theorem block_setCells {e : TypeId} {b : Nat} : ∀ (zs : List Value) (o : Nat) (w : World) (cur : Array Value), w.heap[b]? = some (.cells cur e (0, 0)) →
    ∃ cur', (w.setCells b o zs).heap[b]? = some (.cells cur' e (0, 0)) ∧ cur'.size = cur.size ∧ ∀ j, j < o → cur'[j]? = cur[j]?
  | [], _, w, cur, h => ⟨cur, h, rfl, fun _ _ => rfl⟩
  | v :: r, o, w, cur, h => by
    obtain ⟨cur', h1, h2, h3⟩ := block_setCells r (o + 1) (w.setCell ⟨b, o, none⟩ v) _ (block_set h v)
    refine ⟨cur', h1, by rw [h2]; simp, fun j hj => ?_⟩
    rw [h3 j (by omega), Array.getElem?_setIfInBounds_ne (by omega)]

theorem cells_laid {e : TypeId} {b : Nat} : ∀ (zs : List Value) (o : Nat) (w : World) (cur : Array Value), w.heap[b]? = some (.cells cur e (0, 0)) → o + zs.length ≤ cur.size →
    ∃ cur', (w.setCells b o zs).heap[b]? = some (.cells cur' e (0, 0)) ∧ cur'.size = cur.size ∧ (∀ j, j < o → cur'[j]? = cur[j]?) ∧ (∀ j, j < zs.length → cur'[o + j]? = zs[j]?)
  | [], _, w, cur, h, _ => ⟨cur, h, rfl, fun _ _ => rfl, fun j hj => by simp at hj⟩
  | v :: r, o, w, cur, h, hl => by
    simp only [List.length_cons] at hl
    obtain ⟨cur', h1, h2, h3, h4⟩ := cells_laid r (o + 1) (w.setCell ⟨b, o, none⟩ v) (cur.setIfInBounds o v) (block_set h v) (by rw [Array.size_setIfInBounds]; omega)
    refine ⟨cur', h1, by rw [h2]; simp, fun j hj => ?_, fun j hj => ?_⟩
    · rw [h3 j (by omega), Array.getElem?_setIfInBounds_ne (by omega)]
    · cases j with
      | zero =>
        rw [Nat.add_zero, h3 o (by omega), Array.getElem?_setIfInBounds_self_of_lt (by omega)]
        rfl
      | succ k =>
        have := h4 k (by simp at hj; omega)
        rw [show o + (k + 1) = o + 1 + k by omega, this]
        rfl

theorem Own.lay {w : World} {e : TypeId} {s g n cap : Nat} {xs : List Value} (h : Own w e s (.slice (some ⟨g, 0, none⟩) n cap) n xs) (news : List Value) (i m : Nat) (hm : i * s + news.length = m * s) (hmn : m ≤ n) : Own (w.setCells g (i * s) news) e s (.slice (some ⟨g, 0, none⟩) m cap) m (xs.take (i * s) ++ news) := by
  have hms : m * s ≤ n * s := Nat.mul_le_mul_right _ hmn
  refine ⟨by rw [List.length_append, List.length_take, h.1]; omega, ?_⟩
  rcases h.2 with ⟨h0, _⟩ | ⟨g', cap', cur, hv, hb, hg, hn, hmx, hs, ht⟩
  · cases h0
  · cases hv
    have hcs : n * s ≤ cap * s := Nat.mul_le_mul_right _ hn
    obtain ⟨cur', h1, h2, h3, h4⟩ := cells_laid (e := e) news (i * s) w cur hg (by omega)
    refine .inr ⟨g, cap, cur', rfl, hb, h1, by omega, hmx, h2.trans hs, ?_⟩
    apply List.ext_getElem?
    intro j
    rw [List.getElem?_take, ← ht]
    have hx : xs.length = n * s := h.1
    by_cases hj : j < i * s
    · rw [if_pos (by omega), List.getElem?_append_left (by simp; omega), List.getElem?_take, if_pos hj, List.getElem?_take, if_pos (by omega), Array.getElem?_toList, Array.getElem?_toList, h3 j hj]
    · by_cases hj2 : j < m * s
      · rw [if_pos hj2, List.getElem?_append_right (by simp; omega), Array.getElem?_toList]
        have := h4 (j - i * s) (by omega)
        rw [show i * s + (j - i * s) = j by omega] at this
        rw [this]
        congr 1
        simp
        omega
      · rw [if_neg hj2, List.getElem?_eq_none (by simp; omega)]

theorem Keeps.setCells {S : Nat → Prop} {a : World} {b : Nat} (hb : S b ∨ a.heap.size ≤ b) : ∀ (zs : List Value) (o : Nat) (w : World), Keeps S a w → Keeps S a (w.setCells b o zs)
  | [], _, _, h => h
  | v :: r, o, w, h => Keeps.setCells hb r (o + 1) (w.setCell ⟨b, o, none⟩ v) (h.setCell (p := ⟨b, o, none⟩) hb v)

theorem Own.setCells_tail {w : World} {e : TypeId} {s g m cap : Nat} {xs : List Value} (h : Own w e s (.slice (some ⟨g, 0, none⟩) m cap) m xs) (zs : List Value) (o : Nat) (ho : m * s ≤ o) : Own (w.setCells g o zs) e s (.slice (some ⟨g, 0, none⟩) m cap) m xs := by
  refine ⟨h.1, ?_⟩
  rcases h.2 with ⟨h0, _⟩ | ⟨g', cap', cur, hv, hb, hg, hn, hm, hs, ht⟩
  · cases h0
  · cases hv
    obtain ⟨cur', h1, h2, h3⟩ := block_setCells (e := e) zs o w cur hg
    refine .inr ⟨g, cap, cur', rfl, hb, h1, hn, hm, h2.trans hs, ?_⟩
    rw [← ht]
    apply List.ext_getElem?
    intro j
    rw [List.getElem?_take, List.getElem?_take]
    split
    · rw [Array.getElem?_toList, Array.getElem?_toList, h3 j (by omega)]
    · rfl

theorem run_clear_row {P : Program} (w : World) (t e ty : TypeId) (z : Value) (ht : P.underlying t = some (.slice e)) (hv : ∀ w, (zeroValue e).run P w = .ok z w) (b o n c : Nat) (hn : 0 < n)
    (hc : ∀ j, j < (Builtin.zeroCells z.cells n).toList.length → (w.cell? ⟨b, o + j, none⟩).isSome = true) (hf : ∀ j, j < (Builtin.zeroCells z.cells n).toList.length → w.frozen? ⟨b, o + j, none⟩ = false) (h1 : ∀ u ∈ (Builtin.zeroCells z.cells n).toList, u.oneCell' = true) :
    (Builtin.clear_ #[t] ty #[.slice (some ⟨b, o, none⟩) n c]).run P w = .ok (.tuple #[]) (w.setCells b o (Builtin.zeroCells z.cells n).toList) := by
  have hst := run_storeCells_cells (P := P) b o (Builtin.zeroCells z.cells n).toList 0 w (by simpa using hc) (by simpa using hf) h1
  simp only [Nat.add_zero] at hst
  obtain ⟨m, rfl⟩ : ∃ m, n = m + 1 := ⟨n - 1, by omega⟩
  simp [Builtin.clear_, run_underlying ht, hv, hst]
end Go.Proofs.YthjefffefomioaaDoor
