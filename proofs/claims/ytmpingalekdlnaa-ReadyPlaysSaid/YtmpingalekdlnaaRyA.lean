/- Package ready: rows of threads; what is read from them. -/
import Derived.Test.YtmpingalekdlnaaDqC
namespace Go.Proofs.Ytmpingalekdlnaa
open Go.RowKit
namespace Ry
open Dq

abbrev ptr (d : Nat) : Value := .pointer (some ⟨d, 0, none⟩)

/-- Rows at r: n deques, number k in blocks of colour k + 2; the head and the list of them in colour 1. -/
structure RowsIn (col : Nat → Nat) (w : World) (r n : Nat) (A : Option Addr) (c : Nat) (ds : List Nat) (qs : List (List Int)) : Prop where
  head : w.heap[r]? = some (.cells #[.slice A n c] 55 (0, 0))
  own : Own w 43 1 (.slice A n c) n (ds.map ptr)
  cr : col r = 1
  ca : ∀ k, (Value.slice A n c).ownBlock = some k → col k = 1 ∧ k ≠ r
  dl : ds.length = n
  ql : qs.length = n
  deq : ∀ (k d : Nat) (q : List Int), ds[k]? = some d → qs[k]? = some q → DequeAt col (k + 2) w d q

theorem RowsIn.keeps {col : Nat → Nat} {w w' : World} {r n : Nat} {A : Option Addr} {c : Nat} {ds : List Nat} {qs : List (List Int)} (h : RowsIn col w r n A c ds qs) (k : Keeps NoBlock w w') : RowsIn col w' r n A c ds qs :=
  ⟨(k.block _ (lt_of_block h.head) (fun h => h)).trans h.head, h.own.keeps k (fun _ _ h => h), h.cr, h.ca, h.dl, h.ql, fun j d q hd hq => (h.deq j d q hd hq).keeps k (fun _ _ h => h)⟩

/-- Number k of the list. -/
theorem RowsIn.at {col : Nat → Nat} {w : World} {r n : Nat} {A : Option Addr} {c : Nat} {ds : List Nat} {qs : List (List Int)} (h : RowsIn col w r n A c ds qs) {k : Nat} (hk : k < n) :
    ∃ (g d : Nat) (q : List Int), A = some ⟨g, 0, none⟩ ∧ g < w.heap.size ∧ w.cell? ⟨g, k, none⟩ = some (ptr d) ∧ ds[k]? = some d ∧ qs[k]? = some q ∧ DequeAt col (k + 2) w d q := by
  obtain ⟨d, hd⟩ : ∃ d, ds[k]? = some d := ⟨_, List.getElem?_eq_getElem (by rw [h.dl]; exact hk)⟩
  obtain ⟨q, hq⟩ : ∃ q, qs[k]? = some q := ⟨_, List.getElem?_eq_getElem (by rw [h.ql]; exact hk)⟩
  have ho := h.own
  rcases Own.form ho with ⟨_, h2⟩ | ⟨g, c', h1, hg, _⟩
  · omega
  · simp only [Value.slice.injEq, true_and] at h1
    obtain ⟨rfl, rfl⟩ := h1
    refine ⟨g, d, q, rfl, hg, ?_, hd, hq, h.deq k d q hd hq⟩
    rw [World.ownsRow.cellAt ho k (by omega), List.getElem?_map, hd]; rfl

theorem row_nil (p : Int) (w : World) : Calls Try.prog 28 #[.pointer none, .int .i64 p] w fun e w' => e = .returned (.pointer none) ∧ w = w' := by
  go_enter Try.func28, Try.ntmps28
  go_wp2
  go_ret
  exact ⟨rfl, rfl⟩

theorem row_out {col : Nat → Nat} {w : World} {r n : Nat} {A : Option Addr} {c : Nat} {ds : List Nat} {qs : List (List Int)} (p : Int) (h : RowsIn col w r n A c ds qs) (hp : p < 0 ∨ (n : Int) ≤ p) : Calls Try.prog 28 #[ptr r, .int .i64 p] w fun e w' => e = .returned (.pointer none) ∧ w = w' := by
  have c0 := cell_of_block h.head (o := 0) rfl
  have z0 := lt_of_block h.head
  clear h
  by_cases h0 : p < 0
  · go_enter Try.func28, Try.ntmps28
    go_wp2
    go_ret
    exact ⟨rfl, rfl⟩
  · have h1 : (n : Int) ≤ p := by omega
    clear hp
    go_enter Try.func28, Try.ntmps28
    go_wp2
    go_ret
    exact ⟨rfl, rfl⟩

theorem row_in {col : Nat → Nat} {w : World} {r n : Nat} {A : Option Addr} {c : Nat} {ds : List Nat} {qs : List (List Int)} (k d : Nat) (h : RowsIn col w r n A c ds qs) (hk : k < n) (hd : ds[k]? = some d) : Calls Try.prog 28 #[ptr r, .int .i64 k] w fun e w' => e = .returned (ptr d) ∧ w = w' := by
  have c0 := cell_of_block h.head (o := 0) rfl
  have z0 := lt_of_block h.head
  obtain ⟨g, d', q, rfl, hg, hc, hd', _, _⟩ := h.at hk
  rw [hd] at hd'
  cases hd'
  clear h hd
  go_enter Try.func28, Try.ntmps28
  go_wp2
  go_ret
  exact ⟨rfl, rfl⟩
end Ry
end Go.Proofs.Ytmpingalekdlnaa
