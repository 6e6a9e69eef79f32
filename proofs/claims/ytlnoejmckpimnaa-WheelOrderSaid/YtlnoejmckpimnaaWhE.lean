/- WheelOrder: what is in the clock and in the row of who was due, in plain words. -/
import Derived.Test.YtlnoejmckpimnaaWhC
import Derived.Test.YtlnoejmckpimnaaArg
namespace Go.Proofs.Ytlnoejmckpimnaa
open Go.RowKit Go.Maps
namespace Wh

/-- Who sleeps how long: number x of the row; 0 where there is none. -/
def aAt (l : List Nat) (x : Int) : Int := if 0 ≤ x then ((l.getD x.toNat 0 : Nat) : Int) else 0
/-- The clock at moment j. -/
def fO (l : List Nat) (j : Nat) : Int → Int := fun x => if aAt l x ≤ j then 0 else aAt l x

theorem aAt_nat (l : List Nat) (i : Nat) : aAt l (i : Int) = ((l.getD i 0 : Nat) : Int) := by
  unfold aAt
  rw [if_pos (by omega), Int.toNat_natCast]

theorem aAt_nn (l : List Nat) (x : Int) : 0 ≤ aAt l x := by
  unfold aAt
  split <;> omega

theorem aAt_in {l : List Nat} {x : Int} (h : 0 < aAt l x) : ∃ i : Nat, x = i ∧ i < l.length := by
  unfold aAt at h
  split at h
  · refine ⟨x.toNat, by omega, Decidable.byContradiction fun hn => ?_⟩
    rw [List.getD_eq_getElem?_getD, List.getElem?_eq_none (by omega)] at h
    simp at h
  · omega

theorem fO_begin : fO [] 0 = fun _ => 0 := by
  funext x
  unfold fO aAt
  simp

theorem fO_new (l : List Nat) (i : Nat) : fO (l.take i) 0 (i : Int) = 0 := by
  unfold fO
  rw [aAt_nat, List.getD_eq_getElem?_getD, List.getElem?_take_eq_none (Nat.le_refl _)]
  simp

theorem fO_sleep {l : List Nat} {i a : Nat} (h : l[i]? = some a) (h1 : 1 ≤ a) (h2 : a ≤ 256) : (fun x => if x = (i : Int) then min (0 + (a : Int)) 1099511627776 else fO (l.take i) 0 x) = fO (l.take (i + 1)) 0 := by
  have hil : i < l.length := (List.getElem?_eq_some_iff.1 h).1
  funext x
  by_cases e : x = (i : Int)
  · subst e
    rw [if_pos rfl]
    unfold fO
    rw [aAt_nat, List.getD_eq_getElem?_getD, List.getElem?_take_of_lt (Nat.lt_succ_self i), h]
    simp only [Option.getD_some]
    rw [if_neg (by omega)]
    omega
  · rw [if_neg e]
    have : aAt (l.take i) x = aAt (l.take (i + 1)) x := by
      unfold aAt
      split
      · rw [List.getD_eq_getElem?_getD, List.getD_eq_getElem?_getD, List.getElem?_take, List.getElem?_take]
        by_cases hx : x.toNat < i
        · rw [if_pos hx, if_pos (by omega)]
        · rw [if_neg hx, if_neg (by omega)]
      · rfl
    unfold fO
    rw [this]

theorem fO_tick (l : List Nat) (j : Nat) (lim : Int) (hl : lim = (j : Int) + 1) : (fun x => if fO l j x ≤ lim then 0 else fO l j x) = fO l (j + 1) := by
  funext x
  have := aAt_nn l x
  unfold fO
  by_cases h : aAt l x ≤ (j : Int)
  · rw [if_pos h, if_pos (show aAt l x ≤ ((j + 1 : Nat) : Int) by omega)]
    simp
  · rw [if_neg h]
    by_cases h2 : aAt l x ≤ lim
    · rw [if_pos h2, if_pos (by omega)]
    · rw [if_neg h2, if_neg (by omega)]

theorem fO_due {l : List Nat} {j : Nat} {lim : Int} (hl : lim = (j : Int) + 1) (x : Int) : (fO l j x ≠ 0 ∧ fO l j x ≤ lim) ↔ aAt l x = (j : Int) + 1 := by
  have := aAt_nn l x
  unfold fO
  by_cases h : aAt l x ≤ (j : Int)
  · rw [if_pos h]
    constructor
    · rintro ⟨h1, _⟩; exact absurd rfl h1
    · intro e; omega
  · rw [if_neg h]
    constructor
    · rintro ⟨_, h2⟩; omega
    · intro e; omega

/-- What stands in the row of who was due: behind moment j, and those of S at the next. -/
def dueV (l : List Nat) (j : Nat) (S : List Int) (i : Nat) : Int := if l.getD i 0 ≤ j then ((l.getD i 0 : Nat) : Int) else if (i : Int) ∈ S then (j : Int) + 1 else 0

theorem dueV_next {l ks : List _} {j : Nat} (hm : ∀ x : Int, x ∈ ks ↔ aAt l x = (j : Int) + 1) (i : Nat) : dueV l j ks i = dueV l (j + 1) [] i := by
  have h1 := hm i
  rw [aAt_nat] at h1
  unfold dueV
  by_cases h : l.getD i 0 ≤ j
  · rw [if_pos h, if_pos (by omega)]
  · rw [if_neg h]
    by_cases h2 : l.getD i 0 ≤ j + 1
    · rw [if_pos h2, if_pos (h1.2 (by omega))]
      omega
    · rw [if_neg h2, if_neg (fun e => by have := h1.1 e; omega)]
      simp

theorem dueV_begin (l : List Nat) (i : Nat) : dueV l 0 [] i = 0 := by
  unfold dueV
  split
  · omega
  · simp

theorem dueV_zero {l : List Nat} {ks : List Int} {j k i : Nat} (hp : ks.Pairwise (· < ·)) (hk : ks[k]? = some (i : Int)) (ha : l.getD i 0 = j + 1) : dueV l j (ks.take k) i = 0 := by
  unfold dueV
  rw [if_neg (by omega), if_neg]
  intro e
  obtain ⟨m, hm, he⟩ := List.mem_iff_getElem.1 e
  have hkl := (List.getElem?_eq_some_iff.1 hk).1
  have hk2 := (List.getElem?_eq_some_iff.1 hk).2
  simp only [List.length_take] at hm
  rw [List.getElem_take] at he
  have := List.pairwise_iff_getElem.1 hp m k (by omega) hkl (by omega)
  omega

theorem dueV_set {l : List Nat} {ks : List Int} {j k i : Nat} (hk : ks[k]? = some (i : Int)) (ha : l.getD i 0 = j + 1) (m : Nat) : dueV l j (ks.take (k + 1)) m = if m = i then (j : Int) + 1 else dueV l j (ks.take k) m := by
  unfold dueV
  rw [List.take_add_one, hk]
  simp only [Option.toList_some, List.mem_append, List.mem_singleton]
  by_cases e : m = i
  · subst e
    rw [if_pos rfl, if_neg (by omega), if_pos (.inr rfl)]
  · rw [if_neg e]
    have : ((m : Int) ∈ ks.take k ∨ (m : Int) = (i : Int)) ↔ (m : Int) ∈ ks.take k := ⟨fun h => h.resolve_right (by omega), .inl⟩
    simp only [this]

theorem dueV_end {l : List Nat} {j i : Nat} (h : l.getD i 0 ≤ j) : dueV l j [] i = ((l.getD i 0 : Nat) : Int) := by
  unfold dueV
  rw [if_pos h]

/-- A row by what stands at each place. -/
def rowV (g : Nat → Int) (n : Nat) : List Value := (List.range n).map fun i => .int .i64 (g i)

theorem rowV_get (g : Nat → Int) {n i : Nat} (h : i < n) : (rowV g n)[i]? = some (.int .i64 (g i)) := by
  unfold rowV
  rw [List.getElem?_map, List.getElem?_range h]; rfl

theorem rowV_congr {g g' : Nat → Int} {n : Nat} (h : ∀ i, i < n → g i = g' i) : rowV g n = rowV g' n := by
  unfold rowV
  refine List.map_congr_left fun i hi => ?_
  rw [h i (List.mem_range.1 hi)]

theorem rowV_set (g : Nat → Int) (n i : Nat) (v : Int) : (rowV g n).set i (.int .i64 v) = rowV (fun m => if m = i then v else g m) n := by
  apply List.ext_getElem?
  intro m
  by_cases hm : m < n
  · rw [rowV_get _ hm]
    by_cases e : m = i
    · subst e
      rw [List.getElem?_set_self (by unfold rowV; simpa using hm), if_pos rfl]
    · rw [List.getElem?_set_ne (by omega), rowV_get _ hm, if_neg e]
  · rw [List.getElem?_eq_none (by unfold rowV; simp; omega), List.getElem?_eq_none (by unfold rowV; simp; omega)]

theorem rowV_zero (n : Nat) : madeCells #[Value.int .i64 0] n = (rowV (fun _ => 0) n).toArray := by
  apply Array.ext'
  rw [toList_madeCells_one]
  unfold rowV
  simp [List.map_const']

end Wh
end Go.Proofs.Ytlnoejmckpimnaa
