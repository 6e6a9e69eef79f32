/- The fixed fact of layer 4's statements. -/
import Derived.Test.YtpenanbnadohfaaSlotB
namespace Go.Proofs.Ytpenanbnadohfaa
open Go.RowKit

theorem take_det {l : Slots} {e : Ending} {l' : Slots} (h : TakeSays l e l') (k : Nat) (t : Int) (hk : l[k]? = some (false, t)) (hb : ∀ j, j < k → ∃ s, l[j]? = some (true, s)) :
    l' = l.set k (true, t + 1) ∧ e = .returned (.tuple #[.int .i64 k, .int .u64 ((t + 1) * 65536 + k + 1), .int .i64 0]) := by
  rcases h with ⟨k', t', h1, h2, rfl, rfl⟩ | ⟨h1, _, _⟩
  · have : k' = k := by
      rcases Nat.lt_trichotomy k' k with h | h | h
      · obtain ⟨s, hs⟩ := hb k' h; rw [hs] at h1; simp at h1
      · exact h
      · obtain ⟨s, hs⟩ := h2 k h; rw [hs] at hk; simp at hk
    subst this
    rw [hk] at h1
    simp only [Option.some.injEq, Prod.mk.injEq, true_and] at h1
    subst h1
    exact ⟨rfl, rfl⟩
  · have := (List.getElem?_eq_some_iff.1 hk).1
    obtain ⟨s, hs⟩ := h1 k this
    rw [hs] at hk; simp at hk

theorem take_full {l : Slots} {e : Ending} {l' : Slots} (h : TakeSays l e l') (hb : ∀ (j : Nat) x, l[j]? = some x → x.1 = true) : l' = l ∧ e = .returned (.tuple #[.int .i64 0, .int .u64 0, .int .i64 2]) := by
  rcases h with ⟨k', t', h1, h2, rfl, rfl⟩ | ⟨_, h1, h2⟩
  · have := hb _ _ h1; simp at this
  · exact ⟨h1, h2⟩

theorem found_unique {l : Slots} {h : Int} (hl : l.length ≤ 1024) {k k' : Nat} (h1 : Found l h k) (h2 : Found l h k') : k = k' := by
  obtain ⟨t, ha, e1⟩ := h1
  obtain ⟨t', hb, e2⟩ := h2
  have := (List.getElem?_eq_some_iff.1 ha).1
  have := (List.getElem?_eq_some_iff.1 hb).1
  omega

theorem free_det {l : Slots} {h : Int} {e : Ending} {l' : Slots} (hs : (∃ (k : Nat) (t : Int), l[k]? = some (true, t) ∧ h = t * 65536 + (k : Int) + 1 ∧ l' = l.set k (false, t) ∧ e = .returned (.int .i64 0)) ∨ ((∀ k, ¬ Found l h k) ∧ l' = l ∧ e = .returned (.int .i64 3)))
    (hl : l.length ≤ 1024) (_hb : Small l) (k : Nat) (t : Int) (hk : l[k]? = some (true, t)) (hh : h = t * 65536 + (k : Int) + 1) : l' = l.set k (false, t) ∧ e = .returned (.int .i64 0) := by
  rcases hs with ⟨k', t', h1, h2, h3, h4⟩ | ⟨h1, _, _⟩
  · obtain rfl := found_unique hl ⟨t, hk, hh⟩ ⟨t', h1, h2⟩
    rw [hk] at h1
    simp only [Option.some.injEq, Prod.mk.injEq, true_and] at h1
    subst h1
    exact ⟨h3, h4⟩
  · exact absurd ⟨t, hk, hh⟩ (h1 k)

theorem find_none {l : Slots} {h : Int} {e : Ending} (hs : FindSays l h e) (hn : ∀ k, ¬ Found l h k) : e = .returned (.tuple #[.int .i64 0, .bool false]) := by
  rcases hs with ⟨k, h1, _⟩ | ⟨_, h2⟩
  · exact absurd h1 (hn k)
  · exact h2

theorem small_list {l : Slots} (h : ∀ x ∈ l, 0 ≤ x.2 ∧ x.2 < 1000000) : Small l := fun _ x hx => h x (List.mem_of_getElem? hx)

theorem small_set {l : Slots} {k : Nat} {j : Nat} {y : Bool × Int} (hs : ∀ (j : Nat) x, l[j]? = some x → 0 ≤ x.2 ∧ x.2 ≤ (k : Int)) (hj : j < l.length) (hy : 0 ≤ y.2 ∧ y.2 ≤ ((k + 1 : Nat) : Int)) : ∀ (i : Nat) x, (l.set j y)[i]? = some x → 0 ≤ x.2 ∧ x.2 ≤ ((k + 1 : Nat) : Int) := by
  intro i x hx
  by_cases e : j = i
  · subst e
    rw [List.getElem?_set_self hj] at hx
    simp only [Option.some.injEq] at hx
    subst hx
    exact hy
  · rw [List.getElem?_set_ne e] at hx
    have := hs i x hx
    omega

set_option maxRecDepth 100000 in
theorem awake_calls (w : World) : Calls Try.prog 15 #[] w fun e w' => e = .returned (.bool true) ∧ Keeps NoBlock w w' := by
  go_enter Try.func15, Try.ntmps15
  go_wp2_with fail
  refine (new_calls 2 w).mono ?_
  rintro e w1 ⟨b, g, rfl, T1, hk1, hb, hg⟩
  have T : Table w1 b g [(false, 0), (false, 0)] := T1
  clear T1
  go_wp2_with fail
  refine (take_calls b g _ w1 T (small_list (by simp))).mono ?_
  rintro e w2 ⟨l', hs, T2, hk2⟩
  obtain ⟨rfl, rfl⟩ := take_det hs 0 0 rfl (by intro j hj; omega)
  clear hs
  go_wp2_with fail
  refine (take_calls b g _ w2 T2 (small_list (by simp))).mono ?_
  rintro e w3 ⟨l', hs, T3, hk3⟩
  obtain ⟨rfl, rfl⟩ := take_det hs 1 0 rfl (fun j hj => ⟨1, by rw [show j = 0 by omega]; rfl⟩)
  clear hs
  go_wp2_with fail
  refine (take_calls b g _ w3 T3 (small_list (by simp))).mono ?_
  rintro e w4 ⟨l', hs, T4, hk4⟩
  obtain ⟨rfl, rfl⟩ := take_full hs (by intro j x hx; have := List.mem_of_getElem? hx; simp at this; rcases this with rfl | rfl <;> rfl)
  clear hs
  go_wp2_with fail
  refine (free_calls b g _ w4 _ T4 (small_list (by simp)) (by decide) (by decide)).mono ?_
  rintro e w5 ⟨l', hs, T5, hk5⟩
  obtain ⟨rfl, rfl⟩ := free_det hs (by decide) (small_list (by simp)) 0 1 rfl (by decide)
  clear hs
  go_wp2_with fail
  refine (find_calls b g _ w5 _ T5 (small_list (by simp)) (by decide) (by decide)).mono ?_
  rintro e w6 ⟨hs, hk6⟩
  obtain rfl := find_none hs (by
    rintro k ⟨t, h1, h2⟩
    have hlt := (List.getElem?_eq_some_iff.1 h1).1
    simp at hlt
    have hk : k = 0 ∨ k = 1 := by omega
    rcases hk with rfl | rfl
    · simp at h1
    · simp at h1; subst h1; omega)
  have T6 := T5.keeps hk6 (fun h => h) (fun h => h)
  clear hs
  go_wp2_with fail
  refine (take_calls b g _ w6 T6 (small_list (by simp))).mono ?_
  rintro e w7 ⟨l', hs, T7, hk7⟩
  obtain ⟨rfl, rfl⟩ := take_det hs 0 1 rfl (by intro j hj; omega)
  clear hs
  go_wp2
  go_ret
  refine ⟨rfl, ?_⟩
  have F : ∀ j, j < w.heap.size → Foot b g j → NoBlock j := by rintro j hj (rfl | rfl) <;> omega
  have s1 := hk1.size
  exact ((((((hk1.trans hk2 F).trans hk3 F).trans hk4 F).trans hk5 F).trans hk6 (fun _ _ h => h)).trans hk7 F)
end Go.Proofs.Ytpenanbnadohfaa
