/- Plain words on rows of numbers: what a number that comes, or goes, makes of all of them. -/
import Derived.Test.YtmpingalekdlnaaRyE
namespace Go.Proofs.Ytmpingalekdlnaa
namespace Ry

theorem flat_set_perm : ∀ {qs : List (List Int)} {k : Nat} {q q' : List Int} {t : Int}, qs[k]? = some q → q.Perm (t :: q') → qs.flatten.Perm (t :: (qs.set k q').flatten)
  | [], k, q, q', t, h, _ => by simp at h
  | a :: qs, 0, q, q', t, h, hp => by
    simp only [List.getElem?_cons_zero, Option.some.injEq] at h
    subst h
    rw [List.set_cons_zero, List.flatten_cons, List.flatten_cons, ← List.cons_append]
    exact hp.append_right _
  | a :: qs, k + 1, q, q', t, h, hp => by
    rw [List.set_cons_succ, List.flatten_cons, List.flatten_cons]
    exact ((flat_set_perm (by simpa using h) hp).append_left a).trans List.perm_middle

theorem erase_perm : ∀ {q : List Int} {ix : Nat} {t : Int}, q[ix]? = some t → q.Perm (t :: q.eraseIdx ix)
  | [], ix, t, h => by simp at h
  | a :: q, 0, t, h => by
    simp only [List.getElem?_cons_zero, Option.some.injEq] at h
    subst h
    rw [List.eraseIdx_cons_zero]
  | a :: q, ix + 1, t, h => by
    rw [List.eraseIdx_cons_succ]
    exact ((erase_perm (by simpa using h)).cons a).trans (List.Perm.swap ..)

theorem set_back {qs : List (List Int)} {k : Nat} {q q' : List Int} (h : qs[k]? = some q) : (qs.set k q').set k q = qs := by
  rw [List.set_set]
  apply List.ext_getElem?
  intro j
  by_cases e : j = k
  · subst e
    rw [List.getElem?_set_self (List.getElem?_eq_some_iff.1 h).1, h]
  · rw [List.getElem?_set_ne (Ne.symm e)]

theorem come_perm {qs : List (List Int)} {k : Nat} {q : List Int} {t : Int} (h : qs[k]? = some q) : (qs.set k (q ++ [t])).flatten.Perm (t :: qs.flatten) := by
  have h1 : (qs.set k (q ++ [t]))[k]? = some (q ++ [t]) := List.getElem?_set_self (List.getElem?_eq_some_iff.1 h).1
  have := flat_set_perm h1 (List.perm_append_singleton t q)
  rwa [set_back h] at this

theorem gone_perm {qs : List (List Int)} {k ix : Nat} {q : List Int} {t : Int} (h : qs[k]? = some q) (ht : q[ix]? = some t) : qs.flatten.Perm (t :: (qs.set k (q.eraseIdx ix)).flatten) :=
  flat_set_perm h (erase_perm ht)

theorem len_flat {qs : List (List Int)} {q : List Int} (h : q ∈ qs) : q.length ≤ qs.flatten.length := by
  induction qs with
  | nil => cases h
  | cons a qs ih =>
    rw [List.flatten_cons, List.length_append]
    rcases List.mem_cons.1 h with rfl | h
    · omega
    · have := ih h; omega

theorem mem_flat {qs : List (List Int)} {k : Nat} {q : List Int} {t : Int} (h : qs[k]? = some q) (ht : t ∈ q) : t ∈ qs.flatten := List.mem_flatten.2 ⟨q, List.mem_of_getElem? h, ht⟩

theorem flat_replicate (n : Nat) : (List.replicate n ([] : List Int)).flatten = [] := by simp

/-- Who comes new comes in. -/
theorem addB_new {qs : List (List Int)} {k : Nat} {t : Int} (hk : k < qs.length) (h : t ∉ qs.flatten) : addB qs k t = true := addB_in hk (fun _ _ hq ht => h (mem_flat hq ht))

theorem addQ_new {qs : List (List Int)} {k : Nat} {t : Int} (hk : k < qs.length) (h : t ∉ qs.flatten) : ∃ q, qs[k]? = some q ∧ addQ qs k t = qs.set k (q ++ [t]) := by
  refine ⟨_, List.getElem?_eq_getElem hk, ?_⟩
  unfold addQ
  rw [if_pos (addB_new hk h), Int.toNat_natCast, List.getD_eq_getElem?_getD, List.getElem?_eq_getElem hk]; rfl

/-- Where there is somebody, somebody is picked. -/
theorem pickR_some {qs : List (List Int)} {p : Nat} (hp : p < qs.length) (h : qs.flatten ≠ []) : pickR qs p ≠ none := by
  unfold pickR
  rw [if_pos (by omega)]
  split
  · intro hn
    rw [Option.map_eq_none_iff, List.findIdx?_eq_none_iff] at hn
    refine h (List.flatten_eq_nil_iff.2 fun q hq => ?_)
    have := hn q hq
    simpa using this
  · simp

theorem empty_flat {qs : List (List Int)} (h : qs.flatten = []) : (qs.all fun q => decide (q = [])) = true := by
  rw [List.all_eq_true]
  intro q hq
  exact decide_eq_true (List.flatten_eq_nil_iff.1 h q hq)

theorem two_rows {qs : List (List Int)} (h : qs.flatten.Nodup) {j k : Nat} {p q : List Int} {t : Int} (hj : qs[j]? = some p) (hk : qs[k]? = some q) (hp : t ∈ p) (hq : t ∈ q) : j = k := by
  have h2 := List.pairwise_iff_getElem.1 (List.pairwise_flatten.1 (show List.Pairwise (· ≠ ·) qs.flatten from h)).2
  obtain ⟨hjl, rfl⟩ := List.getElem?_eq_some_iff.1 hj
  obtain ⟨hkl, rfl⟩ := List.getElem?_eq_some_iff.1 hk
  rcases Nat.lt_trichotomy j k with hlt | rfl | hlt
  · exact absurd rfl (h2 j k hjl hkl hlt t hp t hq)
  · rfl
  · exact absurd rfl (h2 k j hkl hjl hlt t hq t hp)
end Ry
end Go.Proofs.Ytmpingalekdlnaa
