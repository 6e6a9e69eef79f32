/- WheelPlays: the law's own rows, in plain words. -/
import Derived.Test.YtlnoejmckpimnaaWhC
namespace Go.Proofs.Ytlnoejmckpimnaa
open Go.RowKit Go.Maps
namespace Wh

abbrev Pr := Int × Int
def whoL (l : List Pr) : List Int := l.map (·.1)
def endL (l : List Pr) : List Int := l.map (·.2)
/-- Until when x waits; 0: it does not. -/
def fL (l : List Pr) : Int → Int := fun x => match l.find? (fun p => p.1 == x) with
  | some p => p.2
  | none => 0

/-- Each once, and each end is 1 at least. -/
structure OkL (l : List Pr) : Prop where
  nd : (whoL l).Nodup
  lo : ∀ p ∈ l, 1 ≤ p.2
  wf : ∀ p ∈ l, Wf p.1

theorem fL_nil : fL [] = fun _ => 0 := rfl

theorem fL_cons (p : Pr) (l : List Pr) (x : Int) : fL (p :: l) x = if p.1 = x then p.2 else fL l x := by
  unfold fL
  rw [List.find?_cons]
  by_cases h : p.1 = x
  · rw [if_pos h, show (p.1 == x) = true from by simpa using h]
  · rw [if_neg h, show (p.1 == x) = false from by simpa using h]

theorem fL_off {l : List Pr} {x : Int} (h : x ∉ whoL l) : fL l x = 0 := by
  induction l with
  | nil => rfl
  | cons p l ih =>
    unfold whoL at h ih
    rw [List.map_cons, List.mem_cons] at h
    rw [fL_cons, if_neg (fun e => h (.inl e.symm)), ih (fun e => h (.inr e))]

theorem fL_in {l : List Pr} (hd : (whoL l).Nodup) {p : Pr} (h : p ∈ l) : fL l p.1 = p.2 := by
  induction l with
  | nil => cases h
  | cons q l ih =>
    unfold whoL at hd ih
    rw [List.map_cons, List.nodup_cons] at hd
    rw [fL_cons]
    rcases List.mem_cons.1 h with rfl | h
    · rw [if_pos rfl]
    · rw [if_neg (fun e => hd.1 (by rw [e]; exact List.mem_map_of_mem h)), ih hd.2 h]

theorem fL_ne {l : List Pr} (h : OkL l) (x : Int) : fL l x ≠ 0 ↔ x ∈ whoL l := by
  constructor
  · intro e
    exact Decidable.byContradiction fun hn => e (fL_off hn)
  · intro hx
    unfold whoL at hx
    obtain ⟨p, hp, rfl⟩ := List.mem_map.1 hx
    rw [fL_in h.nd hp]
    have := h.lo p hp
    omega

theorem fL_add {l : List Pr} {x u : Int} (hx : x ∉ whoL l) : fL (l ++ [(x, u)]) = fun y => if y = x then u else fL l y := by
  funext y
  induction l with
  | nil =>
    show fL [(x, u)] y = _
    rw [fL_cons]
    by_cases h : y = x
    · rw [if_pos h.symm, if_pos h]
    · rw [if_neg (fun e => h e.symm), if_neg h]
  | cons p l ih =>
    unfold whoL at hx ih
    rw [List.map_cons, List.mem_cons] at hx
    rw [List.cons_append, fL_cons, fL_cons, ih (fun e => hx (.inr e))]
    by_cases h : p.1 = y
    · rw [if_pos h, if_neg (fun e => hx (.inl (by rw [← e, h]))), if_pos h]
    · rw [if_neg h, if_neg h]

theorem OkL.filter {l : List Pr} (h : OkL l) (g : Pr → Bool) : OkL (l.filter g) :=
  ⟨h.nd.sublist (List.filter_sublist.map _), fun p hp => h.lo p (List.mem_filter.1 hp).1, fun p hp => h.wf p (List.mem_filter.1 hp).1⟩

theorem OkL.add {l : List Pr} (h : OkL l) {x u : Int} (hx : x ∉ whoL l) (hu : 1 ≤ u) (hw : Wf x) : OkL (l ++ [(x, u)]) := by
  refine ⟨?_, fun p hp => ?_, fun p hp => ?_⟩
  · unfold whoL at hx ⊢
    rw [List.map_append, List.nodup_append]
    exact ⟨h.nd, by simp, fun a ha b hb e => by simp at hb; subst hb; subst e; exact hx ha⟩
  · rcases List.mem_append.1 hp with hp | hp
    · exact h.lo p hp
    · simp at hp; subst hp; exact hu
  · rcases List.mem_append.1 hp with hp | hp
    · exact h.wf p hp
    · simp at hp; subst hp; exact hw

def later (lim : Int) (p : Pr) : Bool := decide (lim < p.2)
def dueL (lim : Int) (l : List Pr) : List Int := whoL (l.filter fun p => !later lim p)

theorem mem_who {l : List Pr} {x : Int} : x ∈ whoL l ↔ ∃ u, (x, u) ∈ l := by
  unfold whoL
  rw [List.mem_map]
  constructor
  · rintro ⟨p, hp, rfl⟩; exact ⟨p.2, hp⟩
  · rintro ⟨u, hu⟩; exact ⟨_, hu, rfl⟩

theorem fL_left {l : List Pr} (h : OkL l) (lim : Int) (hl : 0 ≤ lim) : (fun x => if fL l x ≤ lim then 0 else fL l x) = fL (l.filter (later lim)) := by
  funext x
  by_cases hx : x ∈ whoL l
  · obtain ⟨u, hu⟩ := mem_who.1 hx
    have e := fL_in h.nd hu
    simp only [] at e
    by_cases hle : u ≤ lim
    · rw [e, if_pos hle]
      symm
      refine fL_off (fun hx2 => ?_)
      obtain ⟨u2, hu2⟩ := mem_who.1 hx2
      obtain ⟨h1, h2⟩ := List.mem_filter.1 hu2
      have e2 := fL_in h.nd h1
      simp only [] at e2
      rw [e] at e2
      unfold later at h2
      simp at h2
      omega
    · rw [e, if_neg hle]
      have : (x, u) ∈ l.filter (later lim) := List.mem_filter.2 ⟨hu, by unfold later; simp; omega⟩
      have e2 := fL_in (h.filter (later lim)).nd this
      simp only [] at e2
      exact e2.symm
  · rw [fL_off hx, if_pos hl]
    symm
    refine fL_off (fun hx2 => hx ?_)
    obtain ⟨u2, hu2⟩ := mem_who.1 hx2
    exact mem_who.2 ⟨u2, (List.mem_filter.1 hu2).1⟩

theorem fL_due {l : List Pr} (h : OkL l) (lim : Int) (x : Int) : (fL l x ≠ 0 ∧ fL l x ≤ lim) ↔ x ∈ dueL lim l := by
  unfold dueL
  rw [mem_who]
  constructor
  · rintro ⟨h1, h2⟩
    obtain ⟨u, hu⟩ := mem_who.1 ((fL_ne h x).1 h1)
    have e := fL_in h.nd hu
    simp only [] at e
    exact ⟨u, List.mem_filter.2 ⟨hu, by unfold later; simp; omega⟩⟩
  · rintro ⟨u, hu⟩
    obtain ⟨h1, h2⟩ := List.mem_filter.1 hu
    have e := fL_in h.nd h1
    simp only [] at e
    have := h.lo _ h1
    simp only [] at this
    unfold later at h2
    simp at h2
    rw [e]
    omega

theorem take_filter {l : List Pr} {k : Nat} {p : Pr} (g : Pr → Bool) (h : l[k]? = some p) : (l.take (k + 1)).filter g = (l.take k).filter g ++ (if g p then [p] else []) := by
  rw [List.take_add_one, h, Option.toList_some, List.filter_append]
  by_cases hg : g p
  · simp [hg]
  · simp [hg]

/-- x put in its place. -/
theorem ins_ok {ds S : List Int} {x : Int} {m : Nat} (hp : ds.Pairwise (· < ·)) (hm : ∀ y, y ∈ ds ↔ y ∈ S) (hx : x ∉ S) (hlt : ∀ j y, j < m → ds[j]? = some y → y < x) (hge : ∀ y, ds[m]? = some y → ¬ y < x) :
    (ds.take m ++ [x] ++ ds.drop m).Pairwise (· < ·) ∧ ∀ y, y ∈ ds.take m ++ [x] ++ ds.drop m ↔ y ∈ S ++ [x] := by
  have hxd : x ∉ ds := fun e => hx ((hm x).1 e)
  have h1 : ∀ a ∈ ds.take m, a < x := fun a ha => by
    obtain ⟨j, hj, rfl⟩ := List.mem_iff_getElem.1 ha
    simp only [List.length_take] at hj
    refine hlt j _ (by omega) ?_
    rw [List.getElem_take, List.getElem?_eq_getElem (by omega)]
  have h2 : ∀ b ∈ ds.drop m, x < b := fun b hb => by
    obtain ⟨j, hj, rfl⟩ := List.mem_iff_getElem.1 hb
    simp only [List.length_drop] at hj
    rw [List.getElem_drop]
    have hml : m < ds.length := by omega
    have h3 := hge _ (List.getElem?_eq_getElem hml)
    have h4 : ds[m] ≠ x := fun e => hxd (by rw [← e]; exact List.getElem_mem hml)
    by_cases hj0 : j = 0
    · subst hj0
      simp only [Nat.add_zero]
      omega
    · have := List.pairwise_iff_getElem.1 hp m (m + j) hml (by omega) (by omega)
      omega
  have hsplit : (ds.take m ++ ds.drop m).Pairwise (· < ·) := by rw [List.take_append_drop]; exact hp
  rw [List.pairwise_append] at hsplit
  refine ⟨?_, fun y => ?_⟩
  · rw [List.pairwise_append, List.pairwise_append]
    refine ⟨⟨hsplit.1, List.pairwise_singleton _ _, fun a ha b hb => by rw [List.mem_singleton] at hb; subst hb; exact h1 a ha⟩, hsplit.2.1, fun a ha b hb => ?_⟩
    rcases List.mem_append.1 ha with ha | ha
    · exact hsplit.2.2 a ha b hb
    · rw [List.mem_singleton] at ha; subst ha; exact h2 b hb
  · have e : y ∈ ds ↔ y ∈ ds.take m ∨ y ∈ ds.drop m := by rw [← List.mem_append, List.take_append_drop]
    rw [List.mem_append, List.mem_append, List.mem_append, ← hm, e]
    constructor
    · rintro ((h | h) | h)
      · exact .inl (.inl h)
      · exact .inr h
      · exact .inl (.inr h)
    · rintro ((h | h) | h)
      · exact .inl (.inl h)
      · exact .inr h
      · exact .inl (.inr h)

end Wh
end Go.Proofs.Ytlnoejmckpimnaa
