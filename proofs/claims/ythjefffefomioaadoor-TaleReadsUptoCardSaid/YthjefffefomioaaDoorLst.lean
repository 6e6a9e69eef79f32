/- Lists of things of s cells each: rows of the call's own, and slices that read as such a list. -/
import Derived.Test.YthjefffefomioaaDoorMemD
namespace Go.Proofs.YthjefffefomioaaDoor
open Go.RowKit

/-- A slice that reads as these things, each of s cells. -/
def Rd {α : Type} (f : α → List Value) (s : Nat) (w : World) (v : Value) (xs : List α) : Prop :=
  ∃ (A : Option Addr) (b off cap : Nat), v = .slice A xs.length cap ∧ (0 < xs.length → A = some ⟨b, off, none⟩ ∧ b < w.heap.size) ∧
    ∀ (j : Nat) (x : α) (i : Nat) (u : Value), xs[j]? = some x → (f x)[i]? = some u → w.cell? ⟨b, off + j * s + i, none⟩ = some u

theorem flat_get' {α : Type} (f : α → List Value) (s : Nat) (hf : ∀ x, (f x).length = s) (l : List α) (k j : Nat) (x : α) (u : Value) (hx : l[k]? = some x) (hu : (f x)[j]? = some u) : (l.flatMap f)[k * s + j]? = some u := by
  have hj : j < s := by have := (List.getElem?_eq_some_iff.1 hu).1; rw [hf] at this; exact this
  rw [flat_get f s hf l k j x hj hx, hu]

theorem lt_mul {k n s j : Nat} (hk : k < n) (hj : j < s) : k * s + j < n * s := by
  have : (k + 1) * s ≤ n * s := Nat.mul_le_mul_right _ hk
  rw [Nat.add_mul] at this
  omega

theorem Own.rd {α : Type} {f : α → List Value} {s : Nat} (hf : ∀ x, (f x).length = s) {w : World} {e : TypeId} {v : Value} {xs : List α} (h : Own w e s v xs.length (xs.flatMap f)) : Rd f s w v xs := by
  rcases h.2 with ⟨h1, h2⟩ | ⟨g, cap, cur, rfl, _, hg, hn, _, hcs, ht⟩
  · exact ⟨none, 0, 0, 0, by rw [h1, h2], fun h => by omega, fun j x i u hx => by rw [List.eq_nil_of_length_eq_zero h2] at hx; simp at hx⟩
  · refine ⟨_, g, 0, cap, rfl, fun _ => ⟨rfl, lt_of_block hg⟩, fun j x i u hx hu => ?_⟩
    have hj : j < xs.length := (List.getElem?_eq_some_iff.1 hx).1
    have hi : i < s := by have := (List.getElem?_eq_some_iff.1 hu).1; rw [hf] at this; exact this
    rw [Nat.zero_add, World.ownsRow.cellAt h (j * s + i) (lt_mul hj hi)]
    exact flat_get' f s hf xs j i x u hx hu

theorem Rd.keeps {α : Type} {f : α → List Value} {s : Nat} {w w' : World} {v : Value} {xs : List α} {S : Nat → Prop} (h : Rd f s w v xs) (kp : Keeps S w w') (hn : ∀ b, v.ownBlock = some b → ¬ S b) : Rd f s w' v xs := by
  obtain ⟨A, b, off, cap, rfl, h1, h2⟩ := h
  refine ⟨A, b, off, cap, rfl, fun hp => ⟨(h1 hp).1, Nat.lt_of_lt_of_le (h1 hp).2 kp.size⟩, fun j x i u hx hu => ?_⟩
  have hj : j < xs.length := (List.getElem?_eq_some_iff.1 hx).1
  obtain ⟨rfl, hb⟩ := h1 (by omega)
  rw [kp.cell hb (hn b rfl)]
  exact h2 j x i u hx hu

/-- What a slice reads as is told by its cells alone: the capacity does not matter. -/
theorem Rd.clip {α : Type} {f : α → List Value} {s : Nat} {w : World} {A : Option Addr} {n cap cap' : Nat} {xs : List α} (h : Rd f s w (.slice A n cap) xs) : Rd f s w (.slice A n cap') xs := by
  obtain ⟨A', b, off, cap1, e, h1, h2⟩ := h
  cases e
  exact ⟨_, b, off, cap', rfl, h1, h2⟩

/-- A row's value is nil, or a slice at a block's beginning. -/
theorem Own.form {w : World} {e : TypeId} {s : Nat} {v : Value} {n : Nat} {xs : List Value} (h : Own w e s v n xs) : (v = .slice none 0 0 ∧ n = 0) ∨ ∃ g cap, v = .slice (some ⟨g, 0, none⟩) n cap ∧ g < w.heap.size ∧ n ≤ cap ∧ cap ≤ maxLen := by
  rcases h.2 with ⟨h1, h2⟩ | ⟨g, cap, cur, h1, _, hg, hn, hm, _⟩
  · exact .inl ⟨h1, h2⟩
  · exact .inr ⟨g, cap, h1, lt_of_block hg, hn, hm⟩

/-- append(xs, ys..), in a plain region. -/
theorem wpList_appN {P : Program} {t e : TypeId} {z : Value} {size bytes : Nat} (E : Elem P t e z size bytes) (w : World) {ops : Array Oper} {rest : List Oper} {o : Oper} {a : Act} {Q : Exit → Act → World → Prop} (hgd : o.guard = none) (s x : Operand)
    (ho : o.op = .call { callee := .builtin .append, args := #[s, x], argTypes := #[t, t] })
    (v : Value) (n : Nat) (xs : List Value) (hs : a.eval s = v) (hown : Own w e size v n xs) (ad : Addr) (m c : Nat) (news : List Value)
    (hx : a.eval x = .slice (some ad) m c) (hl : news.length = m * size) (hnews : ∀ j u, news[j]? = some u → w.cell? (ad.add j) = some u) (h1 : ∀ u ∈ news, u.oneCell' = true)
    (h63 : n + m ≤ maxLen) (hbytes : (n + m) * bytes ≤ 140737488355328)
    (h : ∀ v' w', Own w' e size v' (n + m) (xs ++ news) → w.grownBy w' v.ownBlock → (∀ k, v'.ownBlock = some k → v.ownBlock = some k ∨ w.heap.size ≤ k) → (0 < m → ∃ g cap, v' = .slice (some ⟨g, 0, none⟩) (n + m) cap) → wpList P ops Q rest (a.put o.dst v') w') :
    wpList P ops Q (o :: rest) a w := by
  refine wpList_plain hgd fun K hK => ?_
  exact wp_app E w s x ho v n xs hs hown ad m c news hx hl hnews h1 h63 hbytes (fun v' w' a b c d => hK _ _ (h v' w' a b c d))

theorem Keeps.set {S : Nat → Prop} {a w : World} {b o : Nat} (h : Keeps S a w) (hb : S b ∨ a.heap.size ≤ b) (v : Value) : Keeps S a (w.setCell ⟨b, o, none⟩ v) := h.setCell (p := ⟨b, o, none⟩) hb v

theorem newsB {w : World} {q : Nat} {news : List Value} {e : TypeId} (h : w.heap[q]? = some (.cells news.toArray e (0, 0))) : ∀ (j : Nat) (u : Value), news[j]? = some u → w.cell? ((⟨q, 0, none⟩ : Addr).add j) = some u := by
  intro j u hu
  rw [Addr.add_lit, Nat.zero_add]
  exact cell_of_block h (by simpa using hu)

/-- The first place at which p holds, or -1. -/
def idxI {α : Type} (p : α → Bool) (xs : List α) : Int := match xs.findIdx? p with
  | some k => k
  | none => -1

def IdxPost {α : Type} (p : α → Bool) (xs : List α) (w : World) (e : Ending) (w' : World) : Prop := e = .returned (.int .i64 (idxI p xs)) ∧ Keeps NoBlock w w'

theorem idxI_at {α : Type} {p : α → Bool} {xs : List α} {k : Nat} {x : α} (hx : xs[k]? = some x) (hp : p x = true) (hb : ∀ (j : Nat) (y : α), j < k → xs[j]? = some y → p y = false) : idxI p xs = k := by
  have hl := (List.getElem?_eq_some_iff.1 hx).1
  have h : xs.findIdx? p = some k := by
    rw [List.findIdx?_eq_some_iff_getElem]
    refine ⟨hl, ?_, fun j hj => ?_⟩
    · rw [(List.getElem?_eq_some_iff.1 hx).2]; exact hp
    · rw [hb j _ hj (List.getElem?_eq_getElem (by omega))]; simp
  unfold idxI
  rw [h]

theorem idxI_none {α : Type} {p : α → Bool} {xs : List α} (hb : ∀ (j : Nat) (y : α), j < xs.length → xs[j]? = some y → p y = false) : idxI p xs = -1 := by
  have h : xs.findIdx? p = none := by
    rw [List.findIdx?_eq_none_iff]
    intro x hx
    obtain ⟨j, hj, he⟩ := List.getElem_of_mem hx
    exact hb j x hj (by rw [List.getElem?_eq_getElem hj, he])
  unfold idxI
  rw [h]

theorem idxI_any {α : Type} (p : α → Bool) (xs : List α) : decide (0 ≤ idxI p xs) = xs.any p := by
  unfold idxI
  cases h : xs.findIdx? p with
  | none =>
    rw [List.findIdx?_eq_none_iff] at h
    simp only [show ¬ (0 : Int) ≤ -1 by omega, decide_false]
    symm
    rw [List.any_eq_false]
    intro x hx
    rw [h x hx]; simp
  | some k =>
    rw [List.findIdx?_eq_some_iff_getElem] at h
    obtain ⟨hl, hp, _⟩ := h
    have : xs.any p = true := by rw [List.any_eq_true]; exact ⟨_, List.getElem_mem hl, hp⟩
    rw [this]
    simp

theorem Own.isSlice {w : World} {e : TypeId} {s : Nat} {v : Value} {n : Nat} {xs : List Value} (h : Own w e s v n xs) : ∃ A cap, v = .slice A n cap := by
  rcases Own.form h with ⟨rfl, rfl⟩ | ⟨g, cap, rfl, _⟩
  · exact ⟨none, 0, rfl⟩
  · exact ⟨_, _, rfl⟩

theorem step_app {P : Program} {t e : TypeId} {z : Value} {size bytes : Nat} (E : Elem P t e z size bytes) {ops : Array Oper} {o : Oper} {a : Act} {w : World} {K : Act → World → Prop} {Q : Exit → Act → World → Prop} {F : Prop}
    (hg : o.guard = none) (s x : Operand) (hop : o.op = Op.call { callee := Callee.builtin Builtin.append, args := #[s, x], argTypes := #[t, t] })
    (v : Value) (n : Nat) (xs : List Value) (hs : a.eval s = v) (hown : Own w e size v n xs)
    (ad : Addr) (m c : Nat) (news : List Value) (hx : a.eval x = .slice (some ad) m c) (hl : news.length = m * size) (hnews : ∀ j u, news[j]? = some u → w.cell? (ad.add j) = some u) (h1 : ∀ u ∈ news, u.oneCell' = true)
    (h63 : n + m ≤ maxLen) (hbytes : (n + m) * bytes ≤ 140737488355328)
    (h : ∀ v' w', Own w' e size v' (n + m) (xs ++ news) → w.grownBy w' v.ownBlock → (∀ k, v'.ownBlock = some k → v.ownBlock = some k ∨ w.heap.size ≤ k) → (0 < m → ∃ g cap, v' = .slice (some ⟨g, 0, none⟩) (n + m) cap) → K (a.put o.dst v') w') :
    if Region.wanted o (yielded ops a.tmps) = true then Oper.wp P o a w K Q else F := by
  have hw : Region.wanted o (yielded ops a.tmps) = true := by simp [Region.wanted, hg]
  rw [if_pos hw]
  exact wp_app E w s x hop v n xs hs hown ad m c news hx hl hnews h1 h63 hbytes h

/-- What blocks an object may have: F; they grow by new ones alone. -/
def Grows (F F' : Nat → Prop) (w : World) : Prop := ∀ k, F' k → F k ∨ w.heap.size ≤ k

theorem Grows.refl (F : Nat → Prop) (w : World) : Grows F F w := fun _ h => .inl h
theorem Grows.trans {F F' F'' : Nat → Prop} {w w' : World} (h : Grows F F' w) (h' : Grows F' F'' w') (hs : w.heap.size ≤ w'.heap.size) : Grows F F'' w := fun k hk => by
  rcases h' k hk with h1 | h1
  · exact h k h1
  · exact .inr (by omega)
theorem Grows.apart {F F' : Nat → Prop} {w : World} (h : Grows F F' w) {g : Nat} (hg : g < w.heap.size) (hn : ¬ F g) : ¬ F' g := fun hk => by
  rcases h g hk with h1 | h1
  · exact hn h1
  · omega
end Go.Proofs.YthjefffefomioaaDoor
