/- Rows of the call's own, by name: each apart from the others and from some other blocks. -/
import Derived.Test.YtlgolofcpokndaaLst
namespace Go.Proofs.Ytlgolofcpokndaa
open Go.RowKit
namespace Gt

/-- One row: its slice, its elements' type and size, how many there are, and all cells. -/
structure Ent where
  v : Value
  e : TypeId
  s : Nat
  n : Nat
  xs : List Value

abbrev Env := Nat × Nat → Option Ent
def upd (es : Env) (i : Nat × Nat) (x : Ent) : Env := fun j => if j = i then some x else es j

theorem upd_at (es : Env) (i : Nat × Nat) (x : Ent) : upd es i x i = some x := if_pos rfl
theorem upd_ne (es : Env) {i j : Nat × Nat} (x : Ent) (h : j ≠ i) : upd es i x j = es j := if_neg h

structure EnvAt (lo : Nat → Prop) (S : Nat → Prop) (w : World) (es : Env) : Prop where
  own : ∀ i x, es i = some x → Own w x.e x.s x.v x.n x.xs
  lw : ∀ i x b, es i = some x → x.v.ownBlock = some b → lo b ∧ ¬ S b
  sep : ∀ i j x y b, es i = some x → es j = some y → x.v.ownBlock = some b → y.v.ownBlock = some b → i = j

theorem EnvAt.keeps {lo : Nat → Prop} {S K : Nat → Prop} {w w' : World} {es : Env} (h : EnvAt lo S w es) (k : Keeps K w w') (hK : ∀ b, K b → S b) : EnvAt lo S w' es :=
  ⟨fun i x hi => (h.own i x hi).keeps k (fun b hb e => (h.lw i x b hi hb).2 (hK b e)), h.lw, h.sep⟩

theorem EnvAt.lt {lo : Nat → Prop} {S : Nat → Prop} {w : World} {es : Env} (h : EnvAt lo S w es) {i : Nat × Nat} {x : Ent} {b : Nat} (hi : es i = some x) (hb : x.v.ownBlock = some b) : b < w.heap.size := (h.own i x hi).lt b hb

/-- A row that is turned, or laid anew. -/
theorem EnvAt.put {lo : Nat → Prop} {S : Nat → Prop} {w w' : World} {es : Env} (h : EnvAt lo S w es) (i : Nat × Nat) (y : Ent) (hlo : ∀ b, w.heap.size ≤ b → lo b) (hS : ∀ b, S b → b < w.heap.size)
    (k : Keeps (fun b => ∃ x, es i = some x ∧ x.v.ownBlock = some b) w w') (ho : Own w' y.e y.s y.v y.n y.xs) (hf : ∀ b, y.v.ownBlock = some b → (∃ x, es i = some x ∧ x.v.ownBlock = some b) ∨ w.heap.size ≤ b) : EnvAt lo S w' (upd es i y) := by
  have hat : ∀ j z, upd es i y j = some z → (j = i ∧ z = y) ∨ (j ≠ i ∧ es j = some z) := fun j z hj => by
    by_cases e : j = i
    · subst e
      rw [upd_at] at hj
      injection hj with hj
      exact .inl ⟨rfl, hj.symm⟩
    · rw [upd_ne es y e] at hj
      exact .inr ⟨e, hj⟩
  refine ⟨fun j z hj => ?_, fun j z b hj hb => ?_, fun j j' z z' b hj hj' hb hb' => ?_⟩
  · rcases hat j z hj with ⟨_, rfl⟩ | ⟨e, hk⟩
    · exact ho
    · exact (h.own j z hk).keeps k (fun b hb e2 => by
        obtain ⟨x, hx, hxb⟩ := e2
        exact e (h.sep j i z x b hk hx hb hxb))
  · rcases hat j z hj with ⟨_, rfl⟩ | ⟨e, hk⟩
    · rcases hf b hb with ⟨x, hx, hxb⟩ | h1
      · exact h.lw i x b hx hxb
      · exact ⟨hlo b h1, fun e => by have := hS b e; omega⟩
    · exact h.lw j z b hk hb
  · rcases hat j z hj with ⟨e1, rfl⟩ | ⟨e1, hk⟩
    · rcases hat j' z' hj' with ⟨e2, rfl⟩ | ⟨e2, hk'⟩
      · rw [e1, e2]
      · rcases hf b hb with ⟨x, hx, hxb⟩ | h1
        · exact absurd (h.sep j' i z' x b hk' hx hb' hxb) e2
        · have := h.lt hk' hb'
          omega
    · rcases hat j' z' hj' with ⟨e2, rfl⟩ | ⟨e2, hk'⟩
      · rcases hf b hb' with ⟨x, hx, hxb⟩ | h1
        · exact absurd (h.sep j i z x b hk hx hb hxb) e1
        · have := h.lt hk hb
          omega
      · exact h.sep j j' z z' b hk hk' hb hb'

theorem EnvAt.begin (lo : Nat → Prop) (S : Nat → Prop) (w : World) : EnvAt lo S w (fun _ => none) := ⟨(fun i x hi => by cases hi), (fun i x b hi => by cases hi), (fun i j x y b hi => by cases hi)⟩

/-- Fewer blocks, or the same, that are special. -/
theorem EnvAt.mono {lo lo' : Nat → Prop} {S S' : Nat → Prop} {w : World} {es : Env} (h : EnvAt lo S w es) (hl : ∀ b, lo b → lo' b) (hs : ∀ i x b, es i = some x → x.v.ownBlock = some b → ¬ S' b) : EnvAt lo' S' w es :=
  ⟨h.own, fun i x b hi hb => ⟨hl _ (h.lw i x b hi hb).1, hs i x b hi hb⟩, h.sep⟩

theorem EnvAt.congr {lo : Nat → Prop} {S : Nat → Prop} {w : World} {es es' : Env} (h : EnvAt lo S w es) (he : ∀ i, es' i = es i) : EnvAt lo S w es' := by
  have : es' = es := funext he
  rw [this]
  exact h

end Gt
end Go.Proofs.Ytlgolofcpokndaa
