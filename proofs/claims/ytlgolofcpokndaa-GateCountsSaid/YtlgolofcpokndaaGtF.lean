/- Package gate: what a turned row, or a turned cell, makes of the gates. -/
import Derived.Test.YtlgolofcpokndaaGtD
namespace Go.Proofs.Ytlgolofcpokndaa
open Go.RowKit

namespace Gt

theorem set_at {α : Type} {l : List α} {m : Nat} {x y : α} (h : l[m]? = some x) : (l.set m y)[m]? = some y := List.getElem?_set_self (List.getElem?_eq_some_iff.1 h).1

theorem set_ne {α : Type} {l : List α} {m i : Nat} {y : α} (h : i ≠ m) : (l.set m y)[i]? = l[i]? := List.getElem?_set_ne (fun e => h e.symm)

/-- One row's new state: the rows that are not it stay. -/
theorem gateE_m {vm vc vs : Value} {ms : List Mx} {cs : List Rw} {ss : List Sm} {m : Nat} {x' : Mx} {p : Nat × Nat} (h1 : p ≠ (1, m)) (h0 : p ≠ (0, 0)) : gateE vm vc vs (ms.set m x') cs ss p = gateE vm vc vs ms cs ss p := by
  obtain ⟨a, i⟩ := p
  match a with
  | 0 =>
    have hi : i ≠ 0 := fun e => h0 (by rw [e])
    show (if i = 0 then _ else _) = (if i = 0 then _ else _)
    rw [if_neg hi, if_neg hi]
  | 1 =>
    have hi : i ≠ m := fun e => h1 (by rw [e])
    show ((ms.set m x')[i]?).map _ = (ms[i]?).map _
    rw [set_ne hi]
  | 2 => rfl
  | 3 => rfl
  | n + 4 => rfl

theorem gateE_c {vm vc vs : Value} {ms : List Mx} {cs : List Rw} {ss : List Sm} {m : Nat} {x' : Rw} {p : Nat × Nat} (h1 : p ≠ (2, m)) (h0 : p ≠ (0, 1)) : gateE vm vc vs ms (cs.set m x') ss p = gateE vm vc vs ms cs ss p := by
  obtain ⟨a, i⟩ := p
  match a with
  | 0 =>
    have hi : i ≠ 1 := fun e => h0 (by rw [e])
    show (if i = 0 then _ else if i = 1 then _ else _) = (if i = 0 then _ else if i = 1 then _ else _)
    rw [if_neg hi, if_neg hi]
  | 1 => rfl
  | 2 =>
    have hi : i ≠ m := fun e => h1 (by rw [e])
    show ((cs.set m x')[i]?).map _ = (cs[i]?).map _
    rw [set_ne hi]
  | 3 => rfl
  | n + 4 => rfl

theorem gateE_s {vm vc vs : Value} {ms : List Mx} {cs : List Rw} {ss : List Sm} {m : Nat} {x' : Sm} {p : Nat × Nat} (h1 : p ≠ (3, m)) (h0 : p ≠ (0, 2)) : gateE vm vc vs ms cs (ss.set m x') p = gateE vm vc vs ms cs ss p := by
  obtain ⟨a, i⟩ := p
  match a with
  | 0 =>
    have hi : i ≠ 2 := fun e => h0 (by rw [e])
    show (if i = 0 then _ else if i = 1 then _ else if i = 2 then _ else _) = (if i = 0 then _ else if i = 1 then _ else if i = 2 then _ else _)
    rw [if_neg hi, if_neg hi]
  | 1 => rfl
  | 2 => rfl
  | 3 =>
    have hi : i ≠ m := fun e => h1 (by rw [e])
    show ((ss.set m x')[i]?).map _ = (ss[i]?).map _
    rw [set_ne hi]
  | n + 4 => rfl

/-- The general step: an array's block turns in one cell, and the row of one of its elements may turn. -/
theorem EnvAt.two {lo : Nat → Prop} {S : Nat → Prop} {w w' : World} {es es' : Env} {a r : Nat × Nat} {E0 E1 E0' E1' : Ent} {g : Nat} (h : EnvAt lo S w es) (hlo : ∀ b, w.heap.size ≤ b → lo b) (hS : ∀ b, S b → b < w.heap.size) (har : a ≠ r)
    (e0 : es a = some E0) (e1 : es r = some E1) (e0' : es' a = some E0') (e1' : es' r = some E1') (hsame : ∀ p, p ≠ r → p ≠ a → es' p = es p) (hg : E0.v.ownBlock = some g) (hv : E0'.v = E0.v)
    (k : Keeps (fun b => b = g ∨ E1.v.ownBlock = some b) w w') (ho0 : Own w' E0'.e E0'.s E0'.v E0'.n E0'.xs) (ho1 : Own w' E1'.e E1'.s E1'.v E1'.n E1'.xs) (hf : ∀ b, E1'.v.ownBlock = some b → E1.v.ownBlock = some b ∨ w.heap.size ≤ b) : EnvAt lo S w' es' := by
  have hgw := h.lt e0 hg
  refine h.turn (fun i => i = r ∨ i = a) hlo hS ?_ ?_ ?_ ?_
  · refine k.mono (fun b _ e => ?_)
    rcases e with e | e
    · exact ⟨a, E0, .inr rfl, e0, by rw [e]; exact hg⟩
    · exact ⟨r, E1, .inl rfl, e1, e⟩
  · intro i hI
    exact hsame i (fun e => hI (.inl e)) (fun e => hI (.inr e))
  · rintro i y (rfl | rfl) hy
    · rw [e1'] at hy
      cases hy
      refine ⟨ho1, fun b hb => ?_⟩
      rcases hf b hb with h1 | h1
      · exact .inl ⟨E1, e1, h1⟩
      · exact .inr h1
    · rw [e0'] at hy
      cases hy
      exact ⟨ho0, fun b hb => .inl ⟨E0, e0, by rw [← hv]; exact hb⟩⟩
  · rintro i j y z b (rfl | rfl) (rfl | rfl) hy hz hyb hzb hwb
    · rfl
    · rw [e0'] at hz
      cases hz
      rw [hv, hg] at hzb
      cases hzb
      omega
    · rw [e0'] at hy
      cases hy
      rw [hv, hg] at hyb
      cases hyb
      omega
    · rfl

theorem GAt.rowM {w0 : Base} {w w' : World} {G g cap : Nat} {vm vc vs : Value} {ms : List Mx} {cs : List Rw} {ss : List Sm} {m : Nat} {x : Mx} {q' : List Wt} (h : GAt w0 G vm vc vs ms cs ss w) (hx : ms[m]? = some x) (hv : vm = .slice (some ⟨g, 0, none⟩) ms.length cap)
    (hr : RowPost w g (m * 3 + 0) x.v q' w') : ∃ v', GAt w0 G vm vc vs (ms.set m { x with v := v', q := q' }) cs ss w' := by
  obtain ⟨v', ho, k, hf, hb⟩ := hr
  refine ⟨v', ?_⟩
  have e0 : gateE vm vc vs ms cs ss (0, 0) = some ⟨vm, 80, 3, ms.length, ms.flatMap encM⟩ := rfl
  have e1 : gateE vm vc vs ms cs ss (1, m) = some (rowE x.v x.q) := by show (ms[m]?).map _ = _; rw [hx]; rfl
  have hg : (vm).ownBlock = some g := by rw [hv]; rfl
  have hgG : g ≠ G := fun e => (h.env.lw (0, 0) _ g e0 hg).2 e
  have hGv : x.v.ownBlock ≠ some G := fun e => (h.env.lw (1, m) _ G e1 e).2 rfl
  have hown := h.om
  rw [hv] at hown
  have hs := own_set_block (o := (m * 3 + 0)) (u := v') hown hb
  have hfl : (ms.flatMap encM).set (m * 3 + 0) v' = (ms.set m { x with v := v', q := q' }).flatMap encM := flat_set encM 3 encM_len x { x with v := v', q := q' } v' 0 (by decide) rfl ms m hx
  refine ⟨(k.block _ (lt_of_block h.head) (fun e => by
      rcases e with e | e
      · exact hgG e.symm
      · exact hGv e)).trans h.head, h.env.two (a := (0, 0)) (r := (1, m)) (E0' := ⟨vm, 80, 3, (ms.set m { x with v := v', q := q' }).length, (ms.set m { x with v := v', q := q' }).flatMap encM⟩) (E1' := rowE v' q') h.above (fun b e => by rw [e]; exact lt_of_block h.head) (by simp) e0 e1 rfl
        (by show ((ms.set m _)[m]?).map _ = _; rw [set_at hx]; rfl) (fun p hp hp0 => gateE_m hp hp0) hg rfl k ?_ ho hf, h.lG, ?_, ?_, ?_, ?_⟩
  · show Own w' 80 3 vm (ms.set m _).length ((ms.set m _).flatMap encM)
    rw [← hfl, List.length_set, hv]
    exact hs
  · refine h.kp.trans k (fun j hj e => ?_)
    rcases e with e | e
    · subst e
      exact (h.env.lw (0, 0) _ _ e0 hg).1.resolve_right (by omega)
    · exact (h.env.lw (1, m) _ j e1 e).1.resolve_right (by omega)
  · first | exact h.lm | (rw [List.length_set]; exact h.lm)
  · first | exact h.lc | (rw [List.length_set]; exact h.lc)
  · first | exact h.ls | (rw [List.length_set]; exact h.ls)
theorem GAt.rowC {w0 : Base} {w w' : World} {G g cap : Nat} {vm vc vs : Value} {ms : List Mx} {cs : List Rw} {ss : List Sm} {m : Nat} {x : Rw} {q' : List Wt} (h : GAt w0 G vm vc vs ms cs ss w) (hx : cs[m]? = some x) (hv : vc = .slice (some ⟨g, 0, none⟩) cs.length cap)
    (hr : RowPost w g (m * 1 + 0) x.v q' w') : ∃ v', GAt w0 G vm vc vs ms (cs.set m { x with v := v', q := q' }) ss w' := by
  obtain ⟨v', ho, k, hf, hb⟩ := hr
  refine ⟨v', ?_⟩
  have e0 : gateE vm vc vs ms cs ss (0, 1) = some ⟨vc, 66, 1, cs.length, cs.flatMap encR⟩ := rfl
  have e1 : gateE vm vc vs ms cs ss (2, m) = some (rowE x.v x.q) := by show (cs[m]?).map _ = _; rw [hx]; rfl
  have hg : (vc).ownBlock = some g := by rw [hv]; rfl
  have hgG : g ≠ G := fun e => (h.env.lw (0, 1) _ g e0 hg).2 e
  have hGv : x.v.ownBlock ≠ some G := fun e => (h.env.lw (2, m) _ G e1 e).2 rfl
  have hown := h.oc
  rw [hv] at hown
  have hs := own_set_block (o := (m * 1 + 0)) (u := v') hown hb
  have hfl : (cs.flatMap encR).set (m * 1 + 0) v' = (cs.set m { x with v := v', q := q' }).flatMap encR := flat_set encR 1 encR_len x { x with v := v', q := q' } v' 0 (by decide) rfl cs m hx
  refine ⟨(k.block _ (lt_of_block h.head) (fun e => by
      rcases e with e | e
      · exact hgG e.symm
      · exact hGv e)).trans h.head, h.env.two (a := (0, 1)) (r := (2, m)) (E0' := ⟨vc, 66, 1, (cs.set m { x with v := v', q := q' }).length, (cs.set m { x with v := v', q := q' }).flatMap encR⟩) (E1' := rowE v' q') h.above (fun b e => by rw [e]; exact lt_of_block h.head) (by simp) e0 e1 rfl
        (by show ((cs.set m _)[m]?).map _ = _; rw [set_at hx]; rfl) (fun p hp hp0 => gateE_c hp hp0) hg rfl k ?_ ho hf, h.lG, ?_, ?_, ?_, ?_⟩
  · show Own w' 66 1 vc (cs.set m _).length ((cs.set m _).flatMap encR)
    rw [← hfl, List.length_set, hv]
    exact hs
  · refine h.kp.trans k (fun j hj e => ?_)
    rcases e with e | e
    · subst e
      exact (h.env.lw (0, 1) _ _ e0 hg).1.resolve_right (by omega)
    · exact (h.env.lw (2, m) _ j e1 e).1.resolve_right (by omega)
  · first | exact h.lm | (rw [List.length_set]; exact h.lm)
  · first | exact h.lc | (rw [List.length_set]; exact h.lc)
  · first | exact h.ls | (rw [List.length_set]; exact h.ls)
theorem GAt.rowS {w0 : Base} {w w' : World} {G g cap : Nat} {vm vc vs : Value} {ms : List Mx} {cs : List Rw} {ss : List Sm} {m : Nat} {x : Sm} {q' : List Wt} (h : GAt w0 G vm vc vs ms cs ss w) (hx : ss[m]? = some x) (hv : vs = .slice (some ⟨g, 0, none⟩) ss.length cap)
    (hr : RowPost w g (m * 2 + 0) x.v q' w') : ∃ v', GAt w0 G vm vc vs ms cs (ss.set m { x with v := v', q := q' }) w' := by
  obtain ⟨v', ho, k, hf, hb⟩ := hr
  refine ⟨v', ?_⟩
  have e0 : gateE vm vc vs ms cs ss (0, 2) = some ⟨vs, 68, 2, ss.length, ss.flatMap encS⟩ := rfl
  have e1 : gateE vm vc vs ms cs ss (3, m) = some (rowE x.v x.q) := by show (ss[m]?).map _ = _; rw [hx]; rfl
  have hg : (vs).ownBlock = some g := by rw [hv]; rfl
  have hgG : g ≠ G := fun e => (h.env.lw (0, 2) _ g e0 hg).2 e
  have hGv : x.v.ownBlock ≠ some G := fun e => (h.env.lw (3, m) _ G e1 e).2 rfl
  have hown := h.os
  rw [hv] at hown
  have hs := own_set_block (o := (m * 2 + 0)) (u := v') hown hb
  have hfl : (ss.flatMap encS).set (m * 2 + 0) v' = (ss.set m { x with v := v', q := q' }).flatMap encS := flat_set encS 2 encS_len x { x with v := v', q := q' } v' 0 (by decide) rfl ss m hx
  refine ⟨(k.block _ (lt_of_block h.head) (fun e => by
      rcases e with e | e
      · exact hgG e.symm
      · exact hGv e)).trans h.head, h.env.two (a := (0, 2)) (r := (3, m)) (E0' := ⟨vs, 68, 2, (ss.set m { x with v := v', q := q' }).length, (ss.set m { x with v := v', q := q' }).flatMap encS⟩) (E1' := rowE v' q') h.above (fun b e => by rw [e]; exact lt_of_block h.head) (by simp) e0 e1 rfl
        (by show ((ss.set m _)[m]?).map _ = _; rw [set_at hx]; rfl) (fun p hp hp0 => gateE_s hp hp0) hg rfl k ?_ ho hf, h.lG, ?_, ?_, ?_, ?_⟩
  · show Own w' 68 2 vs (ss.set m _).length ((ss.set m _).flatMap encS)
    rw [← hfl, List.length_set, hv]
    exact hs
  · refine h.kp.trans k (fun j hj e => ?_)
    rcases e with e | e
    · subst e
      exact (h.env.lw (0, 2) _ _ e0 hg).1.resolve_right (by omega)
    · exact (h.env.lw (3, m) _ j e1 e).1.resolve_right (by omega)
  · first | exact h.lm | (rw [List.length_set]; exact h.lm)
  · first | exact h.lc | (rw [List.length_set]; exact h.lc)
  · first | exact h.ls | (rw [List.length_set]; exact h.ls)

theorem GAt.cellM {w0 : Base} {w : World} {G g cap : Nat} {vm vc vs : Value} {ms : List Mx} {cs : List Rw} {ss : List Sm} {m j : Nat} {x x' : Mx} {u : Value} (h : GAt w0 G vm vc vs ms cs ss w) (hx : ms[m]? = some x) (hv : vm = .slice (some ⟨g, 0, none⟩) ms.length cap)
    (hj : j < 3) (he : encM x' = (encM x).set j u) (hxv : x'.v = x.v) (hxq : x'.q = x.q) : GAt w0 G vm vc vs (ms.set m x') cs ss (w.setCell ⟨g, m * 3 + j, none⟩ u) := by
  have e0 : gateE vm vc vs ms cs ss (0, 0) = some ⟨vm, 80, 3, ms.length, ms.flatMap encM⟩ := rfl
  have e1 : gateE vm vc vs ms cs ss (1, m) = some (rowE x.v x.q) := by show (ms[m]?).map _ = _; rw [hx]; rfl
  have hg : (vm).ownBlock = some g := by rw [hv]; rfl
  have hgG : g ≠ G := fun e => (h.env.lw (0, 0) _ g e0 hg).2 e
  have hgx : x.v.ownBlock ≠ some g := fun e => absurd (h.env.sep (1, m) (0, 0) _ _ g e1 e0 e hg) (by simp)
  have k : Keeps (fun b => b = g) w (w.setCell ⟨g, m * 3 + j, none⟩ u) := Keeps.set (S := fun b => b = g) (Keeps.refl _ _) (.inl rfl) _
  have hown := h.om
  rw [hv] at hown
  have hs := own_set_block (w' := w.setCell ⟨g, m * 3 + j, none⟩ u) (o := m * 3 + j) (u := u) hown (fun cur t hc => block_set hc u)
  have hfl : (ms.flatMap encM).set (m * 3 + j) u = (ms.set m x').flatMap encM := flat_set encM 3 encM_len x x' u j hj he ms m hx
  refine ⟨(k.block _ (lt_of_block h.head) (fun e => hgG e.symm)).trans h.head, h.env.two (a := (0, 0)) (r := (1, m)) (E0' := ⟨vm, 80, 3, (ms.set m x').length, (ms.set m x').flatMap encM⟩) (E1' := rowE x.v x.q) h.above (fun b e => by rw [e]; exact lt_of_block h.head) (by simp) e0 e1 rfl
        (by show ((ms.set m _)[m]?).map _ = _; rw [set_at hx]; show some (rowE x'.v x'.q) = _; rw [hxv, hxq]) (fun p hp hp0 => gateE_m hp hp0) hg rfl (k.mono (fun _ _ e => .inl e)) ?_ ((h.env.own _ _ e1).keeps k (fun b hb e => hgx (by rw [← e]; exact hb))) (fun b hb => .inl hb), h.lG, ?_, ?_, ?_, ?_⟩
  · show Own _ 80 3 vm (ms.set m _).length ((ms.set m _).flatMap encM)
    rw [← hfl, List.length_set, hv]
    exact hs
  · refine h.kp.trans k (fun j hj e => ?_)
    subst e
    exact (h.env.lw (0, 0) _ _ e0 hg).1.resolve_right (by omega)
  · first | exact h.lm | (rw [List.length_set]; exact h.lm)
  · first | exact h.lc | (rw [List.length_set]; exact h.lc)
  · first | exact h.ls | (rw [List.length_set]; exact h.ls)
theorem GAt.cellS {w0 : Base} {w : World} {G g cap : Nat} {vm vc vs : Value} {ms : List Mx} {cs : List Rw} {ss : List Sm} {m j : Nat} {x x' : Sm} {u : Value} (h : GAt w0 G vm vc vs ms cs ss w) (hx : ss[m]? = some x) (hv : vs = .slice (some ⟨g, 0, none⟩) ss.length cap)
    (hj : j < 2) (he : encS x' = (encS x).set j u) (hxv : x'.v = x.v) (hxq : x'.q = x.q) : GAt w0 G vm vc vs ms cs (ss.set m x') (w.setCell ⟨g, m * 2 + j, none⟩ u) := by
  have e0 : gateE vm vc vs ms cs ss (0, 2) = some ⟨vs, 68, 2, ss.length, ss.flatMap encS⟩ := rfl
  have e1 : gateE vm vc vs ms cs ss (3, m) = some (rowE x.v x.q) := by show (ss[m]?).map _ = _; rw [hx]; rfl
  have hg : (vs).ownBlock = some g := by rw [hv]; rfl
  have hgG : g ≠ G := fun e => (h.env.lw (0, 2) _ g e0 hg).2 e
  have hgx : x.v.ownBlock ≠ some g := fun e => absurd (h.env.sep (3, m) (0, 2) _ _ g e1 e0 e hg) (by simp)
  have k : Keeps (fun b => b = g) w (w.setCell ⟨g, m * 2 + j, none⟩ u) := Keeps.set (S := fun b => b = g) (Keeps.refl _ _) (.inl rfl) _
  have hown := h.os
  rw [hv] at hown
  have hs := own_set_block (w' := w.setCell ⟨g, m * 2 + j, none⟩ u) (o := m * 2 + j) (u := u) hown (fun cur t hc => block_set hc u)
  have hfl : (ss.flatMap encS).set (m * 2 + j) u = (ss.set m x').flatMap encS := flat_set encS 2 encS_len x x' u j hj he ss m hx
  refine ⟨(k.block _ (lt_of_block h.head) (fun e => hgG e.symm)).trans h.head, h.env.two (a := (0, 2)) (r := (3, m)) (E0' := ⟨vs, 68, 2, (ss.set m x').length, (ss.set m x').flatMap encS⟩) (E1' := rowE x.v x.q) h.above (fun b e => by rw [e]; exact lt_of_block h.head) (by simp) e0 e1 rfl
        (by show ((ss.set m _)[m]?).map _ = _; rw [set_at hx]; show some (rowE x'.v x'.q) = _; rw [hxv, hxq]) (fun p hp hp0 => gateE_s hp hp0) hg rfl (k.mono (fun _ _ e => .inl e)) ?_ ((h.env.own _ _ e1).keeps k (fun b hb e => hgx (by rw [← e]; exact hb))) (fun b hb => .inl hb), h.lG, ?_, ?_, ?_, ?_⟩
  · show Own _ 68 2 vs (ss.set m _).length ((ss.set m _).flatMap encS)
    rw [← hfl, List.length_set, hv]
    exact hs
  · refine h.kp.trans k (fun j hj e => ?_)
    subst e
    exact (h.env.lw (0, 2) _ _ e0 hg).1.resolve_right (by omega)
  · first | exact h.lm | (rw [List.length_set]; exact h.lm)
  · first | exact h.lc | (rw [List.length_set]; exact h.lc)
  · first | exact h.ls | (rw [List.length_set]; exact h.ls)

end Gt
end Go.Proofs.Ytlgolofcpokndaa
