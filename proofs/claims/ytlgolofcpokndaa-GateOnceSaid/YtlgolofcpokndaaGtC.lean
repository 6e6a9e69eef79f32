/- Package gate: what gates are in memory; one of them by its number. -/
import Derived.Test.YtlgolofcpokndaaGtB
import Derived.BigQuiet
import Derived.Deep.QuietTactic
namespace Go.Proofs.Ytlgolofcpokndaa
open Go.RowKit

namespace Gt

/-- Some rows turn, or lie anew; all others stay. -/
theorem EnvAt.turn {lo : Nat → Prop} {S : Nat → Prop} {w w' : World} {es es' : Env} (h : EnvAt lo S w es) (I : Nat × Nat → Prop) (hlo : ∀ b, w.heap.size ≤ b → lo b) (hS : ∀ b, S b → b < w.heap.size)
    (k : Keeps (fun b => ∃ i x, I i ∧ es i = some x ∧ x.v.ownBlock = some b) w w') (hsame : ∀ i, ¬ I i → es' i = es i)
    (hnew : ∀ i y, I i → es' i = some y → Own w' y.e y.s y.v y.n y.xs ∧ ∀ b, y.v.ownBlock = some b → (∃ x, es i = some x ∧ x.v.ownBlock = some b) ∨ w.heap.size ≤ b)
    (hfresh : ∀ i j y z b, I i → I j → es' i = some y → es' j = some z → y.v.ownBlock = some b → z.v.ownBlock = some b → w.heap.size ≤ b → i = j) : EnvAt lo S w' es' := by
  refine ⟨fun i y hi => ?_, fun i y b hi hb => ?_, fun i j y z b hi hj hb hb' => ?_⟩
  · by_cases hI : I i
    · exact (hnew i y hI hi).1
    · rw [hsame i hI] at hi
      exact (h.own i y hi).keeps k (fun b hb e => by
        obtain ⟨j, x, hj, hx, hxb⟩ := e
        have := h.sep i j y x b hi hx hb hxb
        subst this
        exact hI hj)
  · by_cases hI : I i
    · rcases (hnew i y hI hi).2 b hb with ⟨x, hx, hxb⟩ | h1
      · exact h.lw i x b hx hxb
      · exact ⟨hlo b h1, fun e => by have := hS b e; omega⟩
    · rw [hsame i hI] at hi
      exact h.lw i y b hi hb
  · have old : ∀ i y, es' i = some y → y.v.ownBlock = some b → b < w.heap.size → ∃ x, es i = some x ∧ x.v.ownBlock = some b := fun i y hi hb hlt => by
      by_cases hI : I i
      · rcases (hnew i y hI hi).2 b hb with h1 | h1
        · exact h1
        · omega
      · rw [hsame i hI] at hi
        exact ⟨y, hi, hb⟩
    by_cases hlt : b < w.heap.size
    · obtain ⟨x, hx, hxb⟩ := old i y hi hb hlt
      obtain ⟨x', hx', hxb'⟩ := old j z hj hb' hlt
      exact h.sep i j x x' b hx hx' hxb hxb'
    · by_cases hI : I i
      · by_cases hJ : I j
        · exact hfresh i j y z b hI hJ hi hj hb hb' (by omega)
        · rw [hsame j hJ] at hj
          have := h.lt hj hb'
          omega
      · rw [hsame i hI] at hi
        have := h.lt hi hb
        omega

theorem own_set_block {w w' : World} {e : TypeId} {s n g cap o : Nat} {u : Value} {xs : List Value} (h : Own w e s (.slice (some ⟨g, 0, none⟩) n cap) n xs) (hb : ∀ cur t, w.heap[g]? = some (.cells cur t (0, 0)) → w'.heap[g]? = some (.cells (cur.setIfInBounds o u) t (0, 0))) :
    Own w' e s (.slice (some ⟨g, 0, none⟩) n cap) n (xs.set o u) := by
  obtain ⟨h1, h2⟩ := h
  refine ⟨by rw [List.length_set]; exact h1, ?_⟩
  rcases h2 with ⟨h0, _⟩ | ⟨g', cap', cur, hv, hb0, hg, hn, hc, hs, ht⟩
  · cases h0
  · cases hv
    refine .inr ⟨g, cap, cur.setIfInBounds o u, rfl, hb0, hb _ _ hg, hn, hc, by simpa using hs, ?_⟩
    rw [Array.toList_setIfInBounds, List.take_set, ht]

structure Mx where
  v : Value
  q : List Wt
  held : Bool
  own : Int
structure Rw where
  v : Value
  q : List Wt
structure Sm where
  v : Value
  q : List Wt
  cnt : Int

def encM (x : Mx) : List Value := [x.v, .bool x.held, .int .i64 x.own]
def encR (x : Rw) : List Value := [x.v]
def encS (x : Sm) : List Value := [x.v, .int .i64 x.cnt]
theorem encM_len (x : Mx) : (encM x).length = 3 := rfl
theorem encR_len (x : Rw) : (encR x).length = 1 := rfl
theorem encS_len (x : Sm) : (encS x).length = 2 := rfl

def rowE (v : Value) (q : List Wt) : Ent := ⟨v, 76, 2, q.length, q.flatMap encW⟩

/-- All rows of the gates, by name. -/
def gateE (vm vc vs : Value) (ms : List Mx) (cs : List Rw) (ss : List Sm) : Env := fun p => match p.1 with
  | 0 => if p.2 = 0 then some ⟨vm, 80, 3, ms.length, ms.flatMap encM⟩ else if p.2 = 1 then some ⟨vc, 66, 1, cs.length, cs.flatMap encR⟩ else if p.2 = 2 then some ⟨vs, 68, 2, ss.length, ss.flatMap encS⟩ else none
  | 1 => (ms[p.2]?).map fun x => rowE x.v x.q
  | 2 => (cs[p.2]?).map fun x => rowE x.v x.q
  | 3 => (ss[p.2]?).map fun x => rowE x.v x.q
  | _ => none

/-- Where something began: the world, and the old blocks that it may turn. -/
structure Base where
  w : World
  K : Nat → Prop

def Base.ok (w0 : Base) (b : Nat) : Prop := w0.K b ∨ w0.w.heap.size ≤ b

/-- Gates of the call's own, begun at world w0. -/
structure GAt (w0 : Base) (G : Nat) (vm vc vs : Value) (ms : List Mx) (cs : List Rw) (ss : List Sm) (w : World) : Prop where
  head : w.heap[G]? = some (.cells #[vm, vc, vs] 63 (0, 0))
  env : EnvAt w0.ok (fun b => b = G) w (gateE vm vc vs ms cs ss)
  lG : w0.ok G
  kp : Keeps w0.K w0.w w
  lm : ms.length ≤ 4
  lc : cs.length ≤ 4
  ls : ss.length ≤ 4

theorem GAt.above {w0 : Base} {G : Nat} {vm vc vs : Value} {ms : List Mx} {cs : List Rw} {ss : List Sm} {w : World} (h : GAt w0 G vm vc vs ms cs ss w) : ∀ b, w.heap.size ≤ b → w0.ok b := fun _ hb => .inr (Nat.le_trans h.kp.size hb)

theorem GAt.om {w0 : Base} {w : World} {G : Nat} {vm vc vs : Value} {ms : List Mx} {cs : List Rw} {ss : List Sm} (h : GAt w0 G vm vc vs ms cs ss w) : Own w 80 3 vm ms.length (ms.flatMap encM) := h.env.own (0, 0) _ rfl
theorem GAt.oc {w0 : Base} {w : World} {G : Nat} {vm vc vs : Value} {ms : List Mx} {cs : List Rw} {ss : List Sm} (h : GAt w0 G vm vc vs ms cs ss w) : Own w 66 1 vc cs.length (cs.flatMap encR) := h.env.own (0, 1) _ rfl
theorem GAt.os {w0 : Base} {w : World} {G : Nat} {vm vc vs : Value} {ms : List Mx} {cs : List Rw} {ss : List Sm} (h : GAt w0 G vm vc vs ms cs ss w) : Own w 68 2 vs ss.length (ss.flatMap encS) := h.env.own (0, 2) _ rfl
theorem GAt.rm {w0 : Base} {w : World} {G : Nat} {vm vc vs : Value} {ms : List Mx} {cs : List Rw} {ss : List Sm} (h : GAt w0 G vm vc vs ms cs ss w) {i : Nat} {x : Mx} (hx : ms[i]? = some x) : Own w 76 2 x.v x.q.length (x.q.flatMap encW) :=
  h.env.own (1, i) (rowE x.v x.q) (by show (ms[i]?).map _ = _; rw [hx]; rfl)
theorem GAt.rc {w0 : Base} {w : World} {G : Nat} {vm vc vs : Value} {ms : List Mx} {cs : List Rw} {ss : List Sm} (h : GAt w0 G vm vc vs ms cs ss w) {i : Nat} {x : Rw} (hx : cs[i]? = some x) : Own w 76 2 x.v x.q.length (x.q.flatMap encW) :=
  h.env.own (2, i) (rowE x.v x.q) (by show (cs[i]?).map _ = _; rw [hx]; rfl)
theorem GAt.rs {w0 : Base} {w : World} {G : Nat} {vm vc vs : Value} {ms : List Mx} {cs : List Rw} {ss : List Sm} (h : GAt w0 G vm vc vs ms cs ss w) {i : Nat} {x : Sm} (hx : ss[i]? = some x) : Own w 76 2 x.v x.q.length (x.q.flatMap encW) :=
  h.env.own (3, i) (rowE x.v x.q) (by show (ss[i]?).map _ = _; rw [hx]; rfl)

theorem GAt.keeps {w0 : Base} {w w' : World} {G : Nat} {vm vc vs : Value} {ms : List Mx} {cs : List Rw} {ss : List Sm} (h : GAt w0 G vm vc vs ms cs ss w) (k : Keeps NoBlock w w') : GAt w0 G vm vc vs ms cs ss w' :=
  ⟨(k.block _ (lt_of_block h.head) (fun e => e)).trans h.head, h.env.keeps k (fun _ e => e.elim), h.lG, h.kp.trans k (fun _ _ e => e.elim), h.lm, h.lc, h.ls⟩

theorem own_len {w : World} {e : TypeId} {s n : Nat} {v : Value} {xs : List Value} (h : Own w e s v n xs) : ∃ A cap, v = .slice A n cap ∧ (0 < n → ∃ g, A = some ⟨g, 0, none⟩) := by
  rcases Own.form h with ⟨rfl, rfl⟩ | ⟨g, cap, rfl, _⟩
  · exact ⟨none, 0, rfl, fun h => absurd h (by omega)⟩
  · exact ⟨_, _, rfl, fun _ => ⟨g, rfl⟩⟩

theorem getM_nil (i : Int) (w : World) : Calls Try.prog 24 #[.pointer none, .int .i64 i] w fun e w' => e = .returned (.pointer none) ∧ w = w' := by
  go_enter Try.func24, Try.ntmps24
  go_wp2_with fail
  go_ret
  exact ⟨rfl, rfl⟩

theorem getM_out {w : World} {G n : Nat} {v : Value} (i : Int) (hc : w.cell? ⟨G, 0, none⟩ = some v) (hv : ∃ A cap, v = .slice A n cap) (hi : i < 0 ∨ (n : Int) ≤ i) : Calls Try.prog 24 #[.pointer (some ⟨G, 0, none⟩), .int .i64 i] w fun e w' => e = .returned (.pointer none) ∧ w = w' := by
  obtain ⟨A, cap, rfl⟩ := hv
  rcases hi with hi | hi
  · go_enter Try.func24, Try.ntmps24
    go_wp2_with fail
    go_ret
    exact ⟨rfl, rfl⟩
  · have hi0 : (0 : Int) ≤ i := by omega
    go_enter Try.func24, Try.ntmps24
    go_wp2_with fail
    go_ret
    exact ⟨rfl, rfl⟩

theorem getM_in {w : World} {G n g cap : Nat} (i : Nat) (hc : w.cell? ⟨G, 0, none⟩ = some (.slice (some ⟨g, 0, none⟩) n cap)) (hi : i < n) : Calls Try.prog 24 #[.pointer (some ⟨G, 0, none⟩), .int .i64 i] w fun e w' => e = .returned (.pointer (some ⟨g, i * 3, none⟩)) ∧ w = w' := by
  have hi0 : (0 : Int) ≤ (i : Int) := by omega
  have hin : (i : Int) < (n : Int) := by omega
  go_enter Try.func24, Try.ntmps24
  go_wp2_with fail
  go_ret
  exact ⟨rfl, rfl⟩
theorem getC_nil (i : Int) (w : World) : Calls Try.prog 29 #[.pointer none, .int .i64 i] w fun e w' => e = .returned (.pointer none) ∧ w = w' := by
  go_enter Try.func29, Try.ntmps29
  go_wp2_with fail
  go_ret
  exact ⟨rfl, rfl⟩

theorem getC_out {w : World} {G n : Nat} {v : Value} (i : Int) (hc : w.cell? ⟨G, 1, none⟩ = some v) (hv : ∃ A cap, v = .slice A n cap) (hi : i < 0 ∨ (n : Int) ≤ i) : Calls Try.prog 29 #[.pointer (some ⟨G, 0, none⟩), .int .i64 i] w fun e w' => e = .returned (.pointer none) ∧ w = w' := by
  obtain ⟨A, cap, rfl⟩ := hv
  rcases hi with hi | hi
  · go_enter Try.func29, Try.ntmps29
    go_wp2_with fail
    go_ret
    exact ⟨rfl, rfl⟩
  · have hi0 : (0 : Int) ≤ i := by omega
    go_enter Try.func29, Try.ntmps29
    go_wp2_with fail
    go_ret
    exact ⟨rfl, rfl⟩

theorem getC_in {w : World} {G n g cap : Nat} (i : Nat) (hc : w.cell? ⟨G, 1, none⟩ = some (.slice (some ⟨g, 0, none⟩) n cap)) (hi : i < n) : Calls Try.prog 29 #[.pointer (some ⟨G, 0, none⟩), .int .i64 i] w fun e w' => e = .returned (.pointer (some ⟨g, i, none⟩)) ∧ w = w' := by
  have hi0 : (0 : Int) ≤ (i : Int) := by omega
  have hin : (i : Int) < (n : Int) := by omega
  go_enter Try.func29, Try.ntmps29
  go_wp2_with fail
  go_ret
  exact ⟨rfl, rfl⟩
theorem getS_nil (i : Int) (w : World) : Calls Try.prog 32 #[.pointer none, .int .i64 i] w fun e w' => e = .returned (.pointer none) ∧ w = w' := by
  go_enter Try.func32, Try.ntmps32
  go_wp2_with fail
  go_ret
  exact ⟨rfl, rfl⟩

theorem getS_out {w : World} {G n : Nat} {v : Value} (i : Int) (hc : w.cell? ⟨G, 2, none⟩ = some v) (hv : ∃ A cap, v = .slice A n cap) (hi : i < 0 ∨ (n : Int) ≤ i) : Calls Try.prog 32 #[.pointer (some ⟨G, 0, none⟩), .int .i64 i] w fun e w' => e = .returned (.pointer none) ∧ w = w' := by
  obtain ⟨A, cap, rfl⟩ := hv
  rcases hi with hi | hi
  · go_enter Try.func32, Try.ntmps32
    go_wp2_with fail
    go_ret
    exact ⟨rfl, rfl⟩
  · have hi0 : (0 : Int) ≤ i := by omega
    go_enter Try.func32, Try.ntmps32
    go_wp2_with fail
    go_ret
    exact ⟨rfl, rfl⟩

theorem getS_in {w : World} {G n g cap : Nat} (i : Nat) (hc : w.cell? ⟨G, 2, none⟩ = some (.slice (some ⟨g, 0, none⟩) n cap)) (hi : i < n) : Calls Try.prog 32 #[.pointer (some ⟨G, 0, none⟩), .int .i64 i] w fun e w' => e = .returned (.pointer (some ⟨g, i * 2, none⟩)) ∧ w = w' := by
  have hi0 : (0 : Int) ≤ (i : Int) := by omega
  have hin : (i : Int) < (n : Int) := by omega
  go_enter Try.func32, Try.ntmps32
  go_wp2_with fail
  go_ret
  exact ⟨rfl, rfl⟩

theorem is_calls {w : World} {g o : Nat} {held : Bool} {own : Int} (who : Int) (h1 : w.cell? ⟨g, o + 1, none⟩ = some (.bool held)) (h2 : w.cell? ⟨g, o + 2, none⟩ = some (.int .i64 own)) :
    Calls Try.prog 26 #[.pointer (some ⟨g, o, none⟩), .int .i64 who] w fun e w' => e = .returned (.bool (held && (own == who))) ∧ w = w' := by
  cases held with
  | true =>
    go_enter Try.func26, Try.ntmps26
    go_wp2_with fail
    go_ret
    exact ⟨rfl, rfl⟩
  | false =>
    go_enter Try.func26, Try.ntmps26
    go_wp2_with fail
    go_ret
    exact ⟨rfl, rfl⟩

end Gt
end Go.Proofs.Ytlgolofcpokndaa
