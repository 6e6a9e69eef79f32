/- Package frame: registers and words of memory. -/
import Derived.Test.YtlnoejmckpimnaaFrA
import Derived.Test.YtlnoejmckpimnaaLst
import Derived.Defers
import Derived.Recover
import Derived.RegionCalls
import Derived.WalkSmall
namespace Go.Proofs.Ytlnoejmckpimnaa
open Go.RowKit Ieee
namespace Fr

structure Frm where
  F : Int
  P : Int
  rs : List Int

def rv (x : Int) : Value := .int .u64 x
def dC (f : Frm) (v : Value) : Array Value := (.int .i64 f.F :: .int .i64 f.P :: (f.rs.map rv ++ [v])).toArray
def mC (ms : List Int) : Array Value := (ms.map rv).toArray

/-- An instruction that is being done: a frame, and a memory of its own. -/
structure DoAt (w : World) (d g : Nat) (f : Frm) (ms : List Int) : Prop where
  head : w.heap[d]? = some (.cells (dC f (.slice (some ⟨g, 0, none⟩) ms.length ms.length)) 74 (0, 0))
  mem : w.heap[g]? = some (.cells (mC ms) 26 (0, 0))
  ne : d ≠ g
  rl : f.rs.length = 8
  ml : ms.length ≤ 1000000

theorem dC_0 (f : Frm) (v : Value) : (dC f v)[0]? = some (.int .i64 f.F) := by unfold dC; simp
theorem dC_1 (f : Frm) (v : Value) : (dC f v)[1]? = some (.int .i64 f.P) := by unfold dC; simp
theorem dC_r {f : Frm} {v : Value} {k : Nat} {x : Int} (h : f.rs[k]? = some x) : (dC f v)[2 + k]? = some (rv x) := by
  have hk := (List.getElem?_eq_some_iff.1 h).1
  unfold dC
  rw [List.getElem?_toArray, show 2 + k = k + 1 + 1 by omega, List.getElem?_cons_succ, List.getElem?_cons_succ, List.getElem?_append_left (by rw [List.length_map]; exact hk), List.getElem?_map, h]; rfl
theorem dC_m {f : Frm} {v : Value} (h : f.rs.length = 8) : (dC f v)[10]? = some v := by
  unfold dC
  rw [List.getElem?_toArray, List.getElem?_cons_succ, List.getElem?_cons_succ, List.getElem?_append_right (by rw [List.length_map, h]; omega), List.length_map, h]; rfl
theorem dC_pc (f : Frm) (v : Value) (n : Int) : (dC f v).setIfInBounds 1 (.int .i64 n) = dC { f with P := n } v := by
  unfold dC; simp
theorem dC_reg {f : Frm} {v : Value} {k : Nat} (x : Int) (hk : k < f.rs.length) : (dC f v).setIfInBounds (2 + k) (rv x) = dC { f with rs := f.rs.set k x } v := by
  unfold dC
  rw [List.setIfInBounds_toArray, show 2 + k = k + 1 + 1 by omega, List.set_cons_succ, List.set_cons_succ, List.set_append_left _ _ (by rw [List.length_map]; exact hk), List.map_set]
theorem mC_at {ms : List Int} {k : Nat} {x : Int} (h : ms[k]? = some x) : (mC ms)[k]? = some (rv x) := by unfold mC; simp [h]
theorem mC_set (ms : List Int) (k : Nat) (x : Int) : (mC ms).setIfInBounds k (rv x) = mC (ms.set k x) := by unfold mC; simp [List.map_set]

abbrev stopE (e : Int) : Ending := .panicked [{ v := .iface 71 (.agg #[.int .i64 e]), recovered := false }]

theorem reg_ok (d k : Nat) (hk : k < 8) (w : World) : Calls Try.prog 58 #[.pointer (some ⟨d, 0, none⟩), .int .i64 k] w fun e w' => e = .returned (.pointer (some ⟨d, 2 + k, none⟩)) ∧ w = w' := by
  go_enter Try.func58, Try.ntmps58
  go_wp2
  go_ret
  exact ⟨rfl, rfl⟩

theorem reg_bad (d : Nat) (n : Int) (hn : n < 0 ∨ 8 ≤ n) (w : World) : Calls Try.prog 58 #[.pointer (some ⟨d, 0, none⟩), .int .i64 n] w fun e w' => e = stopE 8 ∧ w = w' := by
  rcases hn with h | h
  · go_enter Try.func58, Try.ntmps58
    go_wp2
    exact ⟨rfl, rfl, rfl⟩
  · go_enter Try.func58, Try.ntmps58
    go_wp2
    exact ⟨rfl, rfl, rfl⟩

theorem cell_ok (d g n k : Nat) (w : World) (h : w.cell? ⟨d, 10, none⟩ = some (.slice (some ⟨g, 0, none⟩) n n)) (hk : k < n) (hn : n ≤ 1000000) : Calls Try.prog 59 #[.pointer (some ⟨d, 0, none⟩), .int .u64 k] w fun e w' => e = .returned (.pointer (some ⟨g, k, none⟩)) ∧ w = w' := by
  have hw : IntKind.u64.wrap (n : Int) = n := by rw [IntKind.wrap_u64]; omega
  go_enter Try.func59, Try.ntmps59
  go_wp2
  go_ret
  exact ⟨rfl, rfl⟩

theorem cell_bad (d g n k : Nat) (w : World) (h : w.cell? ⟨d, 10, none⟩ = some (.slice (some ⟨g, 0, none⟩) n n)) (hk : n ≤ k) (hn : n ≤ 1000000) : Calls Try.prog 59 #[.pointer (some ⟨d, 0, none⟩), .int .u64 k] w fun e w' => e = stopE 6 ∧ w = w' := by
  have hw : IntKind.u64.wrap (n : Int) = n := by rw [IntKind.wrap_u64]; omega
  go_enter Try.func59, Try.ntmps59
  go_wp2
  exact ⟨rfl, rfl, rfl⟩

def shortB (op : Int) : Bool := decide (op = 2 ∨ op = 14 ∨ op = 15)

theorem short_calls (op : Int) (w : World) : Calls Try.prog 60 #[.int .i64 op] w fun e w' => e = .returned (.bool (shortB op)) ∧ w = w' := by
  have h : op = 2 ∨ op = 14 ∨ op = 15 ∨ (op ≠ 2 ∧ op ≠ 14 ∧ op ≠ 15) := by omega
  rcases h with rfl | rfl | rfl | ⟨h1, h2, h3⟩
  · go_enter Try.func60, Try.ntmps60
    go_wp2
    go_ret
    exact ⟨rfl, rfl⟩
  · go_enter Try.func60, Try.ntmps60
    go_wp2
    go_ret
    exact ⟨rfl, rfl⟩
  · go_enter Try.func60, Try.ntmps60
    go_wp2
    go_ret
    exact ⟨rfl, rfl⟩
  · have q1 : (op == 2) = false := beq_eq_false_iff_ne.2 h1
    have q2 : (op == 14) = false := beq_eq_false_iff_ne.2 h2
    have q3 : (op == 15) = false := beq_eq_false_iff_ne.2 h3
    have hs : Hid (shortB op = false) := by show _ = _; unfold shortB; exact decide_eq_false (by omega)
    clear h1 h2 h3
    go_enter Try.func60, Try.ntmps60
    go_wp2
    go_ret
    exact ⟨by rw [hs.out]; rfl, rfl⟩
end Fr
end Go.Proofs.Ytlnoejmckpimnaa
