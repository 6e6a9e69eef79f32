/- Package inst: what each call comes to. -/
import Derived.Test.YtlnfjjbfdbcgbaaProg
import Derived.Test.YtlnfjjbfdbcgbaaMem
import Derived.KernelRfl
import Derived.Handy
import Derived.Outline
import Derived.BigQuiet
import Derived.Deep.QuietTactic
import Derived.Deep.DeepCutAuto
import Derived.Deep.CutBlock
namespace Go.Proofs.Ytlnfjjbfdbcgbaa
open Go.RowKit

theorem ret_int {k : IntKind} {a b : Int} (h : a = b) : Ending.returned (.int k a) = .returned (.int k b) := by rw [h]
theorem ret_bool {a b : Bool} (h : a = b) : Ending.returned (.bool a) = .returned (.bool b) := by rw [h]

def cls (op : Int) : Int := if 1 ≤ op ∧ op ≤ 19 then 1 else if 20 ≤ op ∧ op ≤ 32 then 2 else if 33 ≤ op ∧ op ≤ 38 then 3 else 0
def seenB (op : Int) : Bool := decide (18 ≤ op ∧ op ≤ 38)

theorem class_calls (op : Int) (w : World) : Calls Try.prog 15 #[.int .i64 op] w fun e w' => e = .returned (.int .i64 (cls op)) ∧ w' = w := by
  have h : (op < 1) ∨ (1 ≤ op ∧ op ≤ 19) ∨ (20 ≤ op ∧ op ≤ 32) ∨ (33 ≤ op ∧ op ≤ 38) ∨ (38 < op) := by omega
  rcases h with h | ⟨h, h'⟩ | ⟨h, h'⟩ | ⟨h, h'⟩ | h
  all_goals
    go_enter Try.func15, Try.ntmps15
    go_wp2
    go_ret
    exact ⟨ret_int (by unfold cls; (repeat' split) <;> omega), rfl⟩

theorem seen_calls (op : Int) (w : World) : Calls Try.prog 16 #[.int .i64 op] w fun e w' => e = .returned (.bool (seenB op)) ∧ w' = w := by
  have h : (op < 18) ∨ (18 ≤ op ∧ op ≤ 38) ∨ (38 < op) := by omega
  rcases h with h | ⟨h, h'⟩ | h
  all_goals
    go_enter Try.func16, Try.ntmps16
    go_wp2
    go_ret
    exact ⟨ret_bool (by unfold seenB; simp; omega), rfl⟩

def regB (n : Int) (is : Bool) : Bool := decide (n = 0) || (is && decide (0 < n) && decide (n < 8))

theorem reg_calls (n : Int) (is : Bool) (w : World) : Calls Try.prog 27 #[.int .i64 n, .bool is] w fun e w' => e = .returned (.bool (regB n is)) ∧ w' = w := by
  have h : (n = 0) ∨ (n < 0) ∨ (0 < n ∧ n < 8) ∨ (8 ≤ n) := by omega
  rcases h with rfl | h | ⟨h, h'⟩ | h <;> cases is
  rotate_left 2
  all_goals first
    | (have hb : (n == 0) = false := by simp; omega
       go_enter Try.func27, Try.ntmps27
       go_wp2
       go_ret
       exact ⟨ret_bool (by unfold regB; rw [show decide (n = 0) = false from decide_eq_false (by omega)]; simp; try omega), rfl⟩)
    | (go_enter Try.func27, Try.ntmps27
       go_wp2
       go_ret
       exact ⟨ret_bool rfl, rfl⟩)

def wiB (n m : Int) : Bool := decide (0 ≤ n) && decide (n ≤ m)

theorem within_calls (n m : Int) (w : World) : Calls Try.prog 33 #[.int .i64 n, .int .i64 m] w fun e w' => e = .returned (.bool (wiB n m)) ∧ w' = w := by
  have h : (n < 0) ∨ (0 ≤ n ∧ n ≤ m) ∨ (0 ≤ n ∧ m < n) := by omega
  rcases h with h | ⟨h, h'⟩ | ⟨h, h'⟩
  all_goals
    go_enter Try.func33, Try.ntmps33
    go_wp2
    go_ret
    exact ⟨ret_bool (by unfold wiB; simp; try omega), rfl⟩

/-- What N counts. -/
def belowB (n : Int) (any : Bool) (x : Int) : Bool := any || (if n = -1 then decide (x = 0) else decide (0 < n) && decide (x < n))

theorem below_calls (r : Int) (m : Bool) (n : Int) (any : Bool) (x : Int) (w : World) (hn : n < 9223372036854775808) (hx0 : 0 ≤ x) (hx : x < 18446744073709551616) : Calls Try.prog 28 #[.agg #[.int .i64 r, .bool m, .int .i64 n, .bool any], .int .u64 x] w fun e w' => e = .returned (.bool (belowB n any x)) ∧ Keeps NoBlock w w' := by
  cases any with
  | true =>
    go_enter Try.func28, Try.ntmps28
    go_wp2
    go_ret
    exact ⟨ret_bool rfl, (Keeps.refl _ w).alloc _⟩
  | false =>
    have h : (n = -1 ∧ x = 0) ∨ (n = -1 ∧ x ≠ 0) ∨ (n ≠ -1 ∧ n ≤ 0) ∨ (n ≠ -1 ∧ 0 < n ∧ x < n) ∨ (n ≠ -1 ∧ 0 < n ∧ n ≤ x) := by omega
    rcases h with ⟨rfl, rfl⟩ | ⟨rfl, h⟩ | ⟨h, h'⟩ | ⟨h, h', h''⟩ | ⟨h, h', h''⟩
    · go_enter Try.func28, Try.ntmps28
      go_wp2
      go_ret
      exact ⟨ret_bool rfl, (Keeps.refl _ w).alloc _⟩
    · have hb : (x == 0) = false := by simpa using h
      go_enter Try.func28, Try.ntmps28
      go_wp2
      go_ret
      exact ⟨ret_bool (by simp [belowB, h]), (Keeps.refl _ w).alloc _⟩
    all_goals
      have hb : (n == -1) = false := by simpa using h
      have hN : Hid (n ≠ -1) := h
      clear h
      go_enter Try.func28, Try.ntmps28
      go_wp2
      go_ret
      exact ⟨ret_bool (by simp [belowB, hN.out]; try omega), (Keeps.refl _ w).alloc _⟩

/-- The form of an operation: how many registers, a mutex, what N is below, any. -/
def ofs (nf M C ns np op : Int) : Int × Bool × Int × Bool :=
  if op = 1 then (1, false, 0, true)
  else if op = 2 ∨ op = 14 ∨ op = 15 ∨ op = 18 ∨ op = 19 ∨ op = 21 ∨ op = 33 ∨ op = 34 then (2, false, -1, false)
  else if op = 16 then (0, false, 257, false)
  else if op = 17 then (1, false, 257, false)
  else if op = 20 then (2, false, nf, false)
  else if op = 22 ∨ op = 23 ∨ op = 32 ∨ op = 37 ∨ op = 38 then (1, false, -1, false)
  else if op = 24 then (0, false, -1, false)
  else if op = 25 ∨ op = 26 then (0, false, M, false)
  else if op = 27 then (0, true, C, false)
  else if op = 28 ∨ op = 29 then (0, false, C, false)
  else if op = 30 ∨ op = 31 then (0, false, ns, false)
  else if op = 35 ∨ op = 36 then (1, false, np, false)
  else (3, false, -1, false)

def formV (f : Int × Bool × Int × Bool) : Value := .agg #[.int .i64 f.1, .bool f.2.1, .int .i64 f.2.2.1, .bool f.2.2.2]

def OfPost (w : World) (f : Int × Bool × Int × Bool) (e : Ending) (w' : World) : Prop := e = .returned (formV f) ∧ Keeps NoBlock w w'

end Go.Proofs.Ytlnfjjbfdbcgbaa
