/- The statement InstClasses: its walk. -/
import Derived.Test.YtlnfjjbfdbcgbaaInstA
namespace Go.Proofs.Ytlnfjjbfdbcgbaa
open Go.RowKit

def YesPost (w : World) (e : Ending) (w' : World) : Prop := e = .returned (.bool true) ∧ Below w.heap.size w w'
theorem yes_of {w w' : World} {b : Bool} (hb : b = true) (hk : Keeps NoBlock w w') : YesPost w (.returned (.bool b)) w' := ⟨by rw [hb], hk.below (Nat.le_refl _) (fun _ h => h.elim)⟩

set_option maxRecDepth 100000 in
theorem classes_any (w : World) (op : Int) (_hop : (Lit.int .i64 op).wf = true) : Calls Try.prog 4 #[.int .i64 op] w (YesPost w) := by
  have h : (op < 1) ∨ (1 ≤ op ∧ op ≤ 17) ∨ (18 ≤ op ∧ op ≤ 19) ∨ (20 ≤ op ∧ op ≤ 32) ∨ (33 ≤ op ∧ op ≤ 38) ∨ (38 < op) := by omega
  rcases h with h | ⟨h, h'⟩ | ⟨h, h'⟩ | ⟨h, h'⟩ | ⟨h, h'⟩ | h
  · have hc : Hid (cls op = 0) := by unfold Hid cls; (repeat' split) <;> omega
    have hs : Hid (seenB op = false) := by unfold Hid seenB; simp; omega
    go_enter Try.func4, Try.ntmps4
    go_wp2_with fail
    refine (awake_calls _).mono ?_
    rintro e w1 ⟨rfl, hk1⟩
    go_wp2_with fail
    refine (class_calls op _).mono ?_
    rintro e w2 ⟨rfl, rfl⟩
    rw [hc.out]
    go_wp2_with fail
    refine (seen_calls op _).mono ?_
    rintro e w2 ⟨rfl, rfl⟩
    rw [hs.out]
    go_wp2_with fail
    go_ret
    exact yes_of (by first | rfl | (simp; omega)) hk1
  · have hc : Hid (cls op = 1) := by unfold Hid cls; (repeat' split) <;> omega
    have hs : Hid (seenB op = false) := by unfold Hid seenB; simp; omega
    go_enter Try.func4, Try.ntmps4
    go_wp2_with fail
    refine (awake_calls _).mono ?_
    rintro e w1 ⟨rfl, hk1⟩
    go_wp2_with fail
    refine (class_calls op _).mono ?_
    rintro e w2 ⟨rfl, rfl⟩
    rw [hc.out]
    go_wp2_with fail
    refine (seen_calls op _).mono ?_
    rintro e w2 ⟨rfl, rfl⟩
    rw [hs.out]
    go_wp2_with fail
    go_ret
    exact yes_of (by first | rfl | (simp; omega)) hk1
  · have hc : Hid (cls op = 1) := by unfold Hid cls; (repeat' split) <;> omega
    have hs : Hid (seenB op = true) := by unfold Hid seenB; simp; omega
    go_enter Try.func4, Try.ntmps4
    go_wp2_with fail
    refine (awake_calls _).mono ?_
    rintro e w1 ⟨rfl, hk1⟩
    go_wp2_with fail
    refine (class_calls op _).mono ?_
    rintro e w2 ⟨rfl, rfl⟩
    rw [hc.out]
    go_wp2_with fail
    refine (seen_calls op _).mono ?_
    rintro e w2 ⟨rfl, rfl⟩
    rw [hs.out]
    go_wp2_with fail
    go_ret
    exact yes_of (by first | rfl | (simp; omega)) hk1
  · have hc : Hid (cls op = 2) := by unfold Hid cls; (repeat' split) <;> omega
    have hs : Hid (seenB op = true) := by unfold Hid seenB; simp; omega
    go_enter Try.func4, Try.ntmps4
    go_wp2_with fail
    refine (awake_calls _).mono ?_
    rintro e w1 ⟨rfl, hk1⟩
    go_wp2_with fail
    refine (class_calls op _).mono ?_
    rintro e w2 ⟨rfl, rfl⟩
    rw [hc.out]
    go_wp2_with fail
    refine (seen_calls op _).mono ?_
    rintro e w2 ⟨rfl, rfl⟩
    rw [hs.out]
    go_wp2_with fail
    go_ret
    exact yes_of (by first | rfl | (simp; omega)) hk1
  · have hc : Hid (cls op = 3) := by unfold Hid cls; (repeat' split) <;> omega
    have hs : Hid (seenB op = true) := by unfold Hid seenB; simp; omega
    go_enter Try.func4, Try.ntmps4
    go_wp2_with fail
    refine (awake_calls _).mono ?_
    rintro e w1 ⟨rfl, hk1⟩
    go_wp2_with fail
    refine (class_calls op _).mono ?_
    rintro e w2 ⟨rfl, rfl⟩
    rw [hc.out]
    go_wp2_with fail
    refine (seen_calls op _).mono ?_
    rintro e w2 ⟨rfl, rfl⟩
    rw [hs.out]
    go_wp2_with fail
    go_ret
    exact yes_of (by first | rfl | (simp; omega)) hk1
  · have hc : Hid (cls op = 0) := by unfold Hid cls; (repeat' split) <;> omega
    have hs : Hid (seenB op = false) := by unfold Hid seenB; simp; omega
    go_enter Try.func4, Try.ntmps4
    go_wp2_with fail
    refine (awake_calls _).mono ?_
    rintro e w1 ⟨rfl, hk1⟩
    go_wp2_with fail
    refine (class_calls op _).mono ?_
    rintro e w2 ⟨rfl, rfl⟩
    rw [hc.out]
    go_wp2_with fail
    refine (seen_calls op _).mono ?_
    rintro e w2 ⟨rfl, rfl⟩
    rw [hs.out]
    go_wp2_with fail
    go_ret
    exact yes_of (by first | rfl | (simp; omega)) hk1

theorem classes_row (w : World) (op : Int) (hop : (Lit.int .i64 op).wf = true) : Calls Try.prog 4 #[.int .i64 op] w fun e w' => e = .returned (.bool true) ∧ Below w.heap.size w w' := classes_any w op hop
end Go.Proofs.Ytlnfjjbfdbcgbaa
