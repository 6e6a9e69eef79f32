/- VesselRuns: whether any vessel is within a section, and which thread it runs. -/
import Derived.Test.YtpchhlhjmkkoiaaVsD
namespace Go.Proofs.Ytpchhlhjmkkoiaa
open Go.RowKit

set_option maxHeartbeats 4000000 in
set_option maxRecDepth 100000 in
theorem runsL_2 (thread : Int) (A : Option Addr) (n c : Nat) (w : World) : Calls Try.prog 4 #[vesV 2 thread A n c] w fun e w' => e = .returned (.bool true) ∧ Below w.heap.size w w' := by
  have hr := Lib.hid (fun W => vruns_calls 2 thread A n c W false (by simp [vrunsB]))
  have hh := Lib.hid (fun W => holds_calls 2 thread A n c W true (by simp [holdsB]))
  go_enter Try.func4, Try.ntmps4
  go_wp2_with fail
  refine (hr.out _).mono ?_
  rintro e w1 ⟨rfl, k1⟩
  have k1' := ((Keeps.refl NoBlock w).alloc (.cells (vesC 2 thread A n c) 24)).trans k1 (fun _ _ h => h)
  have b1 : Hid (w1.heap[w.heap.size]? = some (.cells (vesC 2 thread A n c) 24 (0, 0))) := (k1.block _ (by simp) (fun h => h)).trans (block_alloc_new _ _)
  have q0 : w1.cell? ⟨w.heap.size, 0, none⟩ = some (.int .i64 2) := cell_of_block b1.out rfl
  have q1 : w1.cell? ⟨w.heap.size, 1, none⟩ = some (.int .i64 thread) := cell_of_block b1.out rfl
  have q2 : w1.cell? ⟨w.heap.size, 2, none⟩ = some (.slice A n c) := cell_of_block b1.out rfl
  have z1 := lt_of_block b1.out
  have K1 := Lib.hid k1'
  clear k1 k1' hr
  go_wp2_with fail
  first | go_region_with (first
    | (go_at_call 11
       refine Calls.mono (awake15_calls _) ?_
       rintro e w3 ⟨rfl, k3⟩
       have s0 := (k3.cell (o := 0) z1 (fun h => h)).trans q0
       have s1 := (k3.cell (o := 1) z1 (fun h => h)).trans q1
       have s2 := (k3.cell (o := 2) z1 (fun h => h)).trans q2
       have z3 := Nat.lt_of_lt_of_le z1 k3.size
       have K3 := Lib.hid (K1.out.drew.trans k3 (fun _ _ h => h)))
    | (go_at_call 16
       refine Calls.mono (hh.out _) ?_
       rintro e w4 ⟨rfl, k4⟩
       have r0 := (k4.cell (o := 0) z3 (fun h => h)).trans s0
       have r1 := (k4.cell (o := 1) z3 (fun h => h)).trans s1
       have r2 := (k4.cell (o := 2) z3 (fun h => h)).trans s2
       have K4 := Lib.hid (K3.out.trans k4 (fun _ _ h => h))
       clear k4)
    | fail) | fail
  all_goals
    go_wp2_with fail
    go_ret
    exact ⟨rfl, K4.out.below (Nat.le_refl _) (fun _ h => h.elim)⟩

set_option maxHeartbeats 4000000 in
set_option maxRecDepth 100000 in
theorem runsL_4 (thread : Int) (A : Option Addr) (n c : Nat) (w : World) : Calls Try.prog 4 #[vesV 4 thread A n c] w fun e w' => e = .returned (.bool true) ∧ Below w.heap.size w w' := by
  have hr := Lib.hid (fun W => vruns_calls 4 thread A n c W false (by simp [vrunsB]))
  have hh := Lib.hid (fun W => holds_calls 4 thread A n c W true (by simp [holdsB]))
  go_enter Try.func4, Try.ntmps4
  go_wp2_with fail
  refine (hr.out _).mono ?_
  rintro e w1 ⟨rfl, k1⟩
  have k1' := ((Keeps.refl NoBlock w).alloc (.cells (vesC 4 thread A n c) 24)).trans k1 (fun _ _ h => h)
  have b1 : Hid (w1.heap[w.heap.size]? = some (.cells (vesC 4 thread A n c) 24 (0, 0))) := (k1.block _ (by simp) (fun h => h)).trans (block_alloc_new _ _)
  have q0 : w1.cell? ⟨w.heap.size, 0, none⟩ = some (.int .i64 4) := cell_of_block b1.out rfl
  have q1 : w1.cell? ⟨w.heap.size, 1, none⟩ = some (.int .i64 thread) := cell_of_block b1.out rfl
  have q2 : w1.cell? ⟨w.heap.size, 2, none⟩ = some (.slice A n c) := cell_of_block b1.out rfl
  have z1 := lt_of_block b1.out
  have K1 := Lib.hid k1'
  clear k1 k1' hr
  go_wp2_with fail
  first | go_region_with (first
    | (go_at_call 11
       refine Calls.mono (awake15_calls _) ?_
       rintro e w3 ⟨rfl, k3⟩
       have s0 := (k3.cell (o := 0) z1 (fun h => h)).trans q0
       have s1 := (k3.cell (o := 1) z1 (fun h => h)).trans q1
       have s2 := (k3.cell (o := 2) z1 (fun h => h)).trans q2
       have z3 := Nat.lt_of_lt_of_le z1 k3.size
       have K3 := Lib.hid (K1.out.drew.trans k3 (fun _ _ h => h)))
    | (go_at_call 16
       refine Calls.mono (hh.out _) ?_
       rintro e w4 ⟨rfl, k4⟩
       have r0 := (k4.cell (o := 0) z3 (fun h => h)).trans s0
       have r1 := (k4.cell (o := 1) z3 (fun h => h)).trans s1
       have r2 := (k4.cell (o := 2) z3 (fun h => h)).trans s2
       have K4 := Lib.hid (K3.out.trans k4 (fun _ _ h => h))
       clear k4)
    | fail) | fail
  all_goals
    go_wp2_with fail
    go_ret
    exact ⟨rfl, K4.out.below (Nat.le_refl _) (fun _ h => h.elim)⟩

set_option maxHeartbeats 4000000 in
set_option maxRecDepth 100000 in
theorem runsL_o (mode thread : Int) (A : Option Addr) (n c : Nat) (w : World) (h2 : (mode == 2) = false) (h4 : (mode == 4) = false) (h5 : (mode == 5) = false) (h6 : (mode == 6) = false) (h7 : (mode == 7) = false) : Calls Try.prog 4 #[vesV mode thread A n c] w fun e w' => e = .returned (.bool true) ∧ Below w.heap.size w w' := by
  have hr := Lib.hid (fun W => vruns_calls mode thread A n c W false (by simp [vrunsB, h5, h6, h7]))
  have hh := Lib.hid (fun W => holds_calls mode thread A n c W false (by simp [holdsB, h2, h4, h7]))
  go_enter Try.func4, Try.ntmps4
  go_wp2_with fail
  refine (hr.out _).mono ?_
  rintro e w1 ⟨rfl, k1⟩
  have k1' := ((Keeps.refl NoBlock w).alloc (.cells (vesC mode thread A n c) 24)).trans k1 (fun _ _ h => h)
  have b1 : Hid (w1.heap[w.heap.size]? = some (.cells (vesC mode thread A n c) 24 (0, 0))) := (k1.block _ (by simp) (fun h => h)).trans (block_alloc_new _ _)
  have q0 : w1.cell? ⟨w.heap.size, 0, none⟩ = some (.int .i64 mode) := cell_of_block b1.out rfl
  have q1 : w1.cell? ⟨w.heap.size, 1, none⟩ = some (.int .i64 thread) := cell_of_block b1.out rfl
  have q2 : w1.cell? ⟨w.heap.size, 2, none⟩ = some (.slice A n c) := cell_of_block b1.out rfl
  have z1 := lt_of_block b1.out
  have K1 := Lib.hid k1'
  clear k1 k1' hr
  go_wp2_with fail
  go_region_held3 (fun w' => w'.cell? ⟨w.heap.size, 0, none⟩ = some (.int .i64 mode) ∧ w'.cell? ⟨w.heap.size, 1, none⟩ = some (.int .i64 thread) ∧ w'.cell? ⟨w.heap.size, 2, none⟩ = some (.slice A n c)) (go_keep) (first
    | (go_at_call 11
       refine Calls.mono (awake15_calls _) ?_
       rintro e w3 ⟨rfl, k3⟩
       have s0 := (k3.cell (o := 0) z1 (fun h => h)).trans q0
       have s1 := (k3.cell (o := 1) z1 (fun h => h)).trans q1
       have s2 := (k3.cell (o := 2) z1 (fun h => h)).trans q2
       have z3 := Nat.lt_of_lt_of_le z1 k3.size
       have K3 := Lib.hid (K1.out.drew.trans k3 (fun _ _ h => h)))
    | (go_at_call 16
       refine Calls.mono (hh.out _) ?_
       rintro e w4 ⟨rfl, k4⟩
       have r0 := (k4.cell (o := 0) z3 (fun h => h)).trans s0
       have r1 := (k4.cell (o := 1) z3 (fun h => h)).trans s1
       have r2 := (k4.cell (o := 2) z3 (fun h => h)).trans s2
       have K4 := Lib.hid (K3.out.trans k4 (fun _ _ h => h))
       clear k4)
    | fail)
  go_wp2_with fail
  go_ret
  exact ⟨rfl, K4.out.below (Nat.le_refl _) (fun _ h => h.elim)⟩

set_option maxHeartbeats 4000000 in
set_option maxRecDepth 100000 in
theorem runsL_5p (thread : Int) (A : Option Addr) (n c : Nat) (w : World) (hth : 0 ≤ thread) : Calls Try.prog 4 #[vesV 5 thread A n c] w fun e w' => e = .returned (.bool true) ∧ Below w.heap.size w w' := by
  have hr := Lib.hid (fun W => vruns_calls 5 thread A n c W true (by simp [vrunsB, hth]))
  have hh := Lib.hid (fun W => holds_calls 5 thread A n c W false (by simp [holdsB]))
  go_enter Try.func4, Try.ntmps4
  go_wp2_with fail
  refine (hr.out _).mono ?_
  rintro e w1 ⟨rfl, k1⟩
  have k1' := ((Keeps.refl NoBlock w).alloc (.cells (vesC 5 thread A n c) 24)).trans k1 (fun _ _ h => h)
  have b1 : Hid (w1.heap[w.heap.size]? = some (.cells (vesC 5 thread A n c) 24 (0, 0))) := (k1.block _ (by simp) (fun h => h)).trans (block_alloc_new _ _)
  have q0 : w1.cell? ⟨w.heap.size, 0, none⟩ = some (.int .i64 5) := cell_of_block b1.out rfl
  have q1 : w1.cell? ⟨w.heap.size, 1, none⟩ = some (.int .i64 thread) := cell_of_block b1.out rfl
  have q2 : w1.cell? ⟨w.heap.size, 2, none⟩ = some (.slice A n c) := cell_of_block b1.out rfl
  have z1 := lt_of_block b1.out
  have K1 := Lib.hid k1'
  clear k1 k1' hr
  go_wp2_with fail
  go_region_held3 (fun w' => w'.cell? ⟨w.heap.size, 0, none⟩ = some (.int .i64 5) ∧ w'.cell? ⟨w.heap.size, 1, none⟩ = some (.int .i64 thread) ∧ w'.cell? ⟨w.heap.size, 2, none⟩ = some (.slice A n c)) (go_keep) (first
    | (go_at_call 11
       refine Calls.mono (awake15_calls _) ?_
       rintro e w3 ⟨rfl, k3⟩
       have s0 := (k3.cell (o := 0) z1 (fun h => h)).trans q0
       have s1 := (k3.cell (o := 1) z1 (fun h => h)).trans q1
       have s2 := (k3.cell (o := 2) z1 (fun h => h)).trans q2
       have z3 := Nat.lt_of_lt_of_le z1 k3.size
       have K3 := Lib.hid (K1.out.drew.trans k3 (fun _ _ h => h)))
    | (go_at_call 16
       refine Calls.mono (hh.out _) ?_
       rintro e w4 ⟨rfl, k4⟩
       have r0 := (k4.cell (o := 0) z3 (fun h => h)).trans s0
       have r1 := (k4.cell (o := 1) z3 (fun h => h)).trans s1
       have r2 := (k4.cell (o := 2) z3 (fun h => h)).trans s2
       have K4 := Lib.hid (K3.out.trans k4 (fun _ _ h => h))
       clear k4)
    | fail)
  go_wp2_with fail
  go_ret
  exact ⟨rfl, K4.out.below (Nat.le_refl _) (fun _ h => h.elim)⟩

set_option maxHeartbeats 4000000 in
set_option maxRecDepth 100000 in
theorem runsL_5n (thread : Int) (A : Option Addr) (n c : Nat) (w : World) (hth : thread < 0) : Calls Try.prog 4 #[vesV 5 thread A n c] w fun e w' => e = .returned (.bool true) ∧ Below w.heap.size w w' := by
  have hr := Lib.hid (fun W => vruns_calls 5 thread A n c W false (by simp [vrunsB, hth]))
  have hh := Lib.hid (fun W => holds_calls 5 thread A n c W false (by simp [holdsB]))
  go_enter Try.func4, Try.ntmps4
  go_wp2_with fail
  refine (hr.out _).mono ?_
  rintro e w1 ⟨rfl, k1⟩
  have k1' := ((Keeps.refl NoBlock w).alloc (.cells (vesC 5 thread A n c) 24)).trans k1 (fun _ _ h => h)
  have b1 : Hid (w1.heap[w.heap.size]? = some (.cells (vesC 5 thread A n c) 24 (0, 0))) := (k1.block _ (by simp) (fun h => h)).trans (block_alloc_new _ _)
  have q0 : w1.cell? ⟨w.heap.size, 0, none⟩ = some (.int .i64 5) := cell_of_block b1.out rfl
  have q1 : w1.cell? ⟨w.heap.size, 1, none⟩ = some (.int .i64 thread) := cell_of_block b1.out rfl
  have q2 : w1.cell? ⟨w.heap.size, 2, none⟩ = some (.slice A n c) := cell_of_block b1.out rfl
  have z1 := lt_of_block b1.out
  have K1 := Lib.hid k1'
  clear k1 k1' hr
  go_wp2_with fail
  go_region_held3 (fun w' => w'.cell? ⟨w.heap.size, 0, none⟩ = some (.int .i64 5) ∧ w'.cell? ⟨w.heap.size, 1, none⟩ = some (.int .i64 thread) ∧ w'.cell? ⟨w.heap.size, 2, none⟩ = some (.slice A n c)) (go_keep) (first
    | (go_at_call 11
       refine Calls.mono (awake15_calls _) ?_
       rintro e w3 ⟨rfl, k3⟩
       have s0 := (k3.cell (o := 0) z1 (fun h => h)).trans q0
       have s1 := (k3.cell (o := 1) z1 (fun h => h)).trans q1
       have s2 := (k3.cell (o := 2) z1 (fun h => h)).trans q2
       have z3 := Nat.lt_of_lt_of_le z1 k3.size
       have K3 := Lib.hid (K1.out.drew.trans k3 (fun _ _ h => h)))
    | (go_at_call 16
       refine Calls.mono (hh.out _) ?_
       rintro e w4 ⟨rfl, k4⟩
       have r0 := (k4.cell (o := 0) z3 (fun h => h)).trans s0
       have r1 := (k4.cell (o := 1) z3 (fun h => h)).trans s1
       have r2 := (k4.cell (o := 2) z3 (fun h => h)).trans s2
       have K4 := Lib.hid (K3.out.trans k4 (fun _ _ h => h))
       clear k4)
    | fail)
  go_wp2_with fail
  go_ret
  exact ⟨rfl, K4.out.below (Nat.le_refl _) (fun _ h => h.elim)⟩

set_option maxHeartbeats 4000000 in
set_option maxRecDepth 100000 in
theorem runsL_6p (thread : Int) (A : Option Addr) (n c : Nat) (w : World) (hth : 0 ≤ thread) : Calls Try.prog 4 #[vesV 6 thread A n c] w fun e w' => e = .returned (.bool true) ∧ Below w.heap.size w w' := by
  have hr := Lib.hid (fun W => vruns_calls 6 thread A n c W true (by simp [vrunsB, hth]))
  have hh := Lib.hid (fun W => holds_calls 6 thread A n c W false (by simp [holdsB]))
  go_enter Try.func4, Try.ntmps4
  go_wp2_with fail
  refine (hr.out _).mono ?_
  rintro e w1 ⟨rfl, k1⟩
  have k1' := ((Keeps.refl NoBlock w).alloc (.cells (vesC 6 thread A n c) 24)).trans k1 (fun _ _ h => h)
  have b1 : Hid (w1.heap[w.heap.size]? = some (.cells (vesC 6 thread A n c) 24 (0, 0))) := (k1.block _ (by simp) (fun h => h)).trans (block_alloc_new _ _)
  have q0 : w1.cell? ⟨w.heap.size, 0, none⟩ = some (.int .i64 6) := cell_of_block b1.out rfl
  have q1 : w1.cell? ⟨w.heap.size, 1, none⟩ = some (.int .i64 thread) := cell_of_block b1.out rfl
  have q2 : w1.cell? ⟨w.heap.size, 2, none⟩ = some (.slice A n c) := cell_of_block b1.out rfl
  have z1 := lt_of_block b1.out
  have K1 := Lib.hid k1'
  clear k1 k1' hr
  go_wp2_with fail
  go_region_held3 (fun w' => w'.cell? ⟨w.heap.size, 0, none⟩ = some (.int .i64 6) ∧ w'.cell? ⟨w.heap.size, 1, none⟩ = some (.int .i64 thread) ∧ w'.cell? ⟨w.heap.size, 2, none⟩ = some (.slice A n c)) (go_keep) (first
    | (go_at_call 11
       refine Calls.mono (awake15_calls _) ?_
       rintro e w3 ⟨rfl, k3⟩
       have s0 := (k3.cell (o := 0) z1 (fun h => h)).trans q0
       have s1 := (k3.cell (o := 1) z1 (fun h => h)).trans q1
       have s2 := (k3.cell (o := 2) z1 (fun h => h)).trans q2
       have z3 := Nat.lt_of_lt_of_le z1 k3.size
       have K3 := Lib.hid (K1.out.drew.trans k3 (fun _ _ h => h)))
    | (go_at_call 16
       refine Calls.mono (hh.out _) ?_
       rintro e w4 ⟨rfl, k4⟩
       have r0 := (k4.cell (o := 0) z3 (fun h => h)).trans s0
       have r1 := (k4.cell (o := 1) z3 (fun h => h)).trans s1
       have r2 := (k4.cell (o := 2) z3 (fun h => h)).trans s2
       have K4 := Lib.hid (K3.out.trans k4 (fun _ _ h => h))
       clear k4)
    | fail)
  go_wp2_with fail
  go_ret
  exact ⟨rfl, K4.out.below (Nat.le_refl _) (fun _ h => h.elim)⟩

set_option maxHeartbeats 4000000 in
set_option maxRecDepth 100000 in
theorem runsL_6n (thread : Int) (A : Option Addr) (n c : Nat) (w : World) (hth : thread < 0) : Calls Try.prog 4 #[vesV 6 thread A n c] w fun e w' => e = .returned (.bool true) ∧ Below w.heap.size w w' := by
  have hr := Lib.hid (fun W => vruns_calls 6 thread A n c W false (by simp [vrunsB, hth]))
  have hh := Lib.hid (fun W => holds_calls 6 thread A n c W false (by simp [holdsB]))
  go_enter Try.func4, Try.ntmps4
  go_wp2_with fail
  refine (hr.out _).mono ?_
  rintro e w1 ⟨rfl, k1⟩
  have k1' := ((Keeps.refl NoBlock w).alloc (.cells (vesC 6 thread A n c) 24)).trans k1 (fun _ _ h => h)
  have b1 : Hid (w1.heap[w.heap.size]? = some (.cells (vesC 6 thread A n c) 24 (0, 0))) := (k1.block _ (by simp) (fun h => h)).trans (block_alloc_new _ _)
  have q0 : w1.cell? ⟨w.heap.size, 0, none⟩ = some (.int .i64 6) := cell_of_block b1.out rfl
  have q1 : w1.cell? ⟨w.heap.size, 1, none⟩ = some (.int .i64 thread) := cell_of_block b1.out rfl
  have q2 : w1.cell? ⟨w.heap.size, 2, none⟩ = some (.slice A n c) := cell_of_block b1.out rfl
  have z1 := lt_of_block b1.out
  have K1 := Lib.hid k1'
  clear k1 k1' hr
  go_wp2_with fail
  go_region_held3 (fun w' => w'.cell? ⟨w.heap.size, 0, none⟩ = some (.int .i64 6) ∧ w'.cell? ⟨w.heap.size, 1, none⟩ = some (.int .i64 thread) ∧ w'.cell? ⟨w.heap.size, 2, none⟩ = some (.slice A n c)) (go_keep) (first
    | (go_at_call 11
       refine Calls.mono (awake15_calls _) ?_
       rintro e w3 ⟨rfl, k3⟩
       have s0 := (k3.cell (o := 0) z1 (fun h => h)).trans q0
       have s1 := (k3.cell (o := 1) z1 (fun h => h)).trans q1
       have s2 := (k3.cell (o := 2) z1 (fun h => h)).trans q2
       have z3 := Nat.lt_of_lt_of_le z1 k3.size
       have K3 := Lib.hid (K1.out.drew.trans k3 (fun _ _ h => h)))
    | (go_at_call 16
       refine Calls.mono (hh.out _) ?_
       rintro e w4 ⟨rfl, k4⟩
       have r0 := (k4.cell (o := 0) z3 (fun h => h)).trans s0
       have r1 := (k4.cell (o := 1) z3 (fun h => h)).trans s1
       have r2 := (k4.cell (o := 2) z3 (fun h => h)).trans s2
       have K4 := Lib.hid (K3.out.trans k4 (fun _ _ h => h))
       clear k4)
    | fail)
  go_wp2_with fail
  go_ret
  exact ⟨rfl, K4.out.below (Nat.le_refl _) (fun _ h => h.elim)⟩

set_option maxHeartbeats 4000000 in
set_option maxRecDepth 100000 in
theorem runsL_7p (thread : Int) (A : Option Addr) (n c : Nat) (w : World) (hth : 0 ≤ thread) : Calls Try.prog 4 #[vesV 7 thread A n c] w fun e w' => e = .returned (.bool true) ∧ Below w.heap.size w w' := by
  have hr := Lib.hid (fun W => vruns_calls 7 thread A n c W true (by simp [vrunsB, hth]))
  have hh := Lib.hid (fun W => holds_calls 7 thread A n c W true (by simp [holdsB]))
  go_enter Try.func4, Try.ntmps4
  go_wp2_with fail
  refine (hr.out _).mono ?_
  rintro e w1 ⟨rfl, k1⟩
  have k1' := ((Keeps.refl NoBlock w).alloc (.cells (vesC 7 thread A n c) 24)).trans k1 (fun _ _ h => h)
  have b1 : Hid (w1.heap[w.heap.size]? = some (.cells (vesC 7 thread A n c) 24 (0, 0))) := (k1.block _ (by simp) (fun h => h)).trans (block_alloc_new _ _)
  have q0 : w1.cell? ⟨w.heap.size, 0, none⟩ = some (.int .i64 7) := cell_of_block b1.out rfl
  have q1 : w1.cell? ⟨w.heap.size, 1, none⟩ = some (.int .i64 thread) := cell_of_block b1.out rfl
  have q2 : w1.cell? ⟨w.heap.size, 2, none⟩ = some (.slice A n c) := cell_of_block b1.out rfl
  have z1 := lt_of_block b1.out
  have K1 := Lib.hid k1'
  clear k1 k1' hr
  go_wp2_with fail
  go_region_held3 (fun w' => w'.cell? ⟨w.heap.size, 0, none⟩ = some (.int .i64 7) ∧ w'.cell? ⟨w.heap.size, 1, none⟩ = some (.int .i64 thread) ∧ w'.cell? ⟨w.heap.size, 2, none⟩ = some (.slice A n c)) (go_keep) (first
    | (go_at_call 11
       refine Calls.mono (awake15_calls _) ?_
       rintro e w3 ⟨rfl, k3⟩
       have s0 := (k3.cell (o := 0) z1 (fun h => h)).trans q0
       have s1 := (k3.cell (o := 1) z1 (fun h => h)).trans q1
       have s2 := (k3.cell (o := 2) z1 (fun h => h)).trans q2
       have z3 := Nat.lt_of_lt_of_le z1 k3.size
       have K3 := Lib.hid (K1.out.drew.trans k3 (fun _ _ h => h)))
    | (go_at_call 16
       refine Calls.mono (hh.out _) ?_
       rintro e w4 ⟨rfl, k4⟩
       have r0 := (k4.cell (o := 0) z3 (fun h => h)).trans s0
       have r1 := (k4.cell (o := 1) z3 (fun h => h)).trans s1
       have r2 := (k4.cell (o := 2) z3 (fun h => h)).trans s2
       have K4 := Lib.hid (K3.out.trans k4 (fun _ _ h => h))
       clear k4)
    | fail)
  go_wp2_with fail
  go_ret
  exact ⟨rfl, K4.out.below (Nat.le_refl _) (fun _ h => h.elim)⟩

set_option maxHeartbeats 4000000 in
set_option maxRecDepth 100000 in
theorem runsL_7n (thread : Int) (A : Option Addr) (n c : Nat) (w : World) (hth : thread < 0) : Calls Try.prog 4 #[vesV 7 thread A n c] w fun e w' => e = .returned (.bool true) ∧ Below w.heap.size w w' := by
  have hr := Lib.hid (fun W => vruns_calls 7 thread A n c W false (by simp [vrunsB, hth]))
  have hh := Lib.hid (fun W => holds_calls 7 thread A n c W true (by simp [holdsB]))
  go_enter Try.func4, Try.ntmps4
  go_wp2_with fail
  refine (hr.out _).mono ?_
  rintro e w1 ⟨rfl, k1⟩
  have k1' := ((Keeps.refl NoBlock w).alloc (.cells (vesC 7 thread A n c) 24)).trans k1 (fun _ _ h => h)
  have b1 : Hid (w1.heap[w.heap.size]? = some (.cells (vesC 7 thread A n c) 24 (0, 0))) := (k1.block _ (by simp) (fun h => h)).trans (block_alloc_new _ _)
  have q0 : w1.cell? ⟨w.heap.size, 0, none⟩ = some (.int .i64 7) := cell_of_block b1.out rfl
  have q1 : w1.cell? ⟨w.heap.size, 1, none⟩ = some (.int .i64 thread) := cell_of_block b1.out rfl
  have q2 : w1.cell? ⟨w.heap.size, 2, none⟩ = some (.slice A n c) := cell_of_block b1.out rfl
  have z1 := lt_of_block b1.out
  have K1 := Lib.hid k1'
  clear k1 k1' hr
  go_wp2_with fail
  go_region_held3 (fun w' => w'.cell? ⟨w.heap.size, 0, none⟩ = some (.int .i64 7) ∧ w'.cell? ⟨w.heap.size, 1, none⟩ = some (.int .i64 thread) ∧ w'.cell? ⟨w.heap.size, 2, none⟩ = some (.slice A n c)) (go_keep) (first
    | (go_at_call 11
       refine Calls.mono (awake15_calls _) ?_
       rintro e w3 ⟨rfl, k3⟩
       have s0 := (k3.cell (o := 0) z1 (fun h => h)).trans q0
       have s1 := (k3.cell (o := 1) z1 (fun h => h)).trans q1
       have s2 := (k3.cell (o := 2) z1 (fun h => h)).trans q2
       have z3 := Nat.lt_of_lt_of_le z1 k3.size
       have K3 := Lib.hid (K1.out.drew.trans k3 (fun _ _ h => h)))
    | (go_at_call 16
       refine Calls.mono (hh.out _) ?_
       rintro e w4 ⟨rfl, k4⟩
       have r0 := (k4.cell (o := 0) z3 (fun h => h)).trans s0
       have r1 := (k4.cell (o := 1) z3 (fun h => h)).trans s1
       have r2 := (k4.cell (o := 2) z3 (fun h => h)).trans s2
       have K4 := Lib.hid (K3.out.trans k4 (fun _ _ h => h))
       clear k4)
    | fail)
  go_wp2_with fail
  go_ret
  exact ⟨rfl, K4.out.below (Nat.le_refl _) (fun _ h => h.elim)⟩

theorem runsL_row (w : World) (v : Value) (x : Ves) (h : VesAt w v x) : Calls Try.prog 4 #[v] w fun e w' => e = .returned (.bool true) ∧ Below w.heap.size w w' := by
  obtain ⟨A, c, rfl, _⟩ := h
  obtain ⟨mode, thread, xs⟩ := x
  dsimp only
  rcases mode_cases mode with rfl | rfl | rfl | rfl | rfl | ⟨h2, h4, h5, h6, h7⟩
  · exact runsL_2 thread A _ c w
  · exact runsL_4 thread A _ c w
  · by_cases hth : 0 ≤ thread
    · exact runsL_5p thread A _ c w hth
    · exact runsL_5n thread A _ c w (by omega)
  · by_cases hth : 0 ≤ thread
    · exact runsL_6p thread A _ c w hth
    · exact runsL_6n thread A _ c w (by omega)
  · by_cases hth : 0 ≤ thread
    · exact runsL_7p thread A _ c w hth
    · exact runsL_7n thread A _ c w (by omega)
  · exact runsL_o mode thread A _ c w h2 h4 h5 h6 h7
end Go.Proofs.Ytpchhlhjmkkoiaa
