/- GateNone: no gates answer so. -/
import Derived.Test.YtlgolofcpokndaaGtR
namespace Go.Proofs.Ytlgolofcpokndaa
open Go.RowKit
namespace Gt

theorem Lock_nil (who m : Int) (w : World) : Calls Try.prog 10 #[.pointer none, .int .i64 who, .int .i64 m] w fun e w' => e = ret2 false 1 ∧ w = w' := by
  go_enter Try.func10, Try.ntmps10
  go_wp2_with fail
  refine (getM_nil m _).mono ?_
  rintro e w1 ⟨rfl, rfl⟩
  go_wp2_with fail
  go_ret2
  exact ⟨rfl, rfl⟩
theorem Unlock_nil (who m c : Int) (w : World) : Calls Try.prog 11 #[.pointer none, .int .i64 who, .int .i64 m, .int .i64 c] w fun e w' => e = ret3 0 false 1 ∧ w = w' := by
  go_enter Try.func11, Try.ntmps11
  go_wp2_with fail
  refine (getM_nil m _).mono ?_
  rintro e w1 ⟨rfl, rfl⟩
  go_wp2_with fail
  refine bodyPost_ret (v := .tuple #[.int .i64 0, .bool false, .int .i64 1]) ?_ rfl ⟨rfl, rfl⟩
  simp [results, Try.results11, go_sem]
theorem Down_nil (who m : Int) (w : World) : Calls Try.prog 14 #[.pointer none, .int .i64 who, .int .i64 m] w fun e w' => e = ret2 false 1 ∧ w = w' := by
  go_enter Try.func14, Try.ntmps14
  go_wp2_with fail
  refine (getS_nil m _).mono ?_
  rintro e w1 ⟨rfl, rfl⟩
  go_wp2_with fail
  go_ret2
  exact ⟨rfl, rfl⟩
theorem Up_nil (m c : Int) (w : World) : Calls Try.prog 15 #[.pointer none, .int .i64 m, .int .i64 c] w fun e w' => e = ret3 0 false 1 ∧ w = w' := by
  go_enter Try.func15, Try.ntmps15
  go_wp2_with fail
  refine (getS_nil m _).mono ?_
  rintro e w1 ⟨rfl, rfl⟩
  go_wp2_with fail
  refine bodyPost_ret (v := .tuple #[.int .i64 0, .bool false, .int .i64 1]) ?_ rfl ⟨rfl, rfl⟩
  simp [results, Try.results15, go_sem]
theorem Owner_nil (m : Int) (w : World) : Calls Try.prog 19 #[.pointer none, .int .i64 m] w fun e w' => e = .returned (.tuple #[.int .i64 0, .bool false]) ∧ w = w' := by
  go_enter Try.func19, Try.ntmps19
  go_wp2_with fail
  refine (getM_nil m _).mono ?_
  rintro e w1 ⟨rfl, rfl⟩
  go_wp2_with fail
  go_ret2
  exact ⟨rfl, rfl⟩
theorem Count_nil (m : Int) (w : World) : Calls Try.prog 18 #[.pointer none, .int .i64 m] w fun e w' => e = .returned (.int .i64 0) ∧ w = w' := by
  go_enter Try.func18, Try.ntmps18
  go_wp2_with fail
  refine (getS_nil m _).mono ?_
  rintro e w1 ⟨rfl, rfl⟩
  go_wp2_with fail
  go_ret
  exact ⟨rfl, rfl⟩

theorem Signal_nil (c ch : Int) (all : Bool) (w : World) : Calls Try.prog 13 #[.pointer none, .int .i64 c, .int .i64 ch, .bool all] w fun e w' => e = .returned (.tuple #[.slice none 0 0, .int .i64 1]) ∧ w = w' := by
  go_enter Try.func13, Try.ntmps13
  go_wp2_with fail
  refine (getC_nil c _).mono ?_
  rintro e w1 ⟨rfl, rfl⟩
  go_wp2_with fail
  go_ret2
  exact ⟨rfl, rfl⟩

theorem Wait_nil (who c m ch : Int) (w : World) : Calls Try.prog 12 #[.pointer none, .int .i64 who, .int .i64 c, .int .i64 m, .int .i64 ch] w fun e w' => e = ret3 0 false 1 ∧ w = w' :=
  Wait_out who c m ch none none (getM_nil m w) (getC_nil c w) (.inl rfl)

theorem Waiters_nil (k n : Int) (w : World) : Calls Try.prog 16 #[.pointer none, .int .i64 k, .int .i64 n] w fun e w' => e = .returned (.slice none 0 0) ∧ w = w' := by
  refine waiters_nil ?_
  by_cases e1 : k = 1
  · subst e1; exact row1_none (getM_nil n w)
  by_cases e2 : k = 2
  · subst e2; exact row2_none (getC_nil n w)
  by_cases e3 : k = 3
  · subst e3; exact row3_none (getS_nil n w)
  exact row_else _ k n w (by simpa using e1) (by simpa using e2) (by simpa using e3)

set_option maxRecDepth 100000 in
set_option maxHeartbeats 1000000 in
theorem none_calls (who n ch : Int) (all : Bool) (w : World) : Calls Try.prog 7 #[.int .i64 who, .int .i64 n, .int .i64 ch, .bool all] w fun e w' => e = .returned (.bool true) ∧ Below w.heap.size w w' := by
  go_enter Try.func7, Try.ntmps7
  go_wp2_with fail
  refine (Lock_nil who n _).mono ?_
  rintro e w1 ⟨rfl, rfl⟩
  go_wp2_with fail
  refine (Unlock_nil who n ch _).mono ?_
  rintro e w1 ⟨rfl, rfl⟩
  go_wp2_with fail
  refine (Wait_nil who n n ch _).mono ?_
  rintro e w1 ⟨rfl, rfl⟩
  go_wp2_with fail
  refine (Signal_nil n ch all _).mono ?_
  rintro e w1 ⟨rfl, rfl⟩
  go_wp2_with fail
  refine (Down_nil who n _).mono ?_
  rintro e w1 ⟨rfl, rfl⟩
  go_wp2_with fail
  refine (Up_nil n ch _).mono ?_
  rintro e w1 ⟨rfl, rfl⟩
  go_wp2_with fail
  refine (Owner_nil n _).mono ?_
  rintro e w1 ⟨rfl, rfl⟩
  go_wp2_with fail
  refine (awake_calls _).mono ?_
  rintro e w1 ⟨rfl, k1⟩
  have K1 := Lib.hid k1
  clear k1
  go_wp2_with fail
  refine (Waiters_nil ch n _).mono ?_
  rintro e w2 ⟨rfl, rfl⟩
  go_wp2_with fail
  refine (Count_nil n _).mono ?_
  rintro e w2 ⟨rfl, rfl⟩
  go_wp2_with fail
  go_ret
  exact ⟨rfl, K1.out.below (Nat.le_refl _) (fun _ e => e.elim)⟩

theorem none_row (w : World) (who : Int) (_h1 : (Lit.int .i64 who).wf = true) (n : Int) (_h2 : (Lit.int .i64 n).wf = true) (ch : Int) (_h3 : (Lit.int .i64 ch).wf = true) (all : Bool) :
    Calls Try.prog 7 #[.int .i64 who, .int .i64 n, .int .i64 ch, .bool all] w fun e w' => e = .returned (.bool true) ∧ Below w.heap.size w w' := none_calls who n ch all w

end Gt
end Go.Proofs.Ytlgolofcpokndaa
