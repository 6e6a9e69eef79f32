/- The statements NumTwo and NumMin. -/
import Derived.Test.YtdljdepccpmifaaNumH
namespace Go.Proofs.Ytdljdepccpmifaa
open Go.RowKit Ieee

theorem word_of {a : Int} (h : (Lit.int .u64 a).wf = true) : ∃ x : Nat, a = (x : Int) ∧ x < 18446744073709551616 := by
  have e1 : IntKind.u64.min = 0 := by decide
  have e2 : IntKind.u64.max = 18446744073709551615 := by decide
  simp [Lit.wf, e1, e2] at h
  exact ⟨a.toNat, by omega, by omega⟩
theorem eq_self (a : Int) : (a == a) = true := beq_self_eq_true a

theorem two_row (w : World) (a : Int) (wa : (Lit.int .u64 a).wf = true) (b : Int) (wb : (Lit.int .u64 b).wf = true) : Calls Try.prog 3 #[.int .u64 a, .int .u64 b] w fun e w' => e = .returned (.bool true) ∧ Below w.heap.size w w' := by
  obtain ⟨x, rfl, _⟩ := word_of wa
  obtain ⟨y, rfl, _⟩ := word_of wb
  clear wa wb
  go_enter Try.func3, Try.ntmps3
  go_wp2_with fail
  refine (awake_calls _).mono ?_
  rintro e w1 ⟨rfl, k1⟩
  go_wp2_with fail
  refine (add_calls x y _).mono ?_
  rintro e w2 ⟨rfl, k2⟩
  go_wp2_with fail
  refine (two1_calls x y _).mono ?_
  rintro e w3 ⟨rfl, k3⟩
  have := eq_self (opN (double.add x y) : Nat)
  go_wp2_with fail
  refine (sub_calls x y _).mono ?_
  rintro e w4 ⟨rfl, k4⟩
  go_wp2_with fail
  refine (two2_calls x y _).mono ?_
  rintro e w5 ⟨rfl, k5⟩
  have := eq_self (opN (double.sub x y) : Nat)
  go_wp2_with fail
  refine (mul_calls x y _).mono ?_
  rintro e w6 ⟨rfl, k6⟩
  go_wp2_with fail
  refine (two3_calls x y _).mono ?_
  rintro e w7 ⟨rfl, k7⟩
  have := eq_self (opN (double.mul x y) : Nat)
  go_wp2_with fail
  refine (div_calls x y _).mono ?_
  rintro e w8 ⟨rfl, k8⟩
  go_wp2_with fail
  refine (two4_calls x y _).mono ?_
  rintro e w9 ⟨rfl, k9⟩
  have := eq_self (opN (double.div x y) : Nat)
  go_wp2_with fail
  go_ret
  exact ⟨ret_bool (by first | rfl | exact eq_self _), (kall _ _ (kall _ _ (kall _ _ (kall _ _ (kall _ _ (kall _ _ (kall _ _ (kall _ _ k1 _ k2) _ k3) _ k4) _ k5) _ k6) _ k7) _ k8) _ k9).below (Nat.le_refl _) (fun k h => h.elim)⟩

theorem min_row (w : World) (a : Int) (wa : (Lit.int .u64 a).wf = true) (b : Int) (wb : (Lit.int .u64 b).wf = true) : Calls Try.prog 4 #[.int .u64 a, .int .u64 b] w fun e w' => e = .returned (.bool true) ∧ Below w.heap.size w w' := by
  obtain ⟨x, rfl, hx⟩ := word_of wa
  obtain ⟨y, rfl, hy⟩ := word_of wb
  have Hx := Lib.hid hx
  have Hy := Lib.hid hy
  clear wa wb hx hy
  go_enter Try.func4, Try.ntmps4
  go_wp2_with fail
  refine (awake_calls _).mono ?_
  rintro e w1 ⟨rfl, k1⟩
  go_wp2_with fail
  refine (min_calls x y Hx.out Hy.out _).mono ?_
  rintro e w2 ⟨rfl, rfl⟩
  go_wp2_with fail
  refine (rmin_calls x y Hx.out Hy.out _).mono ?_
  rintro e w3 ⟨rfl, rfl⟩
  have := eq_self (lowN x y : Nat)
  go_wp2_with fail
  refine (max_calls x y Hx.out Hy.out _).mono ?_
  rintro e w2 ⟨rfl, rfl⟩
  go_wp2_with fail
  refine (rmax_calls x y Hx.out Hy.out _).mono ?_
  rintro e w3 ⟨rfl, rfl⟩
  have := eq_self (highN x y : Nat)
  go_wp2_with fail
  refine (less_calls x y _).mono ?_
  rintro e w4 ⟨rfl, rfl⟩
  go_wp2_with fail
  refine (rless_calls x y Hx.out Hy.out _).mono ?_
  rintro e w5 ⟨rfl, rfl⟩
  go_wp2_with fail
  go_ret
  exact ⟨by first | rfl | exact ret_bool (beq_self_eq_true _), k1.below (Nat.le_refl _) (fun k h => h.elim)⟩
end Go.Proofs.Ytdljdepccpmifaa
