/- The statement NumTurned. -/
import Derived.Test.YtdljdepccpmifaaNumL
namespace Go.Proofs.Ytdljdepccpmifaa
open Go.RowKit Ieee

theorem turned_row (w : World) (a : Int) (wa : (Lit.int .u64 a).wf = true) (b : Int) (wb : (Lit.int .u64 b).wf = true) : Calls Try.prog 6 #[.int .u64 a, .int .u64 b] w fun e w' => e = .returned (.bool true) ∧ Below w.heap.size w w' := by
  show Calls Try.prog 6 #[.int .u64 a, .int .u64 b] w (NYes w)
  obtain ⟨x, rfl, hx⟩ := word_of wa
  obtain ⟨y, rfl, hy⟩ := word_of wb
  have c1 := add_comm' y x
  have c2 := mul_comm' y x
  have c3 := low_comm hy hx
  have c4 := high_comm hy hx
  have c5 := xor_flip y hy
  have c6 := Lib.hid (sub_flip x y hy)
  have Hx := Lib.hid hx
  have Hy := Lib.hid hy
  have C1 := Lib.hid c1
  have C2 := Lib.hid c2
  have C3 := Lib.hid c3
  have C4 := Lib.hid c4
  clear wa wb hx hy c1 c2 c3 c4
  have e1 := eq_self (opN (double.add x y) : Nat)
  have e2 := eq_self (opN (double.mul x y) : Nat)
  have e3 := eq_self (lowN x y : Nat)
  have e4 := eq_self (highN x y : Nat)
  go_enter Try.func6, Try.ntmps6
  go_wp2_with fail
  refine (add_calls x y _).mono ?_
  rintro e w2 ⟨rfl, k2⟩
  go_wp2_with fail
  refine (add_calls y x _).mono ?_
  rintro e w3 ⟨rfl, k3⟩
  rw [C1.out]
  go_wp2_with fail
  refine (mul_calls x y _).mono ?_
  rintro e w4 ⟨rfl, k4⟩
  go_wp2_with fail
  refine (mul_calls y x _).mono ?_
  rintro e w5 ⟨rfl, k5⟩
  rw [C2.out]
  go_wp2_with fail
  refine (min_calls x y Hx.out Hy.out _).mono ?_
  rintro e w6 ⟨rfl, rfl⟩
  go_wp2_with fail
  refine (min_calls y x Hy.out Hx.out _).mono ?_
  rintro e w6 ⟨rfl, rfl⟩
  rw [C3.out]
  go_wp2_with fail
  refine (max_calls x y Hx.out Hy.out _).mono ?_
  rintro e w6 ⟨rfl, rfl⟩
  go_wp2_with fail
  refine (max_calls y x Hy.out Hx.out _).mono ?_
  rintro e w6 ⟨rfl, rfl⟩
  rw [C4.out]
  go_wp2_with fail
  refine (awake_calls _).mono ?_
  rintro e w6 ⟨rfl, k6⟩
  go_wp2_with fail
  refine (sub_calls x y _).mono ?_
  rintro e w7 ⟨rfl, k7⟩
  go_wp2_with fail
  refine (add_calls x (flipN y) _).mono ?_
  rintro e w8 ⟨rfl, k8⟩
  rw [c6.out]
  have e5 := eq_self (opN (double.add x (flipN y)) : Nat)
  go_wp2_with fail
  go_ret
  exact yes_of (by first | rfl | exact e5) (kall _ _ (kall _ _ (kall _ _ (kall _ _ (kall _ _ (kall _ _ k2 _ k3) _ k4) _ k5) _ k6) _ k7) _ k8)
end Go.Proofs.Ytdljdepccpmifaa
