/- The statement NumEdges. -/
import Derived.Test.YtdljdepccpmifaaNumR
namespace Go.Proofs.Ytdljdepccpmifaa
open Go.RowKit Ieee

theorem edges_walk (x : Nat) (hx : x < 18446744073709551616) (n : Int) (h1 : -2147483648 ≤ n) (h2 : n ≤ 2147483647) (w : World) : Calls Try.prog 7 #[.int .u64 (x : Int), .int .i32 n] w (NYes w) := by
  have A1 := Lib.hid (add_none x)
  have A2 := Lib.hid (mul_none none_nan x)
  have A3 := Lib.hid (low_none x)
  have A4 : lessB x 9221120237041090560 = false := less_nan (.inr none_nan)
  have A5 : lessB 9221120237041090560 x = false := less_nan (.inl none_nan)
  have A6 := less_self x
  have A7 : ((opN (double.div x 9218868437227405312) : Int) == 9218868437227405312) = false := beq_eq_false_iff_ne.2 (fun h => div_far x (by omega))
  obtain ⟨m, hm⟩ : ∃ m : Nat, Hid (n % 18446744073709551616 = (m : Int)) := ⟨(n % 18446744073709551616).toNat, by unfold Hid; omega⟩
  have hb : Hid (toIntN (floatW (wrap64 (m : Int))) = m) := by
    unfold Hid
    have hw : wrap64 (m : Int) = n := by unfold wrap64; have := hm.out; omega
    rw [hw, back_small n (by omega)]
    have := hm.out
    omega
  have hm2 : Hid (IntKind.u64.wrap n = (m : Int)) := hm.out
  clear hm
  have e0 : ((m : Int) == IntKind.u64.wrap n) = true := by rw [hm2.out]; exact eq_self m
  have Hx := Lib.hid hx
  by_cases hk : rungOf x < infR
  · have K : (kindN x < 2) := (kind2 x).2 hk
    have B1 := near_less hk
    have B2 := far_less hk
    have B3 := Lib.hid (add_far hk)
    have B4 := Lib.hid (high_far hk)
    have B5 := Lib.hid (low_near hk)
    clear hx hk
    go_enter Try.func7, Try.ntmps7
    go_wp2_with fail
    refine (add_calls x 9221120237041090560 _).mono ?_
    rintro e w1 ⟨rfl, k1⟩
    rw [A1.out]
    go_wp2_with fail
    refine (mul_calls 9221120237041090560 x _).mono ?_
    rintro e w2 ⟨rfl, k2⟩
    rw [A2.out]
    go_wp2_with fail
    refine (min_calls x 9221120237041090560 Hx.out (by decide) _).mono ?_
    rintro e w3 ⟨rfl, rfl⟩
    rw [A3.out]
    go_wp2_with fail
    refine (less_calls x 9221120237041090560 _).mono ?_
    rintro e w3 ⟨rfl, rfl⟩
    go_wp2_with fail
    refine (less_calls 9221120237041090560 x _).mono ?_
    rintro e w3 ⟨rfl, rfl⟩
    go_wp2_with fail
    refine (less_calls x x _).mono ?_
    rintro e w3 ⟨rfl, rfl⟩
    go_wp2_with fail
    refine (kind_calls x Hx.out _).mono ?_
    rintro e w3 ⟨rfl, rfl⟩
    go_wp2_with fail
    refine (less_calls 18442240474082181120 x _).mono ?_
    rintro e w3 ⟨rfl, rfl⟩
    go_wp2_with fail
    refine (less_calls x 9218868437227405312 _).mono ?_
    rintro e w3 ⟨rfl, rfl⟩
    go_wp2_with fail
    refine (add_calls x 9218868437227405312 _).mono ?_
    rintro e w3 ⟨rfl, k3⟩
    rw [B3.out]
    go_wp2_with fail
    refine (max_calls x 9218868437227405312 Hx.out (by decide) _).mono ?_
    rintro e w4 ⟨rfl, rfl⟩
    rw [B4.out]
    go_wp2_with fail
    refine (min_calls x 18442240474082181120 Hx.out (by decide) _).mono ?_
    rintro e w4 ⟨rfl, rfl⟩
    rw [B5.out]
    go_wp2_with fail
    refine (awake_calls _).mono ?_
    rintro e w4 ⟨rfl, k4⟩
    go_wp2_with fail
    rw [hm2.out]
    refine (tofloat_calls m _).mono ?_
    rintro e w5 ⟨rfl, rfl⟩
    go_wp2_with fail
    refine (toint_calls _ _).mono ?_
    rintro e w5 ⟨rfl, rfl⟩
    rw [hb.out]
    go_wp2_with fail
    refine (div_calls x 9218868437227405312 _).mono ?_
    rintro e w5 ⟨rfl, k5⟩
    go_wp2_with fail
    go_ret
    exact yes_of (by unfold bne; rw [A7]; rfl) (kall _ _ (kall _ _ (kall _ _ (kall _ _ k1 _ k2) _ k3) _ k4) _ k5)
  · have K : ¬ (kindN x < 2) := fun h => hk ((kind2 x).1 h)
    clear hx hk
    go_enter Try.func7, Try.ntmps7
    go_wp2_with fail
    refine (add_calls x 9221120237041090560 _).mono ?_
    rintro e w1 ⟨rfl, k1⟩
    rw [A1.out]
    go_wp2_with fail
    refine (mul_calls 9221120237041090560 x _).mono ?_
    rintro e w2 ⟨rfl, k2⟩
    rw [A2.out]
    go_wp2_with fail
    refine (min_calls x 9221120237041090560 Hx.out (by decide) _).mono ?_
    rintro e w3 ⟨rfl, rfl⟩
    rw [A3.out]
    go_wp2_with fail
    refine (less_calls x 9221120237041090560 _).mono ?_
    rintro e w3 ⟨rfl, rfl⟩
    go_wp2_with fail
    refine (less_calls 9221120237041090560 x _).mono ?_
    rintro e w3 ⟨rfl, rfl⟩
    go_wp2_with fail
    refine (less_calls x x _).mono ?_
    rintro e w3 ⟨rfl, rfl⟩
    go_wp2_with fail
    refine (kind_calls x Hx.out _).mono ?_
    rintro e w3 ⟨rfl, rfl⟩
    go_wp2_with fail
    refine (awake_calls _).mono ?_
    rintro e w4 ⟨rfl, k4⟩
    go_wp2_with fail
    rw [hm2.out]
    refine (tofloat_calls m _).mono ?_
    rintro e w5 ⟨rfl, rfl⟩
    go_wp2_with fail
    refine (toint_calls _ _).mono ?_
    rintro e w5 ⟨rfl, rfl⟩
    rw [hb.out]
    go_wp2_with fail
    refine (div_calls x 9218868437227405312 _).mono ?_
    rintro e w5 ⟨rfl, k5⟩
    go_wp2_with fail
    go_ret
    exact yes_of (by unfold bne; rw [A7]; rfl) (kall _ _ (kall _ _ (kall _ _ k1 _ k2) _ k4) _ k5)

theorem edges_row (w : World) (a : Int) (wa : (Lit.int .u64 a).wf = true) (n : Int) (wn : (Lit.int .i32 n).wf = true) : Calls Try.prog 7 #[.int .u64 a, .int .i32 n] w fun e w' => e = .returned (.bool true) ∧ Below w.heap.size w w' := by
  obtain ⟨x, rfl, hx⟩ := word_of wa
  have e1 : IntKind.i32.min = -2147483648 := by decide
  have e2 : IntKind.i32.max = 2147483647 := by decide
  simp [Lit.wf, e1, e2] at wn
  exact edges_walk x hx n wn.1 wn.2 w
end Go.Proofs.Ytdljdepccpmifaa
