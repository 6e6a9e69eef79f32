/- Arith: what two words come to; and the reference's. -/
import Derived.Test.YtlnoejmckpimnaaNumV
namespace Go.Proofs.Ytlnoejmckpimnaa
open Go.RowKit Ieee
namespace Fr

def sgn (b : Bool) : Int := if b then 1 else 0

/-- What an operation makes of two words. -/
def ariI (op : Int) (x y : Nat) : Option Int :=
  if op = 2 then some x else if op = 3 then some (IntKind.u64.wrap ((x : Int) + y)) else if op = 4 then some (IntKind.u64.wrap ((x : Int) - y)) else if op = 5 then some (IntKind.u64.wrap ((x : Int) * y))
  else if op = 6 then some (sgn (decide (x < y)))
  else if op = 7 then some (opN (double.add x y) : Nat) else if op = 8 then some (opN (double.sub x y) : Nat) else if op = 9 then some (opN (double.mul x y) : Nat) else if op = 10 then some (opN (double.div x y) : Nat)
  else if op = 11 then some (lowN x y : Nat) else if op = 12 then some (highN x y : Nat) else if op = 13 then some (sgn (lessB x y))
  else if op = 14 then some (toIntN x : Nat) else if op = 15 then some (floatW (wrap64 x) : Nat) else none

abbrev out2 (n : Int) (b : Bool) : Ending := .returned (.tuple #[.int .u64 n, .bool b])

def AriPost (op : Int) (x y : Nat) (w : World) (e : Ending) (w' : World) : Prop := (e = match ariI op x y with | some v => out2 v true | none => out2 0 false) ∧ Keeps NoBlock w w'

theorem yes_calls (b : Bool) (w : World) : Calls Try.prog 27 #[.bool b] w fun e w' => e = .returned (.int .u64 (sgn b)) ∧ w' = w := by
  cases b <;>
  · go_enter Try.func27, Try.ntmps27
    go_wp2
    go_ret
    exact ⟨rfl, rfl⟩

theorem op_cases (op : Int) : op = 2 ∨ op = 3 ∨ op = 4 ∨ op = 5 ∨ op = 6 ∨ op = 7 ∨ op = 8 ∨ op = 9 ∨ op = 10 ∨ op = 11 ∨ op = 12 ∨ op = 13 ∨ op = 14 ∨ op = 15 ∨ (op < 2 ∨ 15 < op) := by omega

theorem ariI_none {op : Int} (h : op < 2 ∨ 15 < op) (x y : Nat) : ariI op x y = none := by
  unfold ariI
  simp only [show ¬ op = 2 by omega, show ¬ op = 3 by omega, show ¬ op = 4 by omega, show ¬ op = 5 by omega, show ¬ op = 6 by omega, show ¬ op = 7 by omega, show ¬ op = 8 by omega, show ¬ op = 9 by omega, show ¬ op = 10 by omega, show ¬ op = 11 by omega, show ¬ op = 12 by omega, show ¬ op = 13 by omega, show ¬ op = 14 by omega, show ¬ op = 15 by omega, if_false]

theorem ari_2 (x y : Nat) (w : World) : Calls Try.prog 13 #[.int .i64 2, .int .u64 (x : Int), .int .u64 (y : Int)] w (AriPost 2 x y w) := by
  go_enter Try.func13, Try.ntmps13
  go_wp2_with fail
  go_ret2
  exact ⟨rfl, Keeps.refl _ _⟩
theorem ari_3 (x y : Nat) (w : World) : Calls Try.prog 13 #[.int .i64 3, .int .u64 (x : Int), .int .u64 (y : Int)] w (AriPost 3 x y w) := by
  go_enter Try.func13, Try.ntmps13
  go_wp2_with fail
  go_ret2
  exact ⟨rfl, Keeps.refl _ _⟩
theorem ari_4 (x y : Nat) (w : World) : Calls Try.prog 13 #[.int .i64 4, .int .u64 (x : Int), .int .u64 (y : Int)] w (AriPost 4 x y w) := by
  go_enter Try.func13, Try.ntmps13
  go_wp2_with fail
  go_ret2
  exact ⟨rfl, Keeps.refl _ _⟩
theorem ari_5 (x y : Nat) (w : World) : Calls Try.prog 13 #[.int .i64 5, .int .u64 (x : Int), .int .u64 (y : Int)] w (AriPost 5 x y w) := by
  go_enter Try.func13, Try.ntmps13
  go_wp2_with fail
  go_ret2
  exact ⟨rfl, Keeps.refl _ _⟩
theorem ari_6 (x y : Nat) (hx : x < 18446744073709551616) (hy : y < 18446744073709551616) (w : World) : Calls Try.prog 13 #[.int .i64 6, .int .u64 (x : Int), .int .u64 (y : Int)] w (AriPost 6 x y w) := by
  have Hx := Lib.hid hx
  have Hy := Lib.hid hy
  clear hx hy
  go_enter Try.func13, Try.ntmps13
  go_wp2_with fail
  refine (yes_calls _ _).mono ?_
  rintro e w1 ⟨rfl, rfl⟩
  go_wp2_with fail
  go_ret2
  exact ⟨rfl, Keeps.refl _ _⟩
theorem ari_7 (x y : Nat) (hx : x < 18446744073709551616) (hy : y < 18446744073709551616) (w : World) : Calls Try.prog 13 #[.int .i64 7, .int .u64 (x : Int), .int .u64 (y : Int)] w (AriPost 7 x y w) := by
  have Hx := Lib.hid hx
  have Hy := Lib.hid hy
  clear hx hy
  go_enter Try.func13, Try.ntmps13
  go_wp2_with fail
  refine (add_calls x y _).mono ?_
  rintro e w1 ⟨rfl, k1⟩
  go_wp2_with fail
  go_ret2
  exact ⟨rfl, k1⟩
theorem ari_8 (x y : Nat) (hx : x < 18446744073709551616) (hy : y < 18446744073709551616) (w : World) : Calls Try.prog 13 #[.int .i64 8, .int .u64 (x : Int), .int .u64 (y : Int)] w (AriPost 8 x y w) := by
  have Hx := Lib.hid hx
  have Hy := Lib.hid hy
  clear hx hy
  go_enter Try.func13, Try.ntmps13
  go_wp2_with fail
  refine (sub_calls x y _).mono ?_
  rintro e w1 ⟨rfl, k1⟩
  go_wp2_with fail
  go_ret2
  exact ⟨rfl, k1⟩
theorem ari_9 (x y : Nat) (hx : x < 18446744073709551616) (hy : y < 18446744073709551616) (w : World) : Calls Try.prog 13 #[.int .i64 9, .int .u64 (x : Int), .int .u64 (y : Int)] w (AriPost 9 x y w) := by
  have Hx := Lib.hid hx
  have Hy := Lib.hid hy
  clear hx hy
  go_enter Try.func13, Try.ntmps13
  go_wp2_with fail
  refine (mul_calls x y _).mono ?_
  rintro e w1 ⟨rfl, k1⟩
  go_wp2_with fail
  go_ret2
  exact ⟨rfl, k1⟩
theorem ari_10 (x y : Nat) (hx : x < 18446744073709551616) (hy : y < 18446744073709551616) (w : World) : Calls Try.prog 13 #[.int .i64 10, .int .u64 (x : Int), .int .u64 (y : Int)] w (AriPost 10 x y w) := by
  have Hx := Lib.hid hx
  have Hy := Lib.hid hy
  clear hx hy
  go_enter Try.func13, Try.ntmps13
  go_wp2_with fail
  refine (div_calls x y _).mono ?_
  rintro e w1 ⟨rfl, k1⟩
  go_wp2_with fail
  go_ret2
  exact ⟨rfl, k1⟩
theorem ari_11 (x y : Nat) (hx : x < 18446744073709551616) (hy : y < 18446744073709551616) (w : World) : Calls Try.prog 13 #[.int .i64 11, .int .u64 (x : Int), .int .u64 (y : Int)] w (AriPost 11 x y w) := by
  have Hx := Lib.hid hx
  have Hy := Lib.hid hy
  clear hx hy
  go_enter Try.func13, Try.ntmps13
  go_wp2_with fail
  refine (min_calls x y Hx.out Hy.out _).mono ?_
  rintro e w1 ⟨rfl, rfl⟩
  go_wp2_with fail
  go_ret2
  exact ⟨rfl, Keeps.refl _ _⟩
theorem ari_12 (x y : Nat) (hx : x < 18446744073709551616) (hy : y < 18446744073709551616) (w : World) : Calls Try.prog 13 #[.int .i64 12, .int .u64 (x : Int), .int .u64 (y : Int)] w (AriPost 12 x y w) := by
  have Hx := Lib.hid hx
  have Hy := Lib.hid hy
  clear hx hy
  go_enter Try.func13, Try.ntmps13
  go_wp2_with fail
  refine (max_calls x y Hx.out Hy.out _).mono ?_
  rintro e w1 ⟨rfl, rfl⟩
  go_wp2_with fail
  go_ret2
  exact ⟨rfl, Keeps.refl _ _⟩
theorem ari_14 (x y : Nat) (hx : x < 18446744073709551616) (hy : y < 18446744073709551616) (w : World) : Calls Try.prog 13 #[.int .i64 14, .int .u64 (x : Int), .int .u64 (y : Int)] w (AriPost 14 x y w) := by
  have Hx := Lib.hid hx
  have Hy := Lib.hid hy
  clear hx hy
  go_enter Try.func13, Try.ntmps13
  go_wp2_with fail
  refine (toint_calls x _).mono ?_
  rintro e w1 ⟨rfl, rfl⟩
  go_wp2_with fail
  go_ret2
  exact ⟨rfl, Keeps.refl _ _⟩
theorem ari_15 (x y : Nat) (hx : x < 18446744073709551616) (hy : y < 18446744073709551616) (w : World) : Calls Try.prog 13 #[.int .i64 15, .int .u64 (x : Int), .int .u64 (y : Int)] w (AriPost 15 x y w) := by
  have Hx := Lib.hid hx
  have Hy := Lib.hid hy
  clear hx hy
  go_enter Try.func13, Try.ntmps13
  go_wp2_with fail
  refine (tofloat_calls x _).mono ?_
  rintro e w1 ⟨rfl, rfl⟩
  go_wp2_with fail
  go_ret2
  exact ⟨rfl, Keeps.refl _ _⟩
theorem rari_2 (x y : Nat) (w : World) : Calls Try.prog 14 #[.int .i64 2, .int .u64 (x : Int), .int .u64 (y : Int)] w (AriPost 2 x y w) := by
  go_enter Try.func14, Try.ntmps14
  go_wp2_with fail
  go_ret2
  exact ⟨rfl, Keeps.refl _ _⟩
theorem rari_3 (x y : Nat) (w : World) : Calls Try.prog 14 #[.int .i64 3, .int .u64 (x : Int), .int .u64 (y : Int)] w (AriPost 3 x y w) := by
  go_enter Try.func14, Try.ntmps14
  go_wp2_with fail
  go_ret2
  exact ⟨rfl, Keeps.refl _ _⟩
theorem rari_4 (x y : Nat) (w : World) : Calls Try.prog 14 #[.int .i64 4, .int .u64 (x : Int), .int .u64 (y : Int)] w (AriPost 4 x y w) := by
  go_enter Try.func14, Try.ntmps14
  go_wp2_with fail
  go_ret2
  exact ⟨rfl, Keeps.refl _ _⟩
theorem rari_5 (x y : Nat) (w : World) : Calls Try.prog 14 #[.int .i64 5, .int .u64 (x : Int), .int .u64 (y : Int)] w (AriPost 5 x y w) := by
  go_enter Try.func14, Try.ntmps14
  go_wp2_with fail
  go_ret2
  exact ⟨rfl, Keeps.refl _ _⟩
theorem rari_7 (x y : Nat) (hx : x < 18446744073709551616) (hy : y < 18446744073709551616) (w : World) : Calls Try.prog 14 #[.int .i64 7, .int .u64 (x : Int), .int .u64 (y : Int)] w (AriPost 7 x y w) := by
  have Hx := Lib.hid hx
  have Hy := Lib.hid hy
  clear hx hy
  go_enter Try.func14, Try.ntmps14
  go_wp2_with fail
  refine (two1_calls x y _).mono ?_
  rintro e w1 ⟨rfl, k1⟩
  go_wp2_with fail
  go_ret2
  exact ⟨rfl, k1⟩
theorem rari_8 (x y : Nat) (hx : x < 18446744073709551616) (hy : y < 18446744073709551616) (w : World) : Calls Try.prog 14 #[.int .i64 8, .int .u64 (x : Int), .int .u64 (y : Int)] w (AriPost 8 x y w) := by
  have Hx := Lib.hid hx
  have Hy := Lib.hid hy
  clear hx hy
  go_enter Try.func14, Try.ntmps14
  go_wp2_with fail
  refine (two2_calls x y _).mono ?_
  rintro e w1 ⟨rfl, k1⟩
  go_wp2_with fail
  go_ret2
  exact ⟨rfl, k1⟩
theorem rari_9 (x y : Nat) (hx : x < 18446744073709551616) (hy : y < 18446744073709551616) (w : World) : Calls Try.prog 14 #[.int .i64 9, .int .u64 (x : Int), .int .u64 (y : Int)] w (AriPost 9 x y w) := by
  have Hx := Lib.hid hx
  have Hy := Lib.hid hy
  clear hx hy
  go_enter Try.func14, Try.ntmps14
  go_wp2_with fail
  refine (two3_calls x y _).mono ?_
  rintro e w1 ⟨rfl, k1⟩
  go_wp2_with fail
  go_ret2
  exact ⟨rfl, k1⟩
theorem rari_10 (x y : Nat) (hx : x < 18446744073709551616) (hy : y < 18446744073709551616) (w : World) : Calls Try.prog 14 #[.int .i64 10, .int .u64 (x : Int), .int .u64 (y : Int)] w (AriPost 10 x y w) := by
  have Hx := Lib.hid hx
  have Hy := Lib.hid hy
  clear hx hy
  go_enter Try.func14, Try.ntmps14
  go_wp2_with fail
  refine (two4_calls x y _).mono ?_
  rintro e w1 ⟨rfl, k1⟩
  go_wp2_with fail
  go_ret2
  exact ⟨rfl, k1⟩
theorem rari_11 (x y : Nat) (hx : x < 18446744073709551616) (hy : y < 18446744073709551616) (w : World) : Calls Try.prog 14 #[.int .i64 11, .int .u64 (x : Int), .int .u64 (y : Int)] w (AriPost 11 x y w) := by
  have Hx := Lib.hid hx
  have Hy := Lib.hid hy
  clear hx hy
  go_enter Try.func14, Try.ntmps14
  go_wp2_with fail
  refine (rmin_calls x y Hx.out Hy.out _).mono ?_
  rintro e w1 ⟨rfl, rfl⟩
  go_wp2_with fail
  go_ret2
  exact ⟨rfl, Keeps.refl _ _⟩
theorem rari_12 (x y : Nat) (hx : x < 18446744073709551616) (hy : y < 18446744073709551616) (w : World) : Calls Try.prog 14 #[.int .i64 12, .int .u64 (x : Int), .int .u64 (y : Int)] w (AriPost 12 x y w) := by
  have Hx := Lib.hid hx
  have Hy := Lib.hid hy
  clear hx hy
  go_enter Try.func14, Try.ntmps14
  go_wp2_with fail
  refine (rmax_calls x y Hx.out Hy.out _).mono ?_
  rintro e w1 ⟨rfl, rfl⟩
  go_wp2_with fail
  go_ret2
  exact ⟨rfl, Keeps.refl _ _⟩
theorem rari_14 (x y : Nat) (hx : x < 18446744073709551616) (hy : y < 18446744073709551616) (w : World) : Calls Try.prog 14 #[.int .i64 14, .int .u64 (x : Int), .int .u64 (y : Int)] w (AriPost 14 x y w) := by
  have Hx := Lib.hid hx
  have Hy := Lib.hid hy
  clear hx hy
  go_enter Try.func14, Try.ntmps14
  go_wp2_with fail
  refine (rtoint_calls x Hx.out _).mono ?_
  rintro e w1 ⟨rfl, rfl⟩
  go_wp2_with fail
  go_ret2
  exact ⟨rfl, Keeps.refl _ _⟩
theorem rari_15 (x y : Nat) (hx : x < 18446744073709551616) (hy : y < 18446744073709551616) (w : World) : Calls Try.prog 14 #[.int .i64 15, .int .u64 (x : Int), .int .u64 (y : Int)] w (AriPost 15 x y w) := by
  have Hx := Lib.hid hx
  have Hy := Lib.hid hy
  clear hx hy
  go_enter Try.func14, Try.ntmps14
  go_wp2_with fail
  refine (rtofloat_calls x Hx.out _).mono ?_
  rintro e w1 ⟨rfl, rfl⟩
  go_wp2_with fail
  go_ret2
  exact ⟨rfl, Keeps.refl _ _⟩

theorem ari_13 (x y : Nat) (w : World) : Calls Try.prog 13 #[.int .i64 13, .int .u64 (x : Int), .int .u64 (y : Int)] w (AriPost 13 x y w) := by
  go_enter Try.func13, Try.ntmps13
  go_wp2_with fail
  refine (less_calls x y _).mono ?_
  rintro e w1 ⟨rfl, rfl⟩
  go_wp2_with fail
  refine (yes_calls _ _).mono ?_
  rintro e w1 ⟨rfl, rfl⟩
  go_wp2_with fail
  go_ret2
  exact ⟨rfl, Keeps.refl _ _⟩

theorem rari_6 (x y : Nat) (w : World) : Calls Try.prog 14 #[.int .i64 6, .int .u64 (x : Int), .int .u64 (y : Int)] w (AriPost 6 x y w) := by
  by_cases h : (x : Int) < y
  · have hv : Hid (ariI 6 x y = some 1) := by show some (sgn (decide (x < y))) = _; rw [decide_eq_true (by omega)]; rfl
    go_enter Try.func14, Try.ntmps14
    go_wp2_with fail
    go_ret2
    exact ⟨by rw [hv.out]; rfl, Keeps.refl _ _⟩
  · have hv : Hid (ariI 6 x y = some 0) := by show some (sgn (decide (x < y))) = _; rw [decide_eq_false (by omega)]; rfl
    go_enter Try.func14, Try.ntmps14
    go_wp2_with fail
    go_ret2
    exact ⟨by rw [hv.out]; rfl, Keeps.refl _ _⟩

theorem rari_13 (x y : Nat) (hx : x < 18446744073709551616) (hy : y < 18446744073709551616) (w : World) : Calls Try.prog 14 #[.int .i64 13, .int .u64 (x : Int), .int .u64 (y : Int)] w (AriPost 13 x y w) := by
  have hc := Lib.hid (rless_calls x y hx hy w)
  clear hx hy
  obtain ⟨l, hl⟩ : ∃ l, Hid (lessB x y = l) := ⟨_, rfl⟩
  have hv : Hid (ariI 13 x y = some (sgn l)) := by show some (sgn (lessB x y)) = _; rw [hl.out]
  cases l <;>
  · go_enter Try.func14, Try.ntmps14
    go_wp2_with fail
    refine hc.out.mono ?_
    rintro e w1 ⟨rfl, rfl⟩
    rw [hl.out]
    go_wp2_with fail
    go_ret2
    exact ⟨by rw [hv.out]; rfl, Keeps.refl _ _⟩

theorem ari_none (op : Int) (h : op < 2 ∨ 15 < op) (x y : Nat) (w : World) : Calls Try.prog 13 #[.int .i64 op, .int .u64 (x : Int), .int .u64 (y : Int)] w (AriPost op x y w) := by
  have hv := Lib.hid (ariI_none h x y)
  have q2 : (op == 2) = false := beq_eq_false_iff_ne.2 (by omega)
  have q3 : (op == 3) = false := beq_eq_false_iff_ne.2 (by omega)
  have q4 : (op == 4) = false := beq_eq_false_iff_ne.2 (by omega)
  have q5 : (op == 5) = false := beq_eq_false_iff_ne.2 (by omega)
  have q6 : (op == 6) = false := beq_eq_false_iff_ne.2 (by omega)
  have q7 : (op == 7) = false := beq_eq_false_iff_ne.2 (by omega)
  have q8 : (op == 8) = false := beq_eq_false_iff_ne.2 (by omega)
  have q9 : (op == 9) = false := beq_eq_false_iff_ne.2 (by omega)
  have q10 : (op == 10) = false := beq_eq_false_iff_ne.2 (by omega)
  have q11 : (op == 11) = false := beq_eq_false_iff_ne.2 (by omega)
  have q12 : (op == 12) = false := beq_eq_false_iff_ne.2 (by omega)
  have q13 : (op == 13) = false := beq_eq_false_iff_ne.2 (by omega)
  have q14 : (op == 14) = false := beq_eq_false_iff_ne.2 (by omega)
  have q15 : (op == 15) = false := beq_eq_false_iff_ne.2 (by omega)
  clear h
  go_enter Try.func13, Try.ntmps13
  go_wp2_with fail
  go_ret2
  exact ⟨by rw [hv.out]; rfl, Keeps.refl _ _⟩
theorem rari_none (op : Int) (h : op < 2 ∨ 15 < op) (x y : Nat) (w : World) : Calls Try.prog 14 #[.int .i64 op, .int .u64 (x : Int), .int .u64 (y : Int)] w (AriPost op x y w) := by
  have hv := Lib.hid (ariI_none h x y)
  have q2 : (op == 2) = false := beq_eq_false_iff_ne.2 (by omega)
  have q3 : (op == 3) = false := beq_eq_false_iff_ne.2 (by omega)
  have q4 : (op == 4) = false := beq_eq_false_iff_ne.2 (by omega)
  have q5 : (op == 5) = false := beq_eq_false_iff_ne.2 (by omega)
  have q6 : (op == 6) = false := beq_eq_false_iff_ne.2 (by omega)
  have q7 : (op == 7) = false := beq_eq_false_iff_ne.2 (by omega)
  have q8 : (op == 8) = false := beq_eq_false_iff_ne.2 (by omega)
  have q9 : (op == 9) = false := beq_eq_false_iff_ne.2 (by omega)
  have q10 : (op == 10) = false := beq_eq_false_iff_ne.2 (by omega)
  have q11 : (op == 11) = false := beq_eq_false_iff_ne.2 (by omega)
  have q12 : (op == 12) = false := beq_eq_false_iff_ne.2 (by omega)
  have q13 : (op == 13) = false := beq_eq_false_iff_ne.2 (by omega)
  have q14 : (op == 14) = false := beq_eq_false_iff_ne.2 (by omega)
  have q15 : (op == 15) = false := beq_eq_false_iff_ne.2 (by omega)
  clear h
  go_enter Try.func14, Try.ntmps14
  go_wp2_with fail
  go_ret2
  exact ⟨by rw [hv.out]; rfl, Keeps.refl _ _⟩

theorem ari_calls (op : Int) (x y : Nat) (hx : x < 18446744073709551616) (hy : y < 18446744073709551616) (w : World) : Calls Try.prog 13 #[.int .i64 op, .int .u64 (x : Int), .int .u64 (y : Int)] w (AriPost op x y w) := by
  rcases op_cases op with rfl | rfl | rfl | rfl | rfl | rfl | rfl | rfl | rfl | rfl | rfl | rfl | rfl | rfl | h
  · exact ari_2 x y w
  · exact ari_3 x y w
  · exact ari_4 x y w
  · exact ari_5 x y w
  · exact ari_6 x y hx hy w
  · exact ari_7 x y hx hy w
  · exact ari_8 x y hx hy w
  · exact ari_9 x y hx hy w
  · exact ari_10 x y hx hy w
  · exact ari_11 x y hx hy w
  · exact ari_12 x y hx hy w
  · exact ari_13 x y w
  · exact ari_14 x y hx hy w
  · exact ari_15 x y hx hy w
  · exact ari_none op h x y w
theorem rari_calls (op : Int) (x y : Nat) (hx : x < 18446744073709551616) (hy : y < 18446744073709551616) (w : World) : Calls Try.prog 14 #[.int .i64 op, .int .u64 (x : Int), .int .u64 (y : Int)] w (AriPost op x y w) := by
  rcases op_cases op with rfl | rfl | rfl | rfl | rfl | rfl | rfl | rfl | rfl | rfl | rfl | rfl | rfl | rfl | h
  · exact rari_2 x y w
  · exact rari_3 x y w
  · exact rari_4 x y w
  · exact rari_5 x y w
  · exact rari_6 x y w
  · exact rari_7 x y hx hy w
  · exact rari_8 x y hx hy w
  · exact rari_9 x y hx hy w
  · exact rari_10 x y hx hy w
  · exact rari_11 x y hx hy w
  · exact rari_12 x y hx hy w
  · exact rari_13 x y hx hy w
  · exact rari_14 x y hx hy w
  · exact rari_15 x y hx hy w
  · exact rari_none op h x y w
end Fr
end Go.Proofs.Ytlnoejmckpimnaa
