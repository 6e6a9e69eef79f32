/- Package num: sums, differences, products, quotients: what each call comes to. -/
import Derived.Test.YtlnoejmckpimnaaProg
import Derived.Test.YtlnoejmckpimnaaMem
import Derived.Test.YtlnoejmckpimnaaNumP
import Derived.KernelRfl
import Derived.Handy
import Derived.Outline
import Derived.Laws.Externs
import Derived.Laws.FloatArith
namespace Go.Proofs.Ytlnoejmckpimnaa
open Go.RowKit Ieee

theorem ret_int {k : IntKind} {a b : Int} (h : a = b) : Ending.returned (.int k a) = .returned (.int k b) := by rw [h]
theorem ret_bool {a b : Bool} (h : a = b) : Ending.returned (.bool a) = .returned (.bool b) := by rw [h]

def noneW : Nat := 9221120237041090560
def nanB (x : Nat) : Bool := decide (infR < rungOf x)
def cleanN (r : Nat) : Nat := if nanB r then noneW else r
def opN (o : Option Nat) : Nat := match o with | some r => cleanN r | none => noneW

theorem neq_self (x : Nat) : (double.order x x != some .eq) = nanB x := by
  unfold nanB
  by_cases hn : infR < rungOf x
  · rw [order_nan (.inl (show isNan x from hn)), decide_eq_true hn]; rfl
  · rw [order_key (show ¬ isNan x from hn) (show ¬ isNan x from hn), compare_eq rfl, decide_eq_false hn]; rfl

theorem run_frombits (a : Nat) (w : World) : (callFunc 53 #[.int .u64 (a : Int)]).run Try.prog w = .ok (.value (.float .f64 a)) w := by
  rw [run_callFunc_extern (e := Extern.MathFloatBits.float64frombits) Try.func53 (by kernel_rfl) (by kernel_rfl) (by kernel_rfl) (by kernel_rfl)]
  rfl
theorem run_bits (a : Nat) (w : World) : (callFunc 55 #[.float .f64 a]).run Try.prog w = .ok (.value (.int .u64 (a : Int))) w := by
  rw [run_callFunc_extern (e := Extern.MathFloatBits.float64bits) Try.func55 (by kernel_rfl) (by kernel_rfl) (by kernel_rfl) (by kernel_rfl)]
  rfl

theorem of_calls (a : Nat) (w : World) : Calls Try.prog 47 #[.int .u64 (a : Int)] w fun e w' => e = .returned (.float .f64 a) ∧ w' = w := by
  have hx := fun w => run_frombits a w
  go_enter Try.func47, Try.ntmps47
  go_wp2_with fail
  go_ret
  exact ⟨rfl, rfl⟩

theorem isnan_calls (a : Nat) (w : World) : Calls Try.prog 67 #[.float .f64 a] w fun e w' => e = .returned (.bool (nanB a)) ∧ w' = w := by
  go_enter Try.func67, Try.ntmps67
  go_wp2_with fail
  go_ret
  exact ⟨ret_bool (neq_self a), rfl⟩

theorem isnone_calls (a : Nat) (w : World) : Calls Try.prog 52 #[.float .f64 a] w fun e w' => e = .returned (.bool (nanB a)) ∧ w' = w := by
  go_enter Try.func52, Try.ntmps52
  go_wp2_with fail
  refine (isnan_calls _ _).mono ?_
  rintro e w' ⟨rfl, rfl⟩
  go_wp2_with fail
  go_ret
  exact ⟨rfl, rfl⟩

theorem word_calls (a : Nat) (w : World) : Calls Try.prog 48 #[.float .f64 a] w fun e w' => e = .returned (.int .u64 (cleanN a : Nat)) ∧ w' = w := by
  have hx := fun w => run_bits a w
  go_enter Try.func48, Try.ntmps48
  go_wp2_with fail
  refine (isnone_calls _ _).mono ?_
  rintro e w' ⟨rfl, rfl⟩
  cases hn : nanB a with
  | true =>
    have Hn := Lib.hid hn
    clear hn
    go_wp2_with fail
    go_ret
    exact ⟨ret_int (by unfold cleanN; rw [Hn.out]; rfl), rfl⟩
  | false =>
    have Hn := Lib.hid hn
    clear hn
    go_wp2_with fail
    go_ret
    exact ⟨ret_int (by unfold cleanN; rw [Hn.out]; rfl), rfl⟩

/-- What the machine's own sum, difference, product or quotient gives: a word, whatever it is where there is no number. -/
def Gives (o : Option Nat) (b : Nat) : Prop := match o with | some r => b = r | none => nanB b = true
theorem gives_clean {o : Option Nat} {b : Nat} (h : Gives o b) : cleanN b = opN o := by
  cases o with
  | some r => rw [show b = r from h]; rfl
  | none => unfold cleanN; rw [show nanB b = true from h]; rfl

theorem nan_bits (t : Nat) : nanB ((t % 2) * 2 ^ 63 + 0x7ff0000000000000 + 1 + (t / 2) % (2 ^ 52 - 1)) = true := by
  have hu : (t / 2) % (2 ^ 52 - 1) < 4503599627370495 := Nat.mod_lt _ (by decide)
  generalize (t / 2) % (2 ^ 52 - 1) = u at hu ⊢
  have h2 : t % 2 = 0 ∨ t % 2 = 1 := by omega
  unfold nanB rungOf infR
  apply decide_eq_true
  rcases h2 with h | h <;> rw [h] <;> omega

theorem nan_lt (t : Nat) : (t % 2) * 2 ^ 63 + 0x7ff0000000000000 + 1 + (t / 2) % (2 ^ 52 - 1) < 18446744073709551616 := by
  have hu : (t / 2) % (2 ^ 52 - 1) < 4503599627370495 := Nat.mod_lt _ (by decide)
  generalize (t / 2) % (2 ^ 52 - 1) = u at hu ⊢
  have h2 : t % 2 = 0 ∨ t % 2 = 1 := by omega
  rcases h2 with h | h <;> rw [h] <;> omega

theorem run_float {P : Program} (op : BinOp) (t : TypeId) (x y : Nat) (hop : op = .add ∨ op = .sub ∨ op = .mul ∨ op = .quo) (w : World) :
    ∃ b w', (Go.binOp op t (.float .f64 x) (.float .f64 y)).run P w = .ok (.float .f64 b) w' ∧ Gives (floatBits op .f64 x y) b ∧ Keeps NoBlock w w' ∧ b < 18446744073709551616 := by
  cases h : floatBits op .f64 x y with
  | some r => exact ⟨r, w, run_float_arith w op t .f64 x y r h, rfl, Keeps.refl _ _, by have := floatBits_wf h; simp [Lit.wf] at this; exact this⟩
  | none =>
    refine ⟨_, w.drew, ?_, nan_bits (w.tape w.drawn (.nanBits .f64 x y)), (Keeps.refl _ w).drew, nan_lt _⟩
    unfold floatBits at h
    rcases hop with rfl | rfl | rfl | rfl <;> simp only at h <;> simp [Go.binOp, Op.floatArith, h] <;> rfl

theorem add_calls (x y : Nat) (w : World) : Calls Try.prog 28 #[.int .u64 (x : Int), .int .u64 (y : Int)] w fun e w' => e = .returned (.int .u64 (opN (double.add x y) : Nat)) ∧ Keeps NoBlock w w' := by
  obtain ⟨b, w1, hr, hg, hk, _⟩ := run_float (P := Try.prog) .add 82 x y (by simp) w
  have Hg := Lib.hid hg
  clear hg
  go_enter Try.func28, Try.ntmps28
  go_wp2_with (first | (go_at_call 47; refine (of_calls _ _).mono ?_; rintro e w' ⟨rfl, rfl⟩))
  refine (word_calls _ _).mono ?_
  rintro e w' ⟨rfl, rfl⟩
  go_wp2_with fail
  go_ret
  exact ⟨ret_int (by rw [gives_clean Hg.out]; rfl), hk⟩

theorem sub_calls (x y : Nat) (w : World) : Calls Try.prog 29 #[.int .u64 (x : Int), .int .u64 (y : Int)] w fun e w' => e = .returned (.int .u64 (opN (double.sub x y) : Nat)) ∧ Keeps NoBlock w w' := by
  obtain ⟨b, w1, hr, hg, hk, _⟩ := run_float (P := Try.prog) .sub 82 x y (by simp) w
  have Hg := Lib.hid hg
  clear hg
  go_enter Try.func29, Try.ntmps29
  go_wp2_with (first | (go_at_call 47; refine (of_calls _ _).mono ?_; rintro e w' ⟨rfl, rfl⟩))
  refine (word_calls _ _).mono ?_
  rintro e w' ⟨rfl, rfl⟩
  go_wp2_with fail
  go_ret
  exact ⟨ret_int (by rw [gives_clean Hg.out]; rfl), hk⟩

theorem mul_calls (x y : Nat) (w : World) : Calls Try.prog 30 #[.int .u64 (x : Int), .int .u64 (y : Int)] w fun e w' => e = .returned (.int .u64 (opN (double.mul x y) : Nat)) ∧ Keeps NoBlock w w' := by
  obtain ⟨b, w1, hr, hg, hk, _⟩ := run_float (P := Try.prog) .mul 82 x y (by simp) w
  have Hg := Lib.hid hg
  clear hg
  go_enter Try.func30, Try.ntmps30
  go_wp2_with (first | (go_at_call 47; refine (of_calls _ _).mono ?_; rintro e w' ⟨rfl, rfl⟩))
  refine (word_calls _ _).mono ?_
  rintro e w' ⟨rfl, rfl⟩
  go_wp2_with fail
  go_ret
  exact ⟨ret_int (by rw [gives_clean Hg.out]; rfl), hk⟩

theorem div_calls (x y : Nat) (w : World) : Calls Try.prog 31 #[.int .u64 (x : Int), .int .u64 (y : Int)] w fun e w' => e = .returned (.int .u64 (opN (double.div x y) : Nat)) ∧ Keeps NoBlock w w' := by
  obtain ⟨b, w1, hr, hg, hk, _⟩ := run_float (P := Try.prog) .quo 82 x y (by simp) w
  have Hg := Lib.hid hg
  clear hg
  go_enter Try.func31, Try.ntmps31
  go_wp2_with (first | (go_at_call 47; refine (of_calls _ _).mono ?_; rintro e w' ⟨rfl, rfl⟩))
  refine (word_calls _ _).mono ?_
  rintro e w' ⟨rfl, rfl⟩
  go_wp2_with fail
  go_ret
  exact ⟨ret_int (by rw [gives_clean Hg.out]; rfl), hk⟩

theorem and_low (x : Nat) (h : x < 18446744073709551616) : Go.bits .and .u64 (x : Int) 9223372036854775807 = ((rungOf x : Nat) : Int) := by
  rw [show (9223372036854775807 : Int) = ((9223372036854775807 : Nat) : Int) from rfl, u64_and_nat x _ h (by decide)]
  unfold rungOf
  rw [show (9223372036854775807 : Nat) = 2 ^ 63 - 1 from by decide, Nat.and_two_pow_sub_one_eq_mod]
theorem andNot_high (x : Nat) (h : x < 18446744073709551616) : Go.bits .andNot .u64 (x : Int) 9223372036854775808 = ((rungOf x : Nat) : Int) := by
  rw [show (9223372036854775808 : Int) = ((9223372036854775808 : Nat) : Int) from rfl, u64_andNot_nat x _ h (by decide)]
  unfold rungOf
  rw [show (18446744073709551615 - 9223372036854775808 : Nat) = 2 ^ 63 - 1 from by decide, Nat.and_two_pow_sub_one_eq_mod]
theorem rung_lt (x : Nat) : rungOf x < 9223372036854775808 := Nat.mod_lt _ (by decide)
/-- A word's kind: 0 a number, 1 a nought, 2 without an end, 3 none. -/
def kindN (x : Nat) : Int := if nanB x then 3 else if rungOf x = infR then 2 else if rungOf x = 0 then 1 else 0
end Go.Proofs.Ytlnoejmckpimnaa
