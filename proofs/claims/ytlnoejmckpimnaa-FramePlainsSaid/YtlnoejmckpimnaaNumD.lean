/- Package num and its reference: the lesser and the greater one, sums by the language's own. -/
import Derived.Test.YtlnoejmckpimnaaNumC
namespace Go.Proofs.Ytlnoejmckpimnaa
open Go.RowKit Ieee

def archN (neg : Bool) (win : Ordering) (x y : Nat) : Nat :=
  if FloatKind.f64.decode x == .infinity neg || FloatKind.f64.decode y == .infinity neg then FloatKind.f64.encode (.infinity neg)
  else if (FloatKind.f64.decode x).isNaN || (FloatKind.f64.decode y).isNaN then 0x7FF8000000000001
  else if (FloatKind.f64.decode x).isZero && (FloatKind.f64.decode y).isZero then (if (FloatKind.f64.decode x).neg == neg then x else y)
  else if (FloatKind.f64.decode x).order (FloatKind.f64.decode y) == some win then x else y

theorem run_archMin (x y : Nat) (w : World) : (callFunc 63 #[.float .f64 x, .float .f64 y]).run Try.prog w = .ok (.value (.float .f64 (archN true .lt x y))) w := by
  rw [run_callFunc_extern (e := Extern.MathDim.pick "math.archMin" true .lt) Try.func63 (by kernel_rfl) (by kernel_rfl) (by kernel_rfl) (by kernel_rfl)]
  rfl
theorem run_archMax (x y : Nat) (w : World) : (callFunc 65 #[.float .f64 x, .float .f64 y]).run Try.prog w = .ok (.value (.float .f64 (archN false .gt x y))) w := by
  rw [run_callFunc_extern (e := Extern.MathDim.pick "math.archMax" false .gt) Try.func65 (by kernel_rfl) (by kernel_rfl) (by kernel_rfl) (by kernel_rfl)]
  rfl

def minN (x y : Nat) : Nat := if rankI x < rankI y then x else y
def maxN (x y : Nat) : Nat := if rankI y < rankI x then x else y

theorem word_back {x : Nat} (hx : x < 18446744073709551616) : x = (if signOf x then 9223372036854775808 + rungOf x else rungOf x) := by
  unfold signOf rungOf
  by_cases h : x / 9223372036854775808 = 1
  · rw [if_pos (by rw [h]; rfl)]; omega
  · have h0 : x / 9223372036854775808 = 0 := by omega
    rw [if_neg (by rw [h0]; decide)]; omega

/-- What a word that is a number reads as: an infinity, a nought, or something else that is none of these. -/
theorem read_says {x : Nat} (hn : nanB x = false) : (rungOf x = infR ∧ double.read x = .infinity (signOf x)) ∨ (rungOf x < infR ∧ ∃ m p, double.read x = .number (signOf x) m p ∧ (m = 0 ↔ rungOf x = 0)) := by
  have hle : ¬ infR < rungOf x := of_decide_eq_false (p := isNan x) hn
  by_cases h : rungOf x = infR
  · exact .inl ⟨h, read_inf h⟩
  · have hlt : rungOf x < infR := by omega
    obtain ⟨m, k, h1, _, h3, h4, h5⟩ := read_fin hlt
    refine .inr ⟨hlt, m, _, h1, ?_⟩
    constructor
    · intro h0
      have := (h4 (by omega)).2
      omega
    · intro h0
      by_cases hm : m < 4503599627370496
      · have := (h4 hm).2; omega
      · have := (h5 (by omega)).2; omega

theorem inf_word (s : Bool) : FloatKind.f64.encode (.infinity s) = (if s then 9223372036854775808 + infR else infR) := by cases s <;> decide

theorem inf_beq (a b : Bool) : (Datum.infinity a == Datum.infinity b) = (a == b) := by cases a <;> cases b <;> decide
theorem num_beq (s : Bool) (m : Nat) (p : Int) (b : Bool) : (Datum.number s m p == Datum.infinity b) = false := beq_eq_false_iff_ne.2 (fun h => by cases h)
theorem isNaN_inf (a : Bool) : (Datum.infinity a).isNaN = false := rfl
theorem isNaN_num (s : Bool) (m : Nat) (p : Int) : (Datum.number s m p).isNaN = false := rfl
theorem isZero_inf (a : Bool) : (Datum.infinity a).isZero = false := rfl
theorem isZero_num (s : Bool) (m : Nat) (p : Int) : (Datum.number s m p).isZero = decide (m = 0) := by cases m <;> rfl
theorem neg_num (s : Bool) (m : Nat) (p : Int) : (Datum.number s m p).neg = s := rfl
theorem cmp_lt (a b : Int) : (some (compare a b) == some Ordering.lt) = decide (a < b) := by
  by_cases h : a < b
  · rw [compare_lt h, decide_eq_true h]; rfl
  · by_cases e : a = b
    · rw [compare_eq e, decide_eq_false h]; rfl
    · rw [compare_gt (by omega), decide_eq_false h]; rfl
theorem cmp_gt (a b : Int) : (some (compare a b) == some Ordering.gt) = decide (b < a) := by
  by_cases h : b < a
  · rw [compare_gt h, decide_eq_true h]; rfl
  · by_cases e : a = b
    · rw [compare_eq e, decide_eq_false h]; rfl
    · rw [compare_lt (by omega), decide_eq_false h]; rfl

theorem arch_says (neg : Bool) (win : Ordering) (hw : (neg = true ∧ win = .lt) ∨ (neg = false ∧ win = .gt)) {x y : Nat} (hx : x < 18446744073709551616) (hy : y < 18446744073709551616) (nx : nanB x = false) (ny : nanB y = false) :
    archN neg win x y = if neg then minN x y else maxN x y := by
  have bx := word_back hx
  have by_ := word_back hy
  have ho := order_of nx ny
  have hn1 := read_says nx
  have hn2 := read_says ny
  unfold archN
  show (if double.read x == .infinity neg || double.read y == .infinity neg then _ else if (double.read x).isNaN || (double.read y).isNaN then _ else if (double.read x).isZero && (double.read y).isZero then (if (double.read x).neg == neg then x else y) else if double.order x y == some win then x else y) = _
  have hlx : rungOf x ≤ infR := by have : ¬ infR < rungOf x := of_decide_eq_false (p := isNan x) nx; omega
  have hly : rungOf y ≤ infR := by have : ¬ infR < rungOf y := of_decide_eq_false (p := isNan y) ny; omega
  rw [inf_word, ho]
  clear ho nx ny hx hy
  unfold minN maxN rankI keyOf infR at *
  rcases hn1 with ⟨r1, e1⟩ | ⟨r1, m1, p1, e1, z1⟩ <;> rcases hn2 with ⟨r2, e2⟩ | ⟨r2, m2, p2, e2, z2⟩ <;> rw [e1, e2] <;> clear e1 e2
  all_goals
    generalize signOf x = sx at *
    generalize signOf y = sy at *
    generalize rungOf x = rx at *
    generalize rungOf y = ry at *
    rcases hw with ⟨rfl, rfl⟩ | ⟨rfl, rfl⟩ <;> cases sx <;> cases sy
    all_goals
      simp only [inf_beq, num_beq, isNaN_inf, isNaN_num, isZero_inf, isZero_num, neg_num, cmp_lt, cmp_gt, Bool.or_false, Bool.or_true, Bool.and_false, Bool.false_and, Bool.false_eq_true, if_true, if_false, decide_eq_true_eq, Bool.and_eq_true, beq_self_eq_true, Bool.true_beq, Bool.false_beq, Bool.not_true] at *
      try ((repeat' split) <;> omega)

theorem mmin_calls (x y : Nat) (w : World) : Calls Try.prog 49 #[.float .f64 x, .float .f64 y] w fun e w' => e = .returned (.float .f64 (archN true .lt x y)) ∧ w' = w := by
  have h := fun w => run_archMin x y w
  go_enter Try.func49, Try.ntmps49
  go_wp2_with fail
  go_ret
  exact ⟨rfl, rfl⟩
theorem mmax_calls (x y : Nat) (w : World) : Calls Try.prog 51 #[.float .f64 x, .float .f64 y] w fun e w' => e = .returned (.float .f64 (archN false .gt x y)) ∧ w' = w := by
  have h := fun w => run_archMax x y w
  go_enter Try.func51, Try.ntmps51
  go_wp2_with fail
  go_ret
  exact ⟨rfl, rfl⟩

def nanN (f x y : Nat) : Nat := if nanB x || nanB y then noneW else cleanN f
theorem nanN_1 {f x y : Nat} (h : nanB x = true) : nanN f x y = noneW := by unfold nanN; rw [h]; rfl
theorem nanN_2 {f x y : Nat} (h : nanB x = false) (h' : nanB y = true) : nanN f x y = noneW := by unfold nanN; rw [h, h']; rfl
theorem nanN_3 {f x y : Nat} (h : nanB x = false) (h' : nanB y = false) : nanN f x y = cleanN f := by unfold nanN; rw [h, h']; rfl

theorem nan_calls (f x y : Nat) (w : World) : Calls Try.prog 50 #[.float .f64 f, .int .u64 (x : Int), .int .u64 (y : Int)] w fun e w' => e = .returned (.int .u64 (nanN f x y : Nat)) ∧ w' = w := by
  cases hx : nanB x with
  | true =>
    have K := Lib.hid (nanN_1 (f := f) (y := y) hx)
    go_enter Try.func50, Try.ntmps50
    go_wp2_with (first | (go_at_call 47; refine (of_calls _ _).mono ?_; rintro e w' ⟨rfl, rfl⟩))
    refine (isnone_calls _ _).mono ?_
    rintro e w1 ⟨rfl, rfl⟩
    go_wp2_with fail
    go_ret
    exact ⟨ret_int (by rw [K.out]; rfl), rfl⟩
  | false =>
    go_enter Try.func50, Try.ntmps50
    go_wp2_with (first | (go_at_call 47; refine (of_calls _ _).mono ?_; rintro e w' ⟨rfl, rfl⟩))
    refine (isnone_calls _ _).mono ?_
    rintro e w1 ⟨rfl, rfl⟩
    go_wp2_with (first | (go_at_call 47; refine (of_calls _ _).mono ?_; rintro e w' ⟨rfl, rfl⟩))
    refine (isnone_calls _ _).mono ?_
    rintro e w1 ⟨rfl, rfl⟩
    cases hy : nanB y with
    | true =>
      have K := Lib.hid (nanN_2 (f := f) hx hy)
      go_wp2_with fail
      go_ret
      exact ⟨ret_int (by rw [K.out]; rfl), rfl⟩
    | false =>
      have K := Lib.hid (nanN_3 (f := f) hx hy)
      go_wp2_with fail
      refine (word_calls _ _).mono ?_
      rintro e w1 ⟨rfl, rfl⟩
      go_wp2_with fail
      go_ret
      exact ⟨ret_int (by rw [K.out]), rfl⟩

/-- The lesser and the greater one, as words. -/
def lowN (x y : Nat) : Nat := if nanB x || nanB y then noneW else minN x y
def highN (x y : Nat) : Nat := if nanB x || nanB y then noneW else maxN x y

theorem clean_id {x : Nat} (h : nanB x = false) : cleanN x = x := by unfold cleanN; rw [h]; rfl
theorem low_says {x y : Nat} (hx : x < 18446744073709551616) (hy : y < 18446744073709551616) : nanN (archN true .lt x y) x y = lowN x y := by
  unfold lowN nanN
  cases nx : nanB x
  · cases ny : nanB y
    · simp only [Bool.or_false, Bool.false_eq_true, if_false]
      rw [arch_says true .lt (.inl ⟨rfl, rfl⟩) hx hy nx ny, if_pos rfl]
      unfold minN
      split <;> exact clean_id (by assumption)
    · rfl
  · rfl
theorem high_says {x y : Nat} (hx : x < 18446744073709551616) (hy : y < 18446744073709551616) : nanN (archN false .gt x y) x y = highN x y := by
  unfold highN nanN
  cases nx : nanB x
  · cases ny : nanB y
    · simp only [Bool.or_false, Bool.false_eq_true, if_false]
      rw [arch_says false .gt (.inr ⟨rfl, rfl⟩) hx hy nx ny, if_neg (by decide)]
      unfold maxN
      split <;> exact clean_id (by assumption)
    · rfl
  · rfl

theorem min_calls (x y : Nat) (hx : x < 18446744073709551616) (hy : y < 18446744073709551616) (w : World) : Calls Try.prog 32 #[.int .u64 (x : Int), .int .u64 (y : Int)] w fun e w' => e = .returned (.int .u64 (lowN x y : Nat)) ∧ w' = w := by
  have H := Lib.hid (low_says hx hy)
  go_enter Try.func32, Try.ntmps32
  go_wp2_with (first | (go_at_call 47; refine (of_calls _ _).mono ?_; rintro e w' ⟨rfl, rfl⟩))
  refine (mmin_calls _ _ _).mono ?_
  rintro e w1 ⟨rfl, rfl⟩
  go_wp2_with fail
  refine (nan_calls _ _ _ _).mono ?_
  rintro e w1 ⟨rfl, rfl⟩
  rw [H.out]
  go_wp2_with fail
  go_ret
  exact ⟨rfl, rfl⟩
theorem max_calls (x y : Nat) (hx : x < 18446744073709551616) (hy : y < 18446744073709551616) (w : World) : Calls Try.prog 33 #[.int .u64 (x : Int), .int .u64 (y : Int)] w fun e w' => e = .returned (.int .u64 (highN x y : Nat)) ∧ w' = w := by
  have H := Lib.hid (high_says hx hy)
  go_enter Try.func33, Try.ntmps33
  go_wp2_with (first | (go_at_call 47; refine (of_calls _ _).mono ?_; rintro e w' ⟨rfl, rfl⟩))
  refine (mmax_calls _ _ _).mono ?_
  rintro e w1 ⟨rfl, rfl⟩
  go_wp2_with fail
  refine (nan_calls _ _ _ _).mono ?_
  rintro e w1 ⟨rfl, rfl⟩
  rw [H.out]
  go_wp2_with fail
  go_ret
  exact ⟨rfl, rfl⟩
end Go.Proofs.Ytlnoejmckpimnaa
