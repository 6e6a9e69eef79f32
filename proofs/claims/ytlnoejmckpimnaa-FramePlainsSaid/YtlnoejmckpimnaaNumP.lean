/- Words as numbers with a point: what is less, what kind a word is, and that what a word can hold is not rounded. Plain Lean. -/
import Ieee.Arith
namespace Go.Proofs.Ytlnoejmckpimnaa
open Ieee

def signOf (x : Nat) : Bool := x / 9223372036854775808 % 2 == 1
def rungOf (x : Nat) : Nat := x % 9223372036854775808
def infR : Nat := 9218868437227405312
/-- A number's place among all, both noughts in one. -/
def keyOf (x : Nat) : Int := if signOf x then -(rungOf x : Int) else rungOf x
abbrev isNan (x : Nat) : Prop := infR < rungOf x
/-- How much a rung is, counted in the least unit. -/
def mval (r : Nat) : Nat := if r < 4503599627370496 then r else (4503599627370496 + r % 4503599627370496) * 2 ^ (r / 4503599627370496 - 1)

theorem mval_step (r : Nat) : mval r < mval (r + 1) := by
  unfold mval
  by_cases h1 : r + 1 < 4503599627370496
  · rw [if_pos (by omega), if_pos h1]; omega
  · by_cases h2 : r < 4503599627370496
    · rw [if_pos h2, if_neg h1]
      have e : r + 1 = 4503599627370496 := by omega
      rw [e]
      simp
      omega
    · rw [if_neg h2, if_neg h1]
      by_cases h3 : (r + 1) % 4503599627370496 = 0
      · have e1 : (r + 1) / 4503599627370496 - 1 = (r / 4503599627370496 - 1) + 1 := by omega
        have e2 : r % 4503599627370496 = 4503599627370495 := by omega
        rw [h3, e1, e2, Nat.pow_succ]
        have hp : 0 < 2 ^ (r / 4503599627370496 - 1) := Nat.two_pow_pos _
        generalize 2 ^ (r / 4503599627370496 - 1) = P at *
        omega
      · have e1 : (r + 1) / 4503599627370496 = r / 4503599627370496 := by omega
        have e2 : (r + 1) % 4503599627370496 = r % 4503599627370496 + 1 := by omega
        rw [e1, e2]
        have hp : 0 < 2 ^ (r / 4503599627370496 - 1) := Nat.two_pow_pos _
        exact Nat.mul_lt_mul_of_pos_right (by omega) hp

theorem mval_lt {r r' : Nat} (h : r < r') : mval r < mval r' := by
  induction r' with
  | zero => omega
  | succ n ih =>
    by_cases e : r = n
    · subst e; exact mval_step r
    · exact Nat.lt_trans (ih (by omega)) (mval_step n)

theorem mval_lt_iff {r r' : Nat} : mval r < mval r' ↔ r < r' := by
  constructor
  · intro h
    by_cases e : r < r'
    · exact e
    · by_cases e2 : r = r'
      · subst e2; omega
      · have := mval_lt (r := r') (r' := r) (by omega); omega
  · exact mval_lt

theorem mval_inj {r r' : Nat} (h : mval r = mval r') : r = r' := by
  by_cases e : r < r'
  · have := mval_lt e; omega
  · by_cases e2 : r' < r
    · have := mval_lt e2; omega
    · omega

/-- The value of a word that is no none. -/
def valOf (x : Nat) : Int := if signOf x then -(mval (rungOf x) : Int) else mval (rungOf x)

theorem mval_zero : mval 0 = 0 := rfl
theorem mval_pos {r : Nat} (h : 0 < r) : 0 < mval r := by have := mval_lt h; rw [mval_zero] at this; exact this

theorem val_lt_iff (x y : Nat) : valOf x < valOf y ↔ keyOf x < keyOf y := by
  unfold valOf keyOf
  have h1 := @mval_lt_iff (rungOf x) (rungOf y)
  have h2 := @mval_lt_iff (rungOf y) (rungOf x)
  have p1 : rungOf x = 0 ∨ 0 < mval (rungOf x) := by
    by_cases h : rungOf x = 0
    · exact .inl h
    · exact .inr (mval_pos (by omega))
  have p2 : rungOf y = 0 ∨ 0 < mval (rungOf y) := by
    by_cases h : rungOf y = 0
    · exact .inl h
    · exact .inr (mval_pos (by omega))
  have z1 : rungOf x = 0 → mval (rungOf x) = 0 := fun h => by rw [h]; rfl
  have z2 : rungOf y = 0 → mval (rungOf y) = 0 := fun h => by rw [h]; rfl
  split <;> split <;> omega

theorem val_eq_iff (x y : Nat) : valOf x = valOf y ↔ keyOf x = keyOf y := by
  have h1 := val_lt_iff x y
  have h2 := val_lt_iff y x
  omega

theorem compare_val (x y : Nat) : compare (valOf x) (valOf y) = compare (keyOf x) (keyOf y) := by
  have h1 := val_lt_iff x y
  have h2 := val_eq_iff x y
  simp only [compare, compareOfLessAndEq]
  by_cases a : valOf x < valOf y
  · rw [if_pos a, if_pos (h1.1 a)]
  · rw [if_neg a, if_neg (fun h => a (h1.2 h))]
    by_cases b : valOf x = valOf y
    · rw [if_pos b, if_pos (h2.1 b)]
    · rw [if_neg b, if_neg (fun h => b (h2.2 h))]

/-- What a word reads as. -/
theorem read_eq (x : Nat) : double.read x = if rungOf x < 4503599627370496 then .number (signOf x) (rungOf x) (-1074)
    else if rungOf x < infR then .number (signOf x) (4503599627370496 + rungOf x % 4503599627370496) (-1074 + ((rungOf x / 4503599627370496 - 1 : Nat) : Int))
    else if rungOf x = infR then .infinity (signOf x) else .nan (signOf x) (rungOf x - infR) := rfl

theorem signed_scale (s : Bool) (m u c : Nat) : signed s m (u + c) = signed s m u * 2 ^ c := by
  unfold signed
  rw [Nat.shiftLeft_add, Nat.shiftLeft_eq (m <<< u) c]
  split
  · rw [Int.neg_mul]; congr 1
  · push_cast; rfl

theorem compare_scale (a b : Int) (c : Nat) : compare (a * 2 ^ c) (b * 2 ^ c) = compare a b := by
  have hp : (0 : Int) < 2 ^ c := by
    have : 0 < 2 ^ c := Nat.two_pow_pos c
    exact_mod_cast this
  simp only [compare, compareOfLessAndEq]
  by_cases h : a < b
  · rw [if_pos h, if_pos (Int.mul_lt_mul_of_pos_right h hp)]
  · rw [if_neg h, if_neg (fun h' => h (Int.lt_of_mul_lt_mul_right h' (Int.le_of_lt hp)))]
    by_cases e : a = b
    · rw [if_pos e, if_pos (by rw [e])]
    · rw [if_neg e, if_neg (fun h' => e (Int.eq_of_mul_eq_mul_right (Int.ne_of_gt hp) h'))]

/-- A finite word: its digits and place, and its value. -/
theorem read_fin {x : Nat} (h : rungOf x < infR) : ∃ (m k : Nat), double.read x = .number (signOf x) m (-1074 + (k : Int)) ∧ valOf x = signed (signOf x) m k ∧ mval (rungOf x) = m * 2 ^ k ∧ (m < 4503599627370496 → k = 0 ∧ m = rungOf x) ∧ (4503599627370496 ≤ m → m < 9007199254740992 ∧ k * 4503599627370496 + m = rungOf x) := by
  by_cases h1 : rungOf x < 4503599627370496
  · refine ⟨rungOf x, 0, by rw [read_eq, if_pos h1]; simp, ?_, by simp [mval, h1], fun _ => ⟨rfl, rfl⟩, fun h => by omega⟩
    unfold valOf signed mval
    rw [if_pos h1]
    simp
  · refine ⟨4503599627370496 + rungOf x % 4503599627370496, rungOf x / 4503599627370496 - 1, by rw [read_eq, if_neg h1, if_pos h], ?_, by unfold mval; rw [if_neg h1], fun h => by omega, fun _ => by omega⟩
    unfold valOf signed mval
    rw [if_neg h1, Nat.shiftLeft_eq]

theorem read_inf {x : Nat} (h : rungOf x = infR) : double.read x = .infinity (signOf x) := by
  rw [read_eq, if_neg (by rw [h]; decide), if_neg (by rw [h]; decide), if_pos h]
theorem read_nan {x : Nat} (h : isNan x) : ∃ s f, double.read x = .nan s f := by
  unfold isNan infR at h
  refine ⟨signOf x, rungOf x - infR, ?_⟩
  rw [read_eq, if_neg (by omega), if_neg (by unfold infR; omega), if_neg (by unfold infR; omega)]

theorem order_nan {x y : Nat} (h : isNan x ∨ isNan y) : double.order x y = none := by
  unfold Format.order
  rcases h with h | h
  · obtain ⟨s, f, e⟩ := read_nan h
    rw [e]; rfl
  · obtain ⟨s, f, e⟩ := read_nan h
    rw [e]
    cases double.read x <;> rfl

theorem order_fin {x y : Nat} (hx : rungOf x < infR) (hy : rungOf y < infR) : double.order x y = some (compare (keyOf x) (keyOf y)) := by
  obtain ⟨m, k, e1, v1, _⟩ := read_fin hx
  obtain ⟨n, l, e2, v2, _⟩ := read_fin hy
  unfold Format.order
  rw [e1, e2]
  simp only [Datum.order]
  congr 1
  rw [← compare_val, v1, v2]
  have g1 : (-1074 + (k : Int) - min (-1074 + (k : Int)) (-1074 + (l : Int))).toNat = k - min k l := by omega
  have g2 : (-1074 + (l : Int) - min (-1074 + (k : Int)) (-1074 + (l : Int))).toNat = l - min k l := by omega
  rw [g1, g2]
  have s1 := signed_scale (signOf x) m (k - min k l) (min k l)
  have s2 := signed_scale (signOf y) n (l - min k l) (min k l)
  rw [show k - min k l + min k l = k by omega] at s1
  rw [show l - min k l + min k l = l by omega] at s2
  rw [s1, s2, compare_scale]

theorem compare_lt {a b : Int} (h : a < b) : compare a b = .lt := by simp only [compare, compareOfLessAndEq]; rw [if_pos h]
theorem compare_gt {a b : Int} (h : b < a) : compare a b = .gt := by simp only [compare, compareOfLessAndEq]; rw [if_neg (by omega), if_neg (by omega)]
theorem compare_eq {a b : Int} (h : a = b) : compare a b = .eq := by simp only [compare, compareOfLessAndEq]; rw [if_neg (by omega), if_pos h]

theorem order_key {x y : Nat} (hx : ¬ isNan x) (hy : ¬ isNan y) : double.order x y = some (compare (keyOf x) (keyOf y)) := by
  unfold isNan at hx hy
  by_cases fx : rungOf x < infR
  · by_cases fy : rungOf y < infR
    · exact order_fin fx fy
    · have iy : rungOf y = infR := by omega
      obtain ⟨m, k, e1, _⟩ := read_fin fx
      unfold Format.order
      rw [e1, read_inf iy]
      simp only [Datum.order]
      congr 1
      unfold keyOf
      rw [iy]
      cases hs : signOf y with
      | true => simp only [if_true]; rw [compare_gt]; split <;> omega
      | false => simp only [Bool.false_eq_true, if_false]; rw [compare_lt]; split <;> omega
  · have ix : rungOf x = infR := by omega
    by_cases fy : rungOf y < infR
    · obtain ⟨m, k, e1, _⟩ := read_fin fy
      unfold Format.order
      rw [e1, read_inf ix]
      simp only [Datum.order]
      congr 1
      unfold keyOf
      rw [ix]
      cases hs : signOf x with
      | true => simp only [if_true]; rw [compare_lt]; split <;> omega
      | false => simp only [Bool.false_eq_true, if_false]; rw [compare_gt]; split <;> omega
    · have iy : rungOf y = infR := by omega
      unfold Format.order
      rw [read_inf ix, read_inf iy]
      simp only [Datum.order]
      congr 1
      unfold keyOf
      rw [ix, iy]
      cases signOf x <;> cases signOf y <;> decide

/-! What a word can hold is not rounded. -/
theorem cut_exact (s : Bool) (m j : Nat) (hm : 0 < m) : Toward.even.cut s (m * 2 ^ j) j = m := by
  have hp : 0 < 2 ^ j := Nat.two_pow_pos j
  have hmul : 2 ^ j ≤ m * 2 ^ j := Nat.le_mul_of_pos_left _ hm
  have hl : j ≤ (m * 2 ^ j).log2 := (Nat.le_log2 (by omega)).2 hmul
  unfold Toward.cut
  have hmin : min j ((m * 2 ^ j).log2 + 2) = j := by omega
  simp only [hmin, Nat.one_shiftLeft, Nat.mul_div_cancel _ hp, Nat.mul_mod_left]
  have h1 : ¬ (2 ^ j < 2 * 0) := by omega
  have h2 : (2 ^ j == 2 * 0) = false := by simp
  simp [h2]

theorem nearest_zero (s : Bool) (p : Int) : double.nearest s 0 p = double.word s 0 := rfl

theorem nearest_exact (s : Bool) {r m k : Nat} (hr : r < infR) (h1 : m < 4503599627370496 → k = 0 ∧ m = r) (h2 : 4503599627370496 ≤ m → m < 9007199254740992 ∧ k * 4503599627370496 + m = r) (j : Nat) (p : Int) (hpl : p = -1074 + (k : Int) - (j : Int)) : double.nearest s (m * 2 ^ j) p = double.word s r := by
  subst hpl
  by_cases h0 : m = 0
  · subst h0
    obtain ⟨_, e⟩ := h1 (by omega)
    rw [Nat.zero_mul, nearest_zero, ← e]
  · have hp : 0 < 2 ^ j := Nat.two_pow_pos j
    have hmul : 2 ^ j ≤ m * 2 ^ j := Nat.le_mul_of_pos_left _ (by omega)
    have hne : m * 2 ^ j ≠ 0 := by omega
    have hlast : max (-1074 + (k : Int) - (j : Int) + ((m * 2 ^ j).log2 : Int) - 52) (-1074) = -1074 + (k : Int) := by
      by_cases hm : m < 4503599627370496
      · obtain ⟨rfl, _⟩ := h1 hm
        have : (m * 2 ^ j).log2 < 52 + j := (Nat.log2_lt hne).2 (by
          rw [Nat.pow_add]
          exact Nat.mul_lt_mul_of_pos_right hm hp)
        omega
      · obtain ⟨hm2, _⟩ := h2 (by omega)
        have a1 : (m * 2 ^ j).log2 < 53 + j := (Nat.log2_lt hne).2 (by
          rw [Nat.pow_add]
          exact Nat.mul_lt_mul_of_pos_right hm2 hp)
        have a2 : 52 + j ≤ (m * 2 ^ j).log2 := (Nat.le_log2 hne).2 (by
          rw [Nat.pow_add]
          exact Nat.mul_le_mul_right _ (by omega))
        omega
    unfold Format.nearest
    rw [if_neg hne]
    have hfb : (double.fractionBits : Int) = 52 := rfl
    have hlp : double.leastPlace = -1074 := by decide
    simp only [hfb, hlp, hlast]
    have e1 : (-1074 + (k : Int) - (j : Int) - (-1074 + (k : Int))).toNat = 0 := by omega
    have e2 : (-1074 + (k : Int) - (-1074 + (k : Int) - (j : Int))).toNat = j := by omega
    have e3 : (-1074 + (k : Int) - -1074).toNat = k := by omega
    rw [e1, e2, e3, Nat.shiftLeft_zero, cut_exact s m j (by omega)]
    have hb : double.binade = 4503599627370496 := by decide
    have hi : double.infRung = infR := by decide
    rw [hb, hi]
    congr 1
    by_cases hm : m < 4503599627370496
    · obtain ⟨hk0, e⟩ := h1 hm
      rw [hk0, Nat.zero_mul, Nat.zero_add, e]
      exact Nat.min_eq_left (Nat.le_of_lt hr)
    · obtain ⟨_, e⟩ := h2 (by omega)
      rw [e]
      exact Nat.min_eq_left (Nat.le_of_lt hr)
end Go.Proofs.Ytlnoejmckpimnaa
