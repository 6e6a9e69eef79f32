/- Package num: whole numbers; the reference's less. -/
import Derived.Test.YtlnoejmckpimnaaNumE
namespace Go.Proofs.Ytlnoejmckpimnaa
open Go.RowKit Ieee

theorem less_key {x y : Nat} (nx : nanB x = false) (ny : nanB y = false) : lessB x y = decide (keyOf x < keyOf y) := by
  unfold lessB
  rw [order_of nx ny, cmp_lt]
theorem less_nan {x y : Nat} (h : nanB x = true ∨ nanB y = true) : lessB x y = false := by
  unfold lessB
  rw [order_none h]
  rfl
theorem less_rank {x y : Nat} (nx : nanB x = false) (ny : nanB y = false) (h : ¬ (rungOf x = 0 ∧ rungOf y = 0)) : lessB x y = decide (rankI x < rankI y) := by
  rw [less_key nx ny]
  congr 1
  unfold keyOf rankI
  apply propext
  split <;> split <;> omega
theorem less_zero {x y : Nat} (nx : nanB x = false) (ny : nanB y = false) (h : rungOf x = 0 ∧ rungOf y = 0) : lessB x y = false := by
  rw [less_key nx ny]
  apply decide_eq_false
  unfold keyOf
  split <;> split <;> omega

theorem rless_calls (x y : Nat) (hx : x < 18446744073709551616) (hy : y < 18446744073709551616) (w : World) : Calls Try.prog 40 #[.int .u64 (x : Int), .int .u64 (y : Int)] w fun e w' => e = .returned (.bool (lessB x y)) ∧ w' = w := by
  have k1 := kind3 x
  have k2 := kind3 y
  have z1 := kind1 x
  have z2 := kind1 y
  cases nx : nanB x with
  | true =>
    have K : Hid (lessB x y = false) := less_nan (.inl nx)
    rw [nx] at k1
    clear nx k2 z1 z2
    go_enter Try.func40, Try.ntmps40
    go_wp2_with fail
    refine (rkind_calls x hx _).mono ?_
    rintro e w1 ⟨rfl, rfl⟩
    go_wp2_with fail
    go_ret
    exact ⟨ret_bool K.out.symm, rfl⟩
  | false =>
    rw [nx] at k1
    cases ny : nanB y with
    | true =>
      have K : Hid (lessB x y = false) := less_nan (.inr ny)
      rw [ny] at k2
      clear nx ny z1 z2
      go_enter Try.func40, Try.ntmps40
      go_wp2_with fail
      refine (rkind_calls x hx _).mono ?_
      rintro e w1 ⟨rfl, rfl⟩
      go_wp2_with fail
      refine (rkind_calls y hy _).mono ?_
      rintro e w1 ⟨rfl, rfl⟩
      go_wp2_with fail
      go_ret
      exact ⟨ret_bool K.out.symm, rfl⟩
    | false =>
      rw [ny] at k2
      by_cases h1 : rungOf x = 0
      · rw [decide_eq_true h1] at z1
        by_cases h2 : rungOf y = 0
        · have K : Hid (lessB x y = false) := less_zero nx ny ⟨h1, h2⟩
          rw [decide_eq_true h2] at z2
          clear nx ny h1 h2
          go_enter Try.func40, Try.ntmps40
          go_wp2_with fail
          refine (rkind_calls x hx _).mono ?_
          rintro e w1 ⟨rfl, rfl⟩
          go_wp2_with fail
          refine (rkind_calls y hy _).mono ?_
          rintro e w1 ⟨rfl, rfl⟩
          go_wp2_with fail
          refine (rkind_calls x hx _).mono ?_
          rintro e w1 ⟨rfl, rfl⟩
          go_wp2_with fail
          refine (rkind_calls y hy _).mono ?_
          rintro e w1 ⟨rfl, rfl⟩
          go_wp2_with fail
          go_ret
          exact ⟨ret_bool K.out.symm, rfl⟩
        · have K : Hid (lessB x y = decide (rankI x < rankI y)) := less_rank nx ny (fun h => h2 h.2)
          rw [decide_eq_false h2] at z2
          clear nx ny h1 h2
          go_enter Try.func40, Try.ntmps40
          go_wp2_with fail
          refine (rkind_calls x hx _).mono ?_
          rintro e w1 ⟨rfl, rfl⟩
          go_wp2_with fail
          refine (rkind_calls y hy _).mono ?_
          rintro e w1 ⟨rfl, rfl⟩
          go_wp2_with fail
          refine (rkind_calls x hx _).mono ?_
          rintro e w1 ⟨rfl, rfl⟩
          go_wp2_with fail
          refine (rkind_calls y hy _).mono ?_
          rintro e w1 ⟨rfl, rfl⟩
          go_wp2_with fail
          refine (rank_calls x hx _).mono ?_
          rintro e w1 ⟨rfl, rfl⟩
          go_wp2_with fail
          refine (rank_calls y hy _).mono ?_
          rintro e w1 ⟨rfl, rfl⟩
          go_wp2_with fail
          go_ret
          exact ⟨ret_bool K.out.symm, rfl⟩
      · have K : Hid (lessB x y = decide (rankI x < rankI y)) := less_rank nx ny (fun h => h1 h.1)
        rw [decide_eq_false h1] at z1
        clear nx ny h1 z2
        go_enter Try.func40, Try.ntmps40
        go_wp2_with fail
        refine (rkind_calls x hx _).mono ?_
        rintro e w1 ⟨rfl, rfl⟩
        go_wp2_with fail
        refine (rkind_calls y hy _).mono ?_
        rintro e w1 ⟨rfl, rfl⟩
        go_wp2_with fail
        refine (rkind_calls x hx _).mono ?_
        rintro e w1 ⟨rfl, rfl⟩
        go_wp2_with fail
        refine (rank_calls x hx _).mono ?_
        rintro e w1 ⟨rfl, rfl⟩
        go_wp2_with fail
        refine (rank_calls y hy _).mono ?_
        rintro e w1 ⟨rfl, rfl⟩
        go_wp2_with fail
        go_ret
        exact ⟨ret_bool K.out.symm, rfl⟩

/-- A whole number as a word. -/
def floatW (n : Int) : Nat := double.nearest (n < 0) n.natAbs 0
theorem floatW_num (n : Int) : nanB (floatW n) = false := by
  apply decide_eq_false
  unfold floatW Format.nearest
  have hi : double.infRung = infR := by decide
  have hs : double.signWeight = 9223372036854775808 := by decide
  have key : ∀ s r, r ≤ infR → ¬ infR < rungOf (double.word s r) := by
    intro s r hr
    unfold Format.word rungOf
    rw [hs]
    unfold infR at *
    cases s <;> simp <;> omega
  split
  · exact key _ _ (by unfold infR; omega)
  · rw [hi]
    exact key _ _ (Nat.min_le_right _ _)

theorem tofloat_calls (a : Nat) (w : World) : Calls Try.prog 36 #[.int .u64 (a : Int)] w fun e w' => e = .returned (.int .u64 (floatW (wrap64 a) : Nat)) ∧ w' = w := by
  have K : Hid (cleanN (floatOfInt .f64 (wrap64 a)) = floatW (wrap64 a)) := clean_id (floatW_num (wrap64 a))
  go_enter Try.func36, Try.ntmps36
  go_wp2_with fail
  refine (word_calls _ _).mono ?_
  rintro e w1 ⟨rfl, rfl⟩
  rw [K.out]
  go_wp2_with fail
  go_ret
  exact ⟨rfl, rfl⟩

/-- A number without what stands behind its point. -/
def truncN (x : Nat) : Nat :=
  if rungOf x / 4503599627370496 < 1023 then 0
  else if 1075 < rungOf x / 4503599627370496 then (4503599627370496 + rungOf x % 4503599627370496) * 2 ^ (rungOf x / 4503599627370496 - 1075)
  else (4503599627370496 + rungOf x % 4503599627370496) / 2 ^ (1075 - rungOf x / 4503599627370496)
def truncI (x : Nat) : Int := if signOf x then -(truncN x : Int) else truncN x

theorem cut_zero (s : Bool) (n d : Nat) : Toward.zero.cut s n d = n / 2 ^ d := by
  unfold Toward.cut
  simp only [Nat.one_shiftLeft, Bool.toNat_false, Nat.add_zero]
  by_cases h : d ≤ n.log2 + 2
  · rw [Nat.min_eq_left h]
  · rw [Nat.min_eq_right (by omega)]
    have h1 : n < 2 ^ (n.log2 + 1) := Nat.lt_log2_self
    have h2 : 2 ^ (n.log2 + 1) ≤ 2 ^ (n.log2 + 2) := Nat.pow_le_pow_right (by decide) (by omega)
    have h3 : 2 ^ (n.log2 + 2) ≤ 2 ^ d := Nat.pow_le_pow_right (by decide) (by omega)
    rw [Nat.div_eq_of_lt (by omega), Nat.div_eq_of_lt (by omega)]

theorem lt_pow_big (n d : Nat) (hd : 53 ≤ d) (h : n < 9007199254740992) : n < 2 ^ d :=
  Nat.lt_of_lt_of_le h (by show 2 ^ 53 ≤ 2 ^ d; exact Nat.pow_le_pow_right (by decide) hd)

theorem trunc_read {x : Nat} (h : rungOf x < infR) : (double.read x).toInt .zero = some (truncI x) := by
  rw [read_eq]
  unfold Datum.toInt truncI
  have hsg : ∀ (s : Bool) (m : Nat), signed s m 0 = if s then -(m : Int) else m := by intro s m; unfold signed; simp
  by_cases h1 : rungOf x < 4503599627370496
  · rw [if_pos h1]
    simp only [Datum.integral, cut_zero, hsg]
    have e1 : truncN x = 0 := by unfold truncN; rw [if_pos (by omega)]
    have e2 : (rungOf x <<< (-1074 : Int).toNat) / 2 ^ (-(-1074 : Int)).toNat = 0 := by
      apply Nat.div_eq_of_lt
      rw [show (-1074 : Int).toNat = 0 from rfl, Nat.shiftLeft_zero]
      exact lt_pow_big _ _ (by decide) (by omega)
    rw [e1, e2]
  · rw [if_neg h1, if_pos h]
    simp only [Datum.integral, cut_zero, hsg]
    generalize hq : rungOf x / 4503599627370496 = q
    have hq1 : 1 ≤ q := by omega
    unfold truncN
    rw [hq]
    generalize hm : 4503599627370496 + rungOf x % 4503599627370496 = m
    have hm2 : m < 9007199254740992 := by omega
    have fin : ∀ a b : Nat, a = b → some (if signOf x = true then -(a : Int) else (a : Int)) = some (if signOf x = true then -(b : Int) else (b : Int)) := by rintro a b rfl; rfl
    apply fin
    by_cases c1 : q < 1023
    · rw [if_pos c1]
      have t1 : (-1074 + ((q - 1 : Nat) : Int)).toNat = 0 := by omega
      have t2 : (-(-1074 + ((q - 1 : Nat) : Int))).toNat = 1075 - q := by omega
      rw [t1, t2, Nat.shiftLeft_zero, Nat.div_eq_of_lt]
      exact lt_pow_big _ _ (by omega) hm2
    · rw [if_neg c1]
      by_cases c2 : 1075 < q
      · rw [if_pos c2]
        have t1 : (-1074 + ((q - 1 : Nat) : Int)).toNat = q - 1075 := by omega
        have t2 : (-(-1074 + ((q - 1 : Nat) : Int))).toNat = 0 := by omega
        rw [t1, t2, Nat.shiftLeft_eq, Nat.pow_zero, Nat.div_one]
      · rw [if_neg c2]
        have t1 : (-1074 + ((q - 1 : Nat) : Int)).toNat = 0 := by omega
        have t2 : (-(-1074 + ((q - 1 : Nat) : Int))).toNat = 1075 - q := by omega
        rw [t1, t2, Nat.shiftLeft_zero]

theorem trunc_small {x : Nat} (h : rungOf x < 4890909195324358656) : truncN x < 9223372036854775808 := by
  have hq : rungOf x / 4503599627370496 < 1086 := by omega
  have hm : 4503599627370496 + rungOf x % 4503599627370496 < 9007199254740992 := by omega
  unfold truncN
  generalize rungOf x / 4503599627370496 = q at hq ⊢
  generalize 4503599627370496 + rungOf x % 4503599627370496 = m at hm ⊢
  split
  · omega
  · split
    · have h1 : 2 ^ (q - 1075) ≤ 2 ^ 10 := Nat.pow_le_pow_right (by decide) (by omega)
      have h2 : m * 2 ^ (q - 1075) ≤ m * 2 ^ 10 := Nat.mul_le_mul_left _ h1
      omega
    · have := Nat.div_le_self m (2 ^ (1075 - q))
      omega
end Go.Proofs.Ytlnoejmckpimnaa
