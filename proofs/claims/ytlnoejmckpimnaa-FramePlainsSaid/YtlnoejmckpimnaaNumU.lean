/- The reference of num: a whole number as a word. -/
import Derived.Test.YtlnoejmckpimnaaNumU0
import Derived.Deep.LoopGhost
namespace Go.Proofs.Ytlnoejmckpimnaa
open Go.RowKit Ieee

theorem log_zero {n k : Nat} (h0 : n ≠ 0) (h : n.log2 ≤ k) : (((n : Int) / 2 ^ k) == 0) = decide (n.log2 < k) := by
  have e : ((n : Int) / 2 ^ k) = ((n / 2 ^ k : Nat) : Int) := by push_cast; rfl
  rw [e]
  by_cases hk : n.log2 < k
  · have : n < 2 ^ k := (Nat.log2_lt h0).1 hk
    rw [Nat.div_eq_of_lt this, decide_eq_true hk]; rfl
  · have : 2 ^ k ≤ n := (Nat.le_log2 h0).1 (by omega)
    have h1 : 1 ≤ n / 2 ^ k := (Nat.le_div_iff_mul_le (Nat.two_pow_pos k)).2 (by omega)
    rw [decide_eq_false hk, beq_eq_false_iff_ne]
    omega

theorem high_all {n k : Nat} (hn : n < 18446744073709551616) (hL : n.log2 = k) (hk : 52 < k) (hk2 : k ≤ 63) : ∃ R half q : Nat,
    Go.bits .and .u64 (n : Int) (IntKind.u64.wrap (IntKind.u64.wrap (2 ^ (k - 52)) - 1)) = (R : Int) ∧ IntKind.u64.wrap (2 ^ (k - 52 - 1)) = (half : Int) ∧ ((n : Int) / 2 ^ (k - 52)) = (q : Int) ∧ Go.bits .and .u64 (q : Int) 1 = ((q % 2 : Nat) : Int) ∧
    digitsN n = q + (if half < R ∨ half = R ∧ q % 2 = 1 then 1 else 0) ∧ q < 9007199254740992 := by
  obtain ⟨a, b, c, _⟩ := rest_is (n := n) (d := k - 52) hn (by omega) (by omega)
  obtain ⟨d, e⟩ := odd_is (n := n) (d := k - 52) hn
  have hq : n / 2 ^ (k - 52) < 2 ^ 53 := by
    have h1 : n < 2 ^ (n.log2 + 1) := Nat.lt_log2_self
    apply Nat.div_lt_of_lt_mul
    rw [← Nat.pow_add, show k - 52 + 53 = n.log2 + 1 by omega]
    exact h1
  refine ⟨_, _, _, a, b, d, e, ?_, by omega⟩
  unfold digitsN
  rw [hL, if_neg (by omega)]
  congr 1
  generalize n / 2 ^ (k - 52) = q at *
  generalize n % 2 ^ (k - 52) = R at *
  generalize 2 ^ (k - 52 - 1) = h at *
  rw [c]
  split <;> split <;> first | rfl | (exfalso; omega)

theorem floatw_word (x : Int) (n : Nat) (s : Bool) (h : n = (wrap64 x).natAbs) (hs : decide (wrap64 x < 0) = s) (h0 : n ≠ 0) (hn : n < 18446744073709551616) : ((floatW (wrap64 x) : Nat) : Int) = ((double.word s ((n.log2 + 1022) * 4503599627370496 + digitsN n) : Nat) : Int) := by
  unfold floatW
  rw [← h, hs, nearest_whole s n h0 hn]

theorem out_low0 {n k : Nat} (hk : k ≤ 52) (h1 : 4503599627370496 ≤ n * 2 ^ (52 - k)) (h2 : n * 2 ^ (52 - k) < 9007199254740992) :
    Go.bits .or .u64 (Go.bits .or .u64 0 (((k : Int) + 1023) * 4503599627370496)) (Go.bits .and .u64 (IntKind.u64.wrap ((n : Int) * 2 ^ (52 - k))) 4503599627370495) = ((double.word false ((k + 1022) * 4503599627370496 + n * 2 ^ (52 - k)) : Nat) : Int) := out_low false hk h1 h2
theorem out_low1 {n k : Nat} (hk : k ≤ 52) (h1 : 4503599627370496 ≤ n * 2 ^ (52 - k)) (h2 : n * 2 ^ (52 - k) < 9007199254740992) :
    Go.bits .or .u64 (Go.bits .or .u64 9223372036854775808 (((k : Int) + 1023) * 4503599627370496)) (Go.bits .and .u64 (IntKind.u64.wrap ((n : Int) * 2 ^ (52 - k))) 4503599627370495) = ((double.word true ((k + 1022) * 4503599627370496 + n * 2 ^ (52 - k)) : Nat) : Int) := out_low true hk h1 h2
theorem out_high0 {k : Nat} (t : Nat) (hk : k ≤ 63) (ht : t ≤ 9007199254740992) (v : Int) (hv : v = t) :
    Go.bits .or .u64 0 (((k : Int) + 1023) * 4503599627370496 + v - 4503599627370496) = ((double.word false ((k + 1022) * 4503599627370496 + t) : Nat) : Int) := by
  rw [show (((k : Int) + 1023) * 4503599627370496 + v - 4503599627370496) = (((k + 1022) * 4503599627370496 + t : Nat) : Int) by omega]
  exact or_sign false _ (by omega)
theorem out_high1 {k : Nat} (t : Nat) (hk : k ≤ 63) (ht : t ≤ 9007199254740992) (v : Int) (hv : v = t) :
    Go.bits .or .u64 9223372036854775808 (((k : Int) + 1023) * 4503599627370496 + v - 4503599627370496) = ((double.word true ((k + 1022) * 4503599627370496 + t) : Nat) : Int) := by
  rw [show (((k : Int) + 1023) * 4503599627370496 + v - 4503599627370496) = (((k + 1022) * 4503599627370496 + t : Nat) : Int) by omega]
  exact or_sign true _ (by omega)

theorem rtofloat_pos (n : Nat) (hx : n < 9223372036854775808) (h0 : n ≠ 0) (w : World) : Calls Try.prog 42 #[.int .u64 (n : Int)] w fun e w' => e = .returned (.int .u64 (floatW (wrap64 (n : Int)) : Nat)) ∧ w' = w := by
  have hn : n < 18446744073709551616 := by omega
  have hl : n.log2 < 64 := (Nat.log2_lt h0).2 hn
  have hnat : n = (wrap64 (n : Int)).natAbs := by unfold wrap64; omega
  have hsg : decide (wrap64 (n : Int) < 0) = false := decide_eq_false (by unfold wrap64; omega)
  have s1 : (((n : Int) / 9223372036854775808) == 1) = false := by rw [beq_eq_false_iff_ne]; omega
  have LZ : Hid (∀ k, n.log2 ≤ k → (((n : Int) / 2 ^ k) == 0) = decide (n.log2 < k)) := fun k => log_zero h0
  have F := Lib.hid (floatw_word (n : Int) n false hnat hsg h0 hn)
  have HA : Hid (∀ k, n.log2 = k → 52 < k → k ≤ 63 → _) := fun k a b c => high_all hn a b c
  have HD : Hid (n.log2 ≤ 52 → _) := fun a => digits_small h0 a
  obtain ⟨L, hL⟩ : ∃ L, n.log2 = L := ⟨_, rfl⟩
  rw [hL] at hl LZ F HD
  have HL := Lib.hid hL
  have nz : ((n : Int) == 0) = false := by rw [beq_eq_false_iff_ne]; omega
  clear hL hnat hsg h0
  go_enter Try.func42, Try.ntmps42
  go_wp2_with fail
  go_loop [4] (fun i => ∃ k : Nat, L ≤ k ∧ k ≤ 63 ∧ i = .int .i64 k) (fun i => (intOf i).toNat)
  case atStart => exact ⟨63, by omega, by omega, rfl⟩
  case round =>
    obtain ⟨k, hk, hk2, rfl⟩ := hrel
    have z := LZ.out k hk
    by_cases hlt : L < k
    · rw [decide_eq_true hlt] at z
      go_wp2_with fail
      refine ⟨⟨k - 1, by omega, by omega, ?_⟩, ?_⟩
      · congr 1; omega
      · simp [intOf]; omega
    · obtain rfl : k = L := by omega
      rw [decide_eq_false hlt] at z
      clear hlt hk
      by_cases h52 : k ≤ 52
      · go_wp2_with fail
        go_ret
        refine ⟨ret_int ?_, rfl⟩
        obtain ⟨d1, d2, d3⟩ := HD.out h52
        rw [F.out, d1]
        exact out_low0 h52 d2 d3
      · obtain ⟨R, half, q, r1, r2, r3, r4, r5, r6⟩ := HA.out k HL.out (by omega) hk2
        have hcs : half < R ∨ (half = R ∧ q % 2 = 1) ∨ (half = R ∧ q % 2 = 0) ∨ R < half := by omega
        rcases hcs with hc | ⟨rfl, hc⟩ | ⟨rfl, hc⟩ | hc
        · have D : Hid (digitsN n = q + 1) := r5.trans (by rw [if_pos (.inl hc)])
          clear r5
          go_wp2_with fail
          go_ret
          exact ⟨ret_int (by rw [F.out, D.out]; exact out_high0 (q + 1) hk2 (by omega) _ (by omega)), rfl⟩
        · have D : Hid (digitsN n = q + 1) := r5.trans (by rw [if_pos (.inr ⟨rfl, hc⟩)])
          have o1 : (((q % 2 : Nat) : Int) == 1) = true := by rw [hc]; rfl
          clear r5 hc
          go_wp2_with fail
          go_ret
          exact ⟨ret_int (by rw [F.out, D.out]; exact out_high0 (q + 1) hk2 (by omega) _ (by omega)), rfl⟩
        · have D : Hid (digitsN n = q) := r5.trans (by rw [if_neg (by omega)]; rfl)
          have o1 : (((q % 2 : Nat) : Int) == 1) = false := by rw [hc]; rfl
          clear r5 hc
          go_wp2_with fail
          go_ret
          exact ⟨ret_int (by rw [F.out, D.out]; exact out_high0 q hk2 (by omega) _ rfl), rfl⟩
        · have D : Hid (digitsN n = q) := r5.trans (by rw [if_neg (by omega)]; rfl)
          clear r5
          go_wp2_with fail
          go_ret
          exact ⟨ret_int (by rw [F.out, D.out]; exact out_high0 q hk2 (by omega) _ rfl), rfl⟩

theorem rtofloat_neg (x : Nat) (hx : x < 18446744073709551616) (hx2 : 9223372036854775808 ≤ x) (w : World) : Calls Try.prog 42 #[.int .u64 (x : Int)] w fun e w' => e = .returned (.int .u64 (floatW (wrap64 (x : Int)) : Nat)) ∧ w' = w := by
  obtain ⟨n, hnx⟩ : ∃ n, n = 18446744073709551616 - x := ⟨_, rfl⟩
  have hn : n < 18446744073709551616 := by omega
  have h0 : n ≠ 0 := by omega
  have hl : n.log2 < 64 := (Nat.log2_lt h0).2 hn
  have hnat : n = (wrap64 (x : Int)).natAbs := by unfold wrap64; omega
  have hsg : decide (wrap64 (x : Int) < 0) = true := decide_eq_true (by unfold wrap64; omega)
  have s1 : (((x : Int) / 9223372036854775808) == 1) = true := by rw [beq_iff_eq]; omega
  have hm : IntKind.u64.wrap (-(x : Int)) = (n : Int) := by rw [wrap_mod]; omega
  have LZ : Hid (∀ k, n.log2 ≤ k → (((n : Int) / 2 ^ k) == 0) = decide (n.log2 < k)) := fun k => log_zero h0
  have F := Lib.hid (floatw_word (x : Int) n true hnat hsg h0 hn)
  have HA : Hid (∀ k, n.log2 = k → 52 < k → k ≤ 63 → _) := fun k a b c => high_all hn a b c
  have HD : Hid (n.log2 ≤ 52 → _) := fun a => digits_small h0 a
  obtain ⟨L, hL⟩ : ∃ L, n.log2 = L := ⟨_, rfl⟩
  rw [hL] at hl LZ F HD
  have HL := Lib.hid hL
  have nz : ((n : Int) == 0) = false := by rw [beq_eq_false_iff_ne]; omega
  clear hL hnat hsg h0 hnx
  go_enter Try.func42, Try.ntmps42
  go_wp2_with fail
  go_loop [4] (fun i => ∃ k : Nat, L ≤ k ∧ k ≤ 63 ∧ i = .int .i64 k) (fun i => (intOf i).toNat)
  case atStart => exact ⟨63, by omega, by omega, rfl⟩
  case round =>
    obtain ⟨k, hk, hk2, rfl⟩ := hrel
    have z := LZ.out k hk
    by_cases hlt : L < k
    · rw [decide_eq_true hlt] at z
      go_wp2_with fail
      refine ⟨⟨k - 1, by omega, by omega, ?_⟩, ?_⟩
      · congr 1; omega
      · simp [intOf]; omega
    · obtain rfl : k = L := by omega
      rw [decide_eq_false hlt] at z
      clear hlt hk
      by_cases h52 : k ≤ 52
      · go_wp2_with fail
        go_ret
        refine ⟨ret_int ?_, rfl⟩
        obtain ⟨d1, d2, d3⟩ := HD.out h52
        rw [F.out, d1]
        exact out_low1 h52 d2 d3
      · obtain ⟨R, half, q, r1, r2, r3, r4, r5, r6⟩ := HA.out k HL.out (by omega) hk2
        have hcs : half < R ∨ (half = R ∧ q % 2 = 1) ∨ (half = R ∧ q % 2 = 0) ∨ R < half := by omega
        rcases hcs with hc | ⟨rfl, hc⟩ | ⟨rfl, hc⟩ | hc
        · have D : Hid (digitsN n = q + 1) := r5.trans (by rw [if_pos (.inl hc)])
          clear r5
          go_wp2_with fail
          go_ret
          exact ⟨ret_int (by rw [F.out, D.out]; exact out_high1 (q + 1) hk2 (by omega) _ (by omega)), rfl⟩
        · have D : Hid (digitsN n = q + 1) := r5.trans (by rw [if_pos (.inr ⟨rfl, hc⟩)])
          have o1 : (((q % 2 : Nat) : Int) == 1) = true := by rw [hc]; rfl
          clear r5 hc
          go_wp2_with fail
          go_ret
          exact ⟨ret_int (by rw [F.out, D.out]; exact out_high1 (q + 1) hk2 (by omega) _ (by omega)), rfl⟩
        · have D : Hid (digitsN n = q) := r5.trans (by rw [if_neg (by omega)]; rfl)
          have o1 : (((q % 2 : Nat) : Int) == 1) = false := by rw [hc]; rfl
          clear r5 hc
          go_wp2_with fail
          go_ret
          exact ⟨ret_int (by rw [F.out, D.out]; exact out_high1 q hk2 (by omega) _ rfl), rfl⟩
        · have D : Hid (digitsN n = q) := r5.trans (by rw [if_neg (by omega)]; rfl)
          clear r5
          go_wp2_with fail
          go_ret
          exact ⟨ret_int (by rw [F.out, D.out]; exact out_high1 q hk2 (by omega) _ rfl), rfl⟩

end Go.Proofs.Ytlnoejmckpimnaa
