/- SchedBegins: a longer script begins as the shorter one; what an entry may say. -/
import Derived.Test.YtlnfjjbfdbcgbaaSdD
import Derived.Test.YtlnfjjbfdbcgbaaArg
import Derived.Deep.DeepCutAuto
namespace Go.Proofs.Ytlnfjjbfdbcgbaa
open Go.RowKit
namespace Sd

theorem mixL_take (s p q : Int) (c d : Nat) : (mixL s p q (c + d)).take c = mixL s p q c := by
  simp [mixL, ← List.map_take, List.take_range]
theorem roundsL_take (p c d : Nat) : (roundsL p (c + d)).take (c * p) = roundsL p c := by
  induction d with
  | zero => rw [Nat.add_zero, List.take_of_length_le (by rw [roundsL_len]; exact Nat.le_refl _)]
  | succ d ih =>
    rw [← Nat.add_assoc, roundsL_succ, List.take_append_of_le_length, ih]
    rw [roundsL_len, Nat.add_mul]; omega

theorem roundsL_get (p n i : Nat) (hp : 0 < p) (hi : i < n * p) : (roundsL p n)[i]? = some ⟨1, ((i % p : Nat) : Int), ((i / p : Nat) : Int)⟩ := by
  induction n with
  | zero => omega
  | succ n ih =>
    rw [roundsL_succ]
    by_cases h : i < n * p
    · rw [List.getElem?_append_left (by rw [roundsL_len]; exact h)]
      exact ih h
    · rw [List.getElem?_append_right (by rw [roundsL_len]; omega), roundsL_len]
      have hlt : i - n * p < p := by rw [Nat.add_mul] at hi; omega
      have hq : i / p = n := by
        have h1 : n ≤ i / p := (Nat.le_div_iff_mul_le hp).2 (by omega)
        have h2 : i / p < n + 1 := (Nat.div_lt_iff_lt_mul hp).2 hi
        omega
      have hr : i % p = i - n * p := by
        have := Nat.div_add_mod i p
        rw [hq, Nat.mul_comm] at this
        omega
      rw [hq, hr]
      simp [roundL, hlt]

theorem lastAt_ge (xs : List St) (p k i : Nat) (x : St) (hx : xs[i]? = some x) (h : stepB p x = true) (hi : i < k) : i + 1 ≤ lastAt xs p k := by
  induction k with
  | zero => omega
  | succ k ih =>
    by_cases e : i = k
    · subst e; rw [lastAt_succ xs p i x hx, if_pos h]; exact Nat.le_refl _
    · have h1 := ih (by omega)
      simp only [lastAt]
      split
      · split <;> omega
      · exact h1

theorem rounds_win (p n : Nat) (hp : 0 < p) : winB (roundsL p n) p (2 * p) = true := by
  unfold winB okW
  rw [List.all_eq_true]
  intro k hk
  rw [List.mem_range, roundsL_len] at hk
  by_cases h : k + 1 < 2 * p
  · rw [decide_eq_true h, Bool.true_or]
  · rw [decide_eq_false h, Bool.false_or, List.all_eq_true]
    intro q hq
    rw [List.mem_range] at hq
    apply decide_eq_true
    -- the last entry of q at or ahead of k
    have hkm := Nat.div_add_mod k p
    have hkl := Nat.mod_lt k hp
    by_cases hle : q ≤ k % p
    · have hx := roundsL_get p n (k - k % p + q) hp (by omega)
      have hm : (k - k % p + q) % p = q := by
        rw [show k - k % p + q = q + p * (k / p) by omega, Nat.add_mul_mod_self_left, Nat.mod_eq_of_lt hq]
      have := lastAt_ge (roundsL p n) q (k + 1) (k - k % p + q) _ hx (by rw [hm]; simp [stepB]) (by omega)
      omega
    · have h1 : p ≤ k - k % p := by
        have hd : 1 ≤ k / p := (Nat.le_div_iff_mul_le hp).2 (by omega)
        have : p * 1 ≤ p * (k / p) := Nat.mul_le_mul_left p hd
        omega
      have hx := roundsL_get p n (k - k % p - p + q) hp (by omega)
      have hm : (k - k % p - p + q) % p = q := by
        have e : k - k % p - p = p * (k / p - 1) := by
          rw [Nat.mul_sub]; omega
        rw [e, Nat.add_comm, Nat.add_mul_mod_self_left, Nat.mod_eq_of_lt hq]
      have := lastAt_ge (roundsL p n) q (k + 1) (k - k % p - p + q) _ hx (by rw [hm]; simp [stepB]) (by omega)
      omega

theorem rounds_sh (p n k : Nat) : sh (roundsL p n) k = 0 := by
  unfold sh
  rw [List.length_eq_zero_iff, List.filter_eq_nil_iff]
  intro x hx
  have hx2 := List.mem_of_mem_take hx
  simp only [roundsL, roundL, List.mem_flatMap, List.mem_map, List.mem_range] at hx2
  obtain ⟨_, _, _, _, rfl⟩ := hx2
  simp [shareB]
theorem rounds_shares (p n W : Nat) : sharesN (roundsL p n) W = 0 := by
  unfold sharesN
  have h := maxN_le (fun j => nowAt (roundsL p n) W (j + 1)) 0 (roundsL p n).length (fun j _ => by
    show nowAt _ _ _ ≤ 0
    unfold nowAt
    rw [rounds_sh]; omega)
  omega

theorem mixL_at (s p q : Int) (n k : Nat) (hk : k < n) : (mixL s p q n)[k]? = some (entryS (hi (nx (seedAt s k))) p q) := by simp [mixL, hk, seedAt]

/-- A part of a row of one's own. -/
theorem own_part {w : World} {A : Option Addr} {n c : Nat} {xs : List St} (h : Own w 41 3 (.slice A n c) n (xs.flatMap encS)) (hn : xs.length = n) (l : Nat) (hl : l ≤ n) : Rd encS 3 w (.slice A n c) xs ∧ Rd encS 3 w (.slice A l c) (xs.take l) ∧ n ≤ c := by
  subst hn
  have hr := Own.rd encS_len h
  refine ⟨hr, ?_, ?_⟩
  · obtain ⟨A', b, off, c', hv, hA, hc⟩ := hr
    cases hv
    have hp := Rd.part hA hc A 0 l c (by omega) (fun h0 => by rw [(hA (by omega)).1]; simp)
    rw [List.drop_zero] at hp
    exact hp
  · rcases Own.form h with ⟨h1, h2⟩ | ⟨g, cap, h1, _, h2, _⟩
    · omega
    · cases h1; exact h2

set_option maxHeartbeats 8000000 in
set_option maxRecDepth 100000 in
theorem begins_calls (seed a b : Int) (C D P S C2 D2 m M2 R1 R2 : Nat) (w : World) (ha : 0 ≤ a) (ha2 : a < 256) (hb : 0 ≤ b) (hb2 : b < 256) (hC : C < 256) (hD : D < 256) (hP : a % 9 + 1 = P) (hS : b % 9 + 1 = S) (hC2 : (C : Int) % 20 = C2) (hD2 : (D : Int) % 20 = D2)
    (hm : (C : Int) + D = m) (hM : (C2 : Int) + D2 = M2) (hR1 : C2 * P = R1) (hR2 : M2 * P = R2) (hR : R1 ≤ R2) (hR3 : R2 ≤ 1000) :
    Calls Try.prog 11 #[.int .u64 seed, .int .u8 a, .int .u8 b, .int .u8 C, .int .u8 D] w fun e w' => e = .returned (.bool true) ∧ Keeps NoBlock w w' := by
  have hP1 : 1 ≤ P := by omega
  have hP2 : P ≤ 64 := by omega
  have hS1 : 1 ≤ S := by omega
  have hS2 : S ≤ 64 := by omega
  have hCm : C ≤ m := by omega
  have hm2 : m ≤ 1000 := by omega
  have hx := Lib.hid (fun W => mix_calls seed P S C (by omega) (by omega) (by omega) (by omega) (by omega) W)
  have hy := Lib.hid (fun W => mix_calls seed P S m (by omega) (by omega) (by omega) (by omega) (by omega) W)
  have h1 := Lib.hid (fun W => rounds_calls P C2 hP1 hP2 (by omega) W)
  have h2 := Lib.hid (fun W => rounds_calls P M2 hP1 hP2 (by omega) W)
  have lx := Lib.hid (mixL_len seed P S C)
  have ly := Lib.hid (mixL_len seed P S m)
  have l1 := Lib.hid ((roundsL_len P C2).trans hR1)
  have l2 := Lib.hid ((roundsL_len P M2).trans hR2)
  have tx : Hid ((mixL seed P S m).take C = mixL seed P S C) := by show _ = _; rw [show m = C + D by omega, mixL_take]
  have t1 : Hid ((roundsL P M2).take R1 = roundsL P C2) := by show _ = _; rw [show M2 = C2 + D2 by omega, ← hR1, roundsL_take]
  clear hR1 hR2
  go_enter Try.func11, Try.ntmps11
  go_wp2_with fail
  refine (hx.out _).mono ?_
  rintro e w1 ⟨A1, c1, rfl, M1⟩
  rw [lx.out] at M1 ⊢
  obtain ⟨X1, -, -⟩ := own_part M1.own lx.out C (Nat.le_refl _)
  have HX1 := Lib.hid X1
  have K1 := Lib.hid M1.kp
  clear M1 X1
  go_wp2_with fail
  refine (hy.out _).mono ?_
  rintro e w2 ⟨A2, c2, rfl, M2'⟩
  rw [ly.out] at M2' ⊢
  obtain ⟨Y1, Y2, hc2⟩ := own_part M2'.own ly.out C hCm
  rw [tx.out] at Y2
  have HY1 := Lib.hid Y1
  have HY2 := Lib.hid Y2
  have HX2 := Lib.hid (HX1.out.keeps M2'.kp (fun _ _ h => h))
  have K2 := Lib.hid (K1.out.trans M2'.kp (fun _ _ h => h))
  clear M2' Y1 Y2 HX1 K1
  go_wp2_with fail
  refine (h1.out _).mono ?_
  rintro e w3 ⟨A3, c3, rfl, M3⟩
  rw [l1.out] at M3 ⊢
  obtain ⟨Z1, -, -⟩ := own_part M3.own l1.out R1 (Nat.le_refl _)
  have HZ1 := Lib.hid Z1
  have K3 := Lib.hid M3.kp
  clear M3 Z1
  go_wp2_with fail
  refine (h2.out _).mono ?_
  rintro e w4 ⟨A4, c4, rfl, M4⟩
  rw [l2.out] at M4 ⊢
  obtain ⟨V1, V2, hc4⟩ := own_part M4.own l2.out R1 hR
  rw [t1.out] at V2
  have HV1 := Lib.hid V1
  have HV2 := Lib.hid V2
  have K4 := Lib.hid (K3.out.trans M4.kp (fun _ _ h => h))
  have HZ4 := Lib.hid (HZ1.out.keeps M4.kp (fun _ _ h => h))
  have HX4 := Lib.hid (HX2.out.keeps K4.out (fun _ _ h => h))
  have HY4 := Lib.hid (HY1.out.keeps K4.out (fun _ _ h => h))
  have HY24 := Lib.hid (HY2.out.keeps K4.out (fun _ _ h => h))
  have KW := Lib.hid (K2.out.trans K4.out (fun _ _ h => h))
  clear M4 V1 V2 HZ1 HX2 HY1 HY2 K2 K3 K4 hx hy h1 h2
  have hs1 := run_slice_to eS A2 m c2 C (by omega)
  have hs2 := run_slice_to eS A4 R2 c4 R1 (by omega)
  go_wp2_with fail
  refine (same_calls _ _ _ _ _ HY24.out HX4.out (by rw [lx.out]; omega) (by rw [lx.out]; omega)).mono ?_
  rintro e w5 ⟨rfl, k5⟩
  rw [decide_eq_true rfl]
  have K5 := Lib.hid k5
  clear k5
  go_wp2_with fail
  refine (same_calls _ _ _ _ _ (HV2.out.keeps K5.out (fun _ _ h => h)) (HZ4.out.keeps K5.out (fun _ _ h => h)) (by rw [l1.out]; omega) (by rw [l1.out]; omega)).mono ?_
  rintro e w6 ⟨rfl, k6⟩
  rw [decide_eq_true rfl]
  have K6 := Lib.hid (K5.out.trans k6 (fun _ _ h => h))
  have HY6 := Lib.hid (HY4.out.keeps K6.out (fun _ _ h => h))
  have HV6 := Lib.hid (HV1.out.keeps K6.out (fun _ _ h => h))
  have KW6 := Lib.hid (KW.out.trans K6.out (fun _ _ h => h))
  clear k6 hs1 hs2 K5 K6 HY4 HV1 KW HY24 HX4 HZ4 HV2
  obtain ⟨A', bb, off, c', hv, hA, hc⟩ := HY6.out
  rw [ly.out] at hv hA
  simp only [Value.slice.injEq, true_and] at hv
  obtain ⟨rfl, rfl⟩ := hv
  have HA := Lib.hid hA
  have Hc := Lib.hid hc
  clear hA hc HY6
  go_wp2_with fail
  go_loopw [17] (fun i wr => ∃ k : Nat, k ≤ m ∧ i = .int .i64 k ∧ Hid (Keeps NoBlock w6 wr)) (fun i _ => m - (intOf i).toNat)
  case atStart => exact ⟨0, Nat.zero_le _, rfl, Keeps.refl _ _⟩
  case round =>
    obtain ⟨k, hk, rfl, HM⟩ := hrel
    by_cases hkn : k < m
    · obtain ⟨rfl, hb1⟩ := HA.out (by omega)
      have hcx := cells3 Hc.out (mixL_at seed P S m k hkn)
      rw [← HM.out.cell hb1 (fun h => h), ← HM.out.cell hb1 (fun h => h), ← HM.out.cell hb1 (fun h => h)] at hcx
      have hbr : bb < wr.heap.size := Nat.lt_of_lt_of_le hb1 HM.out.size
      have hbd := hi_bound (seedAt seed k)
      obtain ⟨y, hy⟩ : ∃ y, Hid (y = hi (nx (seedAt seed k))) := ⟨_, rfl⟩
      rw [← hy.out] at hcx hbd
      obtain ⟨hy0, hy1⟩ := hbd
      have hbp := Int.emod_nonneg (y / 16) (show (P : Int) ≠ 0 by omega)
      have hbp2 := Int.emod_lt_of_pos (y / 16) (show 0 < (P : Int) by omega)
      have hbs := Int.emod_nonneg (y / 16) (show (S : Int) ≠ 0 by omega)
      have hbs2 := Int.emod_lt_of_pos (y / 16) (show 0 < (S : Int) by omega)
      have hyw : 0 ≤ y / 65536 := by omega
      obtain ⟨yp, hyp⟩ : ∃ yp, yp = y / 16 % (P : Int) := ⟨_, rfl⟩
      obtain ⟨ys, hys⟩ : ∃ ys, ys = y / 16 % (S : Int) := ⟨_, rfl⟩
      obtain ⟨yw, hyw'⟩ : ∃ yw, yw = y / 65536 := ⟨_, rfl⟩
      rw [← hyp] at hbp hbp2
      rw [← hys] at hbs hbs2
      rw [← hyw'] at hyw
      have Hcx := Lib.hid hcx
      have Hyp := Lib.hid hyp
      have Hys := Lib.hid hys
      have Hyw := Lib.hid hyw'
      have KE := Lib.hid ((HM.out).alloc)
      clear hcx hyp hys hyw' hy
      rcases (by omega : y % 16 = 0 ∨ y % 16 = 1 ∨ y % 16 = 2 ∨ y % 16 = 3 ∨ y % 16 = 4 ∨ (y % 16 ≠ 0 ∧ y % 16 ≠ 1 ∧ y % 16 ≠ 2 ∧ y % 16 ≠ 3 ∧ y % 16 ≠ 4)) with h | h | h | h | h | ⟨a0, a1, a2, a3, a4⟩
      · have hE : entryS y P S = ⟨2, 0, 0⟩ := by unfold entryS; rw [if_pos h]
        have hcx := Hcx.out
        rw [hE] at hcx
        dsimp only at hcx
        clear hE Hcx
        go_wp2_with fail
        exact ⟨⟨k + 1, by omega, by go_num, KE.out _⟩, by simp [intOf]; omega⟩
      · have hE : entryS y P S = ⟨6, 0, 0⟩ := by unfold entryS; rw [if_neg (by omega), if_pos h]
        have hcx := Hcx.out
        rw [hE] at hcx
        dsimp only at hcx
        clear hE Hcx
        go_wp2_with fail
        exact ⟨⟨k + 1, by omega, by go_num, KE.out _⟩, by simp [intOf]; omega⟩
      · have hE : entryS y P S = ⟨5, ys, 0⟩ := by unfold entryS; rw [if_neg (by omega), if_neg (by omega), if_pos h, Hys.out]
        have hcx := Hcx.out
        rw [hE] at hcx
        dsimp only at hcx
        clear hE Hcx
        go_wp2_with fail
        exact ⟨⟨k + 1, by omega, by go_num, KE.out _⟩, by simp [intOf]; omega⟩
      · have hE : entryS y P S = ⟨3, ys, yw⟩ := by unfold entryS; rw [if_neg (by omega), if_neg (by omega), if_neg (by omega), if_pos h, Hys.out, Hyw.out]
        have hcx := Hcx.out
        rw [hE] at hcx
        dsimp only at hcx
        clear hE Hcx
        go_wp2_with fail
        exact ⟨⟨k + 1, by omega, by go_num, KE.out _⟩, by simp [intOf]; omega⟩
      · have hE : entryS y P S = ⟨4, yp, 0⟩ := by unfold entryS; rw [if_neg (by omega), if_neg (by omega), if_neg (by omega), if_neg (by omega), if_pos h, Hyp.out]
        have hcx := Hcx.out
        rw [hE] at hcx
        dsimp only at hcx
        clear hE Hcx
        go_wp2_with fail
        exact ⟨⟨k + 1, by omega, by go_num, KE.out _⟩, by simp [intOf]; omega⟩
      · have hE : entryS y P S = ⟨1, yp, yw⟩ := by unfold entryS; rw [if_neg a0, if_neg a1, if_neg a2, if_neg a3, if_neg a4, Hyp.out, Hyw.out]
        have hcx := Hcx.out
        rw [hE] at hcx
        dsimp only at hcx
        clear hE Hcx
        go_wp2_with fail
        exact ⟨⟨k + 1, by omega, by go_num, KE.out _⟩, by simp [intOf]; omega⟩
    · obtain rfl : k = m := by omega
      have hwi := Lib.hid (fun (W : World) (kk : Keeps NoBlock w6 W) => rounds_win P M2 (by omega) ▸ windows_calls _ (roundsL P M2) P (2 * P) W (HV6.out.keeps kk (fun _ _ h => h)) (by rw [l2.out]; omega) hP1 hP2 (by omega) (by omega))
      rw [show ((2 * P : Nat) : Int) = 2 * (P : Int) by omega] at hwi
      have hsh := Lib.hid (fun (W : World) (kk : Keeps NoBlock w6 W) => rounds_shares P M2 5 ▸ shares_calls _ (roundsL P M2) 5 W (HV6.out.keeps kk (fun _ _ h => h)) (by rw [l2.out]; omega) (by decide))
      go_wp2_with fail
      refine (awake28_calls _).mono ?_
      rintro e w7 ⟨rfl, k7⟩
      have K7 := Lib.hid (HM.out.trans k7 (fun _ _ h => h))
      clear k7
      go_wp2_with fail
      refine (hwi.out _ K7.out).mono ?_
      rintro e w8 ⟨rfl, k8⟩
      have K8 := Lib.hid (K7.out.trans k8 (fun _ _ h => h))
      clear k8
      go_wp2_with fail
      refine (hsh.out _ K8.out).mono ?_
      rintro e w9 ⟨rfl, k9⟩
      have K9 := Lib.hid (KW6.out.trans (K8.out.trans k9 (fun _ _ h => h)) (fun _ _ h => h))
      clear k9
      go_wp2_with fail
      go_ret
      exact ⟨rfl, K9.out⟩

theorem begins_law (w : World) (seed : Int) (_hs : (Lit.int .u64 seed).wf = true) (a : Int) (ha : (Lit.int .u8 a).wf = true) (b : Int) (hb : (Lit.int .u8 b).wf = true) (c : Int) (hc : (Lit.int .u8 c).wf = true) (d : Int) (hd : (Lit.int .u8 d).wf = true) :
    Calls Try.prog 11 #[.int .u64 seed, .int .u8 a, .int .u8 b, .int .u8 c, .int .u8 d] w fun e w' => e = .returned (.bool true) ∧ Below w.heap.size w w' := by
  have b1 := bounds_u8 ha
  have b2 := bounds_u8 hb
  have b3 := bounds_u8 hc
  have b4 := bounds_u8 hd
  obtain ⟨C, rfl⟩ : ∃ C : Nat, c = C := ⟨c.toNat, by omega⟩
  obtain ⟨D, rfl⟩ : ∃ D : Nat, d = D := ⟨d.toNat, by omega⟩
  obtain ⟨P, hP⟩ : ∃ P : Nat, a % 9 + 1 = P := ⟨(a % 9 + 1).toNat, by omega⟩
  obtain ⟨S, hS⟩ : ∃ S : Nat, b % 9 + 1 = S := ⟨(b % 9 + 1).toNat, by omega⟩
  obtain ⟨C2, hC2⟩ : ∃ C2 : Nat, (C : Int) % 20 = C2 := ⟨C % 20, by omega⟩
  obtain ⟨D2, hD2⟩ : ∃ D2 : Nat, (D : Int) % 20 = D2 := ⟨D % 20, by omega⟩
  have h1 : C2 * P ≤ (C2 + D2) * P := Nat.mul_le_mul_right P (by omega)
  have h2 : (C2 + D2) * P ≤ 40 * 9 := Nat.mul_le_mul (by omega) (by omega)
  exact (begins_calls seed a b C D P S C2 D2 (C + D) (C2 + D2) _ _ w b1.1 (by omega) b2.1 (by omega) (by omega) (by omega) hP hS hC2 hD2 (by omega) (by omega) rfl rfl h1 (by omega)).mono fun _ _ ⟨he, hk⟩ => ⟨he, hk.below (Nat.le_refl _) (fun _ h => h.elim)⟩
end Sd
end Go.Proofs.Ytlnfjjbfdbcgbaa
