/- SchedMixes: each entry by its number of the seed. -/
import Derived.Test.YtlnfjjbfdbcgbaaSdD
import Derived.Test.YtlnfjjbfdbcgbaaArg
import Derived.Deep.DeepCutAuto
namespace Go.Proofs.Ytlnfjjbfdbcgbaa
open Go.RowKit
namespace Sd

theorem mixL_get (s p q : Int) (n k : Nat) (hk : k < n) : (mixL s p q n)[k]? = some (entryS (hi (nx (seedAt s k))) p q) := by simp [mixL, hk, seedAt]

set_option maxHeartbeats 2000000 in
theorem mbad_hi (seed p q n0 : Int) (w : World) (hn : 65536 < n0) (hbad : p < 1 ∨ 64 < p ∨ q < 1 ∨ 64 < q ∨ n0 < 0 ∨ 65536 < n0) : Calls Try.prog 8 #[.int .u64 seed, .int .i64 p, .int .i64 q, .int .i64 n0] w fun e w' => e = .returned (.bool true) ∧ Keeps NoBlock w w' := by
  have hmi := Lib.hid (mix_none seed p q n0 (by omega) w)
  have Hbad := Lib.hid hbad
  clear hbad
  go_enter Try.func8, Try.ntmps8
  go_wp2_with fail
  refine hmi.out.mono ?_
  rintro e w1 ⟨A1, c1, rfl, M1⟩
  have K1 := Lib.hid M1.kp
  rw [show ([] : List St).length = 0 from rfl]
  clear M1
  by_cases b1 : p < 1
  · go_wp2_with fail
    refine (awake28_calls _).mono ?_
    rintro e w7 ⟨rfl, k7⟩
    have K7 := Lib.hid (K1.out.trans k7 (fun _ _ h => h))
    clear k7
    go_wp2_with fail
    go_ret
    exact ⟨rfl, K7.out⟩
  by_cases b2 : 64 < p
  · go_wp2_with fail
    refine (awake28_calls _).mono ?_
    rintro e w7 ⟨rfl, k7⟩
    have K7 := Lib.hid (K1.out.trans k7 (fun _ _ h => h))
    clear k7
    go_wp2_with fail
    go_ret
    exact ⟨rfl, K7.out⟩
  by_cases b3 : q < 1
  · go_wp2_with fail
    refine (awake28_calls _).mono ?_
    rintro e w7 ⟨rfl, k7⟩
    have K7 := Lib.hid (K1.out.trans k7 (fun _ _ h => h))
    clear k7
    go_wp2_with fail
    go_ret
    exact ⟨rfl, K7.out⟩
  by_cases b4 : 64 < q
  · go_wp2_with fail
    refine (awake28_calls _).mono ?_
    rintro e w7 ⟨rfl, k7⟩
    have K7 := Lib.hid (K1.out.trans k7 (fun _ _ h => h))
    clear k7
    go_wp2_with fail
    go_ret
    exact ⟨rfl, K7.out⟩
  · go_wp2_with fail
    refine (awake28_calls _).mono ?_
    rintro e w7 ⟨rfl, k7⟩
    have K7 := Lib.hid (K1.out.trans k7 (fun _ _ h => h))
    clear k7
    go_wp2_with fail
    go_ret
    exact ⟨rfl, K7.out⟩
set_option maxHeartbeats 2000000 in
theorem mbad_lo (seed p q n0 : Int) (w : World) (hn : n0 < 0) (hbad : p < 1 ∨ 64 < p ∨ q < 1 ∨ 64 < q ∨ n0 < 0 ∨ 65536 < n0) : Calls Try.prog 8 #[.int .u64 seed, .int .i64 p, .int .i64 q, .int .i64 n0] w fun e w' => e = .returned (.bool true) ∧ Keeps NoBlock w w' := by
  have hmi := Lib.hid (mix_none seed p q n0 (by omega) w)
  have Hbad := Lib.hid hbad
  clear hbad
  go_enter Try.func8, Try.ntmps8
  go_wp2_with fail
  refine hmi.out.mono ?_
  rintro e w1 ⟨A1, c1, rfl, M1⟩
  have K1 := Lib.hid M1.kp
  rw [show ([] : List St).length = 0 from rfl]
  clear M1
  by_cases b1 : p < 1
  · go_wp2_with fail
    refine (awake28_calls _).mono ?_
    rintro e w7 ⟨rfl, k7⟩
    have K7 := Lib.hid (K1.out.trans k7 (fun _ _ h => h))
    clear k7
    go_wp2_with fail
    go_ret
    exact ⟨rfl, K7.out⟩
  by_cases b2 : 64 < p
  · go_wp2_with fail
    refine (awake28_calls _).mono ?_
    rintro e w7 ⟨rfl, k7⟩
    have K7 := Lib.hid (K1.out.trans k7 (fun _ _ h => h))
    clear k7
    go_wp2_with fail
    go_ret
    exact ⟨rfl, K7.out⟩
  by_cases b3 : q < 1
  · go_wp2_with fail
    refine (awake28_calls _).mono ?_
    rintro e w7 ⟨rfl, k7⟩
    have K7 := Lib.hid (K1.out.trans k7 (fun _ _ h => h))
    clear k7
    go_wp2_with fail
    go_ret
    exact ⟨rfl, K7.out⟩
  by_cases b4 : 64 < q
  · go_wp2_with fail
    refine (awake28_calls _).mono ?_
    rintro e w7 ⟨rfl, k7⟩
    have K7 := Lib.hid (K1.out.trans k7 (fun _ _ h => h))
    clear k7
    go_wp2_with fail
    go_ret
    exact ⟨rfl, K7.out⟩
  · go_wp2_with fail
    refine (awake28_calls _).mono ?_
    rintro e w7 ⟨rfl, k7⟩
    have K7 := Lib.hid (K1.out.trans k7 (fun _ _ h => h))
    clear k7
    go_wp2_with fail
    go_ret
    exact ⟨rfl, K7.out⟩
set_option maxHeartbeats 2000000 in
theorem mbad_mid (seed p q n0 : Int) (w : World) (hn : 300 < n0) (hn2 : n0 ≤ 65536) (hbad : p < 1 ∨ 64 < p ∨ q < 1 ∨ 64 < q ∨ n0 < 0 ∨ 65536 < n0) : Calls Try.prog 8 #[.int .u64 seed, .int .i64 p, .int .i64 q, .int .i64 n0] w fun e w' => e = .returned (.bool true) ∧ Keeps NoBlock w w' := by
  have hmi := Lib.hid (mix_none seed p q 300 (by omega) w)
  have Hbad := Lib.hid hbad
  clear hbad
  go_enter Try.func8, Try.ntmps8
  go_wp2_with fail
  refine hmi.out.mono ?_
  rintro e w1 ⟨A1, c1, rfl, M1⟩
  have K1 := Lib.hid M1.kp
  rw [show ([] : List St).length = 0 from rfl]
  clear M1
  by_cases b1 : p < 1
  · go_wp2_with fail
    refine (awake28_calls _).mono ?_
    rintro e w7 ⟨rfl, k7⟩
    have K7 := Lib.hid (K1.out.trans k7 (fun _ _ h => h))
    clear k7
    go_wp2_with fail
    go_ret
    exact ⟨rfl, K7.out⟩
  by_cases b2 : 64 < p
  · go_wp2_with fail
    refine (awake28_calls _).mono ?_
    rintro e w7 ⟨rfl, k7⟩
    have K7 := Lib.hid (K1.out.trans k7 (fun _ _ h => h))
    clear k7
    go_wp2_with fail
    go_ret
    exact ⟨rfl, K7.out⟩
  by_cases b3 : q < 1
  · go_wp2_with fail
    refine (awake28_calls _).mono ?_
    rintro e w7 ⟨rfl, k7⟩
    have K7 := Lib.hid (K1.out.trans k7 (fun _ _ h => h))
    clear k7
    go_wp2_with fail
    go_ret
    exact ⟨rfl, K7.out⟩
  by_cases b4 : 64 < q
  · go_wp2_with fail
    refine (awake28_calls _).mono ?_
    rintro e w7 ⟨rfl, k7⟩
    have K7 := Lib.hid (K1.out.trans k7 (fun _ _ h => h))
    clear k7
    go_wp2_with fail
    go_ret
    exact ⟨rfl, K7.out⟩
  · exfalso; have := Hbad.out; omega
set_option maxHeartbeats 2000000 in
theorem mbad_in (seed p q n0 : Int) (w : World) (hn : 0 ≤ n0) (hn2 : n0 ≤ 300) (hbad : p < 1 ∨ 64 < p ∨ q < 1 ∨ 64 < q ∨ n0 < 0 ∨ 65536 < n0) : Calls Try.prog 8 #[.int .u64 seed, .int .i64 p, .int .i64 q, .int .i64 n0] w fun e w' => e = .returned (.bool true) ∧ Keeps NoBlock w w' := by
  have hmi := Lib.hid (mix_none seed p q n0 (by omega) w)
  have Hbad := Lib.hid hbad
  clear hbad
  go_enter Try.func8, Try.ntmps8
  go_wp2_with fail
  refine hmi.out.mono ?_
  rintro e w1 ⟨A1, c1, rfl, M1⟩
  have K1 := Lib.hid M1.kp
  rw [show ([] : List St).length = 0 from rfl]
  clear M1
  by_cases b1 : p < 1
  · go_wp2_with fail
    refine (awake28_calls _).mono ?_
    rintro e w7 ⟨rfl, k7⟩
    have K7 := Lib.hid (K1.out.trans k7 (fun _ _ h => h))
    clear k7
    go_wp2_with fail
    go_ret
    exact ⟨rfl, K7.out⟩
  by_cases b2 : 64 < p
  · go_wp2_with fail
    refine (awake28_calls _).mono ?_
    rintro e w7 ⟨rfl, k7⟩
    have K7 := Lib.hid (K1.out.trans k7 (fun _ _ h => h))
    clear k7
    go_wp2_with fail
    go_ret
    exact ⟨rfl, K7.out⟩
  by_cases b3 : q < 1
  · go_wp2_with fail
    refine (awake28_calls _).mono ?_
    rintro e w7 ⟨rfl, k7⟩
    have K7 := Lib.hid (K1.out.trans k7 (fun _ _ h => h))
    clear k7
    go_wp2_with fail
    go_ret
    exact ⟨rfl, K7.out⟩
  by_cases b4 : 64 < q
  · go_wp2_with fail
    refine (awake28_calls _).mono ?_
    rintro e w7 ⟨rfl, k7⟩
    have K7 := Lib.hid (K1.out.trans k7 (fun _ _ h => h))
    clear k7
    go_wp2_with fail
    go_ret
    exact ⟨rfl, K7.out⟩
  · exfalso; have := Hbad.out; omega

set_option maxHeartbeats 8000000 in
set_option maxRecDepth 100000 in
theorem mmain_low (seed n0 : Int) (p q n : Nat) (w : World) (hp : 1 ≤ p) (hp2 : p ≤ 64) (hq : 1 ≤ q) (hq2 : q ≤ 64) (h1 : n0 = n) (hn3 : n ≤ 300) : Calls Try.prog 8 #[.int .u64 seed, .int .i64 p, .int .i64 q, .int .i64 n0] w fun e w' => e = .returned (.bool true) ∧ Keeps NoBlock w w' := by
  subst h1
  have hmi := Lib.hid (mix_calls seed p q n (by omega) (by omega) (by omega) (by omega) (by omega) w)
  have hlen := Lib.hid (mixL_len seed p q n)
  have hn4 := hn3
  go_enter Try.func8, Try.ntmps8
  go_wp2_with fail
  refine hmi.out.mono ?_
  rintro e w1 ⟨A1, c1, rfl, M1⟩
  have HK := Lib.hid M1.kp
  have HR := Lib.hid (Own.rd encS_len M1.own)
  rw [hlen.out] at HR ⊢
  obtain ⟨A', b, off, c', hv, hA, hc⟩ := HR.out
  simp only [Value.slice.injEq] at hv
  obtain ⟨rfl, -, rfl⟩ := hv
  rw [hlen.out] at hA
  have HA := Lib.hid hA
  have Hc := Lib.hid hc
  clear M1 hA hc HR
  go_wp2_with fail
  go_loopw [10, 11] (fun x i wr => ∃ k : Nat, k ≤ n ∧ i = .int .i64 k ∧ x = .int .u64 (seedAt seed k) ∧ Hid (Keeps NoBlock w1 wr)) (fun _ i _ => n - (intOf i).toNat)
  case atStart => exact ⟨0, Nat.zero_le _, rfl, rfl, Keeps.refl _ _⟩
  case round =>
    obtain ⟨k, hk, rfl, rfl, HM⟩ := hrel
    by_cases hkn : k < n
    · have hk3 := hkn
      obtain ⟨rfl, hb1⟩ := HA.out (by omega)
      have hcx := cells3 Hc.out (mixL_get seed p q n k hkn)
      rw [← HM.out.cell hb1 (fun h => h), ← HM.out.cell hb1 (fun h => h), ← HM.out.cell hb1 (fun h => h)] at hcx
      have hbr : b < wr.heap.size := Nat.lt_of_lt_of_le hb1 HM.out.size
      obtain ⟨s1, hs1⟩ : ∃ s1, Hid (s1 = nx (seedAt seed k)) := ⟨_, rfl⟩
      have hbd := hi_bound (seedAt seed k)
      rw [← hs1.out] at hcx hbd
      obtain ⟨y, hy⟩ : ∃ y, Hid (y = hi s1) := ⟨_, rfl⟩
      rw [← hy.out] at hcx hbd
      obtain ⟨hy0, hy1⟩ := hbd
      have Hcx := Lib.hid hcx
      clear hcx
      go_upto_region 13 with fail
      rw [show IntKind.u64.wrap (IntKind.u64.wrap (seedAt seed k * 6364136223846793005) + 1442695040888963407) = s1 from hs1.out.symm]
      go_upto_region 14 with fail
      rw [show s1 / 8589934592 = y from hy.out.symm]
      go_upto_region 15 with fail
      have hp0 : ((p : Int) == 0) = false := by rw [beq_eq_false_iff_ne]; omega
      have hq0 : ((q : Int) == 0) = false := by rw [beq_eq_false_iff_ne]; omega
      have hb1' : 0 ≤ y / 16 % (p : Int) ∧ y / 16 % (p : Int) < p := ⟨Int.emod_nonneg _ (by omega), Int.emod_lt_of_pos _ (by omega)⟩
      have hb2' : 0 ≤ y / 16 % (q : Int) ∧ y / 16 % (q : Int) < q := ⟨Int.emod_nonneg _ (by omega), Int.emod_lt_of_pos _ (by omega)⟩
      have wp1 : Hid (wrap64 (y / 16 % (p : Int)) = y / 16 % (p : Int)) := by show _ = _; unfold wrap64; omega
      have wq1 : Hid (wrap64 (y / 16 % (q : Int)) = y / 16 % (q : Int)) := by show _ = _; unfold wrap64; omega
      clear hb1' hb2'
      have hs2 : Hid (s1 = seedAt seed (k + 1)) := hs1.out
      rcases (by omega : y % 16 = 0 ∨ y % 16 = 1 ∨ y % 16 = 2 ∨ y % 16 = 3 ∨ y % 16 = 4 ∨ (y % 16 ≠ 0 ∧ y % 16 ≠ 1 ∧ y % 16 ≠ 2 ∧ y % 16 ≠ 3 ∧ y % 16 ≠ 4)) with h | h | h | h | h | ⟨a0, a1, a2, a3, a4⟩
      · have hE : entryS y p q = ⟨2, 0, 0⟩ := by unfold entryS; rw [if_pos h]
        have hcx := Hcx.out
        rw [hE] at hcx
        dsimp only at hcx
        have heq : ∀ w, (Op.equalIn 10000 41 (stV ⟨2, 0, 0⟩) (stV ⟨2, 0, 0⟩)).run Try.prog w = .ok true w := fun w => by rw [equalSt, decide_eq_true rfl]
        dsimp only [stV] at heq
        have hgu := guardSt
        clear hE Hcx
        go_wp2_with fail
        go_quiet (fail)
        rw [wp1.out, wq1.out]
        have hKd := HM.out.drewN nq
        obtain ⟨wd, hwd⟩ : ∃ wd, wd = wr.drewN nq := ⟨_, rfl⟩
        have hcl : ∀ a, wd.cell? a = wr.cell? a := fun a => by rw [hwd]; rfl
        rw [← hcl, ← hcl, ← hcl] at hcx
        rw [← hwd] at hKd ⊢
        have hbd : b < wd.heap.size := by rw [hwd]; exact hbr
        have HKd := Lib.hid hKd
        clear hwd hKd hbr hcl
        go_wp2_with fail
        go_quiet (fail)
        go_wp2_with fail
        refine ⟨⟨k + 1, by omega, by go_num, by rw [hs2.out], ?_⟩, by simp [intOf]; omega⟩
        show Keeps _ _ _
        repeat (first | exact HKd.out | apply Keeps.drewN | (refine Keeps.set ?_ (.inr HKd.out.size) _) | apply Keeps.alloc)
      · have hE : entryS y p q = ⟨6, 0, 0⟩ := by unfold entryS; rw [if_neg (by omega), if_pos h]
        have hcx := Hcx.out
        rw [hE] at hcx
        dsimp only at hcx
        have heq : ∀ w, (Op.equalIn 10000 41 (stV ⟨6, 0, 0⟩) (stV ⟨6, 0, 0⟩)).run Try.prog w = .ok true w := fun w => by rw [equalSt, decide_eq_true rfl]
        dsimp only [stV] at heq
        have hgu := guardSt
        clear hE Hcx
        go_wp2_with fail
        go_quiet (fail)
        rw [wp1.out, wq1.out]
        have hKd := HM.out.drewN nq
        obtain ⟨wd, hwd⟩ : ∃ wd, wd = wr.drewN nq := ⟨_, rfl⟩
        have hcl : ∀ a, wd.cell? a = wr.cell? a := fun a => by rw [hwd]; rfl
        rw [← hcl, ← hcl, ← hcl] at hcx
        rw [← hwd] at hKd ⊢
        have hbd : b < wd.heap.size := by rw [hwd]; exact hbr
        have HKd := Lib.hid hKd
        clear hwd hKd hbr hcl
        go_wp2_with fail
        go_quiet (fail)
        go_wp2_with fail
        refine ⟨⟨k + 1, by omega, by go_num, by rw [hs2.out], ?_⟩, by simp [intOf]; omega⟩
        show Keeps _ _ _
        repeat (first | exact HKd.out | apply Keeps.drewN | (refine Keeps.set ?_ (.inr HKd.out.size) _) | apply Keeps.alloc)
      · have hE : entryS y p q = ⟨5, y / 16 % q, 0⟩ := by unfold entryS; rw [if_neg (by omega), if_neg (by omega), if_pos h]
        have hcx := Hcx.out
        rw [hE] at hcx
        dsimp only at hcx
        have heq : ∀ w, (Op.equalIn 10000 41 (stV ⟨5, y / 16 % q, 0⟩) (stV ⟨5, y / 16 % q, 0⟩)).run Try.prog w = .ok true w := fun w => by rw [equalSt, decide_eq_true rfl]
        dsimp only [stV] at heq
        have hgu := guardSt
        clear hE Hcx
        go_wp2_with fail
        go_quiet (fail)
        rw [wp1.out, wq1.out]
        have hKd := HM.out.drewN nq
        obtain ⟨wd, hwd⟩ : ∃ wd, wd = wr.drewN nq := ⟨_, rfl⟩
        have hcl : ∀ a, wd.cell? a = wr.cell? a := fun a => by rw [hwd]; rfl
        rw [← hcl, ← hcl, ← hcl] at hcx
        rw [← hwd] at hKd ⊢
        have hbd : b < wd.heap.size := by rw [hwd]; exact hbr
        have HKd := Lib.hid hKd
        clear hwd hKd hbr hcl
        go_wp2_with fail
        go_quiet (fail)
        go_wp2_with fail
        refine ⟨⟨k + 1, by omega, by go_num, by rw [hs2.out], ?_⟩, by simp [intOf]; omega⟩
        show Keeps _ _ _
        repeat (first | exact HKd.out | apply Keeps.drewN | (refine Keeps.set ?_ (.inr HKd.out.size) _) | apply Keeps.alloc)
      · have hE : entryS y p q = ⟨3, y / 16 % q, y / 65536⟩ := by unfold entryS; rw [if_neg (by omega), if_neg (by omega), if_neg (by omega), if_pos h]
        have hcx := Hcx.out
        rw [hE] at hcx
        dsimp only at hcx
        have heq : ∀ w, (Op.equalIn 10000 41 (stV ⟨3, y / 16 % q, y / 65536⟩) (stV ⟨3, y / 16 % q, y / 65536⟩)).run Try.prog w = .ok true w := fun w => by rw [equalSt, decide_eq_true rfl]
        dsimp only [stV] at heq
        have hgu := guardSt
        clear hE Hcx
        go_wp2_with fail
        go_quiet (fail)
        rw [wp1.out, wq1.out]
        have hKd := HM.out.drewN nq
        obtain ⟨wd, hwd⟩ : ∃ wd, wd = wr.drewN nq := ⟨_, rfl⟩
        have hcl : ∀ a, wd.cell? a = wr.cell? a := fun a => by rw [hwd]; rfl
        rw [← hcl, ← hcl, ← hcl] at hcx
        rw [← hwd] at hKd ⊢
        have hbd : b < wd.heap.size := by rw [hwd]; exact hbr
        have HKd := Lib.hid hKd
        clear hwd hKd hbr hcl
        go_wp2_with fail
        go_quiet (fail)
        go_wp2_with fail
        refine ⟨⟨k + 1, by omega, by go_num, by rw [hs2.out], ?_⟩, by simp [intOf]; omega⟩
        show Keeps _ _ _
        repeat (first | exact HKd.out | apply Keeps.drewN | (refine Keeps.set ?_ (.inr HKd.out.size) _) | apply Keeps.alloc)
      · have hE : entryS y p q = ⟨4, y / 16 % p, 0⟩ := by unfold entryS; rw [if_neg (by omega), if_neg (by omega), if_neg (by omega), if_neg (by omega), if_pos h]
        have hcx := Hcx.out
        rw [hE] at hcx
        dsimp only at hcx
        have heq : ∀ w, (Op.equalIn 10000 41 (stV ⟨4, y / 16 % p, 0⟩) (stV ⟨4, y / 16 % p, 0⟩)).run Try.prog w = .ok true w := fun w => by rw [equalSt, decide_eq_true rfl]
        dsimp only [stV] at heq
        have hgu := guardSt
        clear hE Hcx
        go_wp2_with fail
        go_quiet (fail)
        rw [wp1.out, wq1.out]
        have hKd := HM.out.drewN nq
        obtain ⟨wd, hwd⟩ : ∃ wd, wd = wr.drewN nq := ⟨_, rfl⟩
        have hcl : ∀ a, wd.cell? a = wr.cell? a := fun a => by rw [hwd]; rfl
        rw [← hcl, ← hcl, ← hcl] at hcx
        rw [← hwd] at hKd ⊢
        have hbd : b < wd.heap.size := by rw [hwd]; exact hbr
        have HKd := Lib.hid hKd
        clear hwd hKd hbr hcl
        go_wp2_with fail
        go_quiet (fail)
        go_wp2_with fail
        refine ⟨⟨k + 1, by omega, by go_num, by rw [hs2.out], ?_⟩, by simp [intOf]; omega⟩
        show Keeps _ _ _
        repeat (first | exact HKd.out | apply Keeps.drewN | (refine Keeps.set ?_ (.inr HKd.out.size) _) | apply Keeps.alloc)
      · have hE : entryS y p q = ⟨1, y / 16 % p, y / 65536⟩ := by unfold entryS; rw [if_neg a0, if_neg a1, if_neg a2, if_neg a3, if_neg a4]
        have hcx := Hcx.out
        rw [hE] at hcx
        dsimp only at hcx
        have heq : ∀ w, (Op.equalIn 10000 41 (stV ⟨1, y / 16 % p, y / 65536⟩) (stV ⟨1, y / 16 % p, y / 65536⟩)).run Try.prog w = .ok true w := fun w => by rw [equalSt, decide_eq_true rfl]
        dsimp only [stV] at heq
        have hgu := guardSt
        clear hE Hcx
        go_wp2_with fail
        go_quiet (fail)
        rw [wp1.out, wq1.out]
        have hKd := HM.out.drewN nq
        obtain ⟨wd, hwd⟩ : ∃ wd, wd = wr.drewN nq := ⟨_, rfl⟩
        have hcl : ∀ a, wd.cell? a = wr.cell? a := fun a => by rw [hwd]; rfl
        rw [← hcl, ← hcl, ← hcl] at hcx
        rw [← hwd] at hKd ⊢
        have hbd : b < wd.heap.size := by rw [hwd]; exact hbr
        have HKd := Lib.hid hKd
        clear hwd hKd hbr hcl
        go_wp2_with fail
        go_quiet (fail)
        go_wp2_with fail
        refine ⟨⟨k + 1, by omega, by go_num, by rw [hs2.out], ?_⟩, by simp [intOf]; omega⟩
        show Keeps _ _ _
        repeat (first | exact HKd.out | apply Keeps.drewN | (refine Keeps.set ?_ (.inr HKd.out.size) _) | apply Keeps.alloc)
    · obtain rfl : k = n := by omega
      have hk3 := hk
      go_wp2_with fail
      refine (awake28_calls _).mono ?_
      rintro e w7 ⟨rfl, k7⟩
      have K7 := Lib.hid ((HK.out.trans HM.out (fun _ _ h => h)).trans k7 (fun _ _ h => h))
      clear k7
      go_wp2_with fail
      go_ret
      exact ⟨rfl, K7.out⟩
set_option maxHeartbeats 8000000 in
set_option maxRecDepth 100000 in
theorem mmain_cut (seed n0 : Int) (p q n : Nat) (w : World) (hp : 1 ≤ p) (hp2 : p ≤ 64) (hq : 1 ≤ q) (hq2 : q ≤ 64) (h1 : 300 < n0) (h2 : n0 ≤ 65536) (h3 : n = 300) : Calls Try.prog 8 #[.int .u64 seed, .int .i64 p, .int .i64 q, .int .i64 n0] w fun e w' => e = .returned (.bool true) ∧ Keeps NoBlock w w' := by
  have hn3 : n ≤ 300 := by omega
  have hmi := Lib.hid (mix_calls seed p q n (by omega) (by omega) (by omega) (by omega) (by omega) w)
  have hlen := Lib.hid (mixL_len seed p q n)
  rw [show (n : Int) = 300 by omega] at hmi; have hn300 : ((n : Int) != 300) = false := (by rw [show (n : Int) = 300 by omega]; rfl); have Hn := Lib.hid h3; clear h3
  go_enter Try.func8, Try.ntmps8
  go_wp2_with fail
  refine hmi.out.mono ?_
  rintro e w1 ⟨A1, c1, rfl, M1⟩
  have HK := Lib.hid M1.kp
  have HR := Lib.hid (Own.rd encS_len M1.own)
  rw [hlen.out] at HR ⊢
  obtain ⟨A', b, off, c', hv, hA, hc⟩ := HR.out
  simp only [Value.slice.injEq] at hv
  obtain ⟨rfl, -, rfl⟩ := hv
  rw [hlen.out] at hA
  have HA := Lib.hid hA
  have Hc := Lib.hid hc
  clear M1 hA hc HR
  go_wp2_with fail
  go_loopw [10, 11] (fun x i wr => ∃ k : Nat, k ≤ n ∧ i = .int .i64 k ∧ x = .int .u64 (seedAt seed k) ∧ Hid (Keeps NoBlock w1 wr)) (fun _ i _ => n - (intOf i).toNat)
  case atStart => exact ⟨0, Nat.zero_le _, rfl, rfl, Keeps.refl _ _⟩
  case round =>
    obtain ⟨k, hk, rfl, rfl, HM⟩ := hrel
    by_cases hkn : k < n
    · have hk3 : (k : Int) < 300 := by have := Hn.out; omega
      obtain ⟨rfl, hb1⟩ := HA.out (by omega)
      have hcx := cells3 Hc.out (mixL_get seed p q n k hkn)
      rw [← HM.out.cell hb1 (fun h => h), ← HM.out.cell hb1 (fun h => h), ← HM.out.cell hb1 (fun h => h)] at hcx
      have hbr : b < wr.heap.size := Nat.lt_of_lt_of_le hb1 HM.out.size
      obtain ⟨s1, hs1⟩ : ∃ s1, Hid (s1 = nx (seedAt seed k)) := ⟨_, rfl⟩
      have hbd := hi_bound (seedAt seed k)
      rw [← hs1.out] at hcx hbd
      obtain ⟨y, hy⟩ : ∃ y, Hid (y = hi s1) := ⟨_, rfl⟩
      rw [← hy.out] at hcx hbd
      obtain ⟨hy0, hy1⟩ := hbd
      have Hcx := Lib.hid hcx
      clear hcx
      go_upto_region 13 with fail
      rw [show IntKind.u64.wrap (IntKind.u64.wrap (seedAt seed k * 6364136223846793005) + 1442695040888963407) = s1 from hs1.out.symm]
      go_upto_region 14 with fail
      rw [show s1 / 8589934592 = y from hy.out.symm]
      go_upto_region 15 with fail
      have hp0 : ((p : Int) == 0) = false := by rw [beq_eq_false_iff_ne]; omega
      have hq0 : ((q : Int) == 0) = false := by rw [beq_eq_false_iff_ne]; omega
      have hb1' : 0 ≤ y / 16 % (p : Int) ∧ y / 16 % (p : Int) < p := ⟨Int.emod_nonneg _ (by omega), Int.emod_lt_of_pos _ (by omega)⟩
      have hb2' : 0 ≤ y / 16 % (q : Int) ∧ y / 16 % (q : Int) < q := ⟨Int.emod_nonneg _ (by omega), Int.emod_lt_of_pos _ (by omega)⟩
      have wp1 : Hid (wrap64 (y / 16 % (p : Int)) = y / 16 % (p : Int)) := by show _ = _; unfold wrap64; omega
      have wq1 : Hid (wrap64 (y / 16 % (q : Int)) = y / 16 % (q : Int)) := by show _ = _; unfold wrap64; omega
      clear hb1' hb2'
      have hs2 : Hid (s1 = seedAt seed (k + 1)) := hs1.out
      rcases (by omega : y % 16 = 0 ∨ y % 16 = 1 ∨ y % 16 = 2 ∨ y % 16 = 3 ∨ y % 16 = 4 ∨ (y % 16 ≠ 0 ∧ y % 16 ≠ 1 ∧ y % 16 ≠ 2 ∧ y % 16 ≠ 3 ∧ y % 16 ≠ 4)) with h | h | h | h | h | ⟨a0, a1, a2, a3, a4⟩
      · have hE : entryS y p q = ⟨2, 0, 0⟩ := by unfold entryS; rw [if_pos h]
        have hcx := Hcx.out
        rw [hE] at hcx
        dsimp only at hcx
        have heq : ∀ w, (Op.equalIn 10000 41 (stV ⟨2, 0, 0⟩) (stV ⟨2, 0, 0⟩)).run Try.prog w = .ok true w := fun w => by rw [equalSt, decide_eq_true rfl]
        dsimp only [stV] at heq
        have hgu := guardSt
        clear hE Hcx
        go_wp2_with fail
        go_quiet (fail)
        rw [wp1.out, wq1.out]
        have hKd := HM.out.drewN nq
        obtain ⟨wd, hwd⟩ : ∃ wd, wd = wr.drewN nq := ⟨_, rfl⟩
        have hcl : ∀ a, wd.cell? a = wr.cell? a := fun a => by rw [hwd]; rfl
        rw [← hcl, ← hcl, ← hcl] at hcx
        rw [← hwd] at hKd ⊢
        have hbd : b < wd.heap.size := by rw [hwd]; exact hbr
        have HKd := Lib.hid hKd
        clear hwd hKd hbr hcl
        go_wp2_with fail
        go_quiet (fail)
        go_wp2_with fail
        refine ⟨⟨k + 1, by omega, by go_num, by rw [hs2.out], ?_⟩, by simp [intOf]; omega⟩
        show Keeps _ _ _
        repeat (first | exact HKd.out | apply Keeps.drewN | (refine Keeps.set ?_ (.inr HKd.out.size) _) | apply Keeps.alloc)
      · have hE : entryS y p q = ⟨6, 0, 0⟩ := by unfold entryS; rw [if_neg (by omega), if_pos h]
        have hcx := Hcx.out
        rw [hE] at hcx
        dsimp only at hcx
        have heq : ∀ w, (Op.equalIn 10000 41 (stV ⟨6, 0, 0⟩) (stV ⟨6, 0, 0⟩)).run Try.prog w = .ok true w := fun w => by rw [equalSt, decide_eq_true rfl]
        dsimp only [stV] at heq
        have hgu := guardSt
        clear hE Hcx
        go_wp2_with fail
        go_quiet (fail)
        rw [wp1.out, wq1.out]
        have hKd := HM.out.drewN nq
        obtain ⟨wd, hwd⟩ : ∃ wd, wd = wr.drewN nq := ⟨_, rfl⟩
        have hcl : ∀ a, wd.cell? a = wr.cell? a := fun a => by rw [hwd]; rfl
        rw [← hcl, ← hcl, ← hcl] at hcx
        rw [← hwd] at hKd ⊢
        have hbd : b < wd.heap.size := by rw [hwd]; exact hbr
        have HKd := Lib.hid hKd
        clear hwd hKd hbr hcl
        go_wp2_with fail
        go_quiet (fail)
        go_wp2_with fail
        refine ⟨⟨k + 1, by omega, by go_num, by rw [hs2.out], ?_⟩, by simp [intOf]; omega⟩
        show Keeps _ _ _
        repeat (first | exact HKd.out | apply Keeps.drewN | (refine Keeps.set ?_ (.inr HKd.out.size) _) | apply Keeps.alloc)
      · have hE : entryS y p q = ⟨5, y / 16 % q, 0⟩ := by unfold entryS; rw [if_neg (by omega), if_neg (by omega), if_pos h]
        have hcx := Hcx.out
        rw [hE] at hcx
        dsimp only at hcx
        have heq : ∀ w, (Op.equalIn 10000 41 (stV ⟨5, y / 16 % q, 0⟩) (stV ⟨5, y / 16 % q, 0⟩)).run Try.prog w = .ok true w := fun w => by rw [equalSt, decide_eq_true rfl]
        dsimp only [stV] at heq
        have hgu := guardSt
        clear hE Hcx
        go_wp2_with fail
        go_quiet (fail)
        rw [wp1.out, wq1.out]
        have hKd := HM.out.drewN nq
        obtain ⟨wd, hwd⟩ : ∃ wd, wd = wr.drewN nq := ⟨_, rfl⟩
        have hcl : ∀ a, wd.cell? a = wr.cell? a := fun a => by rw [hwd]; rfl
        rw [← hcl, ← hcl, ← hcl] at hcx
        rw [← hwd] at hKd ⊢
        have hbd : b < wd.heap.size := by rw [hwd]; exact hbr
        have HKd := Lib.hid hKd
        clear hwd hKd hbr hcl
        go_wp2_with fail
        go_quiet (fail)
        go_wp2_with fail
        refine ⟨⟨k + 1, by omega, by go_num, by rw [hs2.out], ?_⟩, by simp [intOf]; omega⟩
        show Keeps _ _ _
        repeat (first | exact HKd.out | apply Keeps.drewN | (refine Keeps.set ?_ (.inr HKd.out.size) _) | apply Keeps.alloc)
      · have hE : entryS y p q = ⟨3, y / 16 % q, y / 65536⟩ := by unfold entryS; rw [if_neg (by omega), if_neg (by omega), if_neg (by omega), if_pos h]
        have hcx := Hcx.out
        rw [hE] at hcx
        dsimp only at hcx
        have heq : ∀ w, (Op.equalIn 10000 41 (stV ⟨3, y / 16 % q, y / 65536⟩) (stV ⟨3, y / 16 % q, y / 65536⟩)).run Try.prog w = .ok true w := fun w => by rw [equalSt, decide_eq_true rfl]
        dsimp only [stV] at heq
        have hgu := guardSt
        clear hE Hcx
        go_wp2_with fail
        go_quiet (fail)
        rw [wp1.out, wq1.out]
        have hKd := HM.out.drewN nq
        obtain ⟨wd, hwd⟩ : ∃ wd, wd = wr.drewN nq := ⟨_, rfl⟩
        have hcl : ∀ a, wd.cell? a = wr.cell? a := fun a => by rw [hwd]; rfl
        rw [← hcl, ← hcl, ← hcl] at hcx
        rw [← hwd] at hKd ⊢
        have hbd : b < wd.heap.size := by rw [hwd]; exact hbr
        have HKd := Lib.hid hKd
        clear hwd hKd hbr hcl
        go_wp2_with fail
        go_quiet (fail)
        go_wp2_with fail
        refine ⟨⟨k + 1, by omega, by go_num, by rw [hs2.out], ?_⟩, by simp [intOf]; omega⟩
        show Keeps _ _ _
        repeat (first | exact HKd.out | apply Keeps.drewN | (refine Keeps.set ?_ (.inr HKd.out.size) _) | apply Keeps.alloc)
      · have hE : entryS y p q = ⟨4, y / 16 % p, 0⟩ := by unfold entryS; rw [if_neg (by omega), if_neg (by omega), if_neg (by omega), if_neg (by omega), if_pos h]
        have hcx := Hcx.out
        rw [hE] at hcx
        dsimp only at hcx
        have heq : ∀ w, (Op.equalIn 10000 41 (stV ⟨4, y / 16 % p, 0⟩) (stV ⟨4, y / 16 % p, 0⟩)).run Try.prog w = .ok true w := fun w => by rw [equalSt, decide_eq_true rfl]
        dsimp only [stV] at heq
        have hgu := guardSt
        clear hE Hcx
        go_wp2_with fail
        go_quiet (fail)
        rw [wp1.out, wq1.out]
        have hKd := HM.out.drewN nq
        obtain ⟨wd, hwd⟩ : ∃ wd, wd = wr.drewN nq := ⟨_, rfl⟩
        have hcl : ∀ a, wd.cell? a = wr.cell? a := fun a => by rw [hwd]; rfl
        rw [← hcl, ← hcl, ← hcl] at hcx
        rw [← hwd] at hKd ⊢
        have hbd : b < wd.heap.size := by rw [hwd]; exact hbr
        have HKd := Lib.hid hKd
        clear hwd hKd hbr hcl
        go_wp2_with fail
        go_quiet (fail)
        go_wp2_with fail
        refine ⟨⟨k + 1, by omega, by go_num, by rw [hs2.out], ?_⟩, by simp [intOf]; omega⟩
        show Keeps _ _ _
        repeat (first | exact HKd.out | apply Keeps.drewN | (refine Keeps.set ?_ (.inr HKd.out.size) _) | apply Keeps.alloc)
      · have hE : entryS y p q = ⟨1, y / 16 % p, y / 65536⟩ := by unfold entryS; rw [if_neg a0, if_neg a1, if_neg a2, if_neg a3, if_neg a4]
        have hcx := Hcx.out
        rw [hE] at hcx
        dsimp only at hcx
        have heq : ∀ w, (Op.equalIn 10000 41 (stV ⟨1, y / 16 % p, y / 65536⟩) (stV ⟨1, y / 16 % p, y / 65536⟩)).run Try.prog w = .ok true w := fun w => by rw [equalSt, decide_eq_true rfl]
        dsimp only [stV] at heq
        have hgu := guardSt
        clear hE Hcx
        go_wp2_with fail
        go_quiet (fail)
        rw [wp1.out, wq1.out]
        have hKd := HM.out.drewN nq
        obtain ⟨wd, hwd⟩ : ∃ wd, wd = wr.drewN nq := ⟨_, rfl⟩
        have hcl : ∀ a, wd.cell? a = wr.cell? a := fun a => by rw [hwd]; rfl
        rw [← hcl, ← hcl, ← hcl] at hcx
        rw [← hwd] at hKd ⊢
        have hbd : b < wd.heap.size := by rw [hwd]; exact hbr
        have HKd := Lib.hid hKd
        clear hwd hKd hbr hcl
        go_wp2_with fail
        go_quiet (fail)
        go_wp2_with fail
        refine ⟨⟨k + 1, by omega, by go_num, by rw [hs2.out], ?_⟩, by simp [intOf]; omega⟩
        show Keeps _ _ _
        repeat (first | exact HKd.out | apply Keeps.drewN | (refine Keeps.set ?_ (.inr HKd.out.size) _) | apply Keeps.alloc)
    · obtain rfl : k = n := by omega
      have hk3 : (300 : Int) ≤ k := by have := Hn.out; omega
      go_wp2_with fail
      refine (awake28_calls _).mono ?_
      rintro e w7 ⟨rfl, k7⟩
      have K7 := Lib.hid ((HK.out.trans HM.out (fun _ _ h => h)).trans k7 (fun _ _ h => h))
      clear k7
      go_wp2_with fail
      go_ret
      exact ⟨rfl, K7.out⟩

theorem mixes_law (w : World) (seed : Int) (_hs : (Lit.int .u64 seed).wf = true) (p : Int) (_hp : (Lit.int .i64 p).wf = true) (q : Int) (_hq : (Lit.int .i64 q).wf = true) (n0 : Int) (_hn : (Lit.int .i64 n0).wf = true) :
    Calls Try.prog 8 #[.int .u64 seed, .int .i64 p, .int .i64 q, .int .i64 n0] w fun e w' => e = .returned (.bool true) ∧ Below w.heap.size w w' := by
  have key : Calls Try.prog 8 #[.int .u64 seed, .int .i64 p, .int .i64 q, .int .i64 n0] w fun e w' => e = .returned (.bool true) ∧ Keeps NoBlock w w' := by
    by_cases hbad : p < 1 ∨ 64 < p ∨ q < 1 ∨ 64 < q ∨ n0 < 0 ∨ 65536 < n0
    · by_cases h1 : 65536 < n0
      · exact mbad_hi seed p q n0 w h1 hbad
      by_cases h2 : n0 < 0
      · exact mbad_lo seed p q n0 w h2 hbad
      by_cases h3 : 300 < n0
      · exact mbad_mid seed p q n0 w h3 (by omega) hbad
      · exact mbad_in seed p q n0 w (by omega) (by omega) hbad
    · obtain ⟨a, rfl⟩ : ∃ a : Nat, p = a := ⟨p.toNat, by omega⟩
      obtain ⟨b, rfl⟩ : ∃ b : Nat, q = b := ⟨q.toNat, by omega⟩
      by_cases h3 : 300 < n0
      · exact mmain_cut seed n0 a b 300 w (by omega) (by omega) (by omega) (by omega) h3 (by omega) rfl
      · exact mmain_low seed n0 a b n0.toNat w (by omega) (by omega) (by omega) (by omega) (by omega) (by omega)
  exact key.mono fun _ _ ⟨he, hk⟩ => ⟨he, hk.below (Nat.le_refl _) (fun _ h => h.elim)⟩
end Sd
end Go.Proofs.Ytlnfjjbfdbcgbaa
