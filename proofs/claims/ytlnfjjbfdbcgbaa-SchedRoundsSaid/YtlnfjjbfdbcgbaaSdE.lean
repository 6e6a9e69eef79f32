/- SchedRounds: each processor once a round. -/
import Derived.Test.YtlnfjjbfdbcgbaaSdD
import Derived.Test.YtlnfjjbfdbcgbaaArg
namespace Go.Proofs.Ytlnfjjbfdbcgbaa
open Go.RowKit
namespace Sd

theorem roundsL_zero (n : Nat) : roundsL 0 n = [] := List.eq_nil_of_length_eq_zero (by rw [roundsL_len]; omega)

theorem rounds_any (procs : Int) (n : Nat) (hp2 : procs ≤ 64) (hn : n ≤ 65536) (w : World) : Calls Try.prog 18 #[.int .i64 procs, .int .i64 n] w (NewSt w (roundsL procs.toNat n)) := by
  by_cases h : 1 ≤ procs
  · obtain ⟨p, rfl⟩ : ∃ p : Nat, procs = p := ⟨procs.toNat, by omega⟩
    exact rounds_calls p n (by omega) (by omega) hn w
  · rw [show procs.toNat = 0 by omega, roundsL_zero]
    exact rounds_none procs n (by omega) w


set_option maxHeartbeats 4000000 in
set_option maxRecDepth 100000 in
theorem rlaw_low (procs n0 : Int) (n : Nat) (w : World) (hp : procs ≤ 64) (hlow : -9223372036854775808 ≤ procs) (h1 : n0 = n) (hn3 : n ≤ 300) : Calls Try.prog 7 #[.int .i64 procs, .int .i64 n0] w fun e w' => e = .returned (.bool true) ∧ Keeps NoBlock w w' := by
  subst h1
  have hro := Lib.hid (rounds_any procs n hp (by omega) w)
  obtain ⟨P, hP⟩ : ∃ P, Hid (P = procs.toNat) := ⟨_, rfl⟩
  have hlt : ∀ q : Nat, q < P ↔ (q : Int) < procs := fun q => by rw [hP.out]; omega
  have Hlt := Lib.hid hlt
  have hP64 : P ≤ 64 := by rw [hP.out]; omega
  have hlen := Lib.hid (roundsL_len P n)
  rw [← hP.out] at hro
  have hn4 := hn3
  clear hlt hP
  have hPk : ∀ k, k ≤ n → k * P ≤ 300 * 64 := fun k hk => Nat.mul_le_mul (by omega) hP64
  have HPk := Lib.hid hPk
  clear hPk
  go_enter Try.func7, Try.ntmps7
  go_wp2_with fail
  refine hro.out.mono ?_
  rintro e w1 ⟨A1, c1, rfl, M1⟩
  have HM1 := Lib.hid M1
  rw [hlen.out]
  clear M1
  go_wp2_with fail
  go_loopw [6, 7] (fun v i wr => ∃ (k : Nat) (A : Option Addr) (c : Nat), k ≤ n ∧ i = .int .i64 k ∧ v = .slice A (k * P) c ∧ Hid (Mine w1 wr 41 3 (.slice A (k * P) c) (k * P) ((roundsL P k).flatMap encS))) (fun _ i _ => n - (intOf i).toNat)
  case atStart =>
    refine ⟨0, _, 0, Nat.zero_le _, rfl, by rw [Nat.zero_mul], ?_⟩
    show Mine _ _ _ _ _ _ _
    rw [Nat.zero_mul]
    exact ⟨World.ownsRow_lit w1 #[] 0 (Nat.zero_le _) (by simp [maxLen]) rfl, fun b hb => by simp only [Value.ownBlock, Option.some.injEq] at hb; omega, (Keeps.refl _ _).alloc _⟩
  case round =>
    obtain ⟨k, A, c, hk, rfl, rfl, HM⟩ := hrel
    by_cases hkn : k < n
    · have hk3 := hkn
      have hb1 := HPk.out (k + 1) hkn
      have hsum : (k + 1) * P = k * P + P := by rw [Nat.add_mul, Nat.one_mul]
      rw [hsum] at hb1
      have Hsum := Lib.hid hsum
      clear hsum
      obtain ⟨wo, rfl⟩ : ∃ wo : World, wo = wr := ⟨_, rfl⟩
      go_wp2_with fail
      go_loopw [6, 8] (fun v i wr => ∃ (q : Nat) (A : Option Addr) (c : Nat), q ≤ P ∧ i = .int .i64 q ∧ v = .slice A (k * P + q) c ∧ Hid (Mine w1 wr 41 3 (.slice A (k * P + q) c) (k * P + q) ((roundsL P k ++ roundL k q).flatMap encS))) (fun _ i _ => P - (intOf i).toNat)
      case atStart => exact ⟨0, A, c, Nat.zero_le _, rfl, rfl, by show Mine _ _ _ _ _ _ _; simpa [roundL] using HM.out⟩
      case round =>
        obtain ⟨q, A2, c2, hq, rfl, rfl, HM2⟩ := hrel
        by_cases hlq : q < P
        · have hqp := (Hlt.out q).1 hlq
          have hfin : Hid ((roundsL P k ++ roundL k (q + 1)).flatMap encS = (roundsL P k ++ roundL k q).flatMap encS ++ [.int .i64 1, .int .i64 q, .int .i64 k]) := by
            show _ = _
            rw [roundL_succ, ← List.append_assoc, List.flatMap_append]; rfl
          go_wp2_with (at_builtin; refine wpList_appN eS _ rfl _ _ rfl (.slice A2 (k * P + q) c2) (k * P + q) _ rfl (World.ownsRow.alloc HM2.out.own _) ⟨wr.heap.size, 0, none⟩ 1 1 [.int .i64 1, .int .i64 q, .int .i64 k] rfl rfl (newsB (e := 41) (block_alloc_new wr _)) ?_ ?_ ?_ ?_)
          · simp [Value.oneCell']
          · simp only [maxLen]; omega
          · omega
          rintro v4 w4 ho4 hg4 hf4 g4 c4 rfl
          have M4 := HM2.out.grow ((Keeps.refl _ wr).alloc _) ho4 hg4 hf4 (by omega)
          have HM4 : Hid (Mine w1 w4 41 3 (.slice (some ⟨g4, 0, none⟩) (k * P + (q + 1)) c4) (k * P + (q + 1)) ((roundsL P k ++ roundL k (q + 1)).flatMap encS)) := by
            show Mine _ _ _ _ _ _ _
            rw [hfin.out, List.flatMap_append, List.append_assoc]; exact M4
          clear M4 ho4 hg4 hf4
          go_wp2_with fail
          exact ⟨⟨q + 1, some ⟨g4, 0, none⟩, c4, by omega, by go_num, rfl, HM4.out⟩, by simp [intOf]; omega⟩
        · obtain rfl : q = P := by omega
          have hqp : procs ≤ (q : Int) := by have := (Hlt.out q).2; omega
          have HM3 : Hid (Mine w1 wr 41 3 (.slice A2 ((k + 1) * q) c2) ((k + 1) * q) ((roundsL q (k + 1)).flatMap encS)) := by
            show Mine _ _ _ _ _ _ _
            rw [Hsum.out, roundsL_succ]; exact HM2.out
          go_wp2_with fail
          exact ⟨⟨k + 1, A2, c2, by omega, by go_num, by rw [Hsum.out], HM3.out⟩, by simp [intOf]; omega⟩
    · obtain rfl : k = n := by omega
      have hk3 := hk
      have R1 : Hid (Rd encS 3 w1 (.slice A1 (k * P) c1) (roundsL P k)) := by
        have h := HM1.out.own
        show Rd _ _ _ _ _
        rw [hlen.out] at h
        rw [← hlen.out] at h ⊢
        exact Own.rd encS_len h
      have R2 : Hid (Rd encS 3 wr (.slice A (k * P) c) (roundsL P k)) := by
        have h := HM.out.own
        show Rd _ _ _ _ _
        rw [← hlen.out] at h ⊢
        exact Own.rd encS_len h
      go_wp2_with fail
      refine (awake28_calls _).mono ?_
      rintro e w7 ⟨rfl, k7⟩
      have K7 := Lib.hid k7
      clear k7
      have hl3 : Hid ((roundsL P k).length < 1000000000000000) := by show _ < _; rw [hlen.out]; have := HPk.out k (Nat.le_refl _); omega
      go_wp2_with fail
      refine (same_calls _ _ (roundsL P k) (roundsL P k) _ ((R1.out.keeps HM.out.kp (fun _ _ h => h)).keeps K7.out (fun _ _ h => h)) (R2.out.keeps K7.out (fun _ _ h => h)) hl3.out hl3.out).mono ?_
      rintro e w8 ⟨rfl, k8⟩
      have K8 := Lib.hid (((HM1.out.kp.trans HM.out.kp (fun _ _ h => h)).trans K7.out (fun _ _ h => h)).trans k8 (fun _ _ h => h))
      rw [decide_eq_true rfl]
      clear k8
      go_wp2_with fail
      go_ret
      exact ⟨rfl, K8.out⟩
set_option maxHeartbeats 4000000 in
set_option maxRecDepth 100000 in
theorem rlaw_cut (procs n0 : Int) (n : Nat) (w : World) (hp : procs ≤ 64) (hlow : -9223372036854775808 ≤ procs) (h1 : 300 < n0) (h2 : n0 ≤ 65536) (h3 : n = 300) : Calls Try.prog 7 #[.int .i64 procs, .int .i64 n0] w fun e w' => e = .returned (.bool true) ∧ Keeps NoBlock w w' := by
  have hn3 : n ≤ 300 := by omega
  have hro := Lib.hid (rounds_any procs n hp (by omega) w)
  obtain ⟨P, hP⟩ : ∃ P, Hid (P = procs.toNat) := ⟨_, rfl⟩
  have hlt : ∀ q : Nat, q < P ↔ (q : Int) < procs := fun q => by rw [hP.out]; omega
  have Hlt := Lib.hid hlt
  have hP64 : P ≤ 64 := by rw [hP.out]; omega
  have hlen := Lib.hid (roundsL_len P n)
  rw [← hP.out] at hro
  rw [show (n : Int) = 300 by omega] at hro; have Hn := Lib.hid h3; clear h3
  clear hlt hP
  have hPk : ∀ k, k ≤ n → k * P ≤ 300 * 64 := fun k hk => Nat.mul_le_mul (by omega) hP64
  have HPk := Lib.hid hPk
  clear hPk
  go_enter Try.func7, Try.ntmps7
  go_wp2_with fail
  refine hro.out.mono ?_
  rintro e w1 ⟨A1, c1, rfl, M1⟩
  have HM1 := Lib.hid M1
  rw [hlen.out]
  clear M1
  go_wp2_with fail
  go_loopw [6, 7] (fun v i wr => ∃ (k : Nat) (A : Option Addr) (c : Nat), k ≤ n ∧ i = .int .i64 k ∧ v = .slice A (k * P) c ∧ Hid (Mine w1 wr 41 3 (.slice A (k * P) c) (k * P) ((roundsL P k).flatMap encS))) (fun _ i _ => n - (intOf i).toNat)
  case atStart =>
    refine ⟨0, _, 0, Nat.zero_le _, rfl, by rw [Nat.zero_mul], ?_⟩
    show Mine _ _ _ _ _ _ _
    rw [Nat.zero_mul]
    exact ⟨World.ownsRow_lit w1 #[] 0 (Nat.zero_le _) (by simp [maxLen]) rfl, fun b hb => by simp only [Value.ownBlock, Option.some.injEq] at hb; omega, (Keeps.refl _ _).alloc _⟩
  case round =>
    obtain ⟨k, A, c, hk, rfl, rfl, HM⟩ := hrel
    by_cases hkn : k < n
    · have hk3 : (k : Int) < 300 := by have := Hn.out; omega
      have hb1 := HPk.out (k + 1) hkn
      have hsum : (k + 1) * P = k * P + P := by rw [Nat.add_mul, Nat.one_mul]
      rw [hsum] at hb1
      have Hsum := Lib.hid hsum
      clear hsum
      obtain ⟨wo, rfl⟩ : ∃ wo : World, wo = wr := ⟨_, rfl⟩
      go_wp2_with fail
      go_loopw [6, 8] (fun v i wr => ∃ (q : Nat) (A : Option Addr) (c : Nat), q ≤ P ∧ i = .int .i64 q ∧ v = .slice A (k * P + q) c ∧ Hid (Mine w1 wr 41 3 (.slice A (k * P + q) c) (k * P + q) ((roundsL P k ++ roundL k q).flatMap encS))) (fun _ i _ => P - (intOf i).toNat)
      case atStart => exact ⟨0, A, c, Nat.zero_le _, rfl, rfl, by show Mine _ _ _ _ _ _ _; simpa [roundL] using HM.out⟩
      case round =>
        obtain ⟨q, A2, c2, hq, rfl, rfl, HM2⟩ := hrel
        by_cases hlq : q < P
        · have hqp := (Hlt.out q).1 hlq
          have hfin : Hid ((roundsL P k ++ roundL k (q + 1)).flatMap encS = (roundsL P k ++ roundL k q).flatMap encS ++ [.int .i64 1, .int .i64 q, .int .i64 k]) := by
            show _ = _
            rw [roundL_succ, ← List.append_assoc, List.flatMap_append]; rfl
          go_wp2_with (at_builtin; refine wpList_appN eS _ rfl _ _ rfl (.slice A2 (k * P + q) c2) (k * P + q) _ rfl (World.ownsRow.alloc HM2.out.own _) ⟨wr.heap.size, 0, none⟩ 1 1 [.int .i64 1, .int .i64 q, .int .i64 k] rfl rfl (newsB (e := 41) (block_alloc_new wr _)) ?_ ?_ ?_ ?_)
          · simp [Value.oneCell']
          · simp only [maxLen]; omega
          · omega
          rintro v4 w4 ho4 hg4 hf4 g4 c4 rfl
          have M4 := HM2.out.grow ((Keeps.refl _ wr).alloc _) ho4 hg4 hf4 (by omega)
          have HM4 : Hid (Mine w1 w4 41 3 (.slice (some ⟨g4, 0, none⟩) (k * P + (q + 1)) c4) (k * P + (q + 1)) ((roundsL P k ++ roundL k (q + 1)).flatMap encS)) := by
            show Mine _ _ _ _ _ _ _
            rw [hfin.out, List.flatMap_append, List.append_assoc]; exact M4
          clear M4 ho4 hg4 hf4
          go_wp2_with fail
          exact ⟨⟨q + 1, some ⟨g4, 0, none⟩, c4, by omega, by go_num, rfl, HM4.out⟩, by simp [intOf]; omega⟩
        · obtain rfl : q = P := by omega
          have hqp : procs ≤ (q : Int) := by have := (Hlt.out q).2; omega
          have HM3 : Hid (Mine w1 wr 41 3 (.slice A2 ((k + 1) * q) c2) ((k + 1) * q) ((roundsL q (k + 1)).flatMap encS)) := by
            show Mine _ _ _ _ _ _ _
            rw [Hsum.out, roundsL_succ]; exact HM2.out
          go_wp2_with fail
          exact ⟨⟨k + 1, A2, c2, by omega, by go_num, by rw [Hsum.out], HM3.out⟩, by simp [intOf]; omega⟩
    · obtain rfl : k = n := by omega
      have hk3 : (300 : Int) ≤ k := by have := Hn.out; omega
      have R1 : Hid (Rd encS 3 w1 (.slice A1 (k * P) c1) (roundsL P k)) := by
        have h := HM1.out.own
        show Rd _ _ _ _ _
        rw [hlen.out] at h
        rw [← hlen.out] at h ⊢
        exact Own.rd encS_len h
      have R2 : Hid (Rd encS 3 wr (.slice A (k * P) c) (roundsL P k)) := by
        have h := HM.out.own
        show Rd _ _ _ _ _
        rw [← hlen.out] at h ⊢
        exact Own.rd encS_len h
      go_wp2_with fail
      refine (awake28_calls _).mono ?_
      rintro e w7 ⟨rfl, k7⟩
      have K7 := Lib.hid k7
      clear k7
      have hl3 : Hid ((roundsL P k).length < 1000000000000000) := by show _ < _; rw [hlen.out]; have := HPk.out k (Nat.le_refl _); omega
      go_wp2_with fail
      refine (same_calls _ _ (roundsL P k) (roundsL P k) _ ((R1.out.keeps HM.out.kp (fun _ _ h => h)).keeps K7.out (fun _ _ h => h)) (R2.out.keeps K7.out (fun _ _ h => h)) hl3.out hl3.out).mono ?_
      rintro e w8 ⟨rfl, k8⟩
      have K8 := Lib.hid (((HM1.out.kp.trans HM.out.kp (fun _ _ h => h)).trans K7.out (fun _ _ h => h)).trans k8 (fun _ _ h => h))
      rw [decide_eq_true rfl]
      clear k8
      go_wp2_with fail
      go_ret
      exact ⟨rfl, K8.out⟩

set_option maxHeartbeats 2000000 in
theorem rnone_c (procs n0 : Int) (w : World) (h1 : 65536 < n0) : Calls Try.prog 7 #[.int .i64 procs, .int .i64 n0] w fun e w' => e = .returned (.bool true) ∧ Keeps NoBlock w w' := by
  have hro := Lib.hid (rounds_none procs n0 (by omega) w)
  go_enter Try.func7, Try.ntmps7
  go_wp2_with fail
  refine hro.out.mono ?_
  rintro e w1 ⟨A1, c1, rfl, M1⟩
  have HM1 := Lib.hid M1
  have R1 : Hid (Rd encS 3 w1 (.slice A1 0 c1) []) := Own.rd (xs := []) encS_len M1.own
  have R2 : Hid (Rd encS 3 (w1.alloc (.cells #[] 41)) (.slice (some ⟨w1.heap.size, 0, none⟩) 0 0) []) := litS w1 [] (by decide)
  obtain ⟨w2, hw2⟩ : ∃ w2, w2 = w1.alloc (.cells #[] 41) := ⟨_, rfl⟩
  have K2 : Hid (Keeps NoBlock w1 w2) := by show Keeps _ _ _; rw [hw2]; exact (Keeps.refl _ _).alloc _
  rw [← hw2] at R2
  rw [show ([] : List St).length = 0 from rfl]
  clear M1
  go_wp2_with fail
  rw [← hw2]
  clear hw2
  go_loopw [6, 7] (fun v i wr => v = .slice (some ⟨w1.heap.size, 0, none⟩) 0 0 ∧ i = .int .i64 0 ∧ w2 = wr) (fun _ _ _ => 0)
  case atStart => exact ⟨rfl, rfl, rfl⟩
  case round =>
    obtain ⟨rfl, rfl, rfl⟩ := hrel
    go_wp2_with fail
    refine (awake28_calls _).mono ?_
    rintro e w7 ⟨rfl, k7⟩
    have K7 := Lib.hid (K2.out.trans k7 (fun _ _ h => h))
    have R7 := Lib.hid (R2.out.keeps k7 (fun _ _ h => h))
    clear k7
    go_wp2_with fail
    refine (same_calls _ _ [] [] _ (R1.out.keeps K7.out (fun _ _ h => h)) R7.out (by decide) (by decide)).mono ?_
    rintro e w8 ⟨rfl, k8⟩
    have K8 := Lib.hid ((HM1.out.kp.trans K7.out (fun _ _ h => h)).trans k8 (fun _ _ h => h))
    rw [decide_eq_true rfl]
    clear k8
    go_wp2_with fail
    go_ret
    exact ⟨rfl, K8.out⟩
set_option maxHeartbeats 2000000 in
theorem rnone_b (procs n0 : Int) (w : World) (h1 : n0 < 0) : Calls Try.prog 7 #[.int .i64 procs, .int .i64 n0] w fun e w' => e = .returned (.bool true) ∧ Keeps NoBlock w w' := by
  have hro := Lib.hid (rounds_none procs n0 (by omega) w)
  go_enter Try.func7, Try.ntmps7
  go_wp2_with fail
  refine hro.out.mono ?_
  rintro e w1 ⟨A1, c1, rfl, M1⟩
  have HM1 := Lib.hid M1
  have R1 : Hid (Rd encS 3 w1 (.slice A1 0 c1) []) := Own.rd (xs := []) encS_len M1.own
  have R2 : Hid (Rd encS 3 (w1.alloc (.cells #[] 41)) (.slice (some ⟨w1.heap.size, 0, none⟩) 0 0) []) := litS w1 [] (by decide)
  obtain ⟨w2, hw2⟩ : ∃ w2, w2 = w1.alloc (.cells #[] 41) := ⟨_, rfl⟩
  have K2 : Hid (Keeps NoBlock w1 w2) := by show Keeps _ _ _; rw [hw2]; exact (Keeps.refl _ _).alloc _
  rw [← hw2] at R2
  rw [show ([] : List St).length = 0 from rfl]
  clear M1
  go_wp2_with fail
  rw [← hw2]
  clear hw2
  go_loopw [6, 7] (fun v i wr => v = .slice (some ⟨w1.heap.size, 0, none⟩) 0 0 ∧ i = .int .i64 0 ∧ w2 = wr) (fun _ _ _ => 0)
  case atStart => exact ⟨rfl, rfl, rfl⟩
  case round =>
    obtain ⟨rfl, rfl, rfl⟩ := hrel
    go_wp2_with fail
    refine (awake28_calls _).mono ?_
    rintro e w7 ⟨rfl, k7⟩
    have K7 := Lib.hid (K2.out.trans k7 (fun _ _ h => h))
    have R7 := Lib.hid (R2.out.keeps k7 (fun _ _ h => h))
    clear k7
    go_wp2_with fail
    refine (same_calls _ _ [] [] _ (R1.out.keeps K7.out (fun _ _ h => h)) R7.out (by decide) (by decide)).mono ?_
    rintro e w8 ⟨rfl, k8⟩
    have K8 := Lib.hid ((HM1.out.kp.trans K7.out (fun _ _ h => h)).trans k8 (fun _ _ h => h))
    rw [decide_eq_true rfl]
    clear k8
    go_wp2_with fail
    go_ret
    exact ⟨rfl, K8.out⟩
set_option maxHeartbeats 2000000 in
theorem rnone_a0 (procs n0 : Int) (w : World) (h1 : 64 < procs) (h2 : n0 ≤ 0) : Calls Try.prog 7 #[.int .i64 procs, .int .i64 n0] w fun e w' => e = .returned (.bool true) ∧ Keeps NoBlock w w' := by
  have hro := Lib.hid (rounds_none procs n0 (by omega) w)
  go_enter Try.func7, Try.ntmps7
  go_wp2_with fail
  refine hro.out.mono ?_
  rintro e w1 ⟨A1, c1, rfl, M1⟩
  have HM1 := Lib.hid M1
  have R1 : Hid (Rd encS 3 w1 (.slice A1 0 c1) []) := Own.rd (xs := []) encS_len M1.own
  have R2 : Hid (Rd encS 3 (w1.alloc (.cells #[] 41)) (.slice (some ⟨w1.heap.size, 0, none⟩) 0 0) []) := litS w1 [] (by decide)
  obtain ⟨w2, hw2⟩ : ∃ w2, w2 = w1.alloc (.cells #[] 41) := ⟨_, rfl⟩
  have K2 : Hid (Keeps NoBlock w1 w2) := by show Keeps _ _ _; rw [hw2]; exact (Keeps.refl _ _).alloc _
  rw [← hw2] at R2
  rw [show ([] : List St).length = 0 from rfl]
  clear M1
  go_wp2_with fail
  rw [← hw2]
  clear hw2
  go_loopw [6, 7] (fun v i wr => v = .slice (some ⟨w1.heap.size, 0, none⟩) 0 0 ∧ i = .int .i64 0 ∧ w2 = wr) (fun _ _ _ => 0)
  case atStart => exact ⟨rfl, rfl, rfl⟩
  case round =>
    obtain ⟨rfl, rfl, rfl⟩ := hrel
    go_wp2_with fail
    refine (awake28_calls _).mono ?_
    rintro e w7 ⟨rfl, k7⟩
    have K7 := Lib.hid (K2.out.trans k7 (fun _ _ h => h))
    have R7 := Lib.hid (R2.out.keeps k7 (fun _ _ h => h))
    clear k7
    go_wp2_with fail
    refine (same_calls _ _ [] [] _ (R1.out.keeps K7.out (fun _ _ h => h)) R7.out (by decide) (by decide)).mono ?_
    rintro e w8 ⟨rfl, k8⟩
    have K8 := Lib.hid ((HM1.out.kp.trans K7.out (fun _ _ h => h)).trans k8 (fun _ _ h => h))
    rw [decide_eq_true rfl]
    clear k8
    go_wp2_with fail
    go_ret
    exact ⟨rfl, K8.out⟩
set_option maxHeartbeats 2000000 in
theorem rnone_a1 (procs n0 : Int) (w : World) (h1 : 64 < procs) (h2 : 300 < n0) (h3 : n0 ≤ 65536) : Calls Try.prog 7 #[.int .i64 procs, .int .i64 n0] w fun e w' => e = .returned (.bool true) ∧ Keeps NoBlock w w' := by
  have hro := Lib.hid (rounds_none procs 300 (by omega) w)
  go_enter Try.func7, Try.ntmps7
  go_wp2_with fail
  refine hro.out.mono ?_
  rintro e w1 ⟨A1, c1, rfl, M1⟩
  have HM1 := Lib.hid M1
  have R1 : Hid (Rd encS 3 w1 (.slice A1 0 c1) []) := Own.rd (xs := []) encS_len M1.own
  have R2 : Hid (Rd encS 3 (w1.alloc (.cells #[] 41)) (.slice (some ⟨w1.heap.size, 0, none⟩) 0 0) []) := litS w1 [] (by decide)
  obtain ⟨w2, hw2⟩ : ∃ w2, w2 = w1.alloc (.cells #[] 41) := ⟨_, rfl⟩
  have K2 : Hid (Keeps NoBlock w1 w2) := by show Keeps _ _ _; rw [hw2]; exact (Keeps.refl _ _).alloc _
  rw [← hw2] at R2
  rw [show ([] : List St).length = 0 from rfl]
  clear M1
  go_wp2_with fail
  rw [← hw2]
  clear hw2
  go_loopw [6, 7] (fun v i wr => v = .slice (some ⟨w1.heap.size, 0, none⟩) 0 0 ∧ i = .int .i64 0 ∧ w2 = wr) (fun _ _ _ => 0)
  case atStart => exact ⟨rfl, rfl, rfl⟩
  case round =>
    obtain ⟨rfl, rfl, rfl⟩ := hrel
    go_wp2_with fail
    refine (awake28_calls _).mono ?_
    rintro e w7 ⟨rfl, k7⟩
    have K7 := Lib.hid (K2.out.trans k7 (fun _ _ h => h))
    have R7 := Lib.hid (R2.out.keeps k7 (fun _ _ h => h))
    clear k7
    go_wp2_with fail
    refine (same_calls _ _ [] [] _ (R1.out.keeps K7.out (fun _ _ h => h)) R7.out (by decide) (by decide)).mono ?_
    rintro e w8 ⟨rfl, k8⟩
    have K8 := Lib.hid ((HM1.out.kp.trans K7.out (fun _ _ h => h)).trans k8 (fun _ _ h => h))
    rw [decide_eq_true rfl]
    clear k8
    go_wp2_with fail
    go_ret
    exact ⟨rfl, K8.out⟩
set_option maxHeartbeats 2000000 in
theorem rnone_a2 (procs n0 : Int) (w : World) (h1 : 64 < procs) (h2 : 0 < n0) (h3 : n0 ≤ 300) : Calls Try.prog 7 #[.int .i64 procs, .int .i64 n0] w fun e w' => e = .returned (.bool true) ∧ Keeps NoBlock w w' := by
  have hro := Lib.hid (rounds_none procs n0 (by omega) w)
  go_enter Try.func7, Try.ntmps7
  go_wp2_with fail
  refine hro.out.mono ?_
  rintro e w1 ⟨A1, c1, rfl, M1⟩
  have HM1 := Lib.hid M1
  have R1 : Hid (Rd encS 3 w1 (.slice A1 0 c1) []) := Own.rd (xs := []) encS_len M1.own
  have R2 : Hid (Rd encS 3 (w1.alloc (.cells #[] 41)) (.slice (some ⟨w1.heap.size, 0, none⟩) 0 0) []) := litS w1 [] (by decide)
  obtain ⟨w2, hw2⟩ : ∃ w2, w2 = w1.alloc (.cells #[] 41) := ⟨_, rfl⟩
  have K2 : Hid (Keeps NoBlock w1 w2) := by show Keeps _ _ _; rw [hw2]; exact (Keeps.refl _ _).alloc _
  rw [← hw2] at R2
  rw [show ([] : List St).length = 0 from rfl]
  clear M1
  go_wp2_with fail
  rw [← hw2]
  clear hw2
  go_loopw [6, 7] (fun v i wr => v = .slice (some ⟨w1.heap.size, 0, none⟩) 0 0 ∧ i = .int .i64 0 ∧ w2 = wr) (fun _ _ _ => 0)
  case atStart => exact ⟨rfl, rfl, rfl⟩
  case round =>
    obtain ⟨rfl, rfl, rfl⟩ := hrel
    go_wp2_with fail
    refine (awake28_calls _).mono ?_
    rintro e w7 ⟨rfl, k7⟩
    have K7 := Lib.hid (K2.out.trans k7 (fun _ _ h => h))
    have R7 := Lib.hid (R2.out.keeps k7 (fun _ _ h => h))
    clear k7
    go_wp2_with fail
    refine (same_calls _ _ [] [] _ (R1.out.keeps K7.out (fun _ _ h => h)) R7.out (by decide) (by decide)).mono ?_
    rintro e w8 ⟨rfl, k8⟩
    have K8 := Lib.hid ((HM1.out.kp.trans K7.out (fun _ _ h => h)).trans k8 (fun _ _ h => h))
    rw [decide_eq_true rfl]
    clear k8
    go_wp2_with fail
    go_ret
    exact ⟨rfl, K8.out⟩

theorem rounds_law (w : World) (procs : Int) (hp : (Lit.int .i64 procs).wf = true) (n0 : Int) (_hn : (Lit.int .i64 n0).wf = true) :
    Calls Try.prog 7 #[.int .i64 procs, .int .i64 n0] w fun e w' => e = .returned (.bool true) ∧ Below w.heap.size w w' := by
  have hb := bounds_i64 hp
  have key : Calls Try.prog 7 #[.int .i64 procs, .int .i64 n0] w fun e w' => e = .returned (.bool true) ∧ Keeps NoBlock w w' := by
    by_cases h1 : 65536 < n0
    · exact rnone_c procs n0 w h1
    by_cases h2 : n0 < 0
    · exact rnone_b procs n0 w h2
    by_cases h3 : 64 < procs
    · by_cases h4 : n0 ≤ 0
      · exact rnone_a0 procs n0 w h3 h4
      by_cases h5 : 300 < n0
      · exact rnone_a1 procs n0 w h3 h5 (by omega)
      · exact rnone_a2 procs n0 w h3 (by omega) (by omega)
    by_cases h5 : 300 < n0
    · exact rlaw_cut procs n0 300 w (by omega) (by omega) h5 (by omega) rfl
    · exact rlaw_low procs n0 n0.toNat w (by omega) (by omega) (by omega) (by omega)
  exact key.mono fun e w' ⟨he, hk⟩ => ⟨he, hk.below (Nat.le_refl _) (fun _ h => h.elim)⟩
end Sd
end Go.Proofs.Ytlnfjjbfdbcgbaa
