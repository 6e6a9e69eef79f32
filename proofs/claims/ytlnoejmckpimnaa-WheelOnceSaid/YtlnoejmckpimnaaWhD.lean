/- WheelOnce: who sleeps so many moments is due behind just so many. -/
import Derived.Test.YtlnoejmckpimnaaWhC
import Derived.Test.YtlnoejmckpimnaaArg
namespace Go.Proofs.Ytlnoejmckpimnaa
open Go.RowKit Go.Maps
namespace Wh

theorem tick_nil (w : World) : Calls Try.prog 21 #[.pointer none] w fun e w' => e = .returned (.slice none 0 0) ∧ w = w' := by
  go_enter Try.func21, Try.ntmps21
  go_wp2_with fail
  go_ret
  exact ⟨rfl, rfl⟩

/-- One that waits until moment k, at moment j. -/
def fun1 (who : Int) (k j : Nat) : Int → Int := fun x => if x = who ∧ j < k then (k : Int) else 0

theorem fun1_in {who : Int} {k j : Nat} (h : j < k) : fun1 who k j who = k := if_pos ⟨rfl, h⟩
theorem fun1_past {who : Int} {k j : Nat} (h : ¬ j < k) (x : Int) : fun1 who k j x = 0 := if_neg (fun e => h e.2)
theorem fun1_off {who : Int} {k j : Nat} {x : Int} (h : x ≠ who) : fun1 who k j x = 0 := if_neg (fun e => h e.1)

theorem fun1_tick (who : Int) (k j : Nat) (lim : Int) (hl : lim = (j : Int) + 1) : (fun x => if fun1 who k j x ≤ lim then 0 else fun1 who k j x) = fun1 who k (j + 1) := by
  funext x
  by_cases h : x = who
  · subst h
    by_cases h1 : j < k
    · rw [fun1_in h1]
      by_cases h2 : j + 1 < k
      · rw [fun1_in h2, if_neg (by omega)]
      · rw [fun1_past h2, if_pos (by omega)]
    · rw [fun1_past h1, fun1_past (by omega)]
      simp
  · rw [fun1_off h, fun1_off h]
    simp

theorem fun1_due {who : Int} {k j : Nat} {lim : Int} (hl : lim = (j : Int) + 1) {ks : List Int} (hp : ks.Pairwise (· < ·)) (hm : ∀ x, x ∈ ks ↔ (fun1 who k j x ≠ 0 ∧ fun1 who k j x ≤ lim)) : decide (ks = [who]) = decide (j + 1 = k) := by
  by_cases h : j + 1 = k
  · rw [decide_eq_true h, decide_eq_true_iff]
    refine eq_single hp (fun x => ?_)
    rw [hm]
    constructor
    · rintro ⟨h1, _⟩
      by_cases e : x = who
      · exact e
      · exact absurd (fun1_off e) h1
    · intro e
      subst e
      rw [fun1_in (by omega)]
      omega
  · rw [decide_eq_false h, decide_eq_false_iff_not]
    intro e
    have hw : who ∈ ks := by rw [e]; simp
    obtain ⟨h1, h2⟩ := (hm who).1 hw
    by_cases hk : j < k
    · rw [fun1_in hk] at h1 h2
      omega
    · exact h1 (fun1_past hk _)

set_option maxRecDepth 100000 in
set_option maxHeartbeats 1000000 in
theorem once_calls (n : Nat) (who : Int) (hn : n ≤ 255) (hw : Wf who) (w : World) : Calls Try.prog 10 #[.int .u8 n, .int .i64 who] w fun e w' => e = .returned (.bool true) ∧ Below w.heap.size w w' := by
  obtain ⟨k, hk⟩ : ∃ k : Nat, k = n + 1 := ⟨_, rfl⟩
  have hwr : IntKind.i64.wrap ((n : Int) + 1) = (k : Int) := by rw [IntKind.wrap_i64]; omega
  have hwr2 : IntKind.i64.wrap ((k : Int) + 2) = (k : Int) + 2 := by rw [IntKind.wrap_i64]; omega
  have hk256 : k ≤ 256 := by omega
  have hk1 : 1 ≤ k := by omega
  have hcn : IntKind.i64.wrap (n : Int) = (n : Int) := by rw [IntKind.wrap_i64]; omega
  clear hk
  go_enter Try.func10, Try.ntmps10
  go_wp2_with fail
  refine (new_calls w).mono ?_
  rintro e w1 ⟨d, mb, rfl, h1, h2, hw1, k1⟩
  have I1 := Lib.hid (Wl.begin h1 h2 hw1 k1)
  clear h1 h2 hw1 k1
  go_wp2_with fail
  refine (sleep_ok I1.out.wh who k hw (by omega) (by omega) rfl (by decide)).mono ?_
  rintro e w2 ⟨rfl, hw2, k2⟩
  have I2 : Hid (Wl w d mb 1 0 (fun1 who k 0) w2) := by
    have := I1.out.step hw2 (k2.mono (fun _ _ e => .inr e))
    have e : (fun x => if x = who then min (0 + (k : Int)) 1099511627776 else 0) = fun1 who k 0 := by
      funext x
      unfold fun1
      by_cases h : x = who
      · rw [if_pos h, if_pos ⟨h, by omega⟩]; omega
      · rw [if_neg h, if_neg (fun e => h e.1)]
    rw [e] at this
    exact this
  clear hw2 k2 I1
  go_wp2_with fail
  go_loopw [7] (fun i wr => ∃ j : Nat, j ≤ k + 2 ∧ i = .int .i64 ((j : Int) + 1) ∧ Wl w d mb 1 j (fun1 who k j) wr) (fun i _ => k + 4 - (intOf i).toNat)
  case atStart => exact ⟨0, by omega, rfl, I2.out⟩
  case round =>
    obtain ⟨j, hj, rfl, I⟩ := hrel
    have HI := Lib.hid I
    clear I I2
    by_cases hlt : j + 1 ≤ k + 2
    · have hl : (j : Int) + 1 ≤ (k : Int) + 2 := by omega
      go_wp2_with fail
      refine (tick_calls HI.out.wh (by decide) (lim := (j : Int) + 1) (by omega)).mono ?_
      rintro e w3 ⟨A, c, ks, rfl, ho3, hp3, hm3, hf3, hw3, k3, hl3⟩
      have I3 := Lib.hid (HI.out.step hw3 k3)
      rw [fun1_tick who k j _ rfl] at I3
      have R3 : Hid (ReadsI .i64 w3 (.slice A ks.length c) ks) := Own.readsI ho3
      have hd := Lib.hid (fun1_due rfl hp3 hm3)
      have hl4 : ks.length ≤ 1 := hl3
      clear ho3 hp3 hm3 hf3 hw3 k3 hl3
      go_wp2_with fail
      refine (ints_calls _ _ ks [who] _ (R3.out.keeps ((Keeps.refl NoBlock w3).alloc _) (fun _ _ e => e)) (litI (block_alloc_new _ _)) (by omega) (by simp)).mono ?_
      rintro e w4 ⟨rfl, k4⟩
      rw [hd.out]
      have I4 := Lib.hid (I3.out.keeps (((Keeps.refl NoBlock w3).alloc _).trans k4 (fun _ _ e => e)))
      have hbb : (decide (j + 1 = k) == ((j : Int) + 1 == (k : Int))) = true := by
        by_cases e : j + 1 = k
        · rw [decide_eq_true e, show ((j : Int) + 1 == (k : Int)) = true from by simp; omega]; rfl
        · rw [decide_eq_false e, show ((j : Int) + 1 == (k : Int)) = false from by simp; omega]; rfl
      clear k4 I3 R3 hd
      have hw5 : IntKind.i64.wrap ((j : Int) + 1 + 1) = (j : Int) + 1 + 1 := by rw [IntKind.wrap_i64]; omega
      go_wp2_with fail
      exact ⟨⟨j + 1, by omega, by go_num, by rw [show ((j + 1 : Nat) : Int) = (j : Int) + 1 from by omega]; exact I4.out⟩, by simp [intOf]; omega⟩
    · have hl : (k : Int) + 2 < (j : Int) + 1 := by omega
      have hz : Hid (fun1 who k j who = 0) := fun1_past (by omega) _
      go_wp2_with fail
      refine (waiting_calls HI.out.wh who hw).mono ?_
      rintro e w3 ⟨rfl, rfl⟩
      rw [hz.out]
      go_wp2_with fail
      refine (awake06_calls _).mono ?_
      rintro e w4 ⟨rfl, k4⟩
      have K4 := Lib.hid (HI.out.kp.trans k4 (fun _ _ e => e))
      clear k4
      go_wp2_with fail
      refine (sleep_nil who k _).mono ?_
      rintro e w5 ⟨rfl, rfl⟩
      go_wp2_with fail
      refine (tick_nil _).mono ?_
      rintro e w5 ⟨rfl, rfl⟩
      go_wp2_with fail
      refine (now_nil _).mono ?_
      rintro e w5 ⟨rfl, rfl⟩
      go_wp2_with fail
      go_ret
      exact ⟨rfl, K4.out.below (Nat.le_refl _) (fun _ e => e.elim)⟩

theorem once_row (w : World) (n : Int) (hn : (Lit.int .u8 n).wf = true) (who : Int) (hw : (Lit.int .i64 who).wf = true) : Calls Try.prog 10 #[.int .u8 n, .int .i64 who] w fun e w' => e = .returned (.bool true) ∧ Below w.heap.size w w' := by
  have hb : 0 ≤ n ∧ n ≤ 255 := by simpa [Lit.wf, IntKind.min, IntKind.max, IntKind.signed, IntKind.bits] using hn
  obtain ⟨k, rfl⟩ := Int.eq_ofNat_of_zero_le hb.1
  exact once_calls k who (by omega) hw w

end Wh
end Go.Proofs.Ytlnoejmckpimnaa
