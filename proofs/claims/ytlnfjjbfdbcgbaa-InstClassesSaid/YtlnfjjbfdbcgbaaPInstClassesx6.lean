-- PRINTED BY print.sh 35421559b90ae4d0a3588c463048766b98c2df88dd9212a6774a882060cdf62d: not written by this session
import Derived.Test.YtlnfjjbfdbcgbaaPInstClassesx0
import Derived.Test.YtlnfjjbfdbcgbaaPInstClassesx1
import Derived.Test.YtlnfjjbfdbcgbaaPInstClassesx5
namespace Go.Proofs.Ytlnfjjbfdbcgbaa.PInstClasses
open Go.RowKit Go.Proofs.YtlnfjjbfdbcgbaaW.PrintWords Go.Proofs.YtlnfjjbfdbcgbaaW.PrintLast Go.Proofs.YtlnfjjbfdbcgbaaW.PrintMore
attribute [local go_sem] max2_int min2_int max_two min_two max_three min_three max_four min_four   -- for this text's walks alone
set_option linter.unusedVariables false
set_option linter.unusedSimpArgs false

/-! ### drawknifelaw02_InstClasses: function 4 -/
mutual
def drawknifelaw02_InstClasses.j0 : Nat → Int → Int → Bool → Option (Bool)
  | 0, _, _, _ => none
  | k + 1, x0, x3, x9 => if x9 = true then (drawknifelaw02_InstClasses.j1 k x0 1) else (drawknifelaw02_InstClasses.j1 k x0 x3)
def drawknifelaw02_InstClasses.j1 : Nat → Int → Int → Option (Bool)
  | 0, _, _ => none
  | k + 1, x0, x3 => if x0 ≥ 20 then (drawknifelaw02_InstClasses.j2 k x0 x3 (decide (x0 ≤ 32))) else (drawknifelaw02_InstClasses.j2 k x0 x3 false)
def drawknifelaw02_InstClasses.j2 : Nat → Int → Int → Bool → Option (Bool)
  | 0, _, _, _ => none
  | k + 1, x0, x3, x15 => if x15 = true then (drawknifelaw02_InstClasses.j3 k x0 2) else (drawknifelaw02_InstClasses.j3 k x0 x3)
def drawknifelaw02_InstClasses.j3 : Nat → Int → Int → Option (Bool)
  | 0, _, _ => none
  | k + 1, x0, x3 => if x0 ≥ 33 then (drawknifelaw02_InstClasses.j4 k x0 x3 (decide (x0 ≤ 38))) else (drawknifelaw02_InstClasses.j4 k x0 x3 false)
def drawknifelaw02_InstClasses.j4 : Nat → Int → Int → Bool → Option (Bool)
  | 0, _, _, _ => none
  | k + 1, x0, x3, x21 => if x21 = true then ((drawknifelaw02_awake.f k).bind fun t153 => (if t153 = true then ((inst_Class.f k x0).bind fun t154 => (if t154 = 3 then ((inst_Seen.f x0).bind fun t155 => (if x0 ≥ 18 then (some (t155 == (decide (x0 ≤ 38)))) else (some (t155 == false)))) else (some false))) else (some false))) else ((drawknifelaw02_awake.f k).bind fun t156 => (if t156 = true then ((inst_Class.f k x0).bind fun t157 => (if t157 = x3 then ((inst_Seen.f x0).bind fun t158 => (if x0 ≥ 18 then (some (t158 == (decide (x0 ≤ 38)))) else (some (t158 == false)))) else (some false))) else (some false)))
end
def drawknifelaw02_InstClasses.f (k : Nat) (a0 : Int) : Option (Bool) := if a0 ≥ 1 then (drawknifelaw02_InstClasses.j0 k a0 0 (decide (a0 ≤ 19))) else (drawknifelaw02_InstClasses.j0 k a0 0 false)
theorem drawknifelaw02_InstClasses.mono_l : ∀ k, (∀ y0 y1 y2, LeO (drawknifelaw02_InstClasses.j0 k y0 y1 y2) (drawknifelaw02_InstClasses.j0 (k + 1) y0 y1 y2)) ∧ (∀ y0 y1, LeO (drawknifelaw02_InstClasses.j1 k y0 y1) (drawknifelaw02_InstClasses.j1 (k + 1) y0 y1)) ∧ (∀ y0 y1 y2, LeO (drawknifelaw02_InstClasses.j2 k y0 y1 y2) (drawknifelaw02_InstClasses.j2 (k + 1) y0 y1 y2)) ∧ (∀ y0 y1, LeO (drawknifelaw02_InstClasses.j3 k y0 y1) (drawknifelaw02_InstClasses.j3 (k + 1) y0 y1)) ∧ (∀ y0 y1 y2, LeO (drawknifelaw02_InstClasses.j4 k y0 y1 y2) (drawknifelaw02_InstClasses.j4 (k + 1) y0 y1 y2))
  | 0 => ⟨fun _ _ _ r h => by simp [drawknifelaw02_InstClasses.j0] at h, fun _ _ r h => by simp [drawknifelaw02_InstClasses.j1] at h, fun _ _ _ r h => by simp [drawknifelaw02_InstClasses.j2] at h, fun _ _ r h => by simp [drawknifelaw02_InstClasses.j3] at h, fun _ _ _ r h => by simp [drawknifelaw02_InstClasses.j4] at h⟩
  | k + 1 => by
    obtain ⟨ih0, ih1, ih2, ih3, ih4⟩ := drawknifelaw02_InstClasses.mono_l k
    refine ⟨?_, ?_, ?_, ?_, ?_⟩
    · intro y0 y1 y2
      unfold drawknifelaw02_InstClasses.j0
      repeat' first
      | (with_reducible exact ih0 _ _ _)
      | (with_reducible exact ih1 _ _)
      | (with_reducible exact ih2 _ _ _)
      | (with_reducible exact ih3 _ _)
      | (with_reducible exact ih4 _ _ _)
      | (with_reducible exact drawknifelaw02_awake.mono _)
      | (with_reducible exact inst_Class.mono _ _)
      | (with_reducible exact LeO.refl _)
      | (with_reducible exact LeO.none _)
      | (with_reducible refine LeO.ite ?_ ?_)
      | (with_reducible refine LeO.bind ?_ (fun _ => ?_))
      | exact ih0 _ _ _
      | exact ih1 _ _
      | exact ih2 _ _ _
      | exact ih3 _ _
      | exact ih4 _ _ _
      | exact drawknifelaw02_awake.mono _
      | exact inst_Class.mono _ _
      | exact LeO.none _
      | refine LeO.ite ?_ ?_
      | refine LeO.bind ?_ (fun _ => ?_)
    · intro y0 y1
      unfold drawknifelaw02_InstClasses.j1
      repeat' first
      | (with_reducible exact ih0 _ _ _)
      | (with_reducible exact ih1 _ _)
      | (with_reducible exact ih2 _ _ _)
      | (with_reducible exact ih3 _ _)
      | (with_reducible exact ih4 _ _ _)
      | (with_reducible exact drawknifelaw02_awake.mono _)
      | (with_reducible exact inst_Class.mono _ _)
      | (with_reducible exact LeO.refl _)
      | (with_reducible exact LeO.none _)
      | (with_reducible refine LeO.ite ?_ ?_)
      | (with_reducible refine LeO.bind ?_ (fun _ => ?_))
      | exact ih0 _ _ _
      | exact ih1 _ _
      | exact ih2 _ _ _
      | exact ih3 _ _
      | exact ih4 _ _ _
      | exact drawknifelaw02_awake.mono _
      | exact inst_Class.mono _ _
      | exact LeO.none _
      | refine LeO.ite ?_ ?_
      | refine LeO.bind ?_ (fun _ => ?_)
    · intro y0 y1 y2
      unfold drawknifelaw02_InstClasses.j2
      repeat' first
      | (with_reducible exact ih0 _ _ _)
      | (with_reducible exact ih1 _ _)
      | (with_reducible exact ih2 _ _ _)
      | (with_reducible exact ih3 _ _)
      | (with_reducible exact ih4 _ _ _)
      | (with_reducible exact drawknifelaw02_awake.mono _)
      | (with_reducible exact inst_Class.mono _ _)
      | (with_reducible exact LeO.refl _)
      | (with_reducible exact LeO.none _)
      | (with_reducible refine LeO.ite ?_ ?_)
      | (with_reducible refine LeO.bind ?_ (fun _ => ?_))
      | exact ih0 _ _ _
      | exact ih1 _ _
      | exact ih2 _ _ _
      | exact ih3 _ _
      | exact ih4 _ _ _
      | exact drawknifelaw02_awake.mono _
      | exact inst_Class.mono _ _
      | exact LeO.none _
      | refine LeO.ite ?_ ?_
      | refine LeO.bind ?_ (fun _ => ?_)
    · intro y0 y1
      unfold drawknifelaw02_InstClasses.j3
      repeat' first
      | (with_reducible exact ih0 _ _ _)
      | (with_reducible exact ih1 _ _)
      | (with_reducible exact ih2 _ _ _)
      | (with_reducible exact ih3 _ _)
      | (with_reducible exact ih4 _ _ _)
      | (with_reducible exact drawknifelaw02_awake.mono _)
      | (with_reducible exact inst_Class.mono _ _)
      | (with_reducible exact LeO.refl _)
      | (with_reducible exact LeO.none _)
      | (with_reducible refine LeO.ite ?_ ?_)
      | (with_reducible refine LeO.bind ?_ (fun _ => ?_))
      | exact ih0 _ _ _
      | exact ih1 _ _
      | exact ih2 _ _ _
      | exact ih3 _ _
      | exact ih4 _ _ _
      | exact drawknifelaw02_awake.mono _
      | exact inst_Class.mono _ _
      | exact LeO.none _
      | refine LeO.ite ?_ ?_
      | refine LeO.bind ?_ (fun _ => ?_)
    · intro y0 y1 y2
      unfold drawknifelaw02_InstClasses.j4
      repeat' first
      | (with_reducible exact ih0 _ _ _)
      | (with_reducible exact ih1 _ _)
      | (with_reducible exact ih2 _ _ _)
      | (with_reducible exact ih3 _ _)
      | (with_reducible exact ih4 _ _ _)
      | (with_reducible exact drawknifelaw02_awake.mono _)
      | (with_reducible exact inst_Class.mono _ _)
      | (with_reducible exact LeO.refl _)
      | (with_reducible exact LeO.none _)
      | (with_reducible refine LeO.ite ?_ ?_)
      | (with_reducible refine LeO.bind ?_ (fun _ => ?_))
      | exact ih0 _ _ _
      | exact ih1 _ _
      | exact ih2 _ _ _
      | exact ih3 _ _
      | exact ih4 _ _ _
      | exact drawknifelaw02_awake.mono _
      | exact inst_Class.mono _ _
      | exact LeO.none _
      | refine LeO.ite ?_ ?_
      | refine LeO.bind ?_ (fun _ => ?_)
theorem drawknifelaw02_InstClasses.mono : ∀ a0 k, LeO (drawknifelaw02_InstClasses.f k a0) (drawknifelaw02_InstClasses.f (k + 1) a0) := by
  intro a0 k
  obtain ⟨ih0, ih1, ih2, ih3, ih4⟩ := drawknifelaw02_InstClasses.mono_l k
  unfold drawknifelaw02_InstClasses.f
  repeat' first
      | (with_reducible exact ih0 _ _ _)
      | (with_reducible exact ih1 _ _)
      | (with_reducible exact ih2 _ _ _)
      | (with_reducible exact ih3 _ _)
      | (with_reducible exact ih4 _ _ _)
      | (with_reducible exact drawknifelaw02_awake.mono _)
      | (with_reducible exact inst_Class.mono _ _)
      | (with_reducible exact LeO.refl _)
      | (with_reducible exact LeO.none _)
      | (with_reducible refine LeO.ite ?_ ?_)
      | (with_reducible refine LeO.bind ?_ (fun _ => ?_))
      | exact ih0 _ _ _
      | exact ih1 _ _
      | exact ih2 _ _ _
      | exact ih3 _ _
      | exact ih4 _ _ _
      | exact drawknifelaw02_awake.mono _
      | exact inst_Class.mono _ _
      | exact LeO.none _
      | refine LeO.ite ?_ ?_
      | refine LeO.bind ?_ (fun _ => ?_)
set_option maxHeartbeats 8000000 in
set_option maxRecDepth 100000 in
theorem drawknifelaw02_InstClasses.calls (k : Nat) (a0 : Int) (r : Bool) (w : World) (h : drawknifelaw02_InstClasses.f k a0 = some r) :
    Calls Try.prog 4 #[.int .i64 a0] w fun e w' => e = .returned (.bool r) ∧ Below w.heap.size w w' := by
  have HB := Aside0.mk (Below.refl w.heap.size w)
  have H : (if a0 ≥ 1 then (drawknifelaw02_InstClasses.j0 k a0 0 (decide (a0 ≤ 19))) else (drawknifelaw02_InstClasses.j0 k a0 0 false)) = some r := h
  clear h
  have HC2 := Aside0.mk H
  clear H
  go_enter Try.func4, Try.ntmps4
  go_upto_region 2 with (fail)
  go_cut [9] (fun v9 wc => ∃ (kq : Nat) (x9_1 : Bool), v9 = .bool x9_1 ∧ Aside0 (drawknifelaw02_InstClasses.j0 kq a0 0 x9_1 = some r) ∧ Aside0 (kq ≤ k) ∧ Aside0 (Below w.heap.size w wc))
  case first =>
    have H := HC2.out
    clear HC2
    by_cases c3 : a0 ≥ 1
    · rw [if_pos c3] at H
      have c3b0 : decide (1 ≤ a0) = true := decide_eq_true c3
      clear c3
      (first | rw [c3b0] | (simp only [i64_w, i32_w]; rw [c3b0]) | skip)
      have H' := Aside0.mk H
      clear H
      go_wp2
      go_meet
      case rel => exact ⟨_, (decide (a0 ≤ 19)), (by first | rfl | (simp; done) | (simp [*]; done)), H', ⟨by first | omega | exact Nat.le_refl _⟩, ⟨by repeat (first | (with_reducible first | exact HB.out | apply below_alloc | apply pw_below_drewN | apply below_drew1) | exact HB.out)⟩⟩
    · rw [if_neg c3] at H
      have c3b0 : decide (1 ≤ a0) = false := decide_eq_false c3
      clear c3
      (first | rw [c3b0] | (simp only [i64_w, i32_w]; rw [c3b0]) | skip)
      have H' := Aside0.mk H
      clear H
      go_wp2
      go_meet
      case rel => exact ⟨_, (false), (by first | rfl | (simp; done) | (simp [*]; done)), H', ⟨by first | omega | exact Nat.le_refl _⟩, ⟨by repeat (first | (with_reducible first | exact HB.out | apply below_alloc | apply pw_below_drewN | apply below_drew1) | exact HB.out)⟩⟩
  case rest =>
    clear HC2
    try clear p2
    try clear c3
    try clear c3b0
    obtain ⟨kq, x9_1, rfl, HA, HJ1, HB⟩ := hcut
    cases kq with
    | zero => exact absurd HA.out (by simp [drawknifelaw02_InstClasses.j0])
    | succ kj1 =>
      have H := HA.out
      clear HA
      simp only [drawknifelaw02_InstClasses.j0] at H
      have HC4 := Aside0.mk H
      clear H
      go_upto_if 9 with (fail)
      go_cut [3] (fun v3 wc => ∃ (kq : Nat) (x3_3 : Int), v3 = .int .i64 x3_3 ∧ Aside0 (drawknifelaw02_InstClasses.j1 kq a0 x3_3 = some r) ∧ Aside0 (kq ≤ kj1) ∧ Aside0 (Below w.heap.size w wc))
      case first =>
        have H := HC4.out
        clear HC4
        by_cases c5 : x9_1 = true
        · subst c5
          have H1 : (drawknifelaw02_InstClasses.j1 kj1 a0 1) = some r := by rw [if_pos rfl] at H; exact H
          clear H
          have H := H1
          clear H1
          have H' := Aside0.mk H
          clear H
          go_wp2
          go_meet
          case rel => exact ⟨_, (1), (by first | rfl | (simp; done) | (simp [*]; done)), H', ⟨by have := HJ1.out; first | omega | exact Nat.le_refl _⟩, ⟨by repeat (first | (with_reducible first | exact HB.out | apply below_alloc | apply pw_below_drewN | apply below_drew1) | exact HB.out)⟩⟩
        · replace c5 := Bool.eq_false_iff.mpr c5
          subst c5
          have H1 : (drawknifelaw02_InstClasses.j1 kj1 a0 0) = some r := by rw [if_neg (show ¬ (false = true) by decide)] at H; exact H
          clear H
          have H := H1
          clear H1
          have H' := Aside0.mk H
          clear H
          go_wp2
          go_meet
          case rel => exact ⟨_, (0), (by first | rfl | (simp; done) | (simp [*]; done)), H', ⟨by have := HJ1.out; first | omega | exact Nat.le_refl _⟩, ⟨by repeat (first | (with_reducible first | exact HB.out | apply below_alloc | apply pw_below_drewN | apply below_drew1) | exact HB.out)⟩⟩
      case rest =>
        clear HC4
        try clear p2
        try clear c3
        try clear c3b0
        try clear c4
        try clear c5
        try clear p2
        obtain ⟨kq, x3_3, rfl, HA, HJ3, HB⟩ := hcut
        cases kq with
        | zero => exact absurd HA.out (by simp [drawknifelaw02_InstClasses.j1])
        | succ kj3 =>
          have H := HA.out
          clear HA
          simp only [drawknifelaw02_InstClasses.j1] at H
          have HC6 := Aside0.mk H
          clear H
          go_upto_region 4 with (fail)
          go_cut [15] (fun v15 wc => ∃ (kq : Nat) (x15_5 : Bool), v15 = .bool x15_5 ∧ Aside0 (drawknifelaw02_InstClasses.j2 kq a0 x3_3 x15_5 = some r) ∧ Aside0 (kq ≤ kj3) ∧ Aside0 (Below w.heap.size w wc))
          case first =>
            have H := HC6.out
            clear HC6
            by_cases c7 : a0 ≥ 20
            · rw [if_pos c7] at H
              have c7b0 : decide (20 ≤ a0) = true := decide_eq_true c7
              clear c7
              (first | rw [c7b0] | (simp only [i64_w, i32_w]; rw [c7b0]) | skip)
              have H' := Aside0.mk H
              clear H
              go_wp2
              go_meet
              case rel => exact ⟨_, (decide (a0 ≤ 32)), (by first | rfl | (simp; done) | (simp [*]; done)), H', ⟨by have := HJ1.out; have := HJ3.out; first | omega | exact Nat.le_refl _⟩, ⟨by repeat (first | (with_reducible first | exact HB.out | apply below_alloc | apply pw_below_drewN | apply below_drew1) | exact HB.out)⟩⟩
            · rw [if_neg c7] at H
              have c7b0 : decide (20 ≤ a0) = false := decide_eq_false c7
              clear c7
              (first | rw [c7b0] | (simp only [i64_w, i32_w]; rw [c7b0]) | skip)
              have H' := Aside0.mk H
              clear H
              go_wp2
              go_meet
              case rel => exact ⟨_, (false), (by first | rfl | (simp; done) | (simp [*]; done)), H', ⟨by have := HJ1.out; have := HJ3.out; first | omega | exact Nat.le_refl _⟩, ⟨by repeat (first | (with_reducible first | exact HB.out | apply below_alloc | apply pw_below_drewN | apply below_drew1) | exact HB.out)⟩⟩
          case rest =>
            clear HC6
            try clear p2
            try clear c3
            try clear c3b0
            try clear c4
            try clear c5
            try clear c7
            try clear c7b0
            try clear p2
            obtain ⟨kq, x15_5, rfl, HA, HJ5, HB⟩ := hcut
            cases kq with
            | zero => exact absurd HA.out (by simp [drawknifelaw02_InstClasses.j2])
            | succ kj5 =>
              have H := HA.out
              clear HA
              simp only [drawknifelaw02_InstClasses.j2] at H
              have HC8 := Aside0.mk H
              clear H
              go_upto_if 15 with (fail)
              go_cut [3] (fun v3 wc => ∃ (kq : Nat) (x3_7 : Int), v3 = .int .i64 x3_7 ∧ Aside0 (drawknifelaw02_InstClasses.j3 kq a0 x3_7 = some r) ∧ Aside0 (kq ≤ kj5) ∧ Aside0 (Below w.heap.size w wc))
              case first =>
                have H := HC8.out
                clear HC8
                by_cases c9 : x15_5 = true
                · subst c9
                  have H1 : (drawknifelaw02_InstClasses.j3 kj5 a0 2) = some r := by rw [if_pos rfl] at H; exact H
                  clear H
                  have H := H1
                  clear H1
                  have H' := Aside0.mk H
                  clear H
                  go_wp2
                  go_meet
                  case rel => exact ⟨_, (2), (by first | rfl | (simp; done) | (simp [*]; done)), H', ⟨by have := HJ1.out; have := HJ3.out; have := HJ5.out; first | omega | exact Nat.le_refl _⟩, ⟨by repeat (first | (with_reducible first | exact HB.out | apply below_alloc | apply pw_below_drewN | apply below_drew1) | exact HB.out)⟩⟩
                · replace c9 := Bool.eq_false_iff.mpr c9
                  subst c9
                  have H1 : (drawknifelaw02_InstClasses.j3 kj5 a0 x3_3) = some r := by rw [if_neg (show ¬ (false = true) by decide)] at H; exact H
                  clear H
                  have H := H1
                  clear H1
                  have H' := Aside0.mk H
                  clear H
                  go_wp2
                  go_meet
                  case rel => exact ⟨_, (x3_3), (by first | rfl | (simp; done) | (simp [*]; done)), H', ⟨by have := HJ1.out; have := HJ3.out; have := HJ5.out; first | omega | exact Nat.le_refl _⟩, ⟨by repeat (first | (with_reducible first | exact HB.out | apply below_alloc | apply pw_below_drewN | apply below_drew1) | exact HB.out)⟩⟩
              case rest =>
                clear HC8
                try clear p2
                try clear c3
                try clear c3b0
                try clear c4
                try clear c5
                try clear c7
                try clear c7b0
                try clear c9
                try clear p2
                obtain ⟨kq, x3_7, rfl, HA, HJ7, HB⟩ := hcut
                cases kq with
                | zero => exact absurd HA.out (by simp [drawknifelaw02_InstClasses.j3])
                | succ kj7 =>
                  have H := HA.out
                  clear HA
                  simp only [drawknifelaw02_InstClasses.j3] at H
                  have HC10 := Aside0.mk H
                  clear H
                  go_upto_region 6 with (fail)
                  go_cut [21] (fun v21 wc => ∃ (kq : Nat) (x21_9 : Bool), v21 = .bool x21_9 ∧ Aside0 (drawknifelaw02_InstClasses.j4 kq a0 x3_7 x21_9 = some r) ∧ Aside0 (kq ≤ kj7) ∧ Aside0 (Below w.heap.size w wc))
                  case first =>
                    have H := HC10.out
                    clear HC10
                    by_cases c11 : a0 ≥ 33
                    · rw [if_pos c11] at H
                      have c11b0 : decide (33 ≤ a0) = true := decide_eq_true c11
                      clear c11
                      (first | rw [c11b0] | (simp only [i64_w, i32_w]; rw [c11b0]) | skip)
                      have H' := Aside0.mk H
                      clear H
                      go_wp2
                      go_meet
                      case rel => exact ⟨_, (decide (a0 ≤ 38)), (by first | rfl | (simp; done) | (simp [*]; done)), H', ⟨by have := HJ1.out; have := HJ3.out; have := HJ5.out; have := HJ7.out; first | omega | exact Nat.le_refl _⟩, ⟨by repeat (first | (with_reducible first | exact HB.out | apply below_alloc | apply pw_below_drewN | apply below_drew1) | exact HB.out)⟩⟩
                    · rw [if_neg c11] at H
                      have c11b0 : decide (33 ≤ a0) = false := decide_eq_false c11
                      clear c11
                      (first | rw [c11b0] | (simp only [i64_w, i32_w]; rw [c11b0]) | skip)
                      have H' := Aside0.mk H
                      clear H
                      go_wp2
                      go_meet
                      case rel => exact ⟨_, (false), (by first | rfl | (simp; done) | (simp [*]; done)), H', ⟨by have := HJ1.out; have := HJ3.out; have := HJ5.out; have := HJ7.out; first | omega | exact Nat.le_refl _⟩, ⟨by repeat (first | (with_reducible first | exact HB.out | apply below_alloc | apply pw_below_drewN | apply below_drew1) | exact HB.out)⟩⟩
                  case rest =>
                    clear HC10
                    try clear c1
                    try clear p2
                    try clear c3
                    try clear c3b0
                    try clear c4
                    try clear c5
                    try clear c7
                    try clear c7b0
                    try clear c9
                    try clear c11
                    try clear c11b0
                    try clear p2
                    obtain ⟨kq, x21_9, rfl, HA, HJ9, HB⟩ := hcut
                    cases kq with
                    | zero => exact absurd HA.out (by simp [drawknifelaw02_InstClasses.j4])
                    | succ kj9 =>
                      have H := HA.out
                      clear HA
                      simp only [drawknifelaw02_InstClasses.j4] at H
                      by_cases c12 : x21_9 = true
                      · subst c12
                        have H1 : ((drawknifelaw02_awake.f kj9).bind fun t153 => (if t153 = true then ((inst_Class.f kj9 a0).bind fun t154 => (if t154 = 3 then ((inst_Seen.f a0).bind fun t155 => (if a0 ≥ 18 then (some (t155 == (decide (a0 ≤ 38)))) else (some (t155 == false)))) else (some false))) else (some false))) = some r := by rw [if_pos rfl] at H; exact H
                        clear H
                        have H := H1
                        clear H1
                        replace H := Option.bind_eq_some_iff.mp H
                        obtain ⟨t153, A130, H⟩ := H
                        replace H : (if t153 = true then ((inst_Class.f kj9 a0).bind fun t154 => (if t154 = 3 then ((inst_Seen.f a0).bind fun t155 => (if a0 ≥ 18 then (some (t155 == (decide (a0 ≤ 38)))) else (some (t155 == false)))) else (some false))) else (some false)) = some r := H
                        have A13 := Aside0.mk A130
                        clear A130
                        by_cases c14 : t153 = true
                        · subst c14
                          have H1 : ((inst_Class.f kj9 a0).bind fun t154 => (if t154 = 3 then ((inst_Seen.f a0).bind fun t155 => (if a0 ≥ 18 then (some (t155 == (decide (a0 ≤ 38)))) else (some (t155 == false)))) else (some false))) = some r := by rw [if_pos rfl] at H; exact H
                          clear H
                          have H := H1
                          clear H1
                          replace H := Option.bind_eq_some_iff.mp H
                          obtain ⟨t154, A150, H⟩ := H
                          replace H : (if t154 = 3 then ((inst_Seen.f a0).bind fun t155 => (if a0 ≥ 18 then (some (t155 == (decide (a0 ≤ 38)))) else (some (t155 == false)))) else (some false)) = some r := H
                          have A15 := Aside0.mk A150
                          clear A150
                          by_cases c16 : t154 = 3
                          · rw [if_pos c16] at H
                            have c16b0 : (t154 == 3) = true := beq_iff_eq.mpr c16
                            have c16b1 : (t154 != 3) = false := bne_eq_false_iff_eq.mpr c16
                            clear c16
                            replace H := Option.bind_eq_some_iff.mp H
                            obtain ⟨t155, A170, H⟩ := H
                            replace H : (if a0 ≥ 18 then (some (t155 == (decide (a0 ≤ 38)))) else (some (t155 == false))) = some r := H
                            have A17 := Aside0.mk A170
                            clear A170
                            by_cases c18 : a0 ≥ 18
                            · rw [if_pos c18] at H
                              have c18b0 : decide (18 ≤ a0) = true := decide_eq_true c18
                              clear c18
                              obtain rfl := Option.some.inj H
                              go_wp2_with (first | ((with_reducible refine gate_callee (f := 12) rfl ?_); refine goesL_ (some 22) rfl rfl Try.func12 (by kernel_rfl) rfl #[] rfl (by (try simp only [List.map_toArray, List.map_cons, List.map_nil]); first | done | rfl | (simp only [List.length_drop, List.length_take]; rfl)) ?_; (with_reducible refine (drawknifelaw02_awake.calls kj9  true _ A13.out).mono ?_); rintro e w19 ⟨rfl, hb⟩; refine ⟨_, rfl, ?_⟩; have n0_ := Aside0.mk (below_step (by repeat (first | (with_reducible first | exact HB.out | apply below_alloc | apply pw_below_drewN | apply below_drew1) | exact HB.out)) hb); clear HB; have HB := n0_; clear n0_; (try clear hb); (try clear hb2); (try clear hk); (try clear hi)) | (go_at_call 15; (with_reducible refine (inst_Class.calls kj9 a0 t154 _ A15.out).mono ?_); rintro e w' ⟨rfl, ⟨nd, rfl⟩⟩) | (go_at_call 16; (with_reducible refine (inst_Seen.calls a0 t155 _ A17.out).mono ?_); rintro e w' ⟨rfl, ⟨nd, rfl⟩⟩))
                              go_ret
                              exact ⟨by first | rfl | (simp [errW_none, errW_some] <;> rfl) | (simp [*, errW_none, errW_some] <;> rfl), by repeat (first | (with_reducible first | exact HB.out | apply below_alloc | apply pw_below_drewN | apply below_drew1) | exact HB.out)⟩
                            · rw [if_neg c18] at H
                              have c18b0 : decide (18 ≤ a0) = false := decide_eq_false c18
                              clear c18
                              obtain rfl := Option.some.inj H
                              go_wp2_with (first | ((with_reducible refine gate_callee (f := 12) rfl ?_); refine goesL_ (some 22) rfl rfl Try.func12 (by kernel_rfl) rfl #[] rfl (by (try simp only [List.map_toArray, List.map_cons, List.map_nil]); first | done | rfl | (simp only [List.length_drop, List.length_take]; rfl)) ?_; (with_reducible refine (drawknifelaw02_awake.calls kj9  true _ A13.out).mono ?_); rintro e w20 ⟨rfl, hb⟩; refine ⟨_, rfl, ?_⟩; have n0_ := Aside0.mk (below_step (by repeat (first | (with_reducible first | exact HB.out | apply below_alloc | apply pw_below_drewN | apply below_drew1) | exact HB.out)) hb); clear HB; have HB := n0_; clear n0_; (try clear hb); (try clear hb2); (try clear hk); (try clear hi)) | (go_at_call 15; (with_reducible refine (inst_Class.calls kj9 a0 t154 _ A15.out).mono ?_); rintro e w' ⟨rfl, ⟨nd, rfl⟩⟩) | (go_at_call 16; (with_reducible refine (inst_Seen.calls a0 t155 _ A17.out).mono ?_); rintro e w' ⟨rfl, ⟨nd, rfl⟩⟩))
                              go_ret
                              exact ⟨by first | rfl | (simp [errW_none, errW_some] <;> rfl) | (simp [*, errW_none, errW_some] <;> rfl), by repeat (first | (with_reducible first | exact HB.out | apply below_alloc | apply pw_below_drewN | apply below_drew1) | exact HB.out)⟩
                          · rw [if_neg c16] at H
                            have c16b0 : (t154 == 3) = false := beq_eq_false_iff_ne.mpr c16
                            have c16b1 : (t154 != 3) = true := bne_iff_ne.mpr c16
                            obtain rfl := Option.some.inj H
                            go_wp2_with (first | ((with_reducible refine gate_callee (f := 12) rfl ?_); refine goesL_ (some 22) rfl rfl Try.func12 (by kernel_rfl) rfl #[] rfl (by (try simp only [List.map_toArray, List.map_cons, List.map_nil]); first | done | rfl | (simp only [List.length_drop, List.length_take]; rfl)) ?_; (with_reducible refine (drawknifelaw02_awake.calls kj9  true _ A13.out).mono ?_); rintro e w21 ⟨rfl, hb⟩; refine ⟨_, rfl, ?_⟩; have n0_ := Aside0.mk (below_step (by repeat (first | (with_reducible first | exact HB.out | apply below_alloc | apply pw_below_drewN | apply below_drew1) | exact HB.out)) hb); clear HB; have HB := n0_; clear n0_; (try clear hb); (try clear hb2); (try clear hk); (try clear hi)) | (go_at_call 15; (with_reducible refine (inst_Class.calls kj9 a0 t154 _ A15.out).mono ?_); rintro e w' ⟨rfl, ⟨nd, rfl⟩⟩))
                            go_ret
                            exact ⟨by first | rfl | (simp [errW_none, errW_some] <;> rfl) | (simp [*, errW_none, errW_some] <;> rfl), by repeat (first | (with_reducible first | exact HB.out | apply below_alloc | apply pw_below_drewN | apply below_drew1) | exact HB.out)⟩
                        · replace c14 := Bool.eq_false_iff.mpr c14
                          subst c14
                          have H1 : (some false) = some r := by rw [if_neg (show ¬ (false = true) by decide)] at H; exact H
                          clear H
                          have H := H1
                          clear H1
                          obtain rfl := Option.some.inj H
                          go_wp2_with (first | ((with_reducible refine gate_callee (f := 12) rfl ?_); refine goesL_ (some 22) rfl rfl Try.func12 (by kernel_rfl) rfl #[] rfl (by (try simp only [List.map_toArray, List.map_cons, List.map_nil]); first | done | rfl | (simp only [List.length_drop, List.length_take]; rfl)) ?_; (with_reducible refine (drawknifelaw02_awake.calls kj9  false _ A13.out).mono ?_); rintro e w22 ⟨rfl, hb⟩; refine ⟨_, rfl, ?_⟩; have n0_ := Aside0.mk (below_step (by repeat (first | (with_reducible first | exact HB.out | apply below_alloc | apply pw_below_drewN | apply below_drew1) | exact HB.out)) hb); clear HB; have HB := n0_; clear n0_; (try clear hb); (try clear hb2); (try clear hk); (try clear hi)))
                          go_ret
                          exact ⟨by first | rfl | (simp [errW_none, errW_some] <;> rfl) | (simp [*, errW_none, errW_some] <;> rfl), by repeat (first | (with_reducible first | exact HB.out | apply below_alloc | apply pw_below_drewN | apply below_drew1) | exact HB.out)⟩
                      · replace c12 := Bool.eq_false_iff.mpr c12
                        subst c12
                        have H1 : ((drawknifelaw02_awake.f kj9).bind fun t156 => (if t156 = true then ((inst_Class.f kj9 a0).bind fun t157 => (if t157 = x3_7 then ((inst_Seen.f a0).bind fun t158 => (if a0 ≥ 18 then (some (t158 == (decide (a0 ≤ 38)))) else (some (t158 == false)))) else (some false))) else (some false))) = some r := by rw [if_neg (show ¬ (false = true) by decide)] at H; exact H
                        clear H
                        have H := H1
                        clear H1
                        replace H := Option.bind_eq_some_iff.mp H
                        obtain ⟨t156, A230, H⟩ := H
                        replace H : (if t156 = true then ((inst_Class.f kj9 a0).bind fun t157 => (if t157 = x3_7 then ((inst_Seen.f a0).bind fun t158 => (if a0 ≥ 18 then (some (t158 == (decide (a0 ≤ 38)))) else (some (t158 == false)))) else (some false))) else (some false)) = some r := H
                        have A23 := Aside0.mk A230
                        clear A230
                        by_cases c24 : t156 = true
                        · subst c24
                          have H1 : ((inst_Class.f kj9 a0).bind fun t157 => (if t157 = x3_7 then ((inst_Seen.f a0).bind fun t158 => (if a0 ≥ 18 then (some (t158 == (decide (a0 ≤ 38)))) else (some (t158 == false)))) else (some false))) = some r := by rw [if_pos rfl] at H; exact H
                          clear H
                          have H := H1
                          clear H1
                          replace H := Option.bind_eq_some_iff.mp H
                          obtain ⟨t157, A250, H⟩ := H
                          replace H : (if t157 = x3_7 then ((inst_Seen.f a0).bind fun t158 => (if a0 ≥ 18 then (some (t158 == (decide (a0 ≤ 38)))) else (some (t158 == false)))) else (some false)) = some r := H
                          have A25 := Aside0.mk A250
                          clear A250
                          by_cases c26 : t157 = x3_7
                          · rw [if_pos c26] at H
                            have c26b0 : (t157 == x3_7) = true := beq_iff_eq.mpr c26
                            have c26b1 : (t157 != x3_7) = false := bne_eq_false_iff_eq.mpr c26
                            clear c26
                            replace H := Option.bind_eq_some_iff.mp H
                            obtain ⟨t158, A270, H⟩ := H
                            replace H : (if a0 ≥ 18 then (some (t158 == (decide (a0 ≤ 38)))) else (some (t158 == false))) = some r := H
                            have A27 := Aside0.mk A270
                            clear A270
                            by_cases c28 : a0 ≥ 18
                            · rw [if_pos c28] at H
                              have c28b0 : decide (18 ≤ a0) = true := decide_eq_true c28
                              clear c28
                              obtain rfl := Option.some.inj H
                              go_wp2_with (first | ((with_reducible refine gate_callee (f := 12) rfl ?_); refine goesL_ (some 22) rfl rfl Try.func12 (by kernel_rfl) rfl #[] rfl (by (try simp only [List.map_toArray, List.map_cons, List.map_nil]); first | done | rfl | (simp only [List.length_drop, List.length_take]; rfl)) ?_; (with_reducible refine (drawknifelaw02_awake.calls kj9  true _ A23.out).mono ?_); rintro e w29 ⟨rfl, hb⟩; refine ⟨_, rfl, ?_⟩; have n0_ := Aside0.mk (below_step (by repeat (first | (with_reducible first | exact HB.out | apply below_alloc | apply pw_below_drewN | apply below_drew1) | exact HB.out)) hb); clear HB; have HB := n0_; clear n0_; (try clear hb); (try clear hb2); (try clear hk); (try clear hi)) | (go_at_call 15; (with_reducible refine (inst_Class.calls kj9 a0 t157 _ A25.out).mono ?_); rintro e w' ⟨rfl, ⟨nd, rfl⟩⟩) | (go_at_call 16; (with_reducible refine (inst_Seen.calls a0 t158 _ A27.out).mono ?_); rintro e w' ⟨rfl, ⟨nd, rfl⟩⟩))
                              go_ret
                              exact ⟨by first | rfl | (simp [errW_none, errW_some] <;> rfl) | (simp [*, errW_none, errW_some] <;> rfl), by repeat (first | (with_reducible first | exact HB.out | apply below_alloc | apply pw_below_drewN | apply below_drew1) | exact HB.out)⟩
                            · rw [if_neg c28] at H
                              have c28b0 : decide (18 ≤ a0) = false := decide_eq_false c28
                              clear c28
                              obtain rfl := Option.some.inj H
                              go_wp2_with (first | ((with_reducible refine gate_callee (f := 12) rfl ?_); refine goesL_ (some 22) rfl rfl Try.func12 (by kernel_rfl) rfl #[] rfl (by (try simp only [List.map_toArray, List.map_cons, List.map_nil]); first | done | rfl | (simp only [List.length_drop, List.length_take]; rfl)) ?_; (with_reducible refine (drawknifelaw02_awake.calls kj9  true _ A23.out).mono ?_); rintro e w30 ⟨rfl, hb⟩; refine ⟨_, rfl, ?_⟩; have n0_ := Aside0.mk (below_step (by repeat (first | (with_reducible first | exact HB.out | apply below_alloc | apply pw_below_drewN | apply below_drew1) | exact HB.out)) hb); clear HB; have HB := n0_; clear n0_; (try clear hb); (try clear hb2); (try clear hk); (try clear hi)) | (go_at_call 15; (with_reducible refine (inst_Class.calls kj9 a0 t157 _ A25.out).mono ?_); rintro e w' ⟨rfl, ⟨nd, rfl⟩⟩) | (go_at_call 16; (with_reducible refine (inst_Seen.calls a0 t158 _ A27.out).mono ?_); rintro e w' ⟨rfl, ⟨nd, rfl⟩⟩))
                              go_ret
                              exact ⟨by first | rfl | (simp [errW_none, errW_some] <;> rfl) | (simp [*, errW_none, errW_some] <;> rfl), by repeat (first | (with_reducible first | exact HB.out | apply below_alloc | apply pw_below_drewN | apply below_drew1) | exact HB.out)⟩
                          · rw [if_neg c26] at H
                            have c26b0 : (t157 == x3_7) = false := beq_eq_false_iff_ne.mpr c26
                            have c26b1 : (t157 != x3_7) = true := bne_iff_ne.mpr c26
                            obtain rfl := Option.some.inj H
                            go_wp2_with (first | ((with_reducible refine gate_callee (f := 12) rfl ?_); refine goesL_ (some 22) rfl rfl Try.func12 (by kernel_rfl) rfl #[] rfl (by (try simp only [List.map_toArray, List.map_cons, List.map_nil]); first | done | rfl | (simp only [List.length_drop, List.length_take]; rfl)) ?_; (with_reducible refine (drawknifelaw02_awake.calls kj9  true _ A23.out).mono ?_); rintro e w31 ⟨rfl, hb⟩; refine ⟨_, rfl, ?_⟩; have n0_ := Aside0.mk (below_step (by repeat (first | (with_reducible first | exact HB.out | apply below_alloc | apply pw_below_drewN | apply below_drew1) | exact HB.out)) hb); clear HB; have HB := n0_; clear n0_; (try clear hb); (try clear hb2); (try clear hk); (try clear hi)) | (go_at_call 15; (with_reducible refine (inst_Class.calls kj9 a0 t157 _ A25.out).mono ?_); rintro e w' ⟨rfl, ⟨nd, rfl⟩⟩))
                            go_ret
                            exact ⟨by first | rfl | (simp [errW_none, errW_some] <;> rfl) | (simp [*, errW_none, errW_some] <;> rfl), by repeat (first | (with_reducible first | exact HB.out | apply below_alloc | apply pw_below_drewN | apply below_drew1) | exact HB.out)⟩
                        · replace c24 := Bool.eq_false_iff.mpr c24
                          subst c24
                          have H1 : (some false) = some r := by rw [if_neg (show ¬ (false = true) by decide)] at H; exact H
                          clear H
                          have H := H1
                          clear H1
                          obtain rfl := Option.some.inj H
                          go_wp2_with (first | ((with_reducible refine gate_callee (f := 12) rfl ?_); refine goesL_ (some 22) rfl rfl Try.func12 (by kernel_rfl) rfl #[] rfl (by (try simp only [List.map_toArray, List.map_cons, List.map_nil]); first | done | rfl | (simp only [List.length_drop, List.length_take]; rfl)) ?_; (with_reducible refine (drawknifelaw02_awake.calls kj9  false _ A23.out).mono ?_); rintro e w32 ⟨rfl, hb⟩; refine ⟨_, rfl, ?_⟩; have n0_ := Aside0.mk (below_step (by repeat (first | (with_reducible first | exact HB.out | apply below_alloc | apply pw_below_drewN | apply below_drew1) | exact HB.out)) hb); clear HB; have HB := n0_; clear n0_; (try clear hb); (try clear hb2); (try clear hk); (try clear hi)))
                          go_ret
                          exact ⟨by first | rfl | (simp [errW_none, errW_some] <;> rfl) | (simp [*, errW_none, errW_some] <;> rfl), by repeat (first | (with_reducible first | exact HB.out | apply below_alloc | apply pw_below_drewN | apply below_drew1) | exact HB.out)⟩

/-- THE ONE PURE STATEMENT of drawknifelaw02_InstClasses: yours. -/
def drawknifelaw02_InstClasses.Pure : Prop := ∀ (a0 : Int), (Lit.int .i64 a0).wf = true → ∃ k, drawknifelaw02_InstClasses.f k a0 = some true
theorem drawknifelaw02_InstClasses.walk (P : drawknifelaw02_InstClasses.Pure) (a0 : Int) (w : World) (w0 : (Lit.int .i64 a0).wf = true) :
    Calls Try.prog 4 #[.int .i64 a0] w fun e w' => e = .returned (.bool true) ∧ Below w.heap.size w w' := by
  obtain ⟨k, h⟩ := P a0 w0
  refine (drawknifelaw02_InstClasses.calls k a0 true w h).mono ?_
  rintro e w' ⟨rfl, hd⟩
  exact ⟨rfl, hd⟩

end Go.Proofs.Ytlnfjjbfdbcgbaa.PInstClasses
