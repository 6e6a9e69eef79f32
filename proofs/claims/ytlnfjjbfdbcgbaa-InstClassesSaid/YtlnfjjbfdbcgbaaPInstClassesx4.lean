-- PRINTED BY print.sh 35421559b90ae4d0a3588c463048766b98c2df88dd9212a6774a882060cdf62d: not written by this session
import Derived.Test.YtlnfjjbfdbcgbaaPInstClassesx0
import Derived.Test.YtlnfjjbfdbcgbaaPInstClassesx3
namespace Go.Proofs.Ytlnfjjbfdbcgbaa.PInstClasses
open Go.RowKit Go.Proofs.YtlnfjjbfdbcgbaaW.PrintWords Go.Proofs.YtlnfjjbfdbcgbaaW.PrintLast Go.Proofs.YtlnfjjbfdbcgbaaW.PrintMore
attribute [local go_sem] max2_int min2_int max_two min_two max_three min_three max_four min_four   -- for this text's walks alone
set_option linter.unusedVariables false
set_option linter.unusedSimpArgs false

/-! ### inst_caps: function 24 -/
mutual
def inst_caps.j0 : Nat → Bool → List (List (S34)) → Int → Int → Int → List Int → List Int → Int → Int → Option (Bool)
  | 0, _, _, _, _, _, _, _, _, _ => none
  | k + 1, x3, x122000, x122001, x122002, x122003, x122004, x122005, x122006, x122007 => inst_caps.l0 k x3 x122000 (x122000.length : Int) 0 x122000 x122001 x122002 x122003 x122004 x122005 x122006 x122007
def inst_caps.l0 : Nat → Bool → List (List (S34)) → Int → Int → List (List (S34)) → Int → Int → Int → List Int → List Int → Int → Int → Option (Bool)
  | 0, _, _, _, _, _, _, _, _, _, _, _, _ => none
  | k + 1, x3, x58, x59, x60, x122000, x122001, x122002, x122003, x122004, x122005, x122006, x122007 => if x60 < x59 then (if 0 ≤ x60 then (if x60 < (x58.length : Int) then (if x3 = true then (inst_caps.l0 k (decide (((rd_L3 x58 x60).length : Int) ≤ 256)) x58 x59 (wrap64 (x60 + 1)) x122000 x122001 x122002 x122003 x122004 x122005 x122006 x122007) else (inst_caps.l0 k false x58 x59 (wrap64 (x60 + 1)) x122000 x122001 x122002 x122003 x122004 x122005 x122006 x122007)) else (none)) else (none)) else (inst_caps.l1 k x3 x122004 (x122004.length : Int) 0 x122000 x122001 x122002 x122003 x122004 x122005 x122006 x122007)
def inst_caps.l1 : Nat → Bool → List Int → Int → Int → List (List (S34)) → Int → Int → Int → List Int → List Int → Int → Int → Option (Bool)
  | 0, _, _, _, _, _, _, _, _, _, _, _, _ => none
  | k + 1, x3, x72, x73, x74, x122000, x122001, x122002, x122003, x122004, x122005, x122006, x122007 => if x74 < x73 then (if 0 ≤ x74 then (if x74 < (x72.length : Int) then (if x3 = true then ((inst_within.f (rd x72 x74) 1048576).bind fun t129 => (inst_caps.l1 k t129 x72 x73 (wrap64 (x74 + 1)) x122000 x122001 x122002 x122003 x122004 x122005 x122006 x122007)) else (inst_caps.l1 k false x72 x73 (wrap64 (x74 + 1)) x122000 x122001 x122002 x122003 x122004 x122005 x122006 x122007)) else (none)) else (none)) else (inst_caps.l2 k x3 x122005 (x122005.length : Int) 0)
def inst_caps.l2 : Nat → Bool → List Int → Int → Int → Option (Bool)
  | 0, _, _, _, _ => none
  | k + 1, x3, x85, x86, x87 => if x87 < x86 then (if 0 ≤ x87 then (if x87 < (x85.length : Int) then (if x3 = true then (if (rd x85 x87) > 0 then ((inst_within.f (rd x85 x87) 8).bind fun t131 => (inst_caps.l2 k t131 x85 x86 (wrap64 (x87 + 1)))) else (inst_caps.l2 k false x85 x86 (wrap64 (x87 + 1)))) else (inst_caps.l2 k false x85 x86 (wrap64 (x87 + 1)))) else (none)) else (none)) else (some x3)
end
def inst_caps.f (k : Nat) (l0_0 : List (List (S34))) (a0_1 : Int) (a0_2 : Int) (a0_3 : Int) (l0_4 : List Int) (l0_5 : List Int) (a0_6 : Int) (a0_7 : Int) : Option (Bool) := if (l0_0.length : Int) > 0 then (if (l0_0.length : Int) ≤ 8 then ((inst_within.f a0_1 64).bind fun t122 => (if t122 = true then ((inst_within.f a0_2 4).bind fun t123 => (if t123 = true then ((inst_within.f a0_3 4).bind fun t124 => (if t124 = true then ((inst_within.f a0_6 64).bind fun t125 => (if t125 = true then ((inst_within.f a0_7 7).bind fun t126 => (if t126 = true then (if (l0_4.length : Int) ≤ 4 then (inst_caps.j0 k (decide ((l0_5.length : Int) ≤ 4)) l0_0 a0_1 a0_2 a0_3 l0_4 l0_5 a0_6 a0_7) else (inst_caps.j0 k false l0_0 a0_1 a0_2 a0_3 l0_4 l0_5 a0_6 a0_7)) else (inst_caps.j0 k false l0_0 a0_1 a0_2 a0_3 l0_4 l0_5 a0_6 a0_7))) else (inst_caps.j0 k false l0_0 a0_1 a0_2 a0_3 l0_4 l0_5 a0_6 a0_7))) else (inst_caps.j0 k false l0_0 a0_1 a0_2 a0_3 l0_4 l0_5 a0_6 a0_7))) else (inst_caps.j0 k false l0_0 a0_1 a0_2 a0_3 l0_4 l0_5 a0_6 a0_7))) else (inst_caps.j0 k false l0_0 a0_1 a0_2 a0_3 l0_4 l0_5 a0_6 a0_7))) else (inst_caps.j0 k false l0_0 a0_1 a0_2 a0_3 l0_4 l0_5 a0_6 a0_7)) else (inst_caps.j0 k false l0_0 a0_1 a0_2 a0_3 l0_4 l0_5 a0_6 a0_7)
theorem inst_caps.mono_l : ∀ k, (∀ y0 y1 y2 y3 y4 y5 y6 y7 y8, LeO (inst_caps.j0 k y0 y1 y2 y3 y4 y5 y6 y7 y8) (inst_caps.j0 (k + 1) y0 y1 y2 y3 y4 y5 y6 y7 y8)) ∧ (∀ y0 y1 y2 y3 y4 y5 y6 y7 y8 y9 y10 y11, LeO (inst_caps.l0 k y0 y1 y2 y3 y4 y5 y6 y7 y8 y9 y10 y11) (inst_caps.l0 (k + 1) y0 y1 y2 y3 y4 y5 y6 y7 y8 y9 y10 y11)) ∧ (∀ y0 y1 y2 y3 y4 y5 y6 y7 y8 y9 y10 y11, LeO (inst_caps.l1 k y0 y1 y2 y3 y4 y5 y6 y7 y8 y9 y10 y11) (inst_caps.l1 (k + 1) y0 y1 y2 y3 y4 y5 y6 y7 y8 y9 y10 y11)) ∧ (∀ y0 y1 y2 y3, LeO (inst_caps.l2 k y0 y1 y2 y3) (inst_caps.l2 (k + 1) y0 y1 y2 y3))
  | 0 => ⟨fun _ _ _ _ _ _ _ _ _ r h => by simp [inst_caps.j0] at h, fun _ _ _ _ _ _ _ _ _ _ _ _ r h => by simp [inst_caps.l0] at h, fun _ _ _ _ _ _ _ _ _ _ _ _ r h => by simp [inst_caps.l1] at h, fun _ _ _ _ r h => by simp [inst_caps.l2] at h⟩
  | k + 1 => by
    obtain ⟨ih0, ih1, ih2, ih3⟩ := inst_caps.mono_l k
    refine ⟨?_, ?_, ?_, ?_⟩
    · intro y0 y1 y2 y3 y4 y5 y6 y7 y8
      unfold inst_caps.j0
      repeat' first
      | (with_reducible exact ih0 _ _ _ _ _ _ _ _ _)
      | (with_reducible exact ih1 _ _ _ _ _ _ _ _ _ _ _ _)
      | (with_reducible exact ih2 _ _ _ _ _ _ _ _ _ _ _ _)
      | (with_reducible exact ih3 _ _ _ _)
      | (with_reducible exact LeO.refl _)
      | (with_reducible exact LeO.none _)
      | (with_reducible refine LeO.ite ?_ ?_)
      | (with_reducible refine LeO.bind ?_ (fun _ => ?_))
      | exact ih0 _ _ _ _ _ _ _ _ _
      | exact ih1 _ _ _ _ _ _ _ _ _ _ _ _
      | exact ih2 _ _ _ _ _ _ _ _ _ _ _ _
      | exact ih3 _ _ _ _
      | exact LeO.none _
      | refine LeO.ite ?_ ?_
      | refine LeO.bind ?_ (fun _ => ?_)
    · intro y0 y1 y2 y3 y4 y5 y6 y7 y8 y9 y10 y11
      unfold inst_caps.l0
      repeat' first
      | (with_reducible exact ih0 _ _ _ _ _ _ _ _ _)
      | (with_reducible exact ih1 _ _ _ _ _ _ _ _ _ _ _ _)
      | (with_reducible exact ih2 _ _ _ _ _ _ _ _ _ _ _ _)
      | (with_reducible exact ih3 _ _ _ _)
      | (with_reducible exact LeO.refl _)
      | (with_reducible exact LeO.none _)
      | (with_reducible refine LeO.ite ?_ ?_)
      | (with_reducible refine LeO.bind ?_ (fun _ => ?_))
      | exact ih0 _ _ _ _ _ _ _ _ _
      | exact ih1 _ _ _ _ _ _ _ _ _ _ _ _
      | exact ih2 _ _ _ _ _ _ _ _ _ _ _ _
      | exact ih3 _ _ _ _
      | exact LeO.none _
      | refine LeO.ite ?_ ?_
      | refine LeO.bind ?_ (fun _ => ?_)
    · intro y0 y1 y2 y3 y4 y5 y6 y7 y8 y9 y10 y11
      unfold inst_caps.l1
      repeat' first
      | (with_reducible exact ih0 _ _ _ _ _ _ _ _ _)
      | (with_reducible exact ih1 _ _ _ _ _ _ _ _ _ _ _ _)
      | (with_reducible exact ih2 _ _ _ _ _ _ _ _ _ _ _ _)
      | (with_reducible exact ih3 _ _ _ _)
      | (with_reducible exact LeO.refl _)
      | (with_reducible exact LeO.none _)
      | (with_reducible refine LeO.ite ?_ ?_)
      | (with_reducible refine LeO.bind ?_ (fun _ => ?_))
      | exact ih0 _ _ _ _ _ _ _ _ _
      | exact ih1 _ _ _ _ _ _ _ _ _ _ _ _
      | exact ih2 _ _ _ _ _ _ _ _ _ _ _ _
      | exact ih3 _ _ _ _
      | exact LeO.none _
      | refine LeO.ite ?_ ?_
      | refine LeO.bind ?_ (fun _ => ?_)
    · intro y0 y1 y2 y3
      unfold inst_caps.l2
      repeat' first
      | (with_reducible exact ih0 _ _ _ _ _ _ _ _ _)
      | (with_reducible exact ih1 _ _ _ _ _ _ _ _ _ _ _ _)
      | (with_reducible exact ih2 _ _ _ _ _ _ _ _ _ _ _ _)
      | (with_reducible exact ih3 _ _ _ _)
      | (with_reducible exact LeO.refl _)
      | (with_reducible exact LeO.none _)
      | (with_reducible refine LeO.ite ?_ ?_)
      | (with_reducible refine LeO.bind ?_ (fun _ => ?_))
      | exact ih0 _ _ _ _ _ _ _ _ _
      | exact ih1 _ _ _ _ _ _ _ _ _ _ _ _
      | exact ih2 _ _ _ _ _ _ _ _ _ _ _ _
      | exact ih3 _ _ _ _
      | exact LeO.none _
      | refine LeO.ite ?_ ?_
      | refine LeO.bind ?_ (fun _ => ?_)
theorem inst_caps.mono : ∀ a0 a1 a2 a3 a4 a5 a6 a7 k, LeO (inst_caps.f k a0 a1 a2 a3 a4 a5 a6 a7) (inst_caps.f (k + 1) a0 a1 a2 a3 a4 a5 a6 a7) := by
  intro a0 a1 a2 a3 a4 a5 a6 a7 k
  obtain ⟨ih0, ih1, ih2, ih3⟩ := inst_caps.mono_l k
  unfold inst_caps.f
  repeat' first
      | (with_reducible exact ih0 _ _ _ _ _ _ _ _ _)
      | (with_reducible exact ih1 _ _ _ _ _ _ _ _ _ _ _ _)
      | (with_reducible exact ih2 _ _ _ _ _ _ _ _ _ _ _ _)
      | (with_reducible exact ih3 _ _ _ _)
      | (with_reducible exact LeO.refl _)
      | (with_reducible exact LeO.none _)
      | (with_reducible refine LeO.ite ?_ ?_)
      | (with_reducible refine LeO.bind ?_ (fun _ => ?_))
      | exact ih0 _ _ _ _ _ _ _ _ _
      | exact ih1 _ _ _ _ _ _ _ _ _ _ _ _
      | exact ih2 _ _ _ _ _ _ _ _ _ _ _ _
      | exact ih3 _ _ _ _
      | exact LeO.none _
      | refine LeO.ite ?_ ?_
      | refine LeO.bind ?_ (fun _ => ?_)
set_option maxHeartbeats 8000000 in
set_option maxRecDepth 100000 in
theorem inst_caps.calls (k : Nat) (A0_0 : Option Addr) (c0_0 : Nat) (l0_0 : List (List (S34))) (a0_1 : Int) (a0_2 : Int) (a0_3 : Int) (A0_4 : Option Addr) (c0_4 : Nat) (l0_4 : List Int) (A0_5 : Option Addr) (c0_5 : Nat) (l0_5 : List Int) (a0_6 : Int) (a0_7 : Int) (r : Bool) (w : World) (hr0_0 : Kd.C (Kd.slice 34 k34) w A0_0 l0_0.length l0_0) (hc0_0 : l0_0.length ≤ c0_0) (hr0_4 : Kd.C (Kd.int .i64) w A0_4 l0_4.length l0_4) (hc0_4 : l0_4.length ≤ c0_4) (hr0_5 : Kd.C (Kd.int .i64) w A0_5 l0_5.length l0_5) (hc0_5 : l0_5.length ≤ c0_5) (h : inst_caps.f k l0_0 a0_1 a0_2 a0_3 l0_4 l0_5 a0_6 a0_7 = some r) :
    Calls Try.prog 24 #[.agg #[.slice A0_0 l0_0.length c0_0, .int .i64 a0_1, .int .i64 a0_2, .int .i64 a0_3, .slice A0_4 l0_4.length c0_4, .slice A0_5 l0_5.length c0_5, .int .i64 a0_6, .int .i64 a0_7]] w fun e w' => e = .returned (.bool r) ∧ Below w.heap.size w w' := by
  have hu25 := Try.underlying25
  have HR0_0 := Aside0.mk hr0_0
  have HC0_0 := Aside0.mk hc0_0
  clear hr0_0 hc0_0
  have HR0_4 := Aside0.mk hr0_4
  have HC0_4 := Aside0.mk hc0_4
  clear hr0_4 hc0_4
  have HR0_5 := Aside0.mk hr0_5
  have HC0_5 := Aside0.mk hc0_5
  clear hr0_5 hc0_5
  have HB := Aside0.mk (Below.refl w.heap.size w)
  have H : (if (l0_0.length : Int) > 0 then (if (l0_0.length : Int) ≤ 8 then ((inst_within.f a0_1 64).bind fun t122 => (if t122 = true then ((inst_within.f a0_2 4).bind fun t123 => (if t123 = true then ((inst_within.f a0_3 4).bind fun t124 => (if t124 = true then ((inst_within.f a0_6 64).bind fun t125 => (if t125 = true then ((inst_within.f a0_7 7).bind fun t126 => (if t126 = true then (if (l0_4.length : Int) ≤ 4 then (inst_caps.j0 k (decide ((l0_5.length : Int) ≤ 4)) l0_0 a0_1 a0_2 a0_3 l0_4 l0_5 a0_6 a0_7) else (inst_caps.j0 k false l0_0 a0_1 a0_2 a0_3 l0_4 l0_5 a0_6 a0_7)) else (inst_caps.j0 k false l0_0 a0_1 a0_2 a0_3 l0_4 l0_5 a0_6 a0_7))) else (inst_caps.j0 k false l0_0 a0_1 a0_2 a0_3 l0_4 l0_5 a0_6 a0_7))) else (inst_caps.j0 k false l0_0 a0_1 a0_2 a0_3 l0_4 l0_5 a0_6 a0_7))) else (inst_caps.j0 k false l0_0 a0_1 a0_2 a0_3 l0_4 l0_5 a0_6 a0_7))) else (inst_caps.j0 k false l0_0 a0_1 a0_2 a0_3 l0_4 l0_5 a0_6 a0_7))) else (inst_caps.j0 k false l0_0 a0_1 a0_2 a0_3 l0_4 l0_5 a0_6 a0_7)) else (inst_caps.j0 k false l0_0 a0_1 a0_2 a0_3 l0_4 l0_5 a0_6 a0_7)) = some r := h
  clear h
  have HC2 := Aside0.mk H
  clear H
  go_enter Try.func24, Try.ntmps24
  go_upto_region 1 with (first | ((with_reducible refine gate_dst (N := 1) rfl ?_); (try (refine gate_guard (by rfl) ?_; dsimp only)); refine box_event ?hg (N := 1) ?hd (cs := #[.slice A0_0 l0_0.length c0_0, .int .i64 a0_1, .int .i64 a0_2, .int .i64 a0_3, .slice A0_4 l0_4.length c0_4, .slice A0_5 l0_5.length c0_5, .int .i64 a0_6, .int .i64 a0_7]) (t := 25) ?hr ?_; (case hd => rfl); (case hg => rfl); (case hr => first | (go_simp; done) | (go_simp; rfl)); intro gb121 hg w3 hbox hb; have n0_ := Aside0.mk (below_step (by repeat (first | (with_reducible first | exact HB.out | apply below_alloc | apply pw_below_drewN | apply below_drew1) | exact HB.out)) hb); have n1_ := Aside0.mk (hbox); have n2_ := Aside0.mk ((by rw [hg]; exact (below_size (by repeat (first | (with_reducible first | exact HB.out | apply below_alloc | apply pw_below_drewN | apply below_drew1) | exact HB.out))) : w.heap.size ≤ gb121)); have n3_ := Aside0.mk ((by rw [hg]; exact (below_size (by repeat (first | (with_reducible first | exact HB.out | apply below_alloc | apply pw_below_drewN | apply below_drew1) | exact HB.out))) : w.heap.size ≤ gb121)); clear HB; have HB := n0_; have BK121 := n1_; have GW121 := n2_; have GE121 := n3_; clear n0_ n1_ n2_ n3_; clear hb hbox hg))
  (try simp only [Act.put, List.setIfInBounds_toArray, List.set_cons_zero, List.set_cons_succ])
  go_cut [3] (fun v3 wc => ∃ (kq : Nat) (x3_1 : Bool), v3 = .bool x3_1 ∧ Aside0 (inst_caps.j0 kq x3_1 l0_0 a0_1 a0_2 a0_3 l0_4 l0_5 a0_6 a0_7 = some r) ∧ Aside0 (kq ≤ k) ∧ Aside0 (wc.heap[gb121]? = some (.cells #[(.slice A0_0 l0_0.length c0_0), .int .i64 a0_1, .int .i64 a0_2, .int .i64 a0_3, (.slice A0_4 l0_4.length c0_4), (.slice A0_5 l0_5.length c0_5), .int .i64 a0_6, .int .i64 a0_7] 25 (0, 0))) ∧ Aside0 (Below w.heap.size w wc))
  case first =>
    have H := HC2.out
    clear HC2
    by_cases c4 : (l0_0.length : Int) > 0
    · rw [if_pos c4] at H
      have c4b0 : decide (0 < (l0_0.length : Int)) = true := decide_eq_true c4
      have c4b1 : decide (0 < l0_0.length) = true := decide_eq_true (by omega)
      clear c4
      (first | rw [c4b0] | (simp only [i64_w, i32_w]; rw [c4b0]) | skip)
      by_cases c5 : (l0_0.length : Int) ≤ 8
      · rw [if_pos c5] at H
        have c5b0 : decide ((l0_0.length : Int) ≤ 8) = true := decide_eq_true c5
        have c5b1 : decide (l0_0.length ≤ 8) = true := decide_eq_true (by omega)
        clear c5
        replace H := Option.bind_eq_some_iff.mp H
        obtain ⟨t122, A60, H⟩ := H
        replace H : (if t122 = true then ((inst_within.f a0_2 4).bind fun t123 => (if t123 = true then ((inst_within.f a0_3 4).bind fun t124 => (if t124 = true then ((inst_within.f a0_6 64).bind fun t125 => (if t125 = true then ((inst_within.f a0_7 7).bind fun t126 => (if t126 = true then (if (l0_4.length : Int) ≤ 4 then (inst_caps.j0 k (decide ((l0_5.length : Int) ≤ 4)) l0_0 a0_1 a0_2 a0_3 l0_4 l0_5 a0_6 a0_7) else (inst_caps.j0 k false l0_0 a0_1 a0_2 a0_3 l0_4 l0_5 a0_6 a0_7)) else (inst_caps.j0 k false l0_0 a0_1 a0_2 a0_3 l0_4 l0_5 a0_6 a0_7))) else (inst_caps.j0 k false l0_0 a0_1 a0_2 a0_3 l0_4 l0_5 a0_6 a0_7))) else (inst_caps.j0 k false l0_0 a0_1 a0_2 a0_3 l0_4 l0_5 a0_6 a0_7))) else (inst_caps.j0 k false l0_0 a0_1 a0_2 a0_3 l0_4 l0_5 a0_6 a0_7))) else (inst_caps.j0 k false l0_0 a0_1 a0_2 a0_3 l0_4 l0_5 a0_6 a0_7)) = some r := H
        have A6 := Aside0.mk A60
        clear A60
        by_cases c7 : t122 = true
        · subst c7
          have H1 : ((inst_within.f a0_2 4).bind fun t123 => (if t123 = true then ((inst_within.f a0_3 4).bind fun t124 => (if t124 = true then ((inst_within.f a0_6 64).bind fun t125 => (if t125 = true then ((inst_within.f a0_7 7).bind fun t126 => (if t126 = true then (if (l0_4.length : Int) ≤ 4 then (inst_caps.j0 k (decide ((l0_5.length : Int) ≤ 4)) l0_0 a0_1 a0_2 a0_3 l0_4 l0_5 a0_6 a0_7) else (inst_caps.j0 k false l0_0 a0_1 a0_2 a0_3 l0_4 l0_5 a0_6 a0_7)) else (inst_caps.j0 k false l0_0 a0_1 a0_2 a0_3 l0_4 l0_5 a0_6 a0_7))) else (inst_caps.j0 k false l0_0 a0_1 a0_2 a0_3 l0_4 l0_5 a0_6 a0_7))) else (inst_caps.j0 k false l0_0 a0_1 a0_2 a0_3 l0_4 l0_5 a0_6 a0_7))) else (inst_caps.j0 k false l0_0 a0_1 a0_2 a0_3 l0_4 l0_5 a0_6 a0_7))) = some r := by rw [if_pos rfl] at H; exact H
          clear H
          have H := H1
          clear H1
          replace H := Option.bind_eq_some_iff.mp H
          obtain ⟨t123, A80, H⟩ := H
          replace H : (if t123 = true then ((inst_within.f a0_3 4).bind fun t124 => (if t124 = true then ((inst_within.f a0_6 64).bind fun t125 => (if t125 = true then ((inst_within.f a0_7 7).bind fun t126 => (if t126 = true then (if (l0_4.length : Int) ≤ 4 then (inst_caps.j0 k (decide ((l0_5.length : Int) ≤ 4)) l0_0 a0_1 a0_2 a0_3 l0_4 l0_5 a0_6 a0_7) else (inst_caps.j0 k false l0_0 a0_1 a0_2 a0_3 l0_4 l0_5 a0_6 a0_7)) else (inst_caps.j0 k false l0_0 a0_1 a0_2 a0_3 l0_4 l0_5 a0_6 a0_7))) else (inst_caps.j0 k false l0_0 a0_1 a0_2 a0_3 l0_4 l0_5 a0_6 a0_7))) else (inst_caps.j0 k false l0_0 a0_1 a0_2 a0_3 l0_4 l0_5 a0_6 a0_7))) else (inst_caps.j0 k false l0_0 a0_1 a0_2 a0_3 l0_4 l0_5 a0_6 a0_7)) = some r := H
          have A8 := Aside0.mk A80
          clear A80
          by_cases c9 : t123 = true
          · subst c9
            have H1 : ((inst_within.f a0_3 4).bind fun t124 => (if t124 = true then ((inst_within.f a0_6 64).bind fun t125 => (if t125 = true then ((inst_within.f a0_7 7).bind fun t126 => (if t126 = true then (if (l0_4.length : Int) ≤ 4 then (inst_caps.j0 k (decide ((l0_5.length : Int) ≤ 4)) l0_0 a0_1 a0_2 a0_3 l0_4 l0_5 a0_6 a0_7) else (inst_caps.j0 k false l0_0 a0_1 a0_2 a0_3 l0_4 l0_5 a0_6 a0_7)) else (inst_caps.j0 k false l0_0 a0_1 a0_2 a0_3 l0_4 l0_5 a0_6 a0_7))) else (inst_caps.j0 k false l0_0 a0_1 a0_2 a0_3 l0_4 l0_5 a0_6 a0_7))) else (inst_caps.j0 k false l0_0 a0_1 a0_2 a0_3 l0_4 l0_5 a0_6 a0_7))) = some r := by rw [if_pos rfl] at H; exact H
            clear H
            have H := H1
            clear H1
            replace H := Option.bind_eq_some_iff.mp H
            obtain ⟨t124, A100, H⟩ := H
            replace H : (if t124 = true then ((inst_within.f a0_6 64).bind fun t125 => (if t125 = true then ((inst_within.f a0_7 7).bind fun t126 => (if t126 = true then (if (l0_4.length : Int) ≤ 4 then (inst_caps.j0 k (decide ((l0_5.length : Int) ≤ 4)) l0_0 a0_1 a0_2 a0_3 l0_4 l0_5 a0_6 a0_7) else (inst_caps.j0 k false l0_0 a0_1 a0_2 a0_3 l0_4 l0_5 a0_6 a0_7)) else (inst_caps.j0 k false l0_0 a0_1 a0_2 a0_3 l0_4 l0_5 a0_6 a0_7))) else (inst_caps.j0 k false l0_0 a0_1 a0_2 a0_3 l0_4 l0_5 a0_6 a0_7))) else (inst_caps.j0 k false l0_0 a0_1 a0_2 a0_3 l0_4 l0_5 a0_6 a0_7)) = some r := H
            have A10 := Aside0.mk A100
            clear A100
            by_cases c11 : t124 = true
            · subst c11
              have H1 : ((inst_within.f a0_6 64).bind fun t125 => (if t125 = true then ((inst_within.f a0_7 7).bind fun t126 => (if t126 = true then (if (l0_4.length : Int) ≤ 4 then (inst_caps.j0 k (decide ((l0_5.length : Int) ≤ 4)) l0_0 a0_1 a0_2 a0_3 l0_4 l0_5 a0_6 a0_7) else (inst_caps.j0 k false l0_0 a0_1 a0_2 a0_3 l0_4 l0_5 a0_6 a0_7)) else (inst_caps.j0 k false l0_0 a0_1 a0_2 a0_3 l0_4 l0_5 a0_6 a0_7))) else (inst_caps.j0 k false l0_0 a0_1 a0_2 a0_3 l0_4 l0_5 a0_6 a0_7))) = some r := by rw [if_pos rfl] at H; exact H
              clear H
              have H := H1
              clear H1
              replace H := Option.bind_eq_some_iff.mp H
              obtain ⟨t125, A120, H⟩ := H
              replace H : (if t125 = true then ((inst_within.f a0_7 7).bind fun t126 => (if t126 = true then (if (l0_4.length : Int) ≤ 4 then (inst_caps.j0 k (decide ((l0_5.length : Int) ≤ 4)) l0_0 a0_1 a0_2 a0_3 l0_4 l0_5 a0_6 a0_7) else (inst_caps.j0 k false l0_0 a0_1 a0_2 a0_3 l0_4 l0_5 a0_6 a0_7)) else (inst_caps.j0 k false l0_0 a0_1 a0_2 a0_3 l0_4 l0_5 a0_6 a0_7))) else (inst_caps.j0 k false l0_0 a0_1 a0_2 a0_3 l0_4 l0_5 a0_6 a0_7)) = some r := H
              have A12 := Aside0.mk A120
              clear A120
              by_cases c13 : t125 = true
              · subst c13
                have H1 : ((inst_within.f a0_7 7).bind fun t126 => (if t126 = true then (if (l0_4.length : Int) ≤ 4 then (inst_caps.j0 k (decide ((l0_5.length : Int) ≤ 4)) l0_0 a0_1 a0_2 a0_3 l0_4 l0_5 a0_6 a0_7) else (inst_caps.j0 k false l0_0 a0_1 a0_2 a0_3 l0_4 l0_5 a0_6 a0_7)) else (inst_caps.j0 k false l0_0 a0_1 a0_2 a0_3 l0_4 l0_5 a0_6 a0_7))) = some r := by rw [if_pos rfl] at H; exact H
                clear H
                have H := H1
                clear H1
                replace H := Option.bind_eq_some_iff.mp H
                obtain ⟨t126, A140, H⟩ := H
                replace H : (if t126 = true then (if (l0_4.length : Int) ≤ 4 then (inst_caps.j0 k (decide ((l0_5.length : Int) ≤ 4)) l0_0 a0_1 a0_2 a0_3 l0_4 l0_5 a0_6 a0_7) else (inst_caps.j0 k false l0_0 a0_1 a0_2 a0_3 l0_4 l0_5 a0_6 a0_7)) else (inst_caps.j0 k false l0_0 a0_1 a0_2 a0_3 l0_4 l0_5 a0_6 a0_7)) = some r := H
                have A14 := Aside0.mk A140
                clear A140
                by_cases c15 : t126 = true
                · subst c15
                  have H1 : (if (l0_4.length : Int) ≤ 4 then (inst_caps.j0 k (decide ((l0_5.length : Int) ≤ 4)) l0_0 a0_1 a0_2 a0_3 l0_4 l0_5 a0_6 a0_7) else (inst_caps.j0 k false l0_0 a0_1 a0_2 a0_3 l0_4 l0_5 a0_6 a0_7)) = some r := by rw [if_pos rfl] at H; exact H
                  clear H
                  have H := H1
                  clear H1
                  by_cases c16 : (l0_4.length : Int) ≤ 4
                  · rw [if_pos c16] at H
                    have c16b0 : decide ((l0_4.length : Int) ≤ 4) = true := decide_eq_true c16
                    have c16b1 : decide (l0_4.length ≤ 4) = true := decide_eq_true (by omega)
                    clear c16
                    have H' := Aside0.mk H
                    clear H
                    have hcz17_0 : w3.cell? ⟨gb121, 0, none⟩ = some (.slice A0_0 l0_0.length c0_0) := (blk_cell BK121.out 0).trans rfl
                    have hcz17_1 : w3.cell? ⟨gb121, 1, none⟩ = some (.int .i64 a0_1) := (blk_cell BK121.out 1).trans rfl
                    have hcz17_2 : w3.cell? ⟨gb121, 2, none⟩ = some (.int .i64 a0_2) := (blk_cell BK121.out 2).trans rfl
                    have hcz17_3 : w3.cell? ⟨gb121, 3, none⟩ = some (.int .i64 a0_3) := (blk_cell BK121.out 3).trans rfl
                    have hcz17_4 : w3.cell? ⟨gb121, 4, none⟩ = some (.slice A0_4 l0_4.length c0_4) := (blk_cell BK121.out 4).trans rfl
                    have hcz17_5 : w3.cell? ⟨gb121, 5, none⟩ = some (.slice A0_5 l0_5.length c0_5) := (blk_cell BK121.out 5).trans rfl
                    have hcz17_6 : w3.cell? ⟨gb121, 6, none⟩ = some (.int .i64 a0_6) := (blk_cell BK121.out 6).trans rfl
                    have hcz17_7 : w3.cell? ⟨gb121, 7, none⟩ = some (.int .i64 a0_7) := (blk_cell BK121.out 7).trans rfl
                    have hfz17_0 := blk_frozen BK121.out 0
                    have hfz17_1 := blk_frozen BK121.out 1
                    have hfz17_2 := blk_frozen BK121.out 2
                    have hfz17_3 := blk_frozen BK121.out 3
                    have hfz17_4 := blk_frozen BK121.out 4
                    have hfz17_5 := blk_frozen BK121.out 5
                    have hfz17_6 := blk_frozen BK121.out 6
                    have hfz17_7 := blk_frozen BK121.out 7
                    go_wp2_with (first | (go_at_call 33; (with_reducible refine (inst_within.calls a0_1 64 true _ A6.out).mono ?_); rintro e w' ⟨rfl, ⟨nd, rfl⟩⟩) | (go_at_call 33; (with_reducible refine (inst_within.calls a0_2 4 true _ A8.out).mono ?_); rintro e w' ⟨rfl, ⟨nd, rfl⟩⟩) | (go_at_call 33; (with_reducible refine (inst_within.calls a0_3 4 true _ A10.out).mono ?_); rintro e w' ⟨rfl, ⟨nd, rfl⟩⟩) | (go_at_call 33; (with_reducible refine (inst_within.calls a0_6 64 true _ A12.out).mono ?_); rintro e w' ⟨rfl, ⟨nd, rfl⟩⟩) | (go_at_call 33; (with_reducible refine (inst_within.calls a0_7 7 true _ A14.out).mono ?_); rintro e w' ⟨rfl, ⟨nd, rfl⟩⟩))
                    go_meet
                    case rel => exact ⟨_, (decide ((l0_5.length : Int) ≤ 4)), (by first | rfl | (simp; done) | (simp [*]; done)), H', ⟨by first | omega | exact Nat.le_refl _⟩, ⟨by (with_reducible repeat (first | refine blk_drewN ?_ _ | refine blk_drew ?_ | refine blk_alloc ?_ _)); exact BK121.out⟩, ⟨by repeat (first | (with_reducible first | exact HB.out | apply below_alloc | apply pw_below_drewN | apply below_drew1 | refine below_set ?_ GE121.out) | exact HB.out)⟩⟩
                  · rw [if_neg c16] at H
                    have c16b0 : decide ((l0_4.length : Int) ≤ 4) = false := decide_eq_false c16
                    have c16b1 : decide (l0_4.length ≤ 4) = false := decide_eq_false (by omega)
                    clear c16
                    have H' := Aside0.mk H
                    clear H
                    have hcz18_0 : w3.cell? ⟨gb121, 0, none⟩ = some (.slice A0_0 l0_0.length c0_0) := (blk_cell BK121.out 0).trans rfl
                    have hcz18_1 : w3.cell? ⟨gb121, 1, none⟩ = some (.int .i64 a0_1) := (blk_cell BK121.out 1).trans rfl
                    have hcz18_2 : w3.cell? ⟨gb121, 2, none⟩ = some (.int .i64 a0_2) := (blk_cell BK121.out 2).trans rfl
                    have hcz18_3 : w3.cell? ⟨gb121, 3, none⟩ = some (.int .i64 a0_3) := (blk_cell BK121.out 3).trans rfl
                    have hcz18_4 : w3.cell? ⟨gb121, 4, none⟩ = some (.slice A0_4 l0_4.length c0_4) := (blk_cell BK121.out 4).trans rfl
                    have hcz18_5 : w3.cell? ⟨gb121, 5, none⟩ = some (.slice A0_5 l0_5.length c0_5) := (blk_cell BK121.out 5).trans rfl
                    have hcz18_6 : w3.cell? ⟨gb121, 6, none⟩ = some (.int .i64 a0_6) := (blk_cell BK121.out 6).trans rfl
                    have hcz18_7 : w3.cell? ⟨gb121, 7, none⟩ = some (.int .i64 a0_7) := (blk_cell BK121.out 7).trans rfl
                    have hfz18_0 := blk_frozen BK121.out 0
                    have hfz18_1 := blk_frozen BK121.out 1
                    have hfz18_2 := blk_frozen BK121.out 2
                    have hfz18_3 := blk_frozen BK121.out 3
                    have hfz18_4 := blk_frozen BK121.out 4
                    have hfz18_5 := blk_frozen BK121.out 5
                    have hfz18_6 := blk_frozen BK121.out 6
                    have hfz18_7 := blk_frozen BK121.out 7
                    go_wp2_with (first | (go_at_call 33; (with_reducible refine (inst_within.calls a0_1 64 true _ A6.out).mono ?_); rintro e w' ⟨rfl, ⟨nd, rfl⟩⟩) | (go_at_call 33; (with_reducible refine (inst_within.calls a0_2 4 true _ A8.out).mono ?_); rintro e w' ⟨rfl, ⟨nd, rfl⟩⟩) | (go_at_call 33; (with_reducible refine (inst_within.calls a0_3 4 true _ A10.out).mono ?_); rintro e w' ⟨rfl, ⟨nd, rfl⟩⟩) | (go_at_call 33; (with_reducible refine (inst_within.calls a0_6 64 true _ A12.out).mono ?_); rintro e w' ⟨rfl, ⟨nd, rfl⟩⟩) | (go_at_call 33; (with_reducible refine (inst_within.calls a0_7 7 true _ A14.out).mono ?_); rintro e w' ⟨rfl, ⟨nd, rfl⟩⟩))
                    go_meet
                    case rel => exact ⟨_, (false), (by first | rfl | (simp; done) | (simp [*]; done)), H', ⟨by first | omega | exact Nat.le_refl _⟩, ⟨by (with_reducible repeat (first | refine blk_drewN ?_ _ | refine blk_drew ?_ | refine blk_alloc ?_ _)); exact BK121.out⟩, ⟨by repeat (first | (with_reducible first | exact HB.out | apply below_alloc | apply pw_below_drewN | apply below_drew1 | refine below_set ?_ GE121.out) | exact HB.out)⟩⟩
                · replace c15 := Bool.eq_false_iff.mpr c15
                  subst c15
                  have H1 : (inst_caps.j0 k false l0_0 a0_1 a0_2 a0_3 l0_4 l0_5 a0_6 a0_7) = some r := by rw [if_neg (show ¬ (false = true) by decide)] at H; exact H
                  clear H
                  have H := H1
                  clear H1
                  have H' := Aside0.mk H
                  clear H
                  have hcz19_0 : w3.cell? ⟨gb121, 0, none⟩ = some (.slice A0_0 l0_0.length c0_0) := (blk_cell BK121.out 0).trans rfl
                  have hcz19_1 : w3.cell? ⟨gb121, 1, none⟩ = some (.int .i64 a0_1) := (blk_cell BK121.out 1).trans rfl
                  have hcz19_2 : w3.cell? ⟨gb121, 2, none⟩ = some (.int .i64 a0_2) := (blk_cell BK121.out 2).trans rfl
                  have hcz19_3 : w3.cell? ⟨gb121, 3, none⟩ = some (.int .i64 a0_3) := (blk_cell BK121.out 3).trans rfl
                  have hcz19_4 : w3.cell? ⟨gb121, 4, none⟩ = some (.slice A0_4 l0_4.length c0_4) := (blk_cell BK121.out 4).trans rfl
                  have hcz19_5 : w3.cell? ⟨gb121, 5, none⟩ = some (.slice A0_5 l0_5.length c0_5) := (blk_cell BK121.out 5).trans rfl
                  have hcz19_6 : w3.cell? ⟨gb121, 6, none⟩ = some (.int .i64 a0_6) := (blk_cell BK121.out 6).trans rfl
                  have hcz19_7 : w3.cell? ⟨gb121, 7, none⟩ = some (.int .i64 a0_7) := (blk_cell BK121.out 7).trans rfl
                  have hfz19_0 := blk_frozen BK121.out 0
                  have hfz19_1 := blk_frozen BK121.out 1
                  have hfz19_2 := blk_frozen BK121.out 2
                  have hfz19_3 := blk_frozen BK121.out 3
                  have hfz19_4 := blk_frozen BK121.out 4
                  have hfz19_5 := blk_frozen BK121.out 5
                  have hfz19_6 := blk_frozen BK121.out 6
                  have hfz19_7 := blk_frozen BK121.out 7
                  go_wp2_with (first | (go_at_call 33; (with_reducible refine (inst_within.calls a0_1 64 true _ A6.out).mono ?_); rintro e w' ⟨rfl, ⟨nd, rfl⟩⟩) | (go_at_call 33; (with_reducible refine (inst_within.calls a0_2 4 true _ A8.out).mono ?_); rintro e w' ⟨rfl, ⟨nd, rfl⟩⟩) | (go_at_call 33; (with_reducible refine (inst_within.calls a0_3 4 true _ A10.out).mono ?_); rintro e w' ⟨rfl, ⟨nd, rfl⟩⟩) | (go_at_call 33; (with_reducible refine (inst_within.calls a0_6 64 true _ A12.out).mono ?_); rintro e w' ⟨rfl, ⟨nd, rfl⟩⟩) | (go_at_call 33; (with_reducible refine (inst_within.calls a0_7 7 false _ A14.out).mono ?_); rintro e w' ⟨rfl, ⟨nd, rfl⟩⟩))
                  go_meet
                  case rel => exact ⟨_, (false), (by first | rfl | (simp; done) | (simp [*]; done)), H', ⟨by first | omega | exact Nat.le_refl _⟩, ⟨by (with_reducible repeat (first | refine blk_drewN ?_ _ | refine blk_drew ?_ | refine blk_alloc ?_ _)); exact BK121.out⟩, ⟨by repeat (first | (with_reducible first | exact HB.out | apply below_alloc | apply pw_below_drewN | apply below_drew1 | refine below_set ?_ GE121.out) | exact HB.out)⟩⟩
              · replace c13 := Bool.eq_false_iff.mpr c13
                subst c13
                have H1 : (inst_caps.j0 k false l0_0 a0_1 a0_2 a0_3 l0_4 l0_5 a0_6 a0_7) = some r := by rw [if_neg (show ¬ (false = true) by decide)] at H; exact H
                clear H
                have H := H1
                clear H1
                have H' := Aside0.mk H
                clear H
                have hcz20_0 : w3.cell? ⟨gb121, 0, none⟩ = some (.slice A0_0 l0_0.length c0_0) := (blk_cell BK121.out 0).trans rfl
                have hcz20_1 : w3.cell? ⟨gb121, 1, none⟩ = some (.int .i64 a0_1) := (blk_cell BK121.out 1).trans rfl
                have hcz20_2 : w3.cell? ⟨gb121, 2, none⟩ = some (.int .i64 a0_2) := (blk_cell BK121.out 2).trans rfl
                have hcz20_3 : w3.cell? ⟨gb121, 3, none⟩ = some (.int .i64 a0_3) := (blk_cell BK121.out 3).trans rfl
                have hcz20_4 : w3.cell? ⟨gb121, 4, none⟩ = some (.slice A0_4 l0_4.length c0_4) := (blk_cell BK121.out 4).trans rfl
                have hcz20_5 : w3.cell? ⟨gb121, 5, none⟩ = some (.slice A0_5 l0_5.length c0_5) := (blk_cell BK121.out 5).trans rfl
                have hcz20_6 : w3.cell? ⟨gb121, 6, none⟩ = some (.int .i64 a0_6) := (blk_cell BK121.out 6).trans rfl
                have hcz20_7 : w3.cell? ⟨gb121, 7, none⟩ = some (.int .i64 a0_7) := (blk_cell BK121.out 7).trans rfl
                have hfz20_0 := blk_frozen BK121.out 0
                have hfz20_1 := blk_frozen BK121.out 1
                have hfz20_2 := blk_frozen BK121.out 2
                have hfz20_3 := blk_frozen BK121.out 3
                have hfz20_4 := blk_frozen BK121.out 4
                have hfz20_5 := blk_frozen BK121.out 5
                have hfz20_6 := blk_frozen BK121.out 6
                have hfz20_7 := blk_frozen BK121.out 7
                go_wp2_with (first | (go_at_call 33; (with_reducible refine (inst_within.calls a0_1 64 true _ A6.out).mono ?_); rintro e w' ⟨rfl, ⟨nd, rfl⟩⟩) | (go_at_call 33; (with_reducible refine (inst_within.calls a0_2 4 true _ A8.out).mono ?_); rintro e w' ⟨rfl, ⟨nd, rfl⟩⟩) | (go_at_call 33; (with_reducible refine (inst_within.calls a0_3 4 true _ A10.out).mono ?_); rintro e w' ⟨rfl, ⟨nd, rfl⟩⟩) | (go_at_call 33; (with_reducible refine (inst_within.calls a0_6 64 false _ A12.out).mono ?_); rintro e w' ⟨rfl, ⟨nd, rfl⟩⟩))
                go_meet
                case rel => exact ⟨_, (false), (by first | rfl | (simp; done) | (simp [*]; done)), H', ⟨by first | omega | exact Nat.le_refl _⟩, ⟨by (with_reducible repeat (first | refine blk_drewN ?_ _ | refine blk_drew ?_ | refine blk_alloc ?_ _)); exact BK121.out⟩, ⟨by repeat (first | (with_reducible first | exact HB.out | apply below_alloc | apply pw_below_drewN | apply below_drew1 | refine below_set ?_ GE121.out) | exact HB.out)⟩⟩
            · replace c11 := Bool.eq_false_iff.mpr c11
              subst c11
              have H1 : (inst_caps.j0 k false l0_0 a0_1 a0_2 a0_3 l0_4 l0_5 a0_6 a0_7) = some r := by rw [if_neg (show ¬ (false = true) by decide)] at H; exact H
              clear H
              have H := H1
              clear H1
              have H' := Aside0.mk H
              clear H
              have hcz21_0 : w3.cell? ⟨gb121, 0, none⟩ = some (.slice A0_0 l0_0.length c0_0) := (blk_cell BK121.out 0).trans rfl
              have hcz21_1 : w3.cell? ⟨gb121, 1, none⟩ = some (.int .i64 a0_1) := (blk_cell BK121.out 1).trans rfl
              have hcz21_2 : w3.cell? ⟨gb121, 2, none⟩ = some (.int .i64 a0_2) := (blk_cell BK121.out 2).trans rfl
              have hcz21_3 : w3.cell? ⟨gb121, 3, none⟩ = some (.int .i64 a0_3) := (blk_cell BK121.out 3).trans rfl
              have hcz21_4 : w3.cell? ⟨gb121, 4, none⟩ = some (.slice A0_4 l0_4.length c0_4) := (blk_cell BK121.out 4).trans rfl
              have hcz21_5 : w3.cell? ⟨gb121, 5, none⟩ = some (.slice A0_5 l0_5.length c0_5) := (blk_cell BK121.out 5).trans rfl
              have hcz21_6 : w3.cell? ⟨gb121, 6, none⟩ = some (.int .i64 a0_6) := (blk_cell BK121.out 6).trans rfl
              have hcz21_7 : w3.cell? ⟨gb121, 7, none⟩ = some (.int .i64 a0_7) := (blk_cell BK121.out 7).trans rfl
              have hfz21_0 := blk_frozen BK121.out 0
              have hfz21_1 := blk_frozen BK121.out 1
              have hfz21_2 := blk_frozen BK121.out 2
              have hfz21_3 := blk_frozen BK121.out 3
              have hfz21_4 := blk_frozen BK121.out 4
              have hfz21_5 := blk_frozen BK121.out 5
              have hfz21_6 := blk_frozen BK121.out 6
              have hfz21_7 := blk_frozen BK121.out 7
              go_wp2_with (first | (go_at_call 33; (with_reducible refine (inst_within.calls a0_1 64 true _ A6.out).mono ?_); rintro e w' ⟨rfl, ⟨nd, rfl⟩⟩) | (go_at_call 33; (with_reducible refine (inst_within.calls a0_2 4 true _ A8.out).mono ?_); rintro e w' ⟨rfl, ⟨nd, rfl⟩⟩) | (go_at_call 33; (with_reducible refine (inst_within.calls a0_3 4 false _ A10.out).mono ?_); rintro e w' ⟨rfl, ⟨nd, rfl⟩⟩))
              go_meet
              case rel => exact ⟨_, (false), (by first | rfl | (simp; done) | (simp [*]; done)), H', ⟨by first | omega | exact Nat.le_refl _⟩, ⟨by (with_reducible repeat (first | refine blk_drewN ?_ _ | refine blk_drew ?_ | refine blk_alloc ?_ _)); exact BK121.out⟩, ⟨by repeat (first | (with_reducible first | exact HB.out | apply below_alloc | apply pw_below_drewN | apply below_drew1 | refine below_set ?_ GE121.out) | exact HB.out)⟩⟩
          · replace c9 := Bool.eq_false_iff.mpr c9
            subst c9
            have H1 : (inst_caps.j0 k false l0_0 a0_1 a0_2 a0_3 l0_4 l0_5 a0_6 a0_7) = some r := by rw [if_neg (show ¬ (false = true) by decide)] at H; exact H
            clear H
            have H := H1
            clear H1
            have H' := Aside0.mk H
            clear H
            have hcz22_0 : w3.cell? ⟨gb121, 0, none⟩ = some (.slice A0_0 l0_0.length c0_0) := (blk_cell BK121.out 0).trans rfl
            have hcz22_1 : w3.cell? ⟨gb121, 1, none⟩ = some (.int .i64 a0_1) := (blk_cell BK121.out 1).trans rfl
            have hcz22_2 : w3.cell? ⟨gb121, 2, none⟩ = some (.int .i64 a0_2) := (blk_cell BK121.out 2).trans rfl
            have hcz22_3 : w3.cell? ⟨gb121, 3, none⟩ = some (.int .i64 a0_3) := (blk_cell BK121.out 3).trans rfl
            have hcz22_4 : w3.cell? ⟨gb121, 4, none⟩ = some (.slice A0_4 l0_4.length c0_4) := (blk_cell BK121.out 4).trans rfl
            have hcz22_5 : w3.cell? ⟨gb121, 5, none⟩ = some (.slice A0_5 l0_5.length c0_5) := (blk_cell BK121.out 5).trans rfl
            have hcz22_6 : w3.cell? ⟨gb121, 6, none⟩ = some (.int .i64 a0_6) := (blk_cell BK121.out 6).trans rfl
            have hcz22_7 : w3.cell? ⟨gb121, 7, none⟩ = some (.int .i64 a0_7) := (blk_cell BK121.out 7).trans rfl
            have hfz22_0 := blk_frozen BK121.out 0
            have hfz22_1 := blk_frozen BK121.out 1
            have hfz22_2 := blk_frozen BK121.out 2
            have hfz22_3 := blk_frozen BK121.out 3
            have hfz22_4 := blk_frozen BK121.out 4
            have hfz22_5 := blk_frozen BK121.out 5
            have hfz22_6 := blk_frozen BK121.out 6
            have hfz22_7 := blk_frozen BK121.out 7
            go_wp2_with (first | (go_at_call 33; (with_reducible refine (inst_within.calls a0_1 64 true _ A6.out).mono ?_); rintro e w' ⟨rfl, ⟨nd, rfl⟩⟩) | (go_at_call 33; (with_reducible refine (inst_within.calls a0_2 4 false _ A8.out).mono ?_); rintro e w' ⟨rfl, ⟨nd, rfl⟩⟩))
            go_meet
            case rel => exact ⟨_, (false), (by first | rfl | (simp; done) | (simp [*]; done)), H', ⟨by first | omega | exact Nat.le_refl _⟩, ⟨by (with_reducible repeat (first | refine blk_drewN ?_ _ | refine blk_drew ?_ | refine blk_alloc ?_ _)); exact BK121.out⟩, ⟨by repeat (first | (with_reducible first | exact HB.out | apply below_alloc | apply pw_below_drewN | apply below_drew1 | refine below_set ?_ GE121.out) | exact HB.out)⟩⟩
        · replace c7 := Bool.eq_false_iff.mpr c7
          subst c7
          have H1 : (inst_caps.j0 k false l0_0 a0_1 a0_2 a0_3 l0_4 l0_5 a0_6 a0_7) = some r := by rw [if_neg (show ¬ (false = true) by decide)] at H; exact H
          clear H
          have H := H1
          clear H1
          have H' := Aside0.mk H
          clear H
          have hcz23_0 : w3.cell? ⟨gb121, 0, none⟩ = some (.slice A0_0 l0_0.length c0_0) := (blk_cell BK121.out 0).trans rfl
          have hcz23_1 : w3.cell? ⟨gb121, 1, none⟩ = some (.int .i64 a0_1) := (blk_cell BK121.out 1).trans rfl
          have hcz23_2 : w3.cell? ⟨gb121, 2, none⟩ = some (.int .i64 a0_2) := (blk_cell BK121.out 2).trans rfl
          have hcz23_3 : w3.cell? ⟨gb121, 3, none⟩ = some (.int .i64 a0_3) := (blk_cell BK121.out 3).trans rfl
          have hcz23_4 : w3.cell? ⟨gb121, 4, none⟩ = some (.slice A0_4 l0_4.length c0_4) := (blk_cell BK121.out 4).trans rfl
          have hcz23_5 : w3.cell? ⟨gb121, 5, none⟩ = some (.slice A0_5 l0_5.length c0_5) := (blk_cell BK121.out 5).trans rfl
          have hcz23_6 : w3.cell? ⟨gb121, 6, none⟩ = some (.int .i64 a0_6) := (blk_cell BK121.out 6).trans rfl
          have hcz23_7 : w3.cell? ⟨gb121, 7, none⟩ = some (.int .i64 a0_7) := (blk_cell BK121.out 7).trans rfl
          have hfz23_0 := blk_frozen BK121.out 0
          have hfz23_1 := blk_frozen BK121.out 1
          have hfz23_2 := blk_frozen BK121.out 2
          have hfz23_3 := blk_frozen BK121.out 3
          have hfz23_4 := blk_frozen BK121.out 4
          have hfz23_5 := blk_frozen BK121.out 5
          have hfz23_6 := blk_frozen BK121.out 6
          have hfz23_7 := blk_frozen BK121.out 7
          go_wp2_with (first | (go_at_call 33; (with_reducible refine (inst_within.calls a0_1 64 false _ A6.out).mono ?_); rintro e w' ⟨rfl, ⟨nd, rfl⟩⟩))
          go_meet
          case rel => exact ⟨_, (false), (by first | rfl | (simp; done) | (simp [*]; done)), H', ⟨by first | omega | exact Nat.le_refl _⟩, ⟨by (with_reducible repeat (first | refine blk_drewN ?_ _ | refine blk_drew ?_ | refine blk_alloc ?_ _)); exact BK121.out⟩, ⟨by repeat (first | (with_reducible first | exact HB.out | apply below_alloc | apply pw_below_drewN | apply below_drew1 | refine below_set ?_ GE121.out) | exact HB.out)⟩⟩
      · rw [if_neg c5] at H
        have c5b0 : decide ((l0_0.length : Int) ≤ 8) = false := decide_eq_false c5
        have c5b1 : decide (l0_0.length ≤ 8) = false := decide_eq_false (by omega)
        clear c5
        have H' := Aside0.mk H
        clear H
        have hcz24_0 : w3.cell? ⟨gb121, 0, none⟩ = some (.slice A0_0 l0_0.length c0_0) := (blk_cell BK121.out 0).trans rfl
        have hcz24_1 : w3.cell? ⟨gb121, 1, none⟩ = some (.int .i64 a0_1) := (blk_cell BK121.out 1).trans rfl
        have hcz24_2 : w3.cell? ⟨gb121, 2, none⟩ = some (.int .i64 a0_2) := (blk_cell BK121.out 2).trans rfl
        have hcz24_3 : w3.cell? ⟨gb121, 3, none⟩ = some (.int .i64 a0_3) := (blk_cell BK121.out 3).trans rfl
        have hcz24_4 : w3.cell? ⟨gb121, 4, none⟩ = some (.slice A0_4 l0_4.length c0_4) := (blk_cell BK121.out 4).trans rfl
        have hcz24_5 : w3.cell? ⟨gb121, 5, none⟩ = some (.slice A0_5 l0_5.length c0_5) := (blk_cell BK121.out 5).trans rfl
        have hcz24_6 : w3.cell? ⟨gb121, 6, none⟩ = some (.int .i64 a0_6) := (blk_cell BK121.out 6).trans rfl
        have hcz24_7 : w3.cell? ⟨gb121, 7, none⟩ = some (.int .i64 a0_7) := (blk_cell BK121.out 7).trans rfl
        have hfz24_0 := blk_frozen BK121.out 0
        have hfz24_1 := blk_frozen BK121.out 1
        have hfz24_2 := blk_frozen BK121.out 2
        have hfz24_3 := blk_frozen BK121.out 3
        have hfz24_4 := blk_frozen BK121.out 4
        have hfz24_5 := blk_frozen BK121.out 5
        have hfz24_6 := blk_frozen BK121.out 6
        have hfz24_7 := blk_frozen BK121.out 7
        go_wp2
        go_meet
        case rel => exact ⟨_, (false), (by first | rfl | (simp; done) | (simp [*]; done)), H', ⟨by first | omega | exact Nat.le_refl _⟩, ⟨by (with_reducible repeat (first | refine blk_drewN ?_ _ | refine blk_drew ?_ | refine blk_alloc ?_ _)); exact BK121.out⟩, ⟨by repeat (first | (with_reducible first | exact HB.out | apply below_alloc | apply pw_below_drewN | apply below_drew1 | refine below_set ?_ GE121.out) | exact HB.out)⟩⟩
    · rw [if_neg c4] at H
      have c4b0 : decide (0 < (l0_0.length : Int)) = false := decide_eq_false c4
      have c4b1 : decide (0 < l0_0.length) = false := decide_eq_false (by omega)
      clear c4
      (first | rw [c4b0] | (simp only [i64_w, i32_w]; rw [c4b0]) | skip)
      have H' := Aside0.mk H
      clear H
      have hcz25_0 : w3.cell? ⟨gb121, 0, none⟩ = some (.slice A0_0 l0_0.length c0_0) := (blk_cell BK121.out 0).trans rfl
      have hcz25_1 : w3.cell? ⟨gb121, 1, none⟩ = some (.int .i64 a0_1) := (blk_cell BK121.out 1).trans rfl
      have hcz25_2 : w3.cell? ⟨gb121, 2, none⟩ = some (.int .i64 a0_2) := (blk_cell BK121.out 2).trans rfl
      have hcz25_3 : w3.cell? ⟨gb121, 3, none⟩ = some (.int .i64 a0_3) := (blk_cell BK121.out 3).trans rfl
      have hcz25_4 : w3.cell? ⟨gb121, 4, none⟩ = some (.slice A0_4 l0_4.length c0_4) := (blk_cell BK121.out 4).trans rfl
      have hcz25_5 : w3.cell? ⟨gb121, 5, none⟩ = some (.slice A0_5 l0_5.length c0_5) := (blk_cell BK121.out 5).trans rfl
      have hcz25_6 : w3.cell? ⟨gb121, 6, none⟩ = some (.int .i64 a0_6) := (blk_cell BK121.out 6).trans rfl
      have hcz25_7 : w3.cell? ⟨gb121, 7, none⟩ = some (.int .i64 a0_7) := (blk_cell BK121.out 7).trans rfl
      have hfz25_0 := blk_frozen BK121.out 0
      have hfz25_1 := blk_frozen BK121.out 1
      have hfz25_2 := blk_frozen BK121.out 2
      have hfz25_3 := blk_frozen BK121.out 3
      have hfz25_4 := blk_frozen BK121.out 4
      have hfz25_5 := blk_frozen BK121.out 5
      have hfz25_6 := blk_frozen BK121.out 6
      have hfz25_7 := blk_frozen BK121.out 7
      go_wp2
      go_meet
      case rel => exact ⟨_, (false), (by first | rfl | (simp; done) | (simp [*]; done)), H', ⟨by first | omega | exact Nat.le_refl _⟩, ⟨by (with_reducible repeat (first | refine blk_drewN ?_ _ | refine blk_drew ?_ | refine blk_alloc ?_ _)); exact BK121.out⟩, ⟨by repeat (first | (with_reducible first | exact HB.out | apply below_alloc | apply pw_below_drewN | apply below_drew1 | refine below_set ?_ GE121.out) | exact HB.out)⟩⟩
  case rest =>
    clear HC2
    try clear c1
    try clear c2
    try clear p2
    try clear c4
    try clear c4b0
    try clear c4b1
    try clear c5
    try clear c5b0
    try clear c5b1
    try clear c7
    try clear c9
    try clear c11
    try clear c13
    try clear c15
    try clear c16
    try clear c16b0
    try clear c16b1
    try clear c24
    try clear hcz17_0
    try clear hcz17_1
    try clear hcz17_2
    try clear hcz17_3
    try clear hcz17_4
    try clear hcz17_5
    try clear hcz17_6
    try clear hcz17_7
    try clear hcz18_0
    try clear hcz18_1
    try clear hcz18_2
    try clear hcz18_3
    try clear hcz18_4
    try clear hcz18_5
    try clear hcz18_6
    try clear hcz18_7
    try clear hcz19_0
    try clear hcz19_1
    try clear hcz19_2
    try clear hcz19_3
    try clear hcz19_4
    try clear hcz19_5
    try clear hcz19_6
    try clear hcz19_7
    try clear hcz20_0
    try clear hcz20_1
    try clear hcz20_2
    try clear hcz20_3
    try clear hcz20_4
    try clear hcz20_5
    try clear hcz20_6
    try clear hcz20_7
    try clear hcz21_0
    try clear hcz21_1
    try clear hcz21_2
    try clear hcz21_3
    try clear hcz21_4
    try clear hcz21_5
    try clear hcz21_6
    try clear hcz21_7
    try clear hcz22_0
    try clear hcz22_1
    try clear hcz22_2
    try clear hcz22_3
    try clear hcz22_4
    try clear hcz22_5
    try clear hcz22_6
    try clear hcz22_7
    try clear hcz23_0
    try clear hcz23_1
    try clear hcz23_2
    try clear hcz23_3
    try clear hcz23_4
    try clear hcz23_5
    try clear hcz23_6
    try clear hcz23_7
    try clear hcz24_0
    try clear hcz24_1
    try clear hcz24_2
    try clear hcz24_3
    try clear hcz24_4
    try clear hcz24_5
    try clear hcz24_6
    try clear hcz24_7
    try clear hcz25_0
    try clear hcz25_1
    try clear hcz25_2
    try clear hcz25_3
    try clear hcz25_4
    try clear hcz25_5
    try clear hcz25_6
    try clear hcz25_7
    try clear hfz17_0
    try clear hfz17_1
    try clear hfz17_2
    try clear hfz17_3
    try clear hfz17_4
    try clear hfz17_5
    try clear hfz17_6
    try clear hfz17_7
    try clear hfz18_0
    try clear hfz18_1
    try clear hfz18_2
    try clear hfz18_3
    try clear hfz18_4
    try clear hfz18_5
    try clear hfz18_6
    try clear hfz18_7
    try clear hfz19_0
    try clear hfz19_1
    try clear hfz19_2
    try clear hfz19_3
    try clear hfz19_4
    try clear hfz19_5
    try clear hfz19_6
    try clear hfz19_7
    try clear hfz20_0
    try clear hfz20_1
    try clear hfz20_2
    try clear hfz20_3
    try clear hfz20_4
    try clear hfz20_5
    try clear hfz20_6
    try clear hfz20_7
    try clear hfz21_0
    try clear hfz21_1
    try clear hfz21_2
    try clear hfz21_3
    try clear hfz21_4
    try clear hfz21_5
    try clear hfz21_6
    try clear hfz21_7
    try clear hfz22_0
    try clear hfz22_1
    try clear hfz22_2
    try clear hfz22_3
    try clear hfz22_4
    try clear hfz22_5
    try clear hfz22_6
    try clear hfz22_7
    try clear hfz23_0
    try clear hfz23_1
    try clear hfz23_2
    try clear hfz23_3
    try clear hfz23_4
    try clear hfz23_5
    try clear hfz23_6
    try clear hfz23_7
    try clear hfz24_0
    try clear hfz24_1
    try clear hfz24_2
    try clear hfz24_3
    try clear hfz24_4
    try clear hfz24_5
    try clear hfz24_6
    try clear hfz24_7
    try clear hfz25_0
    try clear hfz25_1
    try clear hfz25_2
    try clear hfz25_3
    try clear hfz25_4
    try clear hfz25_5
    try clear hfz25_6
    try clear hfz25_7
    obtain ⟨kq, x3_1, rfl, HA, HJ1, BK121, HB⟩ := hcut
    cases kq with
    | zero => exact absurd HA.out (by simp [inst_caps.j0])
    | succ kj1 =>
      have H := HA.out
      clear HA
      simp only [inst_caps.j0] at H
      have H' := Aside0.mk H
      clear H
      have hcz26_0 : wc.cell? ⟨gb121, 0, none⟩ = some (.slice A0_0 l0_0.length c0_0) := (blk_cell BK121.out 0).trans rfl
      have hcz26_1 : wc.cell? ⟨gb121, 1, none⟩ = some (.int .i64 a0_1) := (blk_cell BK121.out 1).trans rfl
      have hcz26_2 : wc.cell? ⟨gb121, 2, none⟩ = some (.int .i64 a0_2) := (blk_cell BK121.out 2).trans rfl
      have hcz26_3 : wc.cell? ⟨gb121, 3, none⟩ = some (.int .i64 a0_3) := (blk_cell BK121.out 3).trans rfl
      have hcz26_4 : wc.cell? ⟨gb121, 4, none⟩ = some (.slice A0_4 l0_4.length c0_4) := (blk_cell BK121.out 4).trans rfl
      have hcz26_5 : wc.cell? ⟨gb121, 5, none⟩ = some (.slice A0_5 l0_5.length c0_5) := (blk_cell BK121.out 5).trans rfl
      have hcz26_6 : wc.cell? ⟨gb121, 6, none⟩ = some (.int .i64 a0_6) := (blk_cell BK121.out 6).trans rfl
      have hcz26_7 : wc.cell? ⟨gb121, 7, none⟩ = some (.int .i64 a0_7) := (blk_cell BK121.out 7).trans rfl
      have hfz26_0 := blk_frozen BK121.out 0
      have hfz26_1 := blk_frozen BK121.out 1
      have hfz26_2 := blk_frozen BK121.out 2
      have hfz26_3 := blk_frozen BK121.out 3
      have hfz26_4 := blk_frozen BK121.out 4
      have hfz26_5 := blk_frozen BK121.out 5
      have hfz26_6 := blk_frozen BK121.out 6
      have hfz26_7 := blk_frozen BK121.out 7
      go_wp2
      go_loopg [3, 60] kj1 (fun kq v3 v60 w' => ∃ (x3_2 : Bool) (x60_2 : Int), v3 = .bool x3_2 ∧ v60 = .int .i64 x60_2 ∧ Aside0 (inst_caps.l0 kq x3_2 l0_0 (l0_0.length : Int) x60_2 l0_0 a0_1 a0_2 a0_3 l0_4 l0_5 a0_6 a0_7 = some r) ∧ Aside0 (kq ≤ kj1) ∧ Aside0 (w'.heap[gb121]? = some (.cells #[(.slice A0_0 l0_0.length c0_0), .int .i64 a0_1, .int .i64 a0_2, .int .i64 a0_3, (.slice A0_4 l0_4.length c0_4), (.slice A0_5 l0_5.length c0_5), .int .i64 a0_6, .int .i64 a0_7] 25 (0, 0))) ∧ Aside0 (Below w.heap.size w w'))
      case atStart => exact ⟨(x3_1), (0), (by first | rfl | (simp; done) | (simp [*]; done)), (by first | rfl | (simp; done) | (simp [*]; done)), H', ⟨Nat.le_refl _⟩, ⟨by (with_reducible repeat (first | refine blk_drewN ?_ _ | refine blk_drew ?_ | refine blk_alloc ?_ _)); exact BK121.out⟩, ⟨by repeat (first | (with_reducible first | exact HB.out | apply below_alloc | apply pw_below_drewN | apply below_drew1 | refine below_set ?_ GE121.out) | exact HB.out)⟩⟩
      case round =>
        clear H'
        try clear c1
        try clear c2
        try clear p2
        try clear c4
        try clear c4b0
        try clear c4b1
        try clear c5
        try clear c5b0
        try clear c5b1
        try clear c7
        try clear c9
        try clear c11
        try clear c13
        try clear c15
        try clear c16
        try clear c16b0
        try clear c16b1
        try clear c24
        try clear hcz17_0
        try clear hcz17_1
        try clear hcz17_2
        try clear hcz17_3
        try clear hcz17_4
        try clear hcz17_5
        try clear hcz17_6
        try clear hcz17_7
        try clear hcz18_0
        try clear hcz18_1
        try clear hcz18_2
        try clear hcz18_3
        try clear hcz18_4
        try clear hcz18_5
        try clear hcz18_6
        try clear hcz18_7
        try clear hcz19_0
        try clear hcz19_1
        try clear hcz19_2
        try clear hcz19_3
        try clear hcz19_4
        try clear hcz19_5
        try clear hcz19_6
        try clear hcz19_7
        try clear hcz20_0
        try clear hcz20_1
        try clear hcz20_2
        try clear hcz20_3
        try clear hcz20_4
        try clear hcz20_5
        try clear hcz20_6
        try clear hcz20_7
        try clear hcz21_0
        try clear hcz21_1
        try clear hcz21_2
        try clear hcz21_3
        try clear hcz21_4
        try clear hcz21_5
        try clear hcz21_6
        try clear hcz21_7
        try clear hcz22_0
        try clear hcz22_1
        try clear hcz22_2
        try clear hcz22_3
        try clear hcz22_4
        try clear hcz22_5
        try clear hcz22_6
        try clear hcz22_7
        try clear hcz23_0
        try clear hcz23_1
        try clear hcz23_2
        try clear hcz23_3
        try clear hcz23_4
        try clear hcz23_5
        try clear hcz23_6
        try clear hcz23_7
        try clear hcz24_0
        try clear hcz24_1
        try clear hcz24_2
        try clear hcz24_3
        try clear hcz24_4
        try clear hcz24_5
        try clear hcz24_6
        try clear hcz24_7
        try clear hcz25_0
        try clear hcz25_1
        try clear hcz25_2
        try clear hcz25_3
        try clear hcz25_4
        try clear hcz25_5
        try clear hcz25_6
        try clear hcz25_7
        try clear hcz26_0
        try clear hcz26_1
        try clear hcz26_2
        try clear hcz26_3
        try clear hcz26_4
        try clear hcz26_5
        try clear hcz26_6
        try clear hcz26_7
        try clear hfz17_0
        try clear hfz17_1
        try clear hfz17_2
        try clear hfz17_3
        try clear hfz17_4
        try clear hfz17_5
        try clear hfz17_6
        try clear hfz17_7
        try clear hfz18_0
        try clear hfz18_1
        try clear hfz18_2
        try clear hfz18_3
        try clear hfz18_4
        try clear hfz18_5
        try clear hfz18_6
        try clear hfz18_7
        try clear hfz19_0
        try clear hfz19_1
        try clear hfz19_2
        try clear hfz19_3
        try clear hfz19_4
        try clear hfz19_5
        try clear hfz19_6
        try clear hfz19_7
        try clear hfz20_0
        try clear hfz20_1
        try clear hfz20_2
        try clear hfz20_3
        try clear hfz20_4
        try clear hfz20_5
        try clear hfz20_6
        try clear hfz20_7
        try clear hfz21_0
        try clear hfz21_1
        try clear hfz21_2
        try clear hfz21_3
        try clear hfz21_4
        try clear hfz21_5
        try clear hfz21_6
        try clear hfz21_7
        try clear hfz22_0
        try clear hfz22_1
        try clear hfz22_2
        try clear hfz22_3
        try clear hfz22_4
        try clear hfz22_5
        try clear hfz22_6
        try clear hfz22_7
        try clear hfz23_0
        try clear hfz23_1
        try clear hfz23_2
        try clear hfz23_3
        try clear hfz23_4
        try clear hfz23_5
        try clear hfz23_6
        try clear hfz23_7
        try clear hfz24_0
        try clear hfz24_1
        try clear hfz24_2
        try clear hfz24_3
        try clear hfz24_4
        try clear hfz24_5
        try clear hfz24_6
        try clear hfz24_7
        try clear hfz25_0
        try clear hfz25_1
        try clear hfz25_2
        try clear hfz25_3
        try clear hfz25_4
        try clear hfz25_5
        try clear hfz25_6
        try clear hfz25_7
        try clear hfz26_0
        try clear hfz26_1
        try clear hfz26_2
        try clear hfz26_3
        try clear hfz26_4
        try clear hfz26_5
        try clear hfz26_6
        try clear hfz26_7
        try clear p2
        obtain ⟨x3_2, x60_2, rfl, rfl, HA, HK2, BK121, HB⟩ := hrel
        cases gk with
        | zero => exact absurd HA.out (by simp [inst_caps.l0])
        | succ k2 =>
          have H := HA.out
          clear HA
          simp only [inst_caps.l0] at H
          by_cases c27 : x60_2 < (l0_0.length : Int)
          · rw [if_pos c27] at H
            have c27b0 : decide (x60_2 < (l0_0.length : Int)) = true := decide_eq_true c27
            clear c27
            by_cases c28 : 0 ≤ x60_2
            · rw [if_pos c28] at H
              have c28b0 : decide (0 ≤ x60_2) = true := decide_eq_true c28
              clear c28
              by_cases c29 : x60_2 < (l0_0.length : Int)
              · rw [if_pos c29] at H
                have c29b0 : decide (x60_2 < (l0_0.length : Int)) = true := decide_eq_true c29
                clear c29
                by_cases c30 : x3_2 = true
                · subst c30
                  have H1 : (inst_caps.l0 k2 (decide (((rd_L3 l0_0 x60_2).length : Int) ≤ 256)) l0_0 (l0_0.length : Int) (wrap64 (x60_2 + 1)) l0_0 a0_1 a0_2 a0_3 l0_4 l0_5 a0_6 a0_7) = some r := by rw [if_pos rfl] at H; exact H
                  clear H
                  have H := H1
                  clear H1
                  have H' := Aside0.mk H
                  clear H
                  have p127 : 0 ≤ (x60_2 : Int) := of_decide_eq_true (by first | (with_reducible assumption) | assumption)
                  have q127 : x60_2 < (l0_0.length : Int) := of_decide_eq_true (by first | (with_reducible assumption) | assumption)
                  obtain ⟨ad127, A127_0, c127_0, e127, hx127_0, hl127_0, hi127_0⟩ := at_L3 HR0_0.out x60_2 p127 q127
                  cases e127
                  replace hx127_0 := (HB.out.cell (World.block_lt_of_cell? w _ hx127_0)).trans hx127_0
                  have HR127_0 := Aside0.mk hi127_0
                  have HC127_0 := Aside0.mk hl127_0
                  clear hi127_0 hl127_0
                  replace p127 := eq_true p127
                  replace q127 := eq_true q127
                  go_wp2
                  go_roundg k2
                  case measure => have := HJ1.out; have := HK2.out; omega
                  case rel => exact ⟨(decide (((rd_L3 l0_0 x60_2).length : Int) ≤ 256)), (wrap64 (x60_2 + 1)), (by first | rfl | (simp; done) | (simp [*]; done)), (by first | rfl | (simp; done) | (simp [*]; done)), H', ⟨by have := HJ1.out; have := HK2.out; omega⟩, ⟨by (with_reducible repeat (first | refine blk_drewN ?_ _ | refine blk_drew ?_ | refine blk_alloc ?_ _)); exact BK121.out⟩, ⟨by repeat (first | (with_reducible first | exact HB.out | apply below_alloc | apply pw_below_drewN | apply below_drew1 | refine below_set ?_ GE121.out) | exact HB.out)⟩⟩
                · replace c30 := Bool.eq_false_iff.mpr c30
                  subst c30
                  have H1 : (inst_caps.l0 k2 false l0_0 (l0_0.length : Int) (wrap64 (x60_2 + 1)) l0_0 a0_1 a0_2 a0_3 l0_4 l0_5 a0_6 a0_7) = some r := by rw [if_neg (show ¬ (false = true) by decide)] at H; exact H
                  clear H
                  have H := H1
                  clear H1
                  have H' := Aside0.mk H
                  clear H
                  have p127 : 0 ≤ (x60_2 : Int) := of_decide_eq_true (by first | (with_reducible assumption) | assumption)
                  have q127 : x60_2 < (l0_0.length : Int) := of_decide_eq_true (by first | (with_reducible assumption) | assumption)
                  obtain ⟨ad127, A127_0, c127_0, e127, hx127_0, hl127_0, hi127_0⟩ := at_L3 HR0_0.out x60_2 p127 q127
                  cases e127
                  replace hx127_0 := (HB.out.cell (World.block_lt_of_cell? w _ hx127_0)).trans hx127_0
                  have HR127_0 := Aside0.mk hi127_0
                  have HC127_0 := Aside0.mk hl127_0
                  clear hi127_0 hl127_0
                  replace p127 := eq_true p127
                  replace q127 := eq_true q127
                  go_wp2
                  go_roundg k2
                  case measure => have := HJ1.out; have := HK2.out; omega
                  case rel => exact ⟨(false), (wrap64 (x60_2 + 1)), (by first | rfl | (simp; done) | (simp [*]; done)), (by first | rfl | (simp; done) | (simp [*]; done)), H', ⟨by have := HJ1.out; have := HK2.out; omega⟩, ⟨by (with_reducible repeat (first | refine blk_drewN ?_ _ | refine blk_drew ?_ | refine blk_alloc ?_ _)); exact BK121.out⟩, ⟨by repeat (first | (with_reducible first | exact HB.out | apply below_alloc | apply pw_below_drewN | apply below_drew1 | refine below_set ?_ GE121.out) | exact HB.out)⟩⟩
              · rw [if_neg c29] at H
                exact absurd H (by simp)
            · rw [if_neg c28] at H
              exact absurd H (by simp)
          · rw [if_neg c27] at H
            have c27b0 : decide (x60_2 < (l0_0.length : Int)) = false := decide_eq_false c27
            clear c27
            have H' := Aside0.mk H
            clear H
            have hcz31_0 : wr.cell? ⟨gb121, 0, none⟩ = some (.slice A0_0 l0_0.length c0_0) := (blk_cell BK121.out 0).trans rfl
            have hcz31_1 : wr.cell? ⟨gb121, 1, none⟩ = some (.int .i64 a0_1) := (blk_cell BK121.out 1).trans rfl
            have hcz31_2 : wr.cell? ⟨gb121, 2, none⟩ = some (.int .i64 a0_2) := (blk_cell BK121.out 2).trans rfl
            have hcz31_3 : wr.cell? ⟨gb121, 3, none⟩ = some (.int .i64 a0_3) := (blk_cell BK121.out 3).trans rfl
            have hcz31_4 : wr.cell? ⟨gb121, 4, none⟩ = some (.slice A0_4 l0_4.length c0_4) := (blk_cell BK121.out 4).trans rfl
            have hcz31_5 : wr.cell? ⟨gb121, 5, none⟩ = some (.slice A0_5 l0_5.length c0_5) := (blk_cell BK121.out 5).trans rfl
            have hcz31_6 : wr.cell? ⟨gb121, 6, none⟩ = some (.int .i64 a0_6) := (blk_cell BK121.out 6).trans rfl
            have hcz31_7 : wr.cell? ⟨gb121, 7, none⟩ = some (.int .i64 a0_7) := (blk_cell BK121.out 7).trans rfl
            have hfz31_0 := blk_frozen BK121.out 0
            have hfz31_1 := blk_frozen BK121.out 1
            have hfz31_2 := blk_frozen BK121.out 2
            have hfz31_3 := blk_frozen BK121.out 3
            have hfz31_4 := blk_frozen BK121.out 4
            have hfz31_5 := blk_frozen BK121.out 5
            have hfz31_6 := blk_frozen BK121.out 6
            have hfz31_7 := blk_frozen BK121.out 7
            go_wp2
            go_loopg [3, 74] k2 (fun kq v3 v74 w' => ∃ (x3_3 : Bool) (x74_3 : Int), v3 = .bool x3_3 ∧ v74 = .int .i64 x74_3 ∧ Aside0 (inst_caps.l1 kq x3_3 l0_4 (l0_4.length : Int) x74_3 l0_0 a0_1 a0_2 a0_3 l0_4 l0_5 a0_6 a0_7 = some r) ∧ Aside0 (kq ≤ k2) ∧ Aside0 (w'.heap[gb121]? = some (.cells #[(.slice A0_0 l0_0.length c0_0), .int .i64 a0_1, .int .i64 a0_2, .int .i64 a0_3, (.slice A0_4 l0_4.length c0_4), (.slice A0_5 l0_5.length c0_5), .int .i64 a0_6, .int .i64 a0_7] 25 (0, 0))) ∧ Aside0 (Below w.heap.size w w'))
            case atStart => exact ⟨(x3_2), (0), (by first | rfl | (simp; done) | (simp [*]; done)), (by first | rfl | (simp; done) | (simp [*]; done)), H', ⟨Nat.le_refl _⟩, ⟨by (with_reducible repeat (first | refine blk_drewN ?_ _ | refine blk_drew ?_ | refine blk_alloc ?_ _)); exact BK121.out⟩, ⟨by repeat (first | (with_reducible first | exact HB.out | apply below_alloc | apply pw_below_drewN | apply below_drew1 | refine below_set ?_ GE121.out) | exact HB.out)⟩⟩
            case round =>
              clear H'
              try clear c1
              try clear p1
              try clear q1
              try clear hx1
              try clear c2
              try clear p2
              try clear c3
              try clear c4
              try clear c4b0
              try clear c4b1
              try clear c5
              try clear c5b0
              try clear c5b1
              try clear p6
              try clear c7
              try clear c9
              try clear c11
              try clear c12
              try clear p12
              try clear q12
              try clear hx12
              try clear c13
              try clear c15
              try clear c16
              try clear c16b0
              try clear c16b1
              try clear c24
              try clear c27
              try clear c27b0
              try clear c28
              try clear c28b0
              try clear c29
              try clear c29b0
              try clear c30
              try clear hcz17_0
              try clear hcz17_1
              try clear hcz17_2
              try clear hcz17_3
              try clear hcz17_4
              try clear hcz17_5
              try clear hcz17_6
              try clear hcz17_7
              try clear hcz18_0
              try clear hcz18_1
              try clear hcz18_2
              try clear hcz18_3
              try clear hcz18_4
              try clear hcz18_5
              try clear hcz18_6
              try clear hcz18_7
              try clear hcz19_0
              try clear hcz19_1
              try clear hcz19_2
              try clear hcz19_3
              try clear hcz19_4
              try clear hcz19_5
              try clear hcz19_6
              try clear hcz19_7
              try clear hcz20_0
              try clear hcz20_1
              try clear hcz20_2
              try clear hcz20_3
              try clear hcz20_4
              try clear hcz20_5
              try clear hcz20_6
              try clear hcz20_7
              try clear hcz21_0
              try clear hcz21_1
              try clear hcz21_2
              try clear hcz21_3
              try clear hcz21_4
              try clear hcz21_5
              try clear hcz21_6
              try clear hcz21_7
              try clear hcz22_0
              try clear hcz22_1
              try clear hcz22_2
              try clear hcz22_3
              try clear hcz22_4
              try clear hcz22_5
              try clear hcz22_6
              try clear hcz22_7
              try clear hcz23_0
              try clear hcz23_1
              try clear hcz23_2
              try clear hcz23_3
              try clear hcz23_4
              try clear hcz23_5
              try clear hcz23_6
              try clear hcz23_7
              try clear hcz24_0
              try clear hcz24_1
              try clear hcz24_2
              try clear hcz24_3
              try clear hcz24_4
              try clear hcz24_5
              try clear hcz24_6
              try clear hcz24_7
              try clear hcz25_0
              try clear hcz25_1
              try clear hcz25_2
              try clear hcz25_3
              try clear hcz25_4
              try clear hcz25_5
              try clear hcz25_6
              try clear hcz25_7
              try clear hcz26_0
              try clear hcz26_1
              try clear hcz26_2
              try clear hcz26_3
              try clear hcz26_4
              try clear hcz26_5
              try clear hcz26_6
              try clear hcz26_7
              try clear hcz31_0
              try clear hcz31_1
              try clear hcz31_2
              try clear hcz31_3
              try clear hcz31_4
              try clear hcz31_5
              try clear hcz31_6
              try clear hcz31_7
              try clear hfz17_0
              try clear hfz17_1
              try clear hfz17_2
              try clear hfz17_3
              try clear hfz17_4
              try clear hfz17_5
              try clear hfz17_6
              try clear hfz17_7
              try clear hfz18_0
              try clear hfz18_1
              try clear hfz18_2
              try clear hfz18_3
              try clear hfz18_4
              try clear hfz18_5
              try clear hfz18_6
              try clear hfz18_7
              try clear hfz19_0
              try clear hfz19_1
              try clear hfz19_2
              try clear hfz19_3
              try clear hfz19_4
              try clear hfz19_5
              try clear hfz19_6
              try clear hfz19_7
              try clear hfz20_0
              try clear hfz20_1
              try clear hfz20_2
              try clear hfz20_3
              try clear hfz20_4
              try clear hfz20_5
              try clear hfz20_6
              try clear hfz20_7
              try clear hfz21_0
              try clear hfz21_1
              try clear hfz21_2
              try clear hfz21_3
              try clear hfz21_4
              try clear hfz21_5
              try clear hfz21_6
              try clear hfz21_7
              try clear hfz22_0
              try clear hfz22_1
              try clear hfz22_2
              try clear hfz22_3
              try clear hfz22_4
              try clear hfz22_5
              try clear hfz22_6
              try clear hfz22_7
              try clear hfz23_0
              try clear hfz23_1
              try clear hfz23_2
              try clear hfz23_3
              try clear hfz23_4
              try clear hfz23_5
              try clear hfz23_6
              try clear hfz23_7
              try clear hfz24_0
              try clear hfz24_1
              try clear hfz24_2
              try clear hfz24_3
              try clear hfz24_4
              try clear hfz24_5
              try clear hfz24_6
              try clear hfz24_7
              try clear hfz25_0
              try clear hfz25_1
              try clear hfz25_2
              try clear hfz25_3
              try clear hfz25_4
              try clear hfz25_5
              try clear hfz25_6
              try clear hfz25_7
              try clear hfz26_0
              try clear hfz26_1
              try clear hfz26_2
              try clear hfz26_3
              try clear hfz26_4
              try clear hfz26_5
              try clear hfz26_6
              try clear hfz26_7
              try clear hfz31_0
              try clear hfz31_1
              try clear hfz31_2
              try clear hfz31_3
              try clear hfz31_4
              try clear hfz31_5
              try clear hfz31_6
              try clear hfz31_7
              try clear hx127_0
              try clear p127
              try clear p2
              try clear q127
              obtain ⟨x3_3, x74_3, rfl, rfl, HA, HK3, BK121, HB⟩ := hrel
              cases gk with
              | zero => exact absurd HA.out (by simp [inst_caps.l1])
              | succ k3 =>
                have H := HA.out
                clear HA
                simp only [inst_caps.l1] at H
                by_cases c32 : x74_3 < (l0_4.length : Int)
                · rw [if_pos c32] at H
                  have c32b0 : decide (x74_3 < (l0_4.length : Int)) = true := decide_eq_true c32
                  clear c32
                  by_cases c33 : 0 ≤ x74_3
                  · rw [if_pos c33] at H
                    have c33b0 : decide (0 ≤ x74_3) = true := decide_eq_true c33
                    clear c33
                    by_cases c34 : x74_3 < (l0_4.length : Int)
                    · rw [if_pos c34] at H
                      have c34b0 : decide (x74_3 < (l0_4.length : Int)) = true := decide_eq_true c34
                      clear c34
                      by_cases c35 : x3_3 = true
                      · subst c35
                        have H1 : ((inst_within.f (rd l0_4 x74_3) 1048576).bind fun t129 => (inst_caps.l1 k3 t129 l0_4 (l0_4.length : Int) (wrap64 (x74_3 + 1)) l0_0 a0_1 a0_2 a0_3 l0_4 l0_5 a0_6 a0_7)) = some r := by rw [if_pos rfl] at H; exact H
                        clear H
                        have H := H1
                        clear H1
                        replace H := Option.bind_eq_some_iff.mp H
                        obtain ⟨t129, A360, H⟩ := H
                        replace H : (inst_caps.l1 k3 t129 l0_4 (l0_4.length : Int) (wrap64 (x74_3 + 1)) l0_0 a0_1 a0_2 a0_3 l0_4 l0_5 a0_6 a0_7) = some r := H
                        have A36 := Aside0.mk A360
                        clear A360
                        have H' := Aside0.mk H
                        clear H
                        have p128 : 0 ≤ (x74_3 : Int) := of_decide_eq_true (by first | (with_reducible assumption) | assumption)
                        have q128 : x74_3 < (l0_4.length : Int) := of_decide_eq_true (by first | (with_reducible assumption) | assumption)
                        obtain ⟨ad128, e128, hx128_0⟩ := Kd.at_int HR0_4.out x74_3 p128 q128
                        cases e128
                        replace hx128_0 := (HB.out.cell (World.block_lt_of_cell? w _ hx128_0)).trans hx128_0
                        replace p128 := eq_true p128
                        replace q128 := eq_true q128
                        go_wp2_with (first | (go_at_call 33; (with_reducible refine (inst_within.calls (rd l0_4 x74_3) 1048576 t129 _ A36.out).mono ?_); rintro e w' ⟨rfl, ⟨nd, rfl⟩⟩))
                        go_roundg k3
                        case measure => have := HJ1.out; have := HK2.out; have := HK3.out; omega
                        case rel => exact ⟨(t129), (wrap64 (x74_3 + 1)), (by first | rfl | (simp; done) | (simp [*]; done)), (by first | rfl | (simp; done) | (simp [*]; done)), H', ⟨by have := HJ1.out; have := HK2.out; have := HK3.out; omega⟩, ⟨by (with_reducible repeat (first | refine blk_drewN ?_ _ | refine blk_drew ?_ | refine blk_alloc ?_ _)); exact BK121.out⟩, ⟨by repeat (first | (with_reducible first | exact HB.out | apply below_alloc | apply pw_below_drewN | apply below_drew1 | refine below_set ?_ GE121.out) | exact HB.out)⟩⟩
                      · replace c35 := Bool.eq_false_iff.mpr c35
                        subst c35
                        have H1 : (inst_caps.l1 k3 false l0_4 (l0_4.length : Int) (wrap64 (x74_3 + 1)) l0_0 a0_1 a0_2 a0_3 l0_4 l0_5 a0_6 a0_7) = some r := by rw [if_neg (show ¬ (false = true) by decide)] at H; exact H
                        clear H
                        have H := H1
                        clear H1
                        have H' := Aside0.mk H
                        clear H
                        have p128 : 0 ≤ (x74_3 : Int) := of_decide_eq_true (by first | (with_reducible assumption) | assumption)
                        have q128 : x74_3 < (l0_4.length : Int) := of_decide_eq_true (by first | (with_reducible assumption) | assumption)
                        obtain ⟨ad128, e128, hx128_0⟩ := Kd.at_int HR0_4.out x74_3 p128 q128
                        cases e128
                        replace hx128_0 := (HB.out.cell (World.block_lt_of_cell? w _ hx128_0)).trans hx128_0
                        replace p128 := eq_true p128
                        replace q128 := eq_true q128
                        go_wp2
                        go_roundg k3
                        case measure => have := HJ1.out; have := HK2.out; have := HK3.out; omega
                        case rel => exact ⟨(false), (wrap64 (x74_3 + 1)), (by first | rfl | (simp; done) | (simp [*]; done)), (by first | rfl | (simp; done) | (simp [*]; done)), H', ⟨by have := HJ1.out; have := HK2.out; have := HK3.out; omega⟩, ⟨by (with_reducible repeat (first | refine blk_drewN ?_ _ | refine blk_drew ?_ | refine blk_alloc ?_ _)); exact BK121.out⟩, ⟨by repeat (first | (with_reducible first | exact HB.out | apply below_alloc | apply pw_below_drewN | apply below_drew1 | refine below_set ?_ GE121.out) | exact HB.out)⟩⟩
                    · rw [if_neg c34] at H
                      exact absurd H (by simp)
                  · rw [if_neg c33] at H
                    exact absurd H (by simp)
                · rw [if_neg c32] at H
                  have c32b0 : decide (x74_3 < (l0_4.length : Int)) = false := decide_eq_false c32
                  clear c32
                  have H' := Aside0.mk H
                  clear H
                  have hcz37_0 : wr.cell? ⟨gb121, 0, none⟩ = some (.slice A0_0 l0_0.length c0_0) := (blk_cell BK121.out 0).trans rfl
                  have hcz37_1 : wr.cell? ⟨gb121, 1, none⟩ = some (.int .i64 a0_1) := (blk_cell BK121.out 1).trans rfl
                  have hcz37_2 : wr.cell? ⟨gb121, 2, none⟩ = some (.int .i64 a0_2) := (blk_cell BK121.out 2).trans rfl
                  have hcz37_3 : wr.cell? ⟨gb121, 3, none⟩ = some (.int .i64 a0_3) := (blk_cell BK121.out 3).trans rfl
                  have hcz37_4 : wr.cell? ⟨gb121, 4, none⟩ = some (.slice A0_4 l0_4.length c0_4) := (blk_cell BK121.out 4).trans rfl
                  have hcz37_5 : wr.cell? ⟨gb121, 5, none⟩ = some (.slice A0_5 l0_5.length c0_5) := (blk_cell BK121.out 5).trans rfl
                  have hcz37_6 : wr.cell? ⟨gb121, 6, none⟩ = some (.int .i64 a0_6) := (blk_cell BK121.out 6).trans rfl
                  have hcz37_7 : wr.cell? ⟨gb121, 7, none⟩ = some (.int .i64 a0_7) := (blk_cell BK121.out 7).trans rfl
                  have hfz37_0 := blk_frozen BK121.out 0
                  have hfz37_1 := blk_frozen BK121.out 1
                  have hfz37_2 := blk_frozen BK121.out 2
                  have hfz37_3 := blk_frozen BK121.out 3
                  have hfz37_4 := blk_frozen BK121.out 4
                  have hfz37_5 := blk_frozen BK121.out 5
                  have hfz37_6 := blk_frozen BK121.out 6
                  have hfz37_7 := blk_frozen BK121.out 7
                  go_wp2
                  go_loopg [3, 87] k3 (fun kq v3 v87 w' => ∃ (x3_4 : Bool) (x87_4 : Int), v3 = .bool x3_4 ∧ v87 = .int .i64 x87_4 ∧ Aside0 (inst_caps.l2 kq x3_4 l0_5 (l0_5.length : Int) x87_4 = some r) ∧ Aside0 (kq ≤ k3) ∧ Aside0 (w'.heap[gb121]? = some (.cells #[(.slice A0_0 l0_0.length c0_0), .int .i64 a0_1, .int .i64 a0_2, .int .i64 a0_3, (.slice A0_4 l0_4.length c0_4), (.slice A0_5 l0_5.length c0_5), .int .i64 a0_6, .int .i64 a0_7] 25 (0, 0))) ∧ Aside0 (Below w.heap.size w w'))
                  case atStart => exact ⟨(x3_3), (0), (by first | rfl | (simp; done) | (simp [*]; done)), (by first | rfl | (simp; done) | (simp [*]; done)), H', ⟨Nat.le_refl _⟩, ⟨by (with_reducible repeat (first | refine blk_drewN ?_ _ | refine blk_drew ?_ | refine blk_alloc ?_ _)); exact BK121.out⟩, ⟨by repeat (first | (with_reducible first | exact HB.out | apply below_alloc | apply pw_below_drewN | apply below_drew1 | refine below_set ?_ GE121.out) | exact HB.out)⟩⟩
                  case round =>
                    clear H'
                    try clear c1
                    try clear p1
                    try clear q1
                    try clear hx1
                    try clear c2
                    try clear p2
                    try clear c3
                    try clear c4
                    try clear c4b0
                    try clear c4b1
                    try clear c5
                    try clear c5b0
                    try clear c5b1
                    try clear p6
                    try clear c7
                    try clear c9
                    try clear c11
                    try clear c12
                    try clear p12
                    try clear q12
                    try clear hx12
                    try clear c13
                    try clear c15
                    try clear c16
                    try clear c16b0
                    try clear c16b1
                    try clear c24
                    try clear c27
                    try clear c27b0
                    try clear c28
                    try clear c28b0
                    try clear c29
                    try clear c29b0
                    try clear c30
                    try clear c32
                    try clear c32b0
                    try clear c33
                    try clear c33b0
                    try clear c34
                    try clear c34b0
                    try clear c35
                    try clear hcz17_0
                    try clear hcz17_1
                    try clear hcz17_2
                    try clear hcz17_3
                    try clear hcz17_4
                    try clear hcz17_5
                    try clear hcz17_6
                    try clear hcz17_7
                    try clear hcz18_0
                    try clear hcz18_1
                    try clear hcz18_2
                    try clear hcz18_3
                    try clear hcz18_4
                    try clear hcz18_5
                    try clear hcz18_6
                    try clear hcz18_7
                    try clear hcz19_0
                    try clear hcz19_1
                    try clear hcz19_2
                    try clear hcz19_3
                    try clear hcz19_4
                    try clear hcz19_5
                    try clear hcz19_6
                    try clear hcz19_7
                    try clear hcz20_0
                    try clear hcz20_1
                    try clear hcz20_2
                    try clear hcz20_3
                    try clear hcz20_4
                    try clear hcz20_5
                    try clear hcz20_6
                    try clear hcz20_7
                    try clear hcz21_0
                    try clear hcz21_1
                    try clear hcz21_2
                    try clear hcz21_3
                    try clear hcz21_4
                    try clear hcz21_5
                    try clear hcz21_6
                    try clear hcz21_7
                    try clear hcz22_0
                    try clear hcz22_1
                    try clear hcz22_2
                    try clear hcz22_3
                    try clear hcz22_4
                    try clear hcz22_5
                    try clear hcz22_6
                    try clear hcz22_7
                    try clear hcz23_0
                    try clear hcz23_1
                    try clear hcz23_2
                    try clear hcz23_3
                    try clear hcz23_4
                    try clear hcz23_5
                    try clear hcz23_6
                    try clear hcz23_7
                    try clear hcz24_0
                    try clear hcz24_1
                    try clear hcz24_2
                    try clear hcz24_3
                    try clear hcz24_4
                    try clear hcz24_5
                    try clear hcz24_6
                    try clear hcz24_7
                    try clear hcz25_0
                    try clear hcz25_1
                    try clear hcz25_2
                    try clear hcz25_3
                    try clear hcz25_4
                    try clear hcz25_5
                    try clear hcz25_6
                    try clear hcz25_7
                    try clear hcz26_0
                    try clear hcz26_1
                    try clear hcz26_2
                    try clear hcz26_3
                    try clear hcz26_4
                    try clear hcz26_5
                    try clear hcz26_6
                    try clear hcz26_7
                    try clear hcz31_0
                    try clear hcz31_1
                    try clear hcz31_2
                    try clear hcz31_3
                    try clear hcz31_4
                    try clear hcz31_5
                    try clear hcz31_6
                    try clear hcz31_7
                    try clear hcz37_0
                    try clear hcz37_1
                    try clear hcz37_2
                    try clear hcz37_3
                    try clear hcz37_4
                    try clear hcz37_5
                    try clear hcz37_6
                    try clear hcz37_7
                    try clear hfz17_0
                    try clear hfz17_1
                    try clear hfz17_2
                    try clear hfz17_3
                    try clear hfz17_4
                    try clear hfz17_5
                    try clear hfz17_6
                    try clear hfz17_7
                    try clear hfz18_0
                    try clear hfz18_1
                    try clear hfz18_2
                    try clear hfz18_3
                    try clear hfz18_4
                    try clear hfz18_5
                    try clear hfz18_6
                    try clear hfz18_7
                    try clear hfz19_0
                    try clear hfz19_1
                    try clear hfz19_2
                    try clear hfz19_3
                    try clear hfz19_4
                    try clear hfz19_5
                    try clear hfz19_6
                    try clear hfz19_7
                    try clear hfz20_0
                    try clear hfz20_1
                    try clear hfz20_2
                    try clear hfz20_3
                    try clear hfz20_4
                    try clear hfz20_5
                    try clear hfz20_6
                    try clear hfz20_7
                    try clear hfz21_0
                    try clear hfz21_1
                    try clear hfz21_2
                    try clear hfz21_3
                    try clear hfz21_4
                    try clear hfz21_5
                    try clear hfz21_6
                    try clear hfz21_7
                    try clear hfz22_0
                    try clear hfz22_1
                    try clear hfz22_2
                    try clear hfz22_3
                    try clear hfz22_4
                    try clear hfz22_5
                    try clear hfz22_6
                    try clear hfz22_7
                    try clear hfz23_0
                    try clear hfz23_1
                    try clear hfz23_2
                    try clear hfz23_3
                    try clear hfz23_4
                    try clear hfz23_5
                    try clear hfz23_6
                    try clear hfz23_7
                    try clear hfz24_0
                    try clear hfz24_1
                    try clear hfz24_2
                    try clear hfz24_3
                    try clear hfz24_4
                    try clear hfz24_5
                    try clear hfz24_6
                    try clear hfz24_7
                    try clear hfz25_0
                    try clear hfz25_1
                    try clear hfz25_2
                    try clear hfz25_3
                    try clear hfz25_4
                    try clear hfz25_5
                    try clear hfz25_6
                    try clear hfz25_7
                    try clear hfz26_0
                    try clear hfz26_1
                    try clear hfz26_2
                    try clear hfz26_3
                    try clear hfz26_4
                    try clear hfz26_5
                    try clear hfz26_6
                    try clear hfz26_7
                    try clear hfz31_0
                    try clear hfz31_1
                    try clear hfz31_2
                    try clear hfz31_3
                    try clear hfz31_4
                    try clear hfz31_5
                    try clear hfz31_6
                    try clear hfz31_7
                    try clear hfz37_0
                    try clear hfz37_1
                    try clear hfz37_2
                    try clear hfz37_3
                    try clear hfz37_4
                    try clear hfz37_5
                    try clear hfz37_6
                    try clear hfz37_7
                    try clear hx127_0
                    try clear hx128_0
                    try clear p1
                    try clear p12
                    try clear p127
                    try clear p128
                    try clear p2
                    try clear p6
                    try clear q1
                    try clear q12
                    try clear q127
                    try clear q128
                    obtain ⟨x3_4, x87_4, rfl, rfl, HA, HK4, BK121, HB⟩ := hrel
                    cases gk with
                    | zero => exact absurd HA.out (by simp [inst_caps.l2])
                    | succ k4 =>
                      have H := HA.out
                      clear HA
                      simp only [inst_caps.l2] at H
                      by_cases c38 : x87_4 < (l0_5.length : Int)
                      · rw [if_pos c38] at H
                        have c38b0 : decide (x87_4 < (l0_5.length : Int)) = true := decide_eq_true c38
                        clear c38
                        by_cases c39 : 0 ≤ x87_4
                        · rw [if_pos c39] at H
                          have c39b0 : decide (0 ≤ x87_4) = true := decide_eq_true c39
                          clear c39
                          by_cases c40 : x87_4 < (l0_5.length : Int)
                          · rw [if_pos c40] at H
                            have c40b0 : decide (x87_4 < (l0_5.length : Int)) = true := decide_eq_true c40
                            clear c40
                            by_cases c41 : x3_4 = true
                            · subst c41
                              have H1 : (if (rd l0_5 x87_4) > 0 then ((inst_within.f (rd l0_5 x87_4) 8).bind fun t131 => (inst_caps.l2 k4 t131 l0_5 (l0_5.length : Int) (wrap64 (x87_4 + 1)))) else (inst_caps.l2 k4 false l0_5 (l0_5.length : Int) (wrap64 (x87_4 + 1)))) = some r := by rw [if_pos rfl] at H; exact H
                              clear H
                              have H := H1
                              clear H1
                              by_cases c42 : (rd l0_5 x87_4) > 0
                              · rw [if_pos c42] at H
                                have c42b0 : decide (0 < (rd l0_5 x87_4)) = true := decide_eq_true c42
                                clear c42
                                replace H := Option.bind_eq_some_iff.mp H
                                obtain ⟨t131, A430, H⟩ := H
                                replace H : (inst_caps.l2 k4 t131 l0_5 (l0_5.length : Int) (wrap64 (x87_4 + 1))) = some r := H
                                have A43 := Aside0.mk A430
                                clear A430
                                have H' := Aside0.mk H
                                clear H
                                have p130 : 0 ≤ (x87_4 : Int) := of_decide_eq_true (by first | (with_reducible assumption) | assumption)
                                have q130 : x87_4 < (l0_5.length : Int) := of_decide_eq_true (by first | (with_reducible assumption) | assumption)
                                obtain ⟨ad130, e130, hx130_0⟩ := Kd.at_int HR0_5.out x87_4 p130 q130
                                cases e130
                                replace hx130_0 := (HB.out.cell (World.block_lt_of_cell? w _ hx130_0)).trans hx130_0
                                replace p130 := eq_true p130
                                replace q130 := eq_true q130
                                go_wp2_with (first | (go_at_call 33; (with_reducible refine (inst_within.calls (rd l0_5 x87_4) 8 t131 _ A43.out).mono ?_); rintro e w' ⟨rfl, ⟨nd, rfl⟩⟩))
                                go_roundg k4
                                case measure => have := HJ1.out; have := HK2.out; have := HK3.out; have := HK4.out; omega
                                case rel => exact ⟨(t131), (wrap64 (x87_4 + 1)), (by first | rfl | (simp; done) | (simp [*]; done)), (by first | rfl | (simp; done) | (simp [*]; done)), H', ⟨by have := HJ1.out; have := HK2.out; have := HK3.out; have := HK4.out; omega⟩, ⟨by (with_reducible repeat (first | refine blk_drewN ?_ _ | refine blk_drew ?_ | refine blk_alloc ?_ _)); exact BK121.out⟩, ⟨by repeat (first | (with_reducible first | exact HB.out | apply below_alloc | apply pw_below_drewN | apply below_drew1 | refine below_set ?_ GE121.out) | exact HB.out)⟩⟩
                              · rw [if_neg c42] at H
                                have c42b0 : decide (0 < (rd l0_5 x87_4)) = false := decide_eq_false c42
                                clear c42
                                have H' := Aside0.mk H
                                clear H
                                have p130 : 0 ≤ (x87_4 : Int) := of_decide_eq_true (by first | (with_reducible assumption) | assumption)
                                have q130 : x87_4 < (l0_5.length : Int) := of_decide_eq_true (by first | (with_reducible assumption) | assumption)
                                obtain ⟨ad130, e130, hx130_0⟩ := Kd.at_int HR0_5.out x87_4 p130 q130
                                cases e130
                                replace hx130_0 := (HB.out.cell (World.block_lt_of_cell? w _ hx130_0)).trans hx130_0
                                replace p130 := eq_true p130
                                replace q130 := eq_true q130
                                go_wp2
                                go_roundg k4
                                case measure => have := HJ1.out; have := HK2.out; have := HK3.out; have := HK4.out; omega
                                case rel => exact ⟨(false), (wrap64 (x87_4 + 1)), (by first | rfl | (simp; done) | (simp [*]; done)), (by first | rfl | (simp; done) | (simp [*]; done)), H', ⟨by have := HJ1.out; have := HK2.out; have := HK3.out; have := HK4.out; omega⟩, ⟨by (with_reducible repeat (first | refine blk_drewN ?_ _ | refine blk_drew ?_ | refine blk_alloc ?_ _)); exact BK121.out⟩, ⟨by repeat (first | (with_reducible first | exact HB.out | apply below_alloc | apply pw_below_drewN | apply below_drew1 | refine below_set ?_ GE121.out) | exact HB.out)⟩⟩
                            · replace c41 := Bool.eq_false_iff.mpr c41
                              subst c41
                              have H1 : (inst_caps.l2 k4 false l0_5 (l0_5.length : Int) (wrap64 (x87_4 + 1))) = some r := by rw [if_neg (show ¬ (false = true) by decide)] at H; exact H
                              clear H
                              have H := H1
                              clear H1
                              have H' := Aside0.mk H
                              clear H
                              have p130 : 0 ≤ (x87_4 : Int) := of_decide_eq_true (by first | (with_reducible assumption) | assumption)
                              have q130 : x87_4 < (l0_5.length : Int) := of_decide_eq_true (by first | (with_reducible assumption) | assumption)
                              obtain ⟨ad130, e130, hx130_0⟩ := Kd.at_int HR0_5.out x87_4 p130 q130
                              cases e130
                              replace hx130_0 := (HB.out.cell (World.block_lt_of_cell? w _ hx130_0)).trans hx130_0
                              replace p130 := eq_true p130
                              replace q130 := eq_true q130
                              go_wp2
                              go_roundg k4
                              case measure => have := HJ1.out; have := HK2.out; have := HK3.out; have := HK4.out; omega
                              case rel => exact ⟨(false), (wrap64 (x87_4 + 1)), (by first | rfl | (simp; done) | (simp [*]; done)), (by first | rfl | (simp; done) | (simp [*]; done)), H', ⟨by have := HJ1.out; have := HK2.out; have := HK3.out; have := HK4.out; omega⟩, ⟨by (with_reducible repeat (first | refine blk_drewN ?_ _ | refine blk_drew ?_ | refine blk_alloc ?_ _)); exact BK121.out⟩, ⟨by repeat (first | (with_reducible first | exact HB.out | apply below_alloc | apply pw_below_drewN | apply below_drew1 | refine below_set ?_ GE121.out) | exact HB.out)⟩⟩
                          · rw [if_neg c40] at H
                            exact absurd H (by simp)
                        · rw [if_neg c39] at H
                          exact absurd H (by simp)
                      · rw [if_neg c38] at H
                        have c38b0 : decide (x87_4 < (l0_5.length : Int)) = false := decide_eq_false c38
                        clear c38
                        obtain rfl := Option.some.inj H
                        go_wp2
                        go_ret
                        exact ⟨by first | rfl | (simp [errW_none, errW_some] <;> rfl) | (simp [*, errW_none, errW_some] <;> rfl), by repeat (first | (with_reducible first | exact HB.out | apply below_alloc | apply pw_below_drewN | apply below_drew1 | refine below_set ?_ GE121.out) | exact HB.out)⟩

end Go.Proofs.Ytlnfjjbfdbcgbaa.PInstClasses
