/- FramePlains: jumps, taken and not. FramePlains: Load, done. FramePlains: Store, done. FramePlains: faults. FramePlains: arithmetic of one word. FramePlains: arithmetic of two words. -/
import Derived.Test.YtlnoejmckpimnaaFpA
namespace Go.Proofs.Ytlnoejmckpimnaa
open Go.RowKit Ieee
namespace Fr

set_option maxRecDepth 100000 in
set_option maxHeartbeats 4000000 in
theorem plains_jump (F P r0 r1 r2 r3 r4 r5 r6 r7 N P2 : Int) (a b1 c0 : Int) (A : Option Addr) (b off n c : Nat) (ms : List Int) (w : World)
    (hr : Hid (plainF ⟨F, P, [r0, r1, r2, r3, r4, r5, r6, r7]⟩ (16, a, b1, c0, N) ms = .ok (⟨F, P2, [r0, r1, r2, r3, r4, r5, r6, r7]⟩, ms)))
    (hP : IntKind.i64.wrap N = P2) (hn : n ≤ 200) (hml : Hid (ms.length = n))
    (hA : Hid (0 < n → A = some ⟨b, off, none⟩)) (hm : Hid (∀ W, Keeps NoBlock w W → ∀ (j : Nat) (x : Int), ms[j]? = some x → W.cell? ⟨b, off + j, none⟩ = some (rv x)))
    (hpl : Hid (∀ W, Keeps NoBlock w W → n ≤ 200 → Calls Try.prog 15 #[.agg #[.int .i64 F, .int .i64 P, .int .u64 r0, .int .u64 r1, .int .u64 r2, .int .u64 r3, .int .u64 r4, .int .u64 r5, .int .u64 r6, .int .u64 r7], .agg #[.int .i64 16, .int .i64 a, .int .i64 b1, .int .i64 c0, .int .u64 N], .slice A n c] W (PlainPost W (plainF ⟨F, P, [r0, r1, r2, r3, r4, r5, r6, r7]⟩ (16, a, b1, c0, N) ms)))) :
    Calls Try.prog 5 #[.agg #[.int .i64 F, .int .i64 P, .int .u64 r0, .int .u64 r1, .int .u64 r2, .int .u64 r3, .int .u64 r4, .int .u64 r5, .int .u64 r6, .int .u64 r7], .agg #[.int .i64 16, .int .i64 a, .int .i64 b1, .int .i64 c0, .int .u64 N], .slice A n c] w fun e w' => e = .returned (.bool true) ∧ Below w.heap.size w w' := by
  have hml2 := hml
  have hg : decide ((200 : Int) < (n : Int)) = false := by simp; omega
  go_enter Try.func5, Try.ntmps5
  go_wp2_with fail
  generalize hW : World.alloc (World.alloc w _) _ = W
  have Kw : Hid (Keeps NoBlock w W) := by
    show Keeps _ _ _
    rw [← hW]
    exact ((Keeps.refl NoBlock w).alloc _).alloc _
  have Bf : Hid (W.heap[w.heap.size]? = some (.cells #[.int .i64 F, .int .i64 P, .int .u64 r0, .int .u64 r1, .int .u64 r2, .int .u64 r3, .int .u64 r4, .int .u64 r5, .int .u64 r6, .int .u64 r7] 29 (0, 0))) := by show _ = _; rw [← hW]; exact block_alloc_old (block_alloc_new _ _)
  have Bi : Hid (W.heap[w.heap.size + 1]? = some (.cells #[.int .i64 16, .int .i64 a, .int .i64 b1, .int .i64 c0, .int .u64 N] 31 (0, 0))) := by show _ = _; rw [← hW]; exact blk_new (by simp)
  clear hW
  refine (hpl.out W Kw.out (by omega)).mono ?_
  clear hg
  rintro e w1 ⟨k1, hres⟩
  have Bf1 := Lib.hid ((k1.block _ (lt_of_block Bf.out) (fun h => h)).trans Bf.out)
  have Bi1 := Lib.hid ((k1.block _ (lt_of_block Bi.out) (fun h => h)).trans Bi.out)
  have K1 := Lib.hid (Kw.out.trans k1 (fun _ _ h => h))
  clear k1 hpl Kw Bf Bi
  rw [hr.out] at hres
  obtain ⟨g1, he, hg1, hb1⟩ := hres
  have hg1 := Lib.hid hg1
  have hb1 := Lib.hid hb1
  have he2 : e = .returned (.tuple #[.agg #[.int .i64 F, .int .i64 P2, .int .u64 r0, .int .u64 r1, .int .u64 r2, .int .u64 r3, .int .u64 r4, .int .u64 r5, .int .u64 r6, .int .u64 r7], .slice (some ⟨g1, 0, none⟩) n n, .int .i64 0]) := by rw [← hml2.out]; exact he
  subst he2
  clear he hr
  go_upto_region 4 with fail
  generalize hW : World.alloc w1 _ = W2
  have K2 : Hid (Keeps NoBlock w W2) := by show Keeps _ _ _; rw [← hW]; exact K1.out.alloc _
  have Bf2 : Hid (W2.heap[w.heap.size]? = some (.cells #[.int .i64 F, .int .i64 P, .int .u64 r0, .int .u64 r1, .int .u64 r2, .int .u64 r3, .int .u64 r4, .int .u64 r5, .int .u64 r6, .int .u64 r7] 29 (0, 0))) := by show _ = _; rw [← hW]; exact block_alloc_old Bf1.out
  have Bi2 : Hid (W2.heap[w.heap.size + 1]? = some (.cells #[.int .i64 16, .int .i64 a, .int .i64 b1, .int .i64 c0, .int .u64 N] 31 (0, 0))) := by show _ = _; rw [← hW]; exact block_alloc_old Bi1.out
  have Bg2 : Hid (W2.heap[w1.heap.size]? = some (.cells #[.int .i64 F, .int .i64 P2, .int .u64 r0, .int .u64 r1, .int .u64 r2, .int .u64 r3, .int .u64 r4, .int .u64 r5, .int .u64 r6, .int .u64 r7] 29 (0, 0))) := by show _ = _; rw [← hW]; exact block_alloc_new _ _
  have H2 : Hid (W2.heap[g1]? = some (.cells (mC ms) 26 (0, 0))) := by show _ = _; rw [← hW]; exact block_alloc_old hb1.out
  clear hW Bf1 Bi1 K1 hb1
  have i0 : W2.cell? ⟨w.heap.size + 1, 0, none⟩ = some (.int .i64 16) := cell_of_block (o := 0) Bi2.out rfl
  go_wp2_with fail
  refine (has_calls 16 _).mono ?_
  rintro e w3 ⟨rfl, k3⟩
  have Bf3 := Lib.hid ((k3.block _ (lt_of_block Bf2.out) (fun h => h)).trans Bf2.out)
  have Bi3 := Lib.hid ((k3.block _ (lt_of_block Bi2.out) (fun h => h)).trans Bi2.out)
  have Bg3 := Lib.hid ((k3.block _ (lt_of_block Bg2.out) (fun h => h)).trans Bg2.out)
  have H3 := Lib.hid ((k3.block _ (lt_of_block H2.out) (fun h => h)).trans H2.out)
  have K3 := Lib.hid (K2.out.trans k3 (fun _ _ h => h))
  clear k3 i0 Bf2 Bi2 Bg2 H2 K2
  have i0 : w3.cell? ⟨w.heap.size + 1, 0, none⟩ = some (.int .i64 16) := cell_of_block (o := 0) Bi3.out rfl
  have i1 : w3.cell? ⟨w.heap.size + 1, 1, none⟩ = some (.int .i64 a) := cell_of_block (o := 1) Bi3.out rfl
  have i2 : w3.cell? ⟨w.heap.size + 1, 2, none⟩ = some (.int .i64 b1) := cell_of_block (o := 2) Bi3.out rfl
  have i3 : w3.cell? ⟨w.heap.size + 1, 3, none⟩ = some (.int .i64 c0) := cell_of_block (o := 3) Bi3.out rfl
  have i4 : w3.cell? ⟨w.heap.size + 1, 4, none⟩ = some (.int .u64 N) := cell_of_block (o := 4) Bi3.out rfl
  have hs1 : str (hasS 16) = { data := #[99] } := rfl
  rw [hs1]
  clear hs1
  go_upto_region 10 with fail
  have M3 : Hid (∀ W', Keeps NoBlock w3 W' → ∀ j u, (ms.map rv)[j]? = some u → W'.cell? ⟨b, off + j, none⟩ = some u) := fun W' k => ms_news hm.out K3.out k
  have nl : Hid ((ms.map rv).length = n * 1) := by show _ = _; rw [List.length_map, hml.out]; omega
  have x0 : w3.cell? ⟨w.heap.size, 0, none⟩ = some (.int .i64 F) := cell_of_block (o := 0) Bf3.out rfl
  have x1 : w3.cell? ⟨w.heap.size, 1, none⟩ = some (.int .i64 P) := cell_of_block (o := 1) Bf3.out rfl
  have x2 : w3.cell? ⟨w.heap.size, 2, none⟩ = some (.int .u64 r0) := cell_of_block (o := 2) Bf3.out rfl
  have x3 : w3.cell? ⟨w.heap.size, 3, none⟩ = some (.int .u64 r1) := cell_of_block (o := 3) Bf3.out rfl
  have x4 : w3.cell? ⟨w.heap.size, 4, none⟩ = some (.int .u64 r2) := cell_of_block (o := 4) Bf3.out rfl
  have x5 : w3.cell? ⟨w.heap.size, 5, none⟩ = some (.int .u64 r3) := cell_of_block (o := 5) Bf3.out rfl
  have x6 : w3.cell? ⟨w.heap.size, 6, none⟩ = some (.int .u64 r4) := cell_of_block (o := 6) Bf3.out rfl
  have x7 : w3.cell? ⟨w.heap.size, 7, none⟩ = some (.int .u64 r5) := cell_of_block (o := 7) Bf3.out rfl
  have x8 : w3.cell? ⟨w.heap.size, 8, none⟩ = some (.int .u64 r6) := cell_of_block (o := 8) Bf3.out rfl
  have x9 : w3.cell? ⟨w.heap.size, 9, none⟩ = some (.int .u64 r7) := cell_of_block (o := 9) Bf3.out rfl
  have lf := lt_of_block Bf3.out
  have hFB : Hid (∀ w', Keeps NoBlock w3 w' → w'.cell? ⟨w.heap.size, 0, none⟩ = some (.int .i64 F) ∧ w'.cell? ⟨w.heap.size, 1, none⟩ = some (.int .i64 P) ∧ w'.cell? ⟨w.heap.size, 2, none⟩ = some (.int .u64 r0) ∧ w'.cell? ⟨w.heap.size, 3, none⟩ = some (.int .u64 r1) ∧ w'.cell? ⟨w.heap.size, 4, none⟩ = some (.int .u64 r2) ∧ w'.cell? ⟨w.heap.size, 5, none⟩ = some (.int .u64 r3) ∧ w'.cell? ⟨w.heap.size, 6, none⟩ = some (.int .u64 r4) ∧ w'.cell? ⟨w.heap.size, 7, none⟩ = some (.int .u64 r5) ∧ w'.cell? ⟨w.heap.size, 8, none⟩ = some (.int .u64 r6) ∧ w'.cell? ⟨w.heap.size, 9, none⟩ = some (.int .u64 r7)) := fun w' k => ten_at ((k.block _ (lt_of_block Bf3.out) (fun h => h)).trans Bf3.out)
  clear i0 i1 i2 i3 i4
  go_cut [14, 15] from 100 to 103 (fun v14 v15 wx => ∃ bw A5 c5, v14 = .pointer (some ⟨bw, 0, none⟩) ∧ v15 = .slice A5 n c5 ∧ Want w3 wx n bw (.slice A5 n c5) ms #[.int .i64 F, .int .i64 P, .int .u64 r0, .int .u64 r1, .int .u64 r2, .int .u64 r3, .int .u64 r4, .int .u64 r5, .int .u64 r6, .int .u64 r7])
  case first =>
    go_region_held3 (fun w' => w'.cell? ⟨w.heap.size, 0, none⟩ = some (.int .i64 F) ∧ w'.cell? ⟨w.heap.size, 1, none⟩ = some (.int .i64 P) ∧ w'.cell? ⟨w.heap.size, 2, none⟩ = some (.int .u64 r0) ∧ w'.cell? ⟨w.heap.size, 3, none⟩ = some (.int .u64 r1) ∧ w'.cell? ⟨w.heap.size, 4, none⟩ = some (.int .u64 r2) ∧ w'.cell? ⟨w.heap.size, 5, none⟩ = some (.int .u64 r3) ∧ w'.cell? ⟨w.heap.size, 6, none⟩ = some (.int .u64 r4) ∧ w'.cell? ⟨w.heap.size, 7, none⟩ = some (.int .u64 r5) ∧ w'.cell? ⟨w.heap.size, 8, none⟩ = some (.int .u64 r6) ∧ w'.cell? ⟨w.heap.size, 9, none⟩ = some (.int .u64 r7)) (first | (refine hFB.out _ ?_; repeat (first | with_reducible exact K35 | with_reducible exact Keeps.refl _ _ | with_reducible refine Keeps.alloc ?_ _ | with_reducible refine Keeps.drew ?_ | (with_reducible refine Keeps.set ?_ (.inr ?_) _; rotate_left; focus (simp; done)) | (with_reducible refine Keeps.setCells (.inr ?_) _ _ _ ?_; focus (simp; done)))))
      (first
      | (refine step_appX (P := Try.prog) elW ?_ (.tmp 101) (.tmp 102) ?_ (.slice (some ⟨w3.heap.size, 0, none⟩) 0 0) 0 [] ?_ ?_ A b off n c (ms.map rv) ?_ ?_ ?_ ?_ rv_one ?_ ?_ ?_
         · rfl
         · rfl
         · rfl
         · repeat (first | with_reducible exact own_new _ (by simp) | with_reducible refine World.ownsRow.alloc ?_ _ | with_reducible refine World.ownsRow.drew ?_ | (refine own_setCells ?_ ?_; rotate_left; focus (simp [Value.ownBlock]; omega)))
         · rfl
         · exact hA.out
         · exact nl.out
         · refine M3.out _ ?_
           repeat (first | with_reducible exact Keeps.refl _ _ | with_reducible refine Keeps.alloc ?_ _ | with_reducible refine Keeps.drew ?_ | (refine Keeps.setCells (.inr ?_) _ _ _ ?_; focus (simp; done)))
         · simp only [maxLen]; omega
         · omega
         intro v5 w5 ho5 hg5 hf5 hs5
         obtain ⟨A5, cap5, rfl⟩ := Own.isSlice ho5
         have K35 : Keeps NoBlock w3 w5 := by
           refine Keeps.grown ?_ hg5 ?_
           · repeat (first | with_reducible exact Keeps.refl _ _ | with_reducible refine Keeps.alloc ?_ _ | with_reducible refine Keeps.drew ?_ | (refine Keeps.setCells (.inr ?_) _ _ _ ?_; focus (simp; done)))
           · intro k hk
             right
             simp only [Value.ownBlock, Option.some.injEq] at hk
             omega
         have F5 := hFB.out w5 K35
         have Z5 : w5.heap[w3.heap.size + 1]? = some (.cells #[.int .i64 0, .int .i64 0, .int .u64 0, .int .u64 0, .int .u64 0, .int .u64 0, .int .u64 0, .int .u64 0, .int .u64 0, .int .u64 0] 29 (0, 0)) := by
           refine blk_grown hg5 ?_ ?_
           · simp [Value.ownBlock]
           · first | exact block_alloc_new _ _ | (refine block_alloc_old ?_; exact block_alloc_new _ _) | (refine blk_new ?_; simp; done) | (refine block_alloc_old ?_; refine blk_drew ?_; exact block_alloc_new _ _)
         obtain ⟨f0, f1, f2, f3, f4, f5, f6, f7, f8, f9⟩ := ten_frozen Z5
         have lz := lt_of_block Z5
         obtain ⟨y0, y1, y2, y3, y4, y5, y6, y7, y8, y9⟩ := ten_at Z5
         clear F5
         clear hs5)
      | (refine step_appX (P := Try.prog) elW ?_ (.tmp 101) (.tmp 102) ?_ (.slice (some ⟨w3.heap.size + 1, 0, none⟩) 0 0) 0 [] ?_ ?_ A b off n c (ms.map rv) ?_ ?_ ?_ ?_ rv_one ?_ ?_ ?_
         · rfl
         · rfl
         · rfl
         · repeat (first | with_reducible exact own_new _ (by simp) | with_reducible refine World.ownsRow.alloc ?_ _ | with_reducible refine World.ownsRow.drew ?_ | (refine own_setCells ?_ ?_; rotate_left; focus (simp [Value.ownBlock]; omega)))
         · rfl
         · exact hA.out
         · exact nl.out
         · refine M3.out _ ?_
           repeat (first | with_reducible exact Keeps.refl _ _ | with_reducible refine Keeps.alloc ?_ _ | with_reducible refine Keeps.drew ?_ | (refine Keeps.setCells (.inr ?_) _ _ _ ?_; focus (simp; done)))
         · simp only [maxLen]; omega
         · omega
         intro v5 w5 ho5 hg5 hf5 hs5
         obtain ⟨A5, cap5, rfl⟩ := Own.isSlice ho5
         have K35 : Keeps NoBlock w3 w5 := by
           refine Keeps.grown ?_ hg5 ?_
           · repeat (first | with_reducible exact Keeps.refl _ _ | with_reducible refine Keeps.alloc ?_ _ | with_reducible refine Keeps.drew ?_ | (refine Keeps.setCells (.inr ?_) _ _ _ ?_; focus (simp; done)))
           · intro k hk
             right
             simp only [Value.ownBlock, Option.some.injEq] at hk
             omega
         have F5 := hFB.out w5 K35
         have Z5 : w5.heap[w3.heap.size]? = some (.cells #[.int .i64 0, .int .i64 0, .int .u64 0, .int .u64 0, .int .u64 0, .int .u64 0, .int .u64 0, .int .u64 0, .int .u64 0, .int .u64 0] 29 (0, 0)) := by
           refine blk_grown hg5 ?_ ?_
           · simp [Value.ownBlock]
           · first | exact block_alloc_new _ _ | (refine block_alloc_old ?_; exact block_alloc_new _ _) | (refine blk_new ?_; simp; done) | (refine block_alloc_old ?_; refine blk_drew ?_; exact block_alloc_new _ _)
         obtain ⟨f0, f1, f2, f3, f4, f5, f6, f7, f8, f9⟩ := ten_frozen Z5
         have lz := lt_of_block Z5
         obtain ⟨y0, y1, y2, y3, y4, y5, y6, y7, y8, y9⟩ := ten_at Z5
         clear F5
         clear hs5)
      | (refine step_appX (P := Try.prog) elW ?_ (.tmp 101) (.tmp 102) ?_ (.slice (some ⟨w3.heap.size, 0, none⟩) 0 0) 0 [] ?_ ?_ A b off n c (ms.map rv) ?_ ?_ ?_ ?_ rv_one ?_ ?_ ?_
         · rfl
         · rfl
         · rfl
         · repeat (first | with_reducible exact own_new _ (by simp) | with_reducible refine World.ownsRow.alloc ?_ _ | with_reducible refine World.ownsRow.drew ?_ | (refine own_setCells ?_ ?_; rotate_left; focus (simp [Value.ownBlock]; omega)))
         · rfl
         · exact hA.out
         · exact nl.out
         · refine M3.out _ ?_
           repeat (first | with_reducible exact Keeps.refl _ _ | with_reducible refine Keeps.alloc ?_ _ | with_reducible refine Keeps.drew ?_ | (refine Keeps.setCells (.inr ?_) _ _ _ ?_; focus (simp; done)))
         · simp only [maxLen]; omega
         · omega
         intro v5 w5 ho5 hg5 hf5 hs5
         obtain ⟨A5, cap5, rfl⟩ := Own.isSlice ho5
         have K35 : Keeps NoBlock w3 w5 := by
           refine Keeps.grown ?_ hg5 ?_
           · repeat (first | with_reducible exact Keeps.refl _ _ | with_reducible refine Keeps.alloc ?_ _ | with_reducible refine Keeps.drew ?_ | (refine Keeps.setCells (.inr ?_) _ _ _ ?_; focus (simp; done)))
           · intro k hk
             right
             simp only [Value.ownBlock, Option.some.injEq] at hk
             omega
         have F5 := hFB.out w5 K35
         clear hs5)
      | (refine step_appX (P := Try.prog) elW ?_ (.tmp 101) (.tmp 102) ?_ (.slice (some ⟨w3.heap.size + 1, 0, none⟩) 0 0) 0 [] ?_ ?_ A b off n c (ms.map rv) ?_ ?_ ?_ ?_ rv_one ?_ ?_ ?_
         · rfl
         · rfl
         · rfl
         · repeat (first | with_reducible exact own_new _ (by simp) | with_reducible refine World.ownsRow.alloc ?_ _ | with_reducible refine World.ownsRow.drew ?_ | (refine own_setCells ?_ ?_; rotate_left; focus (simp [Value.ownBlock]; omega)))
         · rfl
         · exact hA.out
         · exact nl.out
         · refine M3.out _ ?_
           repeat (first | with_reducible exact Keeps.refl _ _ | with_reducible refine Keeps.alloc ?_ _ | with_reducible refine Keeps.drew ?_ | (refine Keeps.setCells (.inr ?_) _ _ _ ?_; focus (simp; done)))
         · simp only [maxLen]; omega
         · omega
         intro v5 w5 ho5 hg5 hf5 hs5
         obtain ⟨A5, cap5, rfl⟩ := Own.isSlice ho5
         have K35 : Keeps NoBlock w3 w5 := by
           refine Keeps.grown ?_ hg5 ?_
           · repeat (first | with_reducible exact Keeps.refl _ _ | with_reducible refine Keeps.alloc ?_ _ | with_reducible refine Keeps.drew ?_ | (refine Keeps.setCells (.inr ?_) _ _ _ ?_; focus (simp; done)))
           · intro k hk
             right
             simp only [Value.ownBlock, Option.some.injEq] at hk
             omega
         have F5 := hFB.out w5 K35
         clear hs5)
      | (trace_state; fail))
    all_goals go_wp2_with fail
    all_goals go_meet
    all_goals refine ⟨_, _, _, rfl, rfl, ?_⟩
    all_goals
      have hof : Own w5 26 1 (.slice A5 n cap5) n (ms.map rv) := by simpa using ho5
      have hob : (Value.slice A5 (0 + n) cap5).ownBlock = (Value.slice A5 n cap5).ownBlock := by cases A5 <;> rfl
      rw [hob] at hf5
      simp only [World.size_alloc, World.size_drew, Value.ownBlock, Option.some.injEq] at hf5
      have hok : ∀ k, (Value.slice A5 n cap5).ownBlock = some k → w3.heap.size ≤ k := fun k hk => by have := hf5 k hk; omega
      first
      | (with_reducible refine want_new ?_ ?_ ?_; exact K35; exact hof; exact hok)
      | (with_reducible refine want_set ?_ ?_ ?_ ?_ ?_ ?_
         · exact K35
         · exact hof
         · exact hok
         · omega
         · intro e
           have := hf5 _ e
           omega
         · exact Z5)
  case rest =>
    obtain ⟨bw, A5, c5, rfl, rfl, WT⟩ := hcut
    clear M3 nl hFB lf x0 x1 x2 x3 x4 x5 x6 x7 x8 x9
    have Hlo := Lib.hid WT.lo
    have i0 : wc.cell? ⟨w.heap.size + 1, 0, none⟩ = some (.int .i64 16) := (WT.kp.cell (lt_of_block Bi3.out) (fun h => h)).trans (cell_of_block (o := 0) Bi3.out rfl)
    have i1 : wc.cell? ⟨w.heap.size + 1, 1, none⟩ = some (.int .i64 a) := (WT.kp.cell (lt_of_block Bi3.out) (fun h => h)).trans (cell_of_block (o := 1) Bi3.out rfl)
    have i2 : wc.cell? ⟨w.heap.size + 1, 2, none⟩ = some (.int .i64 b1) := (WT.kp.cell (lt_of_block Bi3.out) (fun h => h)).trans (cell_of_block (o := 2) Bi3.out rfl)
    have i4 : wc.cell? ⟨w.heap.size + 1, 4, none⟩ = some (.int .u64 N) := (WT.kp.cell (lt_of_block Bi3.out) (fun h => h)).trans (cell_of_block (o := 4) Bi3.out rfl)
    have x1 : wc.cell? ⟨w.heap.size, 1, none⟩ = some (.int .i64 P) := (WT.kp.cell (lt_of_block Bf3.out) (fun h => h)).trans (cell_of_block (o := 1) Bf3.out rfl)
    have y1 : wc.cell? ⟨bw, 1, none⟩ = some (.int .i64 P) := cell_of_block (o := 1) WT.bl rfl
    have f1 := frozen_of_block WT.bl (o := 1)
    have hb1 : bw ≠ w.heap.size + 1 := by have := lt_of_block Bi3.out; have := WT.lo; omega
    have hb2 : w.heap.size + 1 ≠ bw := by omega
    have hb3 : bw ≠ w.heap.size := by have := lt_of_block Bf3.out; have := WT.lo; omega
    have hb4 : w.heap.size ≠ bw := by omega
    have HWT := Lib.hid WT
    clear WT
    go_upto_region 32 with fail
    generalize hW : World.setCell (World.setCell wc _ _) _ _ = W7
    clear i0 i1 i2 i4 x1 y1 f1 hb1 hb2 hb3 hb4
    have bl := HWT.out.bl
    have K7 : Hid (Keeps NoBlock w3 W7) := by
      show Keeps _ _ _
      rw [← hW]
      exact (HWT.out.kp.set (.inr Hlo.out) _).set (.inr Hlo.out) _
    have Bw7 : Hid (W7.heap[bw]? = some (.cells #[.int .i64 F, .int .i64 P2, .int .u64 r0, .int .u64 r1, .int .u64 r2, .int .u64 r3, .int .u64 r4, .int .u64 r5, .int .u64 r6, .int .u64 r7] 29 (0, 0))) := by
      show _ = _
      rw [← hW]
      exact block_set (block_set bl _) _
    have R7 : Hid (ReadsI .u64 W7 (.slice A5 n c5) ms) := by
      show ReadsI _ _ _ _
      rw [← hW]
      exact own_reads hml.out (own_set1 (own_set1 HWT.out.own HWT.out.ne) HWT.out.ne)
    clear hW bl HWT
    have Bg7 := Lib.hid ((K7.out.block _ (lt_of_block Bg3.out) (fun h => h)).trans Bg3.out)
    have H7 := Lib.hid ((K7.out.block _ (lt_of_block H3.out) (fun h => h)).trans H3.out)
    clear H3 Bg3 Bf3 Bi3
    have K07 := Lib.hid (K3.out.trans K7.out (fun _ _ h => h))
    go_wp2_with fail
    refine (awake03_calls _).mono ?_
    rintro e w8 ⟨rfl, k8⟩
    have Bg8 := (k8.block _ (lt_of_block Bg7.out) (fun h => h)).trans Bg7.out
    have Bw8 := (k8.block _ (lt_of_block Bw7.out) (fun h => h)).trans Bw7.out
    have H8 := Lib.hid ((k8.block _ (lt_of_block H7.out) (fun h => h)).trans H7.out)
    have R8 := Lib.hid (R7.out.keeps k8 (fun _ _ h => h))
    have K08 := Lib.hid (K07.out.trans k8 (fun _ _ h => h))
    have x0 : w8.cell? ⟨w1.heap.size, 0, none⟩ = some (.int .i64 F) := cell_of_block (o := 0) Bg8 rfl
    have x1 : w8.cell? ⟨w1.heap.size, 1, none⟩ = some (.int .i64 P2) := cell_of_block (o := 1) Bg8 rfl
    have x2 : w8.cell? ⟨w1.heap.size, 2, none⟩ = some (.int .u64 r0) := cell_of_block (o := 2) Bg8 rfl
    have x3 : w8.cell? ⟨w1.heap.size, 3, none⟩ = some (.int .u64 r1) := cell_of_block (o := 3) Bg8 rfl
    have x4 : w8.cell? ⟨w1.heap.size, 4, none⟩ = some (.int .u64 r2) := cell_of_block (o := 4) Bg8 rfl
    have x5 : w8.cell? ⟨w1.heap.size, 5, none⟩ = some (.int .u64 r3) := cell_of_block (o := 5) Bg8 rfl
    have x6 : w8.cell? ⟨w1.heap.size, 6, none⟩ = some (.int .u64 r4) := cell_of_block (o := 6) Bg8 rfl
    have x7 : w8.cell? ⟨w1.heap.size, 7, none⟩ = some (.int .u64 r5) := cell_of_block (o := 7) Bg8 rfl
    have x8 : w8.cell? ⟨w1.heap.size, 8, none⟩ = some (.int .u64 r6) := cell_of_block (o := 8) Bg8 rfl
    have x9 : w8.cell? ⟨w1.heap.size, 9, none⟩ = some (.int .u64 r7) := cell_of_block (o := 9) Bg8 rfl
    have y0 : w8.cell? ⟨bw, 0, none⟩ = some (.int .i64 F) := cell_of_block (o := 0) Bw8 rfl
    have y1 : w8.cell? ⟨bw, 1, none⟩ = some (.int .i64 P2) := cell_of_block (o := 1) Bw8 rfl
    have y2 : w8.cell? ⟨bw, 2, none⟩ = some (.int .u64 r0) := cell_of_block (o := 2) Bw8 rfl
    have y3 : w8.cell? ⟨bw, 3, none⟩ = some (.int .u64 r1) := cell_of_block (o := 3) Bw8 rfl
    have y4 : w8.cell? ⟨bw, 4, none⟩ = some (.int .u64 r2) := cell_of_block (o := 4) Bw8 rfl
    have y5 : w8.cell? ⟨bw, 5, none⟩ = some (.int .u64 r3) := cell_of_block (o := 5) Bw8 rfl
    have y6 : w8.cell? ⟨bw, 6, none⟩ = some (.int .u64 r4) := cell_of_block (o := 6) Bw8 rfl
    have y7 : w8.cell? ⟨bw, 7, none⟩ = some (.int .u64 r5) := cell_of_block (o := 7) Bw8 rfl
    have y8 : w8.cell? ⟨bw, 8, none⟩ = some (.int .u64 r6) := cell_of_block (o := 8) Bw8 rfl
    have y9 : w8.cell? ⟨bw, 9, none⟩ = some (.int .u64 r7) := cell_of_block (o := 9) Bw8 rfl
    clear Bg8 Bw8 k8
    have heq := fun w => equalFrm F P2 r0 r1 r2 r3 r4 r5 r6 r7 w
    have hgf := guardFrm
    go_wp2_with fail
    refine (words_calls _ _ ms ms _ (reads_cells hml2.out H8.out) R8.out (by have := hml2.out; omega) (by have := hml2.out; omega)).mono ?_
    rintro e w9 ⟨rfl, k9⟩
    rw [decide_eq_true rfl]
    go_wp2_with fail
    go_ret
    exact ⟨rfl, (K08.out.trans k9 (fun _ _ h => h)).below (Nat.le_refl _) (fun _ h => h.elim)⟩

set_option maxRecDepth 100000 in
set_option maxHeartbeats 4000000 in
theorem plains_zero (F P r0 r1 r2 r3 r4 r5 r6 r7 N P2 : Int) (k : Nat) (b1 c0 : Int) (A : Option Addr) (b off n c : Nat) (ms : List Int) (w : World)
    (hr : Hid (plainF ⟨F, P, [r0, r1, r2, r3, r4, r5, r6, r7]⟩ (17, k, b1, c0, N) ms = .ok (⟨F, P2, [r0, r1, r2, r3, r4, r5, r6, r7]⟩, ms)))
    (hk : k < 8) (hx : [r0, r1, r2, r3, r4, r5, r6, r7][k]? = some 0) (hP : IntKind.i64.wrap N = P2) (hn : n ≤ 200) (hml : Hid (ms.length = n))
    (hA : Hid (0 < n → A = some ⟨b, off, none⟩)) (hm : Hid (∀ W, Keeps NoBlock w W → ∀ (j : Nat) (x : Int), ms[j]? = some x → W.cell? ⟨b, off + j, none⟩ = some (rv x)))
    (hpl : Hid (∀ W, Keeps NoBlock w W → n ≤ 200 → Calls Try.prog 15 #[.agg #[.int .i64 F, .int .i64 P, .int .u64 r0, .int .u64 r1, .int .u64 r2, .int .u64 r3, .int .u64 r4, .int .u64 r5, .int .u64 r6, .int .u64 r7], .agg #[.int .i64 17, .int .i64 k, .int .i64 b1, .int .i64 c0, .int .u64 N], .slice A n c] W (PlainPost W (plainF ⟨F, P, [r0, r1, r2, r3, r4, r5, r6, r7]⟩ (17, k, b1, c0, N) ms)))) :
    Calls Try.prog 5 #[.agg #[.int .i64 F, .int .i64 P, .int .u64 r0, .int .u64 r1, .int .u64 r2, .int .u64 r3, .int .u64 r4, .int .u64 r5, .int .u64 r6, .int .u64 r7], .agg #[.int .i64 17, .int .i64 k, .int .i64 b1, .int .i64 c0, .int .u64 N], .slice A n c] w fun e w' => e = .returned (.bool true) ∧ Below w.heap.size w w' := by
  have hml2 := hml
  have Hk : Hid (okR (k : Int) = true) := by unfold Hid okR; rw [decide_eq_true_iff]; omega
  have hg : decide ((200 : Int) < (n : Int)) = false := by simp; omega
  go_enter Try.func5, Try.ntmps5
  go_wp2_with fail
  generalize hW : World.alloc (World.alloc w _) _ = W
  have Kw : Hid (Keeps NoBlock w W) := by
    show Keeps _ _ _
    rw [← hW]
    exact ((Keeps.refl NoBlock w).alloc _).alloc _
  have Bf : Hid (W.heap[w.heap.size]? = some (.cells #[.int .i64 F, .int .i64 P, .int .u64 r0, .int .u64 r1, .int .u64 r2, .int .u64 r3, .int .u64 r4, .int .u64 r5, .int .u64 r6, .int .u64 r7] 29 (0, 0))) := by show _ = _; rw [← hW]; exact block_alloc_old (block_alloc_new _ _)
  have Bi : Hid (W.heap[w.heap.size + 1]? = some (.cells #[.int .i64 17, .int .i64 k, .int .i64 b1, .int .i64 c0, .int .u64 N] 31 (0, 0))) := by show _ = _; rw [← hW]; exact blk_new (by simp)
  clear hW
  refine (hpl.out W Kw.out (by omega)).mono ?_
  clear hg
  rintro e w1 ⟨k1, hres⟩
  have Bf1 := Lib.hid ((k1.block _ (lt_of_block Bf.out) (fun h => h)).trans Bf.out)
  have Bi1 := Lib.hid ((k1.block _ (lt_of_block Bi.out) (fun h => h)).trans Bi.out)
  have K1 := Lib.hid (Kw.out.trans k1 (fun _ _ h => h))
  clear k1 hpl Kw Bf Bi
  rw [hr.out] at hres
  obtain ⟨g1, he, hg1, hb1⟩ := hres
  have hg1 := Lib.hid hg1
  have hb1 := Lib.hid hb1
  have he2 : e = .returned (.tuple #[.agg #[.int .i64 F, .int .i64 P2, .int .u64 r0, .int .u64 r1, .int .u64 r2, .int .u64 r3, .int .u64 r4, .int .u64 r5, .int .u64 r6, .int .u64 r7], .slice (some ⟨g1, 0, none⟩) n n, .int .i64 0]) := by rw [← hml2.out]; exact he
  subst he2
  clear he hr
  go_upto_region 4 with fail
  generalize hW : World.alloc w1 _ = W2
  have K2 : Hid (Keeps NoBlock w W2) := by show Keeps _ _ _; rw [← hW]; exact K1.out.alloc _
  have Bf2 : Hid (W2.heap[w.heap.size]? = some (.cells #[.int .i64 F, .int .i64 P, .int .u64 r0, .int .u64 r1, .int .u64 r2, .int .u64 r3, .int .u64 r4, .int .u64 r5, .int .u64 r6, .int .u64 r7] 29 (0, 0))) := by show _ = _; rw [← hW]; exact block_alloc_old Bf1.out
  have Bi2 : Hid (W2.heap[w.heap.size + 1]? = some (.cells #[.int .i64 17, .int .i64 k, .int .i64 b1, .int .i64 c0, .int .u64 N] 31 (0, 0))) := by show _ = _; rw [← hW]; exact block_alloc_old Bi1.out
  have Bg2 : Hid (W2.heap[w1.heap.size]? = some (.cells #[.int .i64 F, .int .i64 P2, .int .u64 r0, .int .u64 r1, .int .u64 r2, .int .u64 r3, .int .u64 r4, .int .u64 r5, .int .u64 r6, .int .u64 r7] 29 (0, 0))) := by show _ = _; rw [← hW]; exact block_alloc_new _ _
  have H2 : Hid (W2.heap[g1]? = some (.cells (mC ms) 26 (0, 0))) := by show _ = _; rw [← hW]; exact block_alloc_old hb1.out
  clear hW Bf1 Bi1 K1 hb1
  have i0 : W2.cell? ⟨w.heap.size + 1, 0, none⟩ = some (.int .i64 17) := cell_of_block (o := 0) Bi2.out rfl
  go_wp2_with fail
  refine (has_calls 17 _).mono ?_
  rintro e w3 ⟨rfl, k3⟩
  have Bf3 := Lib.hid ((k3.block _ (lt_of_block Bf2.out) (fun h => h)).trans Bf2.out)
  have Bi3 := Lib.hid ((k3.block _ (lt_of_block Bi2.out) (fun h => h)).trans Bi2.out)
  have Bg3 := Lib.hid ((k3.block _ (lt_of_block Bg2.out) (fun h => h)).trans Bg2.out)
  have H3 := Lib.hid ((k3.block _ (lt_of_block H2.out) (fun h => h)).trans H2.out)
  have K3 := Lib.hid (K2.out.trans k3 (fun _ _ h => h))
  clear k3 i0 Bf2 Bi2 Bg2 H2 K2
  have i0 : w3.cell? ⟨w.heap.size + 1, 0, none⟩ = some (.int .i64 17) := cell_of_block (o := 0) Bi3.out rfl
  have i1 : w3.cell? ⟨w.heap.size + 1, 1, none⟩ = some (.int .i64 k) := cell_of_block (o := 1) Bi3.out rfl
  have i2 : w3.cell? ⟨w.heap.size + 1, 2, none⟩ = some (.int .i64 b1) := cell_of_block (o := 2) Bi3.out rfl
  have i3 : w3.cell? ⟨w.heap.size + 1, 3, none⟩ = some (.int .i64 c0) := cell_of_block (o := 3) Bi3.out rfl
  have i4 : w3.cell? ⟨w.heap.size + 1, 4, none⟩ = some (.int .u64 N) := cell_of_block (o := 4) Bi3.out rfl
  have hs1 : str (hasS 17) = { data := #[65, 99] } := rfl
  rw [hs1]
  clear hs1
  go_wp2_with fail
  refine (lreg_calls k _).mono ?_
  rintro e w5 ⟨rfl, rfl⟩
  rw [Hk.out]
  go_upto_region 10 with fail
  have M3 : Hid (∀ W', Keeps NoBlock w3 W' → ∀ j u, (ms.map rv)[j]? = some u → W'.cell? ⟨b, off + j, none⟩ = some u) := fun W' k => ms_news hm.out K3.out k
  have nl : Hid ((ms.map rv).length = n * 1) := by show _ = _; rw [List.length_map, hml.out]; omega
  have x0 : w3.cell? ⟨w.heap.size, 0, none⟩ = some (.int .i64 F) := cell_of_block (o := 0) Bf3.out rfl
  have x1 : w3.cell? ⟨w.heap.size, 1, none⟩ = some (.int .i64 P) := cell_of_block (o := 1) Bf3.out rfl
  have x2 : w3.cell? ⟨w.heap.size, 2, none⟩ = some (.int .u64 r0) := cell_of_block (o := 2) Bf3.out rfl
  have x3 : w3.cell? ⟨w.heap.size, 3, none⟩ = some (.int .u64 r1) := cell_of_block (o := 3) Bf3.out rfl
  have x4 : w3.cell? ⟨w.heap.size, 4, none⟩ = some (.int .u64 r2) := cell_of_block (o := 4) Bf3.out rfl
  have x5 : w3.cell? ⟨w.heap.size, 5, none⟩ = some (.int .u64 r3) := cell_of_block (o := 5) Bf3.out rfl
  have x6 : w3.cell? ⟨w.heap.size, 6, none⟩ = some (.int .u64 r4) := cell_of_block (o := 6) Bf3.out rfl
  have x7 : w3.cell? ⟨w.heap.size, 7, none⟩ = some (.int .u64 r5) := cell_of_block (o := 7) Bf3.out rfl
  have x8 : w3.cell? ⟨w.heap.size, 8, none⟩ = some (.int .u64 r6) := cell_of_block (o := 8) Bf3.out rfl
  have x9 : w3.cell? ⟨w.heap.size, 9, none⟩ = some (.int .u64 r7) := cell_of_block (o := 9) Bf3.out rfl
  have lf := lt_of_block Bf3.out
  have hFB : Hid (∀ w', Keeps NoBlock w3 w' → w'.cell? ⟨w.heap.size, 0, none⟩ = some (.int .i64 F) ∧ w'.cell? ⟨w.heap.size, 1, none⟩ = some (.int .i64 P) ∧ w'.cell? ⟨w.heap.size, 2, none⟩ = some (.int .u64 r0) ∧ w'.cell? ⟨w.heap.size, 3, none⟩ = some (.int .u64 r1) ∧ w'.cell? ⟨w.heap.size, 4, none⟩ = some (.int .u64 r2) ∧ w'.cell? ⟨w.heap.size, 5, none⟩ = some (.int .u64 r3) ∧ w'.cell? ⟨w.heap.size, 6, none⟩ = some (.int .u64 r4) ∧ w'.cell? ⟨w.heap.size, 7, none⟩ = some (.int .u64 r5) ∧ w'.cell? ⟨w.heap.size, 8, none⟩ = some (.int .u64 r6) ∧ w'.cell? ⟨w.heap.size, 9, none⟩ = some (.int .u64 r7)) := fun w' k => ten_at ((k.block _ (lt_of_block Bf3.out) (fun h => h)).trans Bf3.out)
  clear i0 i1 i2 i3 i4
  go_cut [14, 15] from 100 to 103 (fun v14 v15 wx => ∃ bw A5 c5, v14 = .pointer (some ⟨bw, 0, none⟩) ∧ v15 = .slice A5 n c5 ∧ Want w3 wx n bw (.slice A5 n c5) ms #[.int .i64 F, .int .i64 P, .int .u64 r0, .int .u64 r1, .int .u64 r2, .int .u64 r3, .int .u64 r4, .int .u64 r5, .int .u64 r6, .int .u64 r7])
  case first =>
    go_region_held3 (fun w' => w'.cell? ⟨w.heap.size, 0, none⟩ = some (.int .i64 F) ∧ w'.cell? ⟨w.heap.size, 1, none⟩ = some (.int .i64 P) ∧ w'.cell? ⟨w.heap.size, 2, none⟩ = some (.int .u64 r0) ∧ w'.cell? ⟨w.heap.size, 3, none⟩ = some (.int .u64 r1) ∧ w'.cell? ⟨w.heap.size, 4, none⟩ = some (.int .u64 r2) ∧ w'.cell? ⟨w.heap.size, 5, none⟩ = some (.int .u64 r3) ∧ w'.cell? ⟨w.heap.size, 6, none⟩ = some (.int .u64 r4) ∧ w'.cell? ⟨w.heap.size, 7, none⟩ = some (.int .u64 r5) ∧ w'.cell? ⟨w.heap.size, 8, none⟩ = some (.int .u64 r6) ∧ w'.cell? ⟨w.heap.size, 9, none⟩ = some (.int .u64 r7)) (first | (refine hFB.out _ ?_; repeat (first | with_reducible exact K35 | with_reducible exact Keeps.refl _ _ | with_reducible refine Keeps.alloc ?_ _ | with_reducible refine Keeps.drew ?_ | (with_reducible refine Keeps.set ?_ (.inr ?_) _; rotate_left; focus (simp; done)) | (with_reducible refine Keeps.setCells (.inr ?_) _ _ _ ?_; focus (simp; done)))))
      (first
      | (refine step_appX (P := Try.prog) elW ?_ (.tmp 101) (.tmp 102) ?_ (.slice (some ⟨w3.heap.size, 0, none⟩) 0 0) 0 [] ?_ ?_ A b off n c (ms.map rv) ?_ ?_ ?_ ?_ rv_one ?_ ?_ ?_
         · rfl
         · rfl
         · rfl
         · repeat (first | with_reducible exact own_new _ (by simp) | with_reducible refine World.ownsRow.alloc ?_ _ | with_reducible refine World.ownsRow.drew ?_ | (refine own_setCells ?_ ?_; rotate_left; focus (simp [Value.ownBlock]; omega)))
         · rfl
         · exact hA.out
         · exact nl.out
         · refine M3.out _ ?_
           repeat (first | with_reducible exact Keeps.refl _ _ | with_reducible refine Keeps.alloc ?_ _ | with_reducible refine Keeps.drew ?_ | (refine Keeps.setCells (.inr ?_) _ _ _ ?_; focus (simp; done)))
         · simp only [maxLen]; omega
         · omega
         intro v5 w5 ho5 hg5 hf5 hs5
         obtain ⟨A5, cap5, rfl⟩ := Own.isSlice ho5
         have K35 : Keeps NoBlock w3 w5 := by
           refine Keeps.grown ?_ hg5 ?_
           · repeat (first | with_reducible exact Keeps.refl _ _ | with_reducible refine Keeps.alloc ?_ _ | with_reducible refine Keeps.drew ?_ | (refine Keeps.setCells (.inr ?_) _ _ _ ?_; focus (simp; done)))
           · intro k hk
             right
             simp only [Value.ownBlock, Option.some.injEq] at hk
             omega
         have F5 := hFB.out w5 K35
         have Z5 : w5.heap[w3.heap.size + 1]? = some (.cells #[.int .i64 0, .int .i64 0, .int .u64 0, .int .u64 0, .int .u64 0, .int .u64 0, .int .u64 0, .int .u64 0, .int .u64 0, .int .u64 0] 29 (0, 0)) := by
           refine blk_grown hg5 ?_ ?_
           · simp [Value.ownBlock]
           · first | exact block_alloc_new _ _ | (refine block_alloc_old ?_; exact block_alloc_new _ _) | (refine blk_new ?_; simp; done) | (refine block_alloc_old ?_; refine blk_drew ?_; exact block_alloc_new _ _)
         obtain ⟨f0, f1, f2, f3, f4, f5, f6, f7, f8, f9⟩ := ten_frozen Z5
         have lz := lt_of_block Z5
         obtain ⟨y0, y1, y2, y3, y4, y5, y6, y7, y8, y9⟩ := ten_at Z5
         clear F5
         clear hs5)
      | (refine step_appX (P := Try.prog) elW ?_ (.tmp 101) (.tmp 102) ?_ (.slice (some ⟨w3.heap.size + 1, 0, none⟩) 0 0) 0 [] ?_ ?_ A b off n c (ms.map rv) ?_ ?_ ?_ ?_ rv_one ?_ ?_ ?_
         · rfl
         · rfl
         · rfl
         · repeat (first | with_reducible exact own_new _ (by simp) | with_reducible refine World.ownsRow.alloc ?_ _ | with_reducible refine World.ownsRow.drew ?_ | (refine own_setCells ?_ ?_; rotate_left; focus (simp [Value.ownBlock]; omega)))
         · rfl
         · exact hA.out
         · exact nl.out
         · refine M3.out _ ?_
           repeat (first | with_reducible exact Keeps.refl _ _ | with_reducible refine Keeps.alloc ?_ _ | with_reducible refine Keeps.drew ?_ | (refine Keeps.setCells (.inr ?_) _ _ _ ?_; focus (simp; done)))
         · simp only [maxLen]; omega
         · omega
         intro v5 w5 ho5 hg5 hf5 hs5
         obtain ⟨A5, cap5, rfl⟩ := Own.isSlice ho5
         have K35 : Keeps NoBlock w3 w5 := by
           refine Keeps.grown ?_ hg5 ?_
           · repeat (first | with_reducible exact Keeps.refl _ _ | with_reducible refine Keeps.alloc ?_ _ | with_reducible refine Keeps.drew ?_ | (refine Keeps.setCells (.inr ?_) _ _ _ ?_; focus (simp; done)))
           · intro k hk
             right
             simp only [Value.ownBlock, Option.some.injEq] at hk
             omega
         have F5 := hFB.out w5 K35
         have Z5 : w5.heap[w3.heap.size]? = some (.cells #[.int .i64 0, .int .i64 0, .int .u64 0, .int .u64 0, .int .u64 0, .int .u64 0, .int .u64 0, .int .u64 0, .int .u64 0, .int .u64 0] 29 (0, 0)) := by
           refine blk_grown hg5 ?_ ?_
           · simp [Value.ownBlock]
           · first | exact block_alloc_new _ _ | (refine block_alloc_old ?_; exact block_alloc_new _ _) | (refine blk_new ?_; simp; done) | (refine block_alloc_old ?_; refine blk_drew ?_; exact block_alloc_new _ _)
         obtain ⟨f0, f1, f2, f3, f4, f5, f6, f7, f8, f9⟩ := ten_frozen Z5
         have lz := lt_of_block Z5
         obtain ⟨y0, y1, y2, y3, y4, y5, y6, y7, y8, y9⟩ := ten_at Z5
         clear F5
         clear hs5)
      | (refine step_appX (P := Try.prog) elW ?_ (.tmp 101) (.tmp 102) ?_ (.slice (some ⟨w3.heap.size, 0, none⟩) 0 0) 0 [] ?_ ?_ A b off n c (ms.map rv) ?_ ?_ ?_ ?_ rv_one ?_ ?_ ?_
         · rfl
         · rfl
         · rfl
         · repeat (first | with_reducible exact own_new _ (by simp) | with_reducible refine World.ownsRow.alloc ?_ _ | with_reducible refine World.ownsRow.drew ?_ | (refine own_setCells ?_ ?_; rotate_left; focus (simp [Value.ownBlock]; omega)))
         · rfl
         · exact hA.out
         · exact nl.out
         · refine M3.out _ ?_
           repeat (first | with_reducible exact Keeps.refl _ _ | with_reducible refine Keeps.alloc ?_ _ | with_reducible refine Keeps.drew ?_ | (refine Keeps.setCells (.inr ?_) _ _ _ ?_; focus (simp; done)))
         · simp only [maxLen]; omega
         · omega
         intro v5 w5 ho5 hg5 hf5 hs5
         obtain ⟨A5, cap5, rfl⟩ := Own.isSlice ho5
         have K35 : Keeps NoBlock w3 w5 := by
           refine Keeps.grown ?_ hg5 ?_
           · repeat (first | with_reducible exact Keeps.refl _ _ | with_reducible refine Keeps.alloc ?_ _ | with_reducible refine Keeps.drew ?_ | (refine Keeps.setCells (.inr ?_) _ _ _ ?_; focus (simp; done)))
           · intro k hk
             right
             simp only [Value.ownBlock, Option.some.injEq] at hk
             omega
         have F5 := hFB.out w5 K35
         clear hs5)
      | (refine step_appX (P := Try.prog) elW ?_ (.tmp 101) (.tmp 102) ?_ (.slice (some ⟨w3.heap.size + 1, 0, none⟩) 0 0) 0 [] ?_ ?_ A b off n c (ms.map rv) ?_ ?_ ?_ ?_ rv_one ?_ ?_ ?_
         · rfl
         · rfl
         · rfl
         · repeat (first | with_reducible exact own_new _ (by simp) | with_reducible refine World.ownsRow.alloc ?_ _ | with_reducible refine World.ownsRow.drew ?_ | (refine own_setCells ?_ ?_; rotate_left; focus (simp [Value.ownBlock]; omega)))
         · rfl
         · exact hA.out
         · exact nl.out
         · refine M3.out _ ?_
           repeat (first | with_reducible exact Keeps.refl _ _ | with_reducible refine Keeps.alloc ?_ _ | with_reducible refine Keeps.drew ?_ | (refine Keeps.setCells (.inr ?_) _ _ _ ?_; focus (simp; done)))
         · simp only [maxLen]; omega
         · omega
         intro v5 w5 ho5 hg5 hf5 hs5
         obtain ⟨A5, cap5, rfl⟩ := Own.isSlice ho5
         have K35 : Keeps NoBlock w3 w5 := by
           refine Keeps.grown ?_ hg5 ?_
           · repeat (first | with_reducible exact Keeps.refl _ _ | with_reducible refine Keeps.alloc ?_ _ | with_reducible refine Keeps.drew ?_ | (refine Keeps.setCells (.inr ?_) _ _ _ ?_; focus (simp; done)))
           · intro k hk
             right
             simp only [Value.ownBlock, Option.some.injEq] at hk
             omega
         have F5 := hFB.out w5 K35
         clear hs5)
      | (trace_state; fail))
    all_goals go_wp2_with fail
    all_goals go_meet
    all_goals refine ⟨_, _, _, rfl, rfl, ?_⟩
    all_goals
      have hof : Own w5 26 1 (.slice A5 n cap5) n (ms.map rv) := by simpa using ho5
      have hob : (Value.slice A5 (0 + n) cap5).ownBlock = (Value.slice A5 n cap5).ownBlock := by cases A5 <;> rfl
      rw [hob] at hf5
      simp only [World.size_alloc, World.size_drew, Value.ownBlock, Option.some.injEq] at hf5
      have hok : ∀ k, (Value.slice A5 n cap5).ownBlock = some k → w3.heap.size ≤ k := fun k hk => by have := hf5 k hk; omega
      first
      | (with_reducible refine want_new ?_ ?_ ?_; exact K35; exact hof; exact hok)
      | (with_reducible refine want_set ?_ ?_ ?_ ?_ ?_ ?_
         · exact K35
         · exact hof
         · exact hok
         · omega
         · intro e
           have := hf5 _ e
           omega
         · exact Z5)
  case rest =>
    obtain ⟨bw, A5, c5, rfl, rfl, WT⟩ := hcut
    clear M3 nl hFB lf x0 x1 x2 x3 x4 x5 x6 x7 x8 x9
    have Hlo := Lib.hid WT.lo
    have i0 : wc.cell? ⟨w.heap.size + 1, 0, none⟩ = some (.int .i64 17) := (WT.kp.cell (lt_of_block Bi3.out) (fun h => h)).trans (cell_of_block (o := 0) Bi3.out rfl)
    have i1 : wc.cell? ⟨w.heap.size + 1, 1, none⟩ = some (.int .i64 k) := (WT.kp.cell (lt_of_block Bi3.out) (fun h => h)).trans (cell_of_block (o := 1) Bi3.out rfl)
    have i2 : wc.cell? ⟨w.heap.size + 1, 2, none⟩ = some (.int .i64 b1) := (WT.kp.cell (lt_of_block Bi3.out) (fun h => h)).trans (cell_of_block (o := 2) Bi3.out rfl)
    have i4 : wc.cell? ⟨w.heap.size + 1, 4, none⟩ = some (.int .u64 N) := (WT.kp.cell (lt_of_block Bi3.out) (fun h => h)).trans (cell_of_block (o := 4) Bi3.out rfl)
    have x1 : wc.cell? ⟨w.heap.size, 1, none⟩ = some (.int .i64 P) := (WT.kp.cell (lt_of_block Bf3.out) (fun h => h)).trans (cell_of_block (o := 1) Bf3.out rfl)
    have y1 : wc.cell? ⟨bw, 1, none⟩ = some (.int .i64 P) := cell_of_block (o := 1) WT.bl rfl
    have f1 := frozen_of_block WT.bl (o := 1)
    have hb1 : bw ≠ w.heap.size + 1 := by have := lt_of_block Bi3.out; have := WT.lo; omega
    have hb2 : w.heap.size + 1 ≠ bw := by omega
    have hb3 : bw ≠ w.heap.size := by have := lt_of_block Bf3.out; have := WT.lo; omega
    have hb4 : w.heap.size ≠ bw := by omega
    have xk := (WT.kp.cell (lt_of_block Bf3.out) (fun h => h)).trans (eight_cells Bf3.out hx)
    have hk0 : (0 : Int) ≤ (k : Int) := by omega
    have hk8 : (k : Int) < 8 := by omega
    clear hx
    have HWT := Lib.hid WT
    clear WT
    go_upto_region 32 with fail
    generalize hW : World.setCell (World.setCell wc _ _) _ _ = W7
    clear i0 i1 i2 i4 x1 y1 f1 hb1 hb2 hb3 hb4
    have bl := HWT.out.bl
    have K7 : Hid (Keeps NoBlock w3 W7) := by
      show Keeps _ _ _
      rw [← hW]
      exact (HWT.out.kp.set (.inr Hlo.out) _).set (.inr Hlo.out) _
    have Bw7 : Hid (W7.heap[bw]? = some (.cells #[.int .i64 F, .int .i64 P2, .int .u64 r0, .int .u64 r1, .int .u64 r2, .int .u64 r3, .int .u64 r4, .int .u64 r5, .int .u64 r6, .int .u64 r7] 29 (0, 0))) := by
      show _ = _
      rw [← hW]
      exact block_set (block_set bl _) _
    have R7 : Hid (ReadsI .u64 W7 (.slice A5 n c5) ms) := by
      show ReadsI _ _ _ _
      rw [← hW]
      exact own_reads hml.out (own_set1 (own_set1 HWT.out.own HWT.out.ne) HWT.out.ne)
    clear hW bl HWT
    have Bg7 := Lib.hid ((K7.out.block _ (lt_of_block Bg3.out) (fun h => h)).trans Bg3.out)
    have H7 := Lib.hid ((K7.out.block _ (lt_of_block H3.out) (fun h => h)).trans H3.out)
    clear H3 Bg3 Bf3 Bi3
    have K07 := Lib.hid (K3.out.trans K7.out (fun _ _ h => h))
    go_wp2_with fail
    refine (awake03_calls _).mono ?_
    rintro e w8 ⟨rfl, k8⟩
    have Bg8 := (k8.block _ (lt_of_block Bg7.out) (fun h => h)).trans Bg7.out
    have Bw8 := (k8.block _ (lt_of_block Bw7.out) (fun h => h)).trans Bw7.out
    have H8 := Lib.hid ((k8.block _ (lt_of_block H7.out) (fun h => h)).trans H7.out)
    have R8 := Lib.hid (R7.out.keeps k8 (fun _ _ h => h))
    have K08 := Lib.hid (K07.out.trans k8 (fun _ _ h => h))
    have x0 : w8.cell? ⟨w1.heap.size, 0, none⟩ = some (.int .i64 F) := cell_of_block (o := 0) Bg8 rfl
    have x1 : w8.cell? ⟨w1.heap.size, 1, none⟩ = some (.int .i64 P2) := cell_of_block (o := 1) Bg8 rfl
    have x2 : w8.cell? ⟨w1.heap.size, 2, none⟩ = some (.int .u64 r0) := cell_of_block (o := 2) Bg8 rfl
    have x3 : w8.cell? ⟨w1.heap.size, 3, none⟩ = some (.int .u64 r1) := cell_of_block (o := 3) Bg8 rfl
    have x4 : w8.cell? ⟨w1.heap.size, 4, none⟩ = some (.int .u64 r2) := cell_of_block (o := 4) Bg8 rfl
    have x5 : w8.cell? ⟨w1.heap.size, 5, none⟩ = some (.int .u64 r3) := cell_of_block (o := 5) Bg8 rfl
    have x6 : w8.cell? ⟨w1.heap.size, 6, none⟩ = some (.int .u64 r4) := cell_of_block (o := 6) Bg8 rfl
    have x7 : w8.cell? ⟨w1.heap.size, 7, none⟩ = some (.int .u64 r5) := cell_of_block (o := 7) Bg8 rfl
    have x8 : w8.cell? ⟨w1.heap.size, 8, none⟩ = some (.int .u64 r6) := cell_of_block (o := 8) Bg8 rfl
    have x9 : w8.cell? ⟨w1.heap.size, 9, none⟩ = some (.int .u64 r7) := cell_of_block (o := 9) Bg8 rfl
    have y0 : w8.cell? ⟨bw, 0, none⟩ = some (.int .i64 F) := cell_of_block (o := 0) Bw8 rfl
    have y1 : w8.cell? ⟨bw, 1, none⟩ = some (.int .i64 P2) := cell_of_block (o := 1) Bw8 rfl
    have y2 : w8.cell? ⟨bw, 2, none⟩ = some (.int .u64 r0) := cell_of_block (o := 2) Bw8 rfl
    have y3 : w8.cell? ⟨bw, 3, none⟩ = some (.int .u64 r1) := cell_of_block (o := 3) Bw8 rfl
    have y4 : w8.cell? ⟨bw, 4, none⟩ = some (.int .u64 r2) := cell_of_block (o := 4) Bw8 rfl
    have y5 : w8.cell? ⟨bw, 5, none⟩ = some (.int .u64 r3) := cell_of_block (o := 5) Bw8 rfl
    have y6 : w8.cell? ⟨bw, 6, none⟩ = some (.int .u64 r4) := cell_of_block (o := 6) Bw8 rfl
    have y7 : w8.cell? ⟨bw, 7, none⟩ = some (.int .u64 r5) := cell_of_block (o := 7) Bw8 rfl
    have y8 : w8.cell? ⟨bw, 8, none⟩ = some (.int .u64 r6) := cell_of_block (o := 8) Bw8 rfl
    have y9 : w8.cell? ⟨bw, 9, none⟩ = some (.int .u64 r7) := cell_of_block (o := 9) Bw8 rfl
    clear Bg8 Bw8 k8
    have heq := fun w => equalFrm F P2 r0 r1 r2 r3 r4 r5 r6 r7 w
    have hgf := guardFrm
    go_wp2_with fail
    refine (words_calls _ _ ms ms _ (reads_cells hml2.out H8.out) R8.out (by have := hml2.out; omega) (by have := hml2.out; omega)).mono ?_
    rintro e w9 ⟨rfl, k9⟩
    rw [decide_eq_true rfl]
    go_wp2_with fail
    go_ret
    exact ⟨rfl, (K08.out.trans k9 (fun _ _ h => h)).below (Nat.le_refl _) (fun _ h => h.elim)⟩

set_option maxRecDepth 100000 in
set_option maxHeartbeats 4000000 in
theorem plains_on (F P r0 r1 r2 r3 r4 r5 r6 r7 N P2 : Int) (k : Nat) (x b1 c0 : Int) (A : Option Addr) (b off n c : Nat) (ms : List Int) (w : World)
    (hr : Hid (plainF ⟨F, P, [r0, r1, r2, r3, r4, r5, r6, r7]⟩ (17, k, b1, c0, N) ms = .ok (⟨F, P2, [r0, r1, r2, r3, r4, r5, r6, r7]⟩, ms)))
    (hk : k < 8) (hx : [r0, r1, r2, r3, r4, r5, r6, r7][k]? = some x) (hx0 : x ≠ 0) (hP : IntKind.i64.wrap (P + 1) = P2) (hn : n ≤ 200) (hml : Hid (ms.length = n))
    (hA : Hid (0 < n → A = some ⟨b, off, none⟩)) (hm : Hid (∀ W, Keeps NoBlock w W → ∀ (j : Nat) (x : Int), ms[j]? = some x → W.cell? ⟨b, off + j, none⟩ = some (rv x)))
    (hpl : Hid (∀ W, Keeps NoBlock w W → n ≤ 200 → Calls Try.prog 15 #[.agg #[.int .i64 F, .int .i64 P, .int .u64 r0, .int .u64 r1, .int .u64 r2, .int .u64 r3, .int .u64 r4, .int .u64 r5, .int .u64 r6, .int .u64 r7], .agg #[.int .i64 17, .int .i64 k, .int .i64 b1, .int .i64 c0, .int .u64 N], .slice A n c] W (PlainPost W (plainF ⟨F, P, [r0, r1, r2, r3, r4, r5, r6, r7]⟩ (17, k, b1, c0, N) ms)))) :
    Calls Try.prog 5 #[.agg #[.int .i64 F, .int .i64 P, .int .u64 r0, .int .u64 r1, .int .u64 r2, .int .u64 r3, .int .u64 r4, .int .u64 r5, .int .u64 r6, .int .u64 r7], .agg #[.int .i64 17, .int .i64 k, .int .i64 b1, .int .i64 c0, .int .u64 N], .slice A n c] w fun e w' => e = .returned (.bool true) ∧ Below w.heap.size w w' := by
  have hml2 := hml
  have Hk : Hid (okR (k : Int) = true) := by unfold Hid okR; rw [decide_eq_true_iff]; omega
  have hg : decide ((200 : Int) < (n : Int)) = false := by simp; omega
  go_enter Try.func5, Try.ntmps5
  go_wp2_with fail
  generalize hW : World.alloc (World.alloc w _) _ = W
  have Kw : Hid (Keeps NoBlock w W) := by
    show Keeps _ _ _
    rw [← hW]
    exact ((Keeps.refl NoBlock w).alloc _).alloc _
  have Bf : Hid (W.heap[w.heap.size]? = some (.cells #[.int .i64 F, .int .i64 P, .int .u64 r0, .int .u64 r1, .int .u64 r2, .int .u64 r3, .int .u64 r4, .int .u64 r5, .int .u64 r6, .int .u64 r7] 29 (0, 0))) := by show _ = _; rw [← hW]; exact block_alloc_old (block_alloc_new _ _)
  have Bi : Hid (W.heap[w.heap.size + 1]? = some (.cells #[.int .i64 17, .int .i64 k, .int .i64 b1, .int .i64 c0, .int .u64 N] 31 (0, 0))) := by show _ = _; rw [← hW]; exact blk_new (by simp)
  clear hW
  refine (hpl.out W Kw.out (by omega)).mono ?_
  clear hg
  rintro e w1 ⟨k1, hres⟩
  have Bf1 := Lib.hid ((k1.block _ (lt_of_block Bf.out) (fun h => h)).trans Bf.out)
  have Bi1 := Lib.hid ((k1.block _ (lt_of_block Bi.out) (fun h => h)).trans Bi.out)
  have K1 := Lib.hid (Kw.out.trans k1 (fun _ _ h => h))
  clear k1 hpl Kw Bf Bi
  rw [hr.out] at hres
  obtain ⟨g1, he, hg1, hb1⟩ := hres
  have hg1 := Lib.hid hg1
  have hb1 := Lib.hid hb1
  have he2 : e = .returned (.tuple #[.agg #[.int .i64 F, .int .i64 P2, .int .u64 r0, .int .u64 r1, .int .u64 r2, .int .u64 r3, .int .u64 r4, .int .u64 r5, .int .u64 r6, .int .u64 r7], .slice (some ⟨g1, 0, none⟩) n n, .int .i64 0]) := by rw [← hml2.out]; exact he
  subst he2
  clear he hr
  go_upto_region 4 with fail
  generalize hW : World.alloc w1 _ = W2
  have K2 : Hid (Keeps NoBlock w W2) := by show Keeps _ _ _; rw [← hW]; exact K1.out.alloc _
  have Bf2 : Hid (W2.heap[w.heap.size]? = some (.cells #[.int .i64 F, .int .i64 P, .int .u64 r0, .int .u64 r1, .int .u64 r2, .int .u64 r3, .int .u64 r4, .int .u64 r5, .int .u64 r6, .int .u64 r7] 29 (0, 0))) := by show _ = _; rw [← hW]; exact block_alloc_old Bf1.out
  have Bi2 : Hid (W2.heap[w.heap.size + 1]? = some (.cells #[.int .i64 17, .int .i64 k, .int .i64 b1, .int .i64 c0, .int .u64 N] 31 (0, 0))) := by show _ = _; rw [← hW]; exact block_alloc_old Bi1.out
  have Bg2 : Hid (W2.heap[w1.heap.size]? = some (.cells #[.int .i64 F, .int .i64 P2, .int .u64 r0, .int .u64 r1, .int .u64 r2, .int .u64 r3, .int .u64 r4, .int .u64 r5, .int .u64 r6, .int .u64 r7] 29 (0, 0))) := by show _ = _; rw [← hW]; exact block_alloc_new _ _
  have H2 : Hid (W2.heap[g1]? = some (.cells (mC ms) 26 (0, 0))) := by show _ = _; rw [← hW]; exact block_alloc_old hb1.out
  clear hW Bf1 Bi1 K1 hb1
  have i0 : W2.cell? ⟨w.heap.size + 1, 0, none⟩ = some (.int .i64 17) := cell_of_block (o := 0) Bi2.out rfl
  go_wp2_with fail
  refine (has_calls 17 _).mono ?_
  rintro e w3 ⟨rfl, k3⟩
  have Bf3 := Lib.hid ((k3.block _ (lt_of_block Bf2.out) (fun h => h)).trans Bf2.out)
  have Bi3 := Lib.hid ((k3.block _ (lt_of_block Bi2.out) (fun h => h)).trans Bi2.out)
  have Bg3 := Lib.hid ((k3.block _ (lt_of_block Bg2.out) (fun h => h)).trans Bg2.out)
  have H3 := Lib.hid ((k3.block _ (lt_of_block H2.out) (fun h => h)).trans H2.out)
  have K3 := Lib.hid (K2.out.trans k3 (fun _ _ h => h))
  clear k3 i0 Bf2 Bi2 Bg2 H2 K2
  have i0 : w3.cell? ⟨w.heap.size + 1, 0, none⟩ = some (.int .i64 17) := cell_of_block (o := 0) Bi3.out rfl
  have i1 : w3.cell? ⟨w.heap.size + 1, 1, none⟩ = some (.int .i64 k) := cell_of_block (o := 1) Bi3.out rfl
  have i2 : w3.cell? ⟨w.heap.size + 1, 2, none⟩ = some (.int .i64 b1) := cell_of_block (o := 2) Bi3.out rfl
  have i3 : w3.cell? ⟨w.heap.size + 1, 3, none⟩ = some (.int .i64 c0) := cell_of_block (o := 3) Bi3.out rfl
  have i4 : w3.cell? ⟨w.heap.size + 1, 4, none⟩ = some (.int .u64 N) := cell_of_block (o := 4) Bi3.out rfl
  have hs1 : str (hasS 17) = { data := #[65, 99] } := rfl
  rw [hs1]
  clear hs1
  go_wp2_with fail
  refine (lreg_calls k _).mono ?_
  rintro e w5 ⟨rfl, rfl⟩
  rw [Hk.out]
  go_upto_region 10 with fail
  have M3 : Hid (∀ W', Keeps NoBlock w3 W' → ∀ j u, (ms.map rv)[j]? = some u → W'.cell? ⟨b, off + j, none⟩ = some u) := fun W' k => ms_news hm.out K3.out k
  have nl : Hid ((ms.map rv).length = n * 1) := by show _ = _; rw [List.length_map, hml.out]; omega
  have x0 : w3.cell? ⟨w.heap.size, 0, none⟩ = some (.int .i64 F) := cell_of_block (o := 0) Bf3.out rfl
  have x1 : w3.cell? ⟨w.heap.size, 1, none⟩ = some (.int .i64 P) := cell_of_block (o := 1) Bf3.out rfl
  have x2 : w3.cell? ⟨w.heap.size, 2, none⟩ = some (.int .u64 r0) := cell_of_block (o := 2) Bf3.out rfl
  have x3 : w3.cell? ⟨w.heap.size, 3, none⟩ = some (.int .u64 r1) := cell_of_block (o := 3) Bf3.out rfl
  have x4 : w3.cell? ⟨w.heap.size, 4, none⟩ = some (.int .u64 r2) := cell_of_block (o := 4) Bf3.out rfl
  have x5 : w3.cell? ⟨w.heap.size, 5, none⟩ = some (.int .u64 r3) := cell_of_block (o := 5) Bf3.out rfl
  have x6 : w3.cell? ⟨w.heap.size, 6, none⟩ = some (.int .u64 r4) := cell_of_block (o := 6) Bf3.out rfl
  have x7 : w3.cell? ⟨w.heap.size, 7, none⟩ = some (.int .u64 r5) := cell_of_block (o := 7) Bf3.out rfl
  have x8 : w3.cell? ⟨w.heap.size, 8, none⟩ = some (.int .u64 r6) := cell_of_block (o := 8) Bf3.out rfl
  have x9 : w3.cell? ⟨w.heap.size, 9, none⟩ = some (.int .u64 r7) := cell_of_block (o := 9) Bf3.out rfl
  have lf := lt_of_block Bf3.out
  have hFB : Hid (∀ w', Keeps NoBlock w3 w' → w'.cell? ⟨w.heap.size, 0, none⟩ = some (.int .i64 F) ∧ w'.cell? ⟨w.heap.size, 1, none⟩ = some (.int .i64 P) ∧ w'.cell? ⟨w.heap.size, 2, none⟩ = some (.int .u64 r0) ∧ w'.cell? ⟨w.heap.size, 3, none⟩ = some (.int .u64 r1) ∧ w'.cell? ⟨w.heap.size, 4, none⟩ = some (.int .u64 r2) ∧ w'.cell? ⟨w.heap.size, 5, none⟩ = some (.int .u64 r3) ∧ w'.cell? ⟨w.heap.size, 6, none⟩ = some (.int .u64 r4) ∧ w'.cell? ⟨w.heap.size, 7, none⟩ = some (.int .u64 r5) ∧ w'.cell? ⟨w.heap.size, 8, none⟩ = some (.int .u64 r6) ∧ w'.cell? ⟨w.heap.size, 9, none⟩ = some (.int .u64 r7)) := fun w' k => ten_at ((k.block _ (lt_of_block Bf3.out) (fun h => h)).trans Bf3.out)
  clear i0 i1 i2 i3 i4
  go_cut [14, 15] from 100 to 103 (fun v14 v15 wx => ∃ bw A5 c5, v14 = .pointer (some ⟨bw, 0, none⟩) ∧ v15 = .slice A5 n c5 ∧ Want w3 wx n bw (.slice A5 n c5) ms #[.int .i64 F, .int .i64 P, .int .u64 r0, .int .u64 r1, .int .u64 r2, .int .u64 r3, .int .u64 r4, .int .u64 r5, .int .u64 r6, .int .u64 r7])
  case first =>
    go_region_held3 (fun w' => w'.cell? ⟨w.heap.size, 0, none⟩ = some (.int .i64 F) ∧ w'.cell? ⟨w.heap.size, 1, none⟩ = some (.int .i64 P) ∧ w'.cell? ⟨w.heap.size, 2, none⟩ = some (.int .u64 r0) ∧ w'.cell? ⟨w.heap.size, 3, none⟩ = some (.int .u64 r1) ∧ w'.cell? ⟨w.heap.size, 4, none⟩ = some (.int .u64 r2) ∧ w'.cell? ⟨w.heap.size, 5, none⟩ = some (.int .u64 r3) ∧ w'.cell? ⟨w.heap.size, 6, none⟩ = some (.int .u64 r4) ∧ w'.cell? ⟨w.heap.size, 7, none⟩ = some (.int .u64 r5) ∧ w'.cell? ⟨w.heap.size, 8, none⟩ = some (.int .u64 r6) ∧ w'.cell? ⟨w.heap.size, 9, none⟩ = some (.int .u64 r7)) (first | (refine hFB.out _ ?_; repeat (first | with_reducible exact K35 | with_reducible exact Keeps.refl _ _ | with_reducible refine Keeps.alloc ?_ _ | with_reducible refine Keeps.drew ?_ | (with_reducible refine Keeps.set ?_ (.inr ?_) _; rotate_left; focus (simp; done)) | (with_reducible refine Keeps.setCells (.inr ?_) _ _ _ ?_; focus (simp; done)))))
      (first
      | (refine step_appX (P := Try.prog) elW ?_ (.tmp 101) (.tmp 102) ?_ (.slice (some ⟨w3.heap.size, 0, none⟩) 0 0) 0 [] ?_ ?_ A b off n c (ms.map rv) ?_ ?_ ?_ ?_ rv_one ?_ ?_ ?_
         · rfl
         · rfl
         · rfl
         · repeat (first | with_reducible exact own_new _ (by simp) | with_reducible refine World.ownsRow.alloc ?_ _ | with_reducible refine World.ownsRow.drew ?_ | (refine own_setCells ?_ ?_; rotate_left; focus (simp [Value.ownBlock]; omega)))
         · rfl
         · exact hA.out
         · exact nl.out
         · refine M3.out _ ?_
           repeat (first | with_reducible exact Keeps.refl _ _ | with_reducible refine Keeps.alloc ?_ _ | with_reducible refine Keeps.drew ?_ | (refine Keeps.setCells (.inr ?_) _ _ _ ?_; focus (simp; done)))
         · simp only [maxLen]; omega
         · omega
         intro v5 w5 ho5 hg5 hf5 hs5
         obtain ⟨A5, cap5, rfl⟩ := Own.isSlice ho5
         have K35 : Keeps NoBlock w3 w5 := by
           refine Keeps.grown ?_ hg5 ?_
           · repeat (first | with_reducible exact Keeps.refl _ _ | with_reducible refine Keeps.alloc ?_ _ | with_reducible refine Keeps.drew ?_ | (refine Keeps.setCells (.inr ?_) _ _ _ ?_; focus (simp; done)))
           · intro k hk
             right
             simp only [Value.ownBlock, Option.some.injEq] at hk
             omega
         have F5 := hFB.out w5 K35
         have Z5 : w5.heap[w3.heap.size + 1]? = some (.cells #[.int .i64 0, .int .i64 0, .int .u64 0, .int .u64 0, .int .u64 0, .int .u64 0, .int .u64 0, .int .u64 0, .int .u64 0, .int .u64 0] 29 (0, 0)) := by
           refine blk_grown hg5 ?_ ?_
           · simp [Value.ownBlock]
           · first | exact block_alloc_new _ _ | (refine block_alloc_old ?_; exact block_alloc_new _ _) | (refine blk_new ?_; simp; done) | (refine block_alloc_old ?_; refine blk_drew ?_; exact block_alloc_new _ _)
         obtain ⟨f0, f1, f2, f3, f4, f5, f6, f7, f8, f9⟩ := ten_frozen Z5
         have lz := lt_of_block Z5
         obtain ⟨y0, y1, y2, y3, y4, y5, y6, y7, y8, y9⟩ := ten_at Z5
         clear F5
         clear hs5)
      | (refine step_appX (P := Try.prog) elW ?_ (.tmp 101) (.tmp 102) ?_ (.slice (some ⟨w3.heap.size + 1, 0, none⟩) 0 0) 0 [] ?_ ?_ A b off n c (ms.map rv) ?_ ?_ ?_ ?_ rv_one ?_ ?_ ?_
         · rfl
         · rfl
         · rfl
         · repeat (first | with_reducible exact own_new _ (by simp) | with_reducible refine World.ownsRow.alloc ?_ _ | with_reducible refine World.ownsRow.drew ?_ | (refine own_setCells ?_ ?_; rotate_left; focus (simp [Value.ownBlock]; omega)))
         · rfl
         · exact hA.out
         · exact nl.out
         · refine M3.out _ ?_
           repeat (first | with_reducible exact Keeps.refl _ _ | with_reducible refine Keeps.alloc ?_ _ | with_reducible refine Keeps.drew ?_ | (refine Keeps.setCells (.inr ?_) _ _ _ ?_; focus (simp; done)))
         · simp only [maxLen]; omega
         · omega
         intro v5 w5 ho5 hg5 hf5 hs5
         obtain ⟨A5, cap5, rfl⟩ := Own.isSlice ho5
         have K35 : Keeps NoBlock w3 w5 := by
           refine Keeps.grown ?_ hg5 ?_
           · repeat (first | with_reducible exact Keeps.refl _ _ | with_reducible refine Keeps.alloc ?_ _ | with_reducible refine Keeps.drew ?_ | (refine Keeps.setCells (.inr ?_) _ _ _ ?_; focus (simp; done)))
           · intro k hk
             right
             simp only [Value.ownBlock, Option.some.injEq] at hk
             omega
         have F5 := hFB.out w5 K35
         have Z5 : w5.heap[w3.heap.size]? = some (.cells #[.int .i64 0, .int .i64 0, .int .u64 0, .int .u64 0, .int .u64 0, .int .u64 0, .int .u64 0, .int .u64 0, .int .u64 0, .int .u64 0] 29 (0, 0)) := by
           refine blk_grown hg5 ?_ ?_
           · simp [Value.ownBlock]
           · first | exact block_alloc_new _ _ | (refine block_alloc_old ?_; exact block_alloc_new _ _) | (refine blk_new ?_; simp; done) | (refine block_alloc_old ?_; refine blk_drew ?_; exact block_alloc_new _ _)
         obtain ⟨f0, f1, f2, f3, f4, f5, f6, f7, f8, f9⟩ := ten_frozen Z5
         have lz := lt_of_block Z5
         obtain ⟨y0, y1, y2, y3, y4, y5, y6, y7, y8, y9⟩ := ten_at Z5
         clear F5
         clear hs5)
      | (refine step_appX (P := Try.prog) elW ?_ (.tmp 101) (.tmp 102) ?_ (.slice (some ⟨w3.heap.size, 0, none⟩) 0 0) 0 [] ?_ ?_ A b off n c (ms.map rv) ?_ ?_ ?_ ?_ rv_one ?_ ?_ ?_
         · rfl
         · rfl
         · rfl
         · repeat (first | with_reducible exact own_new _ (by simp) | with_reducible refine World.ownsRow.alloc ?_ _ | with_reducible refine World.ownsRow.drew ?_ | (refine own_setCells ?_ ?_; rotate_left; focus (simp [Value.ownBlock]; omega)))
         · rfl
         · exact hA.out
         · exact nl.out
         · refine M3.out _ ?_
           repeat (first | with_reducible exact Keeps.refl _ _ | with_reducible refine Keeps.alloc ?_ _ | with_reducible refine Keeps.drew ?_ | (refine Keeps.setCells (.inr ?_) _ _ _ ?_; focus (simp; done)))
         · simp only [maxLen]; omega
         · omega
         intro v5 w5 ho5 hg5 hf5 hs5
         obtain ⟨A5, cap5, rfl⟩ := Own.isSlice ho5
         have K35 : Keeps NoBlock w3 w5 := by
           refine Keeps.grown ?_ hg5 ?_
           · repeat (first | with_reducible exact Keeps.refl _ _ | with_reducible refine Keeps.alloc ?_ _ | with_reducible refine Keeps.drew ?_ | (refine Keeps.setCells (.inr ?_) _ _ _ ?_; focus (simp; done)))
           · intro k hk
             right
             simp only [Value.ownBlock, Option.some.injEq] at hk
             omega
         have F5 := hFB.out w5 K35
         clear hs5)
      | (refine step_appX (P := Try.prog) elW ?_ (.tmp 101) (.tmp 102) ?_ (.slice (some ⟨w3.heap.size + 1, 0, none⟩) 0 0) 0 [] ?_ ?_ A b off n c (ms.map rv) ?_ ?_ ?_ ?_ rv_one ?_ ?_ ?_
         · rfl
         · rfl
         · rfl
         · repeat (first | with_reducible exact own_new _ (by simp) | with_reducible refine World.ownsRow.alloc ?_ _ | with_reducible refine World.ownsRow.drew ?_ | (refine own_setCells ?_ ?_; rotate_left; focus (simp [Value.ownBlock]; omega)))
         · rfl
         · exact hA.out
         · exact nl.out
         · refine M3.out _ ?_
           repeat (first | with_reducible exact Keeps.refl _ _ | with_reducible refine Keeps.alloc ?_ _ | with_reducible refine Keeps.drew ?_ | (refine Keeps.setCells (.inr ?_) _ _ _ ?_; focus (simp; done)))
         · simp only [maxLen]; omega
         · omega
         intro v5 w5 ho5 hg5 hf5 hs5
         obtain ⟨A5, cap5, rfl⟩ := Own.isSlice ho5
         have K35 : Keeps NoBlock w3 w5 := by
           refine Keeps.grown ?_ hg5 ?_
           · repeat (first | with_reducible exact Keeps.refl _ _ | with_reducible refine Keeps.alloc ?_ _ | with_reducible refine Keeps.drew ?_ | (refine Keeps.setCells (.inr ?_) _ _ _ ?_; focus (simp; done)))
           · intro k hk
             right
             simp only [Value.ownBlock, Option.some.injEq] at hk
             omega
         have F5 := hFB.out w5 K35
         clear hs5)
      | (trace_state; fail))
    all_goals go_wp2_with fail
    all_goals go_meet
    all_goals refine ⟨_, _, _, rfl, rfl, ?_⟩
    all_goals
      have hof : Own w5 26 1 (.slice A5 n cap5) n (ms.map rv) := by simpa using ho5
      have hob : (Value.slice A5 (0 + n) cap5).ownBlock = (Value.slice A5 n cap5).ownBlock := by cases A5 <;> rfl
      rw [hob] at hf5
      simp only [World.size_alloc, World.size_drew, Value.ownBlock, Option.some.injEq] at hf5
      have hok : ∀ k, (Value.slice A5 n cap5).ownBlock = some k → w3.heap.size ≤ k := fun k hk => by have := hf5 k hk; omega
      first
      | (with_reducible refine want_new ?_ ?_ ?_; exact K35; exact hof; exact hok)
      | (with_reducible refine want_set ?_ ?_ ?_ ?_ ?_ ?_
         · exact K35
         · exact hof
         · exact hok
         · omega
         · intro e
           have := hf5 _ e
           omega
         · exact Z5)
  case rest =>
    obtain ⟨bw, A5, c5, rfl, rfl, WT⟩ := hcut
    clear M3 nl hFB lf x0 x1 x2 x3 x4 x5 x6 x7 x8 x9
    have Hlo := Lib.hid WT.lo
    have i0 : wc.cell? ⟨w.heap.size + 1, 0, none⟩ = some (.int .i64 17) := (WT.kp.cell (lt_of_block Bi3.out) (fun h => h)).trans (cell_of_block (o := 0) Bi3.out rfl)
    have i1 : wc.cell? ⟨w.heap.size + 1, 1, none⟩ = some (.int .i64 k) := (WT.kp.cell (lt_of_block Bi3.out) (fun h => h)).trans (cell_of_block (o := 1) Bi3.out rfl)
    have i2 : wc.cell? ⟨w.heap.size + 1, 2, none⟩ = some (.int .i64 b1) := (WT.kp.cell (lt_of_block Bi3.out) (fun h => h)).trans (cell_of_block (o := 2) Bi3.out rfl)
    have i4 : wc.cell? ⟨w.heap.size + 1, 4, none⟩ = some (.int .u64 N) := (WT.kp.cell (lt_of_block Bi3.out) (fun h => h)).trans (cell_of_block (o := 4) Bi3.out rfl)
    have x1 : wc.cell? ⟨w.heap.size, 1, none⟩ = some (.int .i64 P) := (WT.kp.cell (lt_of_block Bf3.out) (fun h => h)).trans (cell_of_block (o := 1) Bf3.out rfl)
    have y1 : wc.cell? ⟨bw, 1, none⟩ = some (.int .i64 P) := cell_of_block (o := 1) WT.bl rfl
    have f1 := frozen_of_block WT.bl (o := 1)
    have hb1 : bw ≠ w.heap.size + 1 := by have := lt_of_block Bi3.out; have := WT.lo; omega
    have hb2 : w.heap.size + 1 ≠ bw := by omega
    have hb3 : bw ≠ w.heap.size := by have := lt_of_block Bf3.out; have := WT.lo; omega
    have hb4 : w.heap.size ≠ bw := by omega
    have xk := (WT.kp.cell (lt_of_block Bf3.out) (fun h => h)).trans (eight_cells Bf3.out hx)
    have hk0 : (0 : Int) ≤ (k : Int) := by omega
    have hk8 : (k : Int) < 8 := by omega
    clear hx
    have HWT := Lib.hid WT
    clear WT
    go_upto_region 32 with fail
    generalize hW : World.setCell wc _ _ = W7
    clear i0 i1 i2 i4 x1 y1 f1 hb1 hb2 hb3 hb4
    have bl := HWT.out.bl
    have K7 : Hid (Keeps NoBlock w3 W7) := by
      show Keeps _ _ _
      rw [← hW]
      exact HWT.out.kp.set (.inr Hlo.out) _
    have Bw7 : Hid (W7.heap[bw]? = some (.cells #[.int .i64 F, .int .i64 P2, .int .u64 r0, .int .u64 r1, .int .u64 r2, .int .u64 r3, .int .u64 r4, .int .u64 r5, .int .u64 r6, .int .u64 r7] 29 (0, 0))) := by
      show _ = _
      rw [← hW]
      exact block_set bl _
    have R7 : Hid (ReadsI .u64 W7 (.slice A5 n c5) ms) := by
      show ReadsI _ _ _ _
      rw [← hW]
      exact own_reads hml.out (own_set1 HWT.out.own HWT.out.ne)
    clear hW bl HWT
    have Bg7 := Lib.hid ((K7.out.block _ (lt_of_block Bg3.out) (fun h => h)).trans Bg3.out)
    have H7 := Lib.hid ((K7.out.block _ (lt_of_block H3.out) (fun h => h)).trans H3.out)
    clear H3 Bg3 Bf3 Bi3
    have K07 := Lib.hid (K3.out.trans K7.out (fun _ _ h => h))
    go_wp2_with fail
    refine (awake03_calls _).mono ?_
    rintro e w8 ⟨rfl, k8⟩
    have Bg8 := (k8.block _ (lt_of_block Bg7.out) (fun h => h)).trans Bg7.out
    have Bw8 := (k8.block _ (lt_of_block Bw7.out) (fun h => h)).trans Bw7.out
    have H8 := Lib.hid ((k8.block _ (lt_of_block H7.out) (fun h => h)).trans H7.out)
    have R8 := Lib.hid (R7.out.keeps k8 (fun _ _ h => h))
    have K08 := Lib.hid (K07.out.trans k8 (fun _ _ h => h))
    have x0 : w8.cell? ⟨w1.heap.size, 0, none⟩ = some (.int .i64 F) := cell_of_block (o := 0) Bg8 rfl
    have x1 : w8.cell? ⟨w1.heap.size, 1, none⟩ = some (.int .i64 P2) := cell_of_block (o := 1) Bg8 rfl
    have x2 : w8.cell? ⟨w1.heap.size, 2, none⟩ = some (.int .u64 r0) := cell_of_block (o := 2) Bg8 rfl
    have x3 : w8.cell? ⟨w1.heap.size, 3, none⟩ = some (.int .u64 r1) := cell_of_block (o := 3) Bg8 rfl
    have x4 : w8.cell? ⟨w1.heap.size, 4, none⟩ = some (.int .u64 r2) := cell_of_block (o := 4) Bg8 rfl
    have x5 : w8.cell? ⟨w1.heap.size, 5, none⟩ = some (.int .u64 r3) := cell_of_block (o := 5) Bg8 rfl
    have x6 : w8.cell? ⟨w1.heap.size, 6, none⟩ = some (.int .u64 r4) := cell_of_block (o := 6) Bg8 rfl
    have x7 : w8.cell? ⟨w1.heap.size, 7, none⟩ = some (.int .u64 r5) := cell_of_block (o := 7) Bg8 rfl
    have x8 : w8.cell? ⟨w1.heap.size, 8, none⟩ = some (.int .u64 r6) := cell_of_block (o := 8) Bg8 rfl
    have x9 : w8.cell? ⟨w1.heap.size, 9, none⟩ = some (.int .u64 r7) := cell_of_block (o := 9) Bg8 rfl
    have y0 : w8.cell? ⟨bw, 0, none⟩ = some (.int .i64 F) := cell_of_block (o := 0) Bw8 rfl
    have y1 : w8.cell? ⟨bw, 1, none⟩ = some (.int .i64 P2) := cell_of_block (o := 1) Bw8 rfl
    have y2 : w8.cell? ⟨bw, 2, none⟩ = some (.int .u64 r0) := cell_of_block (o := 2) Bw8 rfl
    have y3 : w8.cell? ⟨bw, 3, none⟩ = some (.int .u64 r1) := cell_of_block (o := 3) Bw8 rfl
    have y4 : w8.cell? ⟨bw, 4, none⟩ = some (.int .u64 r2) := cell_of_block (o := 4) Bw8 rfl
    have y5 : w8.cell? ⟨bw, 5, none⟩ = some (.int .u64 r3) := cell_of_block (o := 5) Bw8 rfl
    have y6 : w8.cell? ⟨bw, 6, none⟩ = some (.int .u64 r4) := cell_of_block (o := 6) Bw8 rfl
    have y7 : w8.cell? ⟨bw, 7, none⟩ = some (.int .u64 r5) := cell_of_block (o := 7) Bw8 rfl
    have y8 : w8.cell? ⟨bw, 8, none⟩ = some (.int .u64 r6) := cell_of_block (o := 8) Bw8 rfl
    have y9 : w8.cell? ⟨bw, 9, none⟩ = some (.int .u64 r7) := cell_of_block (o := 9) Bw8 rfl
    clear Bg8 Bw8 k8
    have heq := fun w => equalFrm F P2 r0 r1 r2 r3 r4 r5 r6 r7 w
    have hgf := guardFrm
    go_wp2_with fail
    refine (words_calls _ _ ms ms _ (reads_cells hml2.out H8.out) R8.out (by have := hml2.out; omega) (by have := hml2.out; omega)).mono ?_
    rintro e w9 ⟨rfl, k9⟩
    rw [decide_eq_true rfl]
    go_wp2_with fail
    go_ret
    exact ⟨rfl, (K08.out.trans k9 (fun _ _ h => h)).below (Nat.le_refl _) (fun _ h => h.elim)⟩


end Fr
end Go.Proofs.Ytlnoejmckpimnaa
namespace Go.Proofs.Ytlnoejmckpimnaa
open Go.RowKit Ieee
namespace Fr

set_option maxRecDepth 100000 in
set_option maxHeartbeats 4000000 in
theorem plains_load (F P r0 r1 r2 r3 r4 r5 r6 r7 N P2 q0 q1 q2 q3 q4 q5 q6 q7: Int) (k l x : Nat) (v c0 : Int) (A : Option Addr) (b off n c : Nat) (ms : List Int) (w : World)
    (hr : Hid (plainF ⟨F, P, [r0, r1, r2, r3, r4, r5, r6, r7]⟩ (18, k, l, c0, N) ms = .ok (⟨F, P2, [q0, q1, q2, q3, q4, q5, q6, q7]⟩, ms)))
    (hk : k < 8) (hl : l < 8) (hx : [r0, r1, r2, r3, r4, r5, r6, r7][l]? = some (x : Int)) (hv : ms[x]? = some v) (hP : IntKind.i64.wrap (P + 1) = P2) (hq : Hid ([r0, r1, r2, r3, r4, r5, r6, r7].set k v = [q0, q1, q2, q3, q4, q5, q6, q7])) (hn : n ≤ 200) (hml : Hid (ms.length = n))
    (hA : Hid (0 < n → A = some ⟨b, off, none⟩)) (hm : Hid (∀ W, Keeps NoBlock w W → ∀ (j : Nat) (x : Int), ms[j]? = some x → W.cell? ⟨b, off + j, none⟩ = some (rv x)))
    (hpl : Hid (∀ W, Keeps NoBlock w W → n ≤ 200 → Calls Try.prog 15 #[.agg #[.int .i64 F, .int .i64 P, .int .u64 r0, .int .u64 r1, .int .u64 r2, .int .u64 r3, .int .u64 r4, .int .u64 r5, .int .u64 r6, .int .u64 r7], .agg #[.int .i64 18, .int .i64 k, .int .i64 l, .int .i64 c0, .int .u64 N], .slice A n c] W (PlainPost W (plainF ⟨F, P, [r0, r1, r2, r3, r4, r5, r6, r7]⟩ (18, k, l, c0, N) ms)))) :
    Calls Try.prog 5 #[.agg #[.int .i64 F, .int .i64 P, .int .u64 r0, .int .u64 r1, .int .u64 r2, .int .u64 r3, .int .u64 r4, .int .u64 r5, .int .u64 r6, .int .u64 r7], .agg #[.int .i64 18, .int .i64 k, .int .i64 l, .int .i64 c0, .int .u64 N], .slice A n c] w fun e w' => e = .returned (.bool true) ∧ Below w.heap.size w w' := by
  have hml2 := hml
  have hxn : x < n := by have := (List.getElem?_eq_some_iff.1 hv).1; have := hml.out; omega
  have hbb := World.block_lt_of_cell? w _ (hm.out w (Keeps.refl _ _) x v hv)
  simp only [] at hbb
  have Hk : Hid (okR (k : Int) = true) := by unfold Hid okR; rw [decide_eq_true_iff]; omega
  have Hl : Hid (okR (l : Int) = true) := by unfold Hid okR; rw [decide_eq_true_iff]; omega
  have hg : decide ((200 : Int) < (n : Int)) = false := by simp; omega
  go_enter Try.func5, Try.ntmps5
  go_wp2_with fail
  generalize hW : World.alloc (World.alloc w _) _ = W
  have Kw : Hid (Keeps NoBlock w W) := by
    show Keeps _ _ _
    rw [← hW]
    exact ((Keeps.refl NoBlock w).alloc _).alloc _
  have Bf : Hid (W.heap[w.heap.size]? = some (.cells #[.int .i64 F, .int .i64 P, .int .u64 r0, .int .u64 r1, .int .u64 r2, .int .u64 r3, .int .u64 r4, .int .u64 r5, .int .u64 r6, .int .u64 r7] 29 (0, 0))) := by show _ = _; rw [← hW]; exact block_alloc_old (block_alloc_new _ _)
  have Bi : Hid (W.heap[w.heap.size + 1]? = some (.cells #[.int .i64 18, .int .i64 k, .int .i64 l, .int .i64 c0, .int .u64 N] 31 (0, 0))) := by show _ = _; rw [← hW]; exact blk_new (by simp)
  clear hW
  refine (hpl.out W Kw.out (by omega)).mono ?_
  clear hg
  rintro e w1 ⟨k1, hres⟩
  have Bf1 := Lib.hid ((k1.block _ (lt_of_block Bf.out) (fun h => h)).trans Bf.out)
  have Bi1 := Lib.hid ((k1.block _ (lt_of_block Bi.out) (fun h => h)).trans Bi.out)
  have K1 := Lib.hid (Kw.out.trans k1 (fun _ _ h => h))
  clear k1 hpl Kw Bf Bi
  rw [hr.out] at hres
  obtain ⟨g1, he, hg1, hb1⟩ := hres
  have hg1 := Lib.hid hg1
  have hb1 := Lib.hid hb1
  have he2 : e = .returned (.tuple #[.agg #[.int .i64 F, .int .i64 P2, .int .u64 q0, .int .u64 q1, .int .u64 q2, .int .u64 q3, .int .u64 q4, .int .u64 q5, .int .u64 q6, .int .u64 q7], .slice (some ⟨g1, 0, none⟩) n n, .int .i64 0]) := by rw [← hml2.out]; exact he
  subst he2
  clear he hr
  go_upto_region 4 with fail
  generalize hW : World.alloc w1 _ = W2
  have K2 : Hid (Keeps NoBlock w W2) := by show Keeps _ _ _; rw [← hW]; exact K1.out.alloc _
  have Bf2 : Hid (W2.heap[w.heap.size]? = some (.cells #[.int .i64 F, .int .i64 P, .int .u64 r0, .int .u64 r1, .int .u64 r2, .int .u64 r3, .int .u64 r4, .int .u64 r5, .int .u64 r6, .int .u64 r7] 29 (0, 0))) := by show _ = _; rw [← hW]; exact block_alloc_old Bf1.out
  have Bi2 : Hid (W2.heap[w.heap.size + 1]? = some (.cells #[.int .i64 18, .int .i64 k, .int .i64 l, .int .i64 c0, .int .u64 N] 31 (0, 0))) := by show _ = _; rw [← hW]; exact block_alloc_old Bi1.out
  have Bg2 : Hid (W2.heap[w1.heap.size]? = some (.cells #[.int .i64 F, .int .i64 P2, .int .u64 q0, .int .u64 q1, .int .u64 q2, .int .u64 q3, .int .u64 q4, .int .u64 q5, .int .u64 q6, .int .u64 q7] 29 (0, 0))) := by show _ = _; rw [← hW]; exact block_alloc_new _ _
  have H2 : Hid (W2.heap[g1]? = some (.cells (mC ms) 26 (0, 0))) := by show _ = _; rw [← hW]; exact block_alloc_old hb1.out
  clear hW Bf1 Bi1 K1 hb1
  have i0 : W2.cell? ⟨w.heap.size + 1, 0, none⟩ = some (.int .i64 18) := cell_of_block (o := 0) Bi2.out rfl
  go_wp2_with fail
  refine (has_calls 18 _).mono ?_
  rintro e w3 ⟨rfl, k3⟩
  have Bf3 := Lib.hid ((k3.block _ (lt_of_block Bf2.out) (fun h => h)).trans Bf2.out)
  have Bi3 := Lib.hid ((k3.block _ (lt_of_block Bi2.out) (fun h => h)).trans Bi2.out)
  have Bg3 := Lib.hid ((k3.block _ (lt_of_block Bg2.out) (fun h => h)).trans Bg2.out)
  have H3 := Lib.hid ((k3.block _ (lt_of_block H2.out) (fun h => h)).trans H2.out)
  have K3 := Lib.hid (K2.out.trans k3 (fun _ _ h => h))
  clear k3 i0 Bf2 Bi2 Bg2 H2 K2
  have i0 : w3.cell? ⟨w.heap.size + 1, 0, none⟩ = some (.int .i64 18) := cell_of_block (o := 0) Bi3.out rfl
  have i1 : w3.cell? ⟨w.heap.size + 1, 1, none⟩ = some (.int .i64 k) := cell_of_block (o := 1) Bi3.out rfl
  have i2 : w3.cell? ⟨w.heap.size + 1, 2, none⟩ = some (.int .i64 l) := cell_of_block (o := 2) Bi3.out rfl
  have i3 : w3.cell? ⟨w.heap.size + 1, 3, none⟩ = some (.int .i64 c0) := cell_of_block (o := 3) Bi3.out rfl
  have i4 : w3.cell? ⟨w.heap.size + 1, 4, none⟩ = some (.int .u64 N) := cell_of_block (o := 4) Bi3.out rfl
  have hs1 : str (hasS 18) = { data := #[65, 66, 110] } := rfl
  rw [hs1]
  clear hs1
  go_wp2_with fail
  refine (lreg_calls k _).mono ?_
  rintro e w5 ⟨rfl, rfl⟩
  rw [Hk.out]
  go_wp2_with fail
  refine (lreg_calls l _).mono ?_
  rintro e w5 ⟨rfl, rfl⟩
  rw [Hl.out]
  go_upto_region 10 with fail
  have M3 : Hid (∀ W', Keeps NoBlock w3 W' → ∀ j u, (ms.map rv)[j]? = some u → W'.cell? ⟨b, off + j, none⟩ = some u) := fun W' k => ms_news hm.out K3.out k
  have nl : Hid ((ms.map rv).length = n * 1) := by show _ = _; rw [List.length_map, hml.out]; omega
  have x0 : w3.cell? ⟨w.heap.size, 0, none⟩ = some (.int .i64 F) := cell_of_block (o := 0) Bf3.out rfl
  have x1 : w3.cell? ⟨w.heap.size, 1, none⟩ = some (.int .i64 P) := cell_of_block (o := 1) Bf3.out rfl
  have x2 : w3.cell? ⟨w.heap.size, 2, none⟩ = some (.int .u64 r0) := cell_of_block (o := 2) Bf3.out rfl
  have x3 : w3.cell? ⟨w.heap.size, 3, none⟩ = some (.int .u64 r1) := cell_of_block (o := 3) Bf3.out rfl
  have x4 : w3.cell? ⟨w.heap.size, 4, none⟩ = some (.int .u64 r2) := cell_of_block (o := 4) Bf3.out rfl
  have x5 : w3.cell? ⟨w.heap.size, 5, none⟩ = some (.int .u64 r3) := cell_of_block (o := 5) Bf3.out rfl
  have x6 : w3.cell? ⟨w.heap.size, 6, none⟩ = some (.int .u64 r4) := cell_of_block (o := 6) Bf3.out rfl
  have x7 : w3.cell? ⟨w.heap.size, 7, none⟩ = some (.int .u64 r5) := cell_of_block (o := 7) Bf3.out rfl
  have x8 : w3.cell? ⟨w.heap.size, 8, none⟩ = some (.int .u64 r6) := cell_of_block (o := 8) Bf3.out rfl
  have x9 : w3.cell? ⟨w.heap.size, 9, none⟩ = some (.int .u64 r7) := cell_of_block (o := 9) Bf3.out rfl
  have lf := lt_of_block Bf3.out
  have hFB : Hid (∀ w', Keeps NoBlock w3 w' → w'.cell? ⟨w.heap.size, 0, none⟩ = some (.int .i64 F) ∧ w'.cell? ⟨w.heap.size, 1, none⟩ = some (.int .i64 P) ∧ w'.cell? ⟨w.heap.size, 2, none⟩ = some (.int .u64 r0) ∧ w'.cell? ⟨w.heap.size, 3, none⟩ = some (.int .u64 r1) ∧ w'.cell? ⟨w.heap.size, 4, none⟩ = some (.int .u64 r2) ∧ w'.cell? ⟨w.heap.size, 5, none⟩ = some (.int .u64 r3) ∧ w'.cell? ⟨w.heap.size, 6, none⟩ = some (.int .u64 r4) ∧ w'.cell? ⟨w.heap.size, 7, none⟩ = some (.int .u64 r5) ∧ w'.cell? ⟨w.heap.size, 8, none⟩ = some (.int .u64 r6) ∧ w'.cell? ⟨w.heap.size, 9, none⟩ = some (.int .u64 r7)) := fun w' k => ten_at ((k.block _ (lt_of_block Bf3.out) (fun h => h)).trans Bf3.out)
  clear i0 i1 i2 i3 i4
  go_cut [14, 15] from 100 to 103 (fun v14 v15 wx => ∃ bw A5 c5, v14 = .pointer (some ⟨bw, 0, none⟩) ∧ v15 = .slice A5 n c5 ∧ Want w3 wx n bw (.slice A5 n c5) ms #[.int .i64 F, .int .i64 P, .int .u64 r0, .int .u64 r1, .int .u64 r2, .int .u64 r3, .int .u64 r4, .int .u64 r5, .int .u64 r6, .int .u64 r7])
  case first =>
    go_region_held3 (fun w' => w'.cell? ⟨w.heap.size, 0, none⟩ = some (.int .i64 F) ∧ w'.cell? ⟨w.heap.size, 1, none⟩ = some (.int .i64 P) ∧ w'.cell? ⟨w.heap.size, 2, none⟩ = some (.int .u64 r0) ∧ w'.cell? ⟨w.heap.size, 3, none⟩ = some (.int .u64 r1) ∧ w'.cell? ⟨w.heap.size, 4, none⟩ = some (.int .u64 r2) ∧ w'.cell? ⟨w.heap.size, 5, none⟩ = some (.int .u64 r3) ∧ w'.cell? ⟨w.heap.size, 6, none⟩ = some (.int .u64 r4) ∧ w'.cell? ⟨w.heap.size, 7, none⟩ = some (.int .u64 r5) ∧ w'.cell? ⟨w.heap.size, 8, none⟩ = some (.int .u64 r6) ∧ w'.cell? ⟨w.heap.size, 9, none⟩ = some (.int .u64 r7)) (first | (refine hFB.out _ ?_; repeat (first | with_reducible exact K35 | with_reducible exact Keeps.refl _ _ | with_reducible refine Keeps.alloc ?_ _ | with_reducible refine Keeps.drew ?_ | (with_reducible refine Keeps.set ?_ (.inr ?_) _; rotate_left; focus (simp; done)) | (with_reducible refine Keeps.setCells (.inr ?_) _ _ _ ?_; focus (simp; done)))))
      (first
      | (refine step_appX (P := Try.prog) elW ?_ (.tmp 101) (.tmp 102) ?_ (.slice (some ⟨w3.heap.size, 0, none⟩) 0 0) 0 [] ?_ ?_ A b off n c (ms.map rv) ?_ ?_ ?_ ?_ rv_one ?_ ?_ ?_
         · rfl
         · rfl
         · rfl
         · repeat (first | with_reducible exact own_new _ (by simp) | with_reducible refine World.ownsRow.alloc ?_ _ | with_reducible refine World.ownsRow.drew ?_ | (refine own_setCells ?_ ?_; rotate_left; focus (simp [Value.ownBlock]; omega)))
         · rfl
         · exact hA.out
         · exact nl.out
         · refine M3.out _ ?_
           repeat (first | with_reducible exact Keeps.refl _ _ | with_reducible refine Keeps.alloc ?_ _ | with_reducible refine Keeps.drew ?_ | (refine Keeps.setCells (.inr ?_) _ _ _ ?_; focus (simp; done)))
         · simp only [maxLen]; omega
         · omega
         intro v5 w5 ho5 hg5 hf5 hs5
         obtain ⟨A5, cap5, rfl⟩ := Own.isSlice ho5
         have K35 : Keeps NoBlock w3 w5 := by
           refine Keeps.grown ?_ hg5 ?_
           · repeat (first | with_reducible exact Keeps.refl _ _ | with_reducible refine Keeps.alloc ?_ _ | with_reducible refine Keeps.drew ?_ | (refine Keeps.setCells (.inr ?_) _ _ _ ?_; focus (simp; done)))
           · intro k hk
             right
             simp only [Value.ownBlock, Option.some.injEq] at hk
             omega
         have F5 := hFB.out w5 K35
         have Z5 : w5.heap[w3.heap.size + 1]? = some (.cells #[.int .i64 0, .int .i64 0, .int .u64 0, .int .u64 0, .int .u64 0, .int .u64 0, .int .u64 0, .int .u64 0, .int .u64 0, .int .u64 0] 29 (0, 0)) := by
           refine blk_grown hg5 ?_ ?_
           · simp [Value.ownBlock]
           · first | exact block_alloc_new _ _ | (refine block_alloc_old ?_; exact block_alloc_new _ _) | (refine blk_new ?_; simp; done) | (refine block_alloc_old ?_; refine blk_drew ?_; exact block_alloc_new _ _)
         obtain ⟨f0, f1, f2, f3, f4, f5, f6, f7, f8, f9⟩ := ten_frozen Z5
         have lz := lt_of_block Z5
         obtain ⟨y0, y1, y2, y3, y4, y5, y6, y7, y8, y9⟩ := ten_at Z5
         clear F5
         clear hs5)
      | (refine step_appX (P := Try.prog) elW ?_ (.tmp 101) (.tmp 102) ?_ (.slice (some ⟨w3.heap.size + 1, 0, none⟩) 0 0) 0 [] ?_ ?_ A b off n c (ms.map rv) ?_ ?_ ?_ ?_ rv_one ?_ ?_ ?_
         · rfl
         · rfl
         · rfl
         · repeat (first | with_reducible exact own_new _ (by simp) | with_reducible refine World.ownsRow.alloc ?_ _ | with_reducible refine World.ownsRow.drew ?_ | (refine own_setCells ?_ ?_; rotate_left; focus (simp [Value.ownBlock]; omega)))
         · rfl
         · exact hA.out
         · exact nl.out
         · refine M3.out _ ?_
           repeat (first | with_reducible exact Keeps.refl _ _ | with_reducible refine Keeps.alloc ?_ _ | with_reducible refine Keeps.drew ?_ | (refine Keeps.setCells (.inr ?_) _ _ _ ?_; focus (simp; done)))
         · simp only [maxLen]; omega
         · omega
         intro v5 w5 ho5 hg5 hf5 hs5
         obtain ⟨A5, cap5, rfl⟩ := Own.isSlice ho5
         have K35 : Keeps NoBlock w3 w5 := by
           refine Keeps.grown ?_ hg5 ?_
           · repeat (first | with_reducible exact Keeps.refl _ _ | with_reducible refine Keeps.alloc ?_ _ | with_reducible refine Keeps.drew ?_ | (refine Keeps.setCells (.inr ?_) _ _ _ ?_; focus (simp; done)))
           · intro k hk
             right
             simp only [Value.ownBlock, Option.some.injEq] at hk
             omega
         have F5 := hFB.out w5 K35
         have Z5 : w5.heap[w3.heap.size]? = some (.cells #[.int .i64 0, .int .i64 0, .int .u64 0, .int .u64 0, .int .u64 0, .int .u64 0, .int .u64 0, .int .u64 0, .int .u64 0, .int .u64 0] 29 (0, 0)) := by
           refine blk_grown hg5 ?_ ?_
           · simp [Value.ownBlock]
           · first | exact block_alloc_new _ _ | (refine block_alloc_old ?_; exact block_alloc_new _ _) | (refine blk_new ?_; simp; done) | (refine block_alloc_old ?_; refine blk_drew ?_; exact block_alloc_new _ _)
         obtain ⟨f0, f1, f2, f3, f4, f5, f6, f7, f8, f9⟩ := ten_frozen Z5
         have lz := lt_of_block Z5
         obtain ⟨y0, y1, y2, y3, y4, y5, y6, y7, y8, y9⟩ := ten_at Z5
         clear F5
         clear hs5)
      | (refine step_appX (P := Try.prog) elW ?_ (.tmp 101) (.tmp 102) ?_ (.slice (some ⟨w3.heap.size, 0, none⟩) 0 0) 0 [] ?_ ?_ A b off n c (ms.map rv) ?_ ?_ ?_ ?_ rv_one ?_ ?_ ?_
         · rfl
         · rfl
         · rfl
         · repeat (first | with_reducible exact own_new _ (by simp) | with_reducible refine World.ownsRow.alloc ?_ _ | with_reducible refine World.ownsRow.drew ?_ | (refine own_setCells ?_ ?_; rotate_left; focus (simp [Value.ownBlock]; omega)))
         · rfl
         · exact hA.out
         · exact nl.out
         · refine M3.out _ ?_
           repeat (first | with_reducible exact Keeps.refl _ _ | with_reducible refine Keeps.alloc ?_ _ | with_reducible refine Keeps.drew ?_ | (refine Keeps.setCells (.inr ?_) _ _ _ ?_; focus (simp; done)))
         · simp only [maxLen]; omega
         · omega
         intro v5 w5 ho5 hg5 hf5 hs5
         obtain ⟨A5, cap5, rfl⟩ := Own.isSlice ho5
         have K35 : Keeps NoBlock w3 w5 := by
           refine Keeps.grown ?_ hg5 ?_
           · repeat (first | with_reducible exact Keeps.refl _ _ | with_reducible refine Keeps.alloc ?_ _ | with_reducible refine Keeps.drew ?_ | (refine Keeps.setCells (.inr ?_) _ _ _ ?_; focus (simp; done)))
           · intro k hk
             right
             simp only [Value.ownBlock, Option.some.injEq] at hk
             omega
         have F5 := hFB.out w5 K35
         clear hs5)
      | (refine step_appX (P := Try.prog) elW ?_ (.tmp 101) (.tmp 102) ?_ (.slice (some ⟨w3.heap.size + 1, 0, none⟩) 0 0) 0 [] ?_ ?_ A b off n c (ms.map rv) ?_ ?_ ?_ ?_ rv_one ?_ ?_ ?_
         · rfl
         · rfl
         · rfl
         · repeat (first | with_reducible exact own_new _ (by simp) | with_reducible refine World.ownsRow.alloc ?_ _ | with_reducible refine World.ownsRow.drew ?_ | (refine own_setCells ?_ ?_; rotate_left; focus (simp [Value.ownBlock]; omega)))
         · rfl
         · exact hA.out
         · exact nl.out
         · refine M3.out _ ?_
           repeat (first | with_reducible exact Keeps.refl _ _ | with_reducible refine Keeps.alloc ?_ _ | with_reducible refine Keeps.drew ?_ | (refine Keeps.setCells (.inr ?_) _ _ _ ?_; focus (simp; done)))
         · simp only [maxLen]; omega
         · omega
         intro v5 w5 ho5 hg5 hf5 hs5
         obtain ⟨A5, cap5, rfl⟩ := Own.isSlice ho5
         have K35 : Keeps NoBlock w3 w5 := by
           refine Keeps.grown ?_ hg5 ?_
           · repeat (first | with_reducible exact Keeps.refl _ _ | with_reducible refine Keeps.alloc ?_ _ | with_reducible refine Keeps.drew ?_ | (refine Keeps.setCells (.inr ?_) _ _ _ ?_; focus (simp; done)))
           · intro k hk
             right
             simp only [Value.ownBlock, Option.some.injEq] at hk
             omega
         have F5 := hFB.out w5 K35
         clear hs5)
      | (trace_state; fail))
    all_goals go_wp2_with fail
    all_goals go_meet
    all_goals refine ⟨_, _, _, rfl, rfl, ?_⟩
    all_goals
      have hof : Own w5 26 1 (.slice A5 n cap5) n (ms.map rv) := by simpa using ho5
      have hob : (Value.slice A5 (0 + n) cap5).ownBlock = (Value.slice A5 n cap5).ownBlock := by cases A5 <;> rfl
      rw [hob] at hf5
      simp only [World.size_alloc, World.size_drew, Value.ownBlock, Option.some.injEq] at hf5
      have hok : ∀ k, (Value.slice A5 n cap5).ownBlock = some k → w3.heap.size ≤ k := fun k hk => by have := hf5 k hk; omega
      first
      | (with_reducible refine want_new ?_ ?_ ?_; exact K35; exact hof; exact hok)
      | (with_reducible refine want_set ?_ ?_ ?_ ?_ ?_ ?_
         · exact K35
         · exact hof
         · exact hok
         · omega
         · intro e
           have := hf5 _ e
           omega
         · exact Z5)
  case rest =>
    obtain ⟨bw, A5, c5, rfl, rfl, WT⟩ := hcut
    clear M3 nl hFB lf x0 x1 x2 x3 x4 x5 x6 x7 x8 x9
    have Hlo := Lib.hid WT.lo
    have i0 : wc.cell? ⟨w.heap.size + 1, 0, none⟩ = some (.int .i64 18) := (WT.kp.cell (lt_of_block Bi3.out) (fun h => h)).trans (cell_of_block (o := 0) Bi3.out rfl)
    have i1 : wc.cell? ⟨w.heap.size + 1, 1, none⟩ = some (.int .i64 k) := (WT.kp.cell (lt_of_block Bi3.out) (fun h => h)).trans (cell_of_block (o := 1) Bi3.out rfl)
    have i2 : wc.cell? ⟨w.heap.size + 1, 2, none⟩ = some (.int .i64 l) := (WT.kp.cell (lt_of_block Bi3.out) (fun h => h)).trans (cell_of_block (o := 2) Bi3.out rfl)
    have i4 : wc.cell? ⟨w.heap.size + 1, 4, none⟩ = some (.int .u64 N) := (WT.kp.cell (lt_of_block Bi3.out) (fun h => h)).trans (cell_of_block (o := 4) Bi3.out rfl)
    have x1 : wc.cell? ⟨w.heap.size, 1, none⟩ = some (.int .i64 P) := (WT.kp.cell (lt_of_block Bf3.out) (fun h => h)).trans (cell_of_block (o := 1) Bf3.out rfl)
    have y1 : wc.cell? ⟨bw, 1, none⟩ = some (.int .i64 P) := cell_of_block (o := 1) WT.bl rfl
    have f1 := frozen_of_block WT.bl (o := 1)
    have hb1 : bw ≠ w.heap.size + 1 := by have := lt_of_block Bi3.out; have := WT.lo; omega
    have hb2 : w.heap.size + 1 ≠ bw := by omega
    have hb3 : bw ≠ w.heap.size := by have := lt_of_block Bf3.out; have := WT.lo; omega
    have hb4 : w.heap.size ≠ bw := by omega
    obtain rfl := hA.out (by omega)
    have mv : wc.cell? ⟨b, off + x, none⟩ = some (.int .u64 v) := hm.out wc (K3.out.trans WT.kp (fun _ _ h => h)) x v hv
    have xl := (WT.kp.cell (lt_of_block Bf3.out) (fun h => h)).trans (eight_cells Bf3.out hx)
    obtain ⟨y, hy⟩ : ∃ y, [r0, r1, r2, r3, r4, r5, r6, r7][k]? = some y := ⟨_, List.getElem?_eq_getElem hk⟩
    have yk := eight_cells WT.bl hy
    have fk := frozen_of_block WT.bl (o := 2 + k)
    have hk0 : (0 : Int) ≤ (k : Int) := by omega
    have hk8 : (k : Int) < 8 := by omega
    have hl0 : (0 : Int) ≤ (l : Int) := by omega
    have hl8 : (l : Int) < 8 := by omega
    have hx0 : (0 : Int) ≤ (x : Int) := by omega
    have hxi : (x : Int) < (n : Int) := by omega
    have hwn : IntKind.u64.wrap (n : Int) = (n : Int) := by show (n : Int) % 18446744073709551616 = n; omega
    have hb5 : b ≠ bw := by have := WT.lo; have := K3.out.size; omega
    have hb6 : bw ≠ b := by omega
    clear hy hx hA hm hbb
    have HWT := Lib.hid WT
    clear WT
    go_upto_region 26 with fail
    go_region
    go_upto_region 32 with fail
    generalize hW : World.drew (World.setCell (World.setCell wc _ _) _ _) = W7
    clear mv xl yk fk hk0 hk8 hl0 hl8 hx0 hxi hwn hb5 hb6 i0 i1 i2 i4 x1 y1 f1 hb1 hb2 hb3 hb4
    have bl := HWT.out.bl
    have K7 : Hid (Keeps NoBlock w3 W7) := by
      show Keeps _ _ _
      rw [← hW]
      exact ((HWT.out.kp.set (.inr Hlo.out) _).set (.inr Hlo.out) _).drew
    have Bw7 : Hid (W7.heap[bw]? = some (.cells #[.int .i64 F, .int .i64 P2, .int .u64 q0, .int .u64 q1, .int .u64 q2, .int .u64 q3, .int .u64 q4, .int .u64 q5, .int .u64 q6, .int .u64 q7] 29 (0, 0))) := by
      show _ = _
      rw [← hW]
      rw [← ten_set (F := F) (P := P2) hk hq.out]
      exact block_set (block_set bl _) _
    have R7 : Hid (ReadsI .u64 W7 (.slice A5 n c5) ms) := by
      show ReadsI _ _ _ _
      rw [← hW]
      exact own_reads hml.out (own_drew (own_set1 (own_set1 HWT.out.own HWT.out.ne) HWT.out.ne))
    clear hW bl HWT
    have Bg7 := Lib.hid ((K7.out.block _ (lt_of_block Bg3.out) (fun h => h)).trans Bg3.out)
    have H7 := Lib.hid ((K7.out.block _ (lt_of_block H3.out) (fun h => h)).trans H3.out)
    clear H3 Bg3 Bf3 Bi3
    have K07 := Lib.hid (K3.out.trans K7.out (fun _ _ h => h))
    go_wp2_with fail
    refine (awake03_calls _).mono ?_
    rintro e w8 ⟨rfl, k8⟩
    have Bg8 := (k8.block _ (lt_of_block Bg7.out) (fun h => h)).trans Bg7.out
    have Bw8 := (k8.block _ (lt_of_block Bw7.out) (fun h => h)).trans Bw7.out
    have H8 := Lib.hid ((k8.block _ (lt_of_block H7.out) (fun h => h)).trans H7.out)
    have R8 := Lib.hid (R7.out.keeps k8 (fun _ _ h => h))
    have K08 := Lib.hid (K07.out.trans k8 (fun _ _ h => h))
    have x0 : w8.cell? ⟨w1.heap.size, 0, none⟩ = some (.int .i64 F) := cell_of_block (o := 0) Bg8 rfl
    have x1 : w8.cell? ⟨w1.heap.size, 1, none⟩ = some (.int .i64 P2) := cell_of_block (o := 1) Bg8 rfl
    have x2 : w8.cell? ⟨w1.heap.size, 2, none⟩ = some (.int .u64 q0) := cell_of_block (o := 2) Bg8 rfl
    have x3 : w8.cell? ⟨w1.heap.size, 3, none⟩ = some (.int .u64 q1) := cell_of_block (o := 3) Bg8 rfl
    have x4 : w8.cell? ⟨w1.heap.size, 4, none⟩ = some (.int .u64 q2) := cell_of_block (o := 4) Bg8 rfl
    have x5 : w8.cell? ⟨w1.heap.size, 5, none⟩ = some (.int .u64 q3) := cell_of_block (o := 5) Bg8 rfl
    have x6 : w8.cell? ⟨w1.heap.size, 6, none⟩ = some (.int .u64 q4) := cell_of_block (o := 6) Bg8 rfl
    have x7 : w8.cell? ⟨w1.heap.size, 7, none⟩ = some (.int .u64 q5) := cell_of_block (o := 7) Bg8 rfl
    have x8 : w8.cell? ⟨w1.heap.size, 8, none⟩ = some (.int .u64 q6) := cell_of_block (o := 8) Bg8 rfl
    have x9 : w8.cell? ⟨w1.heap.size, 9, none⟩ = some (.int .u64 q7) := cell_of_block (o := 9) Bg8 rfl
    have y0 : w8.cell? ⟨bw, 0, none⟩ = some (.int .i64 F) := cell_of_block (o := 0) Bw8 rfl
    have y1 : w8.cell? ⟨bw, 1, none⟩ = some (.int .i64 P2) := cell_of_block (o := 1) Bw8 rfl
    have y2 : w8.cell? ⟨bw, 2, none⟩ = some (.int .u64 q0) := cell_of_block (o := 2) Bw8 rfl
    have y3 : w8.cell? ⟨bw, 3, none⟩ = some (.int .u64 q1) := cell_of_block (o := 3) Bw8 rfl
    have y4 : w8.cell? ⟨bw, 4, none⟩ = some (.int .u64 q2) := cell_of_block (o := 4) Bw8 rfl
    have y5 : w8.cell? ⟨bw, 5, none⟩ = some (.int .u64 q3) := cell_of_block (o := 5) Bw8 rfl
    have y6 : w8.cell? ⟨bw, 6, none⟩ = some (.int .u64 q4) := cell_of_block (o := 6) Bw8 rfl
    have y7 : w8.cell? ⟨bw, 7, none⟩ = some (.int .u64 q5) := cell_of_block (o := 7) Bw8 rfl
    have y8 : w8.cell? ⟨bw, 8, none⟩ = some (.int .u64 q6) := cell_of_block (o := 8) Bw8 rfl
    have y9 : w8.cell? ⟨bw, 9, none⟩ = some (.int .u64 q7) := cell_of_block (o := 9) Bw8 rfl
    clear Bg8 Bw8 k8
    have heq := fun w => equalFrm F P2 q0 q1 q2 q3 q4 q5 q6 q7 w
    have hgf := guardFrm
    go_wp2_with fail
    refine (words_calls _ _ ms ms _ (reads_cells hml2.out H8.out) R8.out (by have := hml2.out; omega) (by have := hml2.out; omega)).mono ?_
    rintro e w9 ⟨rfl, k9⟩
    rw [decide_eq_true rfl]
    go_wp2_with fail
    go_ret
    exact ⟨rfl, (K08.out.trans k9 (fun _ _ h => h)).below (Nat.le_refl _) (fun _ h => h.elim)⟩


end Fr
end Go.Proofs.Ytlnoejmckpimnaa
namespace Go.Proofs.Ytlnoejmckpimnaa
open Go.RowKit Ieee
namespace Fr

set_option maxRecDepth 100000 in
set_option maxHeartbeats 4000000 in
theorem plains_store (F P r0 r1 r2 r3 r4 r5 r6 r7 N P2 : Int) (k l x : Nat) (v c0 : Int) (ms2 : List Int) (A : Option Addr) (b off n c : Nat) (ms : List Int) (w : World)
    (hr : Hid (plainF ⟨F, P, [r0, r1, r2, r3, r4, r5, r6, r7]⟩ (19, k, l, c0, N) ms = .ok (⟨F, P2, [r0, r1, r2, r3, r4, r5, r6, r7]⟩, ms2)))
    (hk : k < 8) (hl : l < 8) (hx : [r0, r1, r2, r3, r4, r5, r6, r7][k]? = some (x : Int)) (hy : [r0, r1, r2, r3, r4, r5, r6, r7][l]? = some v) (hxn : x < n) (hms2 : Hid (ms2 = ms.set x v)) (hP : IntKind.i64.wrap (P + 1) = P2) (hn : n ≤ 200) (hml : Hid (ms.length = n))
    (hA : Hid (0 < n → A = some ⟨b, off, none⟩)) (hm : Hid (∀ W, Keeps NoBlock w W → ∀ (j : Nat) (x : Int), ms[j]? = some x → W.cell? ⟨b, off + j, none⟩ = some (rv x)))
    (hpl : Hid (∀ W, Keeps NoBlock w W → n ≤ 200 → Calls Try.prog 15 #[.agg #[.int .i64 F, .int .i64 P, .int .u64 r0, .int .u64 r1, .int .u64 r2, .int .u64 r3, .int .u64 r4, .int .u64 r5, .int .u64 r6, .int .u64 r7], .agg #[.int .i64 19, .int .i64 k, .int .i64 l, .int .i64 c0, .int .u64 N], .slice A n c] W (PlainPost W (plainF ⟨F, P, [r0, r1, r2, r3, r4, r5, r6, r7]⟩ (19, k, l, c0, N) ms)))) :
    Calls Try.prog 5 #[.agg #[.int .i64 F, .int .i64 P, .int .u64 r0, .int .u64 r1, .int .u64 r2, .int .u64 r3, .int .u64 r4, .int .u64 r5, .int .u64 r6, .int .u64 r7], .agg #[.int .i64 19, .int .i64 k, .int .i64 l, .int .i64 c0, .int .u64 N], .slice A n c] w fun e w' => e = .returned (.bool true) ∧ Below w.heap.size w w' := by
  have hml2 : Hid (ms2.length = n) := by show _ = _; rw [hms2.out, List.length_set]; exact hml.out
  have Hk : Hid (okR (k : Int) = true) := by unfold Hid okR; rw [decide_eq_true_iff]; omega
  have Hl : Hid (okR (l : Int) = true) := by unfold Hid okR; rw [decide_eq_true_iff]; omega
  have hg : decide ((200 : Int) < (n : Int)) = false := by simp; omega
  go_enter Try.func5, Try.ntmps5
  go_wp2_with fail
  generalize hW : World.alloc (World.alloc w _) _ = W
  have Kw : Hid (Keeps NoBlock w W) := by
    show Keeps _ _ _
    rw [← hW]
    exact ((Keeps.refl NoBlock w).alloc _).alloc _
  have Bf : Hid (W.heap[w.heap.size]? = some (.cells #[.int .i64 F, .int .i64 P, .int .u64 r0, .int .u64 r1, .int .u64 r2, .int .u64 r3, .int .u64 r4, .int .u64 r5, .int .u64 r6, .int .u64 r7] 29 (0, 0))) := by show _ = _; rw [← hW]; exact block_alloc_old (block_alloc_new _ _)
  have Bi : Hid (W.heap[w.heap.size + 1]? = some (.cells #[.int .i64 19, .int .i64 k, .int .i64 l, .int .i64 c0, .int .u64 N] 31 (0, 0))) := by show _ = _; rw [← hW]; exact blk_new (by simp)
  clear hW
  refine (hpl.out W Kw.out (by omega)).mono ?_
  clear hg
  rintro e w1 ⟨k1, hres⟩
  have Bf1 := Lib.hid ((k1.block _ (lt_of_block Bf.out) (fun h => h)).trans Bf.out)
  have Bi1 := Lib.hid ((k1.block _ (lt_of_block Bi.out) (fun h => h)).trans Bi.out)
  have K1 := Lib.hid (Kw.out.trans k1 (fun _ _ h => h))
  clear k1 hpl Kw Bf Bi
  rw [hr.out] at hres
  obtain ⟨g1, he, hg1, hb1⟩ := hres
  have hg1 := Lib.hid hg1
  have hb1 := Lib.hid hb1
  have he2 : e = .returned (.tuple #[.agg #[.int .i64 F, .int .i64 P2, .int .u64 r0, .int .u64 r1, .int .u64 r2, .int .u64 r3, .int .u64 r4, .int .u64 r5, .int .u64 r6, .int .u64 r7], .slice (some ⟨g1, 0, none⟩) n n, .int .i64 0]) := by rw [← hml2.out]; exact he
  subst he2
  clear he hr
  go_upto_region 4 with fail
  generalize hW : World.alloc w1 _ = W2
  have K2 : Hid (Keeps NoBlock w W2) := by show Keeps _ _ _; rw [← hW]; exact K1.out.alloc _
  have Bf2 : Hid (W2.heap[w.heap.size]? = some (.cells #[.int .i64 F, .int .i64 P, .int .u64 r0, .int .u64 r1, .int .u64 r2, .int .u64 r3, .int .u64 r4, .int .u64 r5, .int .u64 r6, .int .u64 r7] 29 (0, 0))) := by show _ = _; rw [← hW]; exact block_alloc_old Bf1.out
  have Bi2 : Hid (W2.heap[w.heap.size + 1]? = some (.cells #[.int .i64 19, .int .i64 k, .int .i64 l, .int .i64 c0, .int .u64 N] 31 (0, 0))) := by show _ = _; rw [← hW]; exact block_alloc_old Bi1.out
  have Bg2 : Hid (W2.heap[w1.heap.size]? = some (.cells #[.int .i64 F, .int .i64 P2, .int .u64 r0, .int .u64 r1, .int .u64 r2, .int .u64 r3, .int .u64 r4, .int .u64 r5, .int .u64 r6, .int .u64 r7] 29 (0, 0))) := by show _ = _; rw [← hW]; exact block_alloc_new _ _
  have H2 : Hid (W2.heap[g1]? = some (.cells (mC ms2) 26 (0, 0))) := by show _ = _; rw [← hW]; exact block_alloc_old hb1.out
  clear hW Bf1 Bi1 K1 hb1
  have i0 : W2.cell? ⟨w.heap.size + 1, 0, none⟩ = some (.int .i64 19) := cell_of_block (o := 0) Bi2.out rfl
  go_wp2_with fail
  refine (has_calls 19 _).mono ?_
  rintro e w3 ⟨rfl, k3⟩
  have Bf3 := Lib.hid ((k3.block _ (lt_of_block Bf2.out) (fun h => h)).trans Bf2.out)
  have Bi3 := Lib.hid ((k3.block _ (lt_of_block Bi2.out) (fun h => h)).trans Bi2.out)
  have Bg3 := Lib.hid ((k3.block _ (lt_of_block Bg2.out) (fun h => h)).trans Bg2.out)
  have H3 := Lib.hid ((k3.block _ (lt_of_block H2.out) (fun h => h)).trans H2.out)
  have K3 := Lib.hid (K2.out.trans k3 (fun _ _ h => h))
  clear k3 i0 Bf2 Bi2 Bg2 H2 K2
  have i0 : w3.cell? ⟨w.heap.size + 1, 0, none⟩ = some (.int .i64 19) := cell_of_block (o := 0) Bi3.out rfl
  have i1 : w3.cell? ⟨w.heap.size + 1, 1, none⟩ = some (.int .i64 k) := cell_of_block (o := 1) Bi3.out rfl
  have i2 : w3.cell? ⟨w.heap.size + 1, 2, none⟩ = some (.int .i64 l) := cell_of_block (o := 2) Bi3.out rfl
  have i3 : w3.cell? ⟨w.heap.size + 1, 3, none⟩ = some (.int .i64 c0) := cell_of_block (o := 3) Bi3.out rfl
  have i4 : w3.cell? ⟨w.heap.size + 1, 4, none⟩ = some (.int .u64 N) := cell_of_block (o := 4) Bi3.out rfl
  have hs1 : str (hasS 19) = { data := #[65, 66, 110] } := rfl
  rw [hs1]
  clear hs1
  go_wp2_with fail
  refine (lreg_calls k _).mono ?_
  rintro e w5 ⟨rfl, rfl⟩
  rw [Hk.out]
  go_wp2_with fail
  refine (lreg_calls l _).mono ?_
  rintro e w5 ⟨rfl, rfl⟩
  rw [Hl.out]
  go_upto_region 10 with fail
  have M3 : Hid (∀ W', Keeps NoBlock w3 W' → ∀ j u, (ms.map rv)[j]? = some u → W'.cell? ⟨b, off + j, none⟩ = some u) := fun W' k => ms_news hm.out K3.out k
  have nl : Hid ((ms.map rv).length = n * 1) := by show _ = _; rw [List.length_map, hml.out]; omega
  have x0 : w3.cell? ⟨w.heap.size, 0, none⟩ = some (.int .i64 F) := cell_of_block (o := 0) Bf3.out rfl
  have x1 : w3.cell? ⟨w.heap.size, 1, none⟩ = some (.int .i64 P) := cell_of_block (o := 1) Bf3.out rfl
  have x2 : w3.cell? ⟨w.heap.size, 2, none⟩ = some (.int .u64 r0) := cell_of_block (o := 2) Bf3.out rfl
  have x3 : w3.cell? ⟨w.heap.size, 3, none⟩ = some (.int .u64 r1) := cell_of_block (o := 3) Bf3.out rfl
  have x4 : w3.cell? ⟨w.heap.size, 4, none⟩ = some (.int .u64 r2) := cell_of_block (o := 4) Bf3.out rfl
  have x5 : w3.cell? ⟨w.heap.size, 5, none⟩ = some (.int .u64 r3) := cell_of_block (o := 5) Bf3.out rfl
  have x6 : w3.cell? ⟨w.heap.size, 6, none⟩ = some (.int .u64 r4) := cell_of_block (o := 6) Bf3.out rfl
  have x7 : w3.cell? ⟨w.heap.size, 7, none⟩ = some (.int .u64 r5) := cell_of_block (o := 7) Bf3.out rfl
  have x8 : w3.cell? ⟨w.heap.size, 8, none⟩ = some (.int .u64 r6) := cell_of_block (o := 8) Bf3.out rfl
  have x9 : w3.cell? ⟨w.heap.size, 9, none⟩ = some (.int .u64 r7) := cell_of_block (o := 9) Bf3.out rfl
  have lf := lt_of_block Bf3.out
  have hFB : Hid (∀ w', Keeps NoBlock w3 w' → w'.cell? ⟨w.heap.size, 0, none⟩ = some (.int .i64 F) ∧ w'.cell? ⟨w.heap.size, 1, none⟩ = some (.int .i64 P) ∧ w'.cell? ⟨w.heap.size, 2, none⟩ = some (.int .u64 r0) ∧ w'.cell? ⟨w.heap.size, 3, none⟩ = some (.int .u64 r1) ∧ w'.cell? ⟨w.heap.size, 4, none⟩ = some (.int .u64 r2) ∧ w'.cell? ⟨w.heap.size, 5, none⟩ = some (.int .u64 r3) ∧ w'.cell? ⟨w.heap.size, 6, none⟩ = some (.int .u64 r4) ∧ w'.cell? ⟨w.heap.size, 7, none⟩ = some (.int .u64 r5) ∧ w'.cell? ⟨w.heap.size, 8, none⟩ = some (.int .u64 r6) ∧ w'.cell? ⟨w.heap.size, 9, none⟩ = some (.int .u64 r7)) := fun w' k => ten_at ((k.block _ (lt_of_block Bf3.out) (fun h => h)).trans Bf3.out)
  clear i0 i1 i2 i3 i4
  go_cut [14, 15] from 100 to 103 (fun v14 v15 wx => ∃ bw A5 c5, v14 = .pointer (some ⟨bw, 0, none⟩) ∧ v15 = .slice A5 n c5 ∧ Want w3 wx n bw (.slice A5 n c5) ms #[.int .i64 F, .int .i64 P, .int .u64 r0, .int .u64 r1, .int .u64 r2, .int .u64 r3, .int .u64 r4, .int .u64 r5, .int .u64 r6, .int .u64 r7])
  case first =>
    go_region_held3 (fun w' => w'.cell? ⟨w.heap.size, 0, none⟩ = some (.int .i64 F) ∧ w'.cell? ⟨w.heap.size, 1, none⟩ = some (.int .i64 P) ∧ w'.cell? ⟨w.heap.size, 2, none⟩ = some (.int .u64 r0) ∧ w'.cell? ⟨w.heap.size, 3, none⟩ = some (.int .u64 r1) ∧ w'.cell? ⟨w.heap.size, 4, none⟩ = some (.int .u64 r2) ∧ w'.cell? ⟨w.heap.size, 5, none⟩ = some (.int .u64 r3) ∧ w'.cell? ⟨w.heap.size, 6, none⟩ = some (.int .u64 r4) ∧ w'.cell? ⟨w.heap.size, 7, none⟩ = some (.int .u64 r5) ∧ w'.cell? ⟨w.heap.size, 8, none⟩ = some (.int .u64 r6) ∧ w'.cell? ⟨w.heap.size, 9, none⟩ = some (.int .u64 r7)) (first | (refine hFB.out _ ?_; repeat (first | with_reducible exact K35 | with_reducible exact Keeps.refl _ _ | with_reducible refine Keeps.alloc ?_ _ | with_reducible refine Keeps.drew ?_ | (with_reducible refine Keeps.set ?_ (.inr ?_) _; rotate_left; focus (simp; done)) | (with_reducible refine Keeps.setCells (.inr ?_) _ _ _ ?_; focus (simp; done)))))
      (first
      | (refine step_appX (P := Try.prog) elW ?_ (.tmp 101) (.tmp 102) ?_ (.slice (some ⟨w3.heap.size, 0, none⟩) 0 0) 0 [] ?_ ?_ A b off n c (ms.map rv) ?_ ?_ ?_ ?_ rv_one ?_ ?_ ?_
         · rfl
         · rfl
         · rfl
         · repeat (first | with_reducible exact own_new _ (by simp) | with_reducible refine World.ownsRow.alloc ?_ _ | with_reducible refine World.ownsRow.drew ?_ | (refine own_setCells ?_ ?_; rotate_left; focus (simp [Value.ownBlock]; omega)))
         · rfl
         · exact hA.out
         · exact nl.out
         · refine M3.out _ ?_
           repeat (first | with_reducible exact Keeps.refl _ _ | with_reducible refine Keeps.alloc ?_ _ | with_reducible refine Keeps.drew ?_ | (refine Keeps.setCells (.inr ?_) _ _ _ ?_; focus (simp; done)))
         · simp only [maxLen]; omega
         · omega
         intro v5 w5 ho5 hg5 hf5 hs5
         obtain ⟨A5, cap5, rfl⟩ := Own.isSlice ho5
         have K35 : Keeps NoBlock w3 w5 := by
           refine Keeps.grown ?_ hg5 ?_
           · repeat (first | with_reducible exact Keeps.refl _ _ | with_reducible refine Keeps.alloc ?_ _ | with_reducible refine Keeps.drew ?_ | (refine Keeps.setCells (.inr ?_) _ _ _ ?_; focus (simp; done)))
           · intro k hk
             right
             simp only [Value.ownBlock, Option.some.injEq] at hk
             omega
         have F5 := hFB.out w5 K35
         have Z5 : w5.heap[w3.heap.size + 1]? = some (.cells #[.int .i64 0, .int .i64 0, .int .u64 0, .int .u64 0, .int .u64 0, .int .u64 0, .int .u64 0, .int .u64 0, .int .u64 0, .int .u64 0] 29 (0, 0)) := by
           refine blk_grown hg5 ?_ ?_
           · simp [Value.ownBlock]
           · first | exact block_alloc_new _ _ | (refine block_alloc_old ?_; exact block_alloc_new _ _) | (refine blk_new ?_; simp; done) | (refine block_alloc_old ?_; refine blk_drew ?_; exact block_alloc_new _ _)
         obtain ⟨f0, f1, f2, f3, f4, f5, f6, f7, f8, f9⟩ := ten_frozen Z5
         have lz := lt_of_block Z5
         obtain ⟨y0, y1, y2, y3, y4, y5, y6, y7, y8, y9⟩ := ten_at Z5
         clear F5
         clear hs5)
      | (refine step_appX (P := Try.prog) elW ?_ (.tmp 101) (.tmp 102) ?_ (.slice (some ⟨w3.heap.size + 1, 0, none⟩) 0 0) 0 [] ?_ ?_ A b off n c (ms.map rv) ?_ ?_ ?_ ?_ rv_one ?_ ?_ ?_
         · rfl
         · rfl
         · rfl
         · repeat (first | with_reducible exact own_new _ (by simp) | with_reducible refine World.ownsRow.alloc ?_ _ | with_reducible refine World.ownsRow.drew ?_ | (refine own_setCells ?_ ?_; rotate_left; focus (simp [Value.ownBlock]; omega)))
         · rfl
         · exact hA.out
         · exact nl.out
         · refine M3.out _ ?_
           repeat (first | with_reducible exact Keeps.refl _ _ | with_reducible refine Keeps.alloc ?_ _ | with_reducible refine Keeps.drew ?_ | (refine Keeps.setCells (.inr ?_) _ _ _ ?_; focus (simp; done)))
         · simp only [maxLen]; omega
         · omega
         intro v5 w5 ho5 hg5 hf5 hs5
         obtain ⟨A5, cap5, rfl⟩ := Own.isSlice ho5
         have K35 : Keeps NoBlock w3 w5 := by
           refine Keeps.grown ?_ hg5 ?_
           · repeat (first | with_reducible exact Keeps.refl _ _ | with_reducible refine Keeps.alloc ?_ _ | with_reducible refine Keeps.drew ?_ | (refine Keeps.setCells (.inr ?_) _ _ _ ?_; focus (simp; done)))
           · intro k hk
             right
             simp only [Value.ownBlock, Option.some.injEq] at hk
             omega
         have F5 := hFB.out w5 K35
         have Z5 : w5.heap[w3.heap.size]? = some (.cells #[.int .i64 0, .int .i64 0, .int .u64 0, .int .u64 0, .int .u64 0, .int .u64 0, .int .u64 0, .int .u64 0, .int .u64 0, .int .u64 0] 29 (0, 0)) := by
           refine blk_grown hg5 ?_ ?_
           · simp [Value.ownBlock]
           · first | exact block_alloc_new _ _ | (refine block_alloc_old ?_; exact block_alloc_new _ _) | (refine blk_new ?_; simp; done) | (refine block_alloc_old ?_; refine blk_drew ?_; exact block_alloc_new _ _)
         obtain ⟨f0, f1, f2, f3, f4, f5, f6, f7, f8, f9⟩ := ten_frozen Z5
         have lz := lt_of_block Z5
         obtain ⟨y0, y1, y2, y3, y4, y5, y6, y7, y8, y9⟩ := ten_at Z5
         clear F5
         clear hs5)
      | (refine step_appX (P := Try.prog) elW ?_ (.tmp 101) (.tmp 102) ?_ (.slice (some ⟨w3.heap.size, 0, none⟩) 0 0) 0 [] ?_ ?_ A b off n c (ms.map rv) ?_ ?_ ?_ ?_ rv_one ?_ ?_ ?_
         · rfl
         · rfl
         · rfl
         · repeat (first | with_reducible exact own_new _ (by simp) | with_reducible refine World.ownsRow.alloc ?_ _ | with_reducible refine World.ownsRow.drew ?_ | (refine own_setCells ?_ ?_; rotate_left; focus (simp [Value.ownBlock]; omega)))
         · rfl
         · exact hA.out
         · exact nl.out
         · refine M3.out _ ?_
           repeat (first | with_reducible exact Keeps.refl _ _ | with_reducible refine Keeps.alloc ?_ _ | with_reducible refine Keeps.drew ?_ | (refine Keeps.setCells (.inr ?_) _ _ _ ?_; focus (simp; done)))
         · simp only [maxLen]; omega
         · omega
         intro v5 w5 ho5 hg5 hf5 hs5
         obtain ⟨A5, cap5, rfl⟩ := Own.isSlice ho5
         have K35 : Keeps NoBlock w3 w5 := by
           refine Keeps.grown ?_ hg5 ?_
           · repeat (first | with_reducible exact Keeps.refl _ _ | with_reducible refine Keeps.alloc ?_ _ | with_reducible refine Keeps.drew ?_ | (refine Keeps.setCells (.inr ?_) _ _ _ ?_; focus (simp; done)))
           · intro k hk
             right
             simp only [Value.ownBlock, Option.some.injEq] at hk
             omega
         have F5 := hFB.out w5 K35
         clear hs5)
      | (refine step_appX (P := Try.prog) elW ?_ (.tmp 101) (.tmp 102) ?_ (.slice (some ⟨w3.heap.size + 1, 0, none⟩) 0 0) 0 [] ?_ ?_ A b off n c (ms.map rv) ?_ ?_ ?_ ?_ rv_one ?_ ?_ ?_
         · rfl
         · rfl
         · rfl
         · repeat (first | with_reducible exact own_new _ (by simp) | with_reducible refine World.ownsRow.alloc ?_ _ | with_reducible refine World.ownsRow.drew ?_ | (refine own_setCells ?_ ?_; rotate_left; focus (simp [Value.ownBlock]; omega)))
         · rfl
         · exact hA.out
         · exact nl.out
         · refine M3.out _ ?_
           repeat (first | with_reducible exact Keeps.refl _ _ | with_reducible refine Keeps.alloc ?_ _ | with_reducible refine Keeps.drew ?_ | (refine Keeps.setCells (.inr ?_) _ _ _ ?_; focus (simp; done)))
         · simp only [maxLen]; omega
         · omega
         intro v5 w5 ho5 hg5 hf5 hs5
         obtain ⟨A5, cap5, rfl⟩ := Own.isSlice ho5
         have K35 : Keeps NoBlock w3 w5 := by
           refine Keeps.grown ?_ hg5 ?_
           · repeat (first | with_reducible exact Keeps.refl _ _ | with_reducible refine Keeps.alloc ?_ _ | with_reducible refine Keeps.drew ?_ | (refine Keeps.setCells (.inr ?_) _ _ _ ?_; focus (simp; done)))
           · intro k hk
             right
             simp only [Value.ownBlock, Option.some.injEq] at hk
             omega
         have F5 := hFB.out w5 K35
         clear hs5)
      | (trace_state; fail))
    all_goals go_wp2_with fail
    all_goals go_meet
    all_goals refine ⟨_, _, _, rfl, rfl, ?_⟩
    all_goals
      have hof : Own w5 26 1 (.slice A5 n cap5) n (ms.map rv) := by simpa using ho5
      have hob : (Value.slice A5 (0 + n) cap5).ownBlock = (Value.slice A5 n cap5).ownBlock := by cases A5 <;> rfl
      rw [hob] at hf5
      simp only [World.size_alloc, World.size_drew, Value.ownBlock, Option.some.injEq] at hf5
      have hok : ∀ k, (Value.slice A5 n cap5).ownBlock = some k → w3.heap.size ≤ k := fun k hk => by have := hf5 k hk; omega
      first
      | (with_reducible refine want_new ?_ ?_ ?_; exact K35; exact hof; exact hok)
      | (with_reducible refine want_set ?_ ?_ ?_ ?_ ?_ ?_
         · exact K35
         · exact hof
         · exact hok
         · omega
         · intro e
           have := hf5 _ e
           omega
         · exact Z5)
  case rest =>
    obtain ⟨bw, A5, c5, rfl, rfl, WT⟩ := hcut
    clear M3 nl hFB lf x0 x1 x2 x3 x4 x5 x6 x7 x8 x9
    have Hlo := Lib.hid WT.lo
    have i0 : wc.cell? ⟨w.heap.size + 1, 0, none⟩ = some (.int .i64 19) := (WT.kp.cell (lt_of_block Bi3.out) (fun h => h)).trans (cell_of_block (o := 0) Bi3.out rfl)
    have i1 : wc.cell? ⟨w.heap.size + 1, 1, none⟩ = some (.int .i64 k) := (WT.kp.cell (lt_of_block Bi3.out) (fun h => h)).trans (cell_of_block (o := 1) Bi3.out rfl)
    have i2 : wc.cell? ⟨w.heap.size + 1, 2, none⟩ = some (.int .i64 l) := (WT.kp.cell (lt_of_block Bi3.out) (fun h => h)).trans (cell_of_block (o := 2) Bi3.out rfl)
    have i4 : wc.cell? ⟨w.heap.size + 1, 4, none⟩ = some (.int .u64 N) := (WT.kp.cell (lt_of_block Bi3.out) (fun h => h)).trans (cell_of_block (o := 4) Bi3.out rfl)
    have x1 : wc.cell? ⟨w.heap.size, 1, none⟩ = some (.int .i64 P) := (WT.kp.cell (lt_of_block Bf3.out) (fun h => h)).trans (cell_of_block (o := 1) Bf3.out rfl)
    have y1 : wc.cell? ⟨bw, 1, none⟩ = some (.int .i64 P) := cell_of_block (o := 1) WT.bl rfl
    have f1 := frozen_of_block WT.bl (o := 1)
    have hb1 : bw ≠ w.heap.size + 1 := by have := lt_of_block Bi3.out; have := WT.lo; omega
    have hb2 : w.heap.size + 1 ≠ bw := by omega
    have hb3 : bw ≠ w.heap.size := by have := lt_of_block Bf3.out; have := WT.lo; omega
    have hb4 : w.heap.size ≠ bw := by omega
    have xl := (WT.kp.cell (lt_of_block Bf3.out) (fun h => h)).trans (eight_cells Bf3.out hx)
    have yl := (WT.kp.cell (lt_of_block Bf3.out) (fun h => h)).trans (eight_cells Bf3.out hy)
    obtain ⟨g5, rfl⟩ := own_some WT.own (by omega)
    obtain ⟨u, hu⟩ : ∃ u, ms[x]? = some u := ⟨_, List.getElem?_eq_getElem (by have := hml.out; omega)⟩
    have zk : wc.cell? ⟨g5, x, none⟩ = some (.int .u64 u) := by
      rw [World.ownsRow.cellAt WT.own x (by omega), List.getElem?_map, hu]; rfl
    have fz := World.ownsRow.frozenAt WT.own x
    have hg5 : w3.heap.size ≤ g5 := WT.fr g5 rfl
    have hg6 : g5 ≠ bw := fun e => WT.ne (by rw [← e]; rfl)
    have hg7 : bw ≠ g5 := fun e => hg6 e.symm
    have hk0 : (0 : Int) ≤ (k : Int) := by omega
    have hk8 : (k : Int) < 8 := by omega
    have hl0 : (0 : Int) ≤ (l : Int) := by omega
    have hl8 : (l : Int) < 8 := by omega
    have hx0 : (0 : Int) ≤ (x : Int) := by omega
    have hxi : (x : Int) < (n : Int) := by omega
    have hwn : IntKind.u64.wrap (n : Int) = (n : Int) := by show (n : Int) % 18446744073709551616 = n; omega
    have hb5 : g5 ≠ w.heap.size := by have := lt_of_block Bf3.out; omega
    have hb6 : g5 ≠ w.heap.size + 1 := by have := lt_of_block Bi3.out; omega
    have Hg5 := Lib.hid hg5
    have Hg6 := Lib.hid hg6
    clear hy hx hA hm hu hg5
    have HWT := Lib.hid WT
    clear WT
    go_upto_region 32 with fail
    generalize hW : World.setCell (World.setCell wc _ _) _ _ = W7
    clear xl yl zk fz hg6 hg7 hk0 hk8 hl0 hl8 hx0 hxi hwn hb5 hb6 i0 i1 i2 i4 x1 y1 f1 hb1 hb2 hb3 hb4
    have bl := HWT.out.bl
    have K7 : Hid (Keeps NoBlock w3 W7) := by
      show Keeps _ _ _
      rw [← hW]
      exact (HWT.out.kp.set (.inr Hlo.out) _).set (.inr Hg5.out) _
    have Bw7 : Hid (W7.heap[bw]? = some (.cells #[.int .i64 F, .int .i64 P2, .int .u64 r0, .int .u64 r1, .int .u64 r2, .int .u64 r3, .int .u64 r4, .int .u64 r5, .int .u64 r6, .int .u64 r7] 29 (0, 0))) := by
      show _ = _
      rw [← hW]
      exact (block_set_ne (by exact Ne.symm Hg6.out) _).trans (block_set bl _)
    have R7 : Hid (ReadsI .u64 W7 (.slice (some ⟨g5, 0, none⟩) n c5) ms2) := by
      show ReadsI _ _ _ _
      rw [← hW]
      exact own_reads hml2.out (by
        rw [hms2.out, List.map_set]
        exact (World.ownsRow.stored (own_set1 HWT.out.own HWT.out.ne) x _).1)
    clear hW bl HWT
    have Bg7 := Lib.hid ((K7.out.block _ (lt_of_block Bg3.out) (fun h => h)).trans Bg3.out)
    have H7 := Lib.hid ((K7.out.block _ (lt_of_block H3.out) (fun h => h)).trans H3.out)
    clear H3 Bg3 Bf3 Bi3
    have K07 := Lib.hid (K3.out.trans K7.out (fun _ _ h => h))
    go_wp2_with fail
    refine (awake03_calls _).mono ?_
    rintro e w8 ⟨rfl, k8⟩
    have Bg8 := (k8.block _ (lt_of_block Bg7.out) (fun h => h)).trans Bg7.out
    have Bw8 := (k8.block _ (lt_of_block Bw7.out) (fun h => h)).trans Bw7.out
    have H8 := Lib.hid ((k8.block _ (lt_of_block H7.out) (fun h => h)).trans H7.out)
    have R8 := Lib.hid (R7.out.keeps k8 (fun _ _ h => h))
    have K08 := Lib.hid (K07.out.trans k8 (fun _ _ h => h))
    have x0 : w8.cell? ⟨w1.heap.size, 0, none⟩ = some (.int .i64 F) := cell_of_block (o := 0) Bg8 rfl
    have x1 : w8.cell? ⟨w1.heap.size, 1, none⟩ = some (.int .i64 P2) := cell_of_block (o := 1) Bg8 rfl
    have x2 : w8.cell? ⟨w1.heap.size, 2, none⟩ = some (.int .u64 r0) := cell_of_block (o := 2) Bg8 rfl
    have x3 : w8.cell? ⟨w1.heap.size, 3, none⟩ = some (.int .u64 r1) := cell_of_block (o := 3) Bg8 rfl
    have x4 : w8.cell? ⟨w1.heap.size, 4, none⟩ = some (.int .u64 r2) := cell_of_block (o := 4) Bg8 rfl
    have x5 : w8.cell? ⟨w1.heap.size, 5, none⟩ = some (.int .u64 r3) := cell_of_block (o := 5) Bg8 rfl
    have x6 : w8.cell? ⟨w1.heap.size, 6, none⟩ = some (.int .u64 r4) := cell_of_block (o := 6) Bg8 rfl
    have x7 : w8.cell? ⟨w1.heap.size, 7, none⟩ = some (.int .u64 r5) := cell_of_block (o := 7) Bg8 rfl
    have x8 : w8.cell? ⟨w1.heap.size, 8, none⟩ = some (.int .u64 r6) := cell_of_block (o := 8) Bg8 rfl
    have x9 : w8.cell? ⟨w1.heap.size, 9, none⟩ = some (.int .u64 r7) := cell_of_block (o := 9) Bg8 rfl
    have y0 : w8.cell? ⟨bw, 0, none⟩ = some (.int .i64 F) := cell_of_block (o := 0) Bw8 rfl
    have y1 : w8.cell? ⟨bw, 1, none⟩ = some (.int .i64 P2) := cell_of_block (o := 1) Bw8 rfl
    have y2 : w8.cell? ⟨bw, 2, none⟩ = some (.int .u64 r0) := cell_of_block (o := 2) Bw8 rfl
    have y3 : w8.cell? ⟨bw, 3, none⟩ = some (.int .u64 r1) := cell_of_block (o := 3) Bw8 rfl
    have y4 : w8.cell? ⟨bw, 4, none⟩ = some (.int .u64 r2) := cell_of_block (o := 4) Bw8 rfl
    have y5 : w8.cell? ⟨bw, 5, none⟩ = some (.int .u64 r3) := cell_of_block (o := 5) Bw8 rfl
    have y6 : w8.cell? ⟨bw, 6, none⟩ = some (.int .u64 r4) := cell_of_block (o := 6) Bw8 rfl
    have y7 : w8.cell? ⟨bw, 7, none⟩ = some (.int .u64 r5) := cell_of_block (o := 7) Bw8 rfl
    have y8 : w8.cell? ⟨bw, 8, none⟩ = some (.int .u64 r6) := cell_of_block (o := 8) Bw8 rfl
    have y9 : w8.cell? ⟨bw, 9, none⟩ = some (.int .u64 r7) := cell_of_block (o := 9) Bw8 rfl
    clear Bg8 Bw8 k8
    have heq := fun w => equalFrm F P2 r0 r1 r2 r3 r4 r5 r6 r7 w
    have hgf := guardFrm
    go_wp2_with fail
    refine (words_calls _ _ ms2 ms2 _ (reads_cells hml2.out H8.out) R8.out (by have := hml2.out; omega) (by have := hml2.out; omega)).mono ?_
    rintro e w9 ⟨rfl, k9⟩
    rw [decide_eq_true rfl]
    go_wp2_with fail
    go_ret
    exact ⟨rfl, (K08.out.trans k9 (fun _ _ h => h)).below (Nat.le_refl _) (fun _ h => h.elim)⟩


end Fr
end Go.Proofs.Ytlnoejmckpimnaa
namespace Go.Proofs.Ytlnoejmckpimnaa
open Go.RowKit Ieee
namespace Fr

set_option maxRecDepth 100000 in
set_option maxHeartbeats 4000000 in
theorem plains_load_no (F P r0 r1 r2 r3 r4 r5 r6 r7 N : Int) (k l : Nat) (x c0 : Int) (A : Option Addr) (b off n c : Nat) (ms : List Int) (w : World)
    (hr : plainF ⟨F, P, [r0, r1, r2, r3, r4, r5, r6, r7]⟩ (18, k, l, c0, N) ms = .error 6)
    (hk : k < 8) (hl : l < 8) (hx : [r0, r1, r2, r3, r4, r5, r6, r7][l]? = some x) (hxn : (n : Int) ≤ x) (hn : n ≤ 200) (hml : Hid (ms.length = n))
    (hA : Hid (0 < n → A = some ⟨b, off, none⟩)) (hm : Hid (∀ W, Keeps NoBlock w W → ∀ (j : Nat) (x : Int), ms[j]? = some x → W.cell? ⟨b, off + j, none⟩ = some (rv x)))
    (hpl : Hid (∀ W, Keeps NoBlock w W → n ≤ 200 → Calls Try.prog 15 #[.agg #[.int .i64 F, .int .i64 P, .int .u64 r0, .int .u64 r1, .int .u64 r2, .int .u64 r3, .int .u64 r4, .int .u64 r5, .int .u64 r6, .int .u64 r7], .agg #[.int .i64 18, .int .i64 k, .int .i64 l, .int .i64 c0, .int .u64 N], .slice A n c] W (PlainPost W (plainF ⟨F, P, [r0, r1, r2, r3, r4, r5, r6, r7]⟩ (18, k, l, c0, N) ms)))) :
    Calls Try.prog 5 #[.agg #[.int .i64 F, .int .i64 P, .int .u64 r0, .int .u64 r1, .int .u64 r2, .int .u64 r3, .int .u64 r4, .int .u64 r5, .int .u64 r6, .int .u64 r7], .agg #[.int .i64 18, .int .i64 k, .int .i64 l, .int .i64 c0, .int .u64 N], .slice A n c] w fun e w' => e = .returned (.bool true) ∧ Below w.heap.size w w' := by
  have Hk : Hid (okR (k : Int) = true) := by unfold Hid okR; rw [decide_eq_true_iff]; omega
  have Hl : Hid (okR (l : Int) = true) := by unfold Hid okR; rw [decide_eq_true_iff]; omega
  have hg : decide ((200 : Int) < (n : Int)) = false := by simp; omega
  go_enter Try.func5, Try.ntmps5
  go_wp2_with fail
  generalize hW : World.alloc (World.alloc w _) _ = W
  have Kw : Hid (Keeps NoBlock w W) := by
    show Keeps _ _ _
    rw [← hW]
    exact ((Keeps.refl NoBlock w).alloc _).alloc _
  have Bf : Hid (W.heap[w.heap.size]? = some (.cells #[.int .i64 F, .int .i64 P, .int .u64 r0, .int .u64 r1, .int .u64 r2, .int .u64 r3, .int .u64 r4, .int .u64 r5, .int .u64 r6, .int .u64 r7] 29 (0, 0))) := by show _ = _; rw [← hW]; exact block_alloc_old (block_alloc_new _ _)
  have Bi : Hid (W.heap[w.heap.size + 1]? = some (.cells #[.int .i64 18, .int .i64 k, .int .i64 l, .int .i64 c0, .int .u64 N] 31 (0, 0))) := by show _ = _; rw [← hW]; exact blk_new (by simp)
  clear hW
  refine (hpl.out W Kw.out (by omega)).mono ?_
  clear hg
  rintro e w1 ⟨k1, hres⟩
  have Bf1 := Lib.hid ((k1.block _ (lt_of_block Bf.out) (fun h => h)).trans Bf.out)
  have Bi1 := Lib.hid ((k1.block _ (lt_of_block Bi.out) (fun h => h)).trans Bi.out)
  have K1 := Lib.hid (Kw.out.trans k1 (fun _ _ h => h))
  clear k1 hpl Kw Bf Bi
  rw [hr] at hres
  have he2 : e = .returned (.tuple #[.agg #[.int .i64 0, .int .i64 0, .int .u64 0, .int .u64 0, .int .u64 0, .int .u64 0, .int .u64 0, .int .u64 0, .int .u64 0, .int .u64 0], .slice none 0 0, .int .i64 6]) := hres
  subst he2
  clear hres hr
  go_upto_region 4 with fail
  generalize hW : World.alloc w1 _ = W2
  have K2 : Hid (Keeps NoBlock w W2) := by show Keeps _ _ _; rw [← hW]; exact K1.out.alloc _
  have Bf2 : Hid (W2.heap[w.heap.size]? = some (.cells #[.int .i64 F, .int .i64 P, .int .u64 r0, .int .u64 r1, .int .u64 r2, .int .u64 r3, .int .u64 r4, .int .u64 r5, .int .u64 r6, .int .u64 r7] 29 (0, 0))) := by show _ = _; rw [← hW]; exact block_alloc_old Bf1.out
  have Bi2 : Hid (W2.heap[w.heap.size + 1]? = some (.cells #[.int .i64 18, .int .i64 k, .int .i64 l, .int .i64 c0, .int .u64 N] 31 (0, 0))) := by show _ = _; rw [← hW]; exact block_alloc_old Bi1.out
  have Bg2 : Hid (W2.heap[w1.heap.size]? = some (.cells #[.int .i64 0, .int .i64 0, .int .u64 0, .int .u64 0, .int .u64 0, .int .u64 0, .int .u64 0, .int .u64 0, .int .u64 0, .int .u64 0] 29 (0, 0))) := by show _ = _; rw [← hW]; exact block_alloc_new _ _
  clear hW Bf1 Bi1 K1
  have i0 : W2.cell? ⟨w.heap.size + 1, 0, none⟩ = some (.int .i64 18) := cell_of_block (o := 0) Bi2.out rfl
  go_wp2_with fail
  refine (has_calls 18 _).mono ?_
  rintro e w3 ⟨rfl, k3⟩
  have Bf3 := Lib.hid ((k3.block _ (lt_of_block Bf2.out) (fun h => h)).trans Bf2.out)
  have Bi3 := Lib.hid ((k3.block _ (lt_of_block Bi2.out) (fun h => h)).trans Bi2.out)
  have Bg3 := Lib.hid ((k3.block _ (lt_of_block Bg2.out) (fun h => h)).trans Bg2.out)
  have K3 := Lib.hid (K2.out.trans k3 (fun _ _ h => h))
  clear k3 i0 Bf2 Bi2 Bg2 K2
  have i0 : w3.cell? ⟨w.heap.size + 1, 0, none⟩ = some (.int .i64 18) := cell_of_block (o := 0) Bi3.out rfl
  have i1 : w3.cell? ⟨w.heap.size + 1, 1, none⟩ = some (.int .i64 k) := cell_of_block (o := 1) Bi3.out rfl
  have i2 : w3.cell? ⟨w.heap.size + 1, 2, none⟩ = some (.int .i64 l) := cell_of_block (o := 2) Bi3.out rfl
  have i3 : w3.cell? ⟨w.heap.size + 1, 3, none⟩ = some (.int .i64 c0) := cell_of_block (o := 3) Bi3.out rfl
  have i4 : w3.cell? ⟨w.heap.size + 1, 4, none⟩ = some (.int .u64 N) := cell_of_block (o := 4) Bi3.out rfl
  have hs1 : str (hasS 18) = { data := #[65, 66, 110] } := rfl
  rw [hs1]
  clear hs1
  go_wp2_with fail
  refine (lreg_calls k _).mono ?_
  rintro e w5 ⟨rfl, rfl⟩
  rw [Hk.out]
  go_wp2_with fail
  refine (lreg_calls l _).mono ?_
  rintro e w5 ⟨rfl, rfl⟩
  rw [Hl.out]
  go_upto_region 10 with fail
  have M3 : Hid (∀ W', Keeps NoBlock w3 W' → ∀ j u, (ms.map rv)[j]? = some u → W'.cell? ⟨b, off + j, none⟩ = some u) := fun W' k => ms_news hm.out K3.out k
  have nl : Hid ((ms.map rv).length = n * 1) := by show _ = _; rw [List.length_map, hml.out]; omega
  have x0 : w3.cell? ⟨w.heap.size, 0, none⟩ = some (.int .i64 F) := cell_of_block (o := 0) Bf3.out rfl
  have x1 : w3.cell? ⟨w.heap.size, 1, none⟩ = some (.int .i64 P) := cell_of_block (o := 1) Bf3.out rfl
  have x2 : w3.cell? ⟨w.heap.size, 2, none⟩ = some (.int .u64 r0) := cell_of_block (o := 2) Bf3.out rfl
  have x3 : w3.cell? ⟨w.heap.size, 3, none⟩ = some (.int .u64 r1) := cell_of_block (o := 3) Bf3.out rfl
  have x4 : w3.cell? ⟨w.heap.size, 4, none⟩ = some (.int .u64 r2) := cell_of_block (o := 4) Bf3.out rfl
  have x5 : w3.cell? ⟨w.heap.size, 5, none⟩ = some (.int .u64 r3) := cell_of_block (o := 5) Bf3.out rfl
  have x6 : w3.cell? ⟨w.heap.size, 6, none⟩ = some (.int .u64 r4) := cell_of_block (o := 6) Bf3.out rfl
  have x7 : w3.cell? ⟨w.heap.size, 7, none⟩ = some (.int .u64 r5) := cell_of_block (o := 7) Bf3.out rfl
  have x8 : w3.cell? ⟨w.heap.size, 8, none⟩ = some (.int .u64 r6) := cell_of_block (o := 8) Bf3.out rfl
  have x9 : w3.cell? ⟨w.heap.size, 9, none⟩ = some (.int .u64 r7) := cell_of_block (o := 9) Bf3.out rfl
  have lf := lt_of_block Bf3.out
  have hFB : Hid (∀ w', Keeps NoBlock w3 w' → w'.cell? ⟨w.heap.size, 0, none⟩ = some (.int .i64 F) ∧ w'.cell? ⟨w.heap.size, 1, none⟩ = some (.int .i64 P) ∧ w'.cell? ⟨w.heap.size, 2, none⟩ = some (.int .u64 r0) ∧ w'.cell? ⟨w.heap.size, 3, none⟩ = some (.int .u64 r1) ∧ w'.cell? ⟨w.heap.size, 4, none⟩ = some (.int .u64 r2) ∧ w'.cell? ⟨w.heap.size, 5, none⟩ = some (.int .u64 r3) ∧ w'.cell? ⟨w.heap.size, 6, none⟩ = some (.int .u64 r4) ∧ w'.cell? ⟨w.heap.size, 7, none⟩ = some (.int .u64 r5) ∧ w'.cell? ⟨w.heap.size, 8, none⟩ = some (.int .u64 r6) ∧ w'.cell? ⟨w.heap.size, 9, none⟩ = some (.int .u64 r7)) := fun w' k => ten_at ((k.block _ (lt_of_block Bf3.out) (fun h => h)).trans Bf3.out)
  clear i0 i1 i2 i3 i4
  go_cut [14, 15] from 100 to 103 (fun v14 v15 wx => ∃ bw A5 c5, v14 = .pointer (some ⟨bw, 0, none⟩) ∧ v15 = .slice A5 n c5 ∧ Want w3 wx n bw (.slice A5 n c5) ms #[.int .i64 F, .int .i64 P, .int .u64 r0, .int .u64 r1, .int .u64 r2, .int .u64 r3, .int .u64 r4, .int .u64 r5, .int .u64 r6, .int .u64 r7])
  case first =>
    go_region_held3 (fun w' => w'.cell? ⟨w.heap.size, 0, none⟩ = some (.int .i64 F) ∧ w'.cell? ⟨w.heap.size, 1, none⟩ = some (.int .i64 P) ∧ w'.cell? ⟨w.heap.size, 2, none⟩ = some (.int .u64 r0) ∧ w'.cell? ⟨w.heap.size, 3, none⟩ = some (.int .u64 r1) ∧ w'.cell? ⟨w.heap.size, 4, none⟩ = some (.int .u64 r2) ∧ w'.cell? ⟨w.heap.size, 5, none⟩ = some (.int .u64 r3) ∧ w'.cell? ⟨w.heap.size, 6, none⟩ = some (.int .u64 r4) ∧ w'.cell? ⟨w.heap.size, 7, none⟩ = some (.int .u64 r5) ∧ w'.cell? ⟨w.heap.size, 8, none⟩ = some (.int .u64 r6) ∧ w'.cell? ⟨w.heap.size, 9, none⟩ = some (.int .u64 r7)) (first | (refine hFB.out _ ?_; repeat (first | with_reducible exact K35 | with_reducible exact Keeps.refl _ _ | with_reducible refine Keeps.alloc ?_ _ | with_reducible refine Keeps.drew ?_ | (with_reducible refine Keeps.set ?_ (.inr ?_) _; rotate_left; focus (simp; done)) | (with_reducible refine Keeps.setCells (.inr ?_) _ _ _ ?_; focus (simp; done)))))
      (first
      | (refine step_appX (P := Try.prog) elW ?_ (.tmp 101) (.tmp 102) ?_ (.slice (some ⟨w3.heap.size, 0, none⟩) 0 0) 0 [] ?_ ?_ A b off n c (ms.map rv) ?_ ?_ ?_ ?_ rv_one ?_ ?_ ?_
         · rfl
         · rfl
         · rfl
         · repeat (first | with_reducible exact own_new _ (by simp) | with_reducible refine World.ownsRow.alloc ?_ _ | with_reducible refine World.ownsRow.drew ?_ | (refine own_setCells ?_ ?_; rotate_left; focus (simp [Value.ownBlock]; omega)))
         · rfl
         · exact hA.out
         · exact nl.out
         · refine M3.out _ ?_
           repeat (first | with_reducible exact Keeps.refl _ _ | with_reducible refine Keeps.alloc ?_ _ | with_reducible refine Keeps.drew ?_ | (refine Keeps.setCells (.inr ?_) _ _ _ ?_; focus (simp; done)))
         · simp only [maxLen]; omega
         · omega
         intro v5 w5 ho5 hg5 hf5 hs5
         obtain ⟨A5, cap5, rfl⟩ := Own.isSlice ho5
         have K35 : Keeps NoBlock w3 w5 := by
           refine Keeps.grown ?_ hg5 ?_
           · repeat (first | with_reducible exact Keeps.refl _ _ | with_reducible refine Keeps.alloc ?_ _ | with_reducible refine Keeps.drew ?_ | (refine Keeps.setCells (.inr ?_) _ _ _ ?_; focus (simp; done)))
           · intro k hk
             right
             simp only [Value.ownBlock, Option.some.injEq] at hk
             omega
         have F5 := hFB.out w5 K35
         have Z5 : w5.heap[w3.heap.size + 1]? = some (.cells #[.int .i64 0, .int .i64 0, .int .u64 0, .int .u64 0, .int .u64 0, .int .u64 0, .int .u64 0, .int .u64 0, .int .u64 0, .int .u64 0] 29 (0, 0)) := by
           refine blk_grown hg5 ?_ ?_
           · simp [Value.ownBlock]
           · first | exact block_alloc_new _ _ | (refine block_alloc_old ?_; exact block_alloc_new _ _) | (refine blk_new ?_; simp; done) | (refine block_alloc_old ?_; refine blk_drew ?_; exact block_alloc_new _ _)
         obtain ⟨f0, f1, f2, f3, f4, f5, f6, f7, f8, f9⟩ := ten_frozen Z5
         have lz := lt_of_block Z5
         obtain ⟨y0, y1, y2, y3, y4, y5, y6, y7, y8, y9⟩ := ten_at Z5
         clear F5
         clear hs5)
      | (refine step_appX (P := Try.prog) elW ?_ (.tmp 101) (.tmp 102) ?_ (.slice (some ⟨w3.heap.size + 1, 0, none⟩) 0 0) 0 [] ?_ ?_ A b off n c (ms.map rv) ?_ ?_ ?_ ?_ rv_one ?_ ?_ ?_
         · rfl
         · rfl
         · rfl
         · repeat (first | with_reducible exact own_new _ (by simp) | with_reducible refine World.ownsRow.alloc ?_ _ | with_reducible refine World.ownsRow.drew ?_ | (refine own_setCells ?_ ?_; rotate_left; focus (simp [Value.ownBlock]; omega)))
         · rfl
         · exact hA.out
         · exact nl.out
         · refine M3.out _ ?_
           repeat (first | with_reducible exact Keeps.refl _ _ | with_reducible refine Keeps.alloc ?_ _ | with_reducible refine Keeps.drew ?_ | (refine Keeps.setCells (.inr ?_) _ _ _ ?_; focus (simp; done)))
         · simp only [maxLen]; omega
         · omega
         intro v5 w5 ho5 hg5 hf5 hs5
         obtain ⟨A5, cap5, rfl⟩ := Own.isSlice ho5
         have K35 : Keeps NoBlock w3 w5 := by
           refine Keeps.grown ?_ hg5 ?_
           · repeat (first | with_reducible exact Keeps.refl _ _ | with_reducible refine Keeps.alloc ?_ _ | with_reducible refine Keeps.drew ?_ | (refine Keeps.setCells (.inr ?_) _ _ _ ?_; focus (simp; done)))
           · intro k hk
             right
             simp only [Value.ownBlock, Option.some.injEq] at hk
             omega
         have F5 := hFB.out w5 K35
         have Z5 : w5.heap[w3.heap.size]? = some (.cells #[.int .i64 0, .int .i64 0, .int .u64 0, .int .u64 0, .int .u64 0, .int .u64 0, .int .u64 0, .int .u64 0, .int .u64 0, .int .u64 0] 29 (0, 0)) := by
           refine blk_grown hg5 ?_ ?_
           · simp [Value.ownBlock]
           · first | exact block_alloc_new _ _ | (refine block_alloc_old ?_; exact block_alloc_new _ _) | (refine blk_new ?_; simp; done) | (refine block_alloc_old ?_; refine blk_drew ?_; exact block_alloc_new _ _)
         obtain ⟨f0, f1, f2, f3, f4, f5, f6, f7, f8, f9⟩ := ten_frozen Z5
         have lz := lt_of_block Z5
         obtain ⟨y0, y1, y2, y3, y4, y5, y6, y7, y8, y9⟩ := ten_at Z5
         clear F5
         clear hs5)
      | (refine step_appX (P := Try.prog) elW ?_ (.tmp 101) (.tmp 102) ?_ (.slice (some ⟨w3.heap.size, 0, none⟩) 0 0) 0 [] ?_ ?_ A b off n c (ms.map rv) ?_ ?_ ?_ ?_ rv_one ?_ ?_ ?_
         · rfl
         · rfl
         · rfl
         · repeat (first | with_reducible exact own_new _ (by simp) | with_reducible refine World.ownsRow.alloc ?_ _ | with_reducible refine World.ownsRow.drew ?_ | (refine own_setCells ?_ ?_; rotate_left; focus (simp [Value.ownBlock]; omega)))
         · rfl
         · exact hA.out
         · exact nl.out
         · refine M3.out _ ?_
           repeat (first | with_reducible exact Keeps.refl _ _ | with_reducible refine Keeps.alloc ?_ _ | with_reducible refine Keeps.drew ?_ | (refine Keeps.setCells (.inr ?_) _ _ _ ?_; focus (simp; done)))
         · simp only [maxLen]; omega
         · omega
         intro v5 w5 ho5 hg5 hf5 hs5
         obtain ⟨A5, cap5, rfl⟩ := Own.isSlice ho5
         have K35 : Keeps NoBlock w3 w5 := by
           refine Keeps.grown ?_ hg5 ?_
           · repeat (first | with_reducible exact Keeps.refl _ _ | with_reducible refine Keeps.alloc ?_ _ | with_reducible refine Keeps.drew ?_ | (refine Keeps.setCells (.inr ?_) _ _ _ ?_; focus (simp; done)))
           · intro k hk
             right
             simp only [Value.ownBlock, Option.some.injEq] at hk
             omega
         have F5 := hFB.out w5 K35
         clear hs5)
      | (refine step_appX (P := Try.prog) elW ?_ (.tmp 101) (.tmp 102) ?_ (.slice (some ⟨w3.heap.size + 1, 0, none⟩) 0 0) 0 [] ?_ ?_ A b off n c (ms.map rv) ?_ ?_ ?_ ?_ rv_one ?_ ?_ ?_
         · rfl
         · rfl
         · rfl
         · repeat (first | with_reducible exact own_new _ (by simp) | with_reducible refine World.ownsRow.alloc ?_ _ | with_reducible refine World.ownsRow.drew ?_ | (refine own_setCells ?_ ?_; rotate_left; focus (simp [Value.ownBlock]; omega)))
         · rfl
         · exact hA.out
         · exact nl.out
         · refine M3.out _ ?_
           repeat (first | with_reducible exact Keeps.refl _ _ | with_reducible refine Keeps.alloc ?_ _ | with_reducible refine Keeps.drew ?_ | (refine Keeps.setCells (.inr ?_) _ _ _ ?_; focus (simp; done)))
         · simp only [maxLen]; omega
         · omega
         intro v5 w5 ho5 hg5 hf5 hs5
         obtain ⟨A5, cap5, rfl⟩ := Own.isSlice ho5
         have K35 : Keeps NoBlock w3 w5 := by
           refine Keeps.grown ?_ hg5 ?_
           · repeat (first | with_reducible exact Keeps.refl _ _ | with_reducible refine Keeps.alloc ?_ _ | with_reducible refine Keeps.drew ?_ | (refine Keeps.setCells (.inr ?_) _ _ _ ?_; focus (simp; done)))
           · intro k hk
             right
             simp only [Value.ownBlock, Option.some.injEq] at hk
             omega
         have F5 := hFB.out w5 K35
         clear hs5)
      | (trace_state; fail))
    all_goals go_wp2_with fail
    all_goals go_meet
    all_goals refine ⟨_, _, _, rfl, rfl, ?_⟩
    all_goals
      have hof : Own w5 26 1 (.slice A5 n cap5) n (ms.map rv) := by simpa using ho5
      have hob : (Value.slice A5 (0 + n) cap5).ownBlock = (Value.slice A5 n cap5).ownBlock := by cases A5 <;> rfl
      rw [hob] at hf5
      simp only [World.size_alloc, World.size_drew, Value.ownBlock, Option.some.injEq] at hf5
      have hok : ∀ k, (Value.slice A5 n cap5).ownBlock = some k → w3.heap.size ≤ k := fun k hk => by have := hf5 k hk; omega
      first
      | (with_reducible refine want_new ?_ ?_ ?_; exact K35; exact hof; exact hok)
      | (with_reducible refine want_set ?_ ?_ ?_ ?_ ?_ ?_
         · exact K35
         · exact hof
         · exact hok
         · omega
         · intro e
           have := hf5 _ e
           omega
         · exact Z5)
  case rest =>
    obtain ⟨bw, A5, c5, rfl, rfl, WT⟩ := hcut
    clear M3 nl hFB lf x0 x1 x2 x3 x4 x5 x6 x7 x8 x9
    have Hlo := Lib.hid WT.lo
    have i0 : wc.cell? ⟨w.heap.size + 1, 0, none⟩ = some (.int .i64 18) := (WT.kp.cell (lt_of_block Bi3.out) (fun h => h)).trans (cell_of_block (o := 0) Bi3.out rfl)
    have i1 : wc.cell? ⟨w.heap.size + 1, 1, none⟩ = some (.int .i64 k) := (WT.kp.cell (lt_of_block Bi3.out) (fun h => h)).trans (cell_of_block (o := 1) Bi3.out rfl)
    have i2 : wc.cell? ⟨w.heap.size + 1, 2, none⟩ = some (.int .i64 l) := (WT.kp.cell (lt_of_block Bi3.out) (fun h => h)).trans (cell_of_block (o := 2) Bi3.out rfl)
    have i4 : wc.cell? ⟨w.heap.size + 1, 4, none⟩ = some (.int .u64 N) := (WT.kp.cell (lt_of_block Bi3.out) (fun h => h)).trans (cell_of_block (o := 4) Bi3.out rfl)
    have x1 : wc.cell? ⟨w.heap.size, 1, none⟩ = some (.int .i64 P) := (WT.kp.cell (lt_of_block Bf3.out) (fun h => h)).trans (cell_of_block (o := 1) Bf3.out rfl)
    have y1 : wc.cell? ⟨bw, 1, none⟩ = some (.int .i64 P) := cell_of_block (o := 1) WT.bl rfl
    have f1 := frozen_of_block WT.bl (o := 1)
    have hb1 : bw ≠ w.heap.size + 1 := by have := lt_of_block Bi3.out; have := WT.lo; omega
    have hb2 : w.heap.size + 1 ≠ bw := by omega
    have hb3 : bw ≠ w.heap.size := by have := lt_of_block Bf3.out; have := WT.lo; omega
    have hb4 : w.heap.size ≠ bw := by omega
    have xl := (WT.kp.cell (lt_of_block Bf3.out) (fun h => h)).trans (eight_cells Bf3.out hx)
    have hk0 : (0 : Int) ≤ (l : Int) := by omega
    have hk8 : (l : Int) < 8 := by omega
    have hwn : IntKind.u64.wrap (n : Int) = (n : Int) := by show (n : Int) % 18446744073709551616 = n; omega
    clear hx
    have K7 := Lib.hid (K3.out.trans (WT.kp.set (o := 1) (.inr WT.lo) (.int .i64 (wrap64 (P + 1)))) (fun _ _ h => h))
    have Bg7 := Lib.hid ((WT.kp.block _ (lt_of_block Bg3.out) (fun h => h)).trans Bg3.out)
    have hne : Hid (w1.heap.size ≠ bw) := by show _ ≠ _; have := lt_of_block Bg3.out; have := WT.lo; omega
    clear WT hA hm
    go_wp2_with fail
    refine (awake03_calls _).mono ?_
    rintro e w8 ⟨rfl, k8⟩
    have Bg8 := (k8.block _ (by simpa using lt_of_block Bg7.out) (fun h => h)).trans ((block_set_ne (by exact hne.out) _).trans Bg7.out)
    have z0 : w8.cell? ⟨w1.heap.size, 0, none⟩ = some (.int .i64 0) := cell_of_block (o := 0) Bg8 rfl
    have z1 : w8.cell? ⟨w1.heap.size, 1, none⟩ = some (.int .i64 0) := cell_of_block (o := 1) Bg8 rfl
    have z2 : w8.cell? ⟨w1.heap.size, 2, none⟩ = some (.int .u64 0) := cell_of_block (o := 2) Bg8 rfl
    have z3 : w8.cell? ⟨w1.heap.size, 3, none⟩ = some (.int .u64 0) := cell_of_block (o := 3) Bg8 rfl
    have z4 : w8.cell? ⟨w1.heap.size, 4, none⟩ = some (.int .u64 0) := cell_of_block (o := 4) Bg8 rfl
    have z5 : w8.cell? ⟨w1.heap.size, 5, none⟩ = some (.int .u64 0) := cell_of_block (o := 5) Bg8 rfl
    have z6 : w8.cell? ⟨w1.heap.size, 6, none⟩ = some (.int .u64 0) := cell_of_block (o := 6) Bg8 rfl
    have z7 : w8.cell? ⟨w1.heap.size, 7, none⟩ = some (.int .u64 0) := cell_of_block (o := 7) Bg8 rfl
    have z8 : w8.cell? ⟨w1.heap.size, 8, none⟩ = some (.int .u64 0) := cell_of_block (o := 8) Bg8 rfl
    have z9 : w8.cell? ⟨w1.heap.size, 9, none⟩ = some (.int .u64 0) := cell_of_block (o := 9) Bg8 rfl
    have K08 := Lib.hid (K7.out.trans k8 (fun _ _ h => h))
    clear Bg8 k8
    have heq := fun w => equalFrm 0 0 0 0 0 0 0 0 0 0 w
    have hgf := guardFrm
    go_wp2_with fail
    go_ret
    exact ⟨rfl, K08.out.below (Nat.le_refl _) (fun _ h => h.elim)⟩

set_option maxRecDepth 100000 in
set_option maxHeartbeats 4000000 in
theorem plains_store_no (F P r0 r1 r2 r3 r4 r5 r6 r7 N : Int) (k l : Nat) (x c0 : Int) (A : Option Addr) (b off n c : Nat) (ms : List Int) (w : World)
    (hr : plainF ⟨F, P, [r0, r1, r2, r3, r4, r5, r6, r7]⟩ (19, k, l, c0, N) ms = .error 6)
    (hk : k < 8) (hl : l < 8) (hx : [r0, r1, r2, r3, r4, r5, r6, r7][k]? = some x) (hxn : (n : Int) ≤ x) (hn : n ≤ 200) (hml : Hid (ms.length = n))
    (hA : Hid (0 < n → A = some ⟨b, off, none⟩)) (hm : Hid (∀ W, Keeps NoBlock w W → ∀ (j : Nat) (x : Int), ms[j]? = some x → W.cell? ⟨b, off + j, none⟩ = some (rv x)))
    (hpl : Hid (∀ W, Keeps NoBlock w W → n ≤ 200 → Calls Try.prog 15 #[.agg #[.int .i64 F, .int .i64 P, .int .u64 r0, .int .u64 r1, .int .u64 r2, .int .u64 r3, .int .u64 r4, .int .u64 r5, .int .u64 r6, .int .u64 r7], .agg #[.int .i64 19, .int .i64 k, .int .i64 l, .int .i64 c0, .int .u64 N], .slice A n c] W (PlainPost W (plainF ⟨F, P, [r0, r1, r2, r3, r4, r5, r6, r7]⟩ (19, k, l, c0, N) ms)))) :
    Calls Try.prog 5 #[.agg #[.int .i64 F, .int .i64 P, .int .u64 r0, .int .u64 r1, .int .u64 r2, .int .u64 r3, .int .u64 r4, .int .u64 r5, .int .u64 r6, .int .u64 r7], .agg #[.int .i64 19, .int .i64 k, .int .i64 l, .int .i64 c0, .int .u64 N], .slice A n c] w fun e w' => e = .returned (.bool true) ∧ Below w.heap.size w w' := by
  have Hk : Hid (okR (k : Int) = true) := by unfold Hid okR; rw [decide_eq_true_iff]; omega
  have Hl : Hid (okR (l : Int) = true) := by unfold Hid okR; rw [decide_eq_true_iff]; omega
  have hg : decide ((200 : Int) < (n : Int)) = false := by simp; omega
  go_enter Try.func5, Try.ntmps5
  go_wp2_with fail
  generalize hW : World.alloc (World.alloc w _) _ = W
  have Kw : Hid (Keeps NoBlock w W) := by
    show Keeps _ _ _
    rw [← hW]
    exact ((Keeps.refl NoBlock w).alloc _).alloc _
  have Bf : Hid (W.heap[w.heap.size]? = some (.cells #[.int .i64 F, .int .i64 P, .int .u64 r0, .int .u64 r1, .int .u64 r2, .int .u64 r3, .int .u64 r4, .int .u64 r5, .int .u64 r6, .int .u64 r7] 29 (0, 0))) := by show _ = _; rw [← hW]; exact block_alloc_old (block_alloc_new _ _)
  have Bi : Hid (W.heap[w.heap.size + 1]? = some (.cells #[.int .i64 19, .int .i64 k, .int .i64 l, .int .i64 c0, .int .u64 N] 31 (0, 0))) := by show _ = _; rw [← hW]; exact blk_new (by simp)
  clear hW
  refine (hpl.out W Kw.out (by omega)).mono ?_
  clear hg
  rintro e w1 ⟨k1, hres⟩
  have Bf1 := Lib.hid ((k1.block _ (lt_of_block Bf.out) (fun h => h)).trans Bf.out)
  have Bi1 := Lib.hid ((k1.block _ (lt_of_block Bi.out) (fun h => h)).trans Bi.out)
  have K1 := Lib.hid (Kw.out.trans k1 (fun _ _ h => h))
  clear k1 hpl Kw Bf Bi
  rw [hr] at hres
  have he2 : e = .returned (.tuple #[.agg #[.int .i64 0, .int .i64 0, .int .u64 0, .int .u64 0, .int .u64 0, .int .u64 0, .int .u64 0, .int .u64 0, .int .u64 0, .int .u64 0], .slice none 0 0, .int .i64 6]) := hres
  subst he2
  clear hres hr
  go_upto_region 4 with fail
  generalize hW : World.alloc w1 _ = W2
  have K2 : Hid (Keeps NoBlock w W2) := by show Keeps _ _ _; rw [← hW]; exact K1.out.alloc _
  have Bf2 : Hid (W2.heap[w.heap.size]? = some (.cells #[.int .i64 F, .int .i64 P, .int .u64 r0, .int .u64 r1, .int .u64 r2, .int .u64 r3, .int .u64 r4, .int .u64 r5, .int .u64 r6, .int .u64 r7] 29 (0, 0))) := by show _ = _; rw [← hW]; exact block_alloc_old Bf1.out
  have Bi2 : Hid (W2.heap[w.heap.size + 1]? = some (.cells #[.int .i64 19, .int .i64 k, .int .i64 l, .int .i64 c0, .int .u64 N] 31 (0, 0))) := by show _ = _; rw [← hW]; exact block_alloc_old Bi1.out
  have Bg2 : Hid (W2.heap[w1.heap.size]? = some (.cells #[.int .i64 0, .int .i64 0, .int .u64 0, .int .u64 0, .int .u64 0, .int .u64 0, .int .u64 0, .int .u64 0, .int .u64 0, .int .u64 0] 29 (0, 0))) := by show _ = _; rw [← hW]; exact block_alloc_new _ _
  clear hW Bf1 Bi1 K1
  have i0 : W2.cell? ⟨w.heap.size + 1, 0, none⟩ = some (.int .i64 19) := cell_of_block (o := 0) Bi2.out rfl
  go_wp2_with fail
  refine (has_calls 19 _).mono ?_
  rintro e w3 ⟨rfl, k3⟩
  have Bf3 := Lib.hid ((k3.block _ (lt_of_block Bf2.out) (fun h => h)).trans Bf2.out)
  have Bi3 := Lib.hid ((k3.block _ (lt_of_block Bi2.out) (fun h => h)).trans Bi2.out)
  have Bg3 := Lib.hid ((k3.block _ (lt_of_block Bg2.out) (fun h => h)).trans Bg2.out)
  have K3 := Lib.hid (K2.out.trans k3 (fun _ _ h => h))
  clear k3 i0 Bf2 Bi2 Bg2 K2
  have i0 : w3.cell? ⟨w.heap.size + 1, 0, none⟩ = some (.int .i64 19) := cell_of_block (o := 0) Bi3.out rfl
  have i1 : w3.cell? ⟨w.heap.size + 1, 1, none⟩ = some (.int .i64 k) := cell_of_block (o := 1) Bi3.out rfl
  have i2 : w3.cell? ⟨w.heap.size + 1, 2, none⟩ = some (.int .i64 l) := cell_of_block (o := 2) Bi3.out rfl
  have i3 : w3.cell? ⟨w.heap.size + 1, 3, none⟩ = some (.int .i64 c0) := cell_of_block (o := 3) Bi3.out rfl
  have i4 : w3.cell? ⟨w.heap.size + 1, 4, none⟩ = some (.int .u64 N) := cell_of_block (o := 4) Bi3.out rfl
  have hs1 : str (hasS 19) = { data := #[65, 66, 110] } := rfl
  rw [hs1]
  clear hs1
  go_wp2_with fail
  refine (lreg_calls k _).mono ?_
  rintro e w5 ⟨rfl, rfl⟩
  rw [Hk.out]
  go_wp2_with fail
  refine (lreg_calls l _).mono ?_
  rintro e w5 ⟨rfl, rfl⟩
  rw [Hl.out]
  go_upto_region 10 with fail
  have M3 : Hid (∀ W', Keeps NoBlock w3 W' → ∀ j u, (ms.map rv)[j]? = some u → W'.cell? ⟨b, off + j, none⟩ = some u) := fun W' k => ms_news hm.out K3.out k
  have nl : Hid ((ms.map rv).length = n * 1) := by show _ = _; rw [List.length_map, hml.out]; omega
  have x0 : w3.cell? ⟨w.heap.size, 0, none⟩ = some (.int .i64 F) := cell_of_block (o := 0) Bf3.out rfl
  have x1 : w3.cell? ⟨w.heap.size, 1, none⟩ = some (.int .i64 P) := cell_of_block (o := 1) Bf3.out rfl
  have x2 : w3.cell? ⟨w.heap.size, 2, none⟩ = some (.int .u64 r0) := cell_of_block (o := 2) Bf3.out rfl
  have x3 : w3.cell? ⟨w.heap.size, 3, none⟩ = some (.int .u64 r1) := cell_of_block (o := 3) Bf3.out rfl
  have x4 : w3.cell? ⟨w.heap.size, 4, none⟩ = some (.int .u64 r2) := cell_of_block (o := 4) Bf3.out rfl
  have x5 : w3.cell? ⟨w.heap.size, 5, none⟩ = some (.int .u64 r3) := cell_of_block (o := 5) Bf3.out rfl
  have x6 : w3.cell? ⟨w.heap.size, 6, none⟩ = some (.int .u64 r4) := cell_of_block (o := 6) Bf3.out rfl
  have x7 : w3.cell? ⟨w.heap.size, 7, none⟩ = some (.int .u64 r5) := cell_of_block (o := 7) Bf3.out rfl
  have x8 : w3.cell? ⟨w.heap.size, 8, none⟩ = some (.int .u64 r6) := cell_of_block (o := 8) Bf3.out rfl
  have x9 : w3.cell? ⟨w.heap.size, 9, none⟩ = some (.int .u64 r7) := cell_of_block (o := 9) Bf3.out rfl
  have lf := lt_of_block Bf3.out
  have hFB : Hid (∀ w', Keeps NoBlock w3 w' → w'.cell? ⟨w.heap.size, 0, none⟩ = some (.int .i64 F) ∧ w'.cell? ⟨w.heap.size, 1, none⟩ = some (.int .i64 P) ∧ w'.cell? ⟨w.heap.size, 2, none⟩ = some (.int .u64 r0) ∧ w'.cell? ⟨w.heap.size, 3, none⟩ = some (.int .u64 r1) ∧ w'.cell? ⟨w.heap.size, 4, none⟩ = some (.int .u64 r2) ∧ w'.cell? ⟨w.heap.size, 5, none⟩ = some (.int .u64 r3) ∧ w'.cell? ⟨w.heap.size, 6, none⟩ = some (.int .u64 r4) ∧ w'.cell? ⟨w.heap.size, 7, none⟩ = some (.int .u64 r5) ∧ w'.cell? ⟨w.heap.size, 8, none⟩ = some (.int .u64 r6) ∧ w'.cell? ⟨w.heap.size, 9, none⟩ = some (.int .u64 r7)) := fun w' k => ten_at ((k.block _ (lt_of_block Bf3.out) (fun h => h)).trans Bf3.out)
  clear i0 i1 i2 i3 i4
  go_cut [14, 15] from 100 to 103 (fun v14 v15 wx => ∃ bw A5 c5, v14 = .pointer (some ⟨bw, 0, none⟩) ∧ v15 = .slice A5 n c5 ∧ Want w3 wx n bw (.slice A5 n c5) ms #[.int .i64 F, .int .i64 P, .int .u64 r0, .int .u64 r1, .int .u64 r2, .int .u64 r3, .int .u64 r4, .int .u64 r5, .int .u64 r6, .int .u64 r7])
  case first =>
    go_region_held3 (fun w' => w'.cell? ⟨w.heap.size, 0, none⟩ = some (.int .i64 F) ∧ w'.cell? ⟨w.heap.size, 1, none⟩ = some (.int .i64 P) ∧ w'.cell? ⟨w.heap.size, 2, none⟩ = some (.int .u64 r0) ∧ w'.cell? ⟨w.heap.size, 3, none⟩ = some (.int .u64 r1) ∧ w'.cell? ⟨w.heap.size, 4, none⟩ = some (.int .u64 r2) ∧ w'.cell? ⟨w.heap.size, 5, none⟩ = some (.int .u64 r3) ∧ w'.cell? ⟨w.heap.size, 6, none⟩ = some (.int .u64 r4) ∧ w'.cell? ⟨w.heap.size, 7, none⟩ = some (.int .u64 r5) ∧ w'.cell? ⟨w.heap.size, 8, none⟩ = some (.int .u64 r6) ∧ w'.cell? ⟨w.heap.size, 9, none⟩ = some (.int .u64 r7)) (first | (refine hFB.out _ ?_; repeat (first | with_reducible exact K35 | with_reducible exact Keeps.refl _ _ | with_reducible refine Keeps.alloc ?_ _ | with_reducible refine Keeps.drew ?_ | (with_reducible refine Keeps.set ?_ (.inr ?_) _; rotate_left; focus (simp; done)) | (with_reducible refine Keeps.setCells (.inr ?_) _ _ _ ?_; focus (simp; done)))))
      (first
      | (refine step_appX (P := Try.prog) elW ?_ (.tmp 101) (.tmp 102) ?_ (.slice (some ⟨w3.heap.size, 0, none⟩) 0 0) 0 [] ?_ ?_ A b off n c (ms.map rv) ?_ ?_ ?_ ?_ rv_one ?_ ?_ ?_
         · rfl
         · rfl
         · rfl
         · repeat (first | with_reducible exact own_new _ (by simp) | with_reducible refine World.ownsRow.alloc ?_ _ | with_reducible refine World.ownsRow.drew ?_ | (refine own_setCells ?_ ?_; rotate_left; focus (simp [Value.ownBlock]; omega)))
         · rfl
         · exact hA.out
         · exact nl.out
         · refine M3.out _ ?_
           repeat (first | with_reducible exact Keeps.refl _ _ | with_reducible refine Keeps.alloc ?_ _ | with_reducible refine Keeps.drew ?_ | (refine Keeps.setCells (.inr ?_) _ _ _ ?_; focus (simp; done)))
         · simp only [maxLen]; omega
         · omega
         intro v5 w5 ho5 hg5 hf5 hs5
         obtain ⟨A5, cap5, rfl⟩ := Own.isSlice ho5
         have K35 : Keeps NoBlock w3 w5 := by
           refine Keeps.grown ?_ hg5 ?_
           · repeat (first | with_reducible exact Keeps.refl _ _ | with_reducible refine Keeps.alloc ?_ _ | with_reducible refine Keeps.drew ?_ | (refine Keeps.setCells (.inr ?_) _ _ _ ?_; focus (simp; done)))
           · intro k hk
             right
             simp only [Value.ownBlock, Option.some.injEq] at hk
             omega
         have F5 := hFB.out w5 K35
         have Z5 : w5.heap[w3.heap.size + 1]? = some (.cells #[.int .i64 0, .int .i64 0, .int .u64 0, .int .u64 0, .int .u64 0, .int .u64 0, .int .u64 0, .int .u64 0, .int .u64 0, .int .u64 0] 29 (0, 0)) := by
           refine blk_grown hg5 ?_ ?_
           · simp [Value.ownBlock]
           · first | exact block_alloc_new _ _ | (refine block_alloc_old ?_; exact block_alloc_new _ _) | (refine blk_new ?_; simp; done) | (refine block_alloc_old ?_; refine blk_drew ?_; exact block_alloc_new _ _)
         obtain ⟨f0, f1, f2, f3, f4, f5, f6, f7, f8, f9⟩ := ten_frozen Z5
         have lz := lt_of_block Z5
         obtain ⟨y0, y1, y2, y3, y4, y5, y6, y7, y8, y9⟩ := ten_at Z5
         clear F5
         clear hs5)
      | (refine step_appX (P := Try.prog) elW ?_ (.tmp 101) (.tmp 102) ?_ (.slice (some ⟨w3.heap.size + 1, 0, none⟩) 0 0) 0 [] ?_ ?_ A b off n c (ms.map rv) ?_ ?_ ?_ ?_ rv_one ?_ ?_ ?_
         · rfl
         · rfl
         · rfl
         · repeat (first | with_reducible exact own_new _ (by simp) | with_reducible refine World.ownsRow.alloc ?_ _ | with_reducible refine World.ownsRow.drew ?_ | (refine own_setCells ?_ ?_; rotate_left; focus (simp [Value.ownBlock]; omega)))
         · rfl
         · exact hA.out
         · exact nl.out
         · refine M3.out _ ?_
           repeat (first | with_reducible exact Keeps.refl _ _ | with_reducible refine Keeps.alloc ?_ _ | with_reducible refine Keeps.drew ?_ | (refine Keeps.setCells (.inr ?_) _ _ _ ?_; focus (simp; done)))
         · simp only [maxLen]; omega
         · omega
         intro v5 w5 ho5 hg5 hf5 hs5
         obtain ⟨A5, cap5, rfl⟩ := Own.isSlice ho5
         have K35 : Keeps NoBlock w3 w5 := by
           refine Keeps.grown ?_ hg5 ?_
           · repeat (first | with_reducible exact Keeps.refl _ _ | with_reducible refine Keeps.alloc ?_ _ | with_reducible refine Keeps.drew ?_ | (refine Keeps.setCells (.inr ?_) _ _ _ ?_; focus (simp; done)))
           · intro k hk
             right
             simp only [Value.ownBlock, Option.some.injEq] at hk
             omega
         have F5 := hFB.out w5 K35
         have Z5 : w5.heap[w3.heap.size]? = some (.cells #[.int .i64 0, .int .i64 0, .int .u64 0, .int .u64 0, .int .u64 0, .int .u64 0, .int .u64 0, .int .u64 0, .int .u64 0, .int .u64 0] 29 (0, 0)) := by
           refine blk_grown hg5 ?_ ?_
           · simp [Value.ownBlock]
           · first | exact block_alloc_new _ _ | (refine block_alloc_old ?_; exact block_alloc_new _ _) | (refine blk_new ?_; simp; done) | (refine block_alloc_old ?_; refine blk_drew ?_; exact block_alloc_new _ _)
         obtain ⟨f0, f1, f2, f3, f4, f5, f6, f7, f8, f9⟩ := ten_frozen Z5
         have lz := lt_of_block Z5
         obtain ⟨y0, y1, y2, y3, y4, y5, y6, y7, y8, y9⟩ := ten_at Z5
         clear F5
         clear hs5)
      | (refine step_appX (P := Try.prog) elW ?_ (.tmp 101) (.tmp 102) ?_ (.slice (some ⟨w3.heap.size, 0, none⟩) 0 0) 0 [] ?_ ?_ A b off n c (ms.map rv) ?_ ?_ ?_ ?_ rv_one ?_ ?_ ?_
         · rfl
         · rfl
         · rfl
         · repeat (first | with_reducible exact own_new _ (by simp) | with_reducible refine World.ownsRow.alloc ?_ _ | with_reducible refine World.ownsRow.drew ?_ | (refine own_setCells ?_ ?_; rotate_left; focus (simp [Value.ownBlock]; omega)))
         · rfl
         · exact hA.out
         · exact nl.out
         · refine M3.out _ ?_
           repeat (first | with_reducible exact Keeps.refl _ _ | with_reducible refine Keeps.alloc ?_ _ | with_reducible refine Keeps.drew ?_ | (refine Keeps.setCells (.inr ?_) _ _ _ ?_; focus (simp; done)))
         · simp only [maxLen]; omega
         · omega
         intro v5 w5 ho5 hg5 hf5 hs5
         obtain ⟨A5, cap5, rfl⟩ := Own.isSlice ho5
         have K35 : Keeps NoBlock w3 w5 := by
           refine Keeps.grown ?_ hg5 ?_
           · repeat (first | with_reducible exact Keeps.refl _ _ | with_reducible refine Keeps.alloc ?_ _ | with_reducible refine Keeps.drew ?_ | (refine Keeps.setCells (.inr ?_) _ _ _ ?_; focus (simp; done)))
           · intro k hk
             right
             simp only [Value.ownBlock, Option.some.injEq] at hk
             omega
         have F5 := hFB.out w5 K35
         clear hs5)
      | (refine step_appX (P := Try.prog) elW ?_ (.tmp 101) (.tmp 102) ?_ (.slice (some ⟨w3.heap.size + 1, 0, none⟩) 0 0) 0 [] ?_ ?_ A b off n c (ms.map rv) ?_ ?_ ?_ ?_ rv_one ?_ ?_ ?_
         · rfl
         · rfl
         · rfl
         · repeat (first | with_reducible exact own_new _ (by simp) | with_reducible refine World.ownsRow.alloc ?_ _ | with_reducible refine World.ownsRow.drew ?_ | (refine own_setCells ?_ ?_; rotate_left; focus (simp [Value.ownBlock]; omega)))
         · rfl
         · exact hA.out
         · exact nl.out
         · refine M3.out _ ?_
           repeat (first | with_reducible exact Keeps.refl _ _ | with_reducible refine Keeps.alloc ?_ _ | with_reducible refine Keeps.drew ?_ | (refine Keeps.setCells (.inr ?_) _ _ _ ?_; focus (simp; done)))
         · simp only [maxLen]; omega
         · omega
         intro v5 w5 ho5 hg5 hf5 hs5
         obtain ⟨A5, cap5, rfl⟩ := Own.isSlice ho5
         have K35 : Keeps NoBlock w3 w5 := by
           refine Keeps.grown ?_ hg5 ?_
           · repeat (first | with_reducible exact Keeps.refl _ _ | with_reducible refine Keeps.alloc ?_ _ | with_reducible refine Keeps.drew ?_ | (refine Keeps.setCells (.inr ?_) _ _ _ ?_; focus (simp; done)))
           · intro k hk
             right
             simp only [Value.ownBlock, Option.some.injEq] at hk
             omega
         have F5 := hFB.out w5 K35
         clear hs5)
      | (trace_state; fail))
    all_goals go_wp2_with fail
    all_goals go_meet
    all_goals refine ⟨_, _, _, rfl, rfl, ?_⟩
    all_goals
      have hof : Own w5 26 1 (.slice A5 n cap5) n (ms.map rv) := by simpa using ho5
      have hob : (Value.slice A5 (0 + n) cap5).ownBlock = (Value.slice A5 n cap5).ownBlock := by cases A5 <;> rfl
      rw [hob] at hf5
      simp only [World.size_alloc, World.size_drew, Value.ownBlock, Option.some.injEq] at hf5
      have hok : ∀ k, (Value.slice A5 n cap5).ownBlock = some k → w3.heap.size ≤ k := fun k hk => by have := hf5 k hk; omega
      first
      | (with_reducible refine want_new ?_ ?_ ?_; exact K35; exact hof; exact hok)
      | (with_reducible refine want_set ?_ ?_ ?_ ?_ ?_ ?_
         · exact K35
         · exact hof
         · exact hok
         · omega
         · intro e
           have := hf5 _ e
           omega
         · exact Z5)
  case rest =>
    obtain ⟨bw, A5, c5, rfl, rfl, WT⟩ := hcut
    clear M3 nl hFB lf x0 x1 x2 x3 x4 x5 x6 x7 x8 x9
    have Hlo := Lib.hid WT.lo
    have i0 : wc.cell? ⟨w.heap.size + 1, 0, none⟩ = some (.int .i64 19) := (WT.kp.cell (lt_of_block Bi3.out) (fun h => h)).trans (cell_of_block (o := 0) Bi3.out rfl)
    have i1 : wc.cell? ⟨w.heap.size + 1, 1, none⟩ = some (.int .i64 k) := (WT.kp.cell (lt_of_block Bi3.out) (fun h => h)).trans (cell_of_block (o := 1) Bi3.out rfl)
    have i2 : wc.cell? ⟨w.heap.size + 1, 2, none⟩ = some (.int .i64 l) := (WT.kp.cell (lt_of_block Bi3.out) (fun h => h)).trans (cell_of_block (o := 2) Bi3.out rfl)
    have i4 : wc.cell? ⟨w.heap.size + 1, 4, none⟩ = some (.int .u64 N) := (WT.kp.cell (lt_of_block Bi3.out) (fun h => h)).trans (cell_of_block (o := 4) Bi3.out rfl)
    have x1 : wc.cell? ⟨w.heap.size, 1, none⟩ = some (.int .i64 P) := (WT.kp.cell (lt_of_block Bf3.out) (fun h => h)).trans (cell_of_block (o := 1) Bf3.out rfl)
    have y1 : wc.cell? ⟨bw, 1, none⟩ = some (.int .i64 P) := cell_of_block (o := 1) WT.bl rfl
    have f1 := frozen_of_block WT.bl (o := 1)
    have hb1 : bw ≠ w.heap.size + 1 := by have := lt_of_block Bi3.out; have := WT.lo; omega
    have hb2 : w.heap.size + 1 ≠ bw := by omega
    have hb3 : bw ≠ w.heap.size := by have := lt_of_block Bf3.out; have := WT.lo; omega
    have hb4 : w.heap.size ≠ bw := by omega
    have xl := (WT.kp.cell (lt_of_block Bf3.out) (fun h => h)).trans (eight_cells Bf3.out hx)
    have hk0 : (0 : Int) ≤ (k : Int) := by omega
    have hk8 : (k : Int) < 8 := by omega
    have hwn : IntKind.u64.wrap (n : Int) = (n : Int) := by show (n : Int) % 18446744073709551616 = n; omega
    clear hx
    have K7 := Lib.hid (K3.out.trans (WT.kp.set (o := 1) (.inr WT.lo) (.int .i64 (wrap64 (P + 1)))) (fun _ _ h => h))
    have Bg7 := Lib.hid ((WT.kp.block _ (lt_of_block Bg3.out) (fun h => h)).trans Bg3.out)
    have hne : Hid (w1.heap.size ≠ bw) := by show _ ≠ _; have := lt_of_block Bg3.out; have := WT.lo; omega
    clear WT hA hm
    go_wp2_with fail
    refine (awake03_calls _).mono ?_
    rintro e w8 ⟨rfl, k8⟩
    have Bg8 := (k8.block _ (by simpa using lt_of_block Bg7.out) (fun h => h)).trans ((block_set_ne (by exact hne.out) _).trans Bg7.out)
    have z0 : w8.cell? ⟨w1.heap.size, 0, none⟩ = some (.int .i64 0) := cell_of_block (o := 0) Bg8 rfl
    have z1 : w8.cell? ⟨w1.heap.size, 1, none⟩ = some (.int .i64 0) := cell_of_block (o := 1) Bg8 rfl
    have z2 : w8.cell? ⟨w1.heap.size, 2, none⟩ = some (.int .u64 0) := cell_of_block (o := 2) Bg8 rfl
    have z3 : w8.cell? ⟨w1.heap.size, 3, none⟩ = some (.int .u64 0) := cell_of_block (o := 3) Bg8 rfl
    have z4 : w8.cell? ⟨w1.heap.size, 4, none⟩ = some (.int .u64 0) := cell_of_block (o := 4) Bg8 rfl
    have z5 : w8.cell? ⟨w1.heap.size, 5, none⟩ = some (.int .u64 0) := cell_of_block (o := 5) Bg8 rfl
    have z6 : w8.cell? ⟨w1.heap.size, 6, none⟩ = some (.int .u64 0) := cell_of_block (o := 6) Bg8 rfl
    have z7 : w8.cell? ⟨w1.heap.size, 7, none⟩ = some (.int .u64 0) := cell_of_block (o := 7) Bg8 rfl
    have z8 : w8.cell? ⟨w1.heap.size, 8, none⟩ = some (.int .u64 0) := cell_of_block (o := 8) Bg8 rfl
    have z9 : w8.cell? ⟨w1.heap.size, 9, none⟩ = some (.int .u64 0) := cell_of_block (o := 9) Bg8 rfl
    have K08 := Lib.hid (K7.out.trans k8 (fun _ _ h => h))
    clear Bg8 k8
    have heq := fun w => equalFrm 0 0 0 0 0 0 0 0 0 0 w
    have hgf := guardFrm
    go_wp2_with fail
    go_ret
    exact ⟨rfl, K08.out.below (Nat.le_refl _) (fun _ h => h.elim)⟩


end Fr
end Go.Proofs.Ytlnoejmckpimnaa
namespace Go.Proofs.Ytlnoejmckpimnaa
open Go.RowKit Ieee
namespace Fr

set_option maxRecDepth 100000 in
set_option maxHeartbeats 4000000 in
theorem plains_two (F P r0 r1 r2 r3 r4 r5 r6 r7 N P2 q0 q1 q2 q3 q4 q5 q6 q7: Int) (op : Int) (k l x : Nat) (v : Int) (q : Bool) (c0 : Int) (A : Option Addr) (b off n c : Nat) (ms : List Int) (w : World)
    (hr : Hid (plainF ⟨F, P, [r0, r1, r2, r3, r4, r5, r6, r7]⟩ (op, k, l, c0, N) ms = .ok (⟨F, P2, [q0, q1, q2, q3, q4, q5, q6, q7]⟩, ms)))
    (ho : 2 ≤ op ∧ op ≤ 15) (hN : hasN op = 3) (hk : k < 8) (hl : l < 8) (hx : [r0, r1, r2, r3, r4, r5, r6, r7][l]? = some (x : Int)) (hari : Hid (∀ W, Calls Try.prog 14 #[.int .i64 op, .int .u64 (x : Int), .int .u64 0] W fun e w' => e = out2 v q ∧ Keeps NoBlock W w')) (hP : IntKind.i64.wrap (P + 1) = P2) (hq : Hid ([r0, r1, r2, r3, r4, r5, r6, r7].set k v = [q0, q1, q2, q3, q4, q5, q6, q7])) (hn : n ≤ 200) (hml : Hid (ms.length = n))
    (hA : Hid (0 < n → A = some ⟨b, off, none⟩)) (hm : Hid (∀ W, Keeps NoBlock w W → ∀ (j : Nat) (x : Int), ms[j]? = some x → W.cell? ⟨b, off + j, none⟩ = some (rv x)))
    (hpl : Hid (∀ W, Keeps NoBlock w W → n ≤ 200 → Calls Try.prog 15 #[.agg #[.int .i64 F, .int .i64 P, .int .u64 r0, .int .u64 r1, .int .u64 r2, .int .u64 r3, .int .u64 r4, .int .u64 r5, .int .u64 r6, .int .u64 r7], .agg #[.int .i64 op, .int .i64 k, .int .i64 l, .int .i64 c0, .int .u64 N], .slice A n c] W (PlainPost W (plainF ⟨F, P, [r0, r1, r2, r3, r4, r5, r6, r7]⟩ (op, k, l, c0, N) ms)))) :
    Calls Try.prog 5 #[.agg #[.int .i64 F, .int .i64 P, .int .u64 r0, .int .u64 r1, .int .u64 r2, .int .u64 r3, .int .u64 r4, .int .u64 r5, .int .u64 r6, .int .u64 r7], .agg #[.int .i64 op, .int .i64 k, .int .i64 l, .int .i64 c0, .int .u64 N], .slice A n c] w fun e w' => e = .returned (.bool true) ∧ Below w.heap.size w w' := by
  have hml2 := hml
  have Hk : Hid (okR (k : Int) = true) := by unfold Hid okR; rw [decide_eq_true_iff]; omega
  have Hl : Hid (okR (l : Int) = true) := by unfold Hid okR; rw [decide_eq_true_iff]; omega
  have HN : Hid ((str (hasS op)).size = 3) := by show _ = 3; rw [str_size, has_len (by omega) (by omega)]; exact hN
  have Ho := Lib.hid ho
  clear hN ho
  have hg : decide ((200 : Int) < (n : Int)) = false := by simp; omega
  go_enter Try.func5, Try.ntmps5
  go_wp2_with fail
  generalize hW : World.alloc (World.alloc w _) _ = W
  have Kw : Hid (Keeps NoBlock w W) := by
    show Keeps _ _ _
    rw [← hW]
    exact ((Keeps.refl NoBlock w).alloc _).alloc _
  have Bf : Hid (W.heap[w.heap.size]? = some (.cells #[.int .i64 F, .int .i64 P, .int .u64 r0, .int .u64 r1, .int .u64 r2, .int .u64 r3, .int .u64 r4, .int .u64 r5, .int .u64 r6, .int .u64 r7] 29 (0, 0))) := by show _ = _; rw [← hW]; exact block_alloc_old (block_alloc_new _ _)
  have Bi : Hid (W.heap[w.heap.size + 1]? = some (.cells #[.int .i64 op, .int .i64 k, .int .i64 l, .int .i64 c0, .int .u64 N] 31 (0, 0))) := by show _ = _; rw [← hW]; exact blk_new (by simp)
  clear hW
  refine (hpl.out W Kw.out (by omega)).mono ?_
  clear hg
  rintro e w1 ⟨k1, hres⟩
  have Bf1 := Lib.hid ((k1.block _ (lt_of_block Bf.out) (fun h => h)).trans Bf.out)
  have Bi1 := Lib.hid ((k1.block _ (lt_of_block Bi.out) (fun h => h)).trans Bi.out)
  have K1 := Lib.hid (Kw.out.trans k1 (fun _ _ h => h))
  clear k1 hpl Kw Bf Bi
  rw [hr.out] at hres
  obtain ⟨g1, he, hg1, hb1⟩ := hres
  have hg1 := Lib.hid hg1
  have hb1 := Lib.hid hb1
  have he2 : e = .returned (.tuple #[.agg #[.int .i64 F, .int .i64 P2, .int .u64 q0, .int .u64 q1, .int .u64 q2, .int .u64 q3, .int .u64 q4, .int .u64 q5, .int .u64 q6, .int .u64 q7], .slice (some ⟨g1, 0, none⟩) n n, .int .i64 0]) := by rw [← hml2.out]; exact he
  subst he2
  clear he hr
  go_upto_region 4 with fail
  generalize hW : World.alloc w1 _ = W2
  have K2 : Hid (Keeps NoBlock w W2) := by show Keeps _ _ _; rw [← hW]; exact K1.out.alloc _
  have Bf2 : Hid (W2.heap[w.heap.size]? = some (.cells #[.int .i64 F, .int .i64 P, .int .u64 r0, .int .u64 r1, .int .u64 r2, .int .u64 r3, .int .u64 r4, .int .u64 r5, .int .u64 r6, .int .u64 r7] 29 (0, 0))) := by show _ = _; rw [← hW]; exact block_alloc_old Bf1.out
  have Bi2 : Hid (W2.heap[w.heap.size + 1]? = some (.cells #[.int .i64 op, .int .i64 k, .int .i64 l, .int .i64 c0, .int .u64 N] 31 (0, 0))) := by show _ = _; rw [← hW]; exact block_alloc_old Bi1.out
  have Bg2 : Hid (W2.heap[w1.heap.size]? = some (.cells #[.int .i64 F, .int .i64 P2, .int .u64 q0, .int .u64 q1, .int .u64 q2, .int .u64 q3, .int .u64 q4, .int .u64 q5, .int .u64 q6, .int .u64 q7] 29 (0, 0))) := by show _ = _; rw [← hW]; exact block_alloc_new _ _
  have H2 : Hid (W2.heap[g1]? = some (.cells (mC ms) 26 (0, 0))) := by show _ = _; rw [← hW]; exact block_alloc_old hb1.out
  clear hW Bf1 Bi1 K1 hb1
  have i0 : W2.cell? ⟨w.heap.size + 1, 0, none⟩ = some (.int .i64 op) := cell_of_block (o := 0) Bi2.out rfl
  go_wp2_with fail
  refine (has_calls op _).mono ?_
  rintro e w3 ⟨rfl, k3⟩
  have Bf3 := Lib.hid ((k3.block _ (lt_of_block Bf2.out) (fun h => h)).trans Bf2.out)
  have Bi3 := Lib.hid ((k3.block _ (lt_of_block Bi2.out) (fun h => h)).trans Bi2.out)
  have Bg3 := Lib.hid ((k3.block _ (lt_of_block Bg2.out) (fun h => h)).trans Bg2.out)
  have H3 := Lib.hid ((k3.block _ (lt_of_block H2.out) (fun h => h)).trans H2.out)
  have K3 := Lib.hid (K2.out.trans k3 (fun _ _ h => h))
  clear k3 i0 Bf2 Bi2 Bg2 H2 K2
  have i0 : w3.cell? ⟨w.heap.size + 1, 0, none⟩ = some (.int .i64 op) := cell_of_block (o := 0) Bi3.out rfl
  have i1 : w3.cell? ⟨w.heap.size + 1, 1, none⟩ = some (.int .i64 k) := cell_of_block (o := 1) Bi3.out rfl
  have i2 : w3.cell? ⟨w.heap.size + 1, 2, none⟩ = some (.int .i64 l) := cell_of_block (o := 2) Bi3.out rfl
  have i3 : w3.cell? ⟨w.heap.size + 1, 3, none⟩ = some (.int .i64 c0) := cell_of_block (o := 3) Bi3.out rfl
  have i4 : w3.cell? ⟨w.heap.size + 1, 4, none⟩ = some (.int .u64 N) := cell_of_block (o := 4) Bi3.out rfl
  obtain ⟨h1, h2⟩ := Ho.out
  have h1' : (1 : Int) ≤ op := by omega
  have h2' : op ≤ (19 : Int) := by omega
  have n1 : (op == 1) = false := by rw [beq_eq_false_iff_ne]; omega
  have n16 : (op == 16) = false := by rw [beq_eq_false_iff_ne]; omega
  have n17 : (op == 17) = false := by rw [beq_eq_false_iff_ne]; omega
  have n18 : (op == 18) = false := by rw [beq_eq_false_iff_ne]; omega
  have n19 : (op == 19) = false := by rw [beq_eq_false_iff_ne]; omega
  have h4 : (op != 16) = true := by simp [bne, n16]
  clear h1 h2 Ho
  generalize str (hasS op) = S at HN ⊢
  obtain ⟨sz, hsz⟩ : ∃ sz, S.size = sz := ⟨_, rfl⟩
  have h5 : decide ((2 : Int) < (sz : Int)) = true := by have := HN.out; rw [decide_eq_true_iff]; omega
  have h6 : 2 < sz := by have := HN.out; omega
  have h7 : decide ((3 : Int) < (sz : Int)) = false := by have := HN.out; rw [decide_eq_false_iff_not]; omega
  have h8 : sz ≤ 3 := by have := HN.out; omega
  clear HN
  go_wp2_with fail
  refine (lreg_calls k _).mono ?_
  rintro e w5 ⟨rfl, rfl⟩
  rw [Hk.out]
  go_wp2_with fail
  refine (lreg_calls l _).mono ?_
  rintro e w5 ⟨rfl, rfl⟩
  rw [Hl.out]
  go_upto_region 10 with fail
  have M3 : Hid (∀ W', Keeps NoBlock w3 W' → ∀ j u, (ms.map rv)[j]? = some u → W'.cell? ⟨b, off + j, none⟩ = some u) := fun W' k => ms_news hm.out K3.out k
  have nl : Hid ((ms.map rv).length = n * 1) := by show _ = _; rw [List.length_map, hml.out]; omega
  have x0 : w3.cell? ⟨w.heap.size, 0, none⟩ = some (.int .i64 F) := cell_of_block (o := 0) Bf3.out rfl
  have x1 : w3.cell? ⟨w.heap.size, 1, none⟩ = some (.int .i64 P) := cell_of_block (o := 1) Bf3.out rfl
  have x2 : w3.cell? ⟨w.heap.size, 2, none⟩ = some (.int .u64 r0) := cell_of_block (o := 2) Bf3.out rfl
  have x3 : w3.cell? ⟨w.heap.size, 3, none⟩ = some (.int .u64 r1) := cell_of_block (o := 3) Bf3.out rfl
  have x4 : w3.cell? ⟨w.heap.size, 4, none⟩ = some (.int .u64 r2) := cell_of_block (o := 4) Bf3.out rfl
  have x5 : w3.cell? ⟨w.heap.size, 5, none⟩ = some (.int .u64 r3) := cell_of_block (o := 5) Bf3.out rfl
  have x6 : w3.cell? ⟨w.heap.size, 6, none⟩ = some (.int .u64 r4) := cell_of_block (o := 6) Bf3.out rfl
  have x7 : w3.cell? ⟨w.heap.size, 7, none⟩ = some (.int .u64 r5) := cell_of_block (o := 7) Bf3.out rfl
  have x8 : w3.cell? ⟨w.heap.size, 8, none⟩ = some (.int .u64 r6) := cell_of_block (o := 8) Bf3.out rfl
  have x9 : w3.cell? ⟨w.heap.size, 9, none⟩ = some (.int .u64 r7) := cell_of_block (o := 9) Bf3.out rfl
  have lf := lt_of_block Bf3.out
  have hFB : Hid (∀ w', Keeps NoBlock w3 w' → w'.cell? ⟨w.heap.size, 0, none⟩ = some (.int .i64 F) ∧ w'.cell? ⟨w.heap.size, 1, none⟩ = some (.int .i64 P) ∧ w'.cell? ⟨w.heap.size, 2, none⟩ = some (.int .u64 r0) ∧ w'.cell? ⟨w.heap.size, 3, none⟩ = some (.int .u64 r1) ∧ w'.cell? ⟨w.heap.size, 4, none⟩ = some (.int .u64 r2) ∧ w'.cell? ⟨w.heap.size, 5, none⟩ = some (.int .u64 r3) ∧ w'.cell? ⟨w.heap.size, 6, none⟩ = some (.int .u64 r4) ∧ w'.cell? ⟨w.heap.size, 7, none⟩ = some (.int .u64 r5) ∧ w'.cell? ⟨w.heap.size, 8, none⟩ = some (.int .u64 r6) ∧ w'.cell? ⟨w.heap.size, 9, none⟩ = some (.int .u64 r7)) := fun w' k => ten_at ((k.block _ (lt_of_block Bf3.out) (fun h => h)).trans Bf3.out)
  clear i0 i1 i2 i3 i4
  go_cut [14, 15] from 100 to 103 (fun v14 v15 wx => ∃ bw A5 c5, v14 = .pointer (some ⟨bw, 0, none⟩) ∧ v15 = .slice A5 n c5 ∧ Want w3 wx n bw (.slice A5 n c5) ms #[.int .i64 F, .int .i64 P, .int .u64 r0, .int .u64 r1, .int .u64 r2, .int .u64 r3, .int .u64 r4, .int .u64 r5, .int .u64 r6, .int .u64 r7])
  case first =>
    go_region_held3 (fun w' => w'.cell? ⟨w.heap.size, 0, none⟩ = some (.int .i64 F) ∧ w'.cell? ⟨w.heap.size, 1, none⟩ = some (.int .i64 P) ∧ w'.cell? ⟨w.heap.size, 2, none⟩ = some (.int .u64 r0) ∧ w'.cell? ⟨w.heap.size, 3, none⟩ = some (.int .u64 r1) ∧ w'.cell? ⟨w.heap.size, 4, none⟩ = some (.int .u64 r2) ∧ w'.cell? ⟨w.heap.size, 5, none⟩ = some (.int .u64 r3) ∧ w'.cell? ⟨w.heap.size, 6, none⟩ = some (.int .u64 r4) ∧ w'.cell? ⟨w.heap.size, 7, none⟩ = some (.int .u64 r5) ∧ w'.cell? ⟨w.heap.size, 8, none⟩ = some (.int .u64 r6) ∧ w'.cell? ⟨w.heap.size, 9, none⟩ = some (.int .u64 r7)) (first | (refine hFB.out _ ?_; repeat (first | with_reducible exact K35 | with_reducible exact Keeps.refl _ _ | with_reducible refine Keeps.alloc ?_ _ | with_reducible refine Keeps.drew ?_ | (with_reducible refine Keeps.set ?_ (.inr ?_) _; rotate_left; focus (simp; done)) | (with_reducible refine Keeps.setCells (.inr ?_) _ _ _ ?_; focus (simp; done)))))
      (first
      | (refine step_appX (P := Try.prog) elW ?_ (.tmp 101) (.tmp 102) ?_ (.slice (some ⟨w3.heap.size, 0, none⟩) 0 0) 0 [] ?_ ?_ A b off n c (ms.map rv) ?_ ?_ ?_ ?_ rv_one ?_ ?_ ?_
         · rfl
         · rfl
         · rfl
         · repeat (first | with_reducible exact own_new _ (by simp) | with_reducible refine World.ownsRow.alloc ?_ _ | with_reducible refine World.ownsRow.drew ?_ | (refine own_setCells ?_ ?_; rotate_left; focus (simp [Value.ownBlock]; omega)))
         · rfl
         · exact hA.out
         · exact nl.out
         · refine M3.out _ ?_
           repeat (first | with_reducible exact Keeps.refl _ _ | with_reducible refine Keeps.alloc ?_ _ | with_reducible refine Keeps.drew ?_ | (refine Keeps.setCells (.inr ?_) _ _ _ ?_; focus (simp; done)))
         · simp only [maxLen]; omega
         · omega
         intro v5 w5 ho5 hg5 hf5 hs5
         obtain ⟨A5, cap5, rfl⟩ := Own.isSlice ho5
         have K35 : Keeps NoBlock w3 w5 := by
           refine Keeps.grown ?_ hg5 ?_
           · repeat (first | with_reducible exact Keeps.refl _ _ | with_reducible refine Keeps.alloc ?_ _ | with_reducible refine Keeps.drew ?_ | (refine Keeps.setCells (.inr ?_) _ _ _ ?_; focus (simp; done)))
           · intro k hk
             right
             simp only [Value.ownBlock, Option.some.injEq] at hk
             omega
         have F5 := hFB.out w5 K35
         have Z5 : w5.heap[w3.heap.size + 1]? = some (.cells #[.int .i64 0, .int .i64 0, .int .u64 0, .int .u64 0, .int .u64 0, .int .u64 0, .int .u64 0, .int .u64 0, .int .u64 0, .int .u64 0] 29 (0, 0)) := by
           refine blk_grown hg5 ?_ ?_
           · simp [Value.ownBlock]
           · first | exact block_alloc_new _ _ | (refine block_alloc_old ?_; exact block_alloc_new _ _) | (refine blk_new ?_; simp; done) | (refine block_alloc_old ?_; refine blk_drew ?_; exact block_alloc_new _ _)
         obtain ⟨f0, f1, f2, f3, f4, f5, f6, f7, f8, f9⟩ := ten_frozen Z5
         have lz := lt_of_block Z5
         obtain ⟨y0, y1, y2, y3, y4, y5, y6, y7, y8, y9⟩ := ten_at Z5
         clear F5
         clear hs5)
      | (refine step_appX (P := Try.prog) elW ?_ (.tmp 101) (.tmp 102) ?_ (.slice (some ⟨w3.heap.size + 1, 0, none⟩) 0 0) 0 [] ?_ ?_ A b off n c (ms.map rv) ?_ ?_ ?_ ?_ rv_one ?_ ?_ ?_
         · rfl
         · rfl
         · rfl
         · repeat (first | with_reducible exact own_new _ (by simp) | with_reducible refine World.ownsRow.alloc ?_ _ | with_reducible refine World.ownsRow.drew ?_ | (refine own_setCells ?_ ?_; rotate_left; focus (simp [Value.ownBlock]; omega)))
         · rfl
         · exact hA.out
         · exact nl.out
         · refine M3.out _ ?_
           repeat (first | with_reducible exact Keeps.refl _ _ | with_reducible refine Keeps.alloc ?_ _ | with_reducible refine Keeps.drew ?_ | (refine Keeps.setCells (.inr ?_) _ _ _ ?_; focus (simp; done)))
         · simp only [maxLen]; omega
         · omega
         intro v5 w5 ho5 hg5 hf5 hs5
         obtain ⟨A5, cap5, rfl⟩ := Own.isSlice ho5
         have K35 : Keeps NoBlock w3 w5 := by
           refine Keeps.grown ?_ hg5 ?_
           · repeat (first | with_reducible exact Keeps.refl _ _ | with_reducible refine Keeps.alloc ?_ _ | with_reducible refine Keeps.drew ?_ | (refine Keeps.setCells (.inr ?_) _ _ _ ?_; focus (simp; done)))
           · intro k hk
             right
             simp only [Value.ownBlock, Option.some.injEq] at hk
             omega
         have F5 := hFB.out w5 K35
         have Z5 : w5.heap[w3.heap.size]? = some (.cells #[.int .i64 0, .int .i64 0, .int .u64 0, .int .u64 0, .int .u64 0, .int .u64 0, .int .u64 0, .int .u64 0, .int .u64 0, .int .u64 0] 29 (0, 0)) := by
           refine blk_grown hg5 ?_ ?_
           · simp [Value.ownBlock]
           · first | exact block_alloc_new _ _ | (refine block_alloc_old ?_; exact block_alloc_new _ _) | (refine blk_new ?_; simp; done) | (refine block_alloc_old ?_; refine blk_drew ?_; exact block_alloc_new _ _)
         obtain ⟨f0, f1, f2, f3, f4, f5, f6, f7, f8, f9⟩ := ten_frozen Z5
         have lz := lt_of_block Z5
         obtain ⟨y0, y1, y2, y3, y4, y5, y6, y7, y8, y9⟩ := ten_at Z5
         clear F5
         clear hs5)
      | (refine step_appX (P := Try.prog) elW ?_ (.tmp 101) (.tmp 102) ?_ (.slice (some ⟨w3.heap.size, 0, none⟩) 0 0) 0 [] ?_ ?_ A b off n c (ms.map rv) ?_ ?_ ?_ ?_ rv_one ?_ ?_ ?_
         · rfl
         · rfl
         · rfl
         · repeat (first | with_reducible exact own_new _ (by simp) | with_reducible refine World.ownsRow.alloc ?_ _ | with_reducible refine World.ownsRow.drew ?_ | (refine own_setCells ?_ ?_; rotate_left; focus (simp [Value.ownBlock]; omega)))
         · rfl
         · exact hA.out
         · exact nl.out
         · refine M3.out _ ?_
           repeat (first | with_reducible exact Keeps.refl _ _ | with_reducible refine Keeps.alloc ?_ _ | with_reducible refine Keeps.drew ?_ | (refine Keeps.setCells (.inr ?_) _ _ _ ?_; focus (simp; done)))
         · simp only [maxLen]; omega
         · omega
         intro v5 w5 ho5 hg5 hf5 hs5
         obtain ⟨A5, cap5, rfl⟩ := Own.isSlice ho5
         have K35 : Keeps NoBlock w3 w5 := by
           refine Keeps.grown ?_ hg5 ?_
           · repeat (first | with_reducible exact Keeps.refl _ _ | with_reducible refine Keeps.alloc ?_ _ | with_reducible refine Keeps.drew ?_ | (refine Keeps.setCells (.inr ?_) _ _ _ ?_; focus (simp; done)))
           · intro k hk
             right
             simp only [Value.ownBlock, Option.some.injEq] at hk
             omega
         have F5 := hFB.out w5 K35
         clear hs5)
      | (refine step_appX (P := Try.prog) elW ?_ (.tmp 101) (.tmp 102) ?_ (.slice (some ⟨w3.heap.size + 1, 0, none⟩) 0 0) 0 [] ?_ ?_ A b off n c (ms.map rv) ?_ ?_ ?_ ?_ rv_one ?_ ?_ ?_
         · rfl
         · rfl
         · rfl
         · repeat (first | with_reducible exact own_new _ (by simp) | with_reducible refine World.ownsRow.alloc ?_ _ | with_reducible refine World.ownsRow.drew ?_ | (refine own_setCells ?_ ?_; rotate_left; focus (simp [Value.ownBlock]; omega)))
         · rfl
         · exact hA.out
         · exact nl.out
         · refine M3.out _ ?_
           repeat (first | with_reducible exact Keeps.refl _ _ | with_reducible refine Keeps.alloc ?_ _ | with_reducible refine Keeps.drew ?_ | (refine Keeps.setCells (.inr ?_) _ _ _ ?_; focus (simp; done)))
         · simp only [maxLen]; omega
         · omega
         intro v5 w5 ho5 hg5 hf5 hs5
         obtain ⟨A5, cap5, rfl⟩ := Own.isSlice ho5
         have K35 : Keeps NoBlock w3 w5 := by
           refine Keeps.grown ?_ hg5 ?_
           · repeat (first | with_reducible exact Keeps.refl _ _ | with_reducible refine Keeps.alloc ?_ _ | with_reducible refine Keeps.drew ?_ | (refine Keeps.setCells (.inr ?_) _ _ _ ?_; focus (simp; done)))
           · intro k hk
             right
             simp only [Value.ownBlock, Option.some.injEq] at hk
             omega
         have F5 := hFB.out w5 K35
         clear hs5)
      | (trace_state; fail))
    all_goals go_wp2_with fail
    all_goals go_meet
    all_goals refine ⟨_, _, _, rfl, rfl, ?_⟩
    all_goals
      have hof : Own w5 26 1 (.slice A5 n cap5) n (ms.map rv) := by simpa using ho5
      have hob : (Value.slice A5 (0 + n) cap5).ownBlock = (Value.slice A5 n cap5).ownBlock := by cases A5 <;> rfl
      rw [hob] at hf5
      simp only [World.size_alloc, World.size_drew, Value.ownBlock, Option.some.injEq] at hf5
      have hok : ∀ k, (Value.slice A5 n cap5).ownBlock = some k → w3.heap.size ≤ k := fun k hk => by have := hf5 k hk; omega
      first
      | (with_reducible refine want_new ?_ ?_ ?_; exact K35; exact hof; exact hok)
      | (with_reducible refine want_set ?_ ?_ ?_ ?_ ?_ ?_
         · exact K35
         · exact hof
         · exact hok
         · omega
         · intro e
           have := hf5 _ e
           omega
         · exact Z5)
  case rest =>
    obtain ⟨bw, A5, c5, rfl, rfl, WT⟩ := hcut
    clear M3 nl hFB lf x0 x1 x2 x3 x4 x5 x6 x7 x8 x9
    have Hlo := Lib.hid WT.lo
    have i0 : wc.cell? ⟨w.heap.size + 1, 0, none⟩ = some (.int .i64 op) := (WT.kp.cell (lt_of_block Bi3.out) (fun h => h)).trans (cell_of_block (o := 0) Bi3.out rfl)
    have i1 : wc.cell? ⟨w.heap.size + 1, 1, none⟩ = some (.int .i64 k) := (WT.kp.cell (lt_of_block Bi3.out) (fun h => h)).trans (cell_of_block (o := 1) Bi3.out rfl)
    have i2 : wc.cell? ⟨w.heap.size + 1, 2, none⟩ = some (.int .i64 l) := (WT.kp.cell (lt_of_block Bi3.out) (fun h => h)).trans (cell_of_block (o := 2) Bi3.out rfl)
    have i4 : wc.cell? ⟨w.heap.size + 1, 4, none⟩ = some (.int .u64 N) := (WT.kp.cell (lt_of_block Bi3.out) (fun h => h)).trans (cell_of_block (o := 4) Bi3.out rfl)
    have x1 : wc.cell? ⟨w.heap.size, 1, none⟩ = some (.int .i64 P) := (WT.kp.cell (lt_of_block Bf3.out) (fun h => h)).trans (cell_of_block (o := 1) Bf3.out rfl)
    have y1 : wc.cell? ⟨bw, 1, none⟩ = some (.int .i64 P) := cell_of_block (o := 1) WT.bl rfl
    have f1 := frozen_of_block WT.bl (o := 1)
    have hb1 : bw ≠ w.heap.size + 1 := by have := lt_of_block Bi3.out; have := WT.lo; omega
    have hb2 : w.heap.size + 1 ≠ bw := by omega
    have hb3 : bw ≠ w.heap.size := by have := lt_of_block Bf3.out; have := WT.lo; omega
    have hb4 : w.heap.size ≠ bw := by omega
    have xl := (WT.kp.cell (lt_of_block Bf3.out) (fun h => h)).trans (eight_cells Bf3.out hx)
    have hk0 : (0 : Int) ≤ (k : Int) := by omega
    have hk8 : (k : Int) < 8 := by omega
    have hl0 : (0 : Int) ≤ (l : Int) := by omega
    have hl8 : (l : Int) < 8 := by omega
    have Hb1 := Lib.hid hb1
    have Hb3 := Lib.hid hb3
    have HWT := Lib.hid WT
    clear WT hA hm
    go_upto_region 15 with fail
    generalize hW : World.setCell wc _ _ = W6
    clear i0 i1 i2 i4 x1 y1 f1 xl  hb1 hb2 hb3 hb4
    have W6T : Hid (Want w3 W6 n bw (.slice A5 n c5) ms #[.int .i64 F, .int .i64 P2, .int .u64 r0, .int .u64 r1, .int .u64 r2, .int .u64 r3, .int .u64 r4, .int .u64 r5, .int .u64 r6, .int .u64 r7]) := by
      show Want _ _ _ _ _ _ _
      rw [← hW]
      exact ⟨HWT.out.kp.set (.inr Hlo.out) _, block_set HWT.out.bl _, own_set1 HWT.out.own HWT.out.ne, Hlo.out, HWT.out.fr, HWT.out.ne⟩
    clear hW HWT
    have hS6 : Hid (∀ W', Keeps NoBlock w3 W' → W'.cell? ⟨w.heap.size + 1, 0, none⟩ = some (.int .i64 op) ∧ W'.cell? ⟨w.heap.size + 1, 1, none⟩ = some (.int .i64 (k : Int)) ∧ W'.cell? ⟨w.heap.size + 1, 2, none⟩ = some (.int .i64 (l : Int)) ∧ W'.cell? ⟨w.heap.size, 2 + l, none⟩ = some (.int .u64 (x : Int))) :=
      fun W' kk => ⟨(kk.cell (lt_of_block Bi3.out) (fun h => h)).trans (cell_of_block (o := 0) Bi3.out rfl), (kk.cell (lt_of_block Bi3.out) (fun h => h)).trans (cell_of_block (o := 1) Bi3.out rfl), (kk.cell (lt_of_block Bi3.out) (fun h => h)).trans (cell_of_block (o := 2) Bi3.out rfl), (kk.cell (lt_of_block Bf3.out) (fun h => h)).trans (eight_cells Bf3.out hx)⟩
    obtain ⟨i0, i1, i2, xl⟩ := hS6.out W6 W6T.out.kp
    obtain ⟨u, hu⟩ : ∃ u, [r0, r1, r2, r3, r4, r5, r6, r7][k]? = some u := ⟨_, List.getElem?_eq_getElem hk⟩
    have Hu := Lib.hid hu
    clear hu hx
    go_region_held3 (fun w' => w'.cell? ⟨w.heap.size + 1, 0, none⟩ = some (.int .i64 op) ∧ w'.cell? ⟨w.heap.size + 1, 1, none⟩ = some (.int .i64 (k : Int)) ∧ w'.cell? ⟨w.heap.size + 1, 2, none⟩ = some (.int .i64 (l : Int)) ∧ w'.cell? ⟨w.heap.size, 2 + l, none⟩ = some (.int .u64 (x : Int)))
      (first | (refine hS6.out _ ?_; repeat (first | with_reducible exact K62 | with_reducible exact W6T.out.kp | with_reducible refine Keeps.alloc ?_ _ | with_reducible refine Keeps.drew ?_ | (with_reducible refine Keeps.set ?_ (.inr Hlo.out) _))))
      (first
      | (go_at_call 14
         refine (hari.out _).mono ?_
         rintro e w2 ⟨rfl, k2⟩
         have hk2 : Keeps NoBlock W6 w2 := (Keeps.refl NoBlock W6).drew.trans k2 (fun _ _ h => h)
         have K62 : Keeps NoBlock w3 w2 := W6T.out.kp.trans hk2 (fun _ _ h => h)
         have hbl := (hk2.block _ (lt_of_block W6T.out.bl) (fun h => h)).trans W6T.out.bl
         have yk := eight_cells hbl Hu.out
         have fk := frozen_of_block hbl (o := 2 + k)
         clear hbl k2)
      | fail)
    go_upto_region 32 with fail
    have bl := (hk2.block _ (lt_of_block W6T.out.bl) (fun h => h)).trans W6T.out.bl
    generalize hW : World.setCell w2 _ _ = W7
    have K7 : Hid (Keeps NoBlock w3 W7) := by
      show Keeps _ _ _
      rw [← hW]
      exact K62.set (.inr Hlo.out) _
    have Bw7 : Hid (W7.heap[bw]? = some (.cells #[.int .i64 F, .int .i64 P2, .int .u64 q0, .int .u64 q1, .int .u64 q2, .int .u64 q3, .int .u64 q4, .int .u64 q5, .int .u64 q6, .int .u64 q7] 29 (0, 0))) := by
      show _ = _
      rw [← hW, ← ten_set (F := F) (P := P2) hk hq.out]
      exact block_set bl _
    have R7 : Hid (ReadsI .u64 W7 (.slice A5 n c5) ms) := by
      show ReadsI _ _ _ _
      rw [← hW]
      exact own_reads hml.out (own_set1 (W6T.out.own.keeps hk2 (fun _ _ h => h)) W6T.out.ne)
    clear hW bl yk fk hk2 K62 W6T i0 i1 i2 xl hk0 hk8 hl0 hl8
    have Bg7 := Lib.hid ((K7.out.block _ (lt_of_block Bg3.out) (fun h => h)).trans Bg3.out)
    have H7 := Lib.hid ((K7.out.block _ (lt_of_block H3.out) (fun h => h)).trans H3.out)
    clear H3 Bg3 Bf3 Bi3
    have K07 := Lib.hid (K3.out.trans K7.out (fun _ _ h => h))
    go_wp2_with fail
    refine (awake03_calls _).mono ?_
    rintro e w8 ⟨rfl, k8⟩
    have Bg8 := (k8.block _ (lt_of_block Bg7.out) (fun h => h)).trans Bg7.out
    have Bw8 := (k8.block _ (lt_of_block Bw7.out) (fun h => h)).trans Bw7.out
    have H8 := Lib.hid ((k8.block _ (lt_of_block H7.out) (fun h => h)).trans H7.out)
    have R8 := Lib.hid (R7.out.keeps k8 (fun _ _ h => h))
    have K08 := Lib.hid (K07.out.trans k8 (fun _ _ h => h))
    have x0 : w8.cell? ⟨w1.heap.size, 0, none⟩ = some (.int .i64 F) := cell_of_block (o := 0) Bg8 rfl
    have x1 : w8.cell? ⟨w1.heap.size, 1, none⟩ = some (.int .i64 P2) := cell_of_block (o := 1) Bg8 rfl
    have x2 : w8.cell? ⟨w1.heap.size, 2, none⟩ = some (.int .u64 q0) := cell_of_block (o := 2) Bg8 rfl
    have x3 : w8.cell? ⟨w1.heap.size, 3, none⟩ = some (.int .u64 q1) := cell_of_block (o := 3) Bg8 rfl
    have x4 : w8.cell? ⟨w1.heap.size, 4, none⟩ = some (.int .u64 q2) := cell_of_block (o := 4) Bg8 rfl
    have x5 : w8.cell? ⟨w1.heap.size, 5, none⟩ = some (.int .u64 q3) := cell_of_block (o := 5) Bg8 rfl
    have x6 : w8.cell? ⟨w1.heap.size, 6, none⟩ = some (.int .u64 q4) := cell_of_block (o := 6) Bg8 rfl
    have x7 : w8.cell? ⟨w1.heap.size, 7, none⟩ = some (.int .u64 q5) := cell_of_block (o := 7) Bg8 rfl
    have x8 : w8.cell? ⟨w1.heap.size, 8, none⟩ = some (.int .u64 q6) := cell_of_block (o := 8) Bg8 rfl
    have x9 : w8.cell? ⟨w1.heap.size, 9, none⟩ = some (.int .u64 q7) := cell_of_block (o := 9) Bg8 rfl
    have y0 : w8.cell? ⟨bw, 0, none⟩ = some (.int .i64 F) := cell_of_block (o := 0) Bw8 rfl
    have y1 : w8.cell? ⟨bw, 1, none⟩ = some (.int .i64 P2) := cell_of_block (o := 1) Bw8 rfl
    have y2 : w8.cell? ⟨bw, 2, none⟩ = some (.int .u64 q0) := cell_of_block (o := 2) Bw8 rfl
    have y3 : w8.cell? ⟨bw, 3, none⟩ = some (.int .u64 q1) := cell_of_block (o := 3) Bw8 rfl
    have y4 : w8.cell? ⟨bw, 4, none⟩ = some (.int .u64 q2) := cell_of_block (o := 4) Bw8 rfl
    have y5 : w8.cell? ⟨bw, 5, none⟩ = some (.int .u64 q3) := cell_of_block (o := 5) Bw8 rfl
    have y6 : w8.cell? ⟨bw, 6, none⟩ = some (.int .u64 q4) := cell_of_block (o := 6) Bw8 rfl
    have y7 : w8.cell? ⟨bw, 7, none⟩ = some (.int .u64 q5) := cell_of_block (o := 7) Bw8 rfl
    have y8 : w8.cell? ⟨bw, 8, none⟩ = some (.int .u64 q6) := cell_of_block (o := 8) Bw8 rfl
    have y9 : w8.cell? ⟨bw, 9, none⟩ = some (.int .u64 q7) := cell_of_block (o := 9) Bw8 rfl
    clear Bg8 Bw8 k8
    have heq := fun w => equalFrm F P2 q0 q1 q2 q3 q4 q5 q6 q7 w
    have hgf := guardFrm
    go_wp2_with fail
    refine (words_calls _ _ ms ms _ (reads_cells hml2.out H8.out) R8.out (by have := hml2.out; omega) (by have := hml2.out; omega)).mono ?_
    rintro e w9 ⟨rfl, k9⟩
    rw [decide_eq_true rfl]
    go_wp2_with fail
    go_ret
    exact ⟨rfl, (K08.out.trans k9 (fun _ _ h => h)).below (Nat.le_refl _) (fun _ h => h.elim)⟩


end Fr
end Go.Proofs.Ytlnoejmckpimnaa
namespace Go.Proofs.Ytlnoejmckpimnaa
open Go.RowKit Ieee
namespace Fr

set_option maxRecDepth 100000 in
set_option maxHeartbeats 4000000 in
theorem plains_three (F P r0 r1 r2 r3 r4 r5 r6 r7 N P2 q0 q1 q2 q3 q4 q5 q6 q7: Int) (op : Int) (k l x : Nat) (v : Int) (q : Bool) (m y : Nat) (A : Option Addr) (b off n c : Nat) (ms : List Int) (w : World)
    (hr : Hid (plainF ⟨F, P, [r0, r1, r2, r3, r4, r5, r6, r7]⟩ (op, k, l, m, N) ms = .ok (⟨F, P2, [q0, q1, q2, q3, q4, q5, q6, q7]⟩, ms)))
    (ho : 2 ≤ op ∧ op ≤ 15) (hN : hasN op = 4) (hk : k < 8) (hl : l < 8) (hm8 : m < 8) (hz : [r0, r1, r2, r3, r4, r5, r6, r7][m]? = some (y : Int)) (hx : [r0, r1, r2, r3, r4, r5, r6, r7][l]? = some (x : Int)) (hari : Hid (∀ W, Calls Try.prog 14 #[.int .i64 op, .int .u64 (x : Int), .int .u64 (y : Int)] W fun e w' => e = out2 v q ∧ Keeps NoBlock W w')) (hP : IntKind.i64.wrap (P + 1) = P2) (hq : Hid ([r0, r1, r2, r3, r4, r5, r6, r7].set k v = [q0, q1, q2, q3, q4, q5, q6, q7])) (hn : n ≤ 200) (hml : Hid (ms.length = n))
    (hA : Hid (0 < n → A = some ⟨b, off, none⟩)) (hm : Hid (∀ W, Keeps NoBlock w W → ∀ (j : Nat) (x : Int), ms[j]? = some x → W.cell? ⟨b, off + j, none⟩ = some (rv x)))
    (hpl : Hid (∀ W, Keeps NoBlock w W → n ≤ 200 → Calls Try.prog 15 #[.agg #[.int .i64 F, .int .i64 P, .int .u64 r0, .int .u64 r1, .int .u64 r2, .int .u64 r3, .int .u64 r4, .int .u64 r5, .int .u64 r6, .int .u64 r7], .agg #[.int .i64 op, .int .i64 k, .int .i64 l, .int .i64 m, .int .u64 N], .slice A n c] W (PlainPost W (plainF ⟨F, P, [r0, r1, r2, r3, r4, r5, r6, r7]⟩ (op, k, l, m, N) ms)))) :
    Calls Try.prog 5 #[.agg #[.int .i64 F, .int .i64 P, .int .u64 r0, .int .u64 r1, .int .u64 r2, .int .u64 r3, .int .u64 r4, .int .u64 r5, .int .u64 r6, .int .u64 r7], .agg #[.int .i64 op, .int .i64 k, .int .i64 l, .int .i64 m, .int .u64 N], .slice A n c] w fun e w' => e = .returned (.bool true) ∧ Below w.heap.size w w' := by
  have hml2 := hml
  have Hk : Hid (okR (k : Int) = true) := by unfold Hid okR; rw [decide_eq_true_iff]; omega
  have Hl : Hid (okR (l : Int) = true) := by unfold Hid okR; rw [decide_eq_true_iff]; omega
  have Hm : Hid (okR (m : Int) = true) := by unfold Hid okR; rw [decide_eq_true_iff]; omega
  have HN : Hid ((str (hasS op)).size = 4) := by show _ = 4; rw [str_size, has_len (by omega) (by omega)]; exact hN
  have Ho := Lib.hid ho
  clear hN ho
  have hg : decide ((200 : Int) < (n : Int)) = false := by simp; omega
  go_enter Try.func5, Try.ntmps5
  go_wp2_with fail
  generalize hW : World.alloc (World.alloc w _) _ = W
  have Kw : Hid (Keeps NoBlock w W) := by
    show Keeps _ _ _
    rw [← hW]
    exact ((Keeps.refl NoBlock w).alloc _).alloc _
  have Bf : Hid (W.heap[w.heap.size]? = some (.cells #[.int .i64 F, .int .i64 P, .int .u64 r0, .int .u64 r1, .int .u64 r2, .int .u64 r3, .int .u64 r4, .int .u64 r5, .int .u64 r6, .int .u64 r7] 29 (0, 0))) := by show _ = _; rw [← hW]; exact block_alloc_old (block_alloc_new _ _)
  have Bi : Hid (W.heap[w.heap.size + 1]? = some (.cells #[.int .i64 op, .int .i64 k, .int .i64 l, .int .i64 m, .int .u64 N] 31 (0, 0))) := by show _ = _; rw [← hW]; exact blk_new (by simp)
  clear hW
  refine (hpl.out W Kw.out (by omega)).mono ?_
  clear hg
  rintro e w1 ⟨k1, hres⟩
  have Bf1 := Lib.hid ((k1.block _ (lt_of_block Bf.out) (fun h => h)).trans Bf.out)
  have Bi1 := Lib.hid ((k1.block _ (lt_of_block Bi.out) (fun h => h)).trans Bi.out)
  have K1 := Lib.hid (Kw.out.trans k1 (fun _ _ h => h))
  clear k1 hpl Kw Bf Bi
  rw [hr.out] at hres
  obtain ⟨g1, he, hg1, hb1⟩ := hres
  have hg1 := Lib.hid hg1
  have hb1 := Lib.hid hb1
  have he2 : e = .returned (.tuple #[.agg #[.int .i64 F, .int .i64 P2, .int .u64 q0, .int .u64 q1, .int .u64 q2, .int .u64 q3, .int .u64 q4, .int .u64 q5, .int .u64 q6, .int .u64 q7], .slice (some ⟨g1, 0, none⟩) n n, .int .i64 0]) := by rw [← hml2.out]; exact he
  subst he2
  clear he hr
  go_upto_region 4 with fail
  generalize hW : World.alloc w1 _ = W2
  have K2 : Hid (Keeps NoBlock w W2) := by show Keeps _ _ _; rw [← hW]; exact K1.out.alloc _
  have Bf2 : Hid (W2.heap[w.heap.size]? = some (.cells #[.int .i64 F, .int .i64 P, .int .u64 r0, .int .u64 r1, .int .u64 r2, .int .u64 r3, .int .u64 r4, .int .u64 r5, .int .u64 r6, .int .u64 r7] 29 (0, 0))) := by show _ = _; rw [← hW]; exact block_alloc_old Bf1.out
  have Bi2 : Hid (W2.heap[w.heap.size + 1]? = some (.cells #[.int .i64 op, .int .i64 k, .int .i64 l, .int .i64 m, .int .u64 N] 31 (0, 0))) := by show _ = _; rw [← hW]; exact block_alloc_old Bi1.out
  have Bg2 : Hid (W2.heap[w1.heap.size]? = some (.cells #[.int .i64 F, .int .i64 P2, .int .u64 q0, .int .u64 q1, .int .u64 q2, .int .u64 q3, .int .u64 q4, .int .u64 q5, .int .u64 q6, .int .u64 q7] 29 (0, 0))) := by show _ = _; rw [← hW]; exact block_alloc_new _ _
  have H2 : Hid (W2.heap[g1]? = some (.cells (mC ms) 26 (0, 0))) := by show _ = _; rw [← hW]; exact block_alloc_old hb1.out
  clear hW Bf1 Bi1 K1 hb1
  have i0 : W2.cell? ⟨w.heap.size + 1, 0, none⟩ = some (.int .i64 op) := cell_of_block (o := 0) Bi2.out rfl
  go_wp2_with fail
  refine (has_calls op _).mono ?_
  rintro e w3 ⟨rfl, k3⟩
  have Bf3 := Lib.hid ((k3.block _ (lt_of_block Bf2.out) (fun h => h)).trans Bf2.out)
  have Bi3 := Lib.hid ((k3.block _ (lt_of_block Bi2.out) (fun h => h)).trans Bi2.out)
  have Bg3 := Lib.hid ((k3.block _ (lt_of_block Bg2.out) (fun h => h)).trans Bg2.out)
  have H3 := Lib.hid ((k3.block _ (lt_of_block H2.out) (fun h => h)).trans H2.out)
  have K3 := Lib.hid (K2.out.trans k3 (fun _ _ h => h))
  clear k3 i0 Bf2 Bi2 Bg2 H2 K2
  have i0 : w3.cell? ⟨w.heap.size + 1, 0, none⟩ = some (.int .i64 op) := cell_of_block (o := 0) Bi3.out rfl
  have i1 : w3.cell? ⟨w.heap.size + 1, 1, none⟩ = some (.int .i64 k) := cell_of_block (o := 1) Bi3.out rfl
  have i2 : w3.cell? ⟨w.heap.size + 1, 2, none⟩ = some (.int .i64 l) := cell_of_block (o := 2) Bi3.out rfl
  have i3 : w3.cell? ⟨w.heap.size + 1, 3, none⟩ = some (.int .i64 m) := cell_of_block (o := 3) Bi3.out rfl
  have i4 : w3.cell? ⟨w.heap.size + 1, 4, none⟩ = some (.int .u64 N) := cell_of_block (o := 4) Bi3.out rfl
  obtain ⟨h1, h2⟩ := Ho.out
  have h1' : (1 : Int) ≤ op := by omega
  have h2' : op ≤ (19 : Int) := by omega
  have n1 : (op == 1) = false := by rw [beq_eq_false_iff_ne]; omega
  have n16 : (op == 16) = false := by rw [beq_eq_false_iff_ne]; omega
  have n17 : (op == 17) = false := by rw [beq_eq_false_iff_ne]; omega
  have n18 : (op == 18) = false := by rw [beq_eq_false_iff_ne]; omega
  have n19 : (op == 19) = false := by rw [beq_eq_false_iff_ne]; omega
  have h4 : (op != 16) = true := by simp [bne, n16]
  clear h1 h2 Ho
  generalize str (hasS op) = S at HN ⊢
  obtain ⟨sz, hsz⟩ : ∃ sz, S.size = sz := ⟨_, rfl⟩
  have h5 : decide ((2 : Int) < (sz : Int)) = true := by have := HN.out; rw [decide_eq_true_iff]; omega
  have h6 : 2 < sz := by have := HN.out; omega
  have h7 : decide ((3 : Int) < (sz : Int)) = true := by have := HN.out; rw [decide_eq_true_iff]; omega
  have h8 : 3 < sz := by have := HN.out; omega
  clear HN
  go_wp2_with fail
  refine (lreg_calls k _).mono ?_
  rintro e w5 ⟨rfl, rfl⟩
  rw [Hk.out]
  go_wp2_with fail
  refine (lreg_calls l _).mono ?_
  rintro e w5 ⟨rfl, rfl⟩
  rw [Hl.out]
  go_wp2_with fail
  refine (lreg_calls m _).mono ?_
  rintro e w5 ⟨rfl, rfl⟩
  rw [Hm.out]
  go_upto_region 10 with fail
  have M3 : Hid (∀ W', Keeps NoBlock w3 W' → ∀ j u, (ms.map rv)[j]? = some u → W'.cell? ⟨b, off + j, none⟩ = some u) := fun W' k => ms_news hm.out K3.out k
  have nl : Hid ((ms.map rv).length = n * 1) := by show _ = _; rw [List.length_map, hml.out]; omega
  have x0 : w3.cell? ⟨w.heap.size, 0, none⟩ = some (.int .i64 F) := cell_of_block (o := 0) Bf3.out rfl
  have x1 : w3.cell? ⟨w.heap.size, 1, none⟩ = some (.int .i64 P) := cell_of_block (o := 1) Bf3.out rfl
  have x2 : w3.cell? ⟨w.heap.size, 2, none⟩ = some (.int .u64 r0) := cell_of_block (o := 2) Bf3.out rfl
  have x3 : w3.cell? ⟨w.heap.size, 3, none⟩ = some (.int .u64 r1) := cell_of_block (o := 3) Bf3.out rfl
  have x4 : w3.cell? ⟨w.heap.size, 4, none⟩ = some (.int .u64 r2) := cell_of_block (o := 4) Bf3.out rfl
  have x5 : w3.cell? ⟨w.heap.size, 5, none⟩ = some (.int .u64 r3) := cell_of_block (o := 5) Bf3.out rfl
  have x6 : w3.cell? ⟨w.heap.size, 6, none⟩ = some (.int .u64 r4) := cell_of_block (o := 6) Bf3.out rfl
  have x7 : w3.cell? ⟨w.heap.size, 7, none⟩ = some (.int .u64 r5) := cell_of_block (o := 7) Bf3.out rfl
  have x8 : w3.cell? ⟨w.heap.size, 8, none⟩ = some (.int .u64 r6) := cell_of_block (o := 8) Bf3.out rfl
  have x9 : w3.cell? ⟨w.heap.size, 9, none⟩ = some (.int .u64 r7) := cell_of_block (o := 9) Bf3.out rfl
  have lf := lt_of_block Bf3.out
  have hFB : Hid (∀ w', Keeps NoBlock w3 w' → w'.cell? ⟨w.heap.size, 0, none⟩ = some (.int .i64 F) ∧ w'.cell? ⟨w.heap.size, 1, none⟩ = some (.int .i64 P) ∧ w'.cell? ⟨w.heap.size, 2, none⟩ = some (.int .u64 r0) ∧ w'.cell? ⟨w.heap.size, 3, none⟩ = some (.int .u64 r1) ∧ w'.cell? ⟨w.heap.size, 4, none⟩ = some (.int .u64 r2) ∧ w'.cell? ⟨w.heap.size, 5, none⟩ = some (.int .u64 r3) ∧ w'.cell? ⟨w.heap.size, 6, none⟩ = some (.int .u64 r4) ∧ w'.cell? ⟨w.heap.size, 7, none⟩ = some (.int .u64 r5) ∧ w'.cell? ⟨w.heap.size, 8, none⟩ = some (.int .u64 r6) ∧ w'.cell? ⟨w.heap.size, 9, none⟩ = some (.int .u64 r7)) := fun w' k => ten_at ((k.block _ (lt_of_block Bf3.out) (fun h => h)).trans Bf3.out)
  clear i0 i1 i2 i3 i4
  go_cut [14, 15] from 100 to 103 (fun v14 v15 wx => ∃ bw A5 c5, v14 = .pointer (some ⟨bw, 0, none⟩) ∧ v15 = .slice A5 n c5 ∧ Want w3 wx n bw (.slice A5 n c5) ms #[.int .i64 F, .int .i64 P, .int .u64 r0, .int .u64 r1, .int .u64 r2, .int .u64 r3, .int .u64 r4, .int .u64 r5, .int .u64 r6, .int .u64 r7])
  case first =>
    go_region_held3 (fun w' => w'.cell? ⟨w.heap.size, 0, none⟩ = some (.int .i64 F) ∧ w'.cell? ⟨w.heap.size, 1, none⟩ = some (.int .i64 P) ∧ w'.cell? ⟨w.heap.size, 2, none⟩ = some (.int .u64 r0) ∧ w'.cell? ⟨w.heap.size, 3, none⟩ = some (.int .u64 r1) ∧ w'.cell? ⟨w.heap.size, 4, none⟩ = some (.int .u64 r2) ∧ w'.cell? ⟨w.heap.size, 5, none⟩ = some (.int .u64 r3) ∧ w'.cell? ⟨w.heap.size, 6, none⟩ = some (.int .u64 r4) ∧ w'.cell? ⟨w.heap.size, 7, none⟩ = some (.int .u64 r5) ∧ w'.cell? ⟨w.heap.size, 8, none⟩ = some (.int .u64 r6) ∧ w'.cell? ⟨w.heap.size, 9, none⟩ = some (.int .u64 r7)) (first | (refine hFB.out _ ?_; repeat (first | with_reducible exact K35 | with_reducible exact Keeps.refl _ _ | with_reducible refine Keeps.alloc ?_ _ | with_reducible refine Keeps.drew ?_ | (with_reducible refine Keeps.set ?_ (.inr ?_) _; rotate_left; focus (simp; done)) | (with_reducible refine Keeps.setCells (.inr ?_) _ _ _ ?_; focus (simp; done)))))
      (first
      | (refine step_appX (P := Try.prog) elW ?_ (.tmp 101) (.tmp 102) ?_ (.slice (some ⟨w3.heap.size, 0, none⟩) 0 0) 0 [] ?_ ?_ A b off n c (ms.map rv) ?_ ?_ ?_ ?_ rv_one ?_ ?_ ?_
         · rfl
         · rfl
         · rfl
         · repeat (first | with_reducible exact own_new _ (by simp) | with_reducible refine World.ownsRow.alloc ?_ _ | with_reducible refine World.ownsRow.drew ?_ | (refine own_setCells ?_ ?_; rotate_left; focus (simp [Value.ownBlock]; omega)))
         · rfl
         · exact hA.out
         · exact nl.out
         · refine M3.out _ ?_
           repeat (first | with_reducible exact Keeps.refl _ _ | with_reducible refine Keeps.alloc ?_ _ | with_reducible refine Keeps.drew ?_ | (refine Keeps.setCells (.inr ?_) _ _ _ ?_; focus (simp; done)))
         · simp only [maxLen]; omega
         · omega
         intro v5 w5 ho5 hg5 hf5 hs5
         obtain ⟨A5, cap5, rfl⟩ := Own.isSlice ho5
         have K35 : Keeps NoBlock w3 w5 := by
           refine Keeps.grown ?_ hg5 ?_
           · repeat (first | with_reducible exact Keeps.refl _ _ | with_reducible refine Keeps.alloc ?_ _ | with_reducible refine Keeps.drew ?_ | (refine Keeps.setCells (.inr ?_) _ _ _ ?_; focus (simp; done)))
           · intro k hk
             right
             simp only [Value.ownBlock, Option.some.injEq] at hk
             omega
         have F5 := hFB.out w5 K35
         have Z5 : w5.heap[w3.heap.size + 1]? = some (.cells #[.int .i64 0, .int .i64 0, .int .u64 0, .int .u64 0, .int .u64 0, .int .u64 0, .int .u64 0, .int .u64 0, .int .u64 0, .int .u64 0] 29 (0, 0)) := by
           refine blk_grown hg5 ?_ ?_
           · simp [Value.ownBlock]
           · first | exact block_alloc_new _ _ | (refine block_alloc_old ?_; exact block_alloc_new _ _) | (refine blk_new ?_; simp; done) | (refine block_alloc_old ?_; refine blk_drew ?_; exact block_alloc_new _ _)
         obtain ⟨f0, f1, f2, f3, f4, f5, f6, f7, f8, f9⟩ := ten_frozen Z5
         have lz := lt_of_block Z5
         obtain ⟨y0, y1, y2, y3, y4, y5, y6, y7, y8, y9⟩ := ten_at Z5
         clear F5
         clear hs5)
      | (refine step_appX (P := Try.prog) elW ?_ (.tmp 101) (.tmp 102) ?_ (.slice (some ⟨w3.heap.size + 1, 0, none⟩) 0 0) 0 [] ?_ ?_ A b off n c (ms.map rv) ?_ ?_ ?_ ?_ rv_one ?_ ?_ ?_
         · rfl
         · rfl
         · rfl
         · repeat (first | with_reducible exact own_new _ (by simp) | with_reducible refine World.ownsRow.alloc ?_ _ | with_reducible refine World.ownsRow.drew ?_ | (refine own_setCells ?_ ?_; rotate_left; focus (simp [Value.ownBlock]; omega)))
         · rfl
         · exact hA.out
         · exact nl.out
         · refine M3.out _ ?_
           repeat (first | with_reducible exact Keeps.refl _ _ | with_reducible refine Keeps.alloc ?_ _ | with_reducible refine Keeps.drew ?_ | (refine Keeps.setCells (.inr ?_) _ _ _ ?_; focus (simp; done)))
         · simp only [maxLen]; omega
         · omega
         intro v5 w5 ho5 hg5 hf5 hs5
         obtain ⟨A5, cap5, rfl⟩ := Own.isSlice ho5
         have K35 : Keeps NoBlock w3 w5 := by
           refine Keeps.grown ?_ hg5 ?_
           · repeat (first | with_reducible exact Keeps.refl _ _ | with_reducible refine Keeps.alloc ?_ _ | with_reducible refine Keeps.drew ?_ | (refine Keeps.setCells (.inr ?_) _ _ _ ?_; focus (simp; done)))
           · intro k hk
             right
             simp only [Value.ownBlock, Option.some.injEq] at hk
             omega
         have F5 := hFB.out w5 K35
         have Z5 : w5.heap[w3.heap.size]? = some (.cells #[.int .i64 0, .int .i64 0, .int .u64 0, .int .u64 0, .int .u64 0, .int .u64 0, .int .u64 0, .int .u64 0, .int .u64 0, .int .u64 0] 29 (0, 0)) := by
           refine blk_grown hg5 ?_ ?_
           · simp [Value.ownBlock]
           · first | exact block_alloc_new _ _ | (refine block_alloc_old ?_; exact block_alloc_new _ _) | (refine blk_new ?_; simp; done) | (refine block_alloc_old ?_; refine blk_drew ?_; exact block_alloc_new _ _)
         obtain ⟨f0, f1, f2, f3, f4, f5, f6, f7, f8, f9⟩ := ten_frozen Z5
         have lz := lt_of_block Z5
         obtain ⟨y0, y1, y2, y3, y4, y5, y6, y7, y8, y9⟩ := ten_at Z5
         clear F5
         clear hs5)
      | (refine step_appX (P := Try.prog) elW ?_ (.tmp 101) (.tmp 102) ?_ (.slice (some ⟨w3.heap.size, 0, none⟩) 0 0) 0 [] ?_ ?_ A b off n c (ms.map rv) ?_ ?_ ?_ ?_ rv_one ?_ ?_ ?_
         · rfl
         · rfl
         · rfl
         · repeat (first | with_reducible exact own_new _ (by simp) | with_reducible refine World.ownsRow.alloc ?_ _ | with_reducible refine World.ownsRow.drew ?_ | (refine own_setCells ?_ ?_; rotate_left; focus (simp [Value.ownBlock]; omega)))
         · rfl
         · exact hA.out
         · exact nl.out
         · refine M3.out _ ?_
           repeat (first | with_reducible exact Keeps.refl _ _ | with_reducible refine Keeps.alloc ?_ _ | with_reducible refine Keeps.drew ?_ | (refine Keeps.setCells (.inr ?_) _ _ _ ?_; focus (simp; done)))
         · simp only [maxLen]; omega
         · omega
         intro v5 w5 ho5 hg5 hf5 hs5
         obtain ⟨A5, cap5, rfl⟩ := Own.isSlice ho5
         have K35 : Keeps NoBlock w3 w5 := by
           refine Keeps.grown ?_ hg5 ?_
           · repeat (first | with_reducible exact Keeps.refl _ _ | with_reducible refine Keeps.alloc ?_ _ | with_reducible refine Keeps.drew ?_ | (refine Keeps.setCells (.inr ?_) _ _ _ ?_; focus (simp; done)))
           · intro k hk
             right
             simp only [Value.ownBlock, Option.some.injEq] at hk
             omega
         have F5 := hFB.out w5 K35
         clear hs5)
      | (refine step_appX (P := Try.prog) elW ?_ (.tmp 101) (.tmp 102) ?_ (.slice (some ⟨w3.heap.size + 1, 0, none⟩) 0 0) 0 [] ?_ ?_ A b off n c (ms.map rv) ?_ ?_ ?_ ?_ rv_one ?_ ?_ ?_
         · rfl
         · rfl
         · rfl
         · repeat (first | with_reducible exact own_new _ (by simp) | with_reducible refine World.ownsRow.alloc ?_ _ | with_reducible refine World.ownsRow.drew ?_ | (refine own_setCells ?_ ?_; rotate_left; focus (simp [Value.ownBlock]; omega)))
         · rfl
         · exact hA.out
         · exact nl.out
         · refine M3.out _ ?_
           repeat (first | with_reducible exact Keeps.refl _ _ | with_reducible refine Keeps.alloc ?_ _ | with_reducible refine Keeps.drew ?_ | (refine Keeps.setCells (.inr ?_) _ _ _ ?_; focus (simp; done)))
         · simp only [maxLen]; omega
         · omega
         intro v5 w5 ho5 hg5 hf5 hs5
         obtain ⟨A5, cap5, rfl⟩ := Own.isSlice ho5
         have K35 : Keeps NoBlock w3 w5 := by
           refine Keeps.grown ?_ hg5 ?_
           · repeat (first | with_reducible exact Keeps.refl _ _ | with_reducible refine Keeps.alloc ?_ _ | with_reducible refine Keeps.drew ?_ | (refine Keeps.setCells (.inr ?_) _ _ _ ?_; focus (simp; done)))
           · intro k hk
             right
             simp only [Value.ownBlock, Option.some.injEq] at hk
             omega
         have F5 := hFB.out w5 K35
         clear hs5)
      | (trace_state; fail))
    all_goals go_wp2_with fail
    all_goals go_meet
    all_goals refine ⟨_, _, _, rfl, rfl, ?_⟩
    all_goals
      have hof : Own w5 26 1 (.slice A5 n cap5) n (ms.map rv) := by simpa using ho5
      have hob : (Value.slice A5 (0 + n) cap5).ownBlock = (Value.slice A5 n cap5).ownBlock := by cases A5 <;> rfl
      rw [hob] at hf5
      simp only [World.size_alloc, World.size_drew, Value.ownBlock, Option.some.injEq] at hf5
      have hok : ∀ k, (Value.slice A5 n cap5).ownBlock = some k → w3.heap.size ≤ k := fun k hk => by have := hf5 k hk; omega
      first
      | (with_reducible refine want_new ?_ ?_ ?_; exact K35; exact hof; exact hok)
      | (with_reducible refine want_set ?_ ?_ ?_ ?_ ?_ ?_
         · exact K35
         · exact hof
         · exact hok
         · omega
         · intro e
           have := hf5 _ e
           omega
         · exact Z5)
  case rest =>
    obtain ⟨bw, A5, c5, rfl, rfl, WT⟩ := hcut
    clear M3 nl hFB lf x0 x1 x2 x3 x4 x5 x6 x7 x8 x9
    have Hlo := Lib.hid WT.lo
    have i0 : wc.cell? ⟨w.heap.size + 1, 0, none⟩ = some (.int .i64 op) := (WT.kp.cell (lt_of_block Bi3.out) (fun h => h)).trans (cell_of_block (o := 0) Bi3.out rfl)
    have i1 : wc.cell? ⟨w.heap.size + 1, 1, none⟩ = some (.int .i64 k) := (WT.kp.cell (lt_of_block Bi3.out) (fun h => h)).trans (cell_of_block (o := 1) Bi3.out rfl)
    have i2 : wc.cell? ⟨w.heap.size + 1, 2, none⟩ = some (.int .i64 l) := (WT.kp.cell (lt_of_block Bi3.out) (fun h => h)).trans (cell_of_block (o := 2) Bi3.out rfl)
    have i4 : wc.cell? ⟨w.heap.size + 1, 4, none⟩ = some (.int .u64 N) := (WT.kp.cell (lt_of_block Bi3.out) (fun h => h)).trans (cell_of_block (o := 4) Bi3.out rfl)
    have x1 : wc.cell? ⟨w.heap.size, 1, none⟩ = some (.int .i64 P) := (WT.kp.cell (lt_of_block Bf3.out) (fun h => h)).trans (cell_of_block (o := 1) Bf3.out rfl)
    have y1 : wc.cell? ⟨bw, 1, none⟩ = some (.int .i64 P) := cell_of_block (o := 1) WT.bl rfl
    have f1 := frozen_of_block WT.bl (o := 1)
    have hb1 : bw ≠ w.heap.size + 1 := by have := lt_of_block Bi3.out; have := WT.lo; omega
    have hb2 : w.heap.size + 1 ≠ bw := by omega
    have hb3 : bw ≠ w.heap.size := by have := lt_of_block Bf3.out; have := WT.lo; omega
    have hb4 : w.heap.size ≠ bw := by omega
    have xl := (WT.kp.cell (lt_of_block Bf3.out) (fun h => h)).trans (eight_cells Bf3.out hx)
    have xz := (WT.kp.cell (lt_of_block Bf3.out) (fun h => h)).trans (eight_cells Bf3.out hz)
    have i3 : wc.cell? ⟨w.heap.size + 1, 3, none⟩ = some (.int .i64 m) := (WT.kp.cell (lt_of_block Bi3.out) (fun h => h)).trans (cell_of_block (o := 3) Bi3.out rfl)
    have hm0 : (0 : Int) ≤ (m : Int) := by omega
    have hm1 : (m : Int) < 8 := by omega
    have hk0 : (0 : Int) ≤ (k : Int) := by omega
    have hk8 : (k : Int) < 8 := by omega
    have hl0 : (0 : Int) ≤ (l : Int) := by omega
    have hl8 : (l : Int) < 8 := by omega
    have Hb1 := Lib.hid hb1
    have Hb3 := Lib.hid hb3
    have HWT := Lib.hid WT
    clear WT hA hm
    go_upto_region 15 with fail
    generalize hW : World.setCell wc _ _ = W6
    clear i0 i1 i2 i4 x1 y1 f1 xl xz i3 hm0 hm1 hz hb1 hb2 hb3 hb4
    have W6T : Hid (Want w3 W6 n bw (.slice A5 n c5) ms #[.int .i64 F, .int .i64 P2, .int .u64 r0, .int .u64 r1, .int .u64 r2, .int .u64 r3, .int .u64 r4, .int .u64 r5, .int .u64 r6, .int .u64 r7]) := by
      show Want _ _ _ _ _ _ _
      rw [← hW]
      exact ⟨HWT.out.kp.set (.inr Hlo.out) _, block_set HWT.out.bl _, own_set1 HWT.out.own HWT.out.ne, Hlo.out, HWT.out.fr, HWT.out.ne⟩
    clear hW HWT
    have hS6 : Hid (∀ W', Keeps NoBlock w3 W' → W'.cell? ⟨w.heap.size + 1, 0, none⟩ = some (.int .i64 op) ∧ W'.cell? ⟨w.heap.size + 1, 1, none⟩ = some (.int .i64 (k : Int)) ∧ W'.cell? ⟨w.heap.size + 1, 2, none⟩ = some (.int .i64 (l : Int)) ∧ W'.cell? ⟨w.heap.size, 2 + l, none⟩ = some (.int .u64 (x : Int))) :=
      fun W' kk => ⟨(kk.cell (lt_of_block Bi3.out) (fun h => h)).trans (cell_of_block (o := 0) Bi3.out rfl), (kk.cell (lt_of_block Bi3.out) (fun h => h)).trans (cell_of_block (o := 1) Bi3.out rfl), (kk.cell (lt_of_block Bi3.out) (fun h => h)).trans (cell_of_block (o := 2) Bi3.out rfl), (kk.cell (lt_of_block Bf3.out) (fun h => h)).trans (eight_cells Bf3.out hx)⟩
    obtain ⟨i0, i1, i2, xl⟩ := hS6.out W6 W6T.out.kp
    obtain ⟨u, hu⟩ : ∃ u, [r0, r1, r2, r3, r4, r5, r6, r7][k]? = some u := ⟨_, List.getElem?_eq_getElem hk⟩
    have Hu := Lib.hid hu
    clear hu hx
    go_region_held3 (fun w' => w'.cell? ⟨w.heap.size + 1, 0, none⟩ = some (.int .i64 op) ∧ w'.cell? ⟨w.heap.size + 1, 1, none⟩ = some (.int .i64 (k : Int)) ∧ w'.cell? ⟨w.heap.size + 1, 2, none⟩ = some (.int .i64 (l : Int)) ∧ w'.cell? ⟨w.heap.size, 2 + l, none⟩ = some (.int .u64 (x : Int)))
      (first | (refine hS6.out _ ?_; repeat (first | with_reducible exact K62 | with_reducible exact W6T.out.kp | with_reducible refine Keeps.alloc ?_ _ | with_reducible refine Keeps.drew ?_ | (with_reducible refine Keeps.set ?_ (.inr Hlo.out) _))))
      (first
      | (go_at_call 14
         refine (hari.out _).mono ?_
         rintro e w2 ⟨rfl, k2⟩
         have hk2 : Keeps NoBlock W6 w2 := (Keeps.refl NoBlock W6).drew.trans k2 (fun _ _ h => h)
         have K62 : Keeps NoBlock w3 w2 := W6T.out.kp.trans hk2 (fun _ _ h => h)
         have hbl := (hk2.block _ (lt_of_block W6T.out.bl) (fun h => h)).trans W6T.out.bl
         have yk := eight_cells hbl Hu.out
         have fk := frozen_of_block hbl (o := 2 + k)
         clear hbl k2)
      | fail)
    go_upto_region 32 with fail
    have bl := (hk2.block _ (lt_of_block W6T.out.bl) (fun h => h)).trans W6T.out.bl
    generalize hW : World.setCell w2 _ _ = W7
    have K7 : Hid (Keeps NoBlock w3 W7) := by
      show Keeps _ _ _
      rw [← hW]
      exact K62.set (.inr Hlo.out) _
    have Bw7 : Hid (W7.heap[bw]? = some (.cells #[.int .i64 F, .int .i64 P2, .int .u64 q0, .int .u64 q1, .int .u64 q2, .int .u64 q3, .int .u64 q4, .int .u64 q5, .int .u64 q6, .int .u64 q7] 29 (0, 0))) := by
      show _ = _
      rw [← hW, ← ten_set (F := F) (P := P2) hk hq.out]
      exact block_set bl _
    have R7 : Hid (ReadsI .u64 W7 (.slice A5 n c5) ms) := by
      show ReadsI _ _ _ _
      rw [← hW]
      exact own_reads hml.out (own_set1 (W6T.out.own.keeps hk2 (fun _ _ h => h)) W6T.out.ne)
    clear hW bl yk fk hk2 K62 W6T i0 i1 i2 xl hk0 hk8 hl0 hl8
    have Bg7 := Lib.hid ((K7.out.block _ (lt_of_block Bg3.out) (fun h => h)).trans Bg3.out)
    have H7 := Lib.hid ((K7.out.block _ (lt_of_block H3.out) (fun h => h)).trans H3.out)
    clear H3 Bg3 Bf3 Bi3
    have K07 := Lib.hid (K3.out.trans K7.out (fun _ _ h => h))
    go_wp2_with fail
    refine (awake03_calls _).mono ?_
    rintro e w8 ⟨rfl, k8⟩
    have Bg8 := (k8.block _ (lt_of_block Bg7.out) (fun h => h)).trans Bg7.out
    have Bw8 := (k8.block _ (lt_of_block Bw7.out) (fun h => h)).trans Bw7.out
    have H8 := Lib.hid ((k8.block _ (lt_of_block H7.out) (fun h => h)).trans H7.out)
    have R8 := Lib.hid (R7.out.keeps k8 (fun _ _ h => h))
    have K08 := Lib.hid (K07.out.trans k8 (fun _ _ h => h))
    have x0 : w8.cell? ⟨w1.heap.size, 0, none⟩ = some (.int .i64 F) := cell_of_block (o := 0) Bg8 rfl
    have x1 : w8.cell? ⟨w1.heap.size, 1, none⟩ = some (.int .i64 P2) := cell_of_block (o := 1) Bg8 rfl
    have x2 : w8.cell? ⟨w1.heap.size, 2, none⟩ = some (.int .u64 q0) := cell_of_block (o := 2) Bg8 rfl
    have x3 : w8.cell? ⟨w1.heap.size, 3, none⟩ = some (.int .u64 q1) := cell_of_block (o := 3) Bg8 rfl
    have x4 : w8.cell? ⟨w1.heap.size, 4, none⟩ = some (.int .u64 q2) := cell_of_block (o := 4) Bg8 rfl
    have x5 : w8.cell? ⟨w1.heap.size, 5, none⟩ = some (.int .u64 q3) := cell_of_block (o := 5) Bg8 rfl
    have x6 : w8.cell? ⟨w1.heap.size, 6, none⟩ = some (.int .u64 q4) := cell_of_block (o := 6) Bg8 rfl
    have x7 : w8.cell? ⟨w1.heap.size, 7, none⟩ = some (.int .u64 q5) := cell_of_block (o := 7) Bg8 rfl
    have x8 : w8.cell? ⟨w1.heap.size, 8, none⟩ = some (.int .u64 q6) := cell_of_block (o := 8) Bg8 rfl
    have x9 : w8.cell? ⟨w1.heap.size, 9, none⟩ = some (.int .u64 q7) := cell_of_block (o := 9) Bg8 rfl
    have y0 : w8.cell? ⟨bw, 0, none⟩ = some (.int .i64 F) := cell_of_block (o := 0) Bw8 rfl
    have y1 : w8.cell? ⟨bw, 1, none⟩ = some (.int .i64 P2) := cell_of_block (o := 1) Bw8 rfl
    have y2 : w8.cell? ⟨bw, 2, none⟩ = some (.int .u64 q0) := cell_of_block (o := 2) Bw8 rfl
    have y3 : w8.cell? ⟨bw, 3, none⟩ = some (.int .u64 q1) := cell_of_block (o := 3) Bw8 rfl
    have y4 : w8.cell? ⟨bw, 4, none⟩ = some (.int .u64 q2) := cell_of_block (o := 4) Bw8 rfl
    have y5 : w8.cell? ⟨bw, 5, none⟩ = some (.int .u64 q3) := cell_of_block (o := 5) Bw8 rfl
    have y6 : w8.cell? ⟨bw, 6, none⟩ = some (.int .u64 q4) := cell_of_block (o := 6) Bw8 rfl
    have y7 : w8.cell? ⟨bw, 7, none⟩ = some (.int .u64 q5) := cell_of_block (o := 7) Bw8 rfl
    have y8 : w8.cell? ⟨bw, 8, none⟩ = some (.int .u64 q6) := cell_of_block (o := 8) Bw8 rfl
    have y9 : w8.cell? ⟨bw, 9, none⟩ = some (.int .u64 q7) := cell_of_block (o := 9) Bw8 rfl
    clear Bg8 Bw8 k8
    have heq := fun w => equalFrm F P2 q0 q1 q2 q3 q4 q5 q6 q7 w
    have hgf := guardFrm
    go_wp2_with fail
    refine (words_calls _ _ ms ms _ (reads_cells hml2.out H8.out) R8.out (by have := hml2.out; omega) (by have := hml2.out; omega)).mono ?_
    rintro e w9 ⟨rfl, k9⟩
    rw [decide_eq_true rfl]
    go_wp2_with fail
    go_ret
    exact ⟨rfl, (K08.out.trans k9 (fun _ _ h => h)).below (Nat.le_refl _) (fun _ h => h.elim)⟩


end Fr
end Go.Proofs.Ytlnoejmckpimnaa
