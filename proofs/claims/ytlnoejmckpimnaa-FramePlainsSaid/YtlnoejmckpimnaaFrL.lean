/- Layer 3's fixed fact, and FrameAriths. -/
import Derived.Test.YtlnoejmckpimnaaFrK
namespace Go.Proofs.Ytlnoejmckpimnaa
open Go.RowKit Ieee
namespace Fr

theorem rv_bd (l : List Int) (h : (l.all fun x => decide (0 ≤ x) && decide (x < 18446744073709551616)) = true) : ∀ x ∈ l, 0 ≤ x ∧ x < 18446744073709551616 := fun x hx => by
  have := List.all_eq_true.1 h x hx
  simp at this
  exact this

theorem intsAt_nil (k : IntKind) (w : World) : IntsAt k w none 0 0 0 [] := ⟨fun h => by omega, fun j hj => by omega, fun j hj => by omega, rfl⟩

theorem prog_one {w : World} {g : Nat} (b1 : w.heap[g]? = some (.cells #[.int .i64 24, .int .i64 0, .int .i64 0, .int .i64 0, .int .u64 0] 31 (0, 0))) (b2 : w.heap[g + 1]? = some (.cells #[.slice (some ⟨g, 0, none⟩) 1 1] 34 (0, 0))) :
    ProgAt w (.agg #[.slice (some ⟨g + 1, 0, none⟩) 1 1, .int .i64 0, .int .i64 0, .int .i64 0, .slice none 0 0, .slice none 0 0, .int .i64 0, .int .i64 0]) ⟨[[(24, 0, 0, 0, 0)]], 0, 0, 0, [], [], 0, 0⟩ := by
  refine ⟨⟨_, _, _, _, _, _, _, _, _, g + 1, 0, 0, 0, 0, 0, rfl, ⟨fun _ => rfl, ?_, rfl⟩, intsAt_nil _ _, intsAt_nil _ _, by omega, by omega, by omega⟩, by show (0 : Int) < 9223372036854775808; decide, by show (0 : Int) < 9223372036854775808; decide⟩
  intro k l hk
  match k, hk with
  | 0, hk =>
    simp at hk
    subst hk
    refine ⟨some ⟨g, 0, none⟩, g, 0, 1, cell_of_block b2 rfl, ⟨fun _ => rfl, ?_, ?_, rfl⟩, by simp⟩
    · intro j x i v hj hi
      match j, hj with
      | 0, hj =>
        simp at hj
        subst hj
        match i, hi with
        | 0, hi => simp [enc5] at hi; subst hi; exact cell_of_block b1 rfl
        | 1, hi => simp [enc5] at hi; subst hi; exact cell_of_block b1 rfl
        | 2, hi => simp [enc5] at hi; subst hi; exact cell_of_block b1 rfl
        | 3, hi => simp [enc5] at hi; subst hi; exact cell_of_block b1 rfl
        | 4, hi => simp [enc5] at hi; subst hi; exact cell_of_block b1 rfl
    · intro x hx
      simp at hx
      subst hx
      exact ⟨by show (0 : Int) ≤ 0; decide, by show (0 : Int) < 18446744073709551616; decide⟩

theorem mem_at {w : World} {g : Nat} (ms : List Int) (h : w.heap[g]? = some (.cells (mC ms) 26 (0, 0))) : ∀ (j : Nat) (x : Int), ms[j]? = some x → w.cell? ⟨g, 0 + j, none⟩ = some (rv x) := fun j x hx => by
  rw [Nat.zero_add]
  exact cell_of_block h (mC_at hx)

set_option maxRecDepth 100000 in
set_option maxHeartbeats 4000000 in
theorem awake03_calls (w : World) : Calls Try.prog 12 #[] w fun e w' => e = .returned (.bool true) ∧ Keeps NoBlock w w' := by
  go_enter Try.func12, Try.ntmps12
  go_wp2_with fail
  generalize hW : World.alloc (World.alloc w _) _ = W1
  have K1 : Hid (Keeps NoBlock w W1) := by show Keeps _ _ _; rw [← hW]; exact ((Keeps.refl _ w).alloc _).alloc _
  have b0 : W1.heap[w.heap.size]? = some (.cells #[.int .i64 0, .int .i64 4, .int .u64 0, .int .u64 1, .int .u64 0, .int .u64 0, .int .u64 0, .int .u64 0, .int .u64 0, .int .u64 0] 29 (0, 0)) := by rw [← hW]; exact block_alloc_old (block_alloc_new _ _)
  have b1 : W1.heap[w.heap.size + 1]? = some (.cells (mC [5, 6]) 26 (0, 0)) := by rw [← hW]; exact blk_new (by simp)
  clear hW
  have v0 : frmV zeroF = .agg #[.int .i64 0, .int .i64 0, .int .u64 0, .int .u64 0, .int .u64 0, .int .u64 0, .int .u64 0, .int .u64 0, .int .u64 0, .int .u64 0] := rfl
  have f1 : plainF ⟨0, 4, [0, 1, 0, 0, 0, 0, 0, 0]⟩ (19, 1, 1, 0, 0) [5, 6] = .ok (⟨0, 5, [0, 1, 0, 0, 0, 0, 0, 0]⟩, [5, 1]) := by kernel_rfl
  have f2 : plainF ⟨0, 4, [0, 1, 0, 0, 0, 0, 0, 0]⟩ (18, 1, 1, 0, 0) [5] = .error 6 := by kernel_rfl
  have f3 : nextF ⟨[[(24, 0, 0, 0, 0)]], 0, 0, 0, [], [], 0, 0⟩ zeroF = some (24, 0, 0, 0, 0) := by kernel_rfl
  have hp1 := plain_calls ⟨0, 4, [0, 1, 0, 0, 0, 0, 0, 0]⟩ (19, 1, 1, 0, 0) (some ⟨w.heap.size + 1, 0, none⟩) (w.heap.size + 1) 0 2 2 [5, 6] W1 rfl (rv_bd _ rfl) (fun _ => rfl) (mem_at _ b1) rfl (by decide)
  rw [f1] at hp1
  have V0 := Lib.hid v0
  have F2 := Lib.hid f2
  have F3 := Lib.hid f3
  clear v0 f1 f2 f3
  have l0 := lt_of_block b0
  have B0 := Lib.hid b0
  clear b0 b1
  refine hp1.mono ?_
  rintro e w2 ⟨k2, g, he, hg, hgb⟩
  have he2 : e = .returned (.tuple #[.agg #[.int .i64 0, .int .i64 5, .int .u64 0, .int .u64 1, .int .u64 0, .int .u64 0, .int .u64 0, .int .u64 0, .int .u64 0, .int .u64 0], .slice (some ⟨g, 0, none⟩) 2 2, .int .i64 0]) := he
  subst he2
  clear he
  have b0 : w2.heap[w.heap.size]? = some (.cells #[.int .i64 0, .int .i64 4, .int .u64 0, .int .u64 1, .int .u64 0, .int .u64 0, .int .u64 0, .int .u64 0, .int .u64 0, .int .u64 0] 29 (0, 0)) := by rw [k2.block _ l0 (fun h => h)]; exact B0.out
  have K2 := Lib.hid (K1.out.trans k2 (fun _ _ h => h))
  have G2 := Lib.hid hgb
  have L0 := lt_of_block b0
  have Hg := Lib.hid hg
  have c0 : w2.cell? ⟨w.heap.size, 0, none⟩ = some (.int .i64 0) := cell_of_block (o := 0) b0 rfl
  have c1 : w2.cell? ⟨w.heap.size, 1, none⟩ = some (.int .i64 4) := cell_of_block (o := 1) b0 rfl
  have c2 : w2.cell? ⟨w.heap.size, 2, none⟩ = some (.int .u64 0) := cell_of_block (o := 2) b0 rfl
  have c3 : w2.cell? ⟨w.heap.size, 3, none⟩ = some (.int .u64 1) := cell_of_block (o := 3) b0 rfl
  have c4 : w2.cell? ⟨w.heap.size, 4, none⟩ = some (.int .u64 0) := cell_of_block (o := 4) b0 rfl
  have c5 : w2.cell? ⟨w.heap.size, 5, none⟩ = some (.int .u64 0) := cell_of_block (o := 5) b0 rfl
  have c6 : w2.cell? ⟨w.heap.size, 6, none⟩ = some (.int .u64 0) := cell_of_block (o := 6) b0 rfl
  have c7 : w2.cell? ⟨w.heap.size, 7, none⟩ = some (.int .u64 0) := cell_of_block (o := 7) b0 rfl
  have c8 : w2.cell? ⟨w.heap.size, 8, none⟩ = some (.int .u64 0) := cell_of_block (o := 8) b0 rfl
  have c9 : w2.cell? ⟨w.heap.size, 9, none⟩ = some (.int .u64 0) := cell_of_block (o := 9) b0 rfl
  clear hp1 k2 hgb l0 B0 b0 hg
  go_wp2_with fail
  generalize hW : World.alloc (World.alloc w2 _) _ = W3
  have K3 : Hid (Keeps NoBlock w2 W3) := by show Keeps _ _ _; rw [← hW]; exact ((Keeps.refl _ w2).alloc _).alloc _
  have b2 : W3.heap[w2.heap.size]? = some (.cells #[.int .i64 0, .int .i64 5, .int .u64 0, .int .u64 1, .int .u64 0, .int .u64 0, .int .u64 0, .int .u64 0, .int .u64 0, .int .u64 0] 29 (0, 0)) := by rw [← hW]; exact block_alloc_old (block_alloc_new _ _)
  have b3 : W3.heap[w2.heap.size + 1]? = some (.cells (mC [5]) 26 (0, 0)) := by rw [← hW]; exact blk_new (by simp)
  clear hW
  have hp2 := plain_calls ⟨0, 4, [0, 1, 0, 0, 0, 0, 0, 0]⟩ (18, 1, 1, 0, 0) (some ⟨w2.heap.size + 1, 0, none⟩) (w2.heap.size + 1) 0 1 1 [5] W3 rfl (rv_bd _ rfl) (fun _ => rfl) (mem_at _ b3) rfl (by decide)
  rw [F2.out] at hp2
  have B2 := Lib.hid b2
  have l2 := Lib.hid (lt_of_block b2)
  clear b2 b3 c0 c1 c2 c3 c4 c5 c6 c7 c8 c9
  refine hp2.mono ?_
  rintro e w4 ⟨k4, he⟩
  have he2 : e = .returned (.tuple #[.agg #[.int .i64 0, .int .i64 0, .int .u64 0, .int .u64 0, .int .u64 0, .int .u64 0, .int .u64 0, .int .u64 0, .int .u64 0, .int .u64 0], .slice none 0 0, .int .i64 6]) := he
  subst he2
  clear he hp2
  have K4 := Lib.hid (K3.out.trans k4 (fun _ _ h => h))
  have B4 : Hid (w4.heap[w2.heap.size]? = some (.cells #[.int .i64 0, .int .i64 5, .int .u64 0, .int .u64 1, .int .u64 0, .int .u64 0, .int .u64 0, .int .u64 0, .int .u64 0, .int .u64 0] 29 (0, 0))) := by show _ = _; rw [k4.block _ l2.out (fun h => h)]; exact B2.out
  have G4 : Hid (w4.heap[g]? = some (.cells (mC [5, 1]) 26 (0, 0))) := by show _ = _; rw [K4.out.block _ (lt_of_block G2.out) (fun h => h)]; exact G2.out
  have L0' : w.heap.size < w4.heap.size := Nat.lt_of_lt_of_le L0 K4.out.size
  clear k4 L0
  go_wp2_with fail
  generalize hW : World.alloc (World.alloc (World.alloc w4 _) _) _ = W5
  have K5 : Hid (Keeps NoBlock w4 W5) := by show Keeps _ _ _; rw [← hW]; exact (((Keeps.refl _ w4).alloc _).alloc _).alloc _
  have b4 : W5.heap[w4.heap.size + 1]? = some (.cells #[.int .i64 24, .int .i64 0, .int .i64 0, .int .i64 0, .int .u64 0] 31 (0, 0)) := by rw [← hW]; exact block_alloc_old (blk_new (by simp))
  have b5 : W5.heap[w4.heap.size + 1 + 1]? = some (.cells #[.slice (some ⟨w4.heap.size + 1, 0, none⟩) 1 1] 34 (0, 0)) := by rw [← hW]; exact blk_new (by simp)
  clear hW
  have hn := next_calls _ ⟨[[(24, 0, 0, 0, 0)]], 0, 0, 0, [], [], 0, 0⟩ zeroF W5 (prog_one b4 b5) rfl
  rw [F3.out] at hn
  clear b4 b5
  refine hn.mono ?_
  rintro e w6 ⟨he, k6⟩
  have he2 : e = .returned (.tuple #[.agg #[.int .i64 24, .int .i64 0, .int .i64 0, .int .i64 0, .int .u64 0], .bool true]) := he
  subst he2
  clear he hn
  have K6 := Lib.hid (K5.out.trans k6 (fun _ _ h => h))
  have B6 : w6.heap[w2.heap.size]? = some (.cells #[.int .i64 0, .int .i64 5, .int .u64 0, .int .u64 1, .int .u64 0, .int .u64 0, .int .u64 0, .int .u64 0, .int .u64 0, .int .u64 0] 29 (0, 0)) := by rw [K6.out.block _ (lt_of_block B4.out) (fun h => h)]; exact B4.out
  have G6 : w6.heap[g]? = some (.cells (mC [5, 1]) 26 (0, 0)) := by rw [K6.out.block _ (lt_of_block G4.out) (fun h => h)]; exact G4.out
  have x1 : w6.cell? ⟨w2.heap.size, 1, none⟩ = some (.int .i64 5) := cell_of_block (o := 1) B6 rfl
  have x2 : w6.cell? ⟨g, 1, none⟩ = some (.int .u64 1) := cell_of_block (o := 1) G6 rfl
  have y1 := lt_of_block B6
  have y2 := lt_of_block G6
  have KF := Lib.hid (((K2.out.trans K4.out (fun _ _ h => h)).trans K6.out (fun _ _ h => h)))
  clear k6 B6 G6
  go_wp2_with fail
  go_ret
  exact ⟨rfl, KF.out.alloc _⟩

theorem eq_self (a : Int) : (a == a) = true := beq_self_eq_true a

set_option maxRecDepth 100000 in
theorem ariths_row (w : World) (op : Int) (_ho : (Lit.int .i64 op).wf = true) (a : Int) (wa : (Lit.int .u64 a).wf = true) (b : Int) (wb : (Lit.int .u64 b).wf = true) : Calls Try.prog 4 #[.int .i64 op, .int .u64 a, .int .u64 b] w fun e w' => e = .returned (.bool true) ∧ Below w.heap.size w w' := by
  obtain ⟨x, rfl, hx⟩ := word_of wa
  obtain ⟨y, rfl, hy⟩ := word_of wb
  have h1 := Lib.hid (fun W => ari_calls op x y hx hy W)
  have h2 := Lib.hid (fun W => rari_calls op x y hx hy W)
  clear wa wb hx hy
  obtain ⟨v, q, hv⟩ : ∃ (v : Int) (q : Bool), Hid ((match ariI op x y with | some v => out2 v true | none => out2 0 false) = out2 v q) := by
    cases ariI op x y with
    | none => exact ⟨0, false, rfl⟩
    | some v => exact ⟨v, true, rfl⟩
  have hvv := eq_self v
  have hqq : (q == q) = true := by simp
  go_enter Try.func4, Try.ntmps4
  go_wp2_with fail
  refine (h1.out _).mono ?_
  rintro e w1 ⟨he, k1⟩
  obtain rfl : e = out2 v q := he.trans hv.out
  clear he
  go_wp2_with fail
  refine (h2.out _).mono ?_
  rintro e w2 ⟨he, k2⟩
  obtain rfl : e = out2 v q := he.trans hv.out
  clear he
  have K2 := Lib.hid (k1.trans k2 (fun _ _ h => h))
  clear k1 k2
  go_wp2_with fail
  refine (awake03_calls _).mono ?_
  rintro e w3 ⟨rfl, k3⟩
  go_wp2_with fail
  go_ret
  exact ⟨rfl, (K2.out.trans k3 (fun _ _ h => h)).below (Nat.le_refl _) (fun _ h => h.elim)⟩
end Fr
end Go.Proofs.Ytlnoejmckpimnaa
