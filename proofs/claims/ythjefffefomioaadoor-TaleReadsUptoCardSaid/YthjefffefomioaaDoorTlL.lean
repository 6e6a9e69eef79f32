/- TaleLines, TaleSteps. -/
import Derived.Test.YthjefffefomioaaDoorTlK
namespace Go.Proofs.YthjefffefomioaaDoor
open Go.RowKit
namespace Tl

theorem line_len {x : Stp} {l : List UInt8} (ha : Fit x.a) (hb : Fit x.b) (h : lineB x = some l) : l.length ≤ 60 := by
  unfold lineB at h
  split at h
  · split at h
    · cases h
    · obtain rfl := Option.some.inj h
      have h1 := formW_len (x.kind - 1).toNat
      have h2 := numsB_len ([x.a, x.b].take (formS (x.kind - 1).toNat)) (fun y hy => by
        have := List.mem_of_mem_take hy
        simp only [List.mem_cons, List.not_mem_nil, or_false] at this
        rcases this with rfl | rfl <;> assumption)
      rw [List.length_take] at h2
      simp only [List.length_cons, List.length_nil] at h2
      unfold lineOf
      rw [List.length_append]
      omega
  · cases h


set_option maxRecDepth 100000 in
set_option maxHeartbeats 1000000 in
theorem taleLines_calls (x : Stp) (ha : Fit x.a) (hb : Fit x.b) (w : World) (hg : Gl w) : Calls Tryd.prog 3 #[.agg #[.int .i64 x.kind, .int .i64 x.a, .int .i64 x.b]] w fun e w' => e = .returned (.bool true) ∧ Keeps NoBlock w w' := by
  have HLN := Lib.hid (fun w' (h : Gl w') => line_calls x ha hb w' h)
  have HLL := Lib.hid (lawline_calls x ha hb)
  have HAW := Lib.hid awake_calls
  have HG := Lib.hid hg
  cases hl : lineB x with
  | none =>
    rw [hl] at HLN HLL
    simp only [retLine] at HLN
    obtain ⟨k, a, b⟩ := x
    simp only [] at HLN HLL
    clear hg ha hb hl
    go_enter Tryd.func3, Tryd.ntmps3
    go_wp2_with fail
    generalize hW : World.alloc w _ = w1
    have K1 : Hid (Keeps NoBlock w w1) := by show Keeps _ _ _; rw [← hW]; exact (Keeps.refl _ _).alloc _
    have B1 : Hid (w1.heap[w.heap.size]? = some (.cells #[.int .i64 k, .int .i64 a, .int .i64 b] 23 (0, 0))) := by show _ = _; rw [← hW]; exact block_alloc_new _ _
    have i0 : w1.cell? ⟨w.heap.size, 0, none⟩ = some (.int .i64 k) := cell_of_block (o := 0) B1.out rfl
    have i1 : w1.cell? ⟨w.heap.size, 1, none⟩ = some (.int .i64 a) := cell_of_block (o := 1) B1.out rfl
    have i2 : w1.cell? ⟨w.heap.size, 2, none⟩ = some (.int .i64 b) := cell_of_block (o := 2) B1.out rfl
    clear hW
    go_wp2_with fail
    refine (HLN.out _ (HG.out.on K1.out)).mono ?_
    rintro e w2 ⟨rfl, k2⟩
    have B2 := Lib.hid ((k2.block _ (lt_of_block B1.out) (fun e => e)).trans B1.out)
    have K2 := Lib.hid (K1.out.trans k2 (fun _ _ e => e))
    clear k2 K1 B1 HLN i0 i1 i2
    have i0 : w2.cell? ⟨w.heap.size, 0, none⟩ = some (.int .i64 k) := cell_of_block (o := 0) B2.out rfl
    have i1 : w2.cell? ⟨w.heap.size, 1, none⟩ = some (.int .i64 a) := cell_of_block (o := 1) B2.out rfl
    have i2 : w2.cell? ⟨w.heap.size, 2, none⟩ = some (.int .i64 b) := cell_of_block (o := 2) B2.out rfl
    go_wp2_with fail
    refine (HLL.out _).mono ?_
    rintro e w3 ⟨o, t, rfl, -, ht, k3⟩
    obtain rfl := ht rfl
    have K3 := Lib.hid (K2.out.trans k3 (fun _ _ e => e))
    clear k3 K2 B2 HLL i0 i1 i2 ht
    go_wp2_with fail
    refine (HAW.out _ (HG.out.on K3.out)).mono ?_
    rintro e w4 ⟨rfl, k4⟩
    have K4 := Lib.hid (K3.out.trans k4 (fun _ _ e => e))
    clear k4
    go_wp2_with fail
    go_ret
    exact ⟨rfl, K4.out⟩
  | some l =>
    have hll := line_len ha hb hl
    have HST := Lib.hid (fun w' (h : Gl w') => step_list l w' h (by omega))
    rw [line_step ha hb hl] at HST
    rw [hl] at HLN HLL
    simp only [retLine] at HLN
    obtain ⟨k, a, b⟩ := x
    simp only [stepR] at HLN HLL HST
    clear hg ha hb hl hll
    go_enter Tryd.func3, Tryd.ntmps3
    go_wp2_with fail
    generalize hW : World.alloc w _ = w1
    have K1 : Hid (Keeps NoBlock w w1) := by show Keeps _ _ _; rw [← hW]; exact (Keeps.refl _ _).alloc _
    have B1 : Hid (w1.heap[w.heap.size]? = some (.cells #[.int .i64 k, .int .i64 a, .int .i64 b] 23 (0, 0))) := by show _ = _; rw [← hW]; exact block_alloc_new _ _
    have i0 : w1.cell? ⟨w.heap.size, 0, none⟩ = some (.int .i64 k) := cell_of_block (o := 0) B1.out rfl
    have i1 : w1.cell? ⟨w.heap.size, 1, none⟩ = some (.int .i64 a) := cell_of_block (o := 1) B1.out rfl
    have i2 : w1.cell? ⟨w.heap.size, 2, none⟩ = some (.int .i64 b) := cell_of_block (o := 2) B1.out rfl
    clear hW
    go_wp2_with fail
    refine (HLN.out _ (HG.out.on K1.out)).mono ?_
    rintro e w2 ⟨rfl, k2⟩
    have B2 := Lib.hid ((k2.block _ (lt_of_block B1.out) (fun e => e)).trans B1.out)
    have K2 := Lib.hid (K1.out.trans k2 (fun _ _ e => e))
    clear k2 K1 B1 HLN i0 i1 i2
    have i0 : w2.cell? ⟨w.heap.size, 0, none⟩ = some (.int .i64 k) := cell_of_block (o := 0) B2.out rfl
    have i1 : w2.cell? ⟨w.heap.size, 1, none⟩ = some (.int .i64 a) := cell_of_block (o := 1) B2.out rfl
    have i2 : w2.cell? ⟨w.heap.size, 2, none⟩ = some (.int .i64 b) := cell_of_block (o := 2) B2.out rfl
    go_wp2_with fail
    refine (HLL.out _).mono ?_
    rintro e w3 ⟨o, t, rfl, ht, -, k3⟩
    obtain ⟨rfl, rfl⟩ := ht _ rfl
    have B3 := Lib.hid ((k3.block _ (lt_of_block B2.out) (fun e => e)).trans B2.out)
    have K3 := Lib.hid (K2.out.trans k3 (fun _ _ e => e))
    clear k3 K2 B2 HLL i0 i1 i2 ht
    go_wp2_with fail
    refine (HST.out _ (HG.out.on K3.out)).mono ?_
    rintro e w4 ⟨rfl, k4⟩
    obtain ⟨w5, h5⟩ : ∃ w5, w4.alloc (.cells #[.int .i64 k, .int .i64 a, .int .i64 b] 23) = w5 := ⟨_, rfl⟩
    have K5 : Hid (Keeps NoBlock w w5) := by show Keeps _ _ _; rw [← h5]; exact (K3.out.trans k4 (fun _ _ e => e)).alloc _
    have B5 : Hid (w5.heap[w.heap.size]? = some (.cells #[.int .i64 k, .int .i64 a, .int .i64 b] 23 (0, 0))) := by show _ = _; rw [← h5]; exact block_alloc_old ((k4.block _ (lt_of_block B3.out) (fun e => e)).trans B3.out)
    have C5 : Hid (w5.heap[w4.heap.size]? = some (.cells #[.int .i64 k, .int .i64 a, .int .i64 b] 23 (0, 0))) := by show _ = _; rw [← h5]; exact block_alloc_new _ _
    clear k4 K3 B3 HST
    go_wp2_with fail
    refine (HAW.out _ (HG.out.on K5.out)).mono ?_
    rintro e w6 ⟨rfl, k6⟩
    have K6 := Lib.hid (K5.out.trans k6 (fun _ _ e => e))
    have b6 := (k6.block _ (lt_of_block B5.out) (fun e => e)).trans B5.out
    have c6 := (k6.block _ (lt_of_block C5.out) (fun e => e)).trans C5.out
    have i0 : w6.cell? ⟨w.heap.size, 0, none⟩ = some (.int .i64 k) := cell_of_block (o := 0) b6 rfl
    have i1 : w6.cell? ⟨w.heap.size, 1, none⟩ = some (.int .i64 a) := cell_of_block (o := 1) b6 rfl
    have i2 : w6.cell? ⟨w.heap.size, 2, none⟩ = some (.int .i64 b) := cell_of_block (o := 2) b6 rfl
    have j0 : w6.cell? ⟨w4.heap.size, 0, none⟩ = some (.int .i64 k) := cell_of_block (o := 0) c6 rfl
    have j1 : w6.cell? ⟨w4.heap.size, 1, none⟩ = some (.int .i64 a) := cell_of_block (o := 1) c6 rfl
    have j2 : w6.cell? ⟨w4.heap.size, 2, none⟩ = some (.int .i64 b) := cell_of_block (o := 2) c6 rfl
    clear k6 K5 B5 C5 b6 c6 h5
    go_wp2_with fail
    go_ret
    exact ⟨rfl, K6.out⟩

end Tl
end Go.Proofs.YthjefffefomioaaDoor
