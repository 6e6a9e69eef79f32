/- TaleSteps. -/
import Derived.Test.YthjefffefomioaaDoorTlL
namespace Go.Proofs.YthjefffefomioaaDoor
open Go.RowKit
namespace Tl

theorem step_fit {l : List UInt8} {x : Stp} (h : stepB l = some x) : Fit x.a ∧ Fit x.b := by
  obtain ⟨k, -, e⟩ := stepTo_line h
  obtain ⟨-, rfl⟩ := tryK_fit e
  exact ⟨getD_fit rfl 0, getD_fit rfl 1⟩

set_option maxRecDepth 100000 in
set_option maxHeartbeats 1000000 in
theorem taleSteps_list (sl : List UInt8) (w : World) (hg : Gl w) (hs : sl.length < 4294967281) : Calls Tryd.prog 4 #[S sl] w fun e w' => e = .returned (.bool true) ∧ Keeps NoBlock w w' := by
  have HST := Lib.hid (step_list sl w hg hs)
  have HAW := Lib.hid awake_calls
  have HG := Lib.hid hg
  cases hx : stepB sl with
  | none =>
    rw [hx] at HST
    simp only [stepR] at HST
    clear hg hs hx
    go_enter Tryd.func4, Tryd.ntmps4
    go_wp2_with fail
    refine HST.out.mono ?_
    rintro e w4 ⟨rfl, k4⟩
    obtain ⟨w5, h5⟩ : ∃ w5, w4.alloc (.cells #[.int .i64 0, .int .i64 0, .int .i64 0] 23) = w5 := ⟨_, rfl⟩
    have K5 : Hid (Keeps NoBlock w w5) := by show Keeps _ _ _; rw [← h5]; exact k4.alloc _
    have C5 : Hid (w5.heap[w4.heap.size]? = some (.cells #[.int .i64 0, .int .i64 0, .int .i64 0] 23 (0, 0))) := by show _ = _; rw [← h5]; exact block_alloc_new _ _
    have H5 := Lib.hid h5
    clear k4 HST h5
    go_wp2_with fail
    rw [H5.out]
    refine (HAW.out _ (HG.out.on K5.out)).mono ?_
    rintro e w6 ⟨rfl, k6⟩
    have K6 := Lib.hid (K5.out.trans k6 (fun _ _ e => e))
    have c6 := (k6.block _ (lt_of_block C5.out) (fun e => e)).trans C5.out
    have j0 : w6.cell? ⟨w4.heap.size, 0, none⟩ = some (.int .i64 0) := cell_of_block (o := 0) c6 rfl
    have j1 : w6.cell? ⟨w4.heap.size, 1, none⟩ = some (.int .i64 0) := cell_of_block (o := 1) c6 rfl
    have j2 : w6.cell? ⟨w4.heap.size, 2, none⟩ = some (.int .i64 0) := cell_of_block (o := 2) c6 rfl
    clear k6 K5 C5 c6 H5
    go_wp2_with fail
    go_ret
    exact ⟨rfl, K6.out⟩
  | some x =>
    have HLL := Lib.hid (lawline_calls x (step_fit hx).1 (step_fit hx).2)
    rw [step_line hx] at HLL
    rw [hx] at HST
    obtain ⟨k, a, b⟩ := x
    simp only [stepR] at HST HLL
    clear hg hs hx
    go_enter Tryd.func4, Tryd.ntmps4
    go_wp2_with fail
    refine HST.out.mono ?_
    rintro e w4 ⟨rfl, k4⟩
    obtain ⟨w5, h5⟩ : ∃ w5, w4.alloc (.cells #[.int .i64 k, .int .i64 a, .int .i64 b] 23) = w5 := ⟨_, rfl⟩
    have K5 : Hid (Keeps NoBlock w w5) := by show Keeps _ _ _; rw [← h5]; exact k4.alloc _
    have C5 : w5.heap[w4.heap.size]? = some (.cells #[.int .i64 k, .int .i64 a, .int .i64 b] 23 (0, 0)) := by rw [← h5]; exact block_alloc_new _ _
    have j0 : w5.cell? ⟨w4.heap.size, 0, none⟩ = some (.int .i64 k) := cell_of_block (o := 0) C5 rfl
    have j1 : w5.cell? ⟨w4.heap.size, 1, none⟩ = some (.int .i64 a) := cell_of_block (o := 1) C5 rfl
    have j2 : w5.cell? ⟨w4.heap.size, 2, none⟩ = some (.int .i64 b) := cell_of_block (o := 2) C5 rfl
    clear k4 HST C5
    go_wp2_with fail
    refine (HLL.out _).mono ?_
    rintro e w6 ⟨o, t, rfl, ht, -, k6⟩
    obtain ⟨rfl, rfl⟩ := ht _ rfl
    have K6 := Lib.hid (K5.out.trans k6 (fun _ _ e => e))
    clear k6 K5 HLL ht j0 j1 j2 h5
    go_wp2_with fail
    refine (HAW.out _ (HG.out.on K6.out)).mono ?_
    rintro e w7 ⟨rfl, k7⟩
    have K7 := Lib.hid (K6.out.trans k7 (fun _ _ e => e))
    clear k7
    go_wp2_with fail
    go_ret
    exact ⟨rfl, K7.out⟩

theorem taleSteps_calls (s : ByteArray) (w : World) (hg : Gl w) (hs : s.size < 4294967281) : Calls Tryd.prog 4 #[.string s] w fun e w' => e = .returned (.bool true) ∧ Keeps NoBlock w w' := by
  have h := taleSteps_list s.data.toList w hg (by rw [← Lib.size_eq]; exact hs)
  rw [show S s.data.toList = Value.string s from congrArg Value.string (Lib.mk_toList s)] at h
  exact h

end Tl
end Go.Proofs.YthjefffefomioaaDoor
