/- The statements on inst: InstChecks, InstClasses. -/
import Derived.Test.YtlnfjjbfdbcgbaaInstK
import Derived.Test.YtlnfjjbfdbcgbaaInstQ
import Derived.Test.YtlnfjjbfdbcgbaaInstO
import Derived.Deep.RegionWith
import Derived.RegionTactic
namespace Go.Proofs.Ytlnfjjbfdbcgbaa
open Go.RowKit

theorem Keeps.cell_some {w w' : World} (h : Keeps NoBlock w w') {b o : Nat} {v : Value} (hc : w.cell? ⟨b, o, none⟩ = some v) : w'.cell? ⟨b, o, none⟩ = some v := by
  rw [h.cell (World.block_lt_of_cell? w _ hc) (fun h => h)]; exact hc

theorem cells_alloc {w : World} {o : Obj} {b f : Nat} {v : Value} (h : w.cell? ⟨b, f, none⟩ = some v) : (w.alloc o).cell? ⟨b, f, none⟩ = some v := Keeps.cell_some ((Keeps.refl _ w).alloc o) h
theorem cells_drew {w : World} {a : Addr} {v : Value} (h : w.cell? a = some v) : w.drew.cell? a = some v := h

theorem Keeps.drewL {S : Nat → Prop} {w w' : World} (h : Keeps S w.drew w') : Keeps S w w' := ⟨h.os, h.tape, h.output, h.size, h.block⟩
theorem ProgAt.drew {w : World} {v : Value} {p : Pg} (h : ProgAt w v p) : ProgAt w.drew v p := h.keeps (Keeps.refl _ w).drew

theorem check_eq (p : Pg) : checkI p = refI p := by
  unfold checkI refI
  cases hc : capsB p with
  | false => rfl
  | true =>
    have h2 : 0 ≤ p.mutexes ∧ 0 ≤ p.conds := by
      unfold capsB capsH wiB at hc
      simp at hc
      omega
    have : allP p p.funcs = refAll p p.funcs := by
      unfold allP refAll
      congr 1
      funext f
      congr 1
      funext x
      exact (sound_eq x.1 x.2.1 x.2.2.1 x.2.2.2.1 x.2.2.2.2 (by omega) h2.1 h2.2 (by omega) (by omega)).symm
    rw [this]

set_option maxRecDepth 100000 in
set_option maxHeartbeats 1000000 in
theorem checks_any (v : Value) (p : Pg) (w : World) (h : ProgAt w v p) : Calls Try.prog 3 #[v] w (YesPost w) := by
  have HA := Lib.hid h
  obtain ⟨⟨fa, sa, pa, nf, fc, ns, sc, np, pc, fb, fo, sb, so, pb, po, rfl, hF, hS, hP, hb1, hb2, hb3⟩, hM, hC⟩ := h
  obtain ⟨funcs, W, M, C, sems, pipes, B, R⟩ := p
  simp only [] at HA ⊢
  obtain ⟨ci, hci⟩ : ∃ ci, Hid (ci = checkI ⟨funcs, W, M, C, sems, pipes, B, R⟩) := ⟨_, rfl⟩
  have hri : Hid (refI ⟨funcs, W, M, C, sems, pipes, B, R⟩ = ci) := by unfold Hid; rw [hci.out, check_eq]
  clear hF hS hP hb1 hb2 hb3 hM hC
  go_enter Try.func3, Try.ntmps3
  go_upto_region 1 with fail
  generalize hW : World.alloc w (Obj.cells #[.slice fa nf fc, .int .i64 W, .int .i64 M, .int .i64 C, .slice sa ns sc, .slice pa np pc, .int .i64 B, .int .i64 R] 25) = w0
  have hkc : Keeps NoBlock w w0 := by rw [← hW]; exact (Keeps.refl _ w).alloc _
  have q0 : w0.heap[w.heap.size]? = some (.cells #[.slice fa nf fc, .int .i64 W, .int .i64 M, .int .i64 C, .slice sa ns sc, .slice pa np pc, .int .i64 B, .int .i64 R] 25 (0, 0)) := by rw [← hW]; exact blk_new rfl
  clear hW
  have c0 : w0.cell? ⟨w.heap.size, 0, none⟩ = some (.slice fa nf fc) := cell_of_block (o := 0) q0 rfl
  have c1 : w0.cell? ⟨w.heap.size, 1, none⟩ = some (.int .i64 W) := cell_of_block (o := 1) q0 rfl
  have c2 : w0.cell? ⟨w.heap.size, 2, none⟩ = some (.int .i64 M) := cell_of_block (o := 2) q0 rfl
  have c3 : w0.cell? ⟨w.heap.size, 3, none⟩ = some (.int .i64 C) := cell_of_block (o := 3) q0 rfl
  have c4 : w0.cell? ⟨w.heap.size, 4, none⟩ = some (.slice sa ns sc) := cell_of_block (o := 4) q0 rfl
  have c5 : w0.cell? ⟨w.heap.size, 5, none⟩ = some (.slice pa np pc) := cell_of_block (o := 5) q0 rfl
  have c6 : w0.cell? ⟨w.heap.size, 6, none⟩ = some (.int .i64 B) := cell_of_block (o := 6) q0 rfl
  have c7 : w0.cell? ⟨w.heap.size, 7, none⟩ = some (.int .i64 R) := cell_of_block (o := 7) q0 rfl
  clear q0
  have HP_ := Lib.hid (HA.out.keeps hkc)
  have hx0 : Keeps NoBlock w w0 := hkc
  go_region_with ((first
    | (go_at_call 12; refine (awake_calls _).mono ?_; rintro e w1 ⟨rfl, hk_⟩; have hk1 : Keeps NoBlock w0 w1 := by (first | exact hk_ | exact hk_.drewL | exact hk_.drewL.drewL)
       have hx1 : Keeps NoBlock w w1 := hx0.trans hk1 (fun _ _ h => h)
       have HP_ := Lib.hid (HA.out.keeps hx1)
       have c0 := Keeps.cell_some hk1 c0; have c1 := Keeps.cell_some hk1 c1; have c2 := Keeps.cell_some hk1 c2; have c3 := Keeps.cell_some hk1 c3; have c4 := Keeps.cell_some hk1 c4; have c5 := Keeps.cell_some hk1 c5; have c6 := Keeps.cell_some hk1 c6; have c7 := Keeps.cell_some hk1 c7)
    | (go_at_call 13; refine Calls.mono (check_calls (.agg #[.slice fa nf fc, .int .i64 W, .int .i64 M, .int .i64 C, .slice sa ns sc, .slice pa np pc, .int .i64 B, .int .i64 R]) ⟨funcs, W, M, C, sems, pipes, B, R⟩ _ ?_) ?_; focus (first | exact HP_.out | exact HP_.out.drew | exact HP_.out.drew.drew)
       rintro e w2 ⟨rfl, hk_⟩; rw [← hci.out]
       have hk2 : Keeps NoBlock w1 w2 := by (first | exact hk_ | exact hk_.drewL | exact hk_.drewL.drewL)
       have hx2 : Keeps NoBlock w w2 := hx1.trans hk2 (fun _ _ h => h)
       have HP_ := Lib.hid (HA.out.keeps hx2)
       have c0 := Keeps.cell_some hk2 c0; have c1 := Keeps.cell_some hk2 c1; have c2 := Keeps.cell_some hk2 c2; have c3 := Keeps.cell_some hk2 c3; have c4 := Keeps.cell_some hk2 c4; have c5 := Keeps.cell_some hk2 c5; have c6 := Keeps.cell_some hk2 c6; have c7 := Keeps.cell_some hk2 c7)
    | (go_at_call 14; refine Calls.mono (rCheck_calls (.agg #[.slice fa nf fc, .int .i64 W, .int .i64 M, .int .i64 C, .slice sa ns sc, .slice pa np pc, .int .i64 B, .int .i64 R]) ⟨funcs, W, M, C, sems, pipes, B, R⟩ _ ?_) ?_; focus (first | exact HP_.out | exact HP_.out.drew | exact HP_.out.drew.drew)
       rintro e w3 ⟨rfl, hk_⟩; rw [hri.out]
       have hk3 : Keeps NoBlock w2 w3 := by (first | exact hk_ | exact hk_.drewL | exact hk_.drewL.drewL)
       have hx3 : Keeps NoBlock w w3 := hx2.trans hk3 (fun _ _ h => h))))
  all_goals
    go_wp2_with fail
    go_ret
    exact yes_of (by simp) hx3

theorem checks_row (w : World) (v : Value) (p : Pg) (h : ProgAt w v p) : Calls Try.prog 3 #[v] w fun e w' => e = .returned (.bool true) ∧ Below w.heap.size w w' := checks_any v p w h
end Go.Proofs.Ytlnfjjbfdbcgbaa
