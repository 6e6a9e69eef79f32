/- FrameNexts: the instruction that comes next, of any program and frame. -/
import Derived.Test.YtlnoejmckpimnaaFrM
import Derived.Laws.StructEq
import Derived.Deep.RegionHeld3
namespace Go.Proofs.Ytlnoejmckpimnaa
open Go.RowKit Ieee
namespace Fr

theorem equalIns (a b c d e : Int) (w : World) : (Op.equalIn 10000 31 (.agg #[.int .i64 a, .int .i64 b, .int .i64 c, .int .i64 d, .int .u64 e]) (.agg #[.int .i64 a, .int .i64 b, .int .i64 c, .int .i64 d, .int .u64 e])).run Try.prog w = .ok true w := by
  have u3 := Try.underlying3
  have a3 := Try.isAgg3
  have z3 := Try.sizeOf3
  have u5 := Try.underlying26
  have a5 := Try.isAgg26
  have z5 := Try.sizeOf26
  have hS : Try.prog.underlying 31 = some (.struct (Try.prog.fieldsOf 31)) := by kernel_rfl
  have hp : Try.prog.stoodInHeld 31 = false := by kernel_rfl
  rw [show (10000 : Nat) = 9999 + 1 from rfl, run_equalIn_agg w 9999 31 _ _ hS hp]
  simp only [Program.fieldsOf, Try.underlying31]
  go_simp

theorem guardIns (op : BinOp) (a b : Operand) (xs ys : Array Value) (w : World) : (eqGuard op 31 a b (.agg xs) (.agg ys)).run Try.prog w = .ok () w := run_eqGuard_agg w op 31 a b xs ys (by kernel_rfl)

set_option maxRecDepth 100000 in
set_option maxHeartbeats 8000000 in
theorem nexts_a (w : World) (sa pa : Option Addr) (nf fc ns sc np pc : Nat) (Wd M C B R : Int) (r0 r1 r2 r3 r4 r5 r6 r7 : Int) (fa : Option Addr) (F P : Int) (f0 : F < 0) (hnx : Hid (∀ W, Keeps NoBlock w W → Calls Try.prog 11 #[(.agg #[.slice fa nf fc, .int .i64 Wd, .int .i64 M, .int .i64 C, .slice sa ns sc, .slice pa np pc, .int .i64 B, .int .i64 R]), (.agg #[.int .i64 F, .int .i64 P, .int .u64 r0, .int .u64 r1, .int .u64 r2, .int .u64 r3, .int .u64 r4, .int .u64 r5, .int .u64 r6, .int .u64 r7])] W (NextPost W none))) :
    Calls Try.prog 3 #[(.agg #[.slice fa nf fc, .int .i64 Wd, .int .i64 M, .int .i64 C, .slice sa ns sc, .slice pa np pc, .int .i64 B, .int .i64 R]), (.agg #[.int .i64 F, .int .i64 P, .int .u64 r0, .int .u64 r1, .int .u64 r2, .int .u64 r3, .int .u64 r4, .int .u64 r5, .int .u64 r6, .int .u64 r7])] w fun e w' => e = .returned (.bool true) ∧ Below w.heap.size w w' := by
  go_enter Try.func3, Try.ntmps3
  go_wp2_with fail
  generalize hW : World.alloc (World.alloc w _) _ = W
  have KW : Hid (Keeps NoBlock w W) := by
    rw [← hW]
    exact ((Keeps.refl NoBlock w).alloc _).alloc _
  have P0 : Hid (W.cell? ⟨w.heap.size, 0, none⟩ = some (.slice fa nf fc)) := by show _ = _; rw [← hW]; exact cell_of_block (o := 0) (block_alloc_old (block_alloc_new _ _)) rfl
  have P1 : Hid (W.cell? ⟨w.heap.size + 1, 0, none⟩ = some (.int .i64 F)) := by show _ = _; rw [← hW]; exact cell_of_block (o := 0) (blk_new (by simp)) rfl
  have P2 : Hid (W.cell? ⟨w.heap.size + 1, 1, none⟩ = some (.int .i64 P)) := by show _ = _; rw [← hW]; exact cell_of_block (o := 1) (blk_new (by simp)) rfl
  have S1 : Hid (w.heap.size + 1 < W.heap.size) := by show _ < _; rw [← hW]; simp
  have hn := hnx.out W KW.out
  clear hW
  refine hn.mono ?_
  rintro e w1 ⟨he, k1⟩
  have he2 : e = .returned (.tuple #[.agg #[.int .i64 0, .int .i64 0, .int .i64 0, .int .i64 0, .int .u64 0], .bool false]) := he
  subst he2
  clear he hn
  have K1 := Lib.hid k1
  clear k1
  go_wp2_with fail
  generalize hW : World.alloc w1 _ = W2
  have K2 : Hid (Keeps NoBlock w W2) := by
    rw [← hW]
    exact (KW.out.trans K1.out (fun _ _ h => h)).alloc _
  have K12 : Hid (Keeps NoBlock W W2) := by
    rw [← hW]
    exact K1.out.alloc _
  have s0 : W2.heap[w1.heap.size]? = some (.cells #[.int .i64 0, .int .i64 0, .int .i64 0, .int .i64 0, .int .u64 0] 31 (0, 0)) := by rw [← hW]; exact block_alloc_new _ _
  clear hW
  have p0 := (K12.out.cell (by have := S1.out; omega) (fun h => h)).trans P0.out
  have p1 := (K12.out.cell S1.out (fun h => h)).trans P1.out
  have p2 := (K12.out.cell S1.out (fun h => h)).trans P2.out
  have i0 : W2.cell? ⟨w1.heap.size, 0, none⟩ = some (.int .i64 0) := cell_of_block (o := 0) s0 rfl
  have i1 : W2.cell? ⟨w1.heap.size, 1, none⟩ = some (.int .i64 0) := cell_of_block (o := 1) s0 rfl
  have i2 : W2.cell? ⟨w1.heap.size, 2, none⟩ = some (.int .i64 0) := cell_of_block (o := 2) s0 rfl
  have i3 : W2.cell? ⟨w1.heap.size, 3, none⟩ = some (.int .i64 0) := cell_of_block (o := 3) s0 rfl
  have i4 : W2.cell? ⟨w1.heap.size, 4, none⟩ = some (.int .u64 0) := cell_of_block (o := 4) s0 rfl
  have ls := lt_of_block s0
  have hq := equalIns 0 0 0 0 0
  have hgu := guardIns
  clear s0
  skip
  clear hq hgu
  go_quiet (fail)
  have hq := equalIns 0 0 0 0 0
  have hgu := guardIns
  go_wp2_with fail
  refine (awake03_calls _).mono ?_
  rintro e w3 ⟨rfl, k3⟩
  have z0 := (k3.cell (o := 0) ls (fun h => h)).trans i0
  have z1 := (k3.cell (o := 1) ls (fun h => h)).trans i1
  have z2 := (k3.cell (o := 2) ls (fun h => h)).trans i2
  have z3 := (k3.cell (o := 3) ls (fun h => h)).trans i3
  have z4 := (k3.cell (o := 4) ls (fun h => h)).trans i4
  have K3 := Lib.hid ((K2.out.drewN _).trans k3 (fun _ _ h => h))
  clear k3 i0 i1 i2 i3 i4
  go_wp2_with fail
  go_ret
  exact ⟨rfl, K3.out.below (Nat.le_refl _) (fun _ h => h.elim)⟩

set_option maxRecDepth 100000 in
set_option maxHeartbeats 8000000 in
theorem nexts_b (w : World) (sa pa : Option Addr) (nf fc ns sc np pc : Nat) (Wd M C B R : Int) (r0 r1 r2 r3 r4 r5 r6 r7 : Int) (fa : Option Addr) (F P : Int) (f0 : ¬ F < 0) (f1 : (nf : Int) ≤ F) (hnx : Hid (∀ W, Keeps NoBlock w W → Calls Try.prog 11 #[(.agg #[.slice fa nf fc, .int .i64 Wd, .int .i64 M, .int .i64 C, .slice sa ns sc, .slice pa np pc, .int .i64 B, .int .i64 R]), (.agg #[.int .i64 F, .int .i64 P, .int .u64 r0, .int .u64 r1, .int .u64 r2, .int .u64 r3, .int .u64 r4, .int .u64 r5, .int .u64 r6, .int .u64 r7])] W (NextPost W none))) :
    Calls Try.prog 3 #[(.agg #[.slice fa nf fc, .int .i64 Wd, .int .i64 M, .int .i64 C, .slice sa ns sc, .slice pa np pc, .int .i64 B, .int .i64 R]), (.agg #[.int .i64 F, .int .i64 P, .int .u64 r0, .int .u64 r1, .int .u64 r2, .int .u64 r3, .int .u64 r4, .int .u64 r5, .int .u64 r6, .int .u64 r7])] w fun e w' => e = .returned (.bool true) ∧ Below w.heap.size w w' := by
  have hd : decide (F < 0) = false := decide_eq_false f0
  clear f0
  go_enter Try.func3, Try.ntmps3
  go_wp2_with fail
  generalize hW : World.alloc (World.alloc w _) _ = W
  have KW : Hid (Keeps NoBlock w W) := by
    rw [← hW]
    exact ((Keeps.refl NoBlock w).alloc _).alloc _
  have P0 : Hid (W.cell? ⟨w.heap.size, 0, none⟩ = some (.slice fa nf fc)) := by show _ = _; rw [← hW]; exact cell_of_block (o := 0) (block_alloc_old (block_alloc_new _ _)) rfl
  have P1 : Hid (W.cell? ⟨w.heap.size + 1, 0, none⟩ = some (.int .i64 F)) := by show _ = _; rw [← hW]; exact cell_of_block (o := 0) (blk_new (by simp)) rfl
  have P2 : Hid (W.cell? ⟨w.heap.size + 1, 1, none⟩ = some (.int .i64 P)) := by show _ = _; rw [← hW]; exact cell_of_block (o := 1) (blk_new (by simp)) rfl
  have S1 : Hid (w.heap.size + 1 < W.heap.size) := by show _ < _; rw [← hW]; simp
  have hn := hnx.out W KW.out
  clear hW
  refine hn.mono ?_
  rintro e w1 ⟨he, k1⟩
  have he2 : e = .returned (.tuple #[.agg #[.int .i64 0, .int .i64 0, .int .i64 0, .int .i64 0, .int .u64 0], .bool false]) := he
  subst he2
  clear he hn
  have K1 := Lib.hid k1
  clear k1
  go_wp2_with fail
  generalize hW : World.alloc w1 _ = W2
  have K2 : Hid (Keeps NoBlock w W2) := by
    rw [← hW]
    exact (KW.out.trans K1.out (fun _ _ h => h)).alloc _
  have K12 : Hid (Keeps NoBlock W W2) := by
    rw [← hW]
    exact K1.out.alloc _
  have s0 : W2.heap[w1.heap.size]? = some (.cells #[.int .i64 0, .int .i64 0, .int .i64 0, .int .i64 0, .int .u64 0] 31 (0, 0)) := by rw [← hW]; exact block_alloc_new _ _
  clear hW
  have p0 := (K12.out.cell (by have := S1.out; omega) (fun h => h)).trans P0.out
  have p1 := (K12.out.cell S1.out (fun h => h)).trans P1.out
  have p2 := (K12.out.cell S1.out (fun h => h)).trans P2.out
  have i0 : W2.cell? ⟨w1.heap.size, 0, none⟩ = some (.int .i64 0) := cell_of_block (o := 0) s0 rfl
  have i1 : W2.cell? ⟨w1.heap.size, 1, none⟩ = some (.int .i64 0) := cell_of_block (o := 1) s0 rfl
  have i2 : W2.cell? ⟨w1.heap.size, 2, none⟩ = some (.int .i64 0) := cell_of_block (o := 2) s0 rfl
  have i3 : W2.cell? ⟨w1.heap.size, 3, none⟩ = some (.int .i64 0) := cell_of_block (o := 3) s0 rfl
  have i4 : W2.cell? ⟨w1.heap.size, 4, none⟩ = some (.int .u64 0) := cell_of_block (o := 4) s0 rfl
  have ls := lt_of_block s0
  have hq := equalIns 0 0 0 0 0
  have hgu := guardIns
  clear s0
  skip
  clear hq hgu
  go_quiet (fail)
  have hq := equalIns 0 0 0 0 0
  have hgu := guardIns
  go_wp2_with fail
  refine (awake03_calls _).mono ?_
  rintro e w3 ⟨rfl, k3⟩
  have z0 := (k3.cell (o := 0) ls (fun h => h)).trans i0
  have z1 := (k3.cell (o := 1) ls (fun h => h)).trans i1
  have z2 := (k3.cell (o := 2) ls (fun h => h)).trans i2
  have z3 := (k3.cell (o := 3) ls (fun h => h)).trans i3
  have z4 := (k3.cell (o := 4) ls (fun h => h)).trans i4
  have K3 := Lib.hid ((K2.out.drewN _).trans k3 (fun _ _ h => h))
  clear k3 i0 i1 i2 i3 i4
  go_wp2_with fail
  go_ret
  exact ⟨rfl, K3.out.below (Nat.le_refl _) (fun _ h => h.elim)⟩

set_option maxRecDepth 100000 in
set_option maxHeartbeats 8000000 in
theorem nexts_c (w : World) (sa pa : Option Addr) (nf fc ns sc np pc : Nat) (Wd M C B R : Int) (r0 r1 r2 r3 r4 r5 r6 r7 : Int) (fb fo a : Nat) (P : Int) (ha : a < nf) (p00 : P < 0) (hnx : Hid (∀ W, Keeps NoBlock w W → Calls Try.prog 11 #[(.agg #[.slice (some ⟨fb, fo, none⟩) nf fc, .int .i64 Wd, .int .i64 M, .int .i64 C, .slice sa ns sc, .slice pa np pc, .int .i64 B, .int .i64 R]), (.agg #[.int .i64 (a : Int), .int .i64 P, .int .u64 r0, .int .u64 r1, .int .u64 r2, .int .u64 r3, .int .u64 r4, .int .u64 r5, .int .u64 r6, .int .u64 r7])] W (NextPost W none))) :
    Calls Try.prog 3 #[(.agg #[.slice (some ⟨fb, fo, none⟩) nf fc, .int .i64 Wd, .int .i64 M, .int .i64 C, .slice sa ns sc, .slice pa np pc, .int .i64 B, .int .i64 R]), (.agg #[.int .i64 (a : Int), .int .i64 P, .int .u64 r0, .int .u64 r1, .int .u64 r2, .int .u64 r3, .int .u64 r4, .int .u64 r5, .int .u64 r6, .int .u64 r7])] w fun e w' => e = .returned (.bool true) ∧ Below w.heap.size w w' := by
  have hi0 : (0 : Int) ≤ (a : Int) := by omega
  have hi1 : (a : Int) < (nf : Int) := by omega
  have hd3 : decide (nf ≤ a) = false := decide_eq_false (by omega)
  have hd1 : decide ((a : Int) < 0) = false := decide_eq_false (by omega)
  clear ha
  go_enter Try.func3, Try.ntmps3
  go_wp2_with fail
  generalize hW : World.alloc (World.alloc w _) _ = W
  have KW : Hid (Keeps NoBlock w W) := by
    rw [← hW]
    exact ((Keeps.refl NoBlock w).alloc _).alloc _
  have P0 : Hid (W.cell? ⟨w.heap.size, 0, none⟩ = some (.slice (some ⟨fb, fo, none⟩) nf fc)) := by show _ = _; rw [← hW]; exact cell_of_block (o := 0) (block_alloc_old (block_alloc_new _ _)) rfl
  have P1 : Hid (W.cell? ⟨w.heap.size + 1, 0, none⟩ = some (.int .i64 (a : Int))) := by show _ = _; rw [← hW]; exact cell_of_block (o := 0) (blk_new (by simp)) rfl
  have P2 : Hid (W.cell? ⟨w.heap.size + 1, 1, none⟩ = some (.int .i64 P)) := by show _ = _; rw [← hW]; exact cell_of_block (o := 1) (blk_new (by simp)) rfl
  have S1 : Hid (w.heap.size + 1 < W.heap.size) := by show _ < _; rw [← hW]; simp
  have hn := hnx.out W KW.out
  clear hW
  refine hn.mono ?_
  rintro e w1 ⟨he, k1⟩
  have he2 : e = .returned (.tuple #[.agg #[.int .i64 0, .int .i64 0, .int .i64 0, .int .i64 0, .int .u64 0], .bool false]) := he
  subst he2
  clear he hn
  have K1 := Lib.hid k1
  clear k1
  go_wp2_with fail
  generalize hW : World.alloc w1 _ = W2
  have K2 : Hid (Keeps NoBlock w W2) := by
    rw [← hW]
    exact (KW.out.trans K1.out (fun _ _ h => h)).alloc _
  have K12 : Hid (Keeps NoBlock W W2) := by
    rw [← hW]
    exact K1.out.alloc _
  have s0 : W2.heap[w1.heap.size]? = some (.cells #[.int .i64 0, .int .i64 0, .int .i64 0, .int .i64 0, .int .u64 0] 31 (0, 0)) := by rw [← hW]; exact block_alloc_new _ _
  clear hW
  have p0 := (K12.out.cell (by have := S1.out; omega) (fun h => h)).trans P0.out
  have p1 := (K12.out.cell S1.out (fun h => h)).trans P1.out
  have p2 := (K12.out.cell S1.out (fun h => h)).trans P2.out
  have i0 : W2.cell? ⟨w1.heap.size, 0, none⟩ = some (.int .i64 0) := cell_of_block (o := 0) s0 rfl
  have i1 : W2.cell? ⟨w1.heap.size, 1, none⟩ = some (.int .i64 0) := cell_of_block (o := 1) s0 rfl
  have i2 : W2.cell? ⟨w1.heap.size, 2, none⟩ = some (.int .i64 0) := cell_of_block (o := 2) s0 rfl
  have i3 : W2.cell? ⟨w1.heap.size, 3, none⟩ = some (.int .i64 0) := cell_of_block (o := 3) s0 rfl
  have i4 : W2.cell? ⟨w1.heap.size, 4, none⟩ = some (.int .u64 0) := cell_of_block (o := 4) s0 rfl
  have ls := lt_of_block s0
  have hq := equalIns 0 0 0 0 0
  have hgu := guardIns
  clear s0
  skip
  clear hq hgu
  go_quiet (fail)
  have hq := equalIns 0 0 0 0 0
  have hgu := guardIns
  go_wp2_with fail
  refine (awake03_calls _).mono ?_
  rintro e w3 ⟨rfl, k3⟩
  have z0 := (k3.cell (o := 0) ls (fun h => h)).trans i0
  have z1 := (k3.cell (o := 1) ls (fun h => h)).trans i1
  have z2 := (k3.cell (o := 2) ls (fun h => h)).trans i2
  have z3 := (k3.cell (o := 3) ls (fun h => h)).trans i3
  have z4 := (k3.cell (o := 4) ls (fun h => h)).trans i4
  have K3 := Lib.hid ((K2.out.drewN _).trans k3 (fun _ _ h => h))
  clear k3 i0 i1 i2 i3 i4
  go_wp2_with fail
  go_ret
  exact ⟨rfl, K3.out.below (Nat.le_refl _) (fun _ h => h.elim)⟩

set_option maxRecDepth 100000 in
set_option maxHeartbeats 8000000 in
theorem nexts_d (w : World) (sa pa : Option Addr) (nf fc ns sc np pc : Nat) (Wd M C B R : Int) (r0 r1 r2 r3 r4 r5 r6 r7 : Int) (fb fo a n1 c1 : Nat) (A1 : Option Addr) (P : Int) (ha : a < nf) (p00 : ¬ P < 0) (p11 : (n1 : Int) ≤ P) (hca : w.cell? ⟨fb, fo + a, none⟩ = some (.slice A1 n1 c1)) (hnx : Hid (∀ W, Keeps NoBlock w W → Calls Try.prog 11 #[(.agg #[.slice (some ⟨fb, fo, none⟩) nf fc, .int .i64 Wd, .int .i64 M, .int .i64 C, .slice sa ns sc, .slice pa np pc, .int .i64 B, .int .i64 R]), (.agg #[.int .i64 (a : Int), .int .i64 P, .int .u64 r0, .int .u64 r1, .int .u64 r2, .int .u64 r3, .int .u64 r4, .int .u64 r5, .int .u64 r6, .int .u64 r7])] W (NextPost W none))) :
    Calls Try.prog 3 #[(.agg #[.slice (some ⟨fb, fo, none⟩) nf fc, .int .i64 Wd, .int .i64 M, .int .i64 C, .slice sa ns sc, .slice pa np pc, .int .i64 B, .int .i64 R]), (.agg #[.int .i64 (a : Int), .int .i64 P, .int .u64 r0, .int .u64 r1, .int .u64 r2, .int .u64 r3, .int .u64 r4, .int .u64 r5, .int .u64 r6, .int .u64 r7])] w fun e w' => e = .returned (.bool true) ∧ Below w.heap.size w w' := by
  have hi0 : (0 : Int) ≤ (a : Int) := by omega
  have hi1 : (a : Int) < (nf : Int) := by omega
  have hd3 : decide (nf ≤ a) = false := decide_eq_false (by omega)
  have hd1 : decide ((a : Int) < 0) = false := decide_eq_false (by omega)
  clear ha
  have hd : decide (P < 0) = false := decide_eq_false p00
  clear p00
  have hbl := World.block_lt_of_cell? w _ hca
  have Hca := Lib.hid hca
  clear hca
  go_enter Try.func3, Try.ntmps3
  go_wp2_with fail
  generalize hW : World.alloc (World.alloc w _) _ = W
  have KW : Hid (Keeps NoBlock w W) := by
    rw [← hW]
    exact ((Keeps.refl NoBlock w).alloc _).alloc _
  have P0 : Hid (W.cell? ⟨w.heap.size, 0, none⟩ = some (.slice (some ⟨fb, fo, none⟩) nf fc)) := by show _ = _; rw [← hW]; exact cell_of_block (o := 0) (block_alloc_old (block_alloc_new _ _)) rfl
  have P1 : Hid (W.cell? ⟨w.heap.size + 1, 0, none⟩ = some (.int .i64 (a : Int))) := by show _ = _; rw [← hW]; exact cell_of_block (o := 0) (blk_new (by simp)) rfl
  have P2 : Hid (W.cell? ⟨w.heap.size + 1, 1, none⟩ = some (.int .i64 P)) := by show _ = _; rw [← hW]; exact cell_of_block (o := 1) (blk_new (by simp)) rfl
  have S1 : Hid (w.heap.size + 1 < W.heap.size) := by show _ < _; rw [← hW]; simp
  have hn := hnx.out W KW.out
  clear hW
  refine hn.mono ?_
  rintro e w1 ⟨he, k1⟩
  have he2 : e = .returned (.tuple #[.agg #[.int .i64 0, .int .i64 0, .int .i64 0, .int .i64 0, .int .u64 0], .bool false]) := he
  subst he2
  clear he hn
  have K1 := Lib.hid k1
  clear k1
  go_wp2_with fail
  generalize hW : World.alloc w1 _ = W2
  have K2 : Hid (Keeps NoBlock w W2) := by
    rw [← hW]
    exact (KW.out.trans K1.out (fun _ _ h => h)).alloc _
  have K12 : Hid (Keeps NoBlock W W2) := by
    rw [← hW]
    exact K1.out.alloc _
  have s0 : W2.heap[w1.heap.size]? = some (.cells #[.int .i64 0, .int .i64 0, .int .i64 0, .int .i64 0, .int .u64 0] 31 (0, 0)) := by rw [← hW]; exact block_alloc_new _ _
  clear hW
  have p0 := (K12.out.cell (by have := S1.out; omega) (fun h => h)).trans P0.out
  have p1 := (K12.out.cell S1.out (fun h => h)).trans P1.out
  have p2 := (K12.out.cell S1.out (fun h => h)).trans P2.out
  have i0 : W2.cell? ⟨w1.heap.size, 0, none⟩ = some (.int .i64 0) := cell_of_block (o := 0) s0 rfl
  have i1 : W2.cell? ⟨w1.heap.size, 1, none⟩ = some (.int .i64 0) := cell_of_block (o := 1) s0 rfl
  have i2 : W2.cell? ⟨w1.heap.size, 2, none⟩ = some (.int .i64 0) := cell_of_block (o := 2) s0 rfl
  have i3 : W2.cell? ⟨w1.heap.size, 3, none⟩ = some (.int .i64 0) := cell_of_block (o := 3) s0 rfl
  have i4 : W2.cell? ⟨w1.heap.size, 4, none⟩ = some (.int .u64 0) := cell_of_block (o := 4) s0 rfl
  have ls := lt_of_block s0
  have hq := equalIns 0 0 0 0 0
  have hgu := guardIns
  clear s0
  have hc2 := (K2.out.cell hbl (fun h => h)).trans Hca.out
  clear hq hgu
  go_quiet (fail)
  have hq := equalIns 0 0 0 0 0
  have hgu := guardIns
  go_wp2_with fail
  refine (awake03_calls _).mono ?_
  rintro e w3 ⟨rfl, k3⟩
  have z0 := (k3.cell (o := 0) ls (fun h => h)).trans i0
  have z1 := (k3.cell (o := 1) ls (fun h => h)).trans i1
  have z2 := (k3.cell (o := 2) ls (fun h => h)).trans i2
  have z3 := (k3.cell (o := 3) ls (fun h => h)).trans i3
  have z4 := (k3.cell (o := 4) ls (fun h => h)).trans i4
  have K3 := Lib.hid ((K2.out.drewN _).trans k3 (fun _ _ h => h))
  clear k3 i0 i1 i2 i3 i4
  go_wp2_with fail
  go_ret
  exact ⟨rfl, K3.out.below (Nat.le_refl _) (fun _ h => h.elim)⟩

set_option maxRecDepth 100000 in
set_option maxHeartbeats 8000000 in
theorem nexts_e (w : World) (sa pa : Option Addr) (nf fc ns sc np pc : Nat) (Wd M C B R : Int) (r0 r1 r2 r3 r4 r5 r6 r7 : Int) (fb fo a n1 c1 j b1 off1 : Nat) (y1 y2 y3 y4 y5 : Int) (ha : a < nf) (hj : j < n1) (hca : w.cell? ⟨fb, fo + a, none⟩ = some (.slice (some ⟨b1, off1, none⟩) n1 c1)) (w0 : w.cell? ⟨b1, off1 + j * 5, none⟩ = some (.int .i64 y1)) (w1_ : w.cell? ⟨b1, off1 + j * 5 + 1, none⟩ = some (.int .i64 y2)) (w2 : w.cell? ⟨b1, off1 + j * 5 + 2, none⟩ = some (.int .i64 y3)) (w3 : w.cell? ⟨b1, off1 + j * 5 + 3, none⟩ = some (.int .i64 y4)) (w4 : w.cell? ⟨b1, off1 + j * 5 + 4, none⟩ = some (.int .u64 y5)) (hnx : Hid (∀ W, Keeps NoBlock w W → Calls Try.prog 11 #[(.agg #[.slice (some ⟨fb, fo, none⟩) nf fc, .int .i64 Wd, .int .i64 M, .int .i64 C, .slice sa ns sc, .slice pa np pc, .int .i64 B, .int .i64 R]), (.agg #[.int .i64 (a : Int), .int .i64 (j : Int), .int .u64 r0, .int .u64 r1, .int .u64 r2, .int .u64 r3, .int .u64 r4, .int .u64 r5, .int .u64 r6, .int .u64 r7])] W (NextPost W (some (y1, y2, y3, y4, y5))))) :
    Calls Try.prog 3 #[(.agg #[.slice (some ⟨fb, fo, none⟩) nf fc, .int .i64 Wd, .int .i64 M, .int .i64 C, .slice sa ns sc, .slice pa np pc, .int .i64 B, .int .i64 R]), (.agg #[.int .i64 (a : Int), .int .i64 (j : Int), .int .u64 r0, .int .u64 r1, .int .u64 r2, .int .u64 r3, .int .u64 r4, .int .u64 r5, .int .u64 r6, .int .u64 r7])] w fun e w' => e = .returned (.bool true) ∧ Below w.heap.size w w' := by
  have hi0 : (0 : Int) ≤ (a : Int) := by omega
  have hi1 : (a : Int) < (nf : Int) := by omega
  have hd3 : decide (nf ≤ a) = false := decide_eq_false (by omega)
  have hd1 : decide ((a : Int) < 0) = false := decide_eq_false (by omega)
  have hj1 : (j : Int) < (n1 : Int) := by omega
  have hj0 : (0 : Int) ≤ (j : Int) := by omega
  have hd5 : decide (n1 ≤ j) = false := decide_eq_false (by omega)
  have hd6 : decide ((j : Int) < 0) = false := decide_eq_false (by omega)
  have hbl := World.block_lt_of_cell? w _ hca
  have Hca := Lib.hid hca
  have hbw := World.block_lt_of_cell? w _ w0
  have W0_ := Lib.hid w0
  have W1_ := Lib.hid w1_
  have W2_ := Lib.hid w2
  have W3_ := Lib.hid w3
  have W4_ := Lib.hid w4
  clear ha hj hca w0 w1_ w2 w3 w4
  go_enter Try.func3, Try.ntmps3
  go_wp2_with fail
  generalize hW : World.alloc (World.alloc w _) _ = W
  have KW : Hid (Keeps NoBlock w W) := by
    rw [← hW]
    exact ((Keeps.refl NoBlock w).alloc _).alloc _
  have P0 : Hid (W.cell? ⟨w.heap.size, 0, none⟩ = some (.slice (some ⟨fb, fo, none⟩) nf fc)) := by show _ = _; rw [← hW]; exact cell_of_block (o := 0) (block_alloc_old (block_alloc_new _ _)) rfl
  have P1 : Hid (W.cell? ⟨w.heap.size + 1, 0, none⟩ = some (.int .i64 (a : Int))) := by show _ = _; rw [← hW]; exact cell_of_block (o := 0) (blk_new (by simp)) rfl
  have P2 : Hid (W.cell? ⟨w.heap.size + 1, 1, none⟩ = some (.int .i64 (j : Int))) := by show _ = _; rw [← hW]; exact cell_of_block (o := 1) (blk_new (by simp)) rfl
  have S1 : Hid (w.heap.size + 1 < W.heap.size) := by show _ < _; rw [← hW]; simp
  have hn := hnx.out W KW.out
  clear hW
  refine hn.mono ?_
  rintro e w1 ⟨he, k1⟩
  have he2 : e = .returned (.tuple #[.agg #[.int .i64 y1, .int .i64 y2, .int .i64 y3, .int .i64 y4, .int .u64 y5], .bool true]) := he
  subst he2
  clear he hn
  have K1 := Lib.hid k1
  clear k1
  go_wp2_with fail
  generalize hW : World.alloc w1 _ = W2
  have K2 : Hid (Keeps NoBlock w W2) := by
    rw [← hW]
    exact (KW.out.trans K1.out (fun _ _ h => h)).alloc _
  have K12 : Hid (Keeps NoBlock W W2) := by
    rw [← hW]
    exact K1.out.alloc _
  have s0 : W2.heap[w1.heap.size]? = some (.cells #[.int .i64 y1, .int .i64 y2, .int .i64 y3, .int .i64 y4, .int .u64 y5] 31 (0, 0)) := by rw [← hW]; exact block_alloc_new _ _
  clear hW
  have p0 := (K12.out.cell (by have := S1.out; omega) (fun h => h)).trans P0.out
  have p1 := (K12.out.cell S1.out (fun h => h)).trans P1.out
  have p2 := (K12.out.cell S1.out (fun h => h)).trans P2.out
  have i0 : W2.cell? ⟨w1.heap.size, 0, none⟩ = some (.int .i64 y1) := cell_of_block (o := 0) s0 rfl
  have i1 : W2.cell? ⟨w1.heap.size, 1, none⟩ = some (.int .i64 y2) := cell_of_block (o := 1) s0 rfl
  have i2 : W2.cell? ⟨w1.heap.size, 2, none⟩ = some (.int .i64 y3) := cell_of_block (o := 2) s0 rfl
  have i3 : W2.cell? ⟨w1.heap.size, 3, none⟩ = some (.int .i64 y4) := cell_of_block (o := 3) s0 rfl
  have i4 : W2.cell? ⟨w1.heap.size, 4, none⟩ = some (.int .u64 y5) := cell_of_block (o := 4) s0 rfl
  have ls := lt_of_block s0
  have hq := equalIns y1 y2 y3 y4 y5
  have hgu := guardIns
  clear s0
  clear hq hgu
  have hc2 := (K2.out.cell hbl (fun h => h)).trans Hca.out
  go_quiet (fail)
  go_wp2_with fail
  generalize hW : World.drewN W2 _ = W5
  have k25 : Keeps NoBlock W2 W5 := by rw [← hW]; exact (Keeps.refl _ _).drewN _
  have K5 : Hid (Keeps NoBlock w W5) := K2.out.trans k25 (fun _ _ h => h)
  have L5 := Nat.lt_of_lt_of_le S1.out (Nat.le_trans K12.out.size k25.size)
  have q0 : W5.cell? ⟨w.heap.size, 0, none⟩ = some (.slice (some ⟨fb, fo, none⟩) nf fc) := by rw [← hW]; exact p0
  have q1 : W5.cell? ⟨w.heap.size + 1, 0, none⟩ = some (.int .i64 a) := by rw [← hW]; exact p1
  have q2 : W5.cell? ⟨w.heap.size + 1, 1, none⟩ = some (.int .i64 j) := by rw [← hW]; exact p2
  have q3 : W5.cell? ⟨fb, fo + a, none⟩ = some (.slice (some ⟨b1, off1, none⟩) n1 c1) := by rw [← hW]; exact hc2
  have j0 : W5.cell? ⟨w1.heap.size, 0, none⟩ = some (.int .i64 y1) := by rw [← hW]; exact i0
  have j1 : W5.cell? ⟨w1.heap.size, 1, none⟩ = some (.int .i64 y2) := by rw [← hW]; exact i1
  have j2 : W5.cell? ⟨w1.heap.size, 2, none⟩ = some (.int .i64 y3) := by rw [← hW]; exact i2
  have j3 : W5.cell? ⟨w1.heap.size, 3, none⟩ = some (.int .i64 y4) := by rw [← hW]; exact i3
  have j4 : W5.cell? ⟨w1.heap.size, 4, none⟩ = some (.int .u64 y5) := by rw [← hW]; exact i4
  have v0 := (K5.out.cell hbw (fun h => h)).trans W0_.out
  have v1 := (K5.out.cell hbw (fun h => h)).trans W1_.out
  have v2 := (K5.out.cell hbw (fun h => h)).trans W2_.out
  have v3 := (K5.out.cell hbw (fun h => h)).trans W3_.out
  have v4 := (K5.out.cell hbw (fun h => h)).trans W4_.out
  have l5 : w1.heap.size < W5.heap.size := by rw [← hW]; exact ls
  have hS : Hid (∀ w', Keeps NoBlock W5 w' → w'.cell? ⟨w.heap.size, 0, none⟩ = some (.slice (some ⟨fb, fo, none⟩) nf fc) ∧ w'.cell? ⟨w.heap.size + 1, 0, none⟩ = some (.int .i64 a) ∧ w'.cell? ⟨w.heap.size + 1, 1, none⟩ = some (.int .i64 j) ∧ w'.cell? ⟨fb, fo + a, none⟩ = some (.slice (some ⟨b1, off1, none⟩) n1 c1) ∧
      w'.cell? ⟨w1.heap.size, 0, none⟩ = some (.int .i64 y1) ∧ w'.cell? ⟨w1.heap.size, 1, none⟩ = some (.int .i64 y2) ∧ w'.cell? ⟨w1.heap.size, 2, none⟩ = some (.int .i64 y3) ∧ w'.cell? ⟨w1.heap.size, 3, none⟩ = some (.int .i64 y4) ∧ w'.cell? ⟨w1.heap.size, 4, none⟩ = some (.int .u64 y5) ∧
      w'.cell? ⟨b1, off1 + j * 5, none⟩ = some (.int .i64 y1) ∧ w'.cell? ⟨b1, off1 + j * 5 + 1, none⟩ = some (.int .i64 y2) ∧ w'.cell? ⟨b1, off1 + j * 5 + 2, none⟩ = some (.int .i64 y3) ∧ w'.cell? ⟨b1, off1 + j * 5 + 3, none⟩ = some (.int .i64 y4) ∧ w'.cell? ⟨b1, off1 + j * 5 + 4, none⟩ = some (.int .u64 y5)) := fun w' k =>
    ⟨(k.cell (by omega) (fun h => h)).trans q0, (k.cell L5 (fun h => h)).trans q1, (k.cell L5 (fun h => h)).trans q2, (k.cell (Nat.lt_of_lt_of_le hbl K5.out.size) (fun h => h)).trans q3, (k.cell l5 (fun h => h)).trans j0, (k.cell l5 (fun h => h)).trans j1, (k.cell l5 (fun h => h)).trans j2, (k.cell l5 (fun h => h)).trans j3, (k.cell l5 (fun h => h)).trans j4,
      (k.cell (Nat.lt_of_lt_of_le hbw K5.out.size) (fun h => h)).trans v0, (k.cell (Nat.lt_of_lt_of_le hbw K5.out.size) (fun h => h)).trans v1, (k.cell (Nat.lt_of_lt_of_le hbw K5.out.size) (fun h => h)).trans v2, (k.cell (Nat.lt_of_lt_of_le hbw K5.out.size) (fun h => h)).trans v3, (k.cell (Nat.lt_of_lt_of_le hbw K5.out.size) (fun h => h)).trans v4⟩
  have hq := equalIns y1 y2 y3 y4 y5
  have hgu := guardIns
  clear hW i0 i1 i2 i3 i4 p0 p1 p2 hc2 k25
  go_region_held3 (fun w' => w'.cell? ⟨w.heap.size, 0, none⟩ = some (.slice (some ⟨fb, fo, none⟩) nf fc) ∧ w'.cell? ⟨w.heap.size + 1, 0, none⟩ = some (.int .i64 a) ∧ w'.cell? ⟨w.heap.size + 1, 1, none⟩ = some (.int .i64 j) ∧ w'.cell? ⟨fb, fo + a, none⟩ = some (.slice (some ⟨b1, off1, none⟩) n1 c1) ∧
      w'.cell? ⟨w1.heap.size, 0, none⟩ = some (.int .i64 y1) ∧ w'.cell? ⟨w1.heap.size, 1, none⟩ = some (.int .i64 y2) ∧ w'.cell? ⟨w1.heap.size, 2, none⟩ = some (.int .i64 y3) ∧ w'.cell? ⟨w1.heap.size, 3, none⟩ = some (.int .i64 y4) ∧ w'.cell? ⟨w1.heap.size, 4, none⟩ = some (.int .u64 y5) ∧
      w'.cell? ⟨b1, off1 + j * 5, none⟩ = some (.int .i64 y1) ∧ w'.cell? ⟨b1, off1 + j * 5 + 1, none⟩ = some (.int .i64 y2) ∧ w'.cell? ⟨b1, off1 + j * 5 + 2, none⟩ = some (.int .i64 y3) ∧ w'.cell? ⟨b1, off1 + j * 5 + 3, none⟩ = some (.int .i64 y4) ∧ w'.cell? ⟨b1, off1 + j * 5 + 4, none⟩ = some (.int .u64 y5))
    (first | exact hS.out _ K7.out | exact hS.out _ ((Keeps.refl _ _).drew) | exact hS.out _ (Keeps.refl _ _) | go_keep)
    (first
      | (go_at_call 12
         refine Calls.mono (awake03_calls _) ?_
         rintro e w7 ⟨rfl, k7⟩
         have K7 : Hid (Keeps NoBlock W5 w7) := ((Keeps.refl NoBlock W5).drew).trans k7 (fun _ _ h => h)
         clear k7))
  go_wp2_with fail
  go_ret
  exact ⟨rfl, (K5.out.trans K7.out (fun _ _ h => h)).below (Nat.le_refl _) (fun _ h => h.elim)⟩
end Fr
end Go.Proofs.Ytlnoejmckpimnaa
