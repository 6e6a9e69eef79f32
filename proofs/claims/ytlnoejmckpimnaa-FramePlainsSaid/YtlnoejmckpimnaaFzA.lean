/- FramePlains: a memory that is too long. FramePlains: what is no plain instruction. FramePlains: a register A that is not there. FramePlains: a register B that is not there. FramePlains: a register C that is not there. FramePlains: all ways of a bad instruction. -/
import Derived.Test.YtlnoejmckpimnaaFrV
namespace Go.Proofs.Ytlnoejmckpimnaa
open Go.RowKit Ieee
namespace Fr

theorem list8P {rs : List Int} (h : rs.length = 8) : ∃ r0 r1 r2 r3 r4 r5 r6 r7, rs = [r0, r1, r2, r3, r4, r5, r6, r7] := by
  match rs, h with
  | [r0, r1, r2, r3, r4, r5, r6, r7], _ => exact ⟨r0, r1, r2, r3, r4, r5, r6, r7, rfl⟩

set_option maxRecDepth 100000 in
set_option maxHeartbeats 1000000 in
theorem plains_big (f : Frm) (i : In5) (A : Option Addr) (n c : Nat) (w : World) (hrl : f.rs.length = 8) (hn : ¬ n ≤ 200) :
    Calls Try.prog 5 #[frmV f, insV i, .slice A n c] w fun e w' => e = .returned (.bool true) ∧ Below w.heap.size w w' := by
  obtain ⟨F, P, rs⟩ := f
  simp only [] at hrl
  obtain ⟨r0, r1, r2, r3, r4, r5, r6, r7, rfl⟩ := list8P hrl
  obtain ⟨op, a, b1, c0, N⟩ := i
  unfold frmV insV
  simp only [List.map_cons, List.map_nil]
  unfold rv
  have hg : decide ((200 : Int) < (n : Int)) = true := by simp; omega
  clear hn
  go_enter Try.func5, Try.ntmps5
  go_wp2_with fail
  refine (awake03_calls _).mono ?_
  rintro e w3 ⟨rfl, k3⟩
  go_wp2_with fail
  go_ret
  exact ⟨rfl, ((((Keeps.refl NoBlock w).alloc _).alloc _).trans k3 (fun _ _ h => h)).below (Nat.le_refl _) (fun _ h => h.elim)⟩

end Fr
end Go.Proofs.Ytlnoejmckpimnaa
namespace Go.Proofs.Ytlnoejmckpimnaa
open Go.RowKit Ieee
namespace Fr

set_option maxRecDepth 100000 in
set_option maxHeartbeats 4000000 in
theorem plains_np (f : Frm) (i : In5) (A : Option Addr) (n c : Nat) (ms : List Int) (w : World) (hrl : f.rs.length = 8) (hr : plainF f i ms = .error 8) (ho : ¬ (1 ≤ i.1 ∧ i.1 ≤ 19)) (hn : n ≤ 200)
    (hpl : Hid (∀ W, Keeps NoBlock w W → n ≤ 200 → Calls Try.prog 15 #[frmV f, insV i, .slice A n c] W (PlainPost W (plainF f i ms)))) :
    Calls Try.prog 5 #[frmV f, insV i, .slice A n c] w fun e w' => e = .returned (.bool true) ∧ Below w.heap.size w w' := by
  obtain ⟨F, P, rs⟩ := f
  simp only [] at hrl
  obtain ⟨r0, r1, r2, r3, r4, r5, r6, r7, rfl⟩ := list8P hrl
  obtain ⟨op, a, b1, c0, N⟩ := i
  unfold frmV insV at hpl ⊢
  simp only [List.map_cons, List.map_nil] at hpl ⊢
  unfold rv at hpl ⊢
  simp only [] at ho
  have hg : decide ((200 : Int) < (n : Int)) = false := by simp; omega
  have Ho := Lib.hid ho
  clear ho
  go_enter Try.func5, Try.ntmps5
  go_wp2_with fail
  generalize hW : World.alloc (World.alloc w _) _ = W
  have Kw : Hid (Keeps NoBlock w W) := by
    show Keeps _ _ _
    rw [← hW]
    exact ((Keeps.refl NoBlock w).alloc _).alloc _
  have Bf : Hid (W.heap[w.heap.size]? = some (.cells #[.int .i64 F, .int .i64 P, .int .u64 r0, .int .u64 r1, .int .u64 r2, .int .u64 r3, .int .u64 r4, .int .u64 r5, .int .u64 r6, .int .u64 r7] 29 (0, 0))) := by show _ = _; rw [← hW]; exact block_alloc_old (block_alloc_new _ _)
  have Bi : Hid (W.heap[w.heap.size + 1]? = some (.cells #[.int .i64 op, .int .i64 a, .int .i64 b1, .int .i64 c0, .int .u64 N] 31 (0, 0))) := by show _ = _; rw [← hW]; exact blk_new (by simp)
  clear hW
  refine (hpl.out W Kw.out (by omega)).mono ?_
  clear hg
  rintro e w1 ⟨k1, hres⟩
  have Bi1 := Lib.hid ((k1.block _ (lt_of_block Bi.out) (fun h => h)).trans Bi.out)
  have K1 := Lib.hid (Kw.out.trans k1 (fun _ _ h => h))
  clear k1 hpl
  rw [hr] at hres
  have he2 : e = .returned (.tuple #[.agg #[.int .i64 0, .int .i64 0, .int .u64 0, .int .u64 0, .int .u64 0, .int .u64 0, .int .u64 0, .int .u64 0, .int .u64 0, .int .u64 0], .slice none 0 0, .int .i64 8]) := hres
  subst he2
  clear hres hr
  have lsi := lt_of_block Bi1.out
  have i0 : w1.cell? ⟨w.heap.size + 1, 0, none⟩ = some (.int .i64 op) := cell_of_block (o := 0) Bi1.out rfl
  go_upto_region 4 with fail
  generalize hW : World.alloc w1 _ = W2
  have K2 : Hid (Keeps NoBlock w W2) := by show Keeps _ _ _; rw [← hW]; exact K1.out.alloc _
  have Bi2 : Hid (W2.heap[w.heap.size + 1]? = some (.cells #[.int .i64 op, .int .i64 a, .int .i64 b1, .int .i64 c0, .int .u64 N] 31 (0, 0))) := by show _ = _; rw [← hW]; exact block_alloc_old Bi1.out
  have Bg2 : Hid (W2.heap[w1.heap.size]? = some (.cells #[.int .i64 0, .int .i64 0, .int .u64 0, .int .u64 0, .int .u64 0, .int .u64 0, .int .u64 0, .int .u64 0, .int .u64 0, .int .u64 0] 29 (0, 0))) := by show _ = _; rw [← hW]; exact block_alloc_new _ _
  clear hW i0 lsi Bi1 K1
  have i0 : W2.cell? ⟨w.heap.size + 1, 0, none⟩ = some (.int .i64 op) := cell_of_block (o := 0) Bi2.out rfl
  go_wp2_with fail
  refine (has_calls op _).mono ?_
  rintro e w3 ⟨rfl, k3⟩
  have Bi3 := Lib.hid ((k3.block _ (lt_of_block Bi2.out) (fun h => h)).trans Bi2.out)
  have Bg3 := Lib.hid ((k3.block _ (lt_of_block Bg2.out) (fun h => h)).trans Bg2.out)
  have K3 := Lib.hid (K2.out.trans k3 (fun _ _ h => h))
  clear k3 i0 Bi2 Bg2 K2
  have j0 : w3.cell? ⟨w.heap.size + 1, 0, none⟩ = some (.int .i64 op) := cell_of_block (o := 0) Bi3.out rfl
  have hor : op < 1 ∨ (1 ≤ op ∧ 19 < op) := by have := Ho.out; omega
  rcases hor with h | ⟨h, h'⟩
  all_goals
    go_wp2_with fail
    refine (awake03_calls _).mono ?_
    rintro e w4 ⟨rfl, k4⟩
    have Bg4 := (k4.block _ (lt_of_block Bg3.out) (fun h => h)).trans Bg3.out
    have x0 : w4.cell? ⟨w1.heap.size, 0, none⟩ = some (.int .i64 0) := cell_of_block (o := 0) Bg4 rfl
    have x1 : w4.cell? ⟨w1.heap.size, 1, none⟩ = some (.int .i64 0) := cell_of_block (o := 1) Bg4 rfl
    have x2 : w4.cell? ⟨w1.heap.size, 2, none⟩ = some (.int .u64 0) := cell_of_block (o := 2) Bg4 rfl
    have x3 : w4.cell? ⟨w1.heap.size, 3, none⟩ = some (.int .u64 0) := cell_of_block (o := 3) Bg4 rfl
    have x4 : w4.cell? ⟨w1.heap.size, 4, none⟩ = some (.int .u64 0) := cell_of_block (o := 4) Bg4 rfl
    have x5 : w4.cell? ⟨w1.heap.size, 5, none⟩ = some (.int .u64 0) := cell_of_block (o := 5) Bg4 rfl
    have x6 : w4.cell? ⟨w1.heap.size, 6, none⟩ = some (.int .u64 0) := cell_of_block (o := 6) Bg4 rfl
    have x7 : w4.cell? ⟨w1.heap.size, 7, none⟩ = some (.int .u64 0) := cell_of_block (o := 7) Bg4 rfl
    have x8 : w4.cell? ⟨w1.heap.size, 8, none⟩ = some (.int .u64 0) := cell_of_block (o := 8) Bg4 rfl
    have x9 : w4.cell? ⟨w1.heap.size, 9, none⟩ = some (.int .u64 0) := cell_of_block (o := 9) Bg4 rfl
    have K4 := Lib.hid (K3.out.trans k4 (fun _ _ h => h))
    have heq := fun w => equalFrm 0 0 0 0 0 0 0 0 0 0 w
    have hgf := guardFrm
    clear k4 Bg4
    go_wp2_with fail
    go_ret
    exact ⟨rfl, K4.out.below (Nat.le_refl _) (fun _ h => h.elim)⟩
end Fr
end Go.Proofs.Ytlnoejmckpimnaa
namespace Go.Proofs.Ytlnoejmckpimnaa
open Go.RowKit Ieee
namespace Fr

set_option maxRecDepth 100000 in
set_option maxHeartbeats 4000000 in
theorem plains_a (f : Frm) (i : In5) (A : Option Addr) (n c : Nat) (ms : List Int) (w : World) (hrl : f.rs.length = 8) (hr : plainF f i ms = .error 8) (ho : 1 ≤ i.1 ∧ i.1 ≤ 19 ∧ i.1 ≠ 16) (ha : okR i.2.1 = false) (hn : n ≤ 200)
    (hpl : Hid (∀ W, Keeps NoBlock w W → n ≤ 200 → Calls Try.prog 15 #[frmV f, insV i, .slice A n c] W (PlainPost W (plainF f i ms)))) :
    Calls Try.prog 5 #[frmV f, insV i, .slice A n c] w fun e w' => e = .returned (.bool true) ∧ Below w.heap.size w w' := by
  obtain ⟨F, P, rs⟩ := f
  simp only [] at hrl
  obtain ⟨r0, r1, r2, r3, r4, r5, r6, r7, rfl⟩ := list8P hrl
  obtain ⟨op, a, b1, c0, N⟩ := i
  unfold frmV insV at hpl ⊢
  simp only [List.map_cons, List.map_nil] at hpl ⊢
  unfold rv at hpl ⊢
  simp only [] at ho ha
  have Ha := Lib.hid ha
  clear ha
  have hg : decide ((200 : Int) < (n : Int)) = false := by simp; omega
  have Ho := Lib.hid ho
  clear ho
  go_enter Try.func5, Try.ntmps5
  go_wp2_with fail
  generalize hW : World.alloc (World.alloc w _) _ = W
  have Kw : Hid (Keeps NoBlock w W) := by
    show Keeps _ _ _
    rw [← hW]
    exact ((Keeps.refl NoBlock w).alloc _).alloc _
  have Bf : Hid (W.heap[w.heap.size]? = some (.cells #[.int .i64 F, .int .i64 P, .int .u64 r0, .int .u64 r1, .int .u64 r2, .int .u64 r3, .int .u64 r4, .int .u64 r5, .int .u64 r6, .int .u64 r7] 29 (0, 0))) := by show _ = _; rw [← hW]; exact block_alloc_old (block_alloc_new _ _)
  have Bi : Hid (W.heap[w.heap.size + 1]? = some (.cells #[.int .i64 op, .int .i64 a, .int .i64 b1, .int .i64 c0, .int .u64 N] 31 (0, 0))) := by show _ = _; rw [← hW]; exact blk_new (by simp)
  clear hW
  refine (hpl.out W Kw.out (by omega)).mono ?_
  clear hg
  rintro e w1 ⟨k1, hres⟩
  have Bi1 := Lib.hid ((k1.block _ (lt_of_block Bi.out) (fun h => h)).trans Bi.out)
  have K1 := Lib.hid (Kw.out.trans k1 (fun _ _ h => h))
  clear k1 hpl
  rw [hr] at hres
  have he2 : e = .returned (.tuple #[.agg #[.int .i64 0, .int .i64 0, .int .u64 0, .int .u64 0, .int .u64 0, .int .u64 0, .int .u64 0, .int .u64 0, .int .u64 0, .int .u64 0], .slice none 0 0, .int .i64 8]) := hres
  subst he2
  clear hres hr
  have lsi := lt_of_block Bi1.out
  have i0 : w1.cell? ⟨w.heap.size + 1, 0, none⟩ = some (.int .i64 op) := cell_of_block (o := 0) Bi1.out rfl
  go_upto_region 4 with fail
  generalize hW : World.alloc w1 _ = W2
  have K2 : Hid (Keeps NoBlock w W2) := by show Keeps _ _ _; rw [← hW]; exact K1.out.alloc _
  have Bi2 : Hid (W2.heap[w.heap.size + 1]? = some (.cells #[.int .i64 op, .int .i64 a, .int .i64 b1, .int .i64 c0, .int .u64 N] 31 (0, 0))) := by show _ = _; rw [← hW]; exact block_alloc_old Bi1.out
  have Bg2 : Hid (W2.heap[w1.heap.size]? = some (.cells #[.int .i64 0, .int .i64 0, .int .u64 0, .int .u64 0, .int .u64 0, .int .u64 0, .int .u64 0, .int .u64 0, .int .u64 0, .int .u64 0] 29 (0, 0))) := by show _ = _; rw [← hW]; exact block_alloc_new _ _
  clear hW i0 lsi Bi1 K1
  have i0 : W2.cell? ⟨w.heap.size + 1, 0, none⟩ = some (.int .i64 op) := cell_of_block (o := 0) Bi2.out rfl
  go_wp2_with fail
  refine (has_calls op _).mono ?_
  rintro e w3 ⟨rfl, k3⟩
  have Bi3 := Lib.hid ((k3.block _ (lt_of_block Bi2.out) (fun h => h)).trans Bi2.out)
  have Bg3 := Lib.hid ((k3.block _ (lt_of_block Bg2.out) (fun h => h)).trans Bg2.out)
  have K3 := Lib.hid (K2.out.trans k3 (fun _ _ h => h))
  clear k3 i0 Bi2 Bg2 K2
  have j0 : w3.cell? ⟨w.heap.size + 1, 0, none⟩ = some (.int .i64 op) := cell_of_block (o := 0) Bi3.out rfl
  have j1 : w3.cell? ⟨w.heap.size + 1, 1, none⟩ = some (.int .i64 a) := cell_of_block (o := 1) Bi3.out rfl
  obtain ⟨h1, h2, h3⟩ := Ho.out
  have h4 : (op != 16) = true := by simp [h3]
  clear h3
  go_wp2_with fail
  refine (lreg_calls a _).mono ?_
  rintro e w5 ⟨rfl, rfl⟩
  rw [Ha.out]
  go_wp2_with fail
  refine (awake03_calls _).mono ?_
  rintro e w4 ⟨rfl, k4⟩
  have Bg4 := (k4.block _ (lt_of_block Bg3.out) (fun h => h)).trans Bg3.out
  have x0 : w4.cell? ⟨w1.heap.size, 0, none⟩ = some (.int .i64 0) := cell_of_block (o := 0) Bg4 rfl
  have x1 : w4.cell? ⟨w1.heap.size, 1, none⟩ = some (.int .i64 0) := cell_of_block (o := 1) Bg4 rfl
  have x2 : w4.cell? ⟨w1.heap.size, 2, none⟩ = some (.int .u64 0) := cell_of_block (o := 2) Bg4 rfl
  have x3 : w4.cell? ⟨w1.heap.size, 3, none⟩ = some (.int .u64 0) := cell_of_block (o := 3) Bg4 rfl
  have x4 : w4.cell? ⟨w1.heap.size, 4, none⟩ = some (.int .u64 0) := cell_of_block (o := 4) Bg4 rfl
  have x5 : w4.cell? ⟨w1.heap.size, 5, none⟩ = some (.int .u64 0) := cell_of_block (o := 5) Bg4 rfl
  have x6 : w4.cell? ⟨w1.heap.size, 6, none⟩ = some (.int .u64 0) := cell_of_block (o := 6) Bg4 rfl
  have x7 : w4.cell? ⟨w1.heap.size, 7, none⟩ = some (.int .u64 0) := cell_of_block (o := 7) Bg4 rfl
  have x8 : w4.cell? ⟨w1.heap.size, 8, none⟩ = some (.int .u64 0) := cell_of_block (o := 8) Bg4 rfl
  have x9 : w4.cell? ⟨w1.heap.size, 9, none⟩ = some (.int .u64 0) := cell_of_block (o := 9) Bg4 rfl
  have K4 := Lib.hid (K3.out.trans k4 (fun _ _ h => h))
  have heq := fun w => equalFrm 0 0 0 0 0 0 0 0 0 0 w
  have hgf := guardFrm
  clear k4 Bg4
  go_wp2_with fail
  go_ret
  exact ⟨rfl, K4.out.below (Nat.le_refl _) (fun _ h => h.elim)⟩
end Fr
end Go.Proofs.Ytlnoejmckpimnaa
namespace Go.Proofs.Ytlnoejmckpimnaa
open Go.RowKit Ieee
namespace Fr

set_option maxRecDepth 100000 in
set_option maxHeartbeats 4000000 in
theorem plains_b (f : Frm) (i : In5) (A : Option Addr) (n c : Nat) (ms : List Int) (w : World) (hrl : f.rs.length = 8) (hr : plainF f i ms = .error 8) (ho : 1 ≤ i.1 ∧ i.1 ≤ 19 ∧ i.1 ≠ 16) (ha : okR i.2.1 = true) (hb : okR i.2.2.1 = false) (hN : 2 < hasN i.1) (hn : n ≤ 200)
    (hpl : Hid (∀ W, Keeps NoBlock w W → n ≤ 200 → Calls Try.prog 15 #[frmV f, insV i, .slice A n c] W (PlainPost W (plainF f i ms)))) :
    Calls Try.prog 5 #[frmV f, insV i, .slice A n c] w fun e w' => e = .returned (.bool true) ∧ Below w.heap.size w w' := by
  obtain ⟨F, P, rs⟩ := f
  simp only [] at hrl
  obtain ⟨r0, r1, r2, r3, r4, r5, r6, r7, rfl⟩ := list8P hrl
  obtain ⟨op, a, b1, c0, N⟩ := i
  unfold frmV insV at hpl ⊢
  simp only [List.map_cons, List.map_nil] at hpl ⊢
  unfold rv at hpl ⊢
  simp only [] at ho ha hb hN
  have Hb := Lib.hid hb
  have HN : Hid (2 < (str (hasS op)).size) := by show 2 < _; rw [str_size, has_len ho.1 ho.2.1]; exact hN
  clear hb hN
  have Ha := Lib.hid ha
  clear ha
  have hg : decide ((200 : Int) < (n : Int)) = false := by simp; omega
  have Ho := Lib.hid ho
  clear ho
  go_enter Try.func5, Try.ntmps5
  go_wp2_with fail
  generalize hW : World.alloc (World.alloc w _) _ = W
  have Kw : Hid (Keeps NoBlock w W) := by
    show Keeps _ _ _
    rw [← hW]
    exact ((Keeps.refl NoBlock w).alloc _).alloc _
  have Bf : Hid (W.heap[w.heap.size]? = some (.cells #[.int .i64 F, .int .i64 P, .int .u64 r0, .int .u64 r1, .int .u64 r2, .int .u64 r3, .int .u64 r4, .int .u64 r5, .int .u64 r6, .int .u64 r7] 29 (0, 0))) := by show _ = _; rw [← hW]; exact block_alloc_old (block_alloc_new _ _)
  have Bi : Hid (W.heap[w.heap.size + 1]? = some (.cells #[.int .i64 op, .int .i64 a, .int .i64 b1, .int .i64 c0, .int .u64 N] 31 (0, 0))) := by show _ = _; rw [← hW]; exact blk_new (by simp)
  clear hW
  refine (hpl.out W Kw.out (by omega)).mono ?_
  clear hg
  rintro e w1 ⟨k1, hres⟩
  have Bi1 := Lib.hid ((k1.block _ (lt_of_block Bi.out) (fun h => h)).trans Bi.out)
  have K1 := Lib.hid (Kw.out.trans k1 (fun _ _ h => h))
  clear k1 hpl
  rw [hr] at hres
  have he2 : e = .returned (.tuple #[.agg #[.int .i64 0, .int .i64 0, .int .u64 0, .int .u64 0, .int .u64 0, .int .u64 0, .int .u64 0, .int .u64 0, .int .u64 0, .int .u64 0], .slice none 0 0, .int .i64 8]) := hres
  subst he2
  clear hres hr
  have lsi := lt_of_block Bi1.out
  have i0 : w1.cell? ⟨w.heap.size + 1, 0, none⟩ = some (.int .i64 op) := cell_of_block (o := 0) Bi1.out rfl
  go_upto_region 4 with fail
  generalize hW : World.alloc w1 _ = W2
  have K2 : Hid (Keeps NoBlock w W2) := by show Keeps _ _ _; rw [← hW]; exact K1.out.alloc _
  have Bi2 : Hid (W2.heap[w.heap.size + 1]? = some (.cells #[.int .i64 op, .int .i64 a, .int .i64 b1, .int .i64 c0, .int .u64 N] 31 (0, 0))) := by show _ = _; rw [← hW]; exact block_alloc_old Bi1.out
  have Bg2 : Hid (W2.heap[w1.heap.size]? = some (.cells #[.int .i64 0, .int .i64 0, .int .u64 0, .int .u64 0, .int .u64 0, .int .u64 0, .int .u64 0, .int .u64 0, .int .u64 0, .int .u64 0] 29 (0, 0))) := by show _ = _; rw [← hW]; exact block_alloc_new _ _
  clear hW i0 lsi Bi1 K1
  have i0 : W2.cell? ⟨w.heap.size + 1, 0, none⟩ = some (.int .i64 op) := cell_of_block (o := 0) Bi2.out rfl
  go_wp2_with fail
  refine (has_calls op _).mono ?_
  rintro e w3 ⟨rfl, k3⟩
  have Bi3 := Lib.hid ((k3.block _ (lt_of_block Bi2.out) (fun h => h)).trans Bi2.out)
  have Bg3 := Lib.hid ((k3.block _ (lt_of_block Bg2.out) (fun h => h)).trans Bg2.out)
  have K3 := Lib.hid (K2.out.trans k3 (fun _ _ h => h))
  clear k3 i0 Bi2 Bg2 K2
  have j0 : w3.cell? ⟨w.heap.size + 1, 0, none⟩ = some (.int .i64 op) := cell_of_block (o := 0) Bi3.out rfl
  have j1 : w3.cell? ⟨w.heap.size + 1, 1, none⟩ = some (.int .i64 a) := cell_of_block (o := 1) Bi3.out rfl
  obtain ⟨h1, h2, h3⟩ := Ho.out
  have h4 : (op != 16) = true := by simp [h3]
  clear h3
  have j2 : w3.cell? ⟨w.heap.size + 1, 2, none⟩ = some (.int .i64 b1) := cell_of_block (o := 2) Bi3.out rfl
  generalize str (hasS op) = S at HN ⊢
  obtain ⟨m, hm⟩ : ∃ m, S.size = m := ⟨_, rfl⟩
  have h5 : decide ((2 : Int) < (m : Int)) = true := by have := HN.out; rw [decide_eq_true_iff]; omega
  have h6 : 2 < m := by have := HN.out; omega
  go_wp2_with fail
  refine (lreg_calls a _).mono ?_
  rintro e w5 ⟨rfl, rfl⟩
  rw [Ha.out]
  go_wp2_with fail
  refine (lreg_calls b1 _).mono ?_
  rintro e w5 ⟨rfl, rfl⟩
  rw [Hb.out]
  go_wp2_with fail
  refine (awake03_calls _).mono ?_
  rintro e w4 ⟨rfl, k4⟩
  have Bg4 := (k4.block _ (lt_of_block Bg3.out) (fun h => h)).trans Bg3.out
  have x0 : w4.cell? ⟨w1.heap.size, 0, none⟩ = some (.int .i64 0) := cell_of_block (o := 0) Bg4 rfl
  have x1 : w4.cell? ⟨w1.heap.size, 1, none⟩ = some (.int .i64 0) := cell_of_block (o := 1) Bg4 rfl
  have x2 : w4.cell? ⟨w1.heap.size, 2, none⟩ = some (.int .u64 0) := cell_of_block (o := 2) Bg4 rfl
  have x3 : w4.cell? ⟨w1.heap.size, 3, none⟩ = some (.int .u64 0) := cell_of_block (o := 3) Bg4 rfl
  have x4 : w4.cell? ⟨w1.heap.size, 4, none⟩ = some (.int .u64 0) := cell_of_block (o := 4) Bg4 rfl
  have x5 : w4.cell? ⟨w1.heap.size, 5, none⟩ = some (.int .u64 0) := cell_of_block (o := 5) Bg4 rfl
  have x6 : w4.cell? ⟨w1.heap.size, 6, none⟩ = some (.int .u64 0) := cell_of_block (o := 6) Bg4 rfl
  have x7 : w4.cell? ⟨w1.heap.size, 7, none⟩ = some (.int .u64 0) := cell_of_block (o := 7) Bg4 rfl
  have x8 : w4.cell? ⟨w1.heap.size, 8, none⟩ = some (.int .u64 0) := cell_of_block (o := 8) Bg4 rfl
  have x9 : w4.cell? ⟨w1.heap.size, 9, none⟩ = some (.int .u64 0) := cell_of_block (o := 9) Bg4 rfl
  have K4 := Lib.hid (K3.out.trans k4 (fun _ _ h => h))
  have heq := fun w => equalFrm 0 0 0 0 0 0 0 0 0 0 w
  have hgf := guardFrm
  clear k4 Bg4
  go_wp2_with fail
  go_ret
  exact ⟨rfl, K4.out.below (Nat.le_refl _) (fun _ h => h.elim)⟩
end Fr
end Go.Proofs.Ytlnoejmckpimnaa
namespace Go.Proofs.Ytlnoejmckpimnaa
open Go.RowKit Ieee
namespace Fr

set_option maxRecDepth 100000 in
set_option maxHeartbeats 4000000 in
theorem plains_c (f : Frm) (i : In5) (A : Option Addr) (n c : Nat) (ms : List Int) (w : World) (hrl : f.rs.length = 8) (hr : plainF f i ms = .error 8) (ho : 1 ≤ i.1 ∧ i.1 ≤ 19 ∧ i.1 ≠ 16) (ha : okR i.2.1 = true) (hb : okR i.2.2.1 = true) (hc : okR i.2.2.2.1 = false) (hN : 3 < hasN i.1) (hn : n ≤ 200)
    (hpl : Hid (∀ W, Keeps NoBlock w W → n ≤ 200 → Calls Try.prog 15 #[frmV f, insV i, .slice A n c] W (PlainPost W (plainF f i ms)))) :
    Calls Try.prog 5 #[frmV f, insV i, .slice A n c] w fun e w' => e = .returned (.bool true) ∧ Below w.heap.size w w' := by
  obtain ⟨F, P, rs⟩ := f
  simp only [] at hrl
  obtain ⟨r0, r1, r2, r3, r4, r5, r6, r7, rfl⟩ := list8P hrl
  obtain ⟨op, a, b1, c0, N⟩ := i
  unfold frmV insV at hpl ⊢
  simp only [List.map_cons, List.map_nil] at hpl ⊢
  unfold rv at hpl ⊢
  simp only [] at ho ha hb hc hN
  have Hc := Lib.hid hc
  have Hb := Lib.hid hb
  have HN : Hid (3 < (str (hasS op)).size) := by show 3 < _; rw [str_size, has_len ho.1 ho.2.1]; exact hN
  clear hb hc hN
  have Ha := Lib.hid ha
  clear ha
  have hg : decide ((200 : Int) < (n : Int)) = false := by simp; omega
  have Ho := Lib.hid ho
  clear ho
  go_enter Try.func5, Try.ntmps5
  go_wp2_with fail
  generalize hW : World.alloc (World.alloc w _) _ = W
  have Kw : Hid (Keeps NoBlock w W) := by
    show Keeps _ _ _
    rw [← hW]
    exact ((Keeps.refl NoBlock w).alloc _).alloc _
  have Bf : Hid (W.heap[w.heap.size]? = some (.cells #[.int .i64 F, .int .i64 P, .int .u64 r0, .int .u64 r1, .int .u64 r2, .int .u64 r3, .int .u64 r4, .int .u64 r5, .int .u64 r6, .int .u64 r7] 29 (0, 0))) := by show _ = _; rw [← hW]; exact block_alloc_old (block_alloc_new _ _)
  have Bi : Hid (W.heap[w.heap.size + 1]? = some (.cells #[.int .i64 op, .int .i64 a, .int .i64 b1, .int .i64 c0, .int .u64 N] 31 (0, 0))) := by show _ = _; rw [← hW]; exact blk_new (by simp)
  clear hW
  refine (hpl.out W Kw.out (by omega)).mono ?_
  clear hg
  rintro e w1 ⟨k1, hres⟩
  have Bi1 := Lib.hid ((k1.block _ (lt_of_block Bi.out) (fun h => h)).trans Bi.out)
  have K1 := Lib.hid (Kw.out.trans k1 (fun _ _ h => h))
  clear k1 hpl
  rw [hr] at hres
  have he2 : e = .returned (.tuple #[.agg #[.int .i64 0, .int .i64 0, .int .u64 0, .int .u64 0, .int .u64 0, .int .u64 0, .int .u64 0, .int .u64 0, .int .u64 0, .int .u64 0], .slice none 0 0, .int .i64 8]) := hres
  subst he2
  clear hres hr
  have lsi := lt_of_block Bi1.out
  have i0 : w1.cell? ⟨w.heap.size + 1, 0, none⟩ = some (.int .i64 op) := cell_of_block (o := 0) Bi1.out rfl
  go_upto_region 4 with fail
  generalize hW : World.alloc w1 _ = W2
  have K2 : Hid (Keeps NoBlock w W2) := by show Keeps _ _ _; rw [← hW]; exact K1.out.alloc _
  have Bi2 : Hid (W2.heap[w.heap.size + 1]? = some (.cells #[.int .i64 op, .int .i64 a, .int .i64 b1, .int .i64 c0, .int .u64 N] 31 (0, 0))) := by show _ = _; rw [← hW]; exact block_alloc_old Bi1.out
  have Bg2 : Hid (W2.heap[w1.heap.size]? = some (.cells #[.int .i64 0, .int .i64 0, .int .u64 0, .int .u64 0, .int .u64 0, .int .u64 0, .int .u64 0, .int .u64 0, .int .u64 0, .int .u64 0] 29 (0, 0))) := by show _ = _; rw [← hW]; exact block_alloc_new _ _
  clear hW i0 lsi Bi1 K1
  have i0 : W2.cell? ⟨w.heap.size + 1, 0, none⟩ = some (.int .i64 op) := cell_of_block (o := 0) Bi2.out rfl
  go_wp2_with fail
  refine (has_calls op _).mono ?_
  rintro e w3 ⟨rfl, k3⟩
  have Bi3 := Lib.hid ((k3.block _ (lt_of_block Bi2.out) (fun h => h)).trans Bi2.out)
  have Bg3 := Lib.hid ((k3.block _ (lt_of_block Bg2.out) (fun h => h)).trans Bg2.out)
  have K3 := Lib.hid (K2.out.trans k3 (fun _ _ h => h))
  clear k3 i0 Bi2 Bg2 K2
  have j0 : w3.cell? ⟨w.heap.size + 1, 0, none⟩ = some (.int .i64 op) := cell_of_block (o := 0) Bi3.out rfl
  have j1 : w3.cell? ⟨w.heap.size + 1, 1, none⟩ = some (.int .i64 a) := cell_of_block (o := 1) Bi3.out rfl
  obtain ⟨h1, h2, h3⟩ := Ho.out
  have h4 : (op != 16) = true := by simp [h3]
  clear h3
  have j2 : w3.cell? ⟨w.heap.size + 1, 2, none⟩ = some (.int .i64 b1) := cell_of_block (o := 2) Bi3.out rfl
  generalize str (hasS op) = S at HN ⊢
  obtain ⟨m, hm⟩ : ∃ m, S.size = m := ⟨_, rfl⟩
  have h5 : decide ((2 : Int) < (m : Int)) = true := by have := HN.out; rw [decide_eq_true_iff]; omega
  have h6 : 2 < m := by have := HN.out; omega
  have h7 : decide ((3 : Int) < (m : Int)) = true := by have := HN.out; rw [decide_eq_true_iff]; omega
  have h8 : 3 < m := by have := HN.out; omega
  have j3 : w3.cell? ⟨w.heap.size + 1, 3, none⟩ = some (.int .i64 c0) := cell_of_block (o := 3) Bi3.out rfl
  go_wp2_with fail
  refine (lreg_calls a _).mono ?_
  rintro e w5 ⟨rfl, rfl⟩
  rw [Ha.out]
  go_wp2_with fail
  refine (lreg_calls b1 _).mono ?_
  rintro e w5 ⟨rfl, rfl⟩
  rw [Hb.out]
  go_wp2_with fail
  refine (lreg_calls c0 _).mono ?_
  rintro e w5 ⟨rfl, rfl⟩
  rw [Hc.out]
  go_wp2_with fail
  refine (awake03_calls _).mono ?_
  rintro e w4 ⟨rfl, k4⟩
  have Bg4 := (k4.block _ (lt_of_block Bg3.out) (fun h => h)).trans Bg3.out
  have x0 : w4.cell? ⟨w1.heap.size, 0, none⟩ = some (.int .i64 0) := cell_of_block (o := 0) Bg4 rfl
  have x1 : w4.cell? ⟨w1.heap.size, 1, none⟩ = some (.int .i64 0) := cell_of_block (o := 1) Bg4 rfl
  have x2 : w4.cell? ⟨w1.heap.size, 2, none⟩ = some (.int .u64 0) := cell_of_block (o := 2) Bg4 rfl
  have x3 : w4.cell? ⟨w1.heap.size, 3, none⟩ = some (.int .u64 0) := cell_of_block (o := 3) Bg4 rfl
  have x4 : w4.cell? ⟨w1.heap.size, 4, none⟩ = some (.int .u64 0) := cell_of_block (o := 4) Bg4 rfl
  have x5 : w4.cell? ⟨w1.heap.size, 5, none⟩ = some (.int .u64 0) := cell_of_block (o := 5) Bg4 rfl
  have x6 : w4.cell? ⟨w1.heap.size, 6, none⟩ = some (.int .u64 0) := cell_of_block (o := 6) Bg4 rfl
  have x7 : w4.cell? ⟨w1.heap.size, 7, none⟩ = some (.int .u64 0) := cell_of_block (o := 7) Bg4 rfl
  have x8 : w4.cell? ⟨w1.heap.size, 8, none⟩ = some (.int .u64 0) := cell_of_block (o := 8) Bg4 rfl
  have x9 : w4.cell? ⟨w1.heap.size, 9, none⟩ = some (.int .u64 0) := cell_of_block (o := 9) Bg4 rfl
  have K4 := Lib.hid (K3.out.trans k4 (fun _ _ h => h))
  have heq := fun w => equalFrm 0 0 0 0 0 0 0 0 0 0 w
  have hgf := guardFrm
  clear k4 Bg4
  go_wp2_with fail
  go_ret
  exact ⟨rfl, K4.out.below (Nat.le_refl _) (fun _ h => h.elim)⟩
end Fr
end Go.Proofs.Ytlnoejmckpimnaa
namespace Go.Proofs.Ytlnoejmckpimnaa
open Go.RowKit Ieee
namespace Fr

theorem okR_or (n : Int) : okR n = true ∨ okR n = false := by cases okR n <;> simp

theorem plains_bad (f : Frm) (i : In5) (A : Option Addr) (n c : Nat) (ms : List Int) (w : World) (hrl : f.rs.length = 8) (hbad : badI i) (hn : n ≤ 200)
    (hpl : Hid (∀ W, Keeps NoBlock w W → n ≤ 200 → Calls Try.prog 15 #[frmV f, insV i, .slice A n c] W (PlainPost W (plainF f i ms)))) :
    Calls Try.prog 5 #[frmV f, insV i, .slice A n c] w fun e w' => e = .returned (.bool true) ∧ Below w.heap.size w w' := by
  have hr := plain_of_bad (f := f) (ms := ms) hbad
  by_cases ho : 1 ≤ i.1 ∧ i.1 ≤ 19
  · rcases okR_or i.2.1 with ha | ha
    · have h16 : 2 < hasN i.1 → i.1 ≠ 16 := fun h => (hasN_two h).1
      rcases okR_or i.2.2.1 with hb | hb
      · rcases hbad with h | ⟨_, h⟩ | ⟨_, h⟩ | ⟨h3, h⟩
        · exact absurd ho h
        · rw [ha] at h; cases h
        · rw [hb] at h; cases h
        · exact plains_c f i A n c ms w hrl hr ⟨ho.1, ho.2, h16 (by omega)⟩ ha hb h h3 hn hpl
      · rcases hbad with h | ⟨_, h⟩ | ⟨h2, _⟩ | ⟨h3, _⟩
        · exact absurd ho h
        · rw [ha] at h; cases h
        · exact plains_b f i A n c ms w hrl hr ⟨ho.1, ho.2, h16 h2⟩ ha hb h2 hn hpl
        · exact plains_b f i A n c ms w hrl hr ⟨ho.1, ho.2, h16 (by omega)⟩ ha hb (by omega) hn hpl
    · have h16 : i.1 ≠ 16 := by
        rcases hbad with h | ⟨h, _⟩ | ⟨h, _⟩ | ⟨h, _⟩
        · exact absurd ho h
        · exact h
        · exact (hasN_two h).1
        · exact (hasN_two (by omega)).1
      exact plains_a f i A n c ms w hrl hr ⟨ho.1, ho.2, h16⟩ ha hn hpl
  · exact plains_np f i A n c ms w hrl hr ho hn hpl
end Fr
end Go.Proofs.Ytlnoejmckpimnaa
