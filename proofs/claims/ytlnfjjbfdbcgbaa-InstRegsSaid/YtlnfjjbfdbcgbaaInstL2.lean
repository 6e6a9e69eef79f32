/- The statement InstRegs: its walk. -/
import Derived.Test.YtlnfjjbfdbcgbaaInstA
import Derived.Test.YtlnfjjbfdbcgbaaInstO
namespace Go.Proofs.Ytlnfjjbfdbcgbaa
open Go.RowKit

def RYes (w : World) (e : Ending) (w' : World) : Prop := e = .returned (.bool true) ∧ Below w.heap.size w w'
theorem ryes_of {w w' : World} {b : Bool} (hb : b = true) (hk : Keeps NoBlock w w') : RYes w (.returned (.bool b)) w' := ⟨by rw [hb], hk.below (Nat.le_refl _) (fun _ h => h.elim)⟩

theorem blk_ne {w : World} {b b' o : Nat} {v : Value} (h : b ≠ b') : (w.setCell ⟨b', o, none⟩ v).heap[b]? = w.heap[b]? := block_set_ne (p := ⟨b', o, none⟩) h v

theorem reg_says {n : Int} {is : Bool} (h : regB n is = true) : 0 ≤ n ∧ n ≤ 7 := by
  unfold regB at h
  simp at h
  omega

theorem sound_says {p : Pg} {x : In5} (h : soundP p x = true) : 0 < cls x.1 ∧ (0 ≤ x.2.1 ∧ x.2.1 ≤ 7) ∧ (0 ≤ x.2.2.1 ∧ x.2.2.1 ≤ 7) ∧ 0 ≤ x.2.2.2.1 := by
  unfold soundP soundB soundF at h
  simp only [Bool.and_eq_true, decide_eq_true_eq] at h
  obtain ⟨h0, ⟨⟨h1, h2⟩, h3⟩, _⟩ := h
  refine ⟨?_, reg_says h1, reg_says h2, ?_⟩
  · have : 0 ≤ cls x.1 := by unfold cls; (repeat' split) <;> omega
    omega
  · split at h3
    · simp at h3; omega
    · exact (reg_says h3).1

theorem sound_no {p : Pg} {x : In5} (h : x.2.1 < 0 ∨ 7 < x.2.1 ∨ x.2.2.1 < 0 ∨ 7 < x.2.2.1) : soundP p x = false := by
  cases hs : soundP p x with
  | false => rfl
  | true => have := sound_says hs; omega

set_option maxRecDepth 100000 in
set_option maxHeartbeats 1000000 in
theorem regs_any (w : World) (v : Value) (p : Pg) (h : ProgAt w v p) (x : In5) (hx : ok5 x) (n : Int) : Calls Try.prog 6 #[v, .agg #[.int .i64 x.1, .int .i64 x.2.1, .int .i64 x.2.2.1, .int .i64 x.2.2.2.1, .int .u64 x.2.2.2.2], .int .i64 n] w (RYes w) := by
  have HA := Lib.hid h
  obtain ⟨⟨fa, sa, pa, nf, fc, ns, sc, np, pc, fb, fo, sb, so, pb, po, rfl, hF, hS, hP, hb1, hb2, hb3⟩, hM, hC⟩ := h
  clear hF hS hP hb1 hb2 hb3 hM hC
  obtain ⟨funcs, W, M, C, sems, pipes, B, R⟩ := p
  obtain ⟨op, xa, xb, xc, xn⟩ := x
  simp only [] at HA ⊢
  have Hx := Lib.hid hx
  clear hx
  go_enter Try.func6, Try.ntmps6
  go_upto_region 3 with fail
  generalize hW : World.alloc _ (Obj.cells #[.int .i64 op, .int .i64 n, .int .i64 xb, .int .i64 xc, .int .u64 xn] 34) = w1
  have hk1 : Keeps NoBlock w w1 := by rw [← hW]; exact (((Keeps.refl _ w).alloc _).alloc _).alloc _
  have q0 : w1.heap[w.heap.size]? = some (.cells #[.slice fa nf fc, .int .i64 W, .int .i64 M, .int .i64 C, .slice sa ns sc, .slice pa np pc, .int .i64 B, .int .i64 R] 25 (0, 0)) := by rw [← hW]; exact block_alloc_old (block_alloc_old (blk_new rfl))
  have q1 : w1.heap[w.heap.size + 1]? = some (.cells #[.int .i64 op, .int .i64 xa, .int .i64 xb, .int .i64 xc, .int .u64 xn] 34 (0, 0)) := by rw [← hW]; exact block_alloc_old (blk_new (by simp))
  have q2 : w1.heap[w.heap.size + 1 + 1]? = some (.cells #[.int .i64 op, .int .i64 n, .int .i64 xb, .int .i64 xc, .int .u64 xn] 34 (0, 0)) := by rw [← hW]; exact blk_new (by simp)
  clear hW
  have p0 : w1.cell? ⟨w.heap.size, 0, none⟩ = some (.slice fa nf fc) := cell_of_block (o := 0) q0 rfl
  have p1 : w1.cell? ⟨w.heap.size, 1, none⟩ = some (.int .i64 W) := cell_of_block (o := 1) q0 rfl
  have p2 : w1.cell? ⟨w.heap.size, 2, none⟩ = some (.int .i64 M) := cell_of_block (o := 2) q0 rfl
  have p3 : w1.cell? ⟨w.heap.size, 3, none⟩ = some (.int .i64 C) := cell_of_block (o := 3) q0 rfl
  have p4 : w1.cell? ⟨w.heap.size, 4, none⟩ = some (.slice sa ns sc) := cell_of_block (o := 4) q0 rfl
  have p5 : w1.cell? ⟨w.heap.size, 5, none⟩ = some (.slice pa np pc) := cell_of_block (o := 5) q0 rfl
  have p6 : w1.cell? ⟨w.heap.size, 6, none⟩ = some (.int .i64 B) := cell_of_block (o := 6) q0 rfl
  have p7 : w1.cell? ⟨w.heap.size, 7, none⟩ = some (.int .i64 R) := cell_of_block (o := 7) q0 rfl
  have a0 : w1.cell? ⟨w.heap.size + 1 + 1, 0, none⟩ = some (.int .i64 op) := cell_of_block (o := 0) q2 rfl
  have a1 : w1.cell? ⟨w.heap.size + 1 + 1, 1, none⟩ = some (.int .i64 n) := cell_of_block (o := 1) q2 rfl
  have a2 : w1.cell? ⟨w.heap.size + 1 + 1, 2, none⟩ = some (.int .i64 xb) := cell_of_block (o := 2) q2 rfl
  have a3 : w1.cell? ⟨w.heap.size + 1 + 1, 3, none⟩ = some (.int .i64 xc) := cell_of_block (o := 3) q2 rfl
  have a4 : w1.cell? ⟨w.heap.size + 1 + 1, 4, none⟩ = some (.int .u64 xn) := cell_of_block (o := 4) q2 rfl
  have l2 := lt_of_block q2
  have Q0 := Lib.hid q0
  have Q1 := Lib.hid q1
  have Q2 := Lib.hid q2
  clear q0 q1 q2
  go_cut [21] from 11 to 20 (fun v wx => v = .bool false ∧ Keeps NoBlock w1 wx)
  case first =>
    have h3 : (n < 0) ∨ (7 < n) ∨ (0 ≤ n ∧ n ≤ 7) := by omega
    rcases h3 with h3 | h3 | ⟨h3, h4⟩
    · go_wp2_with fail
      refine (sound_at _ _ (op, n, xb, xc, xn) w _ HA.out Hx.out).mono ?_
      rintro e w2 ⟨rfl, hk2⟩
      rw [sound_no (.inl h3)]
      go_wp2_with fail
      go_meet
      case rel => exact ⟨rfl, hk2⟩
    · go_wp2_with fail
      refine (sound_at _ _ (op, n, xb, xc, xn) w _ HA.out Hx.out).mono ?_
      rintro e w2 ⟨rfl, hk2⟩
      rw [sound_no (.inr (.inl h3))]
      go_wp2_with fail
      go_meet
      case rel => exact ⟨rfl, hk2⟩
    · go_wp2_with fail
      go_meet
      case rel => exact ⟨rfl, Keeps.refl _ _⟩
  case rest =>
    obtain ⟨rfl, hk2⟩ := hcut
    clear p0 p1 p2 p3 p4 p5 p6 p7 a0 a1 a2 a3 a4
    have q0 := (hk2.block _ (lt_of_block Q0.out) (fun h => h)).trans Q0.out
    have q1 := (hk2.block _ (lt_of_block Q1.out) (fun h => h)).trans Q1.out
    have q2 := (hk2.block _ (lt_of_block Q2.out) (fun h => h)).trans Q2.out
    clear l2
    have l2 := lt_of_block q2
    have i0 : wc.cell? ⟨w.heap.size + 1, 0, none⟩ = some (.int .i64 op) := cell_of_block (o := 0) q1 rfl
    have i1 : wc.cell? ⟨w.heap.size + 1, 1, none⟩ = some (.int .i64 xa) := cell_of_block (o := 1) q1 rfl
    have i2 : wc.cell? ⟨w.heap.size + 1, 2, none⟩ = some (.int .i64 xb) := cell_of_block (o := 2) q1 rfl
    have i3 : wc.cell? ⟨w.heap.size + 1, 3, none⟩ = some (.int .i64 xc) := cell_of_block (o := 3) q1 rfl
    have i4 : wc.cell? ⟨w.heap.size + 1, 4, none⟩ = some (.int .u64 xn) := cell_of_block (o := 4) q1 rfl
    have a0 : wc.cell? ⟨w.heap.size + 1 + 1, 0, none⟩ = some (.int .i64 op) := cell_of_block (o := 0) q2 rfl
    have a1 : wc.cell? ⟨w.heap.size + 1 + 1, 1, none⟩ = some (.int .i64 n) := cell_of_block (o := 1) q2 rfl
    have a2 : wc.cell? ⟨w.heap.size + 1 + 1, 2, none⟩ = some (.int .i64 xb) := cell_of_block (o := 2) q2 rfl
    have a3 : wc.cell? ⟨w.heap.size + 1 + 1, 3, none⟩ = some (.int .i64 xc) := cell_of_block (o := 3) q2 rfl
    have a4 : wc.cell? ⟨w.heap.size + 1 + 1, 4, none⟩ = some (.int .u64 xn) := cell_of_block (o := 4) q2 rfl
    have z0 : wc.frozen? ⟨w.heap.size + 1 + 1, 0, none⟩ = false := frozen_of_block q2
    have z1 : wc.frozen? ⟨w.heap.size + 1 + 1, 1, none⟩ = false := frozen_of_block q2
    have z2 : wc.frozen? ⟨w.heap.size + 1 + 1, 2, none⟩ = false := frozen_of_block q2
    have z3 : wc.frozen? ⟨w.heap.size + 1 + 1, 3, none⟩ = false := frozen_of_block q2
    have z4 : wc.frozen? ⟨w.heap.size + 1 + 1, 4, none⟩ = false := frozen_of_block q2
    have R0 := Lib.hid q0
    have R1 := Lib.hid q1
    have R2 := Lib.hid q2
    clear q0 q1 q2
    go_upto_region 7 with fail
    generalize hW : World.setCell _ ⟨w.heap.size + 1 + 1, 2, none⟩ (.int .i64 n) = w3
    have hk3 : Keeps NoBlock w w3 := by
      rw [← hW]
      exact ((((((hk1.trans hk2 (fun _ _ h => h)).setCell (.inr (by simp only []; omega)) _).setCell (.inr (by simp only []; omega)) _).setCell (.inr (by simp only []; omega)) _).setCell (.inr (by simp only []; omega)) _).setCell (.inr (by simp only []; omega)) _).setCell (.inr (by simp only []; omega)) _
    have q0 : w3.heap[w.heap.size]? = some (.cells #[.slice fa nf fc, .int .i64 W, .int .i64 M, .int .i64 C, .slice sa ns sc, .slice pa np pc, .int .i64 B, .int .i64 R] 25 (0, 0)) := by rw [← hW]; simp only [blk_ne (show w.heap.size ≠ w.heap.size + 1 + 1 by omega)]; exact R0.out
    have q1 : w3.heap[w.heap.size + 1]? = some (.cells #[.int .i64 op, .int .i64 xa, .int .i64 xb, .int .i64 xc, .int .u64 xn] 34 (0, 0)) := by rw [← hW]; simp only [blk_ne (show w.heap.size + 1 ≠ w.heap.size + 1 + 1 by omega)]; exact R1.out
    have q2 : w3.heap[w.heap.size + 1 + 1]? = some (.cells #[.int .i64 op, .int .i64 xa, .int .i64 n, .int .i64 xc, .int .u64 xn] 34 (0, 0)) := by rw [← hW]; exact block_set (block_set (block_set (block_set (block_set (block_set R2.out _) _) _) _) _) _
    clear hW i0 i1 i2 i3 i4 a0 a1 a2 a3 a4 z0 z1 z2 z3 z4 l2
    have p0 : w3.cell? ⟨w.heap.size, 0, none⟩ = some (.slice fa nf fc) := cell_of_block (o := 0) q0 rfl
    have p1 : w3.cell? ⟨w.heap.size, 1, none⟩ = some (.int .i64 W) := cell_of_block (o := 1) q0 rfl
    have p2 : w3.cell? ⟨w.heap.size, 2, none⟩ = some (.int .i64 M) := cell_of_block (o := 2) q0 rfl
    have p3 : w3.cell? ⟨w.heap.size, 3, none⟩ = some (.int .i64 C) := cell_of_block (o := 3) q0 rfl
    have p4 : w3.cell? ⟨w.heap.size, 4, none⟩ = some (.slice sa ns sc) := cell_of_block (o := 4) q0 rfl
    have p5 : w3.cell? ⟨w.heap.size, 5, none⟩ = some (.slice pa np pc) := cell_of_block (o := 5) q0 rfl
    have p6 : w3.cell? ⟨w.heap.size, 6, none⟩ = some (.int .i64 B) := cell_of_block (o := 6) q0 rfl
    have p7 : w3.cell? ⟨w.heap.size, 7, none⟩ = some (.int .i64 R) := cell_of_block (o := 7) q0 rfl
    have a0 : w3.cell? ⟨w.heap.size + 1 + 1, 0, none⟩ = some (.int .i64 op) := cell_of_block (o := 0) q2 rfl
    have a1 : w3.cell? ⟨w.heap.size + 1 + 1, 1, none⟩ = some (.int .i64 xa) := cell_of_block (o := 1) q2 rfl
    have a2 : w3.cell? ⟨w.heap.size + 1 + 1, 2, none⟩ = some (.int .i64 n) := cell_of_block (o := 2) q2 rfl
    have a3 : w3.cell? ⟨w.heap.size + 1 + 1, 3, none⟩ = some (.int .i64 xc) := cell_of_block (o := 3) q2 rfl
    have a4 : w3.cell? ⟨w.heap.size + 1 + 1, 4, none⟩ = some (.int .u64 xn) := cell_of_block (o := 4) q2 rfl
    have l2 := lt_of_block q2
    have S0 := Lib.hid q0
    have S1 := Lib.hid q1
    clear q0 q1 q2
    go_cut [35] from 25 to 34 (fun v wx => v = .bool false ∧ Keeps NoBlock w3 wx)
    case first =>
      have h3 : (n < 0) ∨ (7 < n) ∨ (0 ≤ n ∧ n ≤ 7) := by omega
      rcases h3 with h3 | h3 | ⟨h3, h4⟩
      · go_wp2_with fail
        refine (sound_at _ _ (op, xa, n, xc, xn) w _ HA.out Hx.out).mono ?_
        rintro e w2 ⟨rfl, hk2⟩
        rw [sound_no (.inr (.inr (.inl h3)))]
        go_wp2_with fail
        go_meet
        case rel => exact ⟨rfl, hk2⟩
      · go_wp2_with fail
        refine (sound_at _ _ (op, xa, n, xc, xn) w _ HA.out Hx.out).mono ?_
        rintro e w2 ⟨rfl, hk2⟩
        rw [sound_no (.inr (.inr (.inr h3)))]
        go_wp2_with fail
        go_meet
        case rel => exact ⟨rfl, hk2⟩
      · go_wp2_with fail
        go_meet
        case rel => exact ⟨rfl, Keeps.refl _ _⟩
    case rest =>
      obtain ⟨rfl, hk4⟩ := hcut
      clear p0 p1 p2 p3 p4 p5 p6 p7 a0 a1 a2 a3 a4 l2
      go_wp2_with fail
      refine (awake_calls _).mono ?_
      rintro e w5 ⟨rfl, hk5⟩
      have hk35 := hk4.trans hk5 (fun _ _ h => h)
      have hk05 := hk3.trans hk35 (fun _ _ h => h)
      have q0 := (hk35.block _ (lt_of_block S0.out) (fun h => h)).trans S0.out
      have q1 := (hk35.block _ (lt_of_block S1.out) (fun h => h)).trans S1.out
      have p0 : w5.cell? ⟨w.heap.size, 0, none⟩ = some (.slice fa nf fc) := cell_of_block (o := 0) q0 rfl
      have p1 : w5.cell? ⟨w.heap.size, 1, none⟩ = some (.int .i64 W) := cell_of_block (o := 1) q0 rfl
      have p2 : w5.cell? ⟨w.heap.size, 2, none⟩ = some (.int .i64 M) := cell_of_block (o := 2) q0 rfl
      have p3 : w5.cell? ⟨w.heap.size, 3, none⟩ = some (.int .i64 C) := cell_of_block (o := 3) q0 rfl
      have p4 : w5.cell? ⟨w.heap.size, 4, none⟩ = some (.slice sa ns sc) := cell_of_block (o := 4) q0 rfl
      have p5 : w5.cell? ⟨w.heap.size, 5, none⟩ = some (.slice pa np pc) := cell_of_block (o := 5) q0 rfl
      have p6 : w5.cell? ⟨w.heap.size, 6, none⟩ = some (.int .i64 B) := cell_of_block (o := 6) q0 rfl
      have p7 : w5.cell? ⟨w.heap.size, 7, none⟩ = some (.int .i64 R) := cell_of_block (o := 7) q0 rfl
      have i0 : w5.cell? ⟨w.heap.size + 1, 0, none⟩ = some (.int .i64 op) := cell_of_block (o := 0) q1 rfl
      have i1 : w5.cell? ⟨w.heap.size + 1, 1, none⟩ = some (.int .i64 xa) := cell_of_block (o := 1) q1 rfl
      have i2 : w5.cell? ⟨w.heap.size + 1, 2, none⟩ = some (.int .i64 xb) := cell_of_block (o := 2) q1 rfl
      have i3 : w5.cell? ⟨w.heap.size + 1, 3, none⟩ = some (.int .i64 xc) := cell_of_block (o := 3) q1 rfl
      have i4 : w5.cell? ⟨w.heap.size + 1, 4, none⟩ = some (.int .u64 xn) := cell_of_block (o := 4) q1 rfl
      have T1 := Lib.hid q1
      clear q0 q1
      go_wp2_with fail
      refine (sound_at _ _ (op, xa, xb, xc, xn) w _ HA.out Hx.out).mono ?_
      rintro e w6 ⟨rfl, hk6⟩
      have hk06 := hk05.trans hk6 (fun _ _ h => h)
      clear p0 p1 p2 p3 p4 p5 p6 p7 i0 i1 i2 i3 i4
      have q1 := (hk6.block _ (lt_of_block T1.out) (fun h => h)).trans T1.out
      have i0 : w6.cell? ⟨w.heap.size + 1, 0, none⟩ = some (.int .i64 op) := cell_of_block (o := 0) q1 rfl
      have i1 : w6.cell? ⟨w.heap.size + 1, 1, none⟩ = some (.int .i64 xa) := cell_of_block (o := 1) q1 rfl
      have i2 : w6.cell? ⟨w.heap.size + 1, 2, none⟩ = some (.int .i64 xb) := cell_of_block (o := 2) q1 rfl
      have i3 : w6.cell? ⟨w.heap.size + 1, 3, none⟩ = some (.int .i64 xc) := cell_of_block (o := 3) q1 rfl
      have i4 : w6.cell? ⟨w.heap.size + 1, 4, none⟩ = some (.int .u64 xn) := cell_of_block (o := 4) q1 rfl
      clear q1
      have hcls : (cls op < 2) ∨ (2 ≤ cls op ∧ seenB op = true) := by unfold cls seenB; simp; (repeat' split) <;> omega
      cases hso : soundP ⟨funcs, W, M, C, sems, pipes, B, R⟩ (op, xa, xb, xc, xn) with
      | false =>
        clear hso
        rcases hcls with hc | ⟨hc, hs⟩
        · go_wp2_with fail
          refine (class_calls _ _).mono ?_
          rintro e w7 ⟨rfl, rfl⟩
          go_wp2_with fail
          go_ret
          exact ryes_of rfl hk06
        · have Hs := Lib.hid hs
          clear hs
          go_wp2_with fail
          refine (class_calls _ _).mono ?_
          rintro e w7 ⟨rfl, rfl⟩
          go_wp2_with fail
          refine (seen_calls _ _).mono ?_
          rintro e w7 ⟨rfl, rfl⟩
          rw [Hs.out]
          go_wp2_with fail
          go_ret
          exact ryes_of rfl hk06
      | true =>
        obtain ⟨g1, ⟨g2, _⟩, ⟨g3, _⟩, g4⟩ := sound_says hso
        simp only [] at g1 g2 g3 g4
        clear hso
        rcases hcls with hc | ⟨hc, hs⟩
        · go_wp2_with fail
          refine (class_calls _ _).mono ?_
          rintro e w7 ⟨rfl, rfl⟩
          go_wp2_with fail
          refine (class_calls _ _).mono ?_
          rintro e w7 ⟨rfl, rfl⟩
          go_wp2_with fail
          go_ret
          exact ryes_of rfl hk06
        · have Hs := Lib.hid hs
          clear hs
          go_wp2_with fail
          refine (class_calls _ _).mono ?_
          rintro e w7 ⟨rfl, rfl⟩
          go_wp2_with fail
          refine (class_calls _ _).mono ?_
          rintro e w7 ⟨rfl, rfl⟩
          go_wp2_with fail
          refine (seen_calls _ _).mono ?_
          rintro e w7 ⟨rfl, rfl⟩
          rw [Hs.out]
          go_wp2_with fail
          go_ret
          exact ryes_of rfl hk06

theorem regs_row (w : World) (v0 : Value) (p : Pg) (h0 : ProgAt w v0 p) (v1 : Value) (x : In5) (h1 : InstrAt v1 x) (n : Int) (_hn : (Lit.int .i64 n).wf = true) : Calls Try.prog 6 #[v0, v1, .int .i64 n] w fun e w' => e = .returned (.bool true) ∧ Below w.heap.size w w' := by
  obtain ⟨rfl, hx⟩ := h1
  exact regs_any w v0 p h0 x hx n
end Go.Proofs.Ytlnfjjbfdbcgbaa
