/- FrameStays: what a plain instruction does not name stays as it was; and it does the same, once and again. -/
import Derived.Test.YtlnoejmckpimnaaFrQ
import Derived.Test.YtlnoejmckpimnaaRef02w
namespace Go.Proofs.Ytlnoejmckpimnaa
open Go.RowKit Ieee
namespace Fr

theorem list8 {rs : List Int} (h : rs.length = 8) : ∃ r0 r1 r2 r3 r4 r5 r6 r7, rs = [r0, r1, r2, r3, r4, r5, r6, r7] := by
  match rs, h with
  | [r0, r1, r2, r3, r4, r5, r6, r7], _ => exact ⟨r0, r1, r2, r3, r4, r5, r6, r7, rfl⟩

theorem reads_cells {w : World} {g n : Nat} {ms : List Int} (hl : ms.length = n) (h : w.heap[g]? = some (.cells (mC ms) 26 (0, 0))) : ReadsI .u64 w (.slice (some ⟨g, 0, none⟩) n n) ms :=
  ⟨_, g, 0, n, by rw [hl], fun _ => ⟨rfl, lt_of_block h⟩, fun j x hx => by
    rw [Nat.zero_add]
    exact cell_of_block (o := j) h (by unfold mC; rw [List.getElem?_toArray, List.getElem?_map, hx]; rfl)⟩

theorem reads_nil (w : World) : ReadsI .u64 w (.slice none 0 0) [] := ⟨none, 0, 0, 0, rfl, fun h => absurd h (by simp), fun j x hx => by simp at hx⟩

set_option maxRecDepth 100000 in
set_option maxHeartbeats 4000000 in
theorem stays_err (f : Frm) (i : In5) (A : Option Addr) (n c : Nat) (ms : List Int) (w : World) (hrl : f.rs.length = 8) (k : Int) (hr : plainF f i ms = .error k) (hk : (k != 0) = true) (hn : n ≤ 200)
    (hpl : Hid (∀ W, Keeps NoBlock w W → n ≤ 200 → Calls Try.prog 15 #[frmV f, insV i, .slice A n c] W (PlainPost W (plainF f i ms)))) :
    Calls Try.prog 6 #[frmV f, insV i, .slice A n c] w fun e w' => e = .returned (.bool true) ∧ Below w.heap.size w w' := by
  obtain ⟨F, P, rs⟩ := f
  simp only [] at hrl
  obtain ⟨r0, r1, r2, r3, r4, r5, r6, r7, rfl⟩ := list8 hrl
  obtain ⟨op, a, b1, c0, N⟩ := i
  unfold frmV insV at hpl ⊢
  simp only [List.map_cons, List.map_nil] at hpl ⊢
  unfold rv at hpl ⊢
  have hg : decide ((200 : Int) < (n : Int)) = false := by simp; omega
  go_enter Try.func6, Try.ntmps6
  go_wp2_with fail
  generalize hW : World.alloc (World.alloc w _) _ = W
  have Kw : Hid (Keeps NoBlock w W) := by
    show Keeps _ _ _
    rw [← hW]
    exact ((Keeps.refl NoBlock w).alloc _).alloc _
  have Bf : Hid (W.heap[w.heap.size]? = some (.cells #[.int .i64 F, .int .i64 P, .int .u64 r0, .int .u64 r1, .int .u64 r2, .int .u64 r3, .int .u64 r4, .int .u64 r5, .int .u64 r6, .int .u64 r7] 29 (0, 0))) := by show _ = _; rw [← hW]; exact block_alloc_old (block_alloc_new _ _)
  have Bi : Hid (W.heap[w.heap.size + 1]? = some (.cells #[.int .i64 op, .int .i64 a, .int .i64 b1, .int .i64 c0, .int .u64 N] 31 (0, 0))) := by show _ = _; rw [← hW]; exact blk_new (by simp)
  clear hW
  refine (hpl.out W Kw.out (by omega)).mono ?_
  clear hg
  rintro e w1 ⟨k1, hres⟩
  have Bf1 := Lib.hid ((k1.block _ (lt_of_block Bf.out) (fun h => h)).trans Bf.out)
  have Bi1 := Lib.hid ((k1.block _ (lt_of_block Bi.out) (fun h => h)).trans Bi.out)
  have K1 := Lib.hid (Kw.out.trans k1 (fun _ _ h => h))
  clear k1
  rw [hr] at hres
  have he2 : e = .returned (.tuple #[.agg #[.int .i64 0, .int .i64 0, .int .u64 0, .int .u64 0, .int .u64 0, .int .u64 0, .int .u64 0, .int .u64 0, .int .u64 0, .int .u64 0], .slice none 0 0, .int .i64 k]) := hres
  subst he2
  clear hres
  go_upto_region 4 with fail
  generalize hW : World.alloc w1 _ = W2
  have K2 : Hid (Keeps NoBlock w W2) := by show Keeps _ _ _; rw [← hW]; exact K1.out.alloc _
  have K12 : Hid (Keeps NoBlock w1 W2) := by show Keeps _ _ _; rw [← hW]; exact (Keeps.refl _ _).alloc _
  have Bf2 : Hid (W2.heap[w.heap.size]? = some (.cells #[.int .i64 F, .int .i64 P, .int .u64 r0, .int .u64 r1, .int .u64 r2, .int .u64 r3, .int .u64 r4, .int .u64 r5, .int .u64 r6, .int .u64 r7] 29 (0, 0))) := by show _ = _; rw [← hW]; exact block_alloc_old Bf1.out
  have Bi2 : Hid (W2.heap[w.heap.size + 1]? = some (.cells #[.int .i64 op, .int .i64 a, .int .i64 b1, .int .i64 c0, .int .u64 N] 31 (0, 0))) := by show _ = _; rw [← hW]; exact block_alloc_old Bi1.out
  have Bg2 : Hid (W2.heap[w1.heap.size]? = some (.cells #[.int .i64 0, .int .i64 0, .int .u64 0, .int .u64 0, .int .u64 0, .int .u64 0, .int .u64 0, .int .u64 0, .int .u64 0, .int .u64 0] 29 (0, 0))) := by show _ = _; rw [← hW]; exact block_alloc_new _ _
  clear hW
  have i0 : W2.cell? ⟨w.heap.size + 1, 0, none⟩ = some (.int .i64 op) := cell_of_block (o := 0) Bi2.out rfl
  have i1 : W2.cell? ⟨w.heap.size + 1, 1, none⟩ = some (.int .i64 a) := cell_of_block (o := 1) Bi2.out rfl
  have i2 : W2.cell? ⟨w.heap.size + 1, 2, none⟩ = some (.int .i64 b1) := cell_of_block (o := 2) Bi2.out rfl
  have i3 : W2.cell? ⟨w.heap.size + 1, 3, none⟩ = some (.int .i64 c0) := cell_of_block (o := 3) Bi2.out rfl
  have i4 : W2.cell? ⟨w.heap.size + 1, 4, none⟩ = some (.int .u64 N) := cell_of_block (o := 4) Bi2.out rfl
  have x0 : W2.cell? ⟨w.heap.size, 0, none⟩ = some (.int .i64 F) := cell_of_block (o := 0) Bf2.out rfl
  have x1 : W2.cell? ⟨w.heap.size, 1, none⟩ = some (.int .i64 P) := cell_of_block (o := 1) Bf2.out rfl
  have x2 : W2.cell? ⟨w.heap.size, 2, none⟩ = some (.int .u64 r0) := cell_of_block (o := 2) Bf2.out rfl
  have x3 : W2.cell? ⟨w.heap.size, 3, none⟩ = some (.int .u64 r1) := cell_of_block (o := 3) Bf2.out rfl
  have x4 : W2.cell? ⟨w.heap.size, 4, none⟩ = some (.int .u64 r2) := cell_of_block (o := 4) Bf2.out rfl
  have x5 : W2.cell? ⟨w.heap.size, 5, none⟩ = some (.int .u64 r3) := cell_of_block (o := 5) Bf2.out rfl
  have x6 : W2.cell? ⟨w.heap.size, 6, none⟩ = some (.int .u64 r4) := cell_of_block (o := 6) Bf2.out rfl
  have x7 : W2.cell? ⟨w.heap.size, 7, none⟩ = some (.int .u64 r5) := cell_of_block (o := 7) Bf2.out rfl
  have x8 : W2.cell? ⟨w.heap.size, 8, none⟩ = some (.int .u64 r6) := cell_of_block (o := 8) Bf2.out rfl
  have x9 : W2.cell? ⟨w.heap.size, 9, none⟩ = some (.int .u64 r7) := cell_of_block (o := 9) Bf2.out rfl
  go_wp2_with fail
  clear i0 i1 i2 i3 i4 x0 x1 x2 x3 x4 x5 x6 x7 x8 x9
  refine (hpl.out W2 K2.out (by omega)).mono ?_
  rintro e w3 ⟨k3, hres2⟩
  rw [hr] at hres2
  have K3 := Lib.hid (K2.out.trans k3 (fun _ _ h => h))
  have K13 := Lib.hid (K12.out.trans k3 (fun _ _ h => h))
  have Bf3 := Lib.hid ((k3.block _ (lt_of_block Bf2.out) (fun h => h)).trans Bf2.out)
  have Bi3 := Lib.hid ((k3.block _ (lt_of_block Bi2.out) (fun h => h)).trans Bi2.out)
  have Bg3 := Lib.hid ((k3.block _ (lt_of_block Bg2.out) (fun h => h)).trans Bg2.out)
  clear k3 K12 hpl Bf2 Bi2 Bg2 Bf1 Bi1
  have he2 : e = .returned (.tuple #[.agg #[.int .i64 0, .int .i64 0, .int .u64 0, .int .u64 0, .int .u64 0, .int .u64 0, .int .u64 0, .int .u64 0, .int .u64 0, .int .u64 0], .slice none 0 0, .int .i64 k]) := hres2
  subst he2
  clear hres2 hr
  go_upto_region 5 with fail
  generalize hW : World.alloc w3 _ = W4
  have K4 : Hid (Keeps NoBlock w W4) := by show Keeps _ _ _; rw [← hW]; exact K3.out.alloc _
  have K14 : Hid (Keeps NoBlock w1 W4) := by show Keeps _ _ _; rw [← hW]; exact K13.out.alloc _
  have K34 : Hid (Keeps NoBlock w3 W4) := by show Keeps _ _ _; rw [← hW]; exact (Keeps.refl _ _).alloc _
  have Bf4 : Hid (W4.heap[w.heap.size]? = some (.cells #[.int .i64 F, .int .i64 P, .int .u64 r0, .int .u64 r1, .int .u64 r2, .int .u64 r3, .int .u64 r4, .int .u64 r5, .int .u64 r6, .int .u64 r7] 29 (0, 0))) := by show _ = _; rw [← hW]; exact block_alloc_old Bf3.out
  have Bi4 : Hid (W4.heap[w.heap.size + 1]? = some (.cells #[.int .i64 op, .int .i64 a, .int .i64 b1, .int .i64 c0, .int .u64 N] 31 (0, 0))) := by show _ = _; rw [← hW]; exact block_alloc_old Bi3.out
  have Bg4 : Hid (W4.heap[w1.heap.size]? = some (.cells #[.int .i64 0, .int .i64 0, .int .u64 0, .int .u64 0, .int .u64 0, .int .u64 0, .int .u64 0, .int .u64 0, .int .u64 0, .int .u64 0] 29 (0, 0))) := by show _ = _; rw [← hW]; exact block_alloc_old Bg3.out
  have Bh4 : Hid (W4.heap[w3.heap.size]? = some (.cells #[.int .i64 0, .int .i64 0, .int .u64 0, .int .u64 0, .int .u64 0, .int .u64 0, .int .u64 0, .int .u64 0, .int .u64 0, .int .u64 0] 29 (0, 0))) := by show _ = _; rw [← hW]; exact block_alloc_new _ _
  clear hW
  have x0 : W4.cell? ⟨w1.heap.size, 0, none⟩ = some (.int .i64 0) := cell_of_block (o := 0) Bg4.out rfl
  have x1 : W4.cell? ⟨w1.heap.size, 1, none⟩ = some (.int .i64 0) := cell_of_block (o := 1) Bg4.out rfl
  have x2 : W4.cell? ⟨w1.heap.size, 2, none⟩ = some (.int .u64 0) := cell_of_block (o := 2) Bg4.out rfl
  have x3 : W4.cell? ⟨w1.heap.size, 3, none⟩ = some (.int .u64 0) := cell_of_block (o := 3) Bg4.out rfl
  have x4 : W4.cell? ⟨w1.heap.size, 4, none⟩ = some (.int .u64 0) := cell_of_block (o := 4) Bg4.out rfl
  have x5 : W4.cell? ⟨w1.heap.size, 5, none⟩ = some (.int .u64 0) := cell_of_block (o := 5) Bg4.out rfl
  have x6 : W4.cell? ⟨w1.heap.size, 6, none⟩ = some (.int .u64 0) := cell_of_block (o := 6) Bg4.out rfl
  have x7 : W4.cell? ⟨w1.heap.size, 7, none⟩ = some (.int .u64 0) := cell_of_block (o := 7) Bg4.out rfl
  have x8 : W4.cell? ⟨w1.heap.size, 8, none⟩ = some (.int .u64 0) := cell_of_block (o := 8) Bg4.out rfl
  have x9 : W4.cell? ⟨w1.heap.size, 9, none⟩ = some (.int .u64 0) := cell_of_block (o := 9) Bg4.out rfl
  have y0 : W4.cell? ⟨w3.heap.size, 0, none⟩ = some (.int .i64 0) := cell_of_block (o := 0) Bh4.out rfl
  have y1 : W4.cell? ⟨w3.heap.size, 1, none⟩ = some (.int .i64 0) := cell_of_block (o := 1) Bh4.out rfl
  have y2 : W4.cell? ⟨w3.heap.size, 2, none⟩ = some (.int .u64 0) := cell_of_block (o := 2) Bh4.out rfl
  have y3 : W4.cell? ⟨w3.heap.size, 3, none⟩ = some (.int .u64 0) := cell_of_block (o := 3) Bh4.out rfl
  have y4 : W4.cell? ⟨w3.heap.size, 4, none⟩ = some (.int .u64 0) := cell_of_block (o := 4) Bh4.out rfl
  have y5 : W4.cell? ⟨w3.heap.size, 5, none⟩ = some (.int .u64 0) := cell_of_block (o := 5) Bh4.out rfl
  have y6 : W4.cell? ⟨w3.heap.size, 6, none⟩ = some (.int .u64 0) := cell_of_block (o := 6) Bh4.out rfl
  have y7 : W4.cell? ⟨w3.heap.size, 7, none⟩ = some (.int .u64 0) := cell_of_block (o := 7) Bh4.out rfl
  have y8 : W4.cell? ⟨w3.heap.size, 8, none⟩ = some (.int .u64 0) := cell_of_block (o := 8) Bh4.out rfl
  have y9 : W4.cell? ⟨w3.heap.size, 9, none⟩ = some (.int .u64 0) := cell_of_block (o := 9) Bh4.out rfl
  have heq := fun w => equalFrm 0 0 0 0 0 0 0 0 0 0 w
  have hgf := guardFrm
  go_wp2_with fail
  refine (words_calls _ _ [] [] _ (reads_nil _) (reads_nil _) (by decide) (by decide)).mono ?_
  rintro e w5 ⟨rfl, k5⟩
  rw [decide_eq_true rfl]
  go_wp2_with fail
  refine (awake03_calls _).mono ?_
  rintro e w6 ⟨rfl, k6⟩
  go_wp2_with fail
  go_ret
  exact ⟨rfl, ((K4.out.trans k5 (fun _ _ h => h)).trans k6 (fun _ _ h => h)).below (Nat.le_refl _) (fun _ h => h.elim)⟩

theorem stays_plain {F P op a b1 c0 N : Int} {r0 r1 r2 r3 r4 r5 r6 r7 F2 P2 u0 u1 u2 u3 u4 u5 u6 u7 : Int} {ms ms2 : List Int} (hs : PlainSays ⟨F, P, [r0, r1, r2, r3, r4, r5, r6, r7]⟩ (op, a, b1, c0, N) ms ⟨F2, P2, [u0, u1, u2, u3, u4, u5, u6, u7]⟩ ms2) :
    (∃ j : Nat, ∀ k, k ≠ j → ms2[k]? = ms[k]?) ∧ (op ≠ 19 → ms2 = ms) := by
  rcases hs.mem with h | ⟨h, j, x, hx⟩
  · exact ⟨⟨0, fun k _ => by rw [h]⟩, fun _ => h⟩
  · exact ⟨⟨j, fun k hk => by rw [hx, List.getElem?_set_ne (Ne.symm hk)]⟩, fun h' => absurd h h'⟩

theorem eight_cells {w : World} {d : Nat} {F P r0 r1 r2 r3 r4 r5 r6 r7 : Int} {t : TypeId} (h : w.heap[d]? = some (.cells #[.int .i64 F, .int .i64 P, .int .u64 r0, .int .u64 r1, .int .u64 r2, .int .u64 r3, .int .u64 r4, .int .u64 r5, .int .u64 r6, .int .u64 r7] t (0, 0))) {k : Nat} {x : Int} (hx : [r0, r1, r2, r3, r4, r5, r6, r7][k]? = some x) : w.cell? ⟨d, 2 + k, none⟩ = some (.int .u64 x) :=
  cell_of_block (o := 2 + k) h (by
    have hl : k < 8 := (List.getElem?_eq_some_iff.1 hx).1
    match k, hl with
    | 0, _ | 1, _ | 2, _ | 3, _ | 4, _ | 5, _ | 6, _ | 7, _ => injection hx with hx; subst hx; rfl)

end Fr
end Go.Proofs.Ytlnoejmckpimnaa
