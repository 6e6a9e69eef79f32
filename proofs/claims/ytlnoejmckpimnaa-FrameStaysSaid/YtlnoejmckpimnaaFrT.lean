/- FrameStays: where the instruction is done. -/
import Derived.Test.YtlnoejmckpimnaaFrS
namespace Go.Proofs.Ytlnoejmckpimnaa
open Go.RowKit Ieee
namespace Fr

set_option maxRecDepth 100000 in
set_option maxHeartbeats 4000000 in
theorem stays_ok (f : Frm) (i : In5) (A : Option Addr) (b off n c : Nat) (ms : List Int) (w : World) (hrl : f.rs.length = 8) (f2 : Frm) (ms2 : List Int) (hr : plainF f i ms = .ok (f2, ms2)) (hn : n ≤ 200) (hml : ms.length = n)
    (hA : Hid (0 < n → A = some ⟨b, off, none⟩)) (hm : Hid (∀ W, Keeps NoBlock w W → ∀ (j : Nat) (x : Int), ms[j]? = some x → W.cell? ⟨b, off + j, none⟩ = some (rv x)))
    (hpl : Hid (∀ W, Keeps NoBlock w W → n ≤ 200 → Calls Try.prog 15 #[frmV f, insV i, .slice A n c] W (PlainPost W (plainF f i ms)))) :
    Calls Try.prog 6 #[frmV f, insV i, .slice A n c] w fun e w' => e = .returned (.bool true) ∧ Below w.heap.size w w' := by
  have hs := plain_says hr
  obtain ⟨F, P, rs⟩ := f
  simp only [] at hrl
  obtain ⟨r0, r1, r2, r3, r4, r5, r6, r7, rfl⟩ := list8 hrl
  obtain ⟨op, a, b1, c0, N⟩ := i
  unfold frmV insV at hpl ⊢
  simp only [List.map_cons, List.map_nil] at hpl ⊢
  unfold rv at hpl ⊢
  obtain ⟨F2, P2, rs2⟩ := f2
  have hrl2 := hs.rl
  simp only [List.length_cons, List.length_nil] at hrl2
  have hF := hs.func
  simp only [] at hF
  obtain rfl : F = F2 := hF.symm
  obtain ⟨q0, q1, q2, q3, q4, q5, q6, q7, rfl⟩ := list8 hrl2
  have hml2 : Hid (ms2.length = n) := hs.len.trans hml
  have hml := Lib.hid hml
  have hg : decide ((200 : Int) < (n : Int)) = false := by simp; omega
  clear hrl2
  have Hs := Lib.hid hs
  obtain ⟨⟨jj, hjj⟩, hpl19⟩ := stays_plain hs
  have Hjj := Lib.hid hjj
  have Hpl19 := Lib.hid hpl19
  clear hjj hpl19
  clear hs
  go_enter Try.func6, Try.ntmps6
  go_wp2_with fail
  generalize hW : World.alloc (World.alloc w _) _ = W
  have Kw : Hid (Keeps NoBlock w W) := by
    show Keeps _ _ _
    rw [← hW]
    exact ((Keeps.refl NoBlock w).alloc _).alloc _
  have Bf : Hid (W.heap[w.heap.size]? = some (.cells #[.int .i64 F, .int .i64 P, .int .u64 r0, .int .u64 r1, .int .u64 r2, .int .u64 r3, .int .u64 r4, .int .u64 r5, .int .u64 r6, .int .u64 r7] 29 (0, 0))) := by show _ = _; rw [← hW]; exact block_alloc_old (block_alloc_new _ _)
  have Bi : Hid (W.heap[w.heap.size + 1]? = some (.cells #[.int .i64 op, .int .i64 a, .int .i64 b1, .int .i64 c0, .int .u64 N] 31 (0, 0))) := by show _ = _; rw [← hW]; exact blk_new (by simp)
  clear hW
  refine (hpl.out W Kw.out (by omega)).mono ?_
  clear hg
  rintro e w1 ⟨k1, hres⟩
  have Bf1 := Lib.hid ((k1.block _ (lt_of_block Bf.out) (fun h => h)).trans Bf.out)
  have Bi1 := Lib.hid ((k1.block _ (lt_of_block Bi.out) (fun h => h)).trans Bi.out)
  have K1 := Lib.hid (Kw.out.trans k1 (fun _ _ h => h))
  clear k1
  rw [hr] at hres
  obtain ⟨g1, he, _hg1, hb1⟩ := hres
  have hb1 := Lib.hid hb1
  have he2 : e = .returned (.tuple #[.agg #[.int .i64 F, .int .i64 P2, .int .u64 q0, .int .u64 q1, .int .u64 q2, .int .u64 q3, .int .u64 q4, .int .u64 q5, .int .u64 q6, .int .u64 q7], .slice (some ⟨g1, 0, none⟩) n n, .int .i64 0]) := by rw [← hml2.out]; exact he
  subst he2
  clear he _hg1
  go_upto_region 4 with fail
  generalize hW : World.alloc w1 _ = W2
  have K2 : Hid (Keeps NoBlock w W2) := by show Keeps _ _ _; rw [← hW]; exact K1.out.alloc _
  have K12 : Hid (Keeps NoBlock w1 W2) := by show Keeps _ _ _; rw [← hW]; exact (Keeps.refl _ _).alloc _
  have Bf2 : Hid (W2.heap[w.heap.size]? = some (.cells #[.int .i64 F, .int .i64 P, .int .u64 r0, .int .u64 r1, .int .u64 r2, .int .u64 r3, .int .u64 r4, .int .u64 r5, .int .u64 r6, .int .u64 r7] 29 (0, 0))) := by show _ = _; rw [← hW]; exact block_alloc_old Bf1.out
  have Bi2 : Hid (W2.heap[w.heap.size + 1]? = some (.cells #[.int .i64 op, .int .i64 a, .int .i64 b1, .int .i64 c0, .int .u64 N] 31 (0, 0))) := by show _ = _; rw [← hW]; exact block_alloc_old Bi1.out
  have Bg2 : Hid (W2.heap[w1.heap.size]? = some (.cells #[.int .i64 F, .int .i64 P2, .int .u64 q0, .int .u64 q1, .int .u64 q2, .int .u64 q3, .int .u64 q4, .int .u64 q5, .int .u64 q6, .int .u64 q7] 29 (0, 0))) := by show _ = _; rw [← hW]; exact block_alloc_new _ _
  clear hW
  have i0 : W2.cell? ⟨w.heap.size + 1, 0, none⟩ = some (.int .i64 op) := cell_of_block (o := 0) Bi2.out rfl
  have i1 : W2.cell? ⟨w.heap.size + 1, 1, none⟩ = some (.int .i64 a) := cell_of_block (o := 1) Bi2.out rfl
  have i2 : W2.cell? ⟨w.heap.size + 1, 2, none⟩ = some (.int .i64 b1) := cell_of_block (o := 2) Bi2.out rfl
  have i3 : W2.cell? ⟨w.heap.size + 1, 3, none⟩ = some (.int .i64 c0) := cell_of_block (o := 3) Bi2.out rfl
  have i4 : W2.cell? ⟨w.heap.size + 1, 4, none⟩ = some (.int .u64 N) := cell_of_block (o := 4) Bi2.out rfl
  have x0 : W2.cell? ⟨w.heap.size, 0, none⟩ = some (.int .i64 F) := cell_of_block (o := 0) Bf2.out rfl
  have x1 : W2.cell? ⟨w.heap.size, 1, none⟩ = some (.int .i64 P) := cell_of_block (o := 1) Bf2.out rfl
  have x2 : W2.cell? ⟨w.heap.size, 2, none⟩ = some (.int .u64 r0) := cell_of_block (o := 2) Bf2.out rfl
  have x3 : W2.cell? ⟨w.heap.size, 3, none⟩ = some (.int .u64 r1) := cell_of_block (o := 3) Bf2.out rfl
  have x4 : W2.cell? ⟨w.heap.size, 4, none⟩ = some (.int .u64 r2) := cell_of_block (o := 4) Bf2.out rfl
  have x5 : W2.cell? ⟨w.heap.size, 5, none⟩ = some (.int .u64 r3) := cell_of_block (o := 5) Bf2.out rfl
  have x6 : W2.cell? ⟨w.heap.size, 6, none⟩ = some (.int .u64 r4) := cell_of_block (o := 6) Bf2.out rfl
  have x7 : W2.cell? ⟨w.heap.size, 7, none⟩ = some (.int .u64 r5) := cell_of_block (o := 7) Bf2.out rfl
  have x8 : W2.cell? ⟨w.heap.size, 8, none⟩ = some (.int .u64 r6) := cell_of_block (o := 8) Bf2.out rfl
  have x9 : W2.cell? ⟨w.heap.size, 9, none⟩ = some (.int .u64 r7) := cell_of_block (o := 9) Bf2.out rfl
  go_wp2_with fail
  clear i0 i1 i2 i3 i4 x0 x1 x2 x3 x4 x5 x6 x7 x8 x9
  refine (hpl.out W2 K2.out (by omega)).mono ?_
  rintro e w3 ⟨k3, hres2⟩
  rw [hr] at hres2
  have K3 := Lib.hid (K2.out.trans k3 (fun _ _ h => h))
  have K13 := Lib.hid (K12.out.trans k3 (fun _ _ h => h))
  have Bf3 := Lib.hid ((k3.block _ (lt_of_block Bf2.out) (fun h => h)).trans Bf2.out)
  have Bi3 := Lib.hid ((k3.block _ (lt_of_block Bi2.out) (fun h => h)).trans Bi2.out)
  have Bg3 := Lib.hid ((k3.block _ (lt_of_block Bg2.out) (fun h => h)).trans Bg2.out)
  clear k3 K12 hpl Bf2 Bi2 Bg2 Bf1 Bi1
  obtain ⟨g2, he, _hg2, hb2⟩ := hres2
  have hb2 := Lib.hid hb2
  have he2 : e = .returned (.tuple #[.agg #[.int .i64 F, .int .i64 P2, .int .u64 q0, .int .u64 q1, .int .u64 q2, .int .u64 q3, .int .u64 q4, .int .u64 q5, .int .u64 q6, .int .u64 q7], .slice (some ⟨g2, 0, none⟩) n n, .int .i64 0]) := by rw [← hml2.out]; exact he
  subst he2
  clear he _hg2 hr
  go_upto_region 5 with fail
  generalize hW : World.alloc w3 _ = W4
  have K4 : Hid (Keeps NoBlock w W4) := by show Keeps _ _ _; rw [← hW]; exact K3.out.alloc _
  have K14 : Hid (Keeps NoBlock w1 W4) := by show Keeps _ _ _; rw [← hW]; exact K13.out.alloc _
  have K34 : Hid (Keeps NoBlock w3 W4) := by show Keeps _ _ _; rw [← hW]; exact (Keeps.refl _ _).alloc _
  have Bf4 : Hid (W4.heap[w.heap.size]? = some (.cells #[.int .i64 F, .int .i64 P, .int .u64 r0, .int .u64 r1, .int .u64 r2, .int .u64 r3, .int .u64 r4, .int .u64 r5, .int .u64 r6, .int .u64 r7] 29 (0, 0))) := by show _ = _; rw [← hW]; exact block_alloc_old Bf3.out
  have Bi4 : Hid (W4.heap[w.heap.size + 1]? = some (.cells #[.int .i64 op, .int .i64 a, .int .i64 b1, .int .i64 c0, .int .u64 N] 31 (0, 0))) := by show _ = _; rw [← hW]; exact block_alloc_old Bi3.out
  have Bg4 : Hid (W4.heap[w1.heap.size]? = some (.cells #[.int .i64 F, .int .i64 P2, .int .u64 q0, .int .u64 q1, .int .u64 q2, .int .u64 q3, .int .u64 q4, .int .u64 q5, .int .u64 q6, .int .u64 q7] 29 (0, 0))) := by show _ = _; rw [← hW]; exact block_alloc_old Bg3.out
  have Bh4 : Hid (W4.heap[w3.heap.size]? = some (.cells #[.int .i64 F, .int .i64 P2, .int .u64 q0, .int .u64 q1, .int .u64 q2, .int .u64 q3, .int .u64 q4, .int .u64 q5, .int .u64 q6, .int .u64 q7] 29 (0, 0))) := by show _ = _; rw [← hW]; exact block_alloc_new _ _
  clear hW
  have x0 : W4.cell? ⟨w1.heap.size, 0, none⟩ = some (.int .i64 F) := cell_of_block (o := 0) Bg4.out rfl
  have x1 : W4.cell? ⟨w1.heap.size, 1, none⟩ = some (.int .i64 P2) := cell_of_block (o := 1) Bg4.out rfl
  have x2 : W4.cell? ⟨w1.heap.size, 2, none⟩ = some (.int .u64 q0) := cell_of_block (o := 2) Bg4.out rfl
  have x3 : W4.cell? ⟨w1.heap.size, 3, none⟩ = some (.int .u64 q1) := cell_of_block (o := 3) Bg4.out rfl
  have x4 : W4.cell? ⟨w1.heap.size, 4, none⟩ = some (.int .u64 q2) := cell_of_block (o := 4) Bg4.out rfl
  have x5 : W4.cell? ⟨w1.heap.size, 5, none⟩ = some (.int .u64 q3) := cell_of_block (o := 5) Bg4.out rfl
  have x6 : W4.cell? ⟨w1.heap.size, 6, none⟩ = some (.int .u64 q4) := cell_of_block (o := 6) Bg4.out rfl
  have x7 : W4.cell? ⟨w1.heap.size, 7, none⟩ = some (.int .u64 q5) := cell_of_block (o := 7) Bg4.out rfl
  have x8 : W4.cell? ⟨w1.heap.size, 8, none⟩ = some (.int .u64 q6) := cell_of_block (o := 8) Bg4.out rfl
  have x9 : W4.cell? ⟨w1.heap.size, 9, none⟩ = some (.int .u64 q7) := cell_of_block (o := 9) Bg4.out rfl
  have y0 : W4.cell? ⟨w3.heap.size, 0, none⟩ = some (.int .i64 F) := cell_of_block (o := 0) Bh4.out rfl
  have y1 : W4.cell? ⟨w3.heap.size, 1, none⟩ = some (.int .i64 P2) := cell_of_block (o := 1) Bh4.out rfl
  have y2 : W4.cell? ⟨w3.heap.size, 2, none⟩ = some (.int .u64 q0) := cell_of_block (o := 2) Bh4.out rfl
  have y3 : W4.cell? ⟨w3.heap.size, 3, none⟩ = some (.int .u64 q1) := cell_of_block (o := 3) Bh4.out rfl
  have y4 : W4.cell? ⟨w3.heap.size, 4, none⟩ = some (.int .u64 q2) := cell_of_block (o := 4) Bh4.out rfl
  have y5 : W4.cell? ⟨w3.heap.size, 5, none⟩ = some (.int .u64 q3) := cell_of_block (o := 5) Bh4.out rfl
  have y6 : W4.cell? ⟨w3.heap.size, 6, none⟩ = some (.int .u64 q4) := cell_of_block (o := 6) Bh4.out rfl
  have y7 : W4.cell? ⟨w3.heap.size, 7, none⟩ = some (.int .u64 q5) := cell_of_block (o := 7) Bh4.out rfl
  have y8 : W4.cell? ⟨w3.heap.size, 8, none⟩ = some (.int .u64 q6) := cell_of_block (o := 8) Bh4.out rfl
  have y9 : W4.cell? ⟨w3.heap.size, 9, none⟩ = some (.int .u64 q7) := cell_of_block (o := 9) Bh4.out rfl
  have heq := fun w => equalFrm F P2 q0 q1 q2 q3 q4 q5 q6 q7 w
  have hgf := guardFrm
  have hk1 := K14.out.block _ (lt_of_block hb1.out) (fun h => h)
  have H1 := Lib.hid (hk1.trans hb1.out)
  have H2 := Lib.hid ((K34.out.block _ (lt_of_block hb2.out) (fun h => h)).trans hb2.out)
  clear hk1 hb1 hb2 K13 K34 Bf3 Bi3 Bg3 K3 K1
  go_wp2_with fail
  refine (words_calls _ _ ms2 ms2 _ (reads_cells hml2.out H1.out) (reads_cells hml2.out H2.out) (by have := hml2.out; omega) (by have := hml2.out; omega)).mono ?_
  rintro e w5 ⟨rfl, k5⟩
  rw [decide_eq_true rfl]
  have K5 := Lib.hid (K4.out.trans k5 (fun _ _ h => h))
  have H5 := Lib.hid ((k5.block _ (lt_of_block H1.out) (fun h => h)).trans H1.out)
  have Bf5 := Lib.hid ((k5.block _ (lt_of_block Bf4.out) (fun h => h)).trans Bf4.out)
  have Bi5 := Lib.hid ((k5.block _ (lt_of_block Bi4.out) (fun h => h)).trans Bi4.out)
  have Bg5 := Lib.hid ((k5.block _ (lt_of_block Bg4.out) (fun h => h)).trans Bg4.out)
  clear k5 H1 H2 Bf4 Bi4 Bg4 Bh4 K4 K14 heq hgf x0 x1 x2 x3 x4 x5 x6 x7 x8 x9 y0 y1 y2 y3 y4 y5 y6 y7 y8 y9
  have x0 : w5.cell? ⟨w.heap.size, 0, none⟩ = some (.int .i64 F) := cell_of_block (o := 0) Bf5.out rfl
  have y0 : w5.cell? ⟨w1.heap.size, 0, none⟩ = some (.int .i64 F) := cell_of_block (o := 0) Bg5.out rfl
  go_wp2_with fail
  clear x0 y0
  go_loopw [13] (fun i wr => ∃ k : Nat, k ≤ 8 ∧ i = .int .i64 k ∧ Keeps NoBlock w5 wr) (fun i _ => 8 - (intOf i).toNat)
  case atStart => exact ⟨0, Nat.zero_le _, rfl, Keeps.refl _ _⟩
  case round =>
    obtain ⟨k, hk, rfl, hkp⟩ := hrel
    by_cases hlt : k < 8
    · have hk0 : (0 : Int) ≤ (k : Int) := by omega
      have hk8 : (k : Int) < 8 := by omega
      obtain ⟨x, hx⟩ : ∃ x, [r0, r1, r2, r3, r4, r5, r6, r7][k]? = some x := ⟨_, List.getElem?_eq_getElem (by exact hlt)⟩
      obtain ⟨y, hy⟩ : ∃ y, [q0, q1, q2, q3, q4, q5, q6, q7][k]? = some y := ⟨_, List.getElem?_eq_getElem (by exact hlt)⟩
      have cx := (hkp.cell (World.block_lt_of_cell? w5 _ (eight_cells Bf5.out hx)) (fun h => h)).trans (eight_cells Bf5.out hx)
      have cy := (hkp.cell (World.block_lt_of_cell? w5 _ (eight_cells Bg5.out hy)) (fun h => h)).trans (eight_cells Bg5.out hy)
      have ca := (hkp.cell (lt_of_block Bi5.out) (fun h => h)).trans (cell_of_block (o := 1) Bi5.out rfl)
      have Hx := Lib.hid hx
      have Hy := Lib.hid hy
      clear hx hy
      by_cases hka : (k : Int) = a
      · subst hka
        go_wp2_with fail
        go_quiet (fail)
        go_wp2_with fail
        exact ⟨⟨k + 1, by omega, by go_num, hkp.drewN _⟩, by simp [intOf]; omega⟩
      · have hxy : y = x := by
          have h := Hs.out.regs k hka
          have h2 : [q0, q1, q2, q3, q4, q5, q6, q7][k]? = [r0, r1, r2, r3, r4, r5, r6, r7][k]? := h
          rw [Hx.out, Hy.out] at h2
          injection h2
        subst hxy
        have hd : ((k : Int) != a) = true := by simp [hka]
        clear hka
        go_wp2_with fail
        go_quiet (fail)
        go_wp2_with fail
        exact ⟨⟨k + 1, by omega, by go_num, hkp.drewN _⟩, by simp [intOf]; omega⟩
    · obtain rfl : k = 8 := by omega
      go_wp2_with fail
      have Kr := Lib.hid hkp
      clear hkp
      go_loopw [14, 15] (fun v i wx => ∃ (k q : Nat), k ≤ n ∧ i = .int .i64 k ∧ v = .int .i64 q ∧ q ≤ 1 ∧ (k ≤ jj → q = 0) ∧ (op ≠ 19 → q = 0) ∧ Keeps NoBlock w5 wx) (fun _ i _ => n - (intOf i).toNat)
      case atStart => exact ⟨0, 0, Nat.zero_le _, rfl, rfl, by omega, fun _ => rfl, fun _ => rfl, Kr.out⟩
      case round =>
        obtain ⟨k, q, hk, rfl, rfl, hq1, hqj, hq19, hkp⟩ := hrel
        have Hqj := Lib.hid hqj
        have Hq19 := Lib.hid hq19
        clear hqj hq19
        by_cases hlt : k < n
        · obtain ⟨x, hx⟩ : ∃ x, ms[k]? = some x := ⟨_, List.getElem?_eq_getElem (by rw [hml.out]; exact hlt)⟩
          obtain ⟨y, hy⟩ : ∃ y, ms2[k]? = some y := ⟨_, List.getElem?_eq_getElem (by rw [hml2.out]; exact hlt)⟩
          obtain rfl := hA.out (by omega)
          have cx : wr.cell? ⟨b, off + k, none⟩ = some (.int .u64 x) := hm.out wr (K5.out.trans hkp (fun _ _ h => h)) k x hx
          have cy : wr.cell? ⟨g1, k, none⟩ = some (.int .u64 y) := (hkp.cell (lt_of_block H5.out) (fun h => h)).trans (cell_of_block (o := k) H5.out (by unfold mC; rw [List.getElem?_toArray, List.getElem?_map, hy]; rfl))
          have Hx := Lib.hid hx
          have Hy := Lib.hid hy
          clear hx hy
          by_cases hxy : y = x
          · subst hxy
            go_wp2_with fail
            go_quiet (fail)
            go_wp2_with fail
            refine ⟨⟨_, _, _, _, _, _, _, _, _, _, _, _, _, _, _, _, _, _, _, ?_, rfl⟩, ?_⟩
            · exact ⟨k + 1, q, by omega, by go_num, rfl, hq1, fun h => Hqj.out (by omega), Hq19.out, hkp.drewN _⟩
            · simp [intOf]; omega
          · have hne : (y != x) = true := by simp [hxy]
            have Hkj : Hid (k = jj) := by
              show k = jj
              refine Decidable.byContradiction fun h => hxy ?_
              have h1 := Hjj.out k h
              rw [Hx.out, Hy.out] at h1
              injection h1
            have Hop : Hid (op = 19) := by
              show op = 19
              refine Decidable.byContradiction fun h => hxy ?_
              have h1 := Hy.out
              rw [Hpl19.out h, Hx.out] at h1
              injection h1 with h1
              exact h1.symm
            clear hxy
            go_wp2_with fail
            go_quiet (fail)
            go_wp2_with fail
            refine ⟨⟨_, _, _, _, _, _, _, _, _, _, _, _, _, _, _, _, _, _, _, ?_, rfl⟩, ?_⟩
            · exact ⟨k + 1, q + 1, by omega, by go_num, by go_num, by have := Hqj.out (by have := Hkj.out; omega); omega, fun h => (by have := Hkj.out; omega), fun h => absurd Hop.out h, hkp.drewN _⟩
            · simp [intOf]; omega
        · obtain rfl : k = n := by omega
          go_wp2_with fail
          refine (awake03_calls _).mono ?_
          rintro e w6 ⟨rfl, k6⟩
          have K6 := Lib.hid ((K5.out.trans hkp (fun _ _ h => h)).trans k6 (fun _ _ h => h))
          have cop := (k6.cell (Nat.lt_of_lt_of_le (lt_of_block Bi5.out) hkp.size) (fun h => h)).trans ((hkp.cell (lt_of_block Bi5.out) (fun h => h)).trans (cell_of_block (o := 0) Bi5.out rfl))
          clear k6
          by_cases hq0 : q = 0
          · subst hq0
            go_wp2_with fail
            go_ret
            exact ⟨rfl, K6.out.below (Nat.le_refl _) (fun _ h => h.elim)⟩
          · obtain rfl : q = 1 := by omega
            have Hop : Hid (op = 19) := by
              show op = 19
              exact Decidable.byContradiction fun h => hq0 (Hq19.out h)
            have h19 := Hop.out
            clear Hop Hq19 Hpl19 hq0
            subst h19
            go_wp2_with fail
            go_ret
            exact ⟨rfl, K6.out.below (Nat.le_refl _) (fun _ h => h.elim)⟩

set_option maxRecDepth 100000 in
set_option maxHeartbeats 1000000 in
theorem stays_big (f : Frm) (i : In5) (A : Option Addr) (n c : Nat) (w : World) (hrl : f.rs.length = 8) (hn : ¬ n ≤ 200) :
    Calls Try.prog 6 #[frmV f, insV i, .slice A n c] w fun e w' => e = .returned (.bool true) ∧ Below w.heap.size w w' := by
  obtain ⟨F, P, rs⟩ := f
  simp only [] at hrl
  obtain ⟨r0, r1, r2, r3, r4, r5, r6, r7, rfl⟩ := list8 hrl
  obtain ⟨op, a, b1, c0, N⟩ := i
  unfold frmV insV
  simp only [List.map_cons, List.map_nil]
  unfold rv
  have hg : decide ((200 : Int) < (n : Int)) = true := by simp; omega
  clear hn
  go_enter Try.func6, Try.ntmps6
  go_wp2_with fail
  refine (awake03_calls _).mono ?_
  rintro e w3 ⟨rfl, k3⟩
  go_wp2_with fail
  go_ret
  exact ⟨rfl, ((((Keeps.refl NoBlock w).alloc _).alloc _).trans k3 (fun _ _ h => h)).below (Nat.le_refl _) (fun _ h => h.elim)⟩

theorem stays_calls (f : Frm) (i : In5) (A : Option Addr) (b off n c : Nat) (ms : List Int) (w : World) (hrl : f.rs.length = 8) (hrb : ∀ x ∈ f.rs, 0 ≤ x ∧ x < 18446744073709551616) (h : IntsAt .u64 w A b off n ms) :
    Calls Try.prog 6 #[frmV f, insV i, .slice A n c] w fun e w' => e = .returned (.bool true) ∧ Below w.heap.size w w' := by
  by_cases hn : n ≤ 200
  · have hpl := Lib.hid (fun W (k : Keeps NoBlock w W) (hn : n ≤ 200) => plain_calls f i A b off n c ms W hrl hrb h.addr (zs_at h k) h.length (by omega))
    cases hr : plainF f i ms with
    | error k => exact stays_err f i A n c ms w hrl k hr (by have := plain_err hr; simp; omega) hn hpl
    | ok x =>
      obtain ⟨f2, ms2⟩ := x
      exact stays_ok f i A b off n c ms w hrl f2 ms2 hr hn h.length (Lib.hid h.addr) (Lib.hid (fun W k => zs_at h k)) hpl
  · exact stays_big f i A n c w hrl hn

theorem stays_row (w : World) (v : Value) (f : Frm) (hf : FrmAt v f) (u : Value) (i : In5) (hi : InstrAt u i) (A : Option Addr) (b off len cap : Nat) (zs : List Int) (h : IntsAt .u64 w A b off len zs) (_hl : len * 8 ≤ 140737488351232) :
    Calls Try.prog 6 #[v, u, .slice A len cap] w fun e w' => e = .returned (.bool true) ∧ Below w.heap.size w w' := by
  obtain ⟨rfl, hrl, hrb⟩ := hf
  obtain ⟨rfl, _⟩ := hi
  exact stays_calls f i A b off len cap zs w hrl hrb h
end Fr
end Go.Proofs.Ytlnoejmckpimnaa
