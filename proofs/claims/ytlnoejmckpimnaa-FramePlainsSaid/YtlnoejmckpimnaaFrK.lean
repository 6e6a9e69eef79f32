/- Package frame: the instruction that comes next. -/
import Derived.Test.YtlnoejmckpimnaaFrJ
import Derived.BigQuiet
import Derived.Deep.QuietTactic
namespace Go.Proofs.Ytlnoejmckpimnaa
open Go.RowKit Ieee
namespace Fr

theorem plain_calls (f : Frm) (i : In5) (A : Option Addr) (b off n c : Nat) (ms : List Int) (w : World) (hrl : f.rs.length = 8) (hrb : ∀ x ∈ f.rs, 0 ≤ x ∧ x < 18446744073709551616)
    (hA : 0 < n → A = some ⟨b, off, none⟩) (hm : ∀ (j : Nat) (x : Int), ms[j]? = some x → w.cell? ⟨b, off + j, none⟩ = some (rv x)) (hn : ms.length = n) (hn6 : n ≤ 1000000) : Calls Try.prog 15 #[frmV f, insV i, .slice A n c] w (PlainPost w (plainF f i ms)) := by
  by_cases ho : 1 ≤ i.1 ∧ i.1 ≤ 19
  · exact plain_good f i A b off n c ms w hrl ho hrb hA hm hn hn6
  · exact plain_bad f i A n c ms w hrl ho

/-- The instruction that comes next, if there is one. -/
def nextF (p : Pg) (f : Frm) : Option In5 := if f.F < 0 then none else (p.funcs[f.F.toNat]?).bind fun l => if f.P < 0 then none else l[f.P.toNat]?

def NextPost (w : World) (r : Option In5) (e : Ending) (w' : World) : Prop := e = .returned (.tuple #[insV (r.getD (0, 0, 0, 0, 0)), .bool r.isSome]) ∧ Keeps NoBlock w w'

theorem next_keeps {w W : World} {b : Nat} (k : Keeps NoBlock w W) (zs : List Value) (hb : w.heap.size ≤ b) : Keeps NoBlock w (W.setCells b 0 zs) := Keeps.setCells (.inr hb) zs 0 W k

set_option maxRecDepth 100000 in
set_option maxHeartbeats 4000000 in
theorem next_calls (v : Value) (p : Pg) (f : Frm) (w : World) (h : ProgAt w v p) (hrl : f.rs.length = 8) : Calls Try.prog 11 #[v, frmV f] w (NextPost w (nextF p f)) := by
  obtain ⟨⟨fa, sa, pa, nf, fc, ns, sc, np, pc, fb, fo, sb, so, pb, po, rfl, hF, hS, hP, hb1, hb2, hb3⟩, hM, hC⟩ := h
  obtain ⟨funcs, Wd, M, C, sems, pipes, B, R⟩ := p
  simp only [] at hF hS hP hM hC ⊢
  have HF := Lib.hid hF
  clear hF hS hP hM hC hb2 hb3
  obtain ⟨F, P, rs⟩ := f
  simp only [] at hrl
  match rs, hrl with
  | [r0, r1, r2, r3, r4, r5, r6, r7], _ =>
    by_cases f0 : F < 0
    · have hN : Hid (nextF ⟨funcs, Wd, M, C, sems, pipes, B, R⟩ ⟨F, P, [r0, r1, r2, r3, r4, r5, r6, r7]⟩ = none) := by show _ = _; unfold nextF; rw [if_pos f0]
      unfold frmV rv
      simp only [List.map_cons, List.map_nil]
      go_enter Try.func11, Try.ntmps11
      go_wp2_with fail
      generalize hW : World.alloc (World.alloc (World.alloc w _) _) _ = W
      have KW : Hid (Keeps NoBlock w W) := by
        rw [← hW]
        exact (((Keeps.refl NoBlock w).alloc _).alloc _).alloc _
      have p0 : W.cell? ⟨w.heap.size, 0, none⟩ = some (.slice fa nf fc) := by rw [← hW]; exact cell_of_block (o := 0) (block_alloc_old (block_alloc_old (block_alloc_new _ _))) rfl
      have p1 : W.cell? ⟨w.heap.size + 1, 0, none⟩ = some (.int .i64 F) := by rw [← hW]; exact cell_of_block (o := 0) (block_alloc_old (blk_new (by simp))) rfl
      have p2 : W.cell? ⟨w.heap.size + 1, 1, none⟩ = some (.int .i64 P) := by rw [← hW]; exact cell_of_block (o := 1) (block_alloc_old (blk_new (by simp))) rfl
      have p3 : Hid (W.heap[w.heap.size + 1 + 1]? = some (.cells #[.int .i64 0, .int .i64 0, .int .i64 0, .int .i64 0, .int .u64 0] 31 (0, 0))) := by show _ = _; rw [← hW]; exact blk_new (by simp)
      clear hW
      have o0 : W.cell? ⟨w.heap.size + 1 + 1, 0, none⟩ = some (.int .i64 0) := cell_of_block (o := 0) p3.out rfl
      have g0 := frozen_of_block (o := 0) p3.out
      have o1 : W.cell? ⟨w.heap.size + 1 + 1, 1, none⟩ = some (.int .i64 0) := cell_of_block (o := 1) p3.out rfl
      have g1 := frozen_of_block (o := 1) p3.out
      have o2 : W.cell? ⟨w.heap.size + 1 + 1, 2, none⟩ = some (.int .i64 0) := cell_of_block (o := 2) p3.out rfl
      have g2 := frozen_of_block (o := 2) p3.out
      have o3 : W.cell? ⟨w.heap.size + 1 + 1, 3, none⟩ = some (.int .i64 0) := cell_of_block (o := 3) p3.out rfl
      have g3 := frozen_of_block (o := 3) p3.out
      have o4 : W.cell? ⟨w.heap.size + 1 + 1, 4, none⟩ = some (.int .u64 0) := cell_of_block (o := 4) p3.out rfl
      have g4 := frozen_of_block (o := 4) p3.out
      skip
      go_quiet (fail)
      go_wp2_with fail
      generalize hW5 : World.setCell (World.setCell (World.setCell (World.setCell (World.setCell (World.drewN W _) _ _) _ _) _ _) _ _) _ _ = W5
      have hf5 : W5.heap[w.heap.size + 1 + 1]? = some (.cells ([.int .i64 0, .int .i64 0, .int .i64 0, .int .i64 0, .int .u64 0] : List Value).toArray 31 (0, 0)) ∧ Keeps NoBlock w W5 := by
        rw [← hW5]
        exact ⟨lay_all (cur := #[.int .i64 0, .int .i64 0, .int .i64 0, .int .i64 0, .int .u64 0]) p3.out [.int .i64 0, .int .i64 0, .int .i64 0, .int .i64 0, .int .u64 0] rfl, next_keeps (KW.out.drewN _) [.int .i64 0, .int .i64 0, .int .i64 0, .int .i64 0, .int .u64 0] (by omega)⟩
      clear hW5
      obtain ⟨hf5, k5⟩ := hf5
      have x0 : W5.cell? ⟨w.heap.size + 1 + 1, 0, none⟩ = some (.int .i64 0) := cell_of_block (o := 0) hf5 rfl
      have x1 : W5.cell? ⟨w.heap.size + 1 + 1, 1, none⟩ = some (.int .i64 0) := cell_of_block (o := 1) hf5 rfl
      have x2 : W5.cell? ⟨w.heap.size + 1 + 1, 2, none⟩ = some (.int .i64 0) := cell_of_block (o := 2) hf5 rfl
      have x3 : W5.cell? ⟨w.heap.size + 1 + 1, 3, none⟩ = some (.int .i64 0) := cell_of_block (o := 3) hf5 rfl
      have x4 : W5.cell? ⟨w.heap.size + 1 + 1, 4, none⟩ = some (.int .u64 0) := cell_of_block (o := 4) hf5 rfl
      refine bodyPost_ret (v := .tuple #[insV (0, 0, 0, 0, 0), .bool false]) (by simp [results, Try.results11, go_sem, insV, x0, x1, x2, x3, x4]) rfl ?_
      exact ⟨by rw [hN.out]; rfl, k5⟩
    · by_cases f1 : (nf : Int) ≤ F
      · have hN : Hid (nextF ⟨funcs, Wd, M, C, sems, pipes, B, R⟩ ⟨F, P, [r0, r1, r2, r3, r4, r5, r6, r7]⟩ = none) := by
          show _ = _; unfold nextF; rw [if_neg f0]
          have hl : funcs[F.toNat]? = none := List.getElem?_eq_none (by rw [HF.out.length]; omega)
          show (funcs[F.toNat]?).bind _ = none
          rw [hl]; rfl
        have hd : decide (F < 0) = false := decide_eq_false f0
        clear f0
        unfold frmV rv
        simp only [List.map_cons, List.map_nil]
        go_enter Try.func11, Try.ntmps11
        go_wp2_with fail
        generalize hW : World.alloc (World.alloc (World.alloc w _) _) _ = W
        have KW : Hid (Keeps NoBlock w W) := by
          rw [← hW]
          exact (((Keeps.refl NoBlock w).alloc _).alloc _).alloc _
        have p0 : W.cell? ⟨w.heap.size, 0, none⟩ = some (.slice fa nf fc) := by rw [← hW]; exact cell_of_block (o := 0) (block_alloc_old (block_alloc_old (block_alloc_new _ _))) rfl
        have p1 : W.cell? ⟨w.heap.size + 1, 0, none⟩ = some (.int .i64 F) := by rw [← hW]; exact cell_of_block (o := 0) (block_alloc_old (blk_new (by simp))) rfl
        have p2 : W.cell? ⟨w.heap.size + 1, 1, none⟩ = some (.int .i64 P) := by rw [← hW]; exact cell_of_block (o := 1) (block_alloc_old (blk_new (by simp))) rfl
        have p3 : Hid (W.heap[w.heap.size + 1 + 1]? = some (.cells #[.int .i64 0, .int .i64 0, .int .i64 0, .int .i64 0, .int .u64 0] 31 (0, 0))) := by show _ = _; rw [← hW]; exact blk_new (by simp)
        clear hW
        have o0 : W.cell? ⟨w.heap.size + 1 + 1, 0, none⟩ = some (.int .i64 0) := cell_of_block (o := 0) p3.out rfl
        have g0 := frozen_of_block (o := 0) p3.out
        have o1 : W.cell? ⟨w.heap.size + 1 + 1, 1, none⟩ = some (.int .i64 0) := cell_of_block (o := 1) p3.out rfl
        have g1 := frozen_of_block (o := 1) p3.out
        have o2 : W.cell? ⟨w.heap.size + 1 + 1, 2, none⟩ = some (.int .i64 0) := cell_of_block (o := 2) p3.out rfl
        have g2 := frozen_of_block (o := 2) p3.out
        have o3 : W.cell? ⟨w.heap.size + 1 + 1, 3, none⟩ = some (.int .i64 0) := cell_of_block (o := 3) p3.out rfl
        have g3 := frozen_of_block (o := 3) p3.out
        have o4 : W.cell? ⟨w.heap.size + 1 + 1, 4, none⟩ = some (.int .u64 0) := cell_of_block (o := 4) p3.out rfl
        have g4 := frozen_of_block (o := 4) p3.out
        skip
        go_quiet (fail)
        go_wp2_with fail
        generalize hW5 : World.setCell (World.setCell (World.setCell (World.setCell (World.setCell (World.drewN W _) _ _) _ _) _ _) _ _) _ _ = W5
        have hf5 : W5.heap[w.heap.size + 1 + 1]? = some (.cells ([.int .i64 0, .int .i64 0, .int .i64 0, .int .i64 0, .int .u64 0] : List Value).toArray 31 (0, 0)) ∧ Keeps NoBlock w W5 := by
          rw [← hW5]
          exact ⟨lay_all (cur := #[.int .i64 0, .int .i64 0, .int .i64 0, .int .i64 0, .int .u64 0]) p3.out [.int .i64 0, .int .i64 0, .int .i64 0, .int .i64 0, .int .u64 0] rfl, next_keeps (KW.out.drewN _) [.int .i64 0, .int .i64 0, .int .i64 0, .int .i64 0, .int .u64 0] (by omega)⟩
        clear hW5
        obtain ⟨hf5, k5⟩ := hf5
        have x0 : W5.cell? ⟨w.heap.size + 1 + 1, 0, none⟩ = some (.int .i64 0) := cell_of_block (o := 0) hf5 rfl
        have x1 : W5.cell? ⟨w.heap.size + 1 + 1, 1, none⟩ = some (.int .i64 0) := cell_of_block (o := 1) hf5 rfl
        have x2 : W5.cell? ⟨w.heap.size + 1 + 1, 2, none⟩ = some (.int .i64 0) := cell_of_block (o := 2) hf5 rfl
        have x3 : W5.cell? ⟨w.heap.size + 1 + 1, 3, none⟩ = some (.int .i64 0) := cell_of_block (o := 3) hf5 rfl
        have x4 : W5.cell? ⟨w.heap.size + 1 + 1, 4, none⟩ = some (.int .u64 0) := cell_of_block (o := 4) hf5 rfl
        refine bodyPost_ret (v := .tuple #[insV (0, 0, 0, 0, 0), .bool false]) (by simp [results, Try.results11, go_sem, insV, x0, x1, x2, x3, x4]) rfl ?_
        exact ⟨by rw [hN.out]; rfl, k5⟩
      · obtain ⟨a, rfl⟩ : ∃ a : Nat, F = a := ⟨F.toNat, by omega⟩
        have ha : a < nf := by omega
        obtain ⟨l, hl⟩ : ∃ l, funcs[a]? = some l := ⟨_, List.getElem?_eq_getElem (by rw [HF.out.length]; exact ha)⟩
        obtain ⟨A1, b1, o1, c1, hca, hfl, hll⟩ := HF.out.cell a l hl
        obtain rfl := HF.out.addr (by omega)
        have hbl := World.block_lt_of_cell? w _ hca
        obtain ⟨n1, hn1⟩ : ∃ n1, Hid (l.length = n1) := ⟨_, rfl⟩
        rw [hn1.out] at hca hll
        have Hfl := Lib.hid hfl
        have Hl := Lib.hid hl
        have hi0 : (0 : Int) ≤ (a : Int) := by omega
        have hi1 : (a : Int) < (nf : Int) := by omega
        have hd1 : decide ((a : Int) < 0) = false := decide_eq_false (by omega)
        have hd2 : decide ((nf : Int) ≤ (a : Int)) = false := decide_eq_false (by omega)
        have hd3 : decide (nf ≤ a) = false := decide_eq_false (by omega)
        clear hfl hl f0 f1
        by_cases p00 : P < 0
        · have hN : Hid (nextF ⟨funcs, Wd, M, C, sems, pipes, B, R⟩ ⟨a, P, [r0, r1, r2, r3, r4, r5, r6, r7]⟩ = none) := by
            show _ = _; unfold nextF; rw [if_neg (by show ¬ (a : Int) < 0; omega), Int.toNat_natCast]
            show (funcs[a]?).bind _ = none
            rw [Hl.out]
            show (if P < 0 then none else _) = none
            rw [if_pos p00]
          unfold frmV rv
          simp only [List.map_cons, List.map_nil]
          go_enter Try.func11, Try.ntmps11
          go_wp2_with fail
          generalize hW : World.alloc (World.alloc (World.alloc w _) _) _ = W
          have KW : Hid (Keeps NoBlock w W) := by
            rw [← hW]
            exact (((Keeps.refl NoBlock w).alloc _).alloc _).alloc _
          have p0 : W.cell? ⟨w.heap.size, 0, none⟩ = some (.slice (some ⟨fb, fo, none⟩) nf fc) := by rw [← hW]; exact cell_of_block (o := 0) (block_alloc_old (block_alloc_old (block_alloc_new _ _))) rfl
          have p1 : W.cell? ⟨w.heap.size + 1, 0, none⟩ = some (.int .i64 (a : Int)) := by rw [← hW]; exact cell_of_block (o := 0) (block_alloc_old (blk_new (by simp))) rfl
          have p2 : W.cell? ⟨w.heap.size + 1, 1, none⟩ = some (.int .i64 P) := by rw [← hW]; exact cell_of_block (o := 1) (block_alloc_old (blk_new (by simp))) rfl
          have p3 : Hid (W.heap[w.heap.size + 1 + 1]? = some (.cells #[.int .i64 0, .int .i64 0, .int .i64 0, .int .i64 0, .int .u64 0] 31 (0, 0))) := by show _ = _; rw [← hW]; exact blk_new (by simp)
          clear hW
          have o0 : W.cell? ⟨w.heap.size + 1 + 1, 0, none⟩ = some (.int .i64 0) := cell_of_block (o := 0) p3.out rfl
          have g0 := frozen_of_block (o := 0) p3.out
          have o1 : W.cell? ⟨w.heap.size + 1 + 1, 1, none⟩ = some (.int .i64 0) := cell_of_block (o := 1) p3.out rfl
          have g1 := frozen_of_block (o := 1) p3.out
          have o2 : W.cell? ⟨w.heap.size + 1 + 1, 2, none⟩ = some (.int .i64 0) := cell_of_block (o := 2) p3.out rfl
          have g2 := frozen_of_block (o := 2) p3.out
          have o3 : W.cell? ⟨w.heap.size + 1 + 1, 3, none⟩ = some (.int .i64 0) := cell_of_block (o := 3) p3.out rfl
          have g3 := frozen_of_block (o := 3) p3.out
          have o4 : W.cell? ⟨w.heap.size + 1 + 1, 4, none⟩ = some (.int .u64 0) := cell_of_block (o := 4) p3.out rfl
          have g4 := frozen_of_block (o := 4) p3.out
          skip
          go_quiet (fail)
          go_wp2_with fail
          generalize hW5 : World.setCell (World.setCell (World.setCell (World.setCell (World.setCell (World.drewN W _) _ _) _ _) _ _) _ _) _ _ = W5
          have hf5 : W5.heap[w.heap.size + 1 + 1]? = some (.cells ([.int .i64 0, .int .i64 0, .int .i64 0, .int .i64 0, .int .u64 0] : List Value).toArray 31 (0, 0)) ∧ Keeps NoBlock w W5 := by
            rw [← hW5]
            exact ⟨lay_all (cur := #[.int .i64 0, .int .i64 0, .int .i64 0, .int .i64 0, .int .u64 0]) p3.out [.int .i64 0, .int .i64 0, .int .i64 0, .int .i64 0, .int .u64 0] rfl, next_keeps (KW.out.drewN _) [.int .i64 0, .int .i64 0, .int .i64 0, .int .i64 0, .int .u64 0] (by omega)⟩
          clear hW5
          obtain ⟨hf5, k5⟩ := hf5
          have x0 : W5.cell? ⟨w.heap.size + 1 + 1, 0, none⟩ = some (.int .i64 0) := cell_of_block (o := 0) hf5 rfl
          have x1 : W5.cell? ⟨w.heap.size + 1 + 1, 1, none⟩ = some (.int .i64 0) := cell_of_block (o := 1) hf5 rfl
          have x2 : W5.cell? ⟨w.heap.size + 1 + 1, 2, none⟩ = some (.int .i64 0) := cell_of_block (o := 2) hf5 rfl
          have x3 : W5.cell? ⟨w.heap.size + 1 + 1, 3, none⟩ = some (.int .i64 0) := cell_of_block (o := 3) hf5 rfl
          have x4 : W5.cell? ⟨w.heap.size + 1 + 1, 4, none⟩ = some (.int .u64 0) := cell_of_block (o := 4) hf5 rfl
          refine bodyPost_ret (v := .tuple #[insV (0, 0, 0, 0, 0), .bool false]) (by simp [results, Try.results11, go_sem, insV, x0, x1, x2, x3, x4]) rfl ?_
          exact ⟨by rw [hN.out]; rfl, k5⟩
        · have hd : decide (P < 0) = false := decide_eq_false p00
          by_cases p11 : (n1 : Int) ≤ P
          · have hN : Hid (nextF ⟨funcs, Wd, M, C, sems, pipes, B, R⟩ ⟨a, P, [r0, r1, r2, r3, r4, r5, r6, r7]⟩ = none) := by
              show _ = _; unfold nextF; rw [if_neg (by show ¬ (a : Int) < 0; omega), Int.toNat_natCast]
              show (funcs[a]?).bind _ = none
              rw [Hl.out]
              show (if P < 0 then none else _) = none
              rw [if_neg p00]
              exact List.getElem?_eq_none (by rw [hn1.out]; show n1 ≤ P.toNat; omega)
            clear p00
            unfold frmV rv
            simp only [List.map_cons, List.map_nil]
            go_enter Try.func11, Try.ntmps11
            go_wp2_with fail
            generalize hW : World.alloc (World.alloc (World.alloc w _) _) _ = W
            have KW : Hid (Keeps NoBlock w W) := by
              rw [← hW]
              exact (((Keeps.refl NoBlock w).alloc _).alloc _).alloc _
            have p0 : W.cell? ⟨w.heap.size, 0, none⟩ = some (.slice (some ⟨fb, fo, none⟩) nf fc) := by rw [← hW]; exact cell_of_block (o := 0) (block_alloc_old (block_alloc_old (block_alloc_new _ _))) rfl
            have p1 : W.cell? ⟨w.heap.size + 1, 0, none⟩ = some (.int .i64 (a : Int)) := by rw [← hW]; exact cell_of_block (o := 0) (block_alloc_old (blk_new (by simp))) rfl
            have p2 : W.cell? ⟨w.heap.size + 1, 1, none⟩ = some (.int .i64 P) := by rw [← hW]; exact cell_of_block (o := 1) (block_alloc_old (blk_new (by simp))) rfl
            have p3 : Hid (W.heap[w.heap.size + 1 + 1]? = some (.cells #[.int .i64 0, .int .i64 0, .int .i64 0, .int .i64 0, .int .u64 0] 31 (0, 0))) := by show _ = _; rw [← hW]; exact blk_new (by simp)
            clear hW
            have o0 : W.cell? ⟨w.heap.size + 1 + 1, 0, none⟩ = some (.int .i64 0) := cell_of_block (o := 0) p3.out rfl
            have g0 := frozen_of_block (o := 0) p3.out
            have o1 : W.cell? ⟨w.heap.size + 1 + 1, 1, none⟩ = some (.int .i64 0) := cell_of_block (o := 1) p3.out rfl
            have g1 := frozen_of_block (o := 1) p3.out
            have o2 : W.cell? ⟨w.heap.size + 1 + 1, 2, none⟩ = some (.int .i64 0) := cell_of_block (o := 2) p3.out rfl
            have g2 := frozen_of_block (o := 2) p3.out
            have o3 : W.cell? ⟨w.heap.size + 1 + 1, 3, none⟩ = some (.int .i64 0) := cell_of_block (o := 3) p3.out rfl
            have g3 := frozen_of_block (o := 3) p3.out
            have o4 : W.cell? ⟨w.heap.size + 1 + 1, 4, none⟩ = some (.int .u64 0) := cell_of_block (o := 4) p3.out rfl
            have g4 := frozen_of_block (o := 4) p3.out
            have hc2 := (KW.out.cell hbl (fun h => h)).trans hca
            go_quiet (fail)
            go_wp2_with fail
            generalize hW5 : World.setCell (World.setCell (World.setCell (World.setCell (World.setCell (World.drewN W _) _ _) _ _) _ _) _ _) _ _ = W5
            have hf5 : W5.heap[w.heap.size + 1 + 1]? = some (.cells ([.int .i64 0, .int .i64 0, .int .i64 0, .int .i64 0, .int .u64 0] : List Value).toArray 31 (0, 0)) ∧ Keeps NoBlock w W5 := by
              rw [← hW5]
              exact ⟨lay_all (cur := #[.int .i64 0, .int .i64 0, .int .i64 0, .int .i64 0, .int .u64 0]) p3.out [.int .i64 0, .int .i64 0, .int .i64 0, .int .i64 0, .int .u64 0] rfl, next_keeps (KW.out.drewN _) [.int .i64 0, .int .i64 0, .int .i64 0, .int .i64 0, .int .u64 0] (by omega)⟩
            clear hW5
            obtain ⟨hf5, k5⟩ := hf5
            have x0 : W5.cell? ⟨w.heap.size + 1 + 1, 0, none⟩ = some (.int .i64 0) := cell_of_block (o := 0) hf5 rfl
            have x1 : W5.cell? ⟨w.heap.size + 1 + 1, 1, none⟩ = some (.int .i64 0) := cell_of_block (o := 1) hf5 rfl
            have x2 : W5.cell? ⟨w.heap.size + 1 + 1, 2, none⟩ = some (.int .i64 0) := cell_of_block (o := 2) hf5 rfl
            have x3 : W5.cell? ⟨w.heap.size + 1 + 1, 3, none⟩ = some (.int .i64 0) := cell_of_block (o := 3) hf5 rfl
            have x4 : W5.cell? ⟨w.heap.size + 1 + 1, 4, none⟩ = some (.int .u64 0) := cell_of_block (o := 4) hf5 rfl
            refine bodyPost_ret (v := .tuple #[insV (0, 0, 0, 0, 0), .bool false]) (by simp [results, Try.results11, go_sem, insV, x0, x1, x2, x3, x4]) rfl ?_
            exact ⟨by rw [hN.out]; rfl, k5⟩
          · obtain ⟨j, rfl⟩ : ∃ j : Nat, P = j := ⟨P.toNat, by omega⟩
            have hj : j < n1 := by omega
            obtain ⟨x, hx⟩ : ∃ x, l[j]? = some x := ⟨_, List.getElem?_eq_getElem (by rw [hn1.out]; exact hj)⟩
            obtain ⟨y1, y2, y3, y4, y5⟩ := x
            have hN : Hid (nextF ⟨funcs, Wd, M, C, sems, pipes, B, R⟩ ⟨a, j, [r0, r1, r2, r3, r4, r5, r6, r7]⟩ = some (y1, y2, y3, y4, y5)) := by
              show _ = _; unfold nextF; rw [if_neg (by show ¬ (a : Int) < 0; omega), Int.toNat_natCast]
              show (funcs[a]?).bind _ = _
              rw [Hl.out]
              show (if (j : Int) < 0 then none else _) = _
              rw [if_neg (by show ¬ (j : Int) < 0; omega), Int.toNat_natCast]
              exact hx
            obtain rfl := Hfl.out.addr (by rw [hn1.out]; omega)
            have w0 := Hfl.out.cell j _ 0 _ hx rfl
            have w1 := Hfl.out.cell j _ 1 _ hx rfl
            have w2 := Hfl.out.cell j _ 2 _ hx rfl
            have w3 := Hfl.out.cell j _ 3 _ hx rfl
            have w4 := Hfl.out.cell j _ 4 _ hx rfl
            have hbw := World.block_lt_of_cell? w _ w0
            simp only [Nat.add_zero] at w0 w1 w2 w3 w4
            have W0 := Lib.hid w0
            have W1 := Lib.hid w1
            have W2 := Lib.hid w2
            have W3 := Lib.hid w3
            have W4 := Lib.hid w4
            have hj1 : (j : Int) < (n1 : Int) := by omega
            have hj0 : (0 : Int) ≤ (j : Int) := by omega
            have hd4 : decide ((n1 : Int) ≤ (j : Int)) = false := decide_eq_false (by omega)
            have hd5 : decide (n1 ≤ j) = false := decide_eq_false (by omega)
            clear p00 p11 hx w0 w1 w2 w3 w4
            unfold frmV rv
            simp only [List.map_cons, List.map_nil]
            go_enter Try.func11, Try.ntmps11
            go_wp2_with fail
            generalize hW : World.alloc (World.alloc (World.alloc w _) _) _ = W
            have KW : Hid (Keeps NoBlock w W) := by
              rw [← hW]
              exact (((Keeps.refl NoBlock w).alloc _).alloc _).alloc _
            have p0 : W.cell? ⟨w.heap.size, 0, none⟩ = some (.slice (some ⟨fb, fo, none⟩) nf fc) := by rw [← hW]; exact cell_of_block (o := 0) (block_alloc_old (block_alloc_old (block_alloc_new _ _))) rfl
            have p1 : W.cell? ⟨w.heap.size + 1, 0, none⟩ = some (.int .i64 (a : Int)) := by rw [← hW]; exact cell_of_block (o := 0) (block_alloc_old (blk_new (by simp))) rfl
            have p2 : W.cell? ⟨w.heap.size + 1, 1, none⟩ = some (.int .i64 (j : Int)) := by rw [← hW]; exact cell_of_block (o := 1) (block_alloc_old (blk_new (by simp))) rfl
            have p3 : Hid (W.heap[w.heap.size + 1 + 1]? = some (.cells #[.int .i64 0, .int .i64 0, .int .i64 0, .int .i64 0, .int .u64 0] 31 (0, 0))) := by show _ = _; rw [← hW]; exact blk_new (by simp)
            clear hW
            have o0 : W.cell? ⟨w.heap.size + 1 + 1, 0, none⟩ = some (.int .i64 0) := cell_of_block (o := 0) p3.out rfl
            have g0 := frozen_of_block (o := 0) p3.out
            have o1 : W.cell? ⟨w.heap.size + 1 + 1, 1, none⟩ = some (.int .i64 0) := cell_of_block (o := 1) p3.out rfl
            have g1 := frozen_of_block (o := 1) p3.out
            have o2 : W.cell? ⟨w.heap.size + 1 + 1, 2, none⟩ = some (.int .i64 0) := cell_of_block (o := 2) p3.out rfl
            have g2 := frozen_of_block (o := 2) p3.out
            have o3 : W.cell? ⟨w.heap.size + 1 + 1, 3, none⟩ = some (.int .i64 0) := cell_of_block (o := 3) p3.out rfl
            have g3 := frozen_of_block (o := 3) p3.out
            have o4 : W.cell? ⟨w.heap.size + 1 + 1, 4, none⟩ = some (.int .u64 0) := cell_of_block (o := 4) p3.out rfl
            have g4 := frozen_of_block (o := 4) p3.out
            have hc2 := (KW.out.cell hbl (fun h => h)).trans hca
            go_quiet (fail)
            have v0 := (KW.out.cell hbw (fun h => h)).trans W0.out
            have v1 := (KW.out.cell hbw (fun h => h)).trans W1.out
            have v2 := (KW.out.cell hbw (fun h => h)).trans W2.out
            have v3 := (KW.out.cell hbw (fun h => h)).trans W3.out
            have v4 := (KW.out.cell hbw (fun h => h)).trans W4.out
            go_wp2_with fail
            go_region
            all_goals
              go_wp2_with fail
              generalize hW5 : World.setCell (World.setCell (World.setCell (World.setCell (World.setCell (World.drewN W _) _ _) _ _) _ _) _ _) _ _ = W5
              have hf5 : W5.heap[w.heap.size + 1 + 1]? = some (.cells ([.int .i64 y1, .int .i64 y2, .int .i64 y3, .int .i64 y4, .int .u64 y5] : List Value).toArray 31 (0, 0)) ∧ Keeps NoBlock w W5 := by
                rw [← hW5]
                exact ⟨lay_all (cur := #[.int .i64 0, .int .i64 0, .int .i64 0, .int .i64 0, .int .u64 0]) p3.out [.int .i64 y1, .int .i64 y2, .int .i64 y3, .int .i64 y4, .int .u64 y5] rfl, next_keeps (KW.out.drewN _) [.int .i64 y1, .int .i64 y2, .int .i64 y3, .int .i64 y4, .int .u64 y5] (by omega)⟩
              clear hW5
              obtain ⟨hf5, k5⟩ := hf5
              have x0 : W5.cell? ⟨w.heap.size + 1 + 1, 0, none⟩ = some (.int .i64 y1) := cell_of_block (o := 0) hf5 rfl
              have x1 : W5.cell? ⟨w.heap.size + 1 + 1, 1, none⟩ = some (.int .i64 y2) := cell_of_block (o := 1) hf5 rfl
              have x2 : W5.cell? ⟨w.heap.size + 1 + 1, 2, none⟩ = some (.int .i64 y3) := cell_of_block (o := 2) hf5 rfl
              have x3 : W5.cell? ⟨w.heap.size + 1 + 1, 3, none⟩ = some (.int .i64 y4) := cell_of_block (o := 3) hf5 rfl
              have x4 : W5.cell? ⟨w.heap.size + 1 + 1, 4, none⟩ = some (.int .u64 y5) := cell_of_block (o := 4) hf5 rfl
              refine bodyPost_ret (v := .tuple #[insV (y1, y2, y3, y4, y5), .bool true]) (by simp [results, Try.results11, go_sem, insV, x0, x1, x2, x3, x4]) rfl ?_
              exact ⟨by rw [hN.out]; rfl, k5⟩
end Fr
end Go.Proofs.Ytlnoejmckpimnaa
