/- The fixed fact of the statements on inst. -/
import Derived.Test.YtlnfjjbfdbcgbaaInstE
namespace Go.Proofs.Ytlnfjjbfdbcgbaa
open Go.RowKit

def p1 : Pg := ⟨[[(1, 7, 0, 0, 9), (25, 0, 0, 0, 0)]], 0, 1, 0, [], [], 0, 0⟩
def p2 : Pg := ⟨[[(1, 7, 0, 0, 9), (25, 0, 0, 0, 0)]], 0, 0, 0, [], [], 0, 0⟩
def p0 : Pg := ⟨[], 0, 0, 0, [], [], 0, 0⟩

def cells2 : Array Value := #[.int .i64 1, .int .i64 7, .int .i64 0, .int .i64 0, .int .u64 9, .int .i64 25, .int .i64 0, .int .i64 0, .int .i64 0, .int .u64 0]

theorem intsAt_nil (k : IntKind) (w : World) : IntsAt k w none 0 0 0 [] := ⟨fun h => by omega, fun j hj => by omega, fun j hj => by omega, rfl⟩

theorem prog_mk {w : World} {g : Nat} (b1 : w.heap[g]? = some (.cells cells2 34 (0, 0))) (b2 : w.heap[g + 1]? = some (.cells #[.slice (some ⟨g, 0, none⟩) 2 2] 35 (0, 0))) (M : Int) (hM : M < 9223372036854775808) :
    ProgAt w (.agg #[.slice (some ⟨g + 1, 0, none⟩) 1 1, .int .i64 0, .int .i64 M, .int .i64 0, .slice none 0 0, .slice none 0 0, .int .i64 0, .int .i64 0]) ⟨[[(1, 7, 0, 0, 9), (25, 0, 0, 0, 0)]], 0, M, 0, [], [], 0, 0⟩ := by
  refine ⟨⟨_, _, _, _, _, _, _, _, _, g + 1, 0, 0, 0, 0, 0, rfl, ⟨fun _ => rfl, ?_, rfl⟩, intsAt_nil _ _, intsAt_nil _ _, by omega, by omega, by omega⟩, hM, by show (0 : Int) < _; decide⟩
  intro k l hk
  match k, hk with
  | 0, hk =>
    simp at hk
    subst hk
    refine ⟨some ⟨g, 0, none⟩, g, 0, 2, cell_of_block b2 rfl, ⟨fun _ => rfl, ?_, ?_, rfl⟩, by simp⟩
    · intro j x i v hj hi
      have hi5 : i < 5 := (List.getElem?_eq_some_iff.1 hi).1
      refine cell_of_block (o := 0 + j * 5 + i) b1 ?_
      match j, hj with
      | 0, hj =>
        simp at hj
        subst hj
        match i, hi with
        | 0, hi => simp [enc5] at hi; subst hi; rfl
        | 1, hi => simp [enc5] at hi; subst hi; rfl
        | 2, hi => simp [enc5] at hi; subst hi; rfl
        | 3, hi => simp [enc5] at hi; subst hi; rfl
        | 4, hi => simp [enc5] at hi; subst hi; rfl
      | 1, hj =>
        simp at hj
        subst hj
        match i, hi with
        | 0, hi => simp [enc5] at hi; subst hi; rfl
        | 1, hi => simp [enc5] at hi; subst hi; rfl
        | 2, hi => simp [enc5] at hi; subst hi; rfl
        | 3, hi => simp [enc5] at hi; subst hi; rfl
        | 4, hi => simp [enc5] at hi; subst hi; rfl
    · intro x hx
      simp at hx
      rcases hx with rfl | rfl <;> exact ⟨by decide, by decide⟩

theorem prog_nil (w : World) : ProgAt w (.agg #[.slice none 0 0, .int .i64 0, .int .i64 0, .int .i64 0, .slice none 0 0, .slice none 0 0, .int .i64 0, .int .i64 0]) p0 :=
  ⟨⟨_, _, _, _, _, _, _, _, _, 0, 0, 0, 0, 0, 0, rfl, ⟨fun h => by omega, fun k l hk => by simp [p0] at hk, rfl⟩, intsAt_nil _ _, intsAt_nil _ _, by omega, by omega, by omega⟩, by decide, by decide⟩

set_option maxRecDepth 100000 in
theorem awake_calls (w : World) : Calls Try.prog 12 #[] w (BoolPost w true) := by
  go_enter Try.func12, Try.ntmps12
  go_wp2_with fail
  generalize hW : World.alloc _ (Obj.cells #[.slice (some ⟨w.heap.size + 1, 0, none⟩) 1 1, .int .i64 0, .int .i64 0, .int .i64 0, .slice none 0 0, .slice none 0 0, .int .i64 0, .int .i64 0] 25) = W
  have hkW : Keeps NoBlock w W := by rw [← hW]; exact ((((Keeps.refl _ w).alloc _).alloc _).alloc _).alloc _
  have hsW : W.heap.size = w.heap.size + 4 := by rw [← hW]; simp
  have b1 : W.heap[w.heap.size]? = some (.cells cells2 34 (0, 0)) := by rw [← hW]; exact block_alloc_old (block_alloc_old (block_alloc_old (blk_new rfl)))
  have b2 : W.heap[w.heap.size + 1]? = some (.cells #[.slice (some ⟨w.heap.size, 0, none⟩) 2 2] 35 (0, 0)) := by rw [← hW]; exact block_alloc_old (block_alloc_old (blk_new (by simp)))
  have b3 : W.heap[w.heap.size + 1 + 1]? = some (.cells #[.slice (some ⟨w.heap.size + 1, 0, none⟩) 1 1, .int .i64 0, .int .i64 1, .int .i64 0, .slice none 0 0, .slice none 0 0, .int .i64 0, .int .i64 0] 25 (0, 0)) := by rw [← hW]; exact block_alloc_old (blk_new (by simp))
  have b4 : W.heap[w.heap.size + 1 + 1 + 1]? = some (.cells #[.slice (some ⟨w.heap.size + 1, 0, none⟩) 1 1, .int .i64 0, .int .i64 0, .int .i64 0, .slice none 0 0, .slice none 0 0, .int .i64 0, .int .i64 0] 25 (0, 0)) := by rw [← hW]; exact blk_new (by simp)
  clear hW
  have HsW := Lib.hid hsW
  clear hsW
  have B1 := Lib.hid b1
  have B2 := Lib.hid b2
  have B3 := Lib.hid b3
  have B4 := Lib.hid b4
  clear b1 b2 b3 b4
  refine (check_calls _ p1 W (prog_mk B1.out B2.out 1 (by decide))).mono ?_
  rintro e w1 ⟨rfl, hk1⟩
  rw [show checkI p1 = 0 from by decide]
  have hz1 := hk1.size
  have d0 : w1.cell? ⟨w.heap.size + 1 + 1 + 1, 0, none⟩ = some (.slice (some ⟨w.heap.size + 1, 0, none⟩) 1 1) := by rw [hk1.cell (lt_of_block B4.out) (fun h => h)]; exact cell_of_block B4.out rfl
  have d1 : w1.cell? ⟨w.heap.size + 1 + 1 + 1, 1, none⟩ = some (.int .i64 0) := by rw [hk1.cell (lt_of_block B4.out) (fun h => h)]; exact cell_of_block B4.out rfl
  have d2 : w1.cell? ⟨w.heap.size + 1 + 1 + 1, 2, none⟩ = some (.int .i64 0) := by rw [hk1.cell (lt_of_block B4.out) (fun h => h)]; exact cell_of_block B4.out rfl
  have d3 : w1.cell? ⟨w.heap.size + 1 + 1 + 1, 3, none⟩ = some (.int .i64 0) := by rw [hk1.cell (lt_of_block B4.out) (fun h => h)]; exact cell_of_block B4.out rfl
  have d4 : w1.cell? ⟨w.heap.size + 1 + 1 + 1, 4, none⟩ = some (.slice none 0 0) := by rw [hk1.cell (lt_of_block B4.out) (fun h => h)]; exact cell_of_block B4.out rfl
  have d5 : w1.cell? ⟨w.heap.size + 1 + 1 + 1, 5, none⟩ = some (.slice none 0 0) := by rw [hk1.cell (lt_of_block B4.out) (fun h => h)]; exact cell_of_block B4.out rfl
  have d6 : w1.cell? ⟨w.heap.size + 1 + 1 + 1, 6, none⟩ = some (.int .i64 0) := by rw [hk1.cell (lt_of_block B4.out) (fun h => h)]; exact cell_of_block B4.out rfl
  have d7 : w1.cell? ⟨w.heap.size + 1 + 1 + 1, 7, none⟩ = some (.int .i64 0) := by rw [hk1.cell (lt_of_block B4.out) (fun h => h)]; exact cell_of_block B4.out rfl
  go_wp2_with fail
  refine (check_calls _ p2 w1 ((prog_mk B1.out B2.out 0 (by decide)).keeps hk1)).mono ?_
  rintro e w2 ⟨rfl, hk2⟩
  rw [show checkI p2 = 8 from by decide]
  have hk12 := hk1.trans hk2 (fun _ _ h => h)
  clear d0 d1 d2 d3 d4 d5 d6 d7
  go_wp2_with fail
  refine (check_calls _ p0 w2 (prog_nil w2)).mono ?_
  rintro e w3 ⟨rfl, hk3⟩
  rw [show checkI p0 = 9 from by decide]
  have hk13 := hk12.trans hk3 (fun _ _ h => h)
  go_wp2_with fail
  refine (class_calls 24 _).mono ?_
  rintro e w4 ⟨rfl, rfl⟩
  rw [show cls 24 = 2 from by decide]
  have e0 : w4.cell? ⟨w.heap.size + 1 + 1, 0, none⟩ = some (.slice (some ⟨w.heap.size + 1, 0, none⟩) 1 1) := by rw [hk13.cell (lt_of_block B3.out) (fun h => h)]; exact cell_of_block B3.out rfl
  have e1 : w4.cell? ⟨w.heap.size + 1 + 1, 1, none⟩ = some (.int .i64 0) := by rw [hk13.cell (lt_of_block B3.out) (fun h => h)]; exact cell_of_block B3.out rfl
  have e2 : w4.cell? ⟨w.heap.size + 1 + 1, 2, none⟩ = some (.int .i64 1) := by rw [hk13.cell (lt_of_block B3.out) (fun h => h)]; exact cell_of_block B3.out rfl
  have e3 : w4.cell? ⟨w.heap.size + 1 + 1, 3, none⟩ = some (.int .i64 0) := by rw [hk13.cell (lt_of_block B3.out) (fun h => h)]; exact cell_of_block B3.out rfl
  have e4 : w4.cell? ⟨w.heap.size + 1 + 1, 4, none⟩ = some (.slice none 0 0) := by rw [hk13.cell (lt_of_block B3.out) (fun h => h)]; exact cell_of_block B3.out rfl
  have e5 : w4.cell? ⟨w.heap.size + 1 + 1, 5, none⟩ = some (.slice none 0 0) := by rw [hk13.cell (lt_of_block B3.out) (fun h => h)]; exact cell_of_block B3.out rfl
  have e6 : w4.cell? ⟨w.heap.size + 1 + 1, 6, none⟩ = some (.int .i64 0) := by rw [hk13.cell (lt_of_block B3.out) (fun h => h)]; exact cell_of_block B3.out rfl
  have e7 : w4.cell? ⟨w.heap.size + 1 + 1, 7, none⟩ = some (.int .i64 0) := by rw [hk13.cell (lt_of_block B3.out) (fun h => h)]; exact cell_of_block B3.out rfl
  go_wp2_with fail
  refine (sound_at _ p1 (1, 8, 0, 0, 0) W w4 (prog_mk B1.out B2.out 1 (by decide)) ⟨by decide, by decide⟩).mono ?_
  rintro e w5 ⟨rfl, hk5⟩
  rw [show soundP p1 (1, 8, 0, 0, 0) = false from by decide]
  clear e0 e1 e2 e3 e4 e5 e6 e7
  go_wp2_with fail
  refine (seen_calls 18 _).mono ?_
  rintro e w6 ⟨rfl, rfl⟩
  rw [show seenB 18 = true from by decide]
  go_wp2_with fail
  refine (seen_calls 17 _).mono ?_
  rintro e w6 ⟨rfl, rfl⟩
  rw [show seenB 17 = false from by decide]
  go_wp2_with fail
  go_ret
  exact ⟨rfl, (hkW.trans hk13 (fun _ _ h => h)).trans hk5 (fun _ _ h => h)⟩
end Go.Proofs.Ytlnfjjbfdbcgbaa
