/- ShareMore's walk. -/
import Derived.Test.YtpenanbnadohfaaShareW
namespace Go.Proofs.Ytpenanbnadohfaa
open Go.RowKit Sh

/-- Three lists of the call's own, of k numbers each. -/
structure Three (w wr : World) (gd cd ge ce gp cp k : Nat) (dl el pl : List Int) : Prop where
  own1 : Own wr 3 1 (.slice (some ⟨gd, 0, none⟩) k cd) k (dl.map (Value.int .i64))
  own2 : Own wr 3 1 (.slice (some ⟨ge, 0, none⟩) k ce) k (el.map (Value.int .i64))
  own3 : Own wr 3 1 (.slice (some ⟨gp, 0, none⟩) k cp) k (pl.map (Value.int .i64))
  keep : Keeps NoBlock w wr
  new : w.heap.size ≤ gd ∧ w.heap.size ≤ ge ∧ w.heap.size ≤ gp ∧ gd ≠ ge ∧ gd ≠ gp ∧ ge ≠ gp
  len : dl.length = k ∧ el.length = k ∧ pl.length = k

set_option maxRecDepth 100000 in
set_option maxHeartbeats 8000000 in
theorem more_calls (s : Int) (A : Option Addr) (b off len cap : Nat) (zs : List Int) (A' : Option Addr) (b' off' len' cap' : Nat) (zs' : List Int) (turn who more : Int) (w : World) (hs : 0 ≤ s ∧ s < 256) (ht : -9223372036854775808 ≤ turn ∧ turn ≤ 9223372036854775807) (hwho : 0 ≤ who ∧ who < 256) (hmore : 0 ≤ more ∧ more < 256)
    (hd : IntsAt .i8 w A b off len zs) (hp : IntsAt .u8 w A' b' off' len' zs') (hl : len ≤ 1000000000000000) (hl' : len' ≤ 1000000000000000) :
    Calls Try.prog 10 #[.int .u8 s, .slice A len cap, .slice A' len' cap', .int .i64 turn, .int .u8 who, .int .u8 more] w fun e w' => e = .returned (.bool true) ∧ Below w.heap.size w w' := by
  have Hd := Lib.hid hd
  have Hp := Lib.hid hp
  clear hd hp
  go_enter Try.func10, Try.ntmps10
  go_wp2_with fail
  go_loopw [13, 14, 15, 16] (fun v9 v8 v10 i wr => ∃ (k gd cd ge ce gp cp : Nat), k ≤ 8 ∧ k ≤ len ∧ k ≤ len' ∧ i = .int .i64 k ∧ v9 = .slice (some ⟨gd, 0, none⟩) k cd ∧ v8 = .slice (some ⟨ge, 0, none⟩) k ce ∧ v10 = .slice (some ⟨gp, 0, none⟩) k cp ∧ Three w wr gd cd ge ce gp cp k (zs.take k) (zs.take k) ((zs'.take k).map (· % 8))) (fun _ _ _ i _ => 8 - (intOf i).toNat)
  case atStart =>
    refine ⟨0, _, _, _, _, _, _, by omega, by omega, by omega, rfl, rfl, rfl, rfl, ⟨?_, ?_, ?_, (((Keeps.refl _ _).alloc _).alloc _).alloc _, ⟨Nat.le_refl _, by omega, by omega, by omega, by omega, by omega⟩, by simp⟩⟩
    · exact World.ownsRow.alloc (World.ownsRow.alloc (World.ownsRow_lit w #[] 0 (Nat.zero_le _) (by simp [maxLen]) rfl) _) _
    · have := World.ownsRow_lit (base := 0) (e := 3) (size := 1) (w.alloc (.cells #[] 3)) #[] 0 (Nat.zero_le _) (by simp [maxLen]) rfl
      simpa using World.ownsRow.alloc this (.cells #[] 3)
    · have := World.ownsRow_lit (base := 0) (e := 3) (size := 1) ((w.alloc (.cells #[] 3)).alloc (.cells #[] 3)) #[] 0 (Nat.zero_le _) (by simp [maxLen]) rfl
      simpa using this
  case round =>
    obtain ⟨k, gd, cd, ge, ce, gp, cp, hk, hkl, hkl', rfl, rfl, rfl, rfl, T⟩ := hrel
    by_cases hlt : k < len ∧ k < len' ∧ k < 8
    · obtain ⟨h1, h2, h3⟩ := hlt
      obtain rfl := Hd.out.addr (by omega)
      obtain rfl := Hp.out.addr (by omega)
      have c1 := Hd.out.cell k h1
      have c2 := Hp.out.cell k h2
      have hb1 : b < w.heap.size := World.block_lt_of_cell? w _ c1
      have hb2 : b' < w.heap.size := World.block_lt_of_cell? w _ c2
      obtain ⟨x, hx⟩ : ∃ x, Hid (zs.getD k 0 = x) := ⟨_, rfl⟩
      obtain ⟨y, hy⟩ : ∃ y, Hid (zs'.getD k 0 = y) := ⟨_, rfl⟩
      have bx := bounds_i8 (Hd.out.wf k h1)
      have by_ := bounds_u8 (Hp.out.wf k h2)
      rw [hx.out] at c1 bx
      rw [hy.out] at c2 by_
      rw [← T.keep.cell hb1 (fun h => h)] at c1
      rw [← T.keep.cell hb2 (fun h => h)] at c2
      go_upto_region 5 with fail
      have hwx : IntKind.i64.wrap x = x := IntWalk.i64_in _ (by omega)
      have hwy : IntKind.i64.wrap (y.tmod 8) = y % 8 := by rw [Int.tmod_eq_emod_of_nonneg by_.1]; exact IntWalk.i64_in _ (by omega)
      have o1 := T.own1
      have o2 := T.own2
      have o3 := T.own3
      obtain ⟨n1, n2, n3, n4, n5, n6⟩ := T.new
      have l1 := o1.lt gd rfl
      have l2 := o2.lt ge rfl
      have l3 := o3.lt gp rfl
      have kw := T.keep
      go_region_held3 (fun w' => w'.cell? ⟨b, off + k, none⟩ = some (.int .i8 x) ∧ w'.cell? ⟨b', off' + k, none⟩ = some (.int .u8 y))
        (first
          | (go_split_ands
             refine ⟨?_, ?_⟩ <;> ((repeat (first
              | assumption
              | with_reducible refine cell_alloc_some ?_
              | with_reducible refine cell_drew_some ?_
              | (refine World.grownBy.cell hg3 ?_ ?_; rotate_left; focus (simp [Value.ownBlock]; omega))
              | (refine World.grownBy.cell hg2 ?_ ?_; rotate_left; focus (simp [Value.ownBlock]; omega))
              | (refine World.grownBy.cell hg1 ?_ ?_; rotate_left; focus (simp [Value.ownBlock]; omega)))); done))
          | go_keep)
        (first
        | (refine step_app (P := Try.prog) elInts' ?_ (.tmp 40) (.tmp 46) ?_ (.slice (some ⟨gd, 0, none⟩) k cd) k (List.map (Value.int .i64) (zs.take k)) ?_ ?_ ⟨wr.heap.size, 0, none⟩ 1 1 [.int .i64 x] ?_ ?_ (news1 (e := 3) ?_) ?_ ?_ ?_ ?_
           · rfl
           · rfl
           · rfl
           · repeat (first | exact o1 | with_reducible refine World.ownsRow.alloc ?_ _ | with_reducible refine World.ownsRow.drew ?_)
           · rfl
           · rfl
           · repeat (first | (refine blk_new ?_; (simp; done)) | with_reducible refine block_alloc_old ?_ | with_reducible refine blk_drew ?_)
           · simp [Value.oneCell']
           · simp only [maxLen]; omega
           · omega
           intro v1 w1 ho1 hg1 hf1 hs1
           obtain ⟨g1, c1', rfl⟩ := hs1 (by decide)
           have z1 := World.ownsRow.lt ho1 g1 rfl
           have s1 := hg1.size
           have e1 := hf1 g1 rfl
           simp only [World.size_alloc, World.size_drew, Value.ownBlock, Option.some.injEq] at s1 e1
           clear hs1 hf1)
        | (refine step_app (P := Try.prog) elInts' ?_ (.tmp 40) (.tmp 46) ?_ (.slice (some ⟨gd, 0, none⟩) k cd) k (List.map (Value.int .i64) (zs.take k)) ?_ ?_ ⟨wr.heap.size + 1, 0, none⟩ 1 1 [.int .i64 x] ?_ ?_ (news1 (e := 3) ?_) ?_ ?_ ?_ ?_
           · rfl
           · rfl
           · rfl
           · repeat (first | exact o1 | with_reducible refine World.ownsRow.alloc ?_ _ | with_reducible refine World.ownsRow.drew ?_)
           · rfl
           · rfl
           · repeat (first | (refine blk_new ?_; (simp; done)) | with_reducible refine block_alloc_old ?_ | with_reducible refine blk_drew ?_)
           · simp [Value.oneCell']
           · simp only [maxLen]; omega
           · omega
           intro v1 w1 ho1 hg1 hf1 hs1
           obtain ⟨g1, c1', rfl⟩ := hs1 (by decide)
           have z1 := World.ownsRow.lt ho1 g1 rfl
           have s1 := hg1.size
           have e1 := hf1 g1 rfl
           simp only [World.size_alloc, World.size_drew, Value.ownBlock, Option.some.injEq] at s1 e1
           clear hs1 hf1)
        | (refine step_app (P := Try.prog) elInts' ?_ (.tmp 40) (.tmp 46) ?_ (.slice (some ⟨gd, 0, none⟩) k cd) k (List.map (Value.int .i64) (zs.take k)) ?_ ?_ ⟨wr.heap.size + 1 + 1, 0, none⟩ 1 1 [.int .i64 x] ?_ ?_ (news1 (e := 3) ?_) ?_ ?_ ?_ ?_
           · rfl
           · rfl
           · rfl
           · repeat (first | exact o1 | with_reducible refine World.ownsRow.alloc ?_ _ | with_reducible refine World.ownsRow.drew ?_)
           · rfl
           · rfl
           · repeat (first | (refine blk_new ?_; (simp; done)) | with_reducible refine block_alloc_old ?_ | with_reducible refine blk_drew ?_)
           · simp [Value.oneCell']
           · simp only [maxLen]; omega
           · omega
           intro v1 w1 ho1 hg1 hf1 hs1
           obtain ⟨g1, c1', rfl⟩ := hs1 (by decide)
           have z1 := World.ownsRow.lt ho1 g1 rfl
           have s1 := hg1.size
           have e1 := hf1 g1 rfl
           simp only [World.size_alloc, World.size_drew, Value.ownBlock, Option.some.injEq] at s1 e1
           clear hs1 hf1)
        | (refine step_app (P := Try.prog) elInts' ?_ (.tmp 48) (.tmp 54) ?_ (.slice (some ⟨ge, 0, none⟩) k ce) k (List.map (Value.int .i64) (zs.take k)) ?_ ?_ ⟨wr.heap.size, 0, none⟩ 1 1 [.int .i64 x] ?_ ?_ (news1 (e := 3) ?_) ?_ ?_ ?_ ?_
           · rfl
           · rfl
           · rfl
           · repeat (first | exact o2 | with_reducible refine World.ownsRow.alloc ?_ _ | with_reducible refine World.ownsRow.drew ?_ | (refine World.ownsRow.kept ?_ hg1 (.inr ?_); rotate_left; focus (simp [Value.ownBlock]; omega)))
           · rfl
           · rfl
           · repeat (first | (refine blk_new ?_; (simp; done)) | with_reducible refine block_alloc_old ?_ | with_reducible refine blk_drew ?_ | (refine blk_grown hg1 ?_ ?_; focus (simp [Value.ownBlock]; omega)))
           · simp [Value.oneCell']
           · simp only [maxLen]; omega
           · omega
           intro v2 w2 ho2 hg2 hf2 hs2
           obtain ⟨g2, c2', rfl⟩ := hs2 (by decide)
           have z2 := World.ownsRow.lt ho2 g2 rfl
           have s2 := hg2.size
           have e2 := hf2 g2 rfl
           simp only [World.size_alloc, World.size_drew, Value.ownBlock, Option.some.injEq] at s2 e2
           clear hs2 hf2)
        | (refine step_app (P := Try.prog) elInts' ?_ (.tmp 48) (.tmp 54) ?_ (.slice (some ⟨ge, 0, none⟩) k ce) k (List.map (Value.int .i64) (zs.take k)) ?_ ?_ ⟨wr.heap.size + 1, 0, none⟩ 1 1 [.int .i64 x] ?_ ?_ (news1 (e := 3) ?_) ?_ ?_ ?_ ?_
           · rfl
           · rfl
           · rfl
           · repeat (first | exact o2 | with_reducible refine World.ownsRow.alloc ?_ _ | with_reducible refine World.ownsRow.drew ?_ | (refine World.ownsRow.kept ?_ hg1 (.inr ?_); rotate_left; focus (simp [Value.ownBlock]; omega)))
           · rfl
           · rfl
           · repeat (first | (refine blk_new ?_; (simp; done)) | with_reducible refine block_alloc_old ?_ | with_reducible refine blk_drew ?_ | (refine blk_grown hg1 ?_ ?_; focus (simp [Value.ownBlock]; omega)))
           · simp [Value.oneCell']
           · simp only [maxLen]; omega
           · omega
           intro v2 w2 ho2 hg2 hf2 hs2
           obtain ⟨g2, c2', rfl⟩ := hs2 (by decide)
           have z2 := World.ownsRow.lt ho2 g2 rfl
           have s2 := hg2.size
           have e2 := hf2 g2 rfl
           simp only [World.size_alloc, World.size_drew, Value.ownBlock, Option.some.injEq] at s2 e2
           clear hs2 hf2)
        | (refine step_app (P := Try.prog) elInts' ?_ (.tmp 48) (.tmp 54) ?_ (.slice (some ⟨ge, 0, none⟩) k ce) k (List.map (Value.int .i64) (zs.take k)) ?_ ?_ ⟨wr.heap.size + 1 + 1, 0, none⟩ 1 1 [.int .i64 x] ?_ ?_ (news1 (e := 3) ?_) ?_ ?_ ?_ ?_
           · rfl
           · rfl
           · rfl
           · repeat (first | exact o2 | with_reducible refine World.ownsRow.alloc ?_ _ | with_reducible refine World.ownsRow.drew ?_ | (refine World.ownsRow.kept ?_ hg1 (.inr ?_); rotate_left; focus (simp [Value.ownBlock]; omega)))
           · rfl
           · rfl
           · repeat (first | (refine blk_new ?_; (simp; done)) | with_reducible refine block_alloc_old ?_ | with_reducible refine blk_drew ?_ | (refine blk_grown hg1 ?_ ?_; focus (simp [Value.ownBlock]; omega)))
           · simp [Value.oneCell']
           · simp only [maxLen]; omega
           · omega
           intro v2 w2 ho2 hg2 hf2 hs2
           obtain ⟨g2, c2', rfl⟩ := hs2 (by decide)
           have z2 := World.ownsRow.lt ho2 g2 rfl
           have s2 := hg2.size
           have e2 := hf2 g2 rfl
           simp only [World.size_alloc, World.size_drew, Value.ownBlock, Option.some.injEq] at s2 e2
           clear hs2 hf2)
        | (refine step_app (P := Try.prog) elInts' ?_ (.tmp 48) (.tmp 54) ?_ (.slice (some ⟨ge, 0, none⟩) k ce) k (List.map (Value.int .i64) (zs.take k)) ?_ ?_ ⟨w1.heap.size, 0, none⟩ 1 1 [.int .i64 x] ?_ ?_ (news1 (e := 3) ?_) ?_ ?_ ?_ ?_
           · rfl
           · rfl
           · rfl
           · repeat (first | exact o2 | with_reducible refine World.ownsRow.alloc ?_ _ | with_reducible refine World.ownsRow.drew ?_ | (refine World.ownsRow.kept ?_ hg1 (.inr ?_); rotate_left; focus (simp [Value.ownBlock]; omega)))
           · rfl
           · rfl
           · repeat (first | (refine blk_new ?_; (simp; done)) | with_reducible refine block_alloc_old ?_ | with_reducible refine blk_drew ?_ | (refine blk_grown hg1 ?_ ?_; focus (simp [Value.ownBlock]; omega)))
           · simp [Value.oneCell']
           · simp only [maxLen]; omega
           · omega
           intro v2 w2 ho2 hg2 hf2 hs2
           obtain ⟨g2, c2', rfl⟩ := hs2 (by decide)
           have z2 := World.ownsRow.lt ho2 g2 rfl
           have s2 := hg2.size
           have e2 := hf2 g2 rfl
           simp only [World.size_alloc, World.size_drew, Value.ownBlock, Option.some.injEq] at s2 e2
           clear hs2 hf2)
        | (refine step_app (P := Try.prog) elInts' ?_ (.tmp 48) (.tmp 54) ?_ (.slice (some ⟨ge, 0, none⟩) k ce) k (List.map (Value.int .i64) (zs.take k)) ?_ ?_ ⟨w1.heap.size + 1, 0, none⟩ 1 1 [.int .i64 x] ?_ ?_ (news1 (e := 3) ?_) ?_ ?_ ?_ ?_
           · rfl
           · rfl
           · rfl
           · repeat (first | exact o2 | with_reducible refine World.ownsRow.alloc ?_ _ | with_reducible refine World.ownsRow.drew ?_ | (refine World.ownsRow.kept ?_ hg1 (.inr ?_); rotate_left; focus (simp [Value.ownBlock]; omega)))
           · rfl
           · rfl
           · repeat (first | (refine blk_new ?_; (simp; done)) | with_reducible refine block_alloc_old ?_ | with_reducible refine blk_drew ?_ | (refine blk_grown hg1 ?_ ?_; focus (simp [Value.ownBlock]; omega)))
           · simp [Value.oneCell']
           · simp only [maxLen]; omega
           · omega
           intro v2 w2 ho2 hg2 hf2 hs2
           obtain ⟨g2, c2', rfl⟩ := hs2 (by decide)
           have z2 := World.ownsRow.lt ho2 g2 rfl
           have s2 := hg2.size
           have e2 := hf2 g2 rfl
           simp only [World.size_alloc, World.size_drew, Value.ownBlock, Option.some.injEq] at s2 e2
           clear hs2 hf2)
        | (refine step_app (P := Try.prog) elInts' ?_ (.tmp 56) (.tmp 63) ?_ (.slice (some ⟨gp, 0, none⟩) k cp) k (List.map (Value.int .i64) ((zs'.take k).map (· % 8))) ?_ ?_ ⟨wr.heap.size, 0, none⟩ 1 1 [.int .i64 (y % 8)] ?_ ?_ (news1 (e := 3) ?_) ?_ ?_ ?_ ?_
           · rfl
           · rfl
           · rfl
           · repeat (first | exact o3 | with_reducible refine World.ownsRow.alloc ?_ _ | with_reducible refine World.ownsRow.drew ?_ | (refine World.ownsRow.kept ?_ hg2 (.inr ?_); rotate_left; focus (simp [Value.ownBlock]; omega)) | (refine World.ownsRow.kept ?_ hg1 (.inr ?_); rotate_left; focus (simp [Value.ownBlock]; omega)))
           · rfl
           · rfl
           · repeat (first | (refine blk_new ?_; (simp; done)) | with_reducible refine block_alloc_old ?_ | with_reducible refine blk_drew ?_ | (refine blk_grown hg2 ?_ ?_; focus (simp [Value.ownBlock]; omega)) | (refine blk_grown hg1 ?_ ?_; focus (simp [Value.ownBlock]; omega)))
           · simp [Value.oneCell']
           · simp only [maxLen]; omega
           · omega
           intro v3 w3 ho3 hg3 hf3 hs3
           obtain ⟨g3, c3', rfl⟩ := hs3 (by decide)
           have z3 := World.ownsRow.lt ho3 g3 rfl
           have s3 := hg3.size
           have e3 := hf3 g3 rfl
           simp only [World.size_alloc, World.size_drew, Value.ownBlock, Option.some.injEq] at s3 e3
           clear hs3 hf3)
        | (refine step_app (P := Try.prog) elInts' ?_ (.tmp 56) (.tmp 63) ?_ (.slice (some ⟨gp, 0, none⟩) k cp) k (List.map (Value.int .i64) ((zs'.take k).map (· % 8))) ?_ ?_ ⟨wr.heap.size + 1, 0, none⟩ 1 1 [.int .i64 (y % 8)] ?_ ?_ (news1 (e := 3) ?_) ?_ ?_ ?_ ?_
           · rfl
           · rfl
           · rfl
           · repeat (first | exact o3 | with_reducible refine World.ownsRow.alloc ?_ _ | with_reducible refine World.ownsRow.drew ?_ | (refine World.ownsRow.kept ?_ hg2 (.inr ?_); rotate_left; focus (simp [Value.ownBlock]; omega)) | (refine World.ownsRow.kept ?_ hg1 (.inr ?_); rotate_left; focus (simp [Value.ownBlock]; omega)))
           · rfl
           · rfl
           · repeat (first | (refine blk_new ?_; (simp; done)) | with_reducible refine block_alloc_old ?_ | with_reducible refine blk_drew ?_ | (refine blk_grown hg2 ?_ ?_; focus (simp [Value.ownBlock]; omega)) | (refine blk_grown hg1 ?_ ?_; focus (simp [Value.ownBlock]; omega)))
           · simp [Value.oneCell']
           · simp only [maxLen]; omega
           · omega
           intro v3 w3 ho3 hg3 hf3 hs3
           obtain ⟨g3, c3', rfl⟩ := hs3 (by decide)
           have z3 := World.ownsRow.lt ho3 g3 rfl
           have s3 := hg3.size
           have e3 := hf3 g3 rfl
           simp only [World.size_alloc, World.size_drew, Value.ownBlock, Option.some.injEq] at s3 e3
           clear hs3 hf3)
        | (refine step_app (P := Try.prog) elInts' ?_ (.tmp 56) (.tmp 63) ?_ (.slice (some ⟨gp, 0, none⟩) k cp) k (List.map (Value.int .i64) ((zs'.take k).map (· % 8))) ?_ ?_ ⟨wr.heap.size + 1 + 1, 0, none⟩ 1 1 [.int .i64 (y % 8)] ?_ ?_ (news1 (e := 3) ?_) ?_ ?_ ?_ ?_
           · rfl
           · rfl
           · rfl
           · repeat (first | exact o3 | with_reducible refine World.ownsRow.alloc ?_ _ | with_reducible refine World.ownsRow.drew ?_ | (refine World.ownsRow.kept ?_ hg2 (.inr ?_); rotate_left; focus (simp [Value.ownBlock]; omega)) | (refine World.ownsRow.kept ?_ hg1 (.inr ?_); rotate_left; focus (simp [Value.ownBlock]; omega)))
           · rfl
           · rfl
           · repeat (first | (refine blk_new ?_; (simp; done)) | with_reducible refine block_alloc_old ?_ | with_reducible refine blk_drew ?_ | (refine blk_grown hg2 ?_ ?_; focus (simp [Value.ownBlock]; omega)) | (refine blk_grown hg1 ?_ ?_; focus (simp [Value.ownBlock]; omega)))
           · simp [Value.oneCell']
           · simp only [maxLen]; omega
           · omega
           intro v3 w3 ho3 hg3 hf3 hs3
           obtain ⟨g3, c3', rfl⟩ := hs3 (by decide)
           have z3 := World.ownsRow.lt ho3 g3 rfl
           have s3 := hg3.size
           have e3 := hf3 g3 rfl
           simp only [World.size_alloc, World.size_drew, Value.ownBlock, Option.some.injEq] at s3 e3
           clear hs3 hf3)
        | (refine step_app (P := Try.prog) elInts' ?_ (.tmp 56) (.tmp 63) ?_ (.slice (some ⟨gp, 0, none⟩) k cp) k (List.map (Value.int .i64) ((zs'.take k).map (· % 8))) ?_ ?_ ⟨w1.heap.size, 0, none⟩ 1 1 [.int .i64 (y % 8)] ?_ ?_ (news1 (e := 3) ?_) ?_ ?_ ?_ ?_
           · rfl
           · rfl
           · rfl
           · repeat (first | exact o3 | with_reducible refine World.ownsRow.alloc ?_ _ | with_reducible refine World.ownsRow.drew ?_ | (refine World.ownsRow.kept ?_ hg2 (.inr ?_); rotate_left; focus (simp [Value.ownBlock]; omega)) | (refine World.ownsRow.kept ?_ hg1 (.inr ?_); rotate_left; focus (simp [Value.ownBlock]; omega)))
           · rfl
           · rfl
           · repeat (first | (refine blk_new ?_; (simp; done)) | with_reducible refine block_alloc_old ?_ | with_reducible refine blk_drew ?_ | (refine blk_grown hg2 ?_ ?_; focus (simp [Value.ownBlock]; omega)) | (refine blk_grown hg1 ?_ ?_; focus (simp [Value.ownBlock]; omega)))
           · simp [Value.oneCell']
           · simp only [maxLen]; omega
           · omega
           intro v3 w3 ho3 hg3 hf3 hs3
           obtain ⟨g3, c3', rfl⟩ := hs3 (by decide)
           have z3 := World.ownsRow.lt ho3 g3 rfl
           have s3 := hg3.size
           have e3 := hf3 g3 rfl
           simp only [World.size_alloc, World.size_drew, Value.ownBlock, Option.some.injEq] at s3 e3
           clear hs3 hf3)
        | (refine step_app (P := Try.prog) elInts' ?_ (.tmp 56) (.tmp 63) ?_ (.slice (some ⟨gp, 0, none⟩) k cp) k (List.map (Value.int .i64) ((zs'.take k).map (· % 8))) ?_ ?_ ⟨w1.heap.size + 1, 0, none⟩ 1 1 [.int .i64 (y % 8)] ?_ ?_ (news1 (e := 3) ?_) ?_ ?_ ?_ ?_
           · rfl
           · rfl
           · rfl
           · repeat (first | exact o3 | with_reducible refine World.ownsRow.alloc ?_ _ | with_reducible refine World.ownsRow.drew ?_ | (refine World.ownsRow.kept ?_ hg2 (.inr ?_); rotate_left; focus (simp [Value.ownBlock]; omega)) | (refine World.ownsRow.kept ?_ hg1 (.inr ?_); rotate_left; focus (simp [Value.ownBlock]; omega)))
           · rfl
           · rfl
           · repeat (first | (refine blk_new ?_; (simp; done)) | with_reducible refine block_alloc_old ?_ | with_reducible refine blk_drew ?_ | (refine blk_grown hg2 ?_ ?_; focus (simp [Value.ownBlock]; omega)) | (refine blk_grown hg1 ?_ ?_; focus (simp [Value.ownBlock]; omega)))
           · simp [Value.oneCell']
           · simp only [maxLen]; omega
           · omega
           intro v3 w3 ho3 hg3 hf3 hs3
           obtain ⟨g3, c3', rfl⟩ := hs3 (by decide)
           have z3 := World.ownsRow.lt ho3 g3 rfl
           have s3 := hg3.size
           have e3 := hf3 g3 rfl
           simp only [World.size_alloc, World.size_drew, Value.ownBlock, Option.some.injEq] at s3 e3
           clear hs3 hf3)
        | (refine step_app (P := Try.prog) elInts' ?_ (.tmp 56) (.tmp 63) ?_ (.slice (some ⟨gp, 0, none⟩) k cp) k (List.map (Value.int .i64) ((zs'.take k).map (· % 8))) ?_ ?_ ⟨w2.heap.size, 0, none⟩ 1 1 [.int .i64 (y % 8)] ?_ ?_ (news1 (e := 3) ?_) ?_ ?_ ?_ ?_
           · rfl
           · rfl
           · rfl
           · repeat (first | exact o3 | with_reducible refine World.ownsRow.alloc ?_ _ | with_reducible refine World.ownsRow.drew ?_ | (refine World.ownsRow.kept ?_ hg2 (.inr ?_); rotate_left; focus (simp [Value.ownBlock]; omega)) | (refine World.ownsRow.kept ?_ hg1 (.inr ?_); rotate_left; focus (simp [Value.ownBlock]; omega)))
           · rfl
           · rfl
           · repeat (first | (refine blk_new ?_; (simp; done)) | with_reducible refine block_alloc_old ?_ | with_reducible refine blk_drew ?_ | (refine blk_grown hg2 ?_ ?_; focus (simp [Value.ownBlock]; omega)) | (refine blk_grown hg1 ?_ ?_; focus (simp [Value.ownBlock]; omega)))
           · simp [Value.oneCell']
           · simp only [maxLen]; omega
           · omega
           intro v3 w3 ho3 hg3 hf3 hs3
           obtain ⟨g3, c3', rfl⟩ := hs3 (by decide)
           have z3 := World.ownsRow.lt ho3 g3 rfl
           have s3 := hg3.size
           have e3 := hf3 g3 rfl
           simp only [World.size_alloc, World.size_drew, Value.ownBlock, Option.some.injEq] at s3 e3
           clear hs3 hf3)
        | fail)
      all_goals
        have own1' : Own w3 3 1 (.slice (some ⟨g1, 0, none⟩) (k + 1) c1') (k + 1) (List.map (Value.int .i64) (zs.take k) ++ [.int .i64 x]) := by
          repeat (first | exact ho1 | with_reducible refine World.ownsRow.alloc ?_ _ | with_reducible refine World.ownsRow.drew ?_ | (refine World.ownsRow.kept ?_ hg3 (.inr ?_); rotate_left; focus (simp [Value.ownBlock]; omega)) | (refine World.ownsRow.kept ?_ hg2 (.inr ?_); rotate_left; focus (simp [Value.ownBlock]; omega)))
        have own2' : Own w3 3 1 (.slice (some ⟨g2, 0, none⟩) (k + 1) c2') (k + 1) (List.map (Value.int .i64) (zs.take k) ++ [.int .i64 x]) := by
          repeat (first | exact ho2 | with_reducible refine World.ownsRow.alloc ?_ _ | with_reducible refine World.ownsRow.drew ?_ | (refine World.ownsRow.kept ?_ hg3 (.inr ?_); rotate_left; focus (simp [Value.ownBlock]; omega)) | (refine World.ownsRow.kept ?_ hg2 (.inr ?_); rotate_left; focus (simp [Value.ownBlock]; omega)))
        have keep' : Keeps NoBlock w w3 := by
          repeat (first | exact kw | with_reducible refine Keeps.alloc ?_ _ | with_reducible refine Keeps.drew ?_ | (refine Keeps.grown ?_ hg3 ?_; rotate_left; focus (intro q hq; simp [Value.ownBlock] at hq; right; omega)) | (refine Keeps.grown ?_ hg2 ?_; rotate_left; focus (intro q hq; simp [Value.ownBlock] at hq; right; omega)) | (refine Keeps.grown ?_ hg1 ?_; rotate_left; focus (intro q hq; simp [Value.ownBlock] at hq; right; omega)))
        have T' : Three w w3 g1 c1' g2 c2' g3 c3' (k + 1) (zs.take (k + 1)) (zs.take (k + 1)) ((zs'.take (k + 1)).map (· % 8)) := by
          have e1' : (zs.take (k + 1)) = zs.take k ++ [x] := take_next hx.out (by rw [Hd.out.length]; exact h1)
          refine ⟨?_, ?_, ?_, keep', by omega, ?_⟩
          · rw [e1']; simpa using own1'
          · rw [e1']; simpa using own2'
          · rw [take_next hy.out (by rw [Hp.out.length]; exact h2)]; simpa using ho3
          · have := Hd.out.length; have := Hp.out.length; simp; omega
        clear own1' own2' keep' ho1 ho2 ho3 hg1 hg2 hg3
        go_wp2_with fail
        exact ⟨⟨k + 1, _, _, _, _, _, _, by omega, by omega, by omega, by go_num, rfl, rfl, rfl, T'⟩, by simp [intOf]; omega⟩
    · go_upto_region 3 with fail
      go_cut [37] from 24 to 36 (fun v wx => v = .bool false ∧ wr = wx)
      case first =>
        by_cases h1 : k < len
        · by_cases h2 : k < len'
          · have h3 : 8 ≤ (k : Int) := by omega
            go_wp2_with fail
            go_meet
            case rel => exact ⟨by rw [decide_eq_false (by omega)], rfl⟩
          · have h3 : (len' : Int) ≤ k := by omega
            clear h2
            go_wp2_with fail
            go_meet
            case rel => exact ⟨rfl, rfl⟩
        · have h3 : (len : Int) ≤ k := by omega
          clear h1
          go_wp2_with fail
          go_meet
          case rel => exact ⟨rfl, rfl⟩
      case rest =>
        obtain ⟨rfl, rfl⟩ := hcut
        have hkw := T.keep
        by_cases hk0 : k = 0
        · have hz : ((k : Int) == 0) = true := by simp [hk0]
          clear hk0
          go_wp2_with fail
          refine (awake12_calls _).mono ?_
          rintro e w9 ⟨rfl, hk9⟩
          go_wp2_with fail
          go_ret
          exact ⟨rfl, (hkw.trans hk9 (fun _ _ h => h)).below (Nat.le_refl _) (fun _ h => h.elim)⟩
        · have hz : ((k : Int) == 0) = false := by simp [hk0]
          have hkp : 0 < k := by omega
          clear hk0
          obtain ⟨dl, hdl⟩ : ∃ dl, Hid (dl = zs.take k) := ⟨_, Lib.hid rfl⟩
          obtain ⟨pl, hpl⟩ : ∃ pl, Hid (pl = (zs'.take k).map (· % 8)) := ⟨_, Lib.hid rfl⟩
          rw [← hdl.out, ← hpl.out] at T
          have zl := Hd.out.length
          have zl' := Hp.out.length
          obtain ⟨ld, _, lp⟩ := T.len
          have hdb : Hid (∀ j, j < k → -128 ≤ at0 dl j ∧ at0 dl j ≤ 127) := Lib.hid (fun j hj => by
            have := bounds_i8 (Hd.out.wf j (by omega))
            rw [hdl.out, at0_take hj]
            exact this)
          have hpv : Hid (∀ j, j < pl.length → 0 ≤ at0 pl j ∧ at0 pl j ≤ 7) := fun j hj => by
            rw [hpl.out] at hj ⊢
            simp only [List.length_map] at hj
            rw [at0_map _ hj]
            omega
          obtain ⟨kk, hkk⟩ : ∃ kk : Nat, who % (k : Int) = kk := ⟨(who % (k : Int)).toNat, by have := Int.emod_nonneg who (b := (k : Int)) (by omega); omega⟩
          have hkkl : kk < k := by have := Int.emod_lt_of_pos who (b := (k : Int)) (by omega); omega
          have Ld := Lib.hid ld
          have Lp := Lib.hid lp
          obtain ⟨z, hzz⟩ : ∃ z, Hid (at0 dl kk = z) := ⟨_, Lib.hid rfl⟩
          have hzb := hdb.out kk hkkl
          rw [hzz.out] at hzb
          have cz : wr.cell? ⟨ge, kk, none⟩ = some (.int .i64 z) := by
            rw [World.ownsRow.cellAt T.own2 kk (by omega), List.getElem?_map, ← hzz.out]
            have : kk < dl.length := by rw [Ld.out]; exact hkkl
            simp [at0, this]
          have fz : wr.frozen? ⟨ge, kk, none⟩ = false := World.ownsRow.frozenAt T.own2 kk
          have kst : Keeps (fun q => q = ge) wr (wr.setCell ⟨ge, kk, none⟩ (.int .i64 (z + more))) := (Keeps.refl (fun q => q = ge) wr).setCell (.inl rfl) _
          obtain ⟨n1, n2, n3, n4, n5, n6⟩ := T.new
          have hkw2 : Keeps NoBlock w (wr.setCell ⟨ge, kk, none⟩ (.int .i64 (z + more))) := hkw.trans kst (fun j hj h => by omega)
          have r1 : ReadsI .i64 (wr.setCell ⟨ge, kk, none⟩ (.int .i64 (z + more))) (.slice (some ⟨gd, 0, none⟩) k cd) dl := by have := T.own1.keeps kst (fun q hq => by simp [Value.ownBlock] at hq; omega); rw [← ld] at this ⊢; exact Own.readsI this
          have r3 : ReadsI .i64 (wr.setCell ⟨ge, kk, none⟩ (.int .i64 (z + more))) (.slice (some ⟨gp, 0, none⟩) k cp) pl := by have := T.own3.keeps kst (fun q hq => by simp [Value.ownBlock] at hq; omega); rw [← lp] at this ⊢; exact Own.readsI this
          have r2 : ReadsI .i64 (wr.setCell ⟨ge, kk, none⟩ (.int .i64 (z + more))) (.slice (some ⟨ge, 0, none⟩) k ce) (dl.set kk (z + more)) := by
            have := (World.ownsRow.stored T.own2 kk (.int .i64 (z + more))).1
            rw [← List.map_set] at this
            have hl : (dl.set kk (z + more)).length = k := by rw [List.length_set]; exact ld
            rw [← hl] at this ⊢; exact Own.readsI this
          have hval : Hid (∀ (e : List Int), e.length = k → ShValid (s % 65) e pl) := fun e he => ⟨by rw [he, Lp.out], by rw [he]; omega, by omega, by omega, hpv.out⟩
          have l1 : dl.length < 1000000000000000 := by omega
          have l2 : pl.length < 1000000000000000 := by omega
          have l3 : (dl.set kk (z + more)).length < 1000000000000000 := by simp; omega
          have m1 : Hid (∀ x ∈ dl, x ≤ 9223372036854775807) := Lib.hid (fun x hx => by
            obtain ⟨j, hj, rfl⟩ := List.getElem_of_mem hx
            have := hdb.out j (by omega)
            simp [at0, hj] at this
            omega)
          have m2 : Hid (∀ x ∈ dl.set kk (z + more), x ≤ 9223372036854775807) := Lib.hid (fun x hx => by
            rcases List.mem_or_eq_of_mem_set hx with h | h
            · exact m1.out x h
            · omega)
          have Kmon : Hid (at0 dl kk ≤ at0 (dl.set kk (z + more)) kk) := Lib.hid (by rw [at0_set (by omega), if_pos rfl, hzz.out]; omega)
          have Keq : Hid (∀ i, i ≠ kk → at0 (dl.set kk (z + more)) i = at0 dl i) := Lib.hid (fun i hi => by rw [at0_set (by omega), if_neg (Ne.symm hi)])
          have Lel : Hid ((dl.set kk (z + more)).length = k) := Lib.hid (by rw [List.length_set]; exact ld)
          obtain ⟨el, hel⟩ : ∃ el, Hid (el = dl.set kk (z + more)) := ⟨_, Lib.hid rfl⟩
          rw [← hel.out] at r2 l3 m2 Kmon Keq Lel
          clear ld lp zl zl' hlt T kst hkw hdb hpv
          go_wp2_with fail
          refine (fair_calls _ _ _ dl pl (s % 65) turn r1 r3 l1 l2 m1.out ht).mono ?_
          rintro e w2 hf2
          obtain ⟨va, oa, rfl, ⟨ha, _⟩, hk2, hra⟩ := hf2
          have Sa : Hid (Sh.Spec (s % 65) dl pl k (firstOf turn k) oa) := by
            rcases hra with ⟨_, h⟩ | ⟨h, _⟩
            · rw [Ld.out] at h; exact h
            · exact absurd (hval.out _ Ld.out) h
          clear hra
          have q2 := r2.keeps hk2 (fun _ _ h => h)
          have q3 := r3.keeps hk2 (fun _ _ h => h)
          go_wp2_with fail
          refine (fair_calls w2 _ _ el pl (s % 65) turn q2 q3 l3 l2 m2.out ht).mono ?_
          rintro e w4 hf3
          obtain ⟨vb, ob, rfl, ⟨hb, _⟩, hk3, hrb⟩ := hf3
          have Sb : Hid (Sh.Spec (s % 65) el pl k (firstOf turn k) ob) := by
            rcases hrb with ⟨_, h⟩ | ⟨h, _⟩
            · rw [Lel.out] at h; exact h
            · exact absurd (hval.out _ Lel.out) h
          clear hrb r1 r2 r3 q2 q3
          have hkw4 : Keeps NoBlock w w4 := (hkw2.trans hk2 (fun _ _ h => h)).trans hk3 (fun _ _ h => h)
          have ra := (Own.readsI ha).keeps hk3 (fun _ _ h => h)
          have rb := Own.readsI hb
          obtain ⟨Aa, ba, fa, ca, rfl, hAa, hca⟩ := ra
          obtain ⟨Ab, bb, fb, cb, rfl, hAb, hcb⟩ := rb
          rw [Sa.out.len] at hAa ⊢
          rw [Sb.out.len] at hAb ⊢
          have cellOf : ∀ (o : List Int) (A : Option Addr) (q f : Nat), o.length = k → (0 < k → A = some ⟨q, f, none⟩ ∧ q < w4.heap.size) → (∀ (j : Nat) (x : Int), o[j]? = some x → w4.cell? ⟨q, f + j, none⟩ = some (.int .i64 x)) →
              ∀ w', Keeps NoBlock w4 w' → ∀ j, j < k → w'.cell? ⟨q, f + j, none⟩ = some (.int .i64 (at0 o j)) := fun o A q f hl hA hc w' hk j hj => by
            rw [hk.cell (hA (by omega)).2 (fun h => h)]
            have : j < o.length := by rw [hl]; exact hj
            exact hc j _ (by simp [at0, this])
          have Ca := Lib.hid (cellOf oa Aa ba fa Sa.out.len hAa hca)
          have Cb := Lib.hid (cellOf ob Ab bb fb Sb.out.len hAb hcb)
          obtain ⟨rfl, _⟩ := hAa hkp
          obtain ⟨rfl, _⟩ := hAb hkp
          have Mo := Lib.hid (Sa.out.more Sb.out Kmon.out Keq.out)
          clear cellOf hAa hAb hca hcb ha hb hk2 hk3 hkw2
          have hnn : ((k : Int) != k) = false := by simp
          go_wp2_with fail
          go_loopw [20] (fun i wx => ∃ q : Nat, q ≤ k ∧ i = .int .i64 q ∧ Keeps NoBlock w4 wx) (fun i _ => k - (intOf i).toNat)
          case atStart => exact ⟨0, Nat.zero_le _, rfl, Keeps.refl _ _⟩
          case round =>
            obtain ⟨q, hq, rfl, hkx⟩ := hrel
            by_cases hql : q < k
            · have c1 := Ca.out _ hkx q hql
              have c2 := Cb.out _ hkx q hql
              have M1 := Mo.out.1
              have M2 := Mo.out.2 q hql
              obtain ⟨p, hp⟩ : ∃ p, Hid (at0 oa q = p) := ⟨_, Lib.hid rfl⟩
              obtain ⟨r, hr⟩ : ∃ r, Hid (at0 ob q = r) := ⟨_, Lib.hid rfl⟩
              have M1' : Hid (q = kk → p ≤ r) := Lib.hid (fun e => by subst e; have := M1 hql; rw [hp.out, hr.out] at this; exact this)
              rw [hp.out] at c1 M2
              rw [hr.out] at c2 M2
              have M2' := Lib.hid M2
              clear M1 M2
              go_upto_region 16 with fail
              go_cut [143] from 114 to 142 (fun v wx => v = .bool false ∧ Keeps NoBlock w4 wx)
              case first =>
                by_cases e : q = kk
                · have h1 := M1'.out e
                  have b1 : ((q : Int) == kk) = true := by simp [e]
                  have b2 : ((q : Int) != kk) = false := by simp [e]
                  have b3 : decide (r < p) = false := decide_eq_false (by omega)
                  clear e
                  go_quiet (fail)
                  go_wp2_with fail
                  go_meet
                  case rel => exact ⟨by first | rfl | (simp; omega), hkx.drewN _⟩
                · have h1 := M2'.out e
                  have b1 : ((q : Int) == kk) = false := by simp; omega
                  have b2 : ((q : Int) != kk) = true := by simp; omega
                  have b3 : decide (p < r) = false := decide_eq_false (by omega)
                  clear e
                  go_quiet (fail)
                  go_wp2_with fail
                  go_meet
                  case rel => exact ⟨by first | rfl | (simp; omega), hkx.drewN _⟩
              case rest =>
                obtain ⟨rfl, hkx3⟩ := hcut
                go_wp2_with fail
                exact ⟨⟨q + 1, by omega, by go_num, hkx3⟩, by simp [intOf]; omega⟩
            · obtain rfl : k = q := by omega
              go_wp2_with fail
              refine (awake12_calls _).mono ?_
              rintro e w9 ⟨rfl, hk9⟩
              go_wp2_with fail
              go_ret
              exact ⟨rfl, ((hkw4.trans hkx (fun _ _ h => h)).trans hk9 (fun _ _ h => h)).below (Nat.le_refl _) (fun _ h => h.elim)⟩

theorem more_any (w : World) (s : Int) (hs : (Lit.int .u8 s).wf = true) (A : Option Addr) (b off len cap : Nat) (zs : List Int) (hd : IntsAt .i8 w A b off len zs) (hl : len * 1 ≤ 140737488351232)
    (A' : Option Addr) (b' off' len' cap' : Nat) (zs' : List Int) (hp : IntsAt .u8 w A' b' off' len' zs') (hl' : len' * 1 ≤ 140737488351232) (turn : Int) (ht : (Lit.int .i64 turn).wf = true) (who : Int) (h3 : (Lit.int .u8 who).wf = true) (more : Int) (h4 : (Lit.int .u8 more).wf = true) :
    Calls Try.prog 10 #[.int .u8 s, .slice A len cap, .slice A' len' cap', .int .i64 turn, .int .u8 who, .int .u8 more] w fun e w' => e = .returned (.bool true) ∧ Below w.heap.size w w' := by
  have h1 := bounds_u8 hs
  have h2 := bounds_i64 ht
  have h5 := bounds_u8 h3
  have h6 := bounds_u8 h4
  exact more_calls s A b off len cap zs A' b' off' len' cap' zs' turn who more w (by omega) (by omega) (by omega) (by omega) hd hp (by omega) (by omega)
end Go.Proofs.Ytpenanbnadohfaa
