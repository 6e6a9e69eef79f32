/- ShareEven's walk. -/
import Derived.Test.YtpenanbnadohfaaShareW
namespace Go.Proofs.Ytpenanbnadohfaa
open Go.RowKit Sh

set_option maxRecDepth 100000 in
set_option maxHeartbeats 4000000 in
theorem even_calls (s : Int) (A : Option Addr) (b off len cap : Nat) (zs : List Int) (A' : Option Addr) (b' off' len' cap' : Nat) (zs' : List Int) (turn : Int) (w : World) (hs : 0 ≤ s ∧ s < 256) (ht : -9223372036854775808 ≤ turn ∧ turn ≤ 9223372036854775807) (hd : IntsAt .i8 w A b off len zs) (hp : IntsAt .u8 w A' b' off' len' zs') (hl : len ≤ 1000000000000000) (hl' : len' ≤ 1000000000000000) :
    Calls Try.prog 8 #[.int .u8 s, .slice A len cap, .slice A' len' cap', .int .i64 turn] w fun e w' => e = .returned (.bool true) ∧ Below w.heap.size w w' := by
  have Hd := Lib.hid hd
  have Hp := Lib.hid hp
  clear hd hp
  go_enter Try.func8, Try.ntmps8
  go_wp2_with fail
  go_loopw [9, 10, 11] (fun v9 v10 i wr => ∃ (k gd cd gp cp : Nat), k ≤ 8 ∧ k ≤ len ∧ k ≤ len' ∧ i = .int .i64 k ∧ v9 = .slice (some ⟨gd, 0, none⟩) k cd ∧ v10 = .slice (some ⟨gp, 0, none⟩) k cp ∧ Two w wr gd cd gp cp k (zs.take k) ((zs'.take k).map (· % 8))) (fun _ _ i _ => 8 - (intOf i).toNat)
  case atStart =>
    refine ⟨0, _, _, _, _, by omega, by omega, by omega, rfl, rfl, rfl, ⟨?_, ?_, ((Keeps.refl _ _).alloc _).alloc _, ⟨Nat.le_refl _, by omega, by omega⟩, by simp⟩⟩
    · exact World.ownsRow.alloc (World.ownsRow_lit w #[] 0 (Nat.zero_le _) (by simp [maxLen]) rfl) _
    · have := World.ownsRow_lit (base := 0) (e := 3) (size := 1) (w.alloc (.cells #[] 3)) #[] 0 (Nat.zero_le _) (by simp [maxLen]) rfl
      simpa using this
  case round =>
    obtain ⟨k, gd, cd, gp, cp, hk, hkl, hkl', rfl, rfl, rfl, T⟩ := hrel
    by_cases hlt : k < len ∧ k < len' ∧ k < 8
    · obtain ⟨h1, h2, h3⟩ := hlt
      obtain rfl := Hd.out.addr (by omega)
      obtain rfl := Hp.out.addr (by omega)
      have c1 := Hd.out.cell k h1
      have c2 := Hp.out.cell k h2
      have hb1 : b < w.heap.size := World.block_lt_of_cell? w _ c1
      have hb2 : b' < w.heap.size := World.block_lt_of_cell? w _ c2
      obtain ⟨x, hx⟩ : ∃ x, Hid (zs.getD k 0 = x) := ⟨_, rfl⟩
      obtain ⟨y, hy⟩ : ∃ y, Hid (zs'.getD k 0 = y) := ⟨_, rfl⟩
      have bx := bounds_i8 (Hd.out.wf k h1)
      have by_ := bounds_u8 (Hp.out.wf k h2)
      rw [hx.out] at c1 bx
      rw [hy.out] at c2 by_
      rw [← T.keep.cell hb1 (fun h => h)] at c1
      rw [← T.keep.cell hb2 (fun h => h)] at c2
      go_upto_region 5 with fail
      have hwx : IntKind.i64.wrap x = x := IntWalk.i64_in _ (by omega)
      have hwy : IntKind.i64.wrap (y.tmod 8) = y % 8 := by rw [Int.tmod_eq_emod_of_nonneg by_.1]; exact IntWalk.i64_in _ (by omega)
      have o1 := T.own1
      have o2 := T.own2
      obtain ⟨n1, n2, n3⟩ := T.new
      have l1 := o1.lt gd rfl
      have l2 := o2.lt gp rfl
      have kw := T.keep
      go_region_held3 (fun w' => w'.cell? ⟨b, off + k, none⟩ = some (.int .i8 x) ∧ w'.cell? ⟨b', off' + k, none⟩ = some (.int .u8 y))
        (first
          | go_keep
          | (go_split_ands
             refine ⟨?_, ?_⟩ <;> first
              | exact World.grownBy.cell hg2 (by assumption) (by simp [Value.ownBlock]; omega)
              | exact World.grownBy.cell hg1 (by assumption) (by simp [Value.ownBlock]; omega)))
        (first
        | (refine step_app (P := Try.prog) elInts' ?_ (.tmp 36) (.tmp 42) ?_ (.slice (some ⟨gd, 0, none⟩) k cd) k (List.map (Value.int .i64) (zs.take k)) ?_ ?_ ⟨wr.heap.size, 0, none⟩ 1 1 [.int .i64 x] ?_ ?_ (news1 (e := 3) ?_) ?_ ?_ ?_ ?_
           · rfl
           · rfl
           · rfl
           · repeat (first | exact o1 | with_reducible refine World.ownsRow.alloc ?_ _ | with_reducible refine World.ownsRow.drew ?_ | (refine World.ownsRow.kept ?_ hg2 (.inr ?_); rotate_left; focus (simp [Value.ownBlock]; omega)))
           · rfl
           · rfl
           · repeat (first | (refine blk_new ?_; (simp; done)) | with_reducible refine block_alloc_old ?_ | with_reducible refine blk_drew ?_ | (refine blk_grown hg2 ?_ ?_; focus (simp [Value.ownBlock]; omega)))
           · simp [Value.oneCell']
           · simp only [maxLen]; omega
           · omega
           intro v1 w1 ho1 hg1 hf1 hs1
           obtain ⟨g1, c1', rfl⟩ := hs1 (by decide)
           have z1 := World.ownsRow.lt ho1 g1 rfl
           have s1 := hg1.size
           have e1 := hf1 g1 rfl
           simp only [World.size_alloc, World.size_drew, Value.ownBlock, Option.some.injEq] at s1 e1
           clear hs1 hf1)
        | (refine step_app (P := Try.prog) elInts' ?_ (.tmp 36) (.tmp 42) ?_ (.slice (some ⟨gd, 0, none⟩) k cd) k (List.map (Value.int .i64) (zs.take k)) ?_ ?_ ⟨wr.heap.size + 1, 0, none⟩ 1 1 [.int .i64 x] ?_ ?_ (news1 (e := 3) ?_) ?_ ?_ ?_ ?_
           · rfl
           · rfl
           · rfl
           · repeat (first | exact o1 | with_reducible refine World.ownsRow.alloc ?_ _ | with_reducible refine World.ownsRow.drew ?_ | (refine World.ownsRow.kept ?_ hg2 (.inr ?_); rotate_left; focus (simp [Value.ownBlock]; omega)))
           · rfl
           · rfl
           · repeat (first | (refine blk_new ?_; (simp; done)) | with_reducible refine block_alloc_old ?_ | with_reducible refine blk_drew ?_ | (refine blk_grown hg2 ?_ ?_; focus (simp [Value.ownBlock]; omega)))
           · simp [Value.oneCell']
           · simp only [maxLen]; omega
           · omega
           intro v1 w1 ho1 hg1 hf1 hs1
           obtain ⟨g1, c1', rfl⟩ := hs1 (by decide)
           have z1 := World.ownsRow.lt ho1 g1 rfl
           have s1 := hg1.size
           have e1 := hf1 g1 rfl
           simp only [World.size_alloc, World.size_drew, Value.ownBlock, Option.some.injEq] at s1 e1
           clear hs1 hf1)
        | (refine step_app (P := Try.prog) elInts' ?_ (.tmp 36) (.tmp 42) ?_ (.slice (some ⟨gd, 0, none⟩) k cd) k (List.map (Value.int .i64) (zs.take k)) ?_ ?_ ⟨w2.heap.size, 0, none⟩ 1 1 [.int .i64 x] ?_ ?_ (news1 (e := 3) ?_) ?_ ?_ ?_ ?_
           · rfl
           · rfl
           · rfl
           · repeat (first | exact o1 | with_reducible refine World.ownsRow.alloc ?_ _ | with_reducible refine World.ownsRow.drew ?_ | (refine World.ownsRow.kept ?_ hg2 (.inr ?_); rotate_left; focus (simp [Value.ownBlock]; omega)))
           · rfl
           · rfl
           · repeat (first | (refine blk_new ?_; (simp; done)) | with_reducible refine block_alloc_old ?_ | with_reducible refine blk_drew ?_ | (refine blk_grown hg2 ?_ ?_; focus (simp [Value.ownBlock]; omega)))
           · simp [Value.oneCell']
           · simp only [maxLen]; omega
           · omega
           intro v1 w1 ho1 hg1 hf1 hs1
           obtain ⟨g1, c1', rfl⟩ := hs1 (by decide)
           have z1 := World.ownsRow.lt ho1 g1 rfl
           have s1 := hg1.size
           have e1 := hf1 g1 rfl
           simp only [World.size_alloc, World.size_drew, Value.ownBlock, Option.some.injEq] at s1 e1
           clear hs1 hf1)
        | (refine step_app (P := Try.prog) elInts' ?_ (.tmp 44) (.tmp 51) ?_ (.slice (some ⟨gp, 0, none⟩) k cp) k (List.map (Value.int .i64) ((zs'.take k).map (· % 8))) ?_ ?_ ⟨wr.heap.size, 0, none⟩ 1 1 [.int .i64 (y % 8)] ?_ ?_ (news1 (e := 3) ?_) ?_ ?_ ?_ ?_
           · rfl
           · rfl
           · rfl
           · repeat (first | exact o2 | with_reducible refine World.ownsRow.alloc ?_ _ | with_reducible refine World.ownsRow.drew ?_ | (refine World.ownsRow.kept ?_ hg1 (.inr ?_); rotate_left; focus (simp [Value.ownBlock]; omega)))
           · rfl
           · rfl
           · repeat (first | (refine blk_new ?_; (simp; done)) | with_reducible refine block_alloc_old ?_ | with_reducible refine blk_drew ?_ | (refine blk_grown hg1 ?_ ?_; focus (simp [Value.ownBlock]; omega)))
           · simp [Value.oneCell']
           · simp only [maxLen]; omega
           · omega
           intro v2 w2 ho2 hg2 hf2 hs2
           obtain ⟨g2, c2', rfl⟩ := hs2 (by decide)
           have z2 := World.ownsRow.lt ho2 g2 rfl
           have s2 := hg2.size
           have e2 := hf2 g2 rfl
           simp only [World.size_alloc, World.size_drew, Value.ownBlock, Option.some.injEq] at s2 e2
           clear hs2 hf2)
        | (refine step_app (P := Try.prog) elInts' ?_ (.tmp 44) (.tmp 51) ?_ (.slice (some ⟨gp, 0, none⟩) k cp) k (List.map (Value.int .i64) ((zs'.take k).map (· % 8))) ?_ ?_ ⟨wr.heap.size + 1, 0, none⟩ 1 1 [.int .i64 (y % 8)] ?_ ?_ (news1 (e := 3) ?_) ?_ ?_ ?_ ?_
           · rfl
           · rfl
           · rfl
           · repeat (first | exact o2 | with_reducible refine World.ownsRow.alloc ?_ _ | with_reducible refine World.ownsRow.drew ?_ | (refine World.ownsRow.kept ?_ hg1 (.inr ?_); rotate_left; focus (simp [Value.ownBlock]; omega)))
           · rfl
           · rfl
           · repeat (first | (refine blk_new ?_; (simp; done)) | with_reducible refine block_alloc_old ?_ | with_reducible refine blk_drew ?_ | (refine blk_grown hg1 ?_ ?_; focus (simp [Value.ownBlock]; omega)))
           · simp [Value.oneCell']
           · simp only [maxLen]; omega
           · omega
           intro v2 w2 ho2 hg2 hf2 hs2
           obtain ⟨g2, c2', rfl⟩ := hs2 (by decide)
           have z2 := World.ownsRow.lt ho2 g2 rfl
           have s2 := hg2.size
           have e2 := hf2 g2 rfl
           simp only [World.size_alloc, World.size_drew, Value.ownBlock, Option.some.injEq] at s2 e2
           clear hs2 hf2)
        | (refine step_app (P := Try.prog) elInts' ?_ (.tmp 44) (.tmp 51) ?_ (.slice (some ⟨gp, 0, none⟩) k cp) k (List.map (Value.int .i64) ((zs'.take k).map (· % 8))) ?_ ?_ ⟨w1.heap.size, 0, none⟩ 1 1 [.int .i64 (y % 8)] ?_ ?_ (news1 (e := 3) ?_) ?_ ?_ ?_ ?_
           · rfl
           · rfl
           · rfl
           · repeat (first | exact o2 | with_reducible refine World.ownsRow.alloc ?_ _ | with_reducible refine World.ownsRow.drew ?_ | (refine World.ownsRow.kept ?_ hg1 (.inr ?_); rotate_left; focus (simp [Value.ownBlock]; omega)))
           · rfl
           · rfl
           · repeat (first | (refine blk_new ?_; (simp; done)) | with_reducible refine block_alloc_old ?_ | with_reducible refine blk_drew ?_ | (refine blk_grown hg1 ?_ ?_; focus (simp [Value.ownBlock]; omega)))
           · simp [Value.oneCell']
           · simp only [maxLen]; omega
           · omega
           intro v2 w2 ho2 hg2 hf2 hs2
           obtain ⟨g2, c2', rfl⟩ := hs2 (by decide)
           have z2 := World.ownsRow.lt ho2 g2 rfl
           have s2 := hg2.size
           have e2 := hf2 g2 rfl
           simp only [World.size_alloc, World.size_drew, Value.ownBlock, Option.some.injEq] at s2 e2
           clear hs2 hf2)
        | (trace_state; fail))
      all_goals
        have own1' : Own w2 3 1 (.slice (some ⟨g1, 0, none⟩) (k + 1) c1') (k + 1) (List.map (Value.int .i64) (zs.take k) ++ [.int .i64 x]) := by
          repeat (first | exact ho1 | with_reducible refine World.ownsRow.alloc ?_ _ | with_reducible refine World.ownsRow.drew ?_ | (refine World.ownsRow.kept ?_ hg2 (.inr ?_); rotate_left; focus (simp [Value.ownBlock]; omega)))
        have keep' : Keeps NoBlock w w2 := by
          repeat (first | exact kw | with_reducible refine Keeps.alloc ?_ _ | with_reducible refine Keeps.drew ?_ | (refine Keeps.grown ?_ hg2 ?_; rotate_left; focus (intro q hq; simp [Value.ownBlock] at hq; right; omega)) | (refine Keeps.grown ?_ hg1 ?_; rotate_left; focus (intro q hq; simp [Value.ownBlock] at hq; right; omega)))
        have T' : Two w w2 g1 c1' g2 c2' (k + 1) (zs.take (k + 1)) ((zs'.take (k + 1)).map (· % 8)) := by
          refine ⟨?_, ?_, keep', by omega, ?_⟩
          · rw [take_next hx.out (by rw [Hd.out.length]; exact h1)]; simpa using own1'
          · rw [take_next hy.out (by rw [Hp.out.length]; exact h2)]; simpa using ho2
          · have := Hd.out.length; have := Hp.out.length; simp; omega
        clear own1' keep' ho1 ho2 hg1 hg2
        go_wp2_with fail
        exact ⟨⟨k + 1, _, _, _, _, by omega, by omega, by omega, by go_num, rfl, rfl, T'⟩, by simp [intOf]; omega⟩
    · go_upto_region 3 with fail
      go_cut [33] from 20 to 32 (fun v wx => v = .bool false ∧ wr = wx)
      case first =>
        by_cases h1 : k < len
        · by_cases h2 : k < len'
          · have h3 : 8 ≤ (k : Int) := by omega
            go_wp2_with fail
            go_meet
            case rel => exact ⟨by rw [decide_eq_false (by omega)], rfl⟩
          · have h3 : (len' : Int) ≤ k := by omega
            clear h2
            go_wp2_with fail
            go_meet
            case rel => exact ⟨rfl, rfl⟩
        · have h3 : (len : Int) ≤ k := by omega
          clear h1
          go_wp2_with fail
          go_meet
          case rel => exact ⟨rfl, rfl⟩
      case rest =>
        obtain ⟨rfl, rfl⟩ := hcut
        obtain ⟨dl, hdl⟩ : ∃ dl, Hid (dl = zs.take k) := ⟨_, Lib.hid rfl⟩
        obtain ⟨pl, hpl⟩ : ∃ pl, Hid (pl = (zs'.take k).map (· % 8)) := ⟨_, Lib.hid rfl⟩
        rw [← hdl.out, ← hpl.out] at T
        have zl := Hd.out.length
        have zl' := Hp.out.length
        obtain ⟨ld, lp⟩ := T.len
        have hdb : Hid (∀ x ∈ dl, x ≤ 9223372036854775807) := fun x hx => by
          rw [hdl.out] at hx
          obtain ⟨j, hj, rfl⟩ := List.getElem_of_mem (List.mem_of_mem_take hx)
          have := bounds_i8 (Hd.out.wf j (by omega))
          simp [List.getD, hj] at this
          omega
        have hpv : Hid (∀ j, j < pl.length → 0 ≤ at0 pl j ∧ at0 pl j ≤ 7) := fun j hj => by
          rw [hpl.out] at hj ⊢
          simp only [List.length_map] at hj
          rw [at0_map _ hj]
          omega
        have Ld := Lib.hid ld
        have Lp := Lib.hid lp
        have r1 : ReadsI .i64 wr (.slice (some ⟨gd, 0, none⟩) k cd) dl := by have := T.own1; rw [← ld] at this ⊢; exact Own.readsI this
        have r2 : ReadsI .i64 wr (.slice (some ⟨gp, 0, none⟩) k cp) pl := by have := T.own2; rw [← lp] at this ⊢; exact Own.readsI this
        clear ld lp zl zl' hlt
        go_wp2_with fail
        refine (fair_calls wr _ _ dl pl (s % 65) turn r1 r2 (by rw [Ld.out]; omega) (by rw [Lp.out]; omega) hdb.out ht).mono ?_
        rintro e w2 ⟨v, o, rfl, ⟨ho, hnew⟩, hk2, hres⟩
        have S : Hid (Sh.Spec (s % 65) dl pl k (firstOf turn k) o) := by
          rcases hres with ⟨_, h⟩ | ⟨h, _⟩
          · rw [Ld.out] at h; exact h
          · exact absurd ⟨by rw [Ld.out, Lp.out], by rw [Ld.out]; omega, by omega, by omega, hpv.out⟩ h
        clear hres
        have ol := Lib.hid S.out.len
        have ro := Own.readsI ho
        obtain ⟨A3, b3, o3, c3, hv, hA3, hc3⟩ := ro
        rw [ol.out] at hv hA3
        subst hv
        have q1 := r1.keeps hk2 (fun _ _ h => h)
        have q2 := r2.keeps hk2 (fun _ _ h => h)
        have hkw : Keeps NoBlock w w2 := T.keep.trans hk2 (fun _ _ h => h)
        -- the cells, by number
        have C1 : Hid (∀ w', Keeps NoBlock w2 w' → ∀ j, j < k → w'.cell? ⟨gd, j, none⟩ = some (.int .i64 (at0 dl j))) := Lib.hid (fun w' hk j hj => by
          have h1 := (T.own1.keeps hk2 (fun _ _ h => h)).keeps hk (fun _ _ h => h)
          rw [World.ownsRow.cellAt h1 j (by omega), List.getElem?_map]
          have : j < dl.length := by rw [Ld.out]; exact hj
          simp [at0, this])
        have C2 : Hid (∀ w', Keeps NoBlock w2 w' → ∀ j, j < k → w'.cell? ⟨gp, j, none⟩ = some (.int .i64 (at0 pl j))) := Lib.hid (fun w' hk j hj => by
          have h1 := (T.own2.keeps hk2 (fun _ _ h => h)).keeps hk (fun _ _ h => h)
          rw [World.ownsRow.cellAt h1 j (by omega), List.getElem?_map]
          have : j < pl.length := by rw [Lp.out]; exact hj
          simp [at0, this])
        have C3 : Hid (∀ w', Keeps NoBlock w2 w' → ∀ j, j < k → w'.cell? ⟨b3, o3 + j, none⟩ = some (.int .i64 (at0 o j))) := Lib.hid (fun w' hk j hj => by
          rw [hk.cell (hA3 (by omega)).2 (fun h => h)]
          have : j < o.length := by rw [ol.out]; exact hj
          exact hc3 j _ (by simp [at0, this]))
        have HA3 := Lib.hid hA3
        clear hA3 hc3 ho hnew r1 r2 q1 q2 T hk2 hdb hpv
        have hsum := Lib.hid (take_sum_bd (o := o) (fun i hi => S.out.lo i (by rw [← ol.out]; exact hi)))
        have hsp := S.out.sum
        obtain ⟨tot, htot⟩ : ∃ tot, Hid (o.sum = tot) := ⟨_, Lib.hid rfl⟩
        rw [htot.out] at hsp
        have htot0 : 0 ≤ tot := by have := hsum.out 0 (Nat.zero_le _); rw [htot.out] at this; simp at this; exact this
        go_wp2_with fail
        go_loopw [14, 15] (fun v i wx => ∃ q : Nat, q ≤ k ∧ i = .int .i64 q ∧ ∃ x, Hid (x = (o.take q).sum) ∧ v = .int .i64 x ∧ Keeps NoBlock w2 wx) (fun _ i _ => k - (intOf i).toNat)
        case atStart => exact ⟨0, Nat.zero_le _, rfl, 0, Lib.hid (by simp), rfl, Keeps.refl _ _⟩
        case round =>
          obtain ⟨q, hq, rfl, x, hx, rfl, hkx⟩ := hrel
          by_cases hql : q < k
          · obtain ⟨rfl, hb3⟩ := HA3.out (by omega)
            have c1 := C1.out _ hkx q hql
            have c3' := C3.out _ hkx q hql
            have hlo := S.out.lo q hql
            have hhi := S.out.hi q hql
            have hxb := hsum.out q (by rw [ol.out]; omega)
            have hxb2 := hsum.out (q + 1) (by rw [ol.out]; omega)
            have hx2 := take_sum (o := o) (i := q) (by rw [ol.out]; exact hql)
            rw [hx2, ← hx.out, htot.out] at hxb2
            rw [← hx.out, htot.out] at hxb
            obtain ⟨y, hy⟩ : ∃ y, Hid (at0 o q = y) := ⟨_, Lib.hid rfl⟩
            obtain ⟨z, hz⟩ : ∃ z, Hid (at0 dl q = z) := ⟨_, Lib.hid rfl⟩
            rw [hy.out] at c3' hlo hhi hxb2
            rw [hz.out] at c1 hhi
            have hx3 : Hid (x + y = (o.take (q + 1)).sum) := Lib.hid (by rw [hx2, ← hx.out, hy.out])
            clear hx2
            go_upto_region 15 with fail
            go_cut [100] from 78 to 99 (fun v wx => v = .bool false ∧ Keeps NoBlock w2 wx)
            case first =>
              by_cases hy0 : 0 < y
              · have hyz : y ≤ z := by omega
                go_quiet (fail)
                go_wp2_with fail
                go_meet
                case rel => exact ⟨by rw [decide_eq_false (show ¬ y < 0 by omega), decide_eq_false (show ¬ z < y by omega)]; rfl, hkx.drewN _⟩
              · have hy1 : y ≤ 0 := by omega
                have hyb : decide (0 < y) = false := decide_eq_false hy0
                have hyc : decide (y < 0) = false := decide_eq_false (by omega)
                clear hy0
                go_quiet (fail)
                go_wp2_with fail
                go_meet
                case rel => exact ⟨rfl, hkx.drewN _⟩
            case rest =>
              obtain ⟨rfl, hkx2⟩ := hcut
              go_wp2_with fail
              exact ⟨⟨q + 1, by omega, by go_num, _, hx3, rfl, hkx2⟩, by simp [intOf]; omega⟩
          · obtain rfl : k = q := by omega
            obtain rfl : tot = x := by rw [hx.out, ← htot.out, List.take_of_length_le (by rw [ol.out]; exact Nat.le_refl _)]
            clear hx
            go_wp2_with fail
            go_loopw [16] (fun i wx => ∃ q : Nat, q ≤ k ∧ i = .int .i64 q ∧ Keeps NoBlock w2 wx) (fun i _ => k - (intOf i).toNat)
            case atStart => exact ⟨0, Nat.zero_le _, rfl, hkx⟩
            case round =>
              clear hkx
              obtain ⟨q, hq, rfl, hkx⟩ := hrel
              by_cases hql : q < k
              · obtain ⟨rfl, hb3⟩ := HA3.out (by omega)
                have c1 := C1.out _ hkx q hql
                have c3' := C3.out _ hkx q hql
                have hall := S.out.all
                rw [htot.out] at hall
                have hfull : Hid (at0 o q < at0 dl q → tot < s % 65 → False) := Lib.hid (fun h1 h2 => by
                  rcases hall with h | h
                  · omega
                  · have := h q hql; omega)
                obtain ⟨y, hy⟩ : ∃ y, Hid (at0 o q = y) := ⟨_, Lib.hid rfl⟩
                obtain ⟨z, hz⟩ : ∃ z, Hid (at0 dl q = z) := ⟨_, Lib.hid rfl⟩
                rw [hy.out] at c3' hfull
                rw [hz.out] at c1 hfull
                clear hall
                go_upto_region 20 with fail
                go_cut [120] from 107 to 119 (fun v wx => v = .bool false ∧ Keeps NoBlock w2 wx)
                case first =>
                  by_cases hyz : y < z
                  · have hts : s % 65 ≤ tot := by
                      apply Classical.byContradiction
                      intro hc
                      exact hfull.out hyz (by omega)
                    go_quiet (fail)
                    go_wp2_with fail
                    go_meet
                    case rel => exact ⟨by first | rfl | rw [decide_eq_false (by omega)], hkx.drewN _⟩
                  · have hyb : decide (y < z) = false := decide_eq_false hyz
                    go_quiet (fail)
                    go_wp2_with fail
                    go_meet
                    case rel => exact ⟨rfl, hkx.drewN _⟩
                case rest =>
                  obtain ⟨rfl, hkx2⟩ := hcut
                  go_wp2_with fail
                  obtain ⟨wo, rfl⟩ : ∃ wo : World, wo = wc := ⟨_, rfl⟩
                  go_loopw [17] (fun i wx => ∃ r : Nat, r ≤ k ∧ i = .int .i64 r ∧ Keeps NoBlock w2 wx) (fun i _ => k - (intOf i).toNat)
                  case atStart => exact ⟨0, Nat.zero_le _, rfl, hkx2⟩
                  case round =>
                    clear hkx2 hkx c1 c3'
                    obtain ⟨r, hr, rfl, hkx⟩ := hrel
                    by_cases hrl : r < k
                    · have c1 := C1.out _ hkx q hql
                      have c3' := C3.out _ hkx q hql
                      have d2 := C2.out _ hkx q hql
                      have e2 := C2.out _ hkx r hrl
                      have e3 := C3.out _ hkx r hrl
                      obtain ⟨u, hu⟩ : ∃ u, Hid (at0 pl q = u) := ⟨_, Lib.hid rfl⟩
                      obtain ⟨v, hv⟩ : ∃ v, Hid (at0 pl r = v) := ⟨_, Lib.hid rfl⟩
                      obtain ⟨x, hx⟩ : ∃ x, Hid (at0 o r = x) := ⟨_, Lib.hid rfl⟩
                      have hlo := S.out.lo r hrl
                      have hlq := S.out.lo q hql
                      have hzb : z < 9223372036854775807 ∨ True := .inr trivial
                      have K1 : Hid (u = v → y < z → x ≤ y + 1) := Lib.hid (fun h1 h2 => by
                        apply Classical.byContradiction
                        intro hc
                        by_cases e : r = q
                        · subst e; have := hy.out; have := hx.out; omega
                        · have hk := S.out.key r q hrl hql e (by rw [hx.out]; rw [hy.out] at hlq; omega) (by rw [hy.out, hz.out]; exact h2)
                          rw [hx.out, hy.out, hu.out, hv.out] at hk
                          unfold before at hk; omega)
                      have K2 : Hid (v < u → y < z → x ≤ 0) := Lib.hid (fun h1 h2 => by
                        apply Classical.byContradiction
                        intro hc
                        by_cases e : r = q
                        · subst e; have := hu.out; have := hv.out; omega
                        · have hk := S.out.key r q hrl hql e (by rw [hx.out]; omega) (by rw [hy.out, hz.out]; exact h2)
                          rw [hx.out, hy.out, hu.out, hv.out] at hk
                          unfold before at hk; omega)
                      have hyb : Hid (y ≤ 64) := Lib.hid (by
                        have h1 := hsum.out (q + 1) (by rw [ol.out]; omega)
                        rw [take_sum (by rw [ol.out]; exact hql)] at h1
                        have h2 := hsum.out q (by rw [ol.out]; omega)
                        have := hy.out; have := htot.out; omega)
                      rw [hy.out] at c3' hlq
                      rw [hz.out] at c1
                      rw [hu.out] at d2
                      rw [hv.out] at e2
                      rw [hx.out] at e3 hlo
                      have hy64 := hyb.out
                      clear hzb
                      go_upto_region 25 with fail
                      go_cut [187] from 127 to 186 (fun v wx => v = .bool false ∧ Keeps NoBlock w2 wx)
                      case first =>
                        by_cases huv : u = v
                        · have b1 : (u == v) = true := by simp [huv]
                          have b2 : decide (v < u) = false := decide_eq_false (by omega)
                          by_cases hyz : y < z
                          · have hk1 := K1.out huv hyz
                            have hw1 : IntKind.i64.wrap (y + 1) = y + 1 := IntWalk.i64_in _ (by omega)
                            have b4 : decide (y + 1 < x) = false := decide_eq_false (by omega)
                            clear huv
                            go_quiet (fail)
                            go_wp2_with fail
                            go_meet
                            case rel => exact ⟨by first | rfl | (simp; omega), hkx.drewN _⟩
                          · have b3 : decide (y < z) = false := decide_eq_false hyz
                            clear huv hyz
                            go_quiet (fail)
                            go_wp2_with fail
                            go_meet
                            case rel => exact ⟨by first | rfl | (simp; omega), hkx.drewN _⟩
                        · have b1 : (u == v) = false := by simp [huv]
                          by_cases hvu : v < u
                          · by_cases hyz : y < z
                            · have hk1 := K2.out hvu hyz
                              have b4 : decide (0 < x) = false := decide_eq_false (by omega)
                              clear huv
                              go_quiet (fail)
                              go_wp2_with fail
                              go_meet
                              case rel => exact ⟨by first | rfl | (simp; omega), hkx.drewN _⟩
                            · have b3 : decide (y < z) = false := decide_eq_false hyz
                              clear huv hyz
                              go_quiet (fail)
                              go_wp2_with fail
                              go_meet
                              case rel => exact ⟨by first | rfl | (simp; omega), hkx.drewN _⟩
                          · have b2 : decide (v < u) = false := decide_eq_false hvu
                            clear huv hvu
                            go_quiet (fail)
                            go_wp2_with fail
                            go_meet
                            case rel => exact ⟨by first | rfl | (simp; omega), hkx.drewN _⟩
                      case rest =>
                        obtain ⟨rfl, hkx3⟩ := hcut
                        go_wp2_with fail
                        exact ⟨⟨r + 1, by omega, by go_num, hkx3⟩, by simp [intOf]; omega⟩
                    · obtain rfl : k = r := by omega
                      go_wp2_with fail
                      exact ⟨⟨q + 1, by omega, by go_num, hkx⟩, by simp [intOf]; omega⟩
              · obtain rfl : k = q := by omega
                have hts : tot ≤ s % 65 := hsp
                go_wp2_with fail
                refine (awake12_calls _).mono ?_
                rintro e w9 ⟨rfl, hk9⟩
                go_wp2_with fail
                go_ret
                exact ⟨rfl, ((hkw.trans hkx (fun _ _ h => h)).trans hk9 (fun _ _ h => h)).below (Nat.le_refl _) (fun _ h => h.elim)⟩

theorem even_any (w : World) (s : Int) (hs : (Lit.int .u8 s).wf = true) (A : Option Addr) (b off len cap : Nat) (zs : List Int) (hd : IntsAt .i8 w A b off len zs) (hl : len * 1 ≤ 140737488351232)
    (A' : Option Addr) (b' off' len' cap' : Nat) (zs' : List Int) (hp : IntsAt .u8 w A' b' off' len' zs') (hl' : len' * 1 ≤ 140737488351232) (turn : Int) (ht : (Lit.int .i64 turn).wf = true) :
    Calls Try.prog 8 #[.int .u8 s, .slice A len cap, .slice A' len' cap', .int .i64 turn] w fun e w' => e = .returned (.bool true) ∧ Below w.heap.size w w' := by
  have h1 := bounds_u8 hs
  have h2 := bounds_i64 ht
  exact even_calls s A b off len cap zs A' b' off' len' cap' zs' turn w (by omega) (by omega) hd hp (by omega) (by omega)
end Go.Proofs.Ytpenanbnadohfaa
