/- The document's answer for what is left of a vessel. -/
import Derived.Test.YtpchhlhjmkkoiaaVsA
namespace Go.Proofs.Ytpchhlhjmkkoiaa
open Go.RowKit

def StripRel (wB : World) (box : Nat) (bc : Array Value) (PL xs : List Ev) (n : Nat) (v i : Value) (wr : World) : Prop :=
  ∃ (k : Nat) (m : List Ev) (A5 : Option Addr) (c5 : Nat), k ≤ n ∧ i = .int .i64 k ∧ v = .slice A5 m.length c5 ∧ m.length ≤ 1 + k ∧ Hid (m = PL ++ (xs.take k).filterMap fKeep) ∧ Hid (Mine wB wr 36 3 (.slice A5 m.length c5) m.length (m.flatMap encE)) ∧ Hid (wr.heap[box]? = some (.cells bc 29 (0, 0)))

set_option maxHeartbeats 4000000 in
set_option maxRecDepth 100000 in
theorem stripR_calls (mode thread : Int) (A : Option Addr) (c : Nat) (xs : List Ev) (w : World) (h : Rd encE 3 w (.slice A xs.length c) xs) (hl : xs.length * 24 ≤ 140737488351232) :
    Calls Try.prog 14 #[vesV mode thread A xs.length c] w (NewEvs w (preL mode thread ++ xs.filterMap fKeep)) := by
  obtain ⟨A', b, off, c', hv, hA, hc⟩ := h
  cases hv
  obtain ⟨n, hn⟩ : ∃ n, Hid (xs.length = n) := ⟨_, rfl⟩
  have Hc := Lib.hid hc
  have HA := Lib.hid hA
  rw [hn.out] at hl HA ⊢
  clear hA hc
  obtain ⟨PL, hPL⟩ : ∃ PL, Hid (PL = preL mode thread) := ⟨_, rfl⟩
  obtain ⟨SL, hSL⟩ : ∃ SL, Hid (SL = preL mode thread ++ xs.filterMap fKeep) := ⟨_, rfl⟩
  rw [← hSL.out]
  go_enter Try.func14, Try.ntmps14
  go_upto_region 2 with fail
  obtain ⟨wB, hwB⟩ : ∃ wB, wB = w.alloc (.cells (vesC mode thread A n c) 29) := ⟨_, rfl⟩
  have kB : Hid (Keeps NoBlock w wB) := by show Keeps _ _ _; rw [hwB]; exact (Keeps.refl _ _).alloc _
  have zB : wB.heap.size = w.heap.size + 1 := by rw [hwB]; simp
  have zB' : w.heap.size < wB.heap.size := by omega
  obtain ⟨wA, hwA⟩ : ∃ wA, wA = (w.alloc (.cells (vesC mode thread A n c) 29)).alloc (.cells #[] 36) := ⟨_, rfl⟩
  have MA : Hid (Mine wB wA 36 3 (.slice (some ⟨w.heap.size + 1, 0, none⟩) 0 0) 0 []) := by
    show Mine _ _ _ _ _ _ _
    have h1 := mine_empty wB
    rw [zB, hwB] at h1
    rw [hwA, hwB]
    exact h1
  have BA : Hid (wA.heap[w.heap.size]? = some (.cells (vesC mode thread A n c) 29 (0, 0))) := by
    show _ = _
    rw [hwA]; exact block_alloc_old (block_alloc_new _ _)
  rw [← hwA]
  clear hwA hwB zB
  have p0 : wA.cell? ⟨w.heap.size, 0, none⟩ = some (.int .i64 mode) := cell_of_block BA.out rfl
  have p1 : wA.cell? ⟨w.heap.size, 1, none⟩ = some (.int .i64 thread) := cell_of_block BA.out rfl
  have p2 : wA.cell? ⟨w.heap.size, 2, none⟩ = some (.slice A n c) := cell_of_block BA.out rfl
  have zA := lt_of_block BA.out
  go_cut [4] from 11 to 23 (fun v wx => v = .bool (holdsB mode) ∧ wA = wx)
  case first =>
    rcases mode_cases mode with rfl | rfl | rfl | rfl | rfl | ⟨h2, h4, h5, h6, h7⟩
    · go_wp2_with fail
      go_meet
      case rel => exact ⟨by rfl, rfl⟩
    · go_wp2_with fail
      go_meet
      case rel => exact ⟨by rfl, rfl⟩
    · go_wp2_with fail
      go_meet
      case rel => exact ⟨by rfl, rfl⟩
    · go_wp2_with fail
      go_meet
      case rel => exact ⟨by rfl, rfl⟩
    · go_wp2_with fail
      go_meet
      case rel => exact ⟨by rfl, rfl⟩
    · go_wp2_with fail
      go_meet
      case rel => exact ⟨by simp [holdsB, h2, h4, h7], rfl⟩
  case rest =>
    obtain ⟨rfl, rfl⟩ := hcut
    go_upto_region 3 with fail
    go_cut [5] from 24 to 41 (fun v wx => v = .bool (vrunsB mode thread) ∧ wA = wx)
    case first =>
     by_cases hth : 0 ≤ thread
     · skip
       rcases mode_cases mode with rfl | rfl | rfl | rfl | rfl | ⟨h2, h4, h5, h6, h7⟩
       · go_wp2_with fail
         go_meet
         case rel => exact ⟨by simp [vrunsB, hth], rfl⟩
       · go_wp2_with fail
         go_meet
         case rel => exact ⟨by simp [vrunsB, hth], rfl⟩
       · go_wp2_with fail
         go_meet
         case rel => exact ⟨by simp [vrunsB, hth], rfl⟩
       · go_wp2_with fail
         go_meet
         case rel => exact ⟨by simp [vrunsB, hth], rfl⟩
       · go_wp2_with fail
         go_meet
         case rel => exact ⟨by simp [vrunsB, hth], rfl⟩
       · go_wp2_with fail
         go_meet
         case rel => exact ⟨by simp [vrunsB, h5, h6, h7], rfl⟩
     · have hd : Hid (decide (0 ≤ thread) = false) := decide_eq_false hth
       have hth' : thread < 0 := by omega
       clear hth
       rcases mode_cases mode with rfl | rfl | rfl | rfl | rfl | ⟨h2, h4, h5, h6, h7⟩
       · go_wp2_with fail
         go_meet
         case rel => exact ⟨by simp [vrunsB, hd.out], rfl⟩
       · go_wp2_with fail
         go_meet
         case rel => exact ⟨by simp [vrunsB, hd.out], rfl⟩
       · go_wp2_with fail
         go_meet
         case rel => exact ⟨by simp [vrunsB, hd.out], rfl⟩
       · go_wp2_with fail
         go_meet
         case rel => exact ⟨by simp [vrunsB, hd.out], rfl⟩
       · go_wp2_with fail
         go_meet
         case rel => exact ⟨by simp [vrunsB, hd.out], rfl⟩
       · go_wp2_with fail
         go_meet
         case rel => exact ⟨by simp [vrunsB, hd.out], rfl⟩
    case rest =>
      obtain ⟨rfl, rfl⟩ := hcut
      go_upto_region 4 with fail
      go_cut [4, 5, 45] from 42 to 44 (fun v4 v5 v wx => v4 = .bool (holdsB mode) ∧ v5 = .bool (vrunsB mode thread) ∧ v = .bool (holdsB mode || vrunsB mode thread) ∧ wA = wx)
      case first =>
        cases hh : holdsB mode <;> cases hr : vrunsB mode thread
        · go_wp2_with fail
          go_meet
          case rel => exact ⟨by rw [hh], by rw [hr], by rw [hh, hr]; rfl, rfl⟩
        · go_wp2_with fail
          go_meet
          case rel => exact ⟨by rw [hh], by rw [hr], by rw [hh, hr]; rfl, rfl⟩
        · go_wp2_with fail
          go_meet
          case rel => exact ⟨by rw [hh], by rw [hr], by rw [hh, hr]; rfl, rfl⟩
        · go_wp2_with fail
          go_meet
          case rel => exact ⟨by rw [hh], by rw [hr], by rw [hh, hr]; rfl, rfl⟩
      case rest =>
        obtain ⟨rfl, rfl, rfl, rfl⟩ := hcut
        go_upto_if 45 with fail
        go_cut [3, 4, 5, 6] from 45 to 58 (fun v v4 v5 v6 wx => ∃ A5 c5, v = .slice A5 PL.length c5 ∧ Hid (Mine wB wx 36 3 (.slice A5 PL.length c5) PL.length (PL.flatMap encE)) ∧ Hid (wx.heap[w.heap.size]? = some (.cells (vesC mode thread A n c) 29 (0, 0))))
        case first =>
          cases hh : holdsB mode <;> cases hr : vrunsB mode thread
          · skip
            have hp : Hid (PL = []) := by show _ = _; rw [hPL.out]; simp [preL, hh, hr]
            clear hh hr
            go_wp2_with fail
            go_meet
            case rel => exact ⟨some ⟨w.heap.size + 1, 0, none⟩, 0, by rw [hp.out]; rfl, by rw [hp.out]; exact MA.out, BA.out⟩
          · skip
            have hp : Hid (PL = [Ev.mk 4 thread 0]) := by show _ = _; rw [hPL.out]; simp [preL, hh, hr]
            clear hh hr
            have hnb := Lib.hid (newsB (e := 36) (blk_new (w := wA.alloc (.cells #[.int .i64 4, .int .i64 thread, .int .i64 0] 36)) (o := .cells #[.int .i64 4, .int .i64 thread, .int .i64 0] 36) (k := wA.heap.size + 1) (by simp)))
            go_wp2_with (at_builtin; refine wpList_appN eE _ rfl _ _ rfl (.slice (some ⟨w.heap.size + 1, 0, none⟩) 0 0) 0 [] rfl (World.ownsRow.alloc (World.ownsRow.alloc MA.out.own _) _) ⟨wA.heap.size + 1, 0, none⟩ 1 1 [.int .i64 4, .int .i64 thread, .int .i64 0] rfl rfl hnb.out ?_ ?_ ?_ ?_)
            · simp [Value.oneCell']
            · simp [maxLen]
            · omega
            rintro v4 w4 ho4 hg4 hf4 g4 c4 rfl
            have M4 := Lib.hid (MA.out.grow (((Keeps.refl _ wA).alloc _).alloc _) ho4 hg4 hf4 (by omega))
            have b4 : Hid (w4.heap[w.heap.size]? = some (.cells (vesC mode thread A n c) 29 (0, 0))) := blk_grown hg4 (by simp only [Value.ownBlock, ne_eq, Option.some.injEq]; omega) (block_alloc_old (block_alloc_old BA.out))
            clear ho4 hg4 hf4 hnb
            go_wp2_with fail
            go_meet
            case rel => exact ⟨some ⟨g4, 0, none⟩, c4, by rw [hp.out]; rfl, by rw [hp.out]; exact M4.out, b4.out⟩
          · skip
            have hp : Hid (PL = [Ev.mk 4 (-1) mode]) := by show _ = _; rw [hPL.out]; simp [preL, hh, hr]
            clear hh hr
            have hnb := Lib.hid (newsB (e := 36) (blk_new (w := wA.alloc (.cells #[.int .i64 4, .int .i64 (-1), .int .i64 mode] 36)) (o := .cells #[.int .i64 4, .int .i64 (-1), .int .i64 mode] 36) (k := wA.heap.size + 1) (by simp)))
            go_wp2_with (at_builtin; refine wpList_appN eE _ rfl _ _ rfl (.slice (some ⟨w.heap.size + 1, 0, none⟩) 0 0) 0 [] rfl (World.ownsRow.alloc (World.ownsRow.alloc MA.out.own _) _) ⟨wA.heap.size + 1, 0, none⟩ 1 1 [.int .i64 4, .int .i64 (-1), .int .i64 mode] rfl rfl hnb.out ?_ ?_ ?_ ?_)
            · simp [Value.oneCell']
            · simp [maxLen]
            · omega
            rintro v4 w4 ho4 hg4 hf4 g4 c4 rfl
            have M4 := Lib.hid (MA.out.grow (((Keeps.refl _ wA).alloc _).alloc _) ho4 hg4 hf4 (by omega))
            have b4 : Hid (w4.heap[w.heap.size]? = some (.cells (vesC mode thread A n c) 29 (0, 0))) := blk_grown hg4 (by simp only [Value.ownBlock, ne_eq, Option.some.injEq]; omega) (block_alloc_old (block_alloc_old BA.out))
            clear ho4 hg4 hf4 hnb
            go_wp2_with fail
            go_meet
            case rel => exact ⟨some ⟨g4, 0, none⟩, c4, by rw [hp.out]; rfl, by rw [hp.out]; exact M4.out, b4.out⟩
          · skip
            have hp : Hid (PL = [Ev.mk 4 thread mode]) := by show _ = _; rw [hPL.out]; simp [preL, hh, hr]
            clear hh hr
            have hnb := Lib.hid (newsB (e := 36) (blk_new (w := wA.alloc (.cells #[.int .i64 4, .int .i64 thread, .int .i64 mode] 36)) (o := .cells #[.int .i64 4, .int .i64 thread, .int .i64 mode] 36) (k := wA.heap.size + 1) (by simp)))
            go_wp2_with (at_builtin; refine wpList_appN eE _ rfl _ _ rfl (.slice (some ⟨w.heap.size + 1, 0, none⟩) 0 0) 0 [] rfl (World.ownsRow.alloc (World.ownsRow.alloc MA.out.own _) _) ⟨wA.heap.size + 1, 0, none⟩ 1 1 [.int .i64 4, .int .i64 thread, .int .i64 mode] rfl rfl hnb.out ?_ ?_ ?_ ?_)
            · simp [Value.oneCell']
            · simp [maxLen]
            · omega
            rintro v4 w4 ho4 hg4 hf4 g4 c4 rfl
            have M4 := Lib.hid (MA.out.grow (((Keeps.refl _ wA).alloc _).alloc _) ho4 hg4 hf4 (by omega))
            have b4 : Hid (w4.heap[w.heap.size]? = some (.cells (vesC mode thread A n c) 29 (0, 0))) := blk_grown hg4 (by simp only [Value.ownBlock, ne_eq, Option.some.injEq]; omega) (block_alloc_old (block_alloc_old BA.out))
            clear ho4 hg4 hf4 hnb
            go_wp2_with fail
            go_meet
            case rel => exact ⟨some ⟨g4, 0, none⟩, c4, by rw [hp.out]; rfl, by rw [hp.out]; exact M4.out, b4.out⟩
        case rest =>
          obtain ⟨A5, c5, rfl, M5, B5⟩ := hcut
          have hpl : PL.length ≤ 1 := by rw [hPL.out]; exact preL_len mode thread
          clear p0 p1 p2 MA BA
          go_wp2_with fail
          go_loopw [3, 7] (fun v i wr => StripRel wB w.heap.size (vesC mode thread A n c) PL xs n v i wr) (fun _ i _ => n - (intOf i).toNat)
          case atStart => exact ⟨0, PL, A5, c5, Nat.zero_le _, rfl, rfl, by omega, by show _ = _; simp, M5.out, B5.out⟩
          case round =>
            obtain ⟨k, m, A6, c6, hk, rfl, rfl, hml, hm, HM, HB⟩ := hrel
            clear M5 B5
            have p2 : wr.cell? ⟨w.heap.size, 2, none⟩ = some (.slice A n c) := cell_of_block HB.out rfl
            have zr := lt_of_block HB.out
            by_cases hlt : k < n
            · obtain ⟨x, hx⟩ : ∃ x, xs[k]? = some x := ⟨_, List.getElem?_eq_getElem (by rw [hn.out]; exact hlt)⟩
              obtain ⟨rfl, hb1⟩ := HA.out (by omega)
              have hcx := cells3 Hc.out hx
              have kw := kB.out.trans HM.out.kp (fun _ _ h => h)
              rw [← kw.cell hb1 (fun h => h), ← kw.cell hb1 (fun h => h), ← kw.cell hb1 (fun h => h)] at hcx
              have Hx := Lib.hid hx
              clear hx
              obtain ⟨kind, th, mo⟩ := x
              dsimp only at hcx
              have hbr : b < wr.heap.size := Nat.lt_of_lt_of_le hb1 kw.size
              clear kw
              cases hr : runsB ⟨kind, th, mo⟩ with
              | true =>
                have hfin : Hid (PL ++ (xs.take (k + 1)).filterMap fKeep = m ++ [Ev.mk kind th mo]) := by
                  show _ = _
                  rw [filterMap_yes fKeep xs k _ (Ev.mk kind th mo) Hx.out (by simp [fKeep, keepB, hr]), hm.out, List.append_assoc]
                have hcall := Lib.hid (fun W => runsR_calls ⟨kind, th, mo⟩ W true hr)
                clear hr
                go_wp2_with fail
                refine (hcall.out _).mono ?_
                rintro e w2 ⟨rfl, k2⟩
                have q0 : w2.cell? ⟨b, off + k * 3, none⟩ = some (.int .i64 kind) := (k2.cell hbr (fun h => h)).trans hcx.1
                have q1 : w2.cell? ⟨b, off + k * 3 + 1, none⟩ = some (.int .i64 th) := (k2.cell hbr (fun h => h)).trans hcx.2.1
                have q2 : w2.cell? ⟨b, off + k * 3 + 2, none⟩ = some (.int .i64 mo) := (k2.cell hbr (fun h => h)).trans hcx.2.2
                have b2 : Hid (w2.heap[w.heap.size]? = some (.cells (vesC mode thread (some ⟨b, off, none⟩) n c) 29 (0, 0))) := (k2.block _ zr (fun h => h)).trans HB.out
                have r2 : w2.cell? ⟨w.heap.size, 2, none⟩ = some (.slice (some ⟨b, off, none⟩) n c) := cell_of_block b2.out rfl
                have M2 := Lib.hid (HM.out.keeps k2)
                clear k2 hcall hcx p2
                go_wp2_with (at_builtin; refine wpList_appN eE _ rfl _ _ rfl (.slice A6 m.length c6) m.length _ rfl (World.ownsRow.alloc M2.out.own _) ⟨w2.heap.size, 0, none⟩ 1 1 [.int .i64 kind, .int .i64 th, .int .i64 mo] rfl rfl (newsB (e := 36) (block_alloc_new w2 _)) ?_ ?_ ?_ ?_)
                · simp [Value.oneCell']
                · simp only [maxLen]; omega
                · omega
                rintro v4 w4 ho4 hg4 hf4 g4 c4 rfl
                have hln : (m ++ [Ev.mk kind th mo]).length = m.length + 1 := by simp
                have M4 := M2.out.grow ((Keeps.refl _ w2).alloc _) ho4 hg4 hf4 (by omega)
                have b4 : Hid (w4.heap[w.heap.size]? = some (.cells (vesC mode thread (some ⟨b, off, none⟩) n c) 29 (0, 0))) := blk_grown hg4 (fun e => by have := M2.out.fresh _ e; omega) (block_alloc_old b2.out)
                have HM4 : Hid (Mine wB w4 36 3 (.slice (some ⟨g4, 0, none⟩) (m ++ [Ev.mk kind th mo]).length c4) (m ++ [Ev.mk kind th mo]).length ((m ++ [Ev.mk kind th mo]).flatMap encE)) := by
                  show Mine _ _ _ _ _ _ _
                  rw [hln, List.flatMap_append]; exact M4
                clear M4 ho4 hg4 hf4 hln
                go_wp2_with fail
                exact ⟨⟨k + 1, m ++ [Ev.mk kind th mo], some ⟨g4, 0, none⟩, c4, by omega, by go_num, by simp, by simp; omega, hfin.out.symm, HM4.out, b4.out⟩, by simp [intOf]; omega⟩
              | false =>
                have hcall := Lib.hid (fun W => runsR_calls ⟨kind, th, mo⟩ W false hr)
                by_cases hmo : 0 < mo
                · have hfin : Hid (PL ++ (xs.take (k + 1)).filterMap fKeep = m ++ [Ev.mk kind th mo]) := by
                    show _ = _
                    rw [filterMap_yes fKeep xs k _ (Ev.mk kind th mo) Hx.out (by simp [fKeep, keepB, hmo]), hm.out, List.append_assoc]
                  clear hr
                  go_wp2_with fail
                  refine (hcall.out _).mono ?_
                  rintro e w2 ⟨rfl, k2⟩
                  have q0 : w2.cell? ⟨b, off + k * 3, none⟩ = some (.int .i64 kind) := (k2.cell hbr (fun h => h)).trans hcx.1
                  have q1 : w2.cell? ⟨b, off + k * 3 + 1, none⟩ = some (.int .i64 th) := (k2.cell hbr (fun h => h)).trans hcx.2.1
                  have q2 : w2.cell? ⟨b, off + k * 3 + 2, none⟩ = some (.int .i64 mo) := (k2.cell hbr (fun h => h)).trans hcx.2.2
                  have b2 : Hid (w2.heap[w.heap.size]? = some (.cells (vesC mode thread (some ⟨b, off, none⟩) n c) 29 (0, 0))) := (k2.block _ zr (fun h => h)).trans HB.out
                  have r2 : w2.cell? ⟨w.heap.size, 2, none⟩ = some (.slice (some ⟨b, off, none⟩) n c) := cell_of_block b2.out rfl
                  have M2 := Lib.hid (HM.out.keeps k2)
                  clear k2 hcall hcx p2
                  go_wp2_with (at_builtin; refine wpList_appN eE _ rfl _ _ rfl (.slice A6 m.length c6) m.length _ rfl (World.ownsRow.alloc M2.out.own _) ⟨w2.heap.size, 0, none⟩ 1 1 [.int .i64 kind, .int .i64 th, .int .i64 mo] rfl rfl (newsB (e := 36) (block_alloc_new w2 _)) ?_ ?_ ?_ ?_)
                  · simp [Value.oneCell']
                  · simp only [maxLen]; omega
                  · omega
                  rintro v4 w4 ho4 hg4 hf4 g4 c4 rfl
                  have hln : (m ++ [Ev.mk kind th mo]).length = m.length + 1 := by simp
                  have M4 := M2.out.grow ((Keeps.refl _ w2).alloc _) ho4 hg4 hf4 (by omega)
                  have b4 : Hid (w4.heap[w.heap.size]? = some (.cells (vesC mode thread (some ⟨b, off, none⟩) n c) 29 (0, 0))) := blk_grown hg4 (fun e => by have := M2.out.fresh _ e; omega) (block_alloc_old b2.out)
                  have HM4 : Hid (Mine wB w4 36 3 (.slice (some ⟨g4, 0, none⟩) (m ++ [Ev.mk kind th mo]).length c4) (m ++ [Ev.mk kind th mo]).length ((m ++ [Ev.mk kind th mo]).flatMap encE)) := by
                    show Mine _ _ _ _ _ _ _
                    rw [hln, List.flatMap_append]; exact M4
                  clear M4 ho4 hg4 hf4 hln
                  go_wp2_with fail
                  exact ⟨⟨k + 1, m ++ [Ev.mk kind th mo], some ⟨g4, 0, none⟩, c4, by omega, by go_num, by simp, by simp; omega, hfin.out.symm, HM4.out, b4.out⟩, by simp [intOf]; omega⟩
                · have hmo' : mo ≤ 0 := by omega
                  have hfin : Hid (PL ++ (xs.take (k + 1)).filterMap fKeep = m) := by
                    show _ = _
                    rw [filterMap_no fKeep xs k _ Hx.out (by simp [fKeep, keepB, hr, hmo]), hm.out]
                  clear hr hmo
                  go_wp2_with fail
                  refine (hcall.out _).mono ?_
                  rintro e w2 ⟨rfl, k2⟩
                  have q0 : w2.cell? ⟨b, off + k * 3, none⟩ = some (.int .i64 kind) := (k2.cell hbr (fun h => h)).trans hcx.1
                  have q1 : w2.cell? ⟨b, off + k * 3 + 1, none⟩ = some (.int .i64 th) := (k2.cell hbr (fun h => h)).trans hcx.2.1
                  have q2 : w2.cell? ⟨b, off + k * 3 + 2, none⟩ = some (.int .i64 mo) := (k2.cell hbr (fun h => h)).trans hcx.2.2
                  have b2 : Hid (w2.heap[w.heap.size]? = some (.cells (vesC mode thread (some ⟨b, off, none⟩) n c) 29 (0, 0))) := (k2.block _ zr (fun h => h)).trans HB.out
                  have r2 : w2.cell? ⟨w.heap.size, 2, none⟩ = some (.slice (some ⟨b, off, none⟩) n c) := cell_of_block b2.out rfl
                  have M2 := Lib.hid (HM.out.keeps k2)
                  clear k2 hcall hcx p2
                  go_wp2_with fail
                  exact ⟨⟨k + 1, m, A6, c6, by omega, by go_num, rfl, by omega, hfin.out.symm, M2.out, b2.out⟩, by simp [intOf]; omega⟩
            · obtain rfl : k = n := by omega
              have hfin : Hid (SL = m) := by show _ = _; rw [hSL.out, hm.out, hPL.out, List.take_of_length_le (by rw [hn.out]; omega)]
              go_wp2_with fail
              go_ret
              rw [hfin.out]
              exact ⟨A6, c6, rfl, HM.out.back kB.out⟩
end Go.Proofs.Ytpchhlhjmkkoiaa
