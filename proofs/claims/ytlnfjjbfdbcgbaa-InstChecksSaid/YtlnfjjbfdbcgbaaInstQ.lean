/- The reference of inst: may a program be: the whole check. -/
import Derived.Test.YtlnfjjbfdbcgbaaInstQ1
import Derived.Test.YtlnfjjbfdbcgbaaInstQ2
import Derived.Test.YtlnfjjbfdbcgbaaInstQ3
import Derived.Test.YtlnfjjbfdbcgbaaInstQ4
namespace Go.Proofs.Ytlnfjjbfdbcgbaa
open Go.RowKit

set_option maxRecDepth 100000 in
set_option maxHeartbeats 8000000 in
theorem rCheck_calls (v : Value) (p : Pg) (w : World) (h : ProgAt w v p) : Calls Try.prog 14 #[v] w (IntPost w (refI p)) := by
  have HA := Lib.hid h
  obtain ⟨⟨fa, sa, pa, nf, fc, ns, sc, np, pc, fb, fo, sb, so, pb, po, rfl, hF, hS, hP, hb1, hb2, hb3⟩, hM, hC⟩ := h
  obtain ⟨funcs, W, M, C, sems, pipes, B, R⟩ := p
  simp only [] at hF hS hP hM hC HA ⊢
  have HF := Lib.hid hF
  have HS := Lib.hid hS
  have HP := Lib.hid hP
  clear hF hS hP
  obtain ⟨va, hva⟩ : ∃ va : Array Value, va = #[.slice fa nf fc, .int .i64 W, .int .i64 M, .int .i64 C, .slice sa ns sc, .slice pa np pc, .int .i64 B, .int .i64 R] := ⟨_, rfl⟩
  have Hva := Lib.hid hva
  clear hva
  obtain ⟨ch, hch⟩ : ∃ c, Hid (c = capsH nf W M C ns np B R) := ⟨_, rfl⟩
  cases ch with
  | false =>
    have hR : refI ⟨funcs, W, M, C, sems, pipes, B, R⟩ = 9 := by
      have hl1 := HF.out.length
      have hl2 := HS.out.length
      have hl3 := HP.out.length
      unfold refI capsB
      simp only []
      rw [hl1, hl2, hl3, ← hch.out]
      rfl
    rw [hR]
    have hno : ¬ (0 < nf ∧ nf ≤ 8 ∧ 0 ≤ W ∧ W ≤ 64 ∧ 0 ≤ M ∧ M ≤ 4 ∧ 0 ≤ C ∧ C ≤ 4 ∧ ns ≤ 4 ∧ np ≤ 4 ∧ 0 ≤ B ∧ B ≤ 64 ∧ 0 ≤ R ∧ R ≤ 7) := by
      rintro ⟨a0, a1, a2, a3, a4, a5, a6, a7, a8, a9, a10, a11, a12, a13⟩
      have h := hch.out
      unfold capsH wiB at h
      rw [eq_comm, Bool.eq_false_iff] at h
      apply h
      simp
      omega
    by_cases a0 : 0 < nf
    case neg => exact rcap0 fa sa pa nf fc ns sc np pc W M C B R w  (by omega)
    by_cases a1 : nf ≤ 8
    case neg => exact rcap1 fa sa pa nf fc ns sc np pc W M C B R w a0 (by omega)
    by_cases a2 : 0 ≤ W
    case neg => exact rcap2 fa sa pa nf fc ns sc np pc W M C B R w a0 a1 (by omega)
    by_cases a3 : W ≤ 64
    case neg => exact rcap3 fa sa pa nf fc ns sc np pc W M C B R w a0 a1 a2 (by omega)
    by_cases a4 : 0 ≤ M
    case neg => exact rcap4 fa sa pa nf fc ns sc np pc W M C B R w a0 a1 a2 a3 (by omega)
    by_cases a5 : M ≤ 4
    case neg => exact rcap5 fa sa pa nf fc ns sc np pc W M C B R w a0 a1 a2 a3 a4 (by omega)
    by_cases a6 : 0 ≤ C
    case neg => exact rcap6 fa sa pa nf fc ns sc np pc W M C B R w a0 a1 a2 a3 a4 a5 (by omega)
    by_cases a7 : C ≤ 4
    case neg => exact rcap7 fa sa pa nf fc ns sc np pc W M C B R w a0 a1 a2 a3 a4 a5 a6 (by omega)
    by_cases a8 : ns ≤ 4
    case neg => exact rcap8 fa sa pa nf fc ns sc np pc W M C B R w a0 a1 a2 a3 a4 a5 a6 a7 (by omega)
    by_cases a9 : np ≤ 4
    case neg => exact rcap9 fa sa pa nf fc ns sc np pc W M C B R w a0 a1 a2 a3 a4 a5 a6 a7 a8 (by omega)
    by_cases a10 : 0 ≤ B
    case neg => exact rcap10 fa sa pa nf fc ns sc np pc W M C B R w a0 a1 a2 a3 a4 a5 a6 a7 a8 a9 (by omega)
    by_cases a11 : B ≤ 64
    case neg => exact rcap11 fa sa pa nf fc ns sc np pc W M C B R w a0 a1 a2 a3 a4 a5 a6 a7 a8 a9 a10 (by omega)
    by_cases a12 : 0 ≤ R
    case neg => exact rcap12 fa sa pa nf fc ns sc np pc W M C B R w a0 a1 a2 a3 a4 a5 a6 a7 a8 a9 a10 a11 (by omega)
    by_cases a13 : R ≤ 7
    case neg => exact rcap13 fa sa pa nf fc ns sc np pc W M C B R w a0 a1 a2 a3 a4 a5 a6 a7 a8 a9 a10 a11 a12 (by omega)
    exact absurd ⟨a0, a1, a2, a3, a4, a5, a6, a7, a8, a9, a10, a11, a12, a13⟩ hno
  | true =>
    have hall : 0 < nf ∧ nf ≤ 8 ∧ 0 ≤ W ∧ W ≤ 64 ∧ 0 ≤ M ∧ M ≤ 4 ∧ 0 ≤ C ∧ C ≤ 4 ∧ ns ≤ 4 ∧ np ≤ 4 ∧ 0 ≤ B ∧ B ≤ 64 ∧ 0 ≤ R ∧ R ≤ 7 := by
      have h := hch.out
      unfold capsH wiB at h
      rw [eq_comm] at h
      simp at h
      omega
    obtain ⟨a0, a1, a2, a3, a4, a5, a6, a7, a8, a9, a10, a11, a12, a13⟩ := hall
    have b00 : ((nf : Int) == 0) = false := by simp; omega
    go_enter Try.func14, Try.ntmps14
    go_upto_region 1 with fail
    go_cut [79] from 8 to 78 (fun v wx => v = .bool false ∧ wx = w.alloc (.cells #[.slice fa nf fc, .int .i64 W, .int .i64 M, .int .i64 C, .slice sa ns sc, .slice pa np pc, .int .i64 B, .int .i64 R] 25))
    case first =>
      clear HA HF HS HP Hva hch
      go_wp2_with fail
      go_meet
      case rel => exact ⟨congrArg Value.bool (by simp; omega), rfl⟩
    case rest =>
      obtain ⟨rfl, rfl⟩ := hcut
      clear a0 a1 a2 a3 a4 a5 a6 a7 a8 a9 a10 a11 a12 a13 b00
      go_wp2_with fail
      go_loop [3] (fun i => ∃ q : Nat, q ≤ ns ∧ i = .int .i64 q ∧ AllOk (fun n => wiB n 1048576) (sems.take q)) (fun i => ns - (intOf i).toNat)
      case atStart => exact ⟨0, Nat.zero_le _, rfl, rfl⟩
      case round =>
        obtain ⟨q, hq, rfl, hok⟩ := hrel
        by_cases hlt : q < ns
        · obtain ⟨x, hx⟩ : ∃ x, sems[q]? = some x := ⟨_, List.getElem?_eq_getElem (by rw [HS.out.length]; exact hlt)⟩
          have hcl := HS.out.get hx
          have hfb : sb < w.heap.size := World.block_lt_of_cell? w _ hcl
          have hadr := HS.out.addr (by omega)
          subst hadr
          have Hx := Lib.hid hx
          clear hx
          have h3 : (x < 0) ∨ (0 ≤ x ∧ 1048576 < x) ∨ (0 ≤ x ∧ x ≤ 1048576) := by omega
          have hbad : Hid ((x < 0 ∨ 1048576 < x) → refI ⟨funcs, W, M, C, sems, pipes, B, R⟩ = 9) := by
            intro hb
            have : sems.all (fun n => wiB n 1048576) = false := all_not Hx.out (by unfold wiB; simp; omega)
            unfold refI capsB
            simp only [this, Bool.and_false, Bool.false_and]
            rfl
          rcases h3 with h3 | ⟨h3, h4⟩ | ⟨h3, h4⟩
          · go_wp2_with fail
            go_ret
            exact ⟨ret_int (hbad.out (by omega)).symm, (Keeps.refl _ w).alloc _⟩
          · go_wp2_with fail
            go_ret
            exact ⟨ret_int (hbad.out (by omega)).symm, (Keeps.refl _ w).alloc _⟩
          · have hn : AllOk (fun n => wiB n 1048576) (sems.take (q + 1)) := by
              unfold AllOk
              rw [all_snoc sems _ q x Hx.out, show _ = true from hok]
              unfold wiB; simp; omega
            clear hbad
            go_wp2_with fail
            go_round
            case rel => exact ⟨q + 1, by omega, by go_num, hn⟩
            case measure => simp [intOf]; omega
        · obtain rfl : ns = q := by omega
          have hlen := HS.out.length
          have hok2 : Hid (sems.all (fun n => wiB n 1048576) = true) := by
            have := hok
            unfold AllOk at this
            rw [List.take_of_length_le (by omega)] at this
            exact this
          clear hok hlen
          go_wp2_with fail
          go_loop [4] (fun i => ∃ q : Nat, q ≤ np ∧ i = .int .i64 q ∧ AllOk (fun n => decide (0 < n) && wiB n 8) (pipes.take q)) (fun i => np - (intOf i).toNat)
          case atStart => exact ⟨0, Nat.zero_le _, rfl, rfl⟩
          case round =>
            obtain ⟨q, hq, rfl, hok⟩ := hrel
            by_cases hlt : q < np
            · obtain ⟨x, hx⟩ : ∃ x, pipes[q]? = some x := ⟨_, List.getElem?_eq_getElem (by rw [HP.out.length]; exact hlt)⟩
              have hcl := HP.out.get hx
              have hfb : pb < w.heap.size := World.block_lt_of_cell? w _ hcl
              have hadr := HP.out.addr (by omega)
              subst hadr
              have Hx := Lib.hid hx
              clear hx
              have h3 : (x < 1) ∨ (1 ≤ x ∧ 8 < x) ∨ (1 ≤ x ∧ x ≤ 8) := by omega
              have hbad : Hid ((x < 1 ∨ 8 < x) → refI ⟨funcs, W, M, C, sems, pipes, B, R⟩ = 9) := by
                intro hb
                have : pipes.all (fun n => decide (0 < n) && wiB n 8) = false := all_not Hx.out (by unfold wiB; simp; omega)
                unfold refI capsB
                simp only [this, Bool.and_false]
                rfl
              rcases h3 with h3 | ⟨h3, h4⟩ | ⟨h3, h4⟩
              · go_wp2_with fail
                go_ret
                exact ⟨ret_int (hbad.out (by omega)).symm, (Keeps.refl _ w).alloc _⟩
              · go_wp2_with fail
                go_ret
                exact ⟨ret_int (hbad.out (by omega)).symm, (Keeps.refl _ w).alloc _⟩
              · have hn : AllOk (fun n => decide (0 < n) && wiB n 8) (pipes.take (q + 1)) := by
                  unfold AllOk
                  rw [all_snoc pipes _ q x Hx.out, show _ = true from hok]
                  unfold wiB; simp; omega
                clear hbad
                go_wp2_with fail
                go_round
                case rel => exact ⟨q + 1, by omega, by go_num, hn⟩
                case measure => simp [intOf]; omega
            · obtain rfl : np = q := by omega
              have hlen := HP.out.length
              have hok3 : Hid (pipes.all (fun n => decide (0 < n) && wiB n 8) = true) := by
                have := hok
                unfold AllOk at this
                rw [List.take_of_length_le (by omega)] at this
                exact this
              clear hok hlen
              go_wp2_with fail
              go_loop [5] (fun i => ∃ q : Nat, q ≤ nf ∧ i = .int .i64 q ∧ AllOk (fun l => decide (l.length ≤ 256)) (funcs.take q)) (fun i => nf - (intOf i).toNat)
              case atStart => exact ⟨0, Nat.zero_le _, rfl, rfl⟩
              case round =>
                obtain ⟨q, hq, rfl, hok⟩ := hrel
                by_cases hlt : q < nf
                · obtain ⟨l, hl⟩ : ∃ l, funcs[q]? = some l := ⟨_, List.getElem?_eq_getElem (by rw [HF.out.length]; exact hlt)⟩
                  obtain ⟨a, b', off', c, hcl, _, hl256⟩ := HF.out.cell q l hl
                  have hfb : fb < w.heap.size := World.block_lt_of_cell? w _ hcl
                  have hadr := HF.out.addr (by omega)
                  subst hadr
                  have Hl := Lib.hid hl
                  clear hl
                  by_cases h256 : l.length ≤ 256
                  · have hn : AllOk (fun l => decide (l.length ≤ 256)) (funcs.take (q + 1)) := by
                      unfold AllOk
                      rw [all_snoc funcs _ q l Hl.out, show _ = true from hok]
                      simp [h256]
                    go_wp2_with fail
                    go_round
                    case rel => exact ⟨q + 1, by omega, by go_num, hn⟩
                    case measure => simp [intOf]; omega
                  · have hbad : Hid (refI ⟨funcs, W, M, C, sems, pipes, B, R⟩ = 9) := by
                      have : funcs.all (fun l => decide (l.length ≤ 256)) = false := all_not Hl.out (by simp; omega)
                      unfold Hid refI capsB
                      simp only [this, Bool.and_false, Bool.false_and]
                      rfl
                    have h257 : 256 < l.length := by omega
                    clear h256
                    go_wp2_with fail
                    go_ret
                    exact ⟨ret_int hbad.out.symm, (Keeps.refl _ w).alloc _⟩
                · obtain rfl : q = nf := by omega
                  have hlen := HF.out.length
                  have hok1 : Hid (funcs.all (fun l => decide (l.length ≤ 256)) = true) := by
                    have := hok
                    unfold AllOk at this
                    rw [List.take_of_length_le (by omega)] at this
                    exact this
                  have hcaps : Hid (capsB ⟨funcs, W, M, C, sems, pipes, B, R⟩ = true) := by
                    have hl1 := HF.out.length
                    have hl2 := HS.out.length
                    have hl3 := HP.out.length
                    unfold Hid capsB
                    simp only []
                    rw [hl1, hl2, hl3, ← hch.out, hok1.out, hok2.out, hok3.out]
                    rfl
                  clear hok hlen hok1 hok2 hok3 hch
                  go_wp2_with fail
                  generalize hwb : w.alloc (Obj.cells #[.slice fa q fc, .int .i64 W, .int .i64 M, .int .i64 C, .slice sa ns sc, .slice pa np pc, .int .i64 B, .int .i64 R] 25) = wb
                  have hkb : Keeps NoBlock w wb := by rw [← hwb]; exact (Keeps.refl _ w).alloc _
                  have Bx : Hid (wb.heap[w.heap.size]? = some (.cells va 25 (0, 0))) := by unfold Hid; rw [← hwb, Hva.out]; exact blk_new rfl
                  have hszb : w.heap.size < wb.heap.size := lt_of_block Bx.out
                  clear hwb
                  go_loopw [6] (fun i wr => ∃ k : Nat, k ≤ q ∧ i = .int .i64 k ∧ AllOk (fun f => f.all (refP ⟨funcs, W, M, C, sems, pipes, B, R⟩)) (funcs.take k) ∧ Keeps NoBlock wb wr) (fun i _ => q - (intOf i).toNat)
                  case atStart => exact ⟨0, Nat.zero_le _, rfl, rfl, Keeps.refl _ _⟩
                  case round =>
                    obtain ⟨k, hk, rfl, hall, hkr⟩ := hrel
                    have hs1 := hkr.size
                    have hbxr : wr.heap[w.heap.size]? = some (.cells va 25 (0, 0)) := by
                      rw [hkr.block _ hszb (fun h => h)]; exact Bx.out
                    have cf : wr.cell? ⟨w.heap.size, 0, none⟩ = some (.slice fa q fc) := cell_of_block (o := 0) hbxr (by rw [Hva.out]; rfl)
                    have Hbxr := Lib.hid hbxr
                    clear hbxr
                    by_cases hlt : k < q
                    · obtain ⟨l, hl⟩ : ∃ l, funcs[k]? = some l := ⟨_, List.getElem?_eq_getElem (by rw [HF.out.length]; exact hlt)⟩
                      obtain ⟨a, b', off', c, hcl, hfl, hll⟩ := HF.out.cell k l hl
                      have hfb : fb < w.heap.size := World.block_lt_of_cell? w _ hcl
                      have hadr := HF.out.addr (by omega)
                      subst hadr
                      have Hcl := Lib.hid hcl
                      have Hl := Lib.hid hl
                      have Hfl := Lib.hid hfl
                      clear hl hfl hcl
                      go_wp2_with fail
                      obtain ⟨wo, rfl⟩ : ∃ wo : World, wo = wr := ⟨_, rfl⟩
                      clear cf
                      go_loopw [7] (fun i wr => ∃ j : Nat, j ≤ l.length ∧ i = .int .i64 j ∧ AllOk (refP ⟨funcs, W, M, C, sems, pipes, B, R⟩) (l.take j) ∧ Keeps NoBlock wo wr) (fun i _ => l.length - (intOf i).toNat)
                      case atStart => exact ⟨0, Nat.zero_le _, rfl, rfl, Keeps.refl _ _⟩
                      case round =>
                        obtain ⟨j, hj, rfl, hal, hkq⟩ := hrel
                        have hs2 := hkq.size
                        have hkbr : Keeps NoBlock wb wr := hkr.trans hkq (fun _ _ h => h)
                        have hkwr : Keeps NoBlock w wr := hkb.trans hkbr (fun _ _ h => h)
                        have hbx : wr.heap[w.heap.size]? = some (.cells va 25 (0, 0)) := by
                          rw [hkbr.block _ hszb (fun h => h)]; exact Bx.out
                        have hcl' : wr.cell? ⟨fb, fo + k, none⟩ = some (.slice a l.length c) := by rw [hkwr.cell hfb (fun h => h), Hcl.out]
                        have hszr : w.heap.size < wr.heap.size := by omega
                        have c0 : wr.cell? ⟨w.heap.size, 0, none⟩ = some (.slice (some ⟨fb, fo, none⟩) q fc) := cell_of_block (o := 0) hbx (by rw [Hva.out]; rfl)
                        have c1 : wr.cell? ⟨w.heap.size, 1, none⟩ = some (.int .i64 W) := cell_of_block (o := 1) hbx (by rw [Hva.out]; rfl)
                        have c2 : wr.cell? ⟨w.heap.size, 2, none⟩ = some (.int .i64 M) := cell_of_block (o := 2) hbx (by rw [Hva.out]; rfl)
                        have c3 : wr.cell? ⟨w.heap.size, 3, none⟩ = some (.int .i64 C) := cell_of_block (o := 3) hbx (by rw [Hva.out]; rfl)
                        have c4 : wr.cell? ⟨w.heap.size, 4, none⟩ = some (.slice sa ns sc) := cell_of_block (o := 4) hbx (by rw [Hva.out]; rfl)
                        have c5 : wr.cell? ⟨w.heap.size, 5, none⟩ = some (.slice pa np pc) := cell_of_block (o := 5) hbx (by rw [Hva.out]; rfl)
                        have c6 : wr.cell? ⟨w.heap.size, 6, none⟩ = some (.int .i64 B) := cell_of_block (o := 6) hbx (by rw [Hva.out]; rfl)
                        have c7 : wr.cell? ⟨w.heap.size, 7, none⟩ = some (.int .i64 R) := cell_of_block (o := 7) hbx (by rw [Hva.out]; rfl)
                        have Hbx := Lib.hid hbx
                        clear hbx
                        by_cases hql : j < l.length
                        · obtain ⟨x, hx⟩ : ∃ x, l[j]? = some x := ⟨_, List.getElem?_eq_getElem hql⟩
                          have fl := Hfl.out.keeps hkwr (fun h => h)
                          have f0 := fl.cell j x 0 _ hx rfl
                          have f1 := fl.cell j x 1 _ hx rfl
                          have f2 := fl.cell j x 2 _ hx rfl
                          have f3 := fl.cell j x 3 _ hx rfl
                          have f4 := fl.cell j x 4 _ hx rfl
                          rw [Nat.add_zero] at f0
                          have hb'' : b' < wr.heap.size := World.block_lt_of_cell? wr _ f0
                          have hadr := fl.addr (by omega)
                          subst hadr
                          have hxo := fl.ok x (List.mem_of_getElem? hx)
                          have Hx := Lib.hid hx
                          have Hxo := Lib.hid hxo
                          have Hfl2 := Lib.hid fl
                          have Hall := Lib.hid hall
                          have Hal := Lib.hid hal
                          clear hx hxo fl hall hal
                          go_upto_region 24 with fail
                          go_still_tail 9, (by kernel_rfl)
                          go_wp2_with fail
                          refine (rSound_at _ _ x w _ HA.out Hxo.out).mono ?_
                          rintro e w5 ⟨rfl, hk5⟩
                          have hk6 := (hkq.drewN _).trans hk5 (fun _ _ h => h)
                          have Hk5 := Lib.hid hk5
                          clear hk5
                          cases hso : refP ⟨funcs, W, M, C, sems, pipes, B, R⟩ x with
                          | false =>
                            have Hso := Lib.hid hso
                            clear hso
                            go_wp2_with fail
                            go_ret
                            exact ⟨ret_int (by unfold refI; rw [hcaps.out, refAll_not (p := ⟨funcs, W, M, C, sems, pipes, B, R⟩) Hl.out Hx.out Hso.out]; rfl), (hkb.trans hkr (fun _ _ h => h)).trans hk6 (fun _ _ h => h)⟩
                          | true =>
                            have hn : AllOk (refP ⟨funcs, W, M, C, sems, pipes, B, R⟩) (l.take (j + 1)) := by
                              unfold AllOk
                              rw [all_snoc l _ j x Hx.out, show _ = true from Hal.out, hso]; rfl
                            clear hso
                            go_wp2_with fail
                            exact ⟨⟨j + 1, by omega, by go_num, hn, hk6⟩, by simp [intOf]; omega⟩
                        · obtain rfl : j = l.length := by omega
                          have hal2 : l.all (refP ⟨funcs, W, M, C, sems, pipes, B, R⟩) = true := by
                            have := hal
                            unfold AllOk at this
                            rw [List.take_of_length_le (Nat.le_refl _)] at this
                            exact this
                          have hn : AllOk (fun f => f.all (refP ⟨funcs, W, M, C, sems, pipes, B, R⟩)) (funcs.take (k + 1)) := refAll_snoc Hl.out hall hal2
                          clear hal2 hall hal
                          go_wp2_with fail
                          exact ⟨⟨k + 1, by omega, by go_num, hn, hkbr⟩, by simp [intOf]; omega⟩
                    · obtain rfl : k = q := by omega
                      have hlen := HF.out.length
                      have hfin : Hid (refAll ⟨funcs, W, M, C, sems, pipes, B, R⟩ funcs = true) := by
                        have := hall
                        unfold AllOk at this
                        rw [List.take_of_length_le (by omega)] at this
                        exact this
                      clear hlen
                      go_wp2_with fail
                      go_ret
                      exact ⟨ret_int (by unfold refI; rw [hcaps.out, hfin.out]; rfl), hkb.trans hkr (fun _ _ h => h)⟩
end Go.Proofs.Ytlnfjjbfdbcgbaa
