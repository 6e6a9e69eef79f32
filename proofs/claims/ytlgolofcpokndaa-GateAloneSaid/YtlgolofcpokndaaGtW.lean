/- GateAlone: a mutex is never two's. -/
import Derived.Test.YtlgolofcpokndaaGtV
namespace Go.Proofs.Ytlgolofcpokndaa
open Go.RowKit
namespace Gt

theorem keeps_box {a w : World} {gx o : Nat} {v : Value} (h : Keeps (fun b => b = gx) a w) : Keeps (fun b => b = gx) a (w.setCell ⟨gx, o, none⟩ v) := Keeps.set (S := fun b => b = gx) h (.inl rfl) v

theorem Gs.tight {G : Nat} {B : Nat → Prop} {st : St} {w : World} (h : Gs G B st w) : ∃ B', Gs G B' st w ∧ ∀ b, B' b → B b ∧ b < w.heap.size := by
  obtain ⟨vm, vc, vs, ms, cs, ss, hg, h1, h2, h3⟩ := h
  refine ⟨_, ⟨vm, vc, vs, ms, cs, ss, hg.move (Keeps.refl NoBlock _) (fun _ e => e.elim), h1, h2, h3⟩, fun b hb => ?_⟩
  have hlt := hg.blt b hb
  refine ⟨(hg.turn.new b hb).resolve_right (fun e => ?_), hlt⟩
  simp only [] at e
  omega

theorem Gw.tight {w wr : World} {G : Nat} {st : St} (h : Gw w G st wr) : ∃ B, Gs G B st wr ∧ Turn NoBlock B w wr ∧ ∀ b, B b → b < wr.heap.size := by
  obtain ⟨B, hg, t⟩ := h
  obtain ⟨B', hg', hB⟩ := hg.tight
  exact ⟨B', hg', ⟨t.kp, fun b hb => t.new b (hB b hb).1⟩, fun b hb => (hB b hb).2⟩

theorem owner_eq {st : St} {n : Nat} {x : MA} (h : st.ms[n]? = some x) : OwnerA st (n : Int) = (if x.held then x.own else 0, x.held) := by
  simp [OwnerA, nth, h]

theorem owner_vars {st : St} {n : Nat} {x : MA} (h : st.ms[n]? = some x) : ∃ ow hd, OwnerA st (n : Int) = (ow, hd) ∧ x.held = hd ∧ (hd = true → x.own = ow) := by
  refine ⟨_, _, owner_eq h, rfl, fun e => ?_⟩
  rw [if_pos e]

theorem lock_facts {st : St} {who : Int} {n : Nat} {x : MA} {b : Bool} {er : Int} {st' : St} (h : st.ms[n]? = some x) (hL : LockA st who n = (b, er, st')) :
    (b = true → x.held = false ∧ er = 0) ∧ ∃ x', st'.ms[n]? = some x' ∧ (x.held = true → x'.held = true ∧ x'.own = x.own) := by
  unfold LockA at hL
  simp only [nth, Int.natCast_nonneg, if_true, Int.toNat_natCast, h] at hL
  split at hL
  · simp only [Prod.mk.injEq] at hL
    obtain ⟨rfl, rfl, rfl⟩ := hL
    exact ⟨fun e => (by cases e), x, h, fun e => ⟨e, rfl⟩⟩
  · rw [lockA_eq h] at hL
    simp only [Prod.mk.injEq] at hL
    obtain ⟨rfl, rfl, rfl⟩ := hL
    refine ⟨fun e => ⟨by simpa using e, rfl⟩, lockX x who, by simp only []; rw [List.getElem?_set_self (List.getElem?_eq_some_iff.1 h).1], fun e => ?_⟩
    unfold lockX
    rw [if_pos e]
    exact ⟨e, rfl⟩

theorem unlock_facts {st : St} {who c : Int} {n : Nat} {x : MA} {y : Int} {b : Bool} {er : Int} {st' : St} (h : st.ms[n]? = some x) (hL : UnlockA st who n c = (y, b, er, st')) : er = 0 → x.held = true ∧ x.own = who := by
  unfold UnlockA at hL
  simp only [nth, Int.natCast_nonneg, if_true, Int.toNat_natCast, h] at hL
  split at hL
  · rename_i hi
    unfold isA at hi
    intro _
    simpa using hi
  · simp only [Prod.mk.injEq] at hL
    obtain ⟨_, _, rfl, _⟩ := hL
    intro e
    cases e

def ARel (w : World) (G : Nat) (k : Nat) (wr : World) : Prop := ∃ st, Gw w G st wr ∧ Inv k st ∧ st.ms.length = 2 ∧ st.cs.length = 2 ∧ st.ss.length = 1

set_option maxRecDepth 100000 in
set_option maxHeartbeats 1000000 in
theorem alone_calls (v : Value) (l : List Act) (w : World) (hv : ActsAt w v l) :
    Calls Try.prog 5 #[v] w fun e w' => e = .returned (.bool true) ∧ Below w.heap.size w w' := by
  obtain ⟨⟨A, b, off, cap, rfl, hA, hcl⟩, hl15⟩ := hv
  have hrd := Lib.hid hcl
  have HA := Lib.hid hA
  clear hcl hA
  go_enter Try.func5, Try.ntmps5
  go_wp2_with fail
  refine (New_fn 2 2 2 2 (by decide) (by decide) (some ⟨w.heap.size, 0, none⟩) w.heap.size 0 1 1 _ [0] (litI (by decide) (block_alloc_new w (.cells #[.int .i64 0] 3))) (Nat.le_refl _)).mono ?_
  rintro e w1 ⟨G, B1, rfl, g1, t1⟩
  have H1 : Hid (ARel w G 0 w1) := ⟨_, ⟨B1, g1, (Turn.keeps ((Keeps.refl NoBlock w).alloc _)).trans t1⟩, ⟨by decide, fun q hq y hy => by simp [begin_] at hq; subst hq; simp at hy, fun x hx _ => by simp [begin_] at hx; subst hx; rfl, fun x hx => by simp [begin_] at hx; subst hx; decide, fun z => by simp [begin_, wsum, sumL, cq]⟩, rfl, rfl, rfl⟩
  clear g1 t1
  go_wp2_with fail
  go_loopw [4] (fun i wr => ∃ (k : Nat), k ≤ 80 ∧ k ≤ l.length ∧ i = .int .i64 k ∧ ARel w G k wr) (fun i _ => 80 - (intOf i).toNat)
  case atStart => exact ⟨0, by omega, by omega, rfl, H1.out⟩
  case round =>
    obtain ⟨k, hk, hkl, rfl, st, hg, hI, lm, lc, ls⟩ := hrel
    have HG := Lib.hid hg
    have HI := Lib.hid hI
    clear hg hI H1
    have hpk : Hid (∀ (c : Int) (w : World), Calls Try.prog 9 #[.int .i64 c, .int .i64 2] w fun e w' => e = .returned (.int .i64 (at_ c 2)) ∧ w = w') := fun c w => pick_calls c 2 (by decide) (by decide) w
    by_cases hlt : k < l.length ∧ k < 80
    · obtain ⟨hlt, hlt2⟩ := hlt
      obtain ⟨x, hx⟩ : ∃ x, l[k]? = some x := ⟨_, List.getElem?_eq_getElem hlt⟩
      obtain ⟨rfl, hbw⟩ := HA.out (by omega)
      have q0 := (HG.out.kp.cell hbw (fun e => e)).trans (hrd.out k x 0 _ hx rfl)
      have q1 := (HG.out.kp.cell hbw (fun e => e)).trans (hrd.out k x 1 _ hx rfl)
      have q2 := (HG.out.kp.cell hbw (fun e => e)).trans (hrd.out k x 2 _ hx rfl)
      have q3 := (HG.out.kp.cell hbw (fun e => e)).trans (hrd.out k x 3 _ hx rfl)
      have q4 := (HG.out.kp.cell hbw (fun e => e)).trans (hrd.out k x 4 _ hx rfl)
      rw [Nat.add_zero] at q0
      have hk0 : (0 : Int) ≤ (k : Int) := by omega
      have hk1 : (k : Int) < (l.length : Int) := by omega
      have hk2 : (k : Int) < 80 := by omega
      have hwk : IntKind.i64.wrap ((k : Int) + 1) = (k : Int) + 1 := by rw [IntKind.wrap_i64]; omega
      obtain ⟨what, who, an, am, ch⟩ := x
      simp only [] at q0 q1 q2 q3 q4
      clear hx hbw
      obtain ⟨Bq, hgs, htq, hltq⟩ := HG.out.tight
      go_upto_region 6 with fail
      generalize hW : World.alloc wr _ = w2
      obtain ⟨gx, hgx⟩ : ∃ gx, wr.heap.size = gx := ⟨_, rfl⟩
      have bx0 : w2.heap[gx]? = some (.cells #[.int .i64 what, .int .i64 who, .int .i64 an, .int .i64 am, .int .i64 ch] 27 (0, 0)) := by rw [← hW, ← hgx]; exact block_alloc_new _ _
      have k2 : Keeps NoBlock wr w2 := by rw [← hW]; exact (Keeps.refl _ _).alloc _
      have hgq : Hid (¬ Bq gx) := fun e => by have := hltq gx e; omega
      have hgw : Hid (w.heap.size ≤ gx) := by have := HG.out.kp.size; show _ ≤ _; omega
      have HS2 := Lib.hid (hgs.keeps k2 (fun _ e => e.elim))
      have HT2 := Lib.hid (htq.trans (Turn.keeps k2))
      rw [hgx]
      clear hW hgx k2 hgs htq hltq q0 q1 q2 q3 q4
      have x0 : w2.cell? ⟨gx, 0, none⟩ = some (.int .i64 what) := cell_of_block (o := 0) bx0 rfl
      have x1 : w2.cell? ⟨gx, 1, none⟩ = some (.int .i64 who) := cell_of_block (o := 1) bx0 rfl
      have x2 : w2.cell? ⟨gx, 2, none⟩ = some (.int .i64 an) := cell_of_block (o := 2) bx0 rfl
      have x3 : w2.cell? ⟨gx, 3, none⟩ = some (.int .i64 am) := cell_of_block (o := 3) bx0 rfl
      have x4 : w2.cell? ⟨gx, 4, none⟩ = some (.int .i64 ch) := cell_of_block (o := 4) bx0 rfl
      have y2 := frozen_of_block bx0 (o := 2)
      have y3 := frozen_of_block bx0 (o := 3)
      have HB0 := Lib.hid bx0
      clear bx0
      have hfin : Hid (∀ W, Keeps (fun b => b = gx) w2 W → W.heap[gx]? = some (.cells #[.int .i64 what, .int .i64 who, .int .i64 (at_ an 2 : Nat), .int .i64 (at_ am 2 : Nat), .int .i64 ch] 27 (0, 0)) → Hid (Gs G Bq st W) ∧ Hid (Turn NoBlock Bq w W) ∧ Hid (W.heap[gx]? = some (.cells #[.int .i64 what, .int .i64 who, .int .i64 (at_ an 2 : Nat), .int .i64 (at_ am 2 : Nat), .int .i64 ch] 27 (0, 0)))) := fun W k h =>
        ⟨HS2.out.keeps k (fun b e => by rw [e]; exact hgq.out), HT2.out.step k (fun b e => by rw [e]; exact hgw.out), h⟩
      go_cut [41] from 34 to 41 (fun _v wx => Hid (Gs G Bq st wx) ∧ Hid (Turn NoBlock Bq w wx) ∧ Hid (wx.heap[gx]? = some (.cells #[.int .i64 what, .int .i64 who, .int .i64 (at_ an 2 : Nat), .int .i64 (at_ am 2 : Nat), .int .i64 ch] 27 (0, 0))))
      case first =>
        go_region_law (first | (go_simp; go_at_call 9; refine (hpk.out _ _).mono ?_; rintro e w3 ⟨rfl, rfl⟩) | fail)
        all_goals
          go_wp2_with fail
          go_meet
          case rel =>
            refine hfin.out _ ?_ ?_
            · repeat (first | with_reducible exact Keeps.refl _ _ | with_reducible refine Keeps.drew ?_ | with_reducible refine keeps_box ?_)
            · first
              | exact block_set (block_set HB0.out _) _
      case rest =>
        obtain ⟨Hgs, Htq, Hbx⟩ := hcut
        clear hfin HS2 HT2 HB0 x0 x1 x2 x3 x4 y2 y3
        obtain ⟨n, hn, hn2⟩ : ∃ n, at_ an 2 = n ∧ n < 2 := ⟨_, rfl, at_lt an (by decide)⟩
        obtain ⟨m, hm, hm2⟩ : ∃ m, at_ am 2 = m ∧ m < 2 := ⟨_, rfl, at_lt am (by decide)⟩
        rw [hn, hm] at Hbx
        clear hn hm
        obtain ⟨xm, hxm⟩ : ∃ x, st.ms[n]? = some x := ⟨_, List.getElem?_eq_getElem (by omega)⟩
        have how := Owner_fn Hgs.out (n : Int)
        obtain ⟨ow, hd, ho1, ho2, ho3⟩ := owner_vars hxm
        rw [ho1] at how
        have How := Lib.hid how
        have Hxm := Lib.hid hxm
        have Ho2 := Lib.hid ho2
        have Ho3 := Lib.hid ho3
        have hsh := Lib.hid (tot_short (Nat.le_trans HI.out.t (show k ≤ 1000000 by omega)))
        clear how hxm ho1 ho2 ho3
        have bwc := Hbx.out
        have x0 : wc.cell? ⟨gx, 0, none⟩ = some (.int .i64 (what)) := cell_of_block (o := 0) bwc rfl
        have x1 : wc.cell? ⟨gx, 1, none⟩ = some (.int .i64 who) := cell_of_block (o := 1) bwc rfl
        have x2 : wc.cell? ⟨gx, 2, none⟩ = some (.int .i64 (n : Nat)) := cell_of_block (o := 2) bwc rfl
        have x3 : wc.cell? ⟨gx, 3, none⟩ = some (.int .i64 (m : Nat)) := cell_of_block (o := 3) bwc rfl
        have x4 : wc.cell? ⟨gx, 4, none⟩ = some (.int .i64 ch) := cell_of_block (o := 4) bwc rfl
        clear bwc
        go_wp2_with fail
        refine How.out.mono ?_
        rintro e wo ⟨rfl, rfl⟩
        clear How
        by_cases w0 : what = 0
        · subst w0
          obtain ⟨b, er, st', hL⟩ : ∃ b er s, LockA st who n = (b, er, s) := ⟨_, _, _, rfl⟩
          obtain ⟨f1, xm', hxm', f2⟩ := lock_facts Hxm.out hL
          rw [Ho2.out] at f1 f2
          obtain ⟨ow', hd', ho1, ho2, ho3⟩ := owner_vars hxm'
          rw [ho2] at f2
          have hinv := LockA_inv HI.out who (n : Int)
          rw [hL] at hinv
          have HIt := Lib.hid hinv.1
          have HSt := Lib.hid hinv.2
          have hlk := Lib.hid (Lock_at Hgs.out hsh.out who (n : Int) hL)
          have F1 := Lib.hid f1
          have F2 : Hid (hd = true → hd' = true ∧ ow' = ow) := fun e => by
            obtain ⟨a1, a2⟩ := f2 e
            exact ⟨a1, by rw [← ho3 a1, a2, Ho3.out e]⟩
          have Ho1 := Lib.hid ho1
          clear hL f1 f2 hxm' hinv ho1 ho2 ho3
          go_wp2_with fail
          refine hlk.out.mono ?_
          rintro e w5 ⟨rfl, B5, g5, t5⟩
          have HGt : Hid (Gw w G st' w5) := ⟨B5, g5, Htq.out.trans t5⟩
          have how5 := Owner_fn g5 (n : Int)
          rw [Ho1.out] at how5
          have How5 := Lib.hid how5
          have hb5 := (t5.kp.block _ (lt_of_block Hbx.out) hgq.out).trans Hbx.out
          clear how5 g5 t5 x0 x1 x2 x3 x4 hlk Ho1 Ho2 Ho3
          have bw5 := hb5
          have x0 : w5.cell? ⟨gx, 0, none⟩ = some (.int .i64 (0)) := cell_of_block (o := 0) bw5 rfl
          have x1 : w5.cell? ⟨gx, 1, none⟩ = some (.int .i64 who) := cell_of_block (o := 1) bw5 rfl
          have x2 : w5.cell? ⟨gx, 2, none⟩ = some (.int .i64 (n : Nat)) := cell_of_block (o := 2) bw5 rfl
          have x3 : w5.cell? ⟨gx, 3, none⟩ = some (.int .i64 (m : Nat)) := cell_of_block (o := 3) bw5 rfl
          have x4 : w5.cell? ⟨gx, 4, none⟩ = some (.int .i64 ch) := cell_of_block (o := 4) bw5 rfl
          clear bw5
          cases b with
          | true =>
            obtain ⟨rfl, rfl⟩ := F1.out rfl
            clear F1 F2
            go_wp2_with fail
            refine How5.out.mono ?_
            rintro e wo ⟨rfl, rfl⟩
            go_wp2_with fail
            go_loopw [15] (fun i wq => ∃ j : Nat, j ≤ 2 ∧ i = .int .i64 j ∧ Gw w G st' wq) (fun i _ => 2 - (intOf i).toNat)
            case atStart => exact ⟨0, by omega, rfl, HGt.out⟩
            case round =>
              obtain ⟨j, hj, rfl, hgj⟩ := hrel
              have HJ := Lib.hid hgj
              clear hgj HGt
              have hwj : IntKind.i64.wrap ((j : Int) + 1) = (j : Int) + 1 := by rw [IntKind.wrap_i64]; omega
              by_cases hj2 : j < 2
              · obtain ⟨xj, hxj⟩ : ∃ x, (st').ms[j]? = some x := ⟨_, List.getElem?_eq_getElem (by have := HSt.out.1; omega)⟩
                have hjz : (j : Int) < 2 := by omega
                obtain ⟨Bj, hgsj, _⟩ := HJ.out
                have howj := Owner_fn hgsj (j : Int)
                rw [owner_eq hxj] at howj
                have Howj := Lib.hid howj
                have hq0 := Lib.hid (HIt.out.hq xj (List.mem_of_getElem? hxj))
                have hwt := Lib.hid (Waiters_fn hgsj (tot_short (Nat.le_trans HIt.out.t (by omega))) 1 (j : Int))
                have Hxj := Lib.hid hxj
                clear howj hgsj hxj
                go_wp2_with fail
                refine Howj.out.mono ?_
                rintro e wj ⟨rfl, rfl⟩
                cases hhj : xj.held with
                | true =>
                  go_wp2_with fail
                  exact ⟨⟨j + 1, by omega, by simp, HJ.out⟩, by simp [intOf]; omega⟩
                | false =>
                  have hqj := hq0.out hhj
                  go_wp2_with fail
                  refine hwt.out.mono ?_
                  rintro e wj2 ⟨u, rfl, mj⟩
                  have hwl : WaitersA st' 1 j = [] := by simp [WaitersA, nth, Hxj.out, hqj]
                  rw [hwl] at mj
                  obtain ⟨Aj, cj, rfl⟩ := Own.isSlice mj.own
                  have KJ := Lib.hid mj.kp
                  clear mj hqj hwl hhj
                  go_wp2_with fail
                  exact ⟨⟨j + 1, by omega, by simp, HJ.out.keeps KJ.out⟩, by simp [intOf]; omega⟩
              · obtain rfl : j = 2 := by omega
                go_wp2_with fail
                exact ⟨⟨k + 1, by omega, by omega, by simp, st', HJ.out, HIt.out, by have := HSt.out.1; omega, by have := HSt.out.2.1; omega, by have := HSt.out.2.2; omega⟩, by simp [intOf]; omega⟩
          | false =>
            cases hd with
            | true =>
              obtain ⟨rfl, rfl⟩ := F2.out rfl
              clear F1 F2
              go_wp2_with fail
              refine How5.out.mono ?_
              rintro e wo ⟨rfl, rfl⟩
              have hoo : (ow' != ow') = false := by simp
              go_wp2_with fail
              go_loopw [15] (fun i wq => ∃ j : Nat, j ≤ 2 ∧ i = .int .i64 j ∧ Gw w G st' wq) (fun i _ => 2 - (intOf i).toNat)
              case atStart => exact ⟨0, by omega, rfl, HGt.out⟩
              case round =>
                obtain ⟨j, hj, rfl, hgj⟩ := hrel
                have HJ := Lib.hid hgj
                clear hgj HGt
                have hwj : IntKind.i64.wrap ((j : Int) + 1) = (j : Int) + 1 := by rw [IntKind.wrap_i64]; omega
                by_cases hj2 : j < 2
                · obtain ⟨xj, hxj⟩ : ∃ x, (st').ms[j]? = some x := ⟨_, List.getElem?_eq_getElem (by have := HSt.out.1; omega)⟩
                  have hjz : (j : Int) < 2 := by omega
                  obtain ⟨Bj, hgsj, _⟩ := HJ.out
                  have howj := Owner_fn hgsj (j : Int)
                  rw [owner_eq hxj] at howj
                  have Howj := Lib.hid howj
                  have hq0 := Lib.hid (HIt.out.hq xj (List.mem_of_getElem? hxj))
                  have hwt := Lib.hid (Waiters_fn hgsj (tot_short (Nat.le_trans HIt.out.t (by omega))) 1 (j : Int))
                  have Hxj := Lib.hid hxj
                  clear howj hgsj hxj
                  go_wp2_with fail
                  refine Howj.out.mono ?_
                  rintro e wj ⟨rfl, rfl⟩
                  cases hhj : xj.held with
                  | true =>
                    go_wp2_with fail
                    exact ⟨⟨j + 1, by omega, by simp, HJ.out⟩, by simp [intOf]; omega⟩
                  | false =>
                    have hqj := hq0.out hhj
                    go_wp2_with fail
                    refine hwt.out.mono ?_
                    rintro e wj2 ⟨u, rfl, mj⟩
                    have hwl : WaitersA st' 1 j = [] := by simp [WaitersA, nth, Hxj.out, hqj]
                    rw [hwl] at mj
                    obtain ⟨Aj, cj, rfl⟩ := Own.isSlice mj.own
                    have KJ := Lib.hid mj.kp
                    clear mj hqj hwl hhj
                    go_wp2_with fail
                    exact ⟨⟨j + 1, by omega, by simp, HJ.out.keeps KJ.out⟩, by simp [intOf]; omega⟩
                · obtain rfl : j = 2 := by omega
                  go_wp2_with fail
                  exact ⟨⟨k + 1, by omega, by omega, by simp, st', HJ.out, HIt.out, by have := HSt.out.1; omega, by have := HSt.out.2.1; omega, by have := HSt.out.2.2; omega⟩, by simp [intOf]; omega⟩
            | false =>
              clear F1 F2
              go_wp2_with fail
              refine How5.out.mono ?_
              rintro e wo ⟨rfl, rfl⟩
              go_wp2_with fail
              go_loopw [15] (fun i wq => ∃ j : Nat, j ≤ 2 ∧ i = .int .i64 j ∧ Gw w G st' wq) (fun i _ => 2 - (intOf i).toNat)
              case atStart => exact ⟨0, by omega, rfl, HGt.out⟩
              case round =>
                obtain ⟨j, hj, rfl, hgj⟩ := hrel
                have HJ := Lib.hid hgj
                clear hgj HGt
                have hwj : IntKind.i64.wrap ((j : Int) + 1) = (j : Int) + 1 := by rw [IntKind.wrap_i64]; omega
                by_cases hj2 : j < 2
                · obtain ⟨xj, hxj⟩ : ∃ x, (st').ms[j]? = some x := ⟨_, List.getElem?_eq_getElem (by have := HSt.out.1; omega)⟩
                  have hjz : (j : Int) < 2 := by omega
                  obtain ⟨Bj, hgsj, _⟩ := HJ.out
                  have howj := Owner_fn hgsj (j : Int)
                  rw [owner_eq hxj] at howj
                  have Howj := Lib.hid howj
                  have hq0 := Lib.hid (HIt.out.hq xj (List.mem_of_getElem? hxj))
                  have hwt := Lib.hid (Waiters_fn hgsj (tot_short (Nat.le_trans HIt.out.t (by omega))) 1 (j : Int))
                  have Hxj := Lib.hid hxj
                  clear howj hgsj hxj
                  go_wp2_with fail
                  refine Howj.out.mono ?_
                  rintro e wj ⟨rfl, rfl⟩
                  cases hhj : xj.held with
                  | true =>
                    go_wp2_with fail
                    exact ⟨⟨j + 1, by omega, by simp, HJ.out⟩, by simp [intOf]; omega⟩
                  | false =>
                    have hqj := hq0.out hhj
                    go_wp2_with fail
                    refine hwt.out.mono ?_
                    rintro e wj2 ⟨u, rfl, mj⟩
                    have hwl : WaitersA st' 1 j = [] := by simp [WaitersA, nth, Hxj.out, hqj]
                    rw [hwl] at mj
                    obtain ⟨Aj, cj, rfl⟩ := Own.isSlice mj.own
                    have KJ := Lib.hid mj.kp
                    clear mj hqj hwl hhj
                    go_wp2_with fail
                    exact ⟨⟨j + 1, by omega, by simp, HJ.out.keeps KJ.out⟩, by simp [intOf]; omega⟩
                · obtain rfl : j = 2 := by omega
                  go_wp2_with fail
                  exact ⟨⟨k + 1, by omega, by omega, by simp, st', HJ.out, HIt.out, by have := HSt.out.1; omega, by have := HSt.out.2.1; omega, by have := HSt.out.2.2; omega⟩, by simp [intOf]; omega⟩
        · have g0 : (what == 0) = false := by rw [beq_eq_false_iff_ne]; exact w0
          by_cases w1 : what = 1
          · subst w1
            clear g0 w0
            obtain ⟨y, b, er, st', hL⟩ : ∃ y b er s, UnlockA st who n ch = (y, b, er, s) := ⟨_, _, _, _, rfl⟩
            have f1 := unlock_facts Hxm.out hL
            rw [Ho2.out] at f1
            have hinv := UnlockA_inv HI.out who (n : Int) ch
            rw [hL] at hinv
            have HIt := Lib.hid (hinv.1.mono (Nat.le_succ k))
            have HSt := Lib.hid hinv.2
            have hlk := Lib.hid (Unlock_at Hgs.out hsh.out who (n : Int) ch hL)
            have F1 : Hid (er = 0 → hd = true ∧ ow = who) := fun e => by
              obtain ⟨a1, a2⟩ := f1 e
              exact ⟨a1, by rw [← Ho3.out a1, a2]⟩
            clear hL f1 hinv
            go_wp2_with fail
            refine hlk.out.mono ?_
            rintro e w5 ⟨rfl, B5, g5, t5⟩
            have HGt : Hid (Gw w G st' w5) := ⟨B5, g5, Htq.out.trans t5⟩
            have hb5 := (t5.kp.block _ (lt_of_block Hbx.out) hgq.out).trans Hbx.out
            clear g5 t5 x0 x1 x2 x3 x4 hlk Ho2 Ho3
            have bw5 := hb5
            have x0 : w5.cell? ⟨gx, 0, none⟩ = some (.int .i64 (1)) := cell_of_block (o := 0) bw5 rfl
            have x1 : w5.cell? ⟨gx, 1, none⟩ = some (.int .i64 who) := cell_of_block (o := 1) bw5 rfl
            have x2 : w5.cell? ⟨gx, 2, none⟩ = some (.int .i64 (n : Nat)) := cell_of_block (o := 2) bw5 rfl
            have x3 : w5.cell? ⟨gx, 3, none⟩ = some (.int .i64 (m : Nat)) := cell_of_block (o := 3) bw5 rfl
            have x4 : w5.cell? ⟨gx, 4, none⟩ = some (.int .i64 ch) := cell_of_block (o := 4) bw5 rfl
            clear bw5
            by_cases e0 : er = 0
            · subst e0
              obtain ⟨rfl, rfl⟩ := F1.out rfl
              have hoo : (ow != ow) = false := by simp
              clear F1
              go_wp2_with fail
              go_loopw [15] (fun i wq => ∃ j : Nat, j ≤ 2 ∧ i = .int .i64 j ∧ Gw w G st' wq) (fun i _ => 2 - (intOf i).toNat)
              case atStart => exact ⟨0, by omega, rfl, HGt.out⟩
              case round =>
                obtain ⟨j, hj, rfl, hgj⟩ := hrel
                have HJ := Lib.hid hgj
                clear hgj HGt
                have hwj : IntKind.i64.wrap ((j : Int) + 1) = (j : Int) + 1 := by rw [IntKind.wrap_i64]; omega
                by_cases hj2 : j < 2
                · obtain ⟨xj, hxj⟩ : ∃ x, (st').ms[j]? = some x := ⟨_, List.getElem?_eq_getElem (by have := HSt.out.1; omega)⟩
                  have hjz : (j : Int) < 2 := by omega
                  obtain ⟨Bj, hgsj, _⟩ := HJ.out
                  have howj := Owner_fn hgsj (j : Int)
                  rw [owner_eq hxj] at howj
                  have Howj := Lib.hid howj
                  have hq0 := Lib.hid (HIt.out.hq xj (List.mem_of_getElem? hxj))
                  have hwt := Lib.hid (Waiters_fn hgsj (tot_short (Nat.le_trans HIt.out.t (by omega))) 1 (j : Int))
                  have Hxj := Lib.hid hxj
                  clear howj hgsj hxj
                  go_wp2_with fail
                  refine Howj.out.mono ?_
                  rintro e wj ⟨rfl, rfl⟩
                  cases hhj : xj.held with
                  | true =>
                    go_wp2_with fail
                    exact ⟨⟨j + 1, by omega, by simp, HJ.out⟩, by simp [intOf]; omega⟩
                  | false =>
                    have hqj := hq0.out hhj
                    go_wp2_with fail
                    refine hwt.out.mono ?_
                    rintro e wj2 ⟨u, rfl, mj⟩
                    have hwl : WaitersA st' 1 j = [] := by simp [WaitersA, nth, Hxj.out, hqj]
                    rw [hwl] at mj
                    obtain ⟨Aj, cj, rfl⟩ := Own.isSlice mj.own
                    have KJ := Lib.hid mj.kp
                    clear mj hqj hwl hhj
                    go_wp2_with fail
                    exact ⟨⟨j + 1, by omega, by simp, HJ.out.keeps KJ.out⟩, by simp [intOf]; omega⟩
                · obtain rfl : j = 2 := by omega
                  go_wp2_with fail
                  exact ⟨⟨k + 1, by omega, by omega, by simp, st', HJ.out, HIt.out, by have := HSt.out.1; omega, by have := HSt.out.2.1; omega, by have := HSt.out.2.2; omega⟩, by simp [intOf]; omega⟩
            · have ge : (er == 0) = false := by rw [beq_eq_false_iff_ne]; exact e0
              clear F1 e0
              go_wp2_with fail
              go_loopw [15] (fun i wq => ∃ j : Nat, j ≤ 2 ∧ i = .int .i64 j ∧ Gw w G st' wq) (fun i _ => 2 - (intOf i).toNat)
              case atStart => exact ⟨0, by omega, rfl, HGt.out⟩
              case round =>
                obtain ⟨j, hj, rfl, hgj⟩ := hrel
                have HJ := Lib.hid hgj
                clear hgj HGt
                have hwj : IntKind.i64.wrap ((j : Int) + 1) = (j : Int) + 1 := by rw [IntKind.wrap_i64]; omega
                by_cases hj2 : j < 2
                · obtain ⟨xj, hxj⟩ : ∃ x, (st').ms[j]? = some x := ⟨_, List.getElem?_eq_getElem (by have := HSt.out.1; omega)⟩
                  have hjz : (j : Int) < 2 := by omega
                  obtain ⟨Bj, hgsj, _⟩ := HJ.out
                  have howj := Owner_fn hgsj (j : Int)
                  rw [owner_eq hxj] at howj
                  have Howj := Lib.hid howj
                  have hq0 := Lib.hid (HIt.out.hq xj (List.mem_of_getElem? hxj))
                  have hwt := Lib.hid (Waiters_fn hgsj (tot_short (Nat.le_trans HIt.out.t (by omega))) 1 (j : Int))
                  have Hxj := Lib.hid hxj
                  clear howj hgsj hxj
                  go_wp2_with fail
                  refine Howj.out.mono ?_
                  rintro e wj ⟨rfl, rfl⟩
                  cases hhj : xj.held with
                  | true =>
                    go_wp2_with fail
                    exact ⟨⟨j + 1, by omega, by simp, HJ.out⟩, by simp [intOf]; omega⟩
                  | false =>
                    have hqj := hq0.out hhj
                    go_wp2_with fail
                    refine hwt.out.mono ?_
                    rintro e wj2 ⟨u, rfl, mj⟩
                    have hwl : WaitersA st' 1 j = [] := by simp [WaitersA, nth, Hxj.out, hqj]
                    rw [hwl] at mj
                    obtain ⟨Aj, cj, rfl⟩ := Own.isSlice mj.own
                    have KJ := Lib.hid mj.kp
                    clear mj hqj hwl hhj
                    go_wp2_with fail
                    exact ⟨⟨j + 1, by omega, by simp, HJ.out.keeps KJ.out⟩, by simp [intOf]; omega⟩
                · obtain rfl : j = 2 := by omega
                  go_wp2_with fail
                  exact ⟨⟨k + 1, by omega, by omega, by simp, st', HJ.out, HIt.out, by have := HSt.out.1; omega, by have := HSt.out.2.1; omega, by have := HSt.out.2.2; omega⟩, by simp [intOf]; omega⟩
          · have g1 : (what == 1) = false := by rw [beq_eq_false_iff_ne]; exact w1
            by_cases w2 : what = 2
            · subst w2
              clear g0 g1 w0 w1
              obtain ⟨y, b, er, st', hL⟩ : ∃ y b er s, WaitA st who n m ch = (y, b, er, s) := ⟨_, _, _, _, rfl⟩
              have hinv := WaitA_inv HI.out who (n : Int) (m : Int) ch
              rw [hL] at hinv
              have HIt := Lib.hid hinv.1
              have HSt := Lib.hid hinv.2
              have hlk := Lib.hid (Wait_at Hgs.out hsh.out who (n : Int) (m : Int) ch hL)
              clear hL hinv
              go_wp2_with fail
              refine hlk.out.mono ?_
              rintro e w5 ⟨rfl, B5, g5, t5⟩
              have HGt : Hid (Gw w G st' w5) := ⟨B5, g5, Htq.out.trans t5⟩
              clear g5 t5 x0 x1 x2 x3 x4 hlk Ho2 Ho3
              go_wp2_with fail
              go_loopw [15] (fun i wq => ∃ j : Nat, j ≤ 2 ∧ i = .int .i64 j ∧ Gw w G st' wq) (fun i _ => 2 - (intOf i).toNat)
              case atStart => exact ⟨0, by omega, rfl, HGt.out⟩
              case round =>
                obtain ⟨j, hj, rfl, hgj⟩ := hrel
                have HJ := Lib.hid hgj
                clear hgj HGt
                have hwj : IntKind.i64.wrap ((j : Int) + 1) = (j : Int) + 1 := by rw [IntKind.wrap_i64]; omega
                by_cases hj2 : j < 2
                · obtain ⟨xj, hxj⟩ : ∃ x, (st').ms[j]? = some x := ⟨_, List.getElem?_eq_getElem (by have := HSt.out.1; omega)⟩
                  have hjz : (j : Int) < 2 := by omega
                  obtain ⟨Bj, hgsj, _⟩ := HJ.out
                  have howj := Owner_fn hgsj (j : Int)
                  rw [owner_eq hxj] at howj
                  have Howj := Lib.hid howj
                  have hq0 := Lib.hid (HIt.out.hq xj (List.mem_of_getElem? hxj))
                  have hwt := Lib.hid (Waiters_fn hgsj (tot_short (Nat.le_trans HIt.out.t (by omega))) 1 (j : Int))
                  have Hxj := Lib.hid hxj
                  clear howj hgsj hxj
                  go_wp2_with fail
                  refine Howj.out.mono ?_
                  rintro e wj ⟨rfl, rfl⟩
                  cases hhj : xj.held with
                  | true =>
                    go_wp2_with fail
                    exact ⟨⟨j + 1, by omega, by simp, HJ.out⟩, by simp [intOf]; omega⟩
                  | false =>
                    have hqj := hq0.out hhj
                    go_wp2_with fail
                    refine hwt.out.mono ?_
                    rintro e wj2 ⟨u, rfl, mj⟩
                    have hwl : WaitersA st' 1 j = [] := by simp [WaitersA, nth, Hxj.out, hqj]
                    rw [hwl] at mj
                    obtain ⟨Aj, cj, rfl⟩ := Own.isSlice mj.own
                    have KJ := Lib.hid mj.kp
                    clear mj hqj hwl hhj
                    go_wp2_with fail
                    exact ⟨⟨j + 1, by omega, by simp, HJ.out.keeps KJ.out⟩, by simp [intOf]; omega⟩
                · obtain rfl : j = 2 := by omega
                  go_wp2_with fail
                  exact ⟨⟨k + 1, by omega, by omega, by simp, st', HJ.out, HIt.out, by have := HSt.out.1; omega, by have := HSt.out.2.1; omega, by have := HSt.out.2.2; omega⟩, by simp [intOf]; omega⟩
            · have g2 : (what == 2) = false := by rw [beq_eq_false_iff_ne]; exact w2
              obtain ⟨al, hal⟩ : ∃ al, (what == 4) = al := ⟨_, rfl⟩
              obtain ⟨y, er, st', hL⟩ : ∃ y er s, SignalA st n ch al = (y, er, s) := ⟨_, _, _, rfl⟩
              have hinv := SignalA_inv HI.out (n : Int) ch al
              rw [hL] at hinv
              have HIt := Lib.hid (hinv.1.mono (Nat.le_succ k))
              have HSt := Lib.hid hinv.2
              have hlk := Lib.hid (Signal_at Hgs.out HI.out.im (Nat.le_trans HI.out.t (by omega)) (n : Int) ch al hL)
              clear hL hinv w0 w1 w2
              go_wp2_with fail
              refine hlk.out.mono ?_
              rintro e w5 ⟨u5, B5, rfl, g5, t5, o5, _⟩
              obtain ⟨A5, c5, rfl⟩ := Own.isSlice o5
              have HGt : Hid (Gw w G st' w5) := ⟨B5, g5, Htq.out.trans t5⟩
              clear g5 t5 o5 x0 x1 x2 x3 x4 hlk Ho2 Ho3 g0 g1 g2 hal
              go_wp2_with fail
              go_loopw [15] (fun i wq => ∃ j : Nat, j ≤ 2 ∧ i = .int .i64 j ∧ Gw w G st' wq) (fun i _ => 2 - (intOf i).toNat)
              case atStart => exact ⟨0, by omega, rfl, HGt.out⟩
              case round =>
                obtain ⟨j, hj, rfl, hgj⟩ := hrel
                have HJ := Lib.hid hgj
                clear hgj HGt
                have hwj : IntKind.i64.wrap ((j : Int) + 1) = (j : Int) + 1 := by rw [IntKind.wrap_i64]; omega
                by_cases hj2 : j < 2
                · obtain ⟨xj, hxj⟩ : ∃ x, (st').ms[j]? = some x := ⟨_, List.getElem?_eq_getElem (by have := HSt.out.1; omega)⟩
                  have hjz : (j : Int) < 2 := by omega
                  obtain ⟨Bj, hgsj, _⟩ := HJ.out
                  have howj := Owner_fn hgsj (j : Int)
                  rw [owner_eq hxj] at howj
                  have Howj := Lib.hid howj
                  have hq0 := Lib.hid (HIt.out.hq xj (List.mem_of_getElem? hxj))
                  have hwt := Lib.hid (Waiters_fn hgsj (tot_short (Nat.le_trans HIt.out.t (by omega))) 1 (j : Int))
                  have Hxj := Lib.hid hxj
                  clear howj hgsj hxj
                  go_wp2_with fail
                  refine Howj.out.mono ?_
                  rintro e wj ⟨rfl, rfl⟩
                  cases hhj : xj.held with
                  | true =>
                    go_wp2_with fail
                    exact ⟨⟨j + 1, by omega, by simp, HJ.out⟩, by simp [intOf]; omega⟩
                  | false =>
                    have hqj := hq0.out hhj
                    go_wp2_with fail
                    refine hwt.out.mono ?_
                    rintro e wj2 ⟨u, rfl, mj⟩
                    have hwl : WaitersA st' 1 j = [] := by simp [WaitersA, nth, Hxj.out, hqj]
                    rw [hwl] at mj
                    obtain ⟨Aj, cj, rfl⟩ := Own.isSlice mj.own
                    have KJ := Lib.hid mj.kp
                    clear mj hqj hwl hhj
                    go_wp2_with fail
                    exact ⟨⟨j + 1, by omega, by simp, HJ.out.keeps KJ.out⟩, by simp [intOf]; omega⟩
                · obtain rfl : j = 2 := by omega
                  go_wp2_with fail
                  exact ⟨⟨k + 1, by omega, by omega, by simp, st', HJ.out, HIt.out, by have := HSt.out.1; omega, by have := HSt.out.2.1; omega, by have := HSt.out.2.2; omega⟩, by simp [intOf]; omega⟩
    · have HGk := Lib.hid HG.out.kp
      rcases Nat.lt_or_ge k l.length with hlt1 | hge1
      · have hk1 : (k : Int) < (l.length : Int) := by omega
        have hk2 : (80 : Int) ≤ (k : Int) := by omega
        go_wp2_with fail
        refine (awake_calls _).mono ?_
        rintro e w6 ⟨rfl, k6⟩
        have K6 := Lib.hid (HGk.out.trans k6 (fun _ _ e => e))
        clear k6
        go_wp2_with fail
        go_ret
        exact ⟨rfl, K6.out.below (Nat.le_refl _) (fun _ e => e.elim)⟩
      · have hk1 : (l.length : Int) ≤ (k : Int) := by omega
        go_wp2_with fail
        refine (awake_calls _).mono ?_
        rintro e w6 ⟨rfl, k6⟩
        have K6 := Lib.hid (HGk.out.trans k6 (fun _ _ e => e))
        clear k6
        go_wp2_with fail
        go_ret
        exact ⟨rfl, K6.out.below (Nat.le_refl _) (fun _ e => e.elim)⟩

theorem alone_row (w : World) (v : Value) (l : List Act) (h : ActsAt w v l) : Calls Try.prog 5 #[v] w fun e w' => e = .returned (.bool true) ∧ Below w.heap.size w w' := alone_calls v l w h

end Gt
end Go.Proofs.Ytlgolofcpokndaa
