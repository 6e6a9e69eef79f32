/- GateOnce: nobody ever waits in two places, or twice in one. -/
import Derived.Test.YtlgolofcpokndaaGtW
namespace Go.Proofs.Ytlgolofcpokndaa
open Go.RowKit
namespace Gt

theorem own_new {w : World} (k : Nat) (h : k = w.heap.size) : Own (w.alloc (.cells #[] 3)) 3 1 (.slice (some ⟨k, 0, none⟩) 0 0) 0 [] := by
  subst h
  exact World.ownsRow_lit w #[] 0 (Nat.zero_le _) (by simp [maxLen]) (by simp)

def ORel (w : World) (G : Nat) (k : Nat) (wr : World) : Prop := ∃ st, Gw w G st wr ∧ Inv k st ∧ st.ms.length = 2 ∧ st.cs.length = 2 ∧ st.ss.length = 2

def rowsK (st : St) (q : Nat) : List Int := WaitersA st q 0 ++ WaitersA st q 1
def rowsTo (st : St) (kd n : Nat) : List Int := (List.range' 1 (kd - 1)).flatMap (rowsK st) ++ (List.range n).flatMap (fun (j : Nat) => WaitersA st kd j)

theorem rowsTo_next (st : St) (kd n : Nat) : rowsTo st kd (n + 1) = rowsTo st kd n ++ WaitersA st kd n := by
  unfold rowsTo
  rw [List.range_succ, List.flatMap_append, List.append_assoc]
  simp

theorem rowsTo_kind (st : St) (kd : Nat) (h : 1 ≤ kd) : rowsTo st (kd + 1) 0 = rowsTo st kd 2 := by
  unfold rowsTo
  obtain ⟨j, rfl⟩ : ∃ j, kd = j + 1 := ⟨kd - 1, by omega⟩
  simp only [Nat.add_sub_cancel]
  rw [List.range'_1_concat, List.flatMap_append]
  simp [List.range_succ, rowsK, Nat.add_comm]

theorem list2 {α : Type} {l : List α} (h : l.length = 2) : ∃ a b, l = [a, b] := by
  match l, h with
  | [a, b], _ => exact ⟨a, b, rfl⟩

theorem all_count {st : St} (h1 : st.ms.length = 2) (h2 : st.cs.length = 2) (h3 : st.ss.length = 2) (z : Int) : (rowsTo st 4 0).count z = wsum (cq z) st := by
  obtain ⟨ms, cs, ss⟩ := st
  obtain ⟨a, b, rfl⟩ := list2 h1
  obtain ⟨c, d, rfl⟩ := list2 h2
  obtain ⟨e, f, rfl⟩ := list2 h3
  simp [rowsTo, rowsK, List.range', WaitersA, nth, wsum, sumL, cq]
  omega

theorem all_nodup {k : Nat} {st : St} (h : Inv k st) (h1 : st.ms.length = 2) (h2 : st.cs.length = 2) (h3 : st.ss.length = 2) : (rowsTo st 4 0).Nodup := by
  rw [List.nodup_iff_count]
  intro z
  rw [all_count h1 h2 h3]
  exact h.nd z

theorem waiters_len {st : St} {k : Nat} (h : ShortA k st) (q n : Int) : (WaitersA st q n).length ≤ k := by
  unfold WaitersA
  split
  · cases e : nth st.ms n with
    | none => simp
    | some x => simpa using h.1 x (List.mem_of_getElem? (nth_get e).2)
  · split
    · cases e : nth st.cs n with
      | none => simp
      | some x => simpa using h.2.1 x (List.mem_of_getElem? (nth_get e).2)
    · split
      · cases e : nth st.ss n with
        | none => simp
        | some x => simpa using h.2.2 x (List.mem_of_getElem? (nth_get e).2)
      · simp

theorem rowsTo_le {st : St} {k : Nat} (h : ShortA k st) (kd n : Nat) (h1 : kd ≤ 4) (h2 : n ≤ 2) : (rowsTo st kd n).length ≤ 8 * k := by
  have hr : ∀ q, (rowsK st q).length ≤ 2 * k := fun q => by
    unfold rowsK
    rw [List.length_append]
    have := waiters_len h q 0
    have := waiters_len h q 1
    omega
  have ha : ∀ m, ((List.range' 1 m).flatMap (rowsK st)).length ≤ m * (2 * k) := fun m => by
    induction m with
    | zero => simp
    | succ m ih =>
      rw [List.range'_1_concat, List.flatMap_append, List.length_append, Nat.add_mul]
      have := hr (1 + m)
      simp only [List.flatMap_cons, List.flatMap_nil, List.append_nil]
      omega
  have hb : ∀ m, ((List.range m).flatMap (fun (j : Nat) => WaitersA st kd j)).length ≤ m * k := fun m => by
    induction m with
    | zero => simp
    | succ m ih =>
      rw [List.range_succ, List.flatMap_append, List.length_append, Nat.add_mul]
      have := waiters_len h kd m
      simp only [List.flatMap_cons, List.flatMap_nil, List.append_nil]
      omega
  unfold rowsTo
  rw [List.length_append]
  have h3 := ha (kd - 1)
  have h4 := hb n
  have h5 : (kd - 1) * (2 * k) ≤ 3 * (2 * k) := Nat.mul_le_mul_right _ (by omega)
  have h6 : n * k ≤ 2 * k := Nat.mul_le_mul_right _ h2
  omega

theorem litI2 {w : World} {q : Nat} {x y : Int} (hx : (Lit.int .i64 x).wf = true) (hy : (Lit.int .i64 y).wf = true) (h : w.heap[q]? = some (.cells #[.int .i64 x, .int .i64 y] 3 (0, 0))) : IntsAt .i64 w (some ⟨q, 0, none⟩) q 0 2 [x, y] :=
  ⟨fun _ => rfl, fun j hj => by
    match j, hj with
    | 0, _ => exact cell_of_block (o := 0) h rfl
    | 1, _ => exact cell_of_block (o := 1) h rfl, fun j hj => by
    match j, hj with
    | 0, _ => exact hx
    | 1, _ => exact hy, rfl⟩

set_option maxRecDepth 100000 in
set_option maxHeartbeats 1000000 in
theorem once_calls (v : Value) (l : List Act) (w : World) (hv : ActsAt w v l) :
    Calls Try.prog 3 #[v] w fun e w' => e = .returned (.bool true) ∧ Below w.heap.size w w' := by
  obtain ⟨⟨A, b, off, cap, rfl, hA, hcl⟩, hl15⟩ := hv
  have hrd := Lib.hid hcl
  have HA := Lib.hid hA
  clear hcl hA
  go_enter Try.func3, Try.ntmps3
  go_wp2_with fail
  refine (New_fn 2 2 2 2 (by decide) (by decide) (some ⟨w.heap.size, 0, none⟩) w.heap.size 0 2 2 _ [0, 1] (litI2 (by decide) (by decide) (block_alloc_new w (.cells #[.int .i64 0, .int .i64 1] 3))) (Nat.le_refl _)).mono ?_
  rintro e w1 ⟨G, B1, rfl, g1, t1⟩
  have H1 : Hid (ORel w G 0 w1) := ⟨_, ⟨B1, g1, (Turn.keeps ((Keeps.refl NoBlock w).alloc _)).trans t1⟩, ⟨by decide, fun q hq y hy => by simp [begin_] at hq; subst hq; simp at hy, fun x hx _ => by simp [begin_] at hx; subst hx; rfl, fun x hx => by simp [begin_] at hx; rcases hx with rfl | rfl <;> decide, fun z => by simp [begin_, wsum, sumL, cq]⟩, rfl, rfl, rfl⟩
  clear g1 t1
  go_wp2_with fail
  go_loopw [4] (fun i wr => ∃ (k : Nat), k ≤ 60 ∧ k ≤ l.length ∧ i = .int .i64 k ∧ ORel w G k wr) (fun i _ => 60 - (intOf i).toNat)
  case atStart => exact ⟨0, by omega, by omega, rfl, H1.out⟩
  case round =>
    obtain ⟨k, hk, hkl, rfl, st, hg, hI, lm, lc, ls⟩ := hrel
    have HG := Lib.hid hg
    have HI := Lib.hid hI
    clear hg hI H1
    have hpk : Hid (∀ (c : Int) (w : World), Calls Try.prog 9 #[.int .i64 c, .int .i64 2] w fun e w' => e = .returned (.int .i64 (at_ c 2)) ∧ w = w') := fun c w => pick_calls c 2 (by decide) (by decide) w
    by_cases hlt : k < l.length ∧ k < 60
    · obtain ⟨hlt, hlt2⟩ := hlt
      obtain ⟨x, hx⟩ : ∃ x, l[k]? = some x := ⟨_, List.getElem?_eq_getElem hlt⟩
      obtain ⟨rfl, hbw⟩ := HA.out (by omega)
      have q0 := (HG.out.kp.cell hbw (fun e => e)).trans (hrd.out k x 0 _ hx rfl)
      have q1 := (HG.out.kp.cell hbw (fun e => e)).trans (hrd.out k x 1 _ hx rfl)
      have q2 := (HG.out.kp.cell hbw (fun e => e)).trans (hrd.out k x 2 _ hx rfl)
      have q3 := (HG.out.kp.cell hbw (fun e => e)).trans (hrd.out k x 3 _ hx rfl)
      have q4 := (HG.out.kp.cell hbw (fun e => e)).trans (hrd.out k x 4 _ hx rfl)
      rw [Nat.add_zero] at q0
      have hk0 : (0 : Int) ≤ (k : Int) := by omega
      have hk1 : (k : Int) < (l.length : Int) := by omega
      have hk2 : (k : Int) < 60 := by omega
      have hwk : IntKind.i64.wrap ((k : Int) + 1) = (k : Int) + 1 := by rw [IntKind.wrap_i64]; omega
      obtain ⟨what, who, an, am, ch⟩ := x
      simp only [] at q0 q1 q2 q3 q4
      clear hx hbw
      obtain ⟨Bq, hgs, htq, hltq⟩ := HG.out.tight
      go_upto_region 6 with fail
      generalize hW : World.alloc wr _ = w2
      obtain ⟨gx, hgx⟩ : ∃ gx, wr.heap.size = gx := ⟨_, rfl⟩
      have bx0 : w2.heap[gx]? = some (.cells #[.int .i64 what, .int .i64 who, .int .i64 an, .int .i64 am, .int .i64 ch] 27 (0, 0)) := by rw [← hW, ← hgx]; exact block_alloc_new _ _
      have k2 : Keeps NoBlock wr w2 := by rw [← hW]; exact (Keeps.refl _ _).alloc _
      have hgq : Hid (¬ Bq gx) := fun e => by have := hltq gx e; omega
      have hgw : Hid (w.heap.size ≤ gx) := by have := HG.out.kp.size; show _ ≤ _; omega
      have HS2 := Lib.hid (hgs.keeps k2 (fun _ e => e.elim))
      have HT2 := Lib.hid (htq.trans (Turn.keeps k2))
      rw [hgx]
      clear hW hgx k2 hgs htq hltq q0 q1 q2 q3 q4
      have x0 : w2.cell? ⟨gx, 0, none⟩ = some (.int .i64 what) := cell_of_block (o := 0) bx0 rfl
      have x1 : w2.cell? ⟨gx, 1, none⟩ = some (.int .i64 who) := cell_of_block (o := 1) bx0 rfl
      have x2 : w2.cell? ⟨gx, 2, none⟩ = some (.int .i64 an) := cell_of_block (o := 2) bx0 rfl
      have x3 : w2.cell? ⟨gx, 3, none⟩ = some (.int .i64 am) := cell_of_block (o := 3) bx0 rfl
      have x4 : w2.cell? ⟨gx, 4, none⟩ = some (.int .i64 ch) := cell_of_block (o := 4) bx0 rfl
      have y2 := frozen_of_block bx0 (o := 2)
      have y3 := frozen_of_block bx0 (o := 3)
      have HB0 := Lib.hid bx0
      clear bx0
      have hfin : Hid (∀ W, Keeps (fun b => b = gx) w2 W → W.heap[gx]? = some (.cells #[.int .i64 what, .int .i64 who, .int .i64 (at_ an 2 : Nat), .int .i64 (at_ am 2 : Nat), .int .i64 ch] 27 (0, 0)) → Hid (Gs G Bq st W) ∧ Hid (Turn NoBlock Bq w W) ∧ Hid (W.heap[gx]? = some (.cells #[.int .i64 what, .int .i64 who, .int .i64 (at_ an 2 : Nat), .int .i64 (at_ am 2 : Nat), .int .i64 ch] 27 (0, 0)))) := fun W k h =>
        ⟨HS2.out.keeps k (fun b e => by rw [e]; exact hgq.out), HT2.out.step k (fun b e => by rw [e]; exact hgw.out), h⟩
      go_cut [34] from 27 to 34 (fun _v wx => Hid (Gs G Bq st wx) ∧ Hid (Turn NoBlock Bq w wx) ∧ Hid (wx.heap[gx]? = some (.cells #[.int .i64 what, .int .i64 who, .int .i64 (at_ an 2 : Nat), .int .i64 (at_ am 2 : Nat), .int .i64 ch] 27 (0, 0))))
      case first =>
        go_region_law (first | (go_simp; go_at_call 9; refine (hpk.out _ _).mono ?_; rintro e w3 ⟨rfl, rfl⟩) | fail)
        all_goals
          go_wp2_with fail
          go_meet
          case rel =>
            refine hfin.out _ ?_ ?_
            · repeat (first | with_reducible exact Keeps.refl _ _ | with_reducible refine Keeps.drew ?_ | with_reducible refine keeps_box ?_)
            · first
              | exact block_set (block_set HB0.out _) _
      case rest =>
        obtain ⟨Hgs, Htq, Hbx⟩ := hcut
        clear hfin HS2 HT2 HB0 x0 x1 x2 x3 x4 y2 y3
        obtain ⟨n, hn, hn2⟩ : ∃ n, at_ an 2 = n ∧ n < 2 := ⟨_, rfl, at_lt an (by decide)⟩
        obtain ⟨m, hm, hm2⟩ : ∃ m, at_ am 2 = m ∧ m < 2 := ⟨_, rfl, at_lt am (by decide)⟩
        rw [hn, hm] at Hbx
        clear hn hm
        have hsh := Lib.hid (tot_short (Nat.le_trans HI.out.t (show k ≤ 1000000 by omega)))
        have bwc := Hbx.out
        have x0 : wc.cell? ⟨gx, 0, none⟩ = some (.int .i64 (what)) := cell_of_block (o := 0) bwc rfl
        have x1 : wc.cell? ⟨gx, 1, none⟩ = some (.int .i64 who) := cell_of_block (o := 1) bwc rfl
        have x2 : wc.cell? ⟨gx, 2, none⟩ = some (.int .i64 (n : Nat)) := cell_of_block (o := 2) bwc rfl
        have x3 : wc.cell? ⟨gx, 3, none⟩ = some (.int .i64 (m : Nat)) := cell_of_block (o := 3) bwc rfl
        have x4 : wc.cell? ⟨gx, 4, none⟩ = some (.int .i64 ch) := cell_of_block (o := 4) bwc rfl
        clear bwc
        by_cases w0 : what = 0
        · subst w0
          obtain ⟨b, er, st', hL⟩ : ∃ b er s, LockA st who n = (b, er, s) := ⟨_, _, _, rfl⟩
          have hinv := LockA_inv HI.out who (n : Int)
          rw [hL] at hinv
          have HIt := Lib.hid hinv.1
          have HSt := Lib.hid hinv.2
          have hlk := Lib.hid (Lock_at Hgs.out hsh.out who (n : Int) hL)
          clear hL hinv
          go_wp2_with fail
          refine hlk.out.mono ?_
          rintro e w5 ⟨rfl, B5, g5, t5⟩
          have HGt : Hid (Gw w G st' w5) := ⟨B5, g5, Htq.out.trans t5⟩
          clear g5 t5 x0 x1 x2 x3 x4 hlk
          go_wp2_with fail
          have HN := Lib.hid (all_nodup HIt.out (by have := HSt.out.1; omega) (by have := HSt.out.2.1; omega) (by have := HSt.out.2.2; omega))
          have hsT := Lib.hid (tot_short (Nat.le_trans HIt.out.t (show k + 1 ≤ 100 by omega)))
          have hsT2 := Lib.hid (tot_short (Nat.le_trans HIt.out.t (show k + 1 ≤ 10000 by omega)))
          obtain ⟨Bt, hgt, _⟩ := HGt.out
          have Hgt := Lib.hid hgt
          clear hgt
          go_loopw [6, 7] (fun u i wq => ∃ (kd : Nat) (A : Option Addr) (c : Nat), 1 ≤ kd ∧ kd ≤ 4 ∧ i = .int .i64 kd ∧ u = .slice A (rowsTo st' kd 0).length c ∧ Mine w5 wq 3 1 (.slice A (rowsTo st' kd 0).length c) (rowsTo st' kd 0).length ((rowsTo st' kd 0).map encI)) (fun _ i _ => 4 - (intOf i).toNat)
          case atStart => exact ⟨1, _, _, by omega, by omega, rfl, rfl, ⟨own_new w5.heap.size rfl, fun b hb => by simp only [Value.ownBlock, Option.some.injEq] at hb; omega, (Keeps.refl _ _).alloc _⟩⟩
          case round =>
            obtain ⟨kd, A6, c6, hkd1, hkd4, rfl, rfl, hmine⟩ := hrel
            have HM := Lib.hid hmine
            clear hmine
            by_cases hkd : kd < 4
            · have hkz : (kd : Int) ≤ 3 := by omega
              have hwkd : IntKind.i64.wrap ((kd : Int) + 1) = (kd : Int) + 1 := by rw [IntKind.wrap_i64]; omega
              go_upto_region 24 with fail
              go_wp2_with fail
              go_loopw [6, 8] (fun u i wq => ∃ (nn : Nat) (A : Option Addr) (c : Nat), nn ≤ 2 ∧ i = .int .i64 nn ∧ u = .slice A (rowsTo st' kd nn).length c ∧ Mine w5 wq 3 1 (.slice A (rowsTo st' kd nn).length c) (rowsTo st' kd nn).length ((rowsTo st' kd nn).map encI)) (fun _ i _ => 2 - (intOf i).toNat)
              case atStart => exact ⟨0, _, _, by omega, rfl, rfl, HM.out⟩
              case round =>
                obtain ⟨nn, A6, c6, hnn, rfl, rfl, hmine⟩ := hrel
                have HM2 := Lib.hid hmine
                clear hmine
                by_cases hn2' : nn < 2
                · have hnz : (nn : Int) < 2 := by omega
                  have hwnn : IntKind.i64.wrap ((nn : Int) + 1) = (nn : Int) + 1 := by rw [IntKind.wrap_i64]; omega
                  have hwt := Lib.hid (Waiters_fn (Hgt.out.keeps HM2.out.kp (fun _ e => e.elim)) hsT2.out (kd : Int) (nn : Int))
                  have hlw := waiters_len hsT.out (kd : Int) (nn : Int)
                  have hlr := rowsTo_le hsT.out kd nn hkd4 hnn
                  have hnext := Lib.hid (rowsTo_next st' kd nn)
                  obtain ⟨ys, hys⟩ : ∃ ys, WaitersA st' kd nn = ys := ⟨_, rfl⟩
                  obtain ⟨xs, hxs⟩ : ∃ xs, rowsTo st' kd nn = xs := ⟨_, rfl⟩
                  rw [hys] at hwt hlw hnext
                  rw [hxs] at HM2 hlr hnext ⊢
                  clear hys hxs
                  go_wp2_with fail
                  refine hwt.out.mono ?_
                  rintro e wj2 ⟨u, rfl, mj⟩
                  have M7 := Lib.hid (HM2.out.keeps mj.kp)
                  obtain ⟨Aj, cj, rfl, hAj⟩ := own_len mj.own
                  have hcj : Hid (∀ g, Aj = some ⟨g, 0, none⟩ → ∀ j u, (ys.map encI)[j]? = some u → wj2.cell? ⟨g, 0 + j, none⟩ = some u) := fun g hg j u hu => by
                    subst hg
                    have hj := (List.getElem?_eq_some_iff.1 hu).1
                    rw [Nat.zero_add, World.ownsRow.cellAt mj.own j (by simpa using hj)]
                    exact hu
                  clear mj
                  by_cases hy0 : 0 < ys.length
                  · obtain ⟨g, rfl⟩ := hAj hy0
                    have hcg := Lib.hid (hcj.out g rfl)
                    clear hAj
                    go_wp2_with (at_builtin; refine wpList_appX eI _ rfl _ _ rfl (.slice A6 xs.length c6) xs.length (xs.map encI) rfl M7.out.own (some ⟨g, 0, none⟩) g 0 ys.length cj (ys.map encI) rfl (fun _ => rfl) (by simp) hcg.out (eIone ys) (by simp only [maxLen]; omega) (by omega) ?_; intro v8 w8 ho8 hg8 hf8 _)
                    obtain ⟨A8, c8, rfl⟩ := Own.isSlice ho8
                    refine ⟨⟨nn + 1, A8, c8, by omega, by simp, ?_, ?_⟩, by simp [intOf]; omega⟩
                    · rw [hnext.out, List.length_append]
                    · rw [hnext.out, List.length_append, List.map_append]
                      exact M7.out.grow (Keeps.refl _ _) ho8 hg8 hf8 (Nat.le_refl _)
                  · obtain rfl : ys = [] := List.eq_nil_of_length_eq_zero (by omega)
                    clear hcj hAj
                    go_wp2_with (at_builtin; refine wpList_appX eI _ rfl _ _ rfl (.slice A6 xs.length c6) xs.length (xs.map encI) rfl M7.out.own Aj 0 0 0 cj [] rfl (fun h => absurd h (Nat.lt_irrefl _)) rfl (fun j u h => by simp at h) (fun u h => by simp at h) (by simp only [maxLen]; omega) (by omega) ?_; intro v8 w8 ho8 hg8 hf8 _)
                    obtain ⟨A8, c8, rfl⟩ := Own.isSlice ho8
                    rw [List.append_nil] at hnext
                    refine ⟨⟨nn + 1, A8, c8, by omega, by simp, ?_, ?_⟩, by simp [intOf]; omega⟩
                    · rw [hnext.out]; rfl
                    · rw [hnext.out]
                      rw [List.append_nil] at ho8
                      exact M7.out.grow (Keeps.refl _ _) ho8 hg8 hf8 (Nat.le_refl _)
                · obtain rfl : nn = 2 := by omega
                  have hknd := rowsTo_kind st' kd hkd1
                  rw [← hknd] at HM2 ⊢
                  have HM3 := HM2
                  clear HM2
                  go_wp2_with fail
                  exact ⟨⟨kd + 1, A6, c6, by omega, by omega, by simp, rfl, HM3.out⟩, by simp [intOf]; omega⟩
            · obtain rfl : kd = 4 := by omega
              obtain ⟨xs, hxs⟩ : ∃ xs, rowsTo st' 4 0 = xs := ⟨_, rfl⟩
              have HXL : Hid (xs.length ≤ 1000) := by
                have := rowsTo_le hsT.out 4 0 (Nat.le_refl _) (by omega)
                rw [hxs] at this
                show _ ≤ _
                omega
              rw [hxs] at HM HN ⊢
              clear hxs
              obtain ⟨wx, hwx⟩ : ∃ wx, wx = wr := ⟨_, rfl⟩
              rw [← hwx] at HM ⊢
              clear hwx
              have hlx : Hid (∀ b, (Value.slice A6 xs.length c6).ownBlock = some b → b < wx.heap.size) := HM.out.lt
              obtain ⟨_, _, hsl, hA6⟩ := own_len HM.out.own
              obtain ⟨rfl, rfl⟩ : A6 = _ ∧ c6 = _ := by
                injection hsl with h1 _ h2
                exact ⟨h1, h2⟩
              have HA6 := Lib.hid hA6
              have hxl : xs.length ≤ 1000 := HXL.out
              clear hA6 hsl
              go_wp2_with fail
              go_loopw [9] (fun i wq => ∃ p : Nat, p ≤ xs.length ∧ i = .int .i64 p ∧ Keeps NoBlock wx wq) (fun i _ => xs.length - (intOf i).toNat)
              case atStart => exact ⟨0, by omega, rfl, Keeps.refl _ _⟩
              case round =>
                obtain ⟨p, hp, rfl, hkp⟩ := hrel
                have HKP := Lib.hid hkp
                clear hkp
                by_cases hpl : p < xs.length
                · have hpz : (p : Int) < (xs.length : Int) := by omega
                  have hp0 : (0 : Int) ≤ (p : Int) := by omega
                  have hwp : IntKind.i64.wrap ((p : Int) + 1) = (p : Int) + 1 := by rw [IntKind.wrap_i64]; omega
                  obtain ⟨g, rfl⟩ := HA6.out (by omega)
                  obtain ⟨yp, hyp⟩ : ∃ y, xs[p]? = some y := ⟨_, List.getElem?_eq_getElem hpl⟩
                  have Hyp := Lib.hid hyp
                  clear hyp
                  go_wp2_with fail
                  go_loopw [10] (fun i wq => ∃ q : Nat, q ≤ p ∧ i = .int .i64 q ∧ Keeps NoBlock wx wq) (fun i _ => p - (intOf i).toNat)
                  case atStart => exact ⟨0, by omega, rfl, HKP.out⟩
                  case round =>
                    obtain ⟨q, hq, rfl, hkq⟩ := hrel
                    have HKQ := Lib.hid hkq
                    clear hkq
                    by_cases hqp : q < p
                    · have hqz : (q : Int) < (p : Int) := by omega
                      have hq0 : (0 : Int) ≤ (q : Int) := by omega
                      have hql : (q : Int) < (xs.length : Int) := by omega
                      have hwq : IntKind.i64.wrap ((q : Int) + 1) = (q : Int) + 1 := by rw [IntKind.wrap_i64]; omega
                      obtain ⟨yq, hyq⟩ : ∃ y, xs[q]? = some y := ⟨_, List.getElem?_eq_getElem (by omega)⟩
                      have hown := HM.out.own.keeps HKQ.out (fun _ _ e => e)
                      have cp : wr.cell? ⟨g, p, none⟩ = some (.int .i64 yp) := by
                        rw [World.ownsRow.cellAt hown p (by omega), List.getElem?_map, Hyp.out]; rfl
                      have cq' : wr.cell? ⟨g, q, none⟩ = some (.int .i64 yq) := by
                        rw [World.ownsRow.cellAt hown q (by omega), List.getElem?_map, hyq]; rfl
                      have hne : (yq == yp) = false := by
                        rw [beq_eq_false_iff_ne]
                        intro e
                        subst e
                        exact absurd ((List.getElem?_inj (by omega) HN.out).1 (hyq.trans Hyp.out.symm)) (by omega)
                      clear hown hyq
                      go_wp2_with fail
                      go_region
                      go_wp2_with fail
                      exact ⟨⟨q + 1, by omega, by simp, by repeat (first | with_reducible exact HKQ.out | with_reducible refine Keeps.drew ?_ | with_reducible refine Keeps.drewN ?_ _)⟩, by simp [intOf]; omega⟩
                    · obtain rfl : q = p := by omega
                      go_wp2_with fail
                      exact ⟨⟨q + 1, by omega, by simp, HKQ.out⟩, by simp [intOf]; omega⟩
                · obtain rfl : p = xs.length := by omega
                  have HGe : Hid (Gw w G st' wr) := HGt.out.keeps (HM.out.kp.trans HKP.out (fun _ _ e => e))
                  go_wp2_with fail
                  exact ⟨⟨k + 1, by omega, by omega, by simp, st', HGe.out, HIt.out, by have := HSt.out.1; omega, by have := HSt.out.2.1; omega, by have := HSt.out.2.2; omega⟩, by simp [intOf]; omega⟩
        · have g0 : (what == 0) = false := by rw [beq_eq_false_iff_ne]; exact w0
          by_cases w1 : what = 1
          · subst w1
            clear g0 w0
            obtain ⟨y, b, er, st', hL⟩ : ∃ y b er s, UnlockA st who n ch = (y, b, er, s) := ⟨_, _, _, _, rfl⟩
            have hinv := UnlockA_inv HI.out who (n : Int) ch
            rw [hL] at hinv
            have HIt := Lib.hid (hinv.1.mono (Nat.le_succ k))
            have HSt := Lib.hid hinv.2
            have hlk := Lib.hid (Unlock_at Hgs.out hsh.out who (n : Int) ch hL)
            clear hL hinv
            go_wp2_with fail
            refine hlk.out.mono ?_
            rintro e w5 ⟨rfl, B5, g5, t5⟩
            have HGt : Hid (Gw w G st' w5) := ⟨B5, g5, Htq.out.trans t5⟩
            clear g5 t5 x0 x1 x2 x3 x4 hlk
            go_wp2_with fail
            have HN := Lib.hid (all_nodup HIt.out (by have := HSt.out.1; omega) (by have := HSt.out.2.1; omega) (by have := HSt.out.2.2; omega))
            have hsT := Lib.hid (tot_short (Nat.le_trans HIt.out.t (show k + 1 ≤ 100 by omega)))
            have hsT2 := Lib.hid (tot_short (Nat.le_trans HIt.out.t (show k + 1 ≤ 10000 by omega)))
            obtain ⟨Bt, hgt, _⟩ := HGt.out
            have Hgt := Lib.hid hgt
            clear hgt
            go_loopw [6, 7] (fun u i wq => ∃ (kd : Nat) (A : Option Addr) (c : Nat), 1 ≤ kd ∧ kd ≤ 4 ∧ i = .int .i64 kd ∧ u = .slice A (rowsTo st' kd 0).length c ∧ Mine w5 wq 3 1 (.slice A (rowsTo st' kd 0).length c) (rowsTo st' kd 0).length ((rowsTo st' kd 0).map encI)) (fun _ i _ => 4 - (intOf i).toNat)
            case atStart => exact ⟨1, _, _, by omega, by omega, rfl, rfl, ⟨own_new w5.heap.size rfl, fun b hb => by simp only [Value.ownBlock, Option.some.injEq] at hb; omega, (Keeps.refl _ _).alloc _⟩⟩
            case round =>
              obtain ⟨kd, A6, c6, hkd1, hkd4, rfl, rfl, hmine⟩ := hrel
              have HM := Lib.hid hmine
              clear hmine
              by_cases hkd : kd < 4
              · have hkz : (kd : Int) ≤ 3 := by omega
                have hwkd : IntKind.i64.wrap ((kd : Int) + 1) = (kd : Int) + 1 := by rw [IntKind.wrap_i64]; omega
                go_upto_region 24 with fail
                go_wp2_with fail
                go_loopw [6, 8] (fun u i wq => ∃ (nn : Nat) (A : Option Addr) (c : Nat), nn ≤ 2 ∧ i = .int .i64 nn ∧ u = .slice A (rowsTo st' kd nn).length c ∧ Mine w5 wq 3 1 (.slice A (rowsTo st' kd nn).length c) (rowsTo st' kd nn).length ((rowsTo st' kd nn).map encI)) (fun _ i _ => 2 - (intOf i).toNat)
                case atStart => exact ⟨0, _, _, by omega, rfl, rfl, HM.out⟩
                case round =>
                  obtain ⟨nn, A6, c6, hnn, rfl, rfl, hmine⟩ := hrel
                  have HM2 := Lib.hid hmine
                  clear hmine
                  by_cases hn2' : nn < 2
                  · have hnz : (nn : Int) < 2 := by omega
                    have hwnn : IntKind.i64.wrap ((nn : Int) + 1) = (nn : Int) + 1 := by rw [IntKind.wrap_i64]; omega
                    have hwt := Lib.hid (Waiters_fn (Hgt.out.keeps HM2.out.kp (fun _ e => e.elim)) hsT2.out (kd : Int) (nn : Int))
                    have hlw := waiters_len hsT.out (kd : Int) (nn : Int)
                    have hlr := rowsTo_le hsT.out kd nn hkd4 hnn
                    have hnext := Lib.hid (rowsTo_next st' kd nn)
                    obtain ⟨ys, hys⟩ : ∃ ys, WaitersA st' kd nn = ys := ⟨_, rfl⟩
                    obtain ⟨xs, hxs⟩ : ∃ xs, rowsTo st' kd nn = xs := ⟨_, rfl⟩
                    rw [hys] at hwt hlw hnext
                    rw [hxs] at HM2 hlr hnext ⊢
                    clear hys hxs
                    go_wp2_with fail
                    refine hwt.out.mono ?_
                    rintro e wj2 ⟨u, rfl, mj⟩
                    have M7 := Lib.hid (HM2.out.keeps mj.kp)
                    obtain ⟨Aj, cj, rfl, hAj⟩ := own_len mj.own
                    have hcj : Hid (∀ g, Aj = some ⟨g, 0, none⟩ → ∀ j u, (ys.map encI)[j]? = some u → wj2.cell? ⟨g, 0 + j, none⟩ = some u) := fun g hg j u hu => by
                      subst hg
                      have hj := (List.getElem?_eq_some_iff.1 hu).1
                      rw [Nat.zero_add, World.ownsRow.cellAt mj.own j (by simpa using hj)]
                      exact hu
                    clear mj
                    by_cases hy0 : 0 < ys.length
                    · obtain ⟨g, rfl⟩ := hAj hy0
                      have hcg := Lib.hid (hcj.out g rfl)
                      clear hAj
                      go_wp2_with (at_builtin; refine wpList_appX eI _ rfl _ _ rfl (.slice A6 xs.length c6) xs.length (xs.map encI) rfl M7.out.own (some ⟨g, 0, none⟩) g 0 ys.length cj (ys.map encI) rfl (fun _ => rfl) (by simp) hcg.out (eIone ys) (by simp only [maxLen]; omega) (by omega) ?_; intro v8 w8 ho8 hg8 hf8 _)
                      obtain ⟨A8, c8, rfl⟩ := Own.isSlice ho8
                      refine ⟨⟨nn + 1, A8, c8, by omega, by simp, ?_, ?_⟩, by simp [intOf]; omega⟩
                      · rw [hnext.out, List.length_append]
                      · rw [hnext.out, List.length_append, List.map_append]
                        exact M7.out.grow (Keeps.refl _ _) ho8 hg8 hf8 (Nat.le_refl _)
                    · obtain rfl : ys = [] := List.eq_nil_of_length_eq_zero (by omega)
                      clear hcj hAj
                      go_wp2_with (at_builtin; refine wpList_appX eI _ rfl _ _ rfl (.slice A6 xs.length c6) xs.length (xs.map encI) rfl M7.out.own Aj 0 0 0 cj [] rfl (fun h => absurd h (Nat.lt_irrefl _)) rfl (fun j u h => by simp at h) (fun u h => by simp at h) (by simp only [maxLen]; omega) (by omega) ?_; intro v8 w8 ho8 hg8 hf8 _)
                      obtain ⟨A8, c8, rfl⟩ := Own.isSlice ho8
                      rw [List.append_nil] at hnext
                      refine ⟨⟨nn + 1, A8, c8, by omega, by simp, ?_, ?_⟩, by simp [intOf]; omega⟩
                      · rw [hnext.out]; rfl
                      · rw [hnext.out]
                        rw [List.append_nil] at ho8
                        exact M7.out.grow (Keeps.refl _ _) ho8 hg8 hf8 (Nat.le_refl _)
                  · obtain rfl : nn = 2 := by omega
                    have hknd := rowsTo_kind st' kd hkd1
                    rw [← hknd] at HM2 ⊢
                    have HM3 := HM2
                    clear HM2
                    go_wp2_with fail
                    exact ⟨⟨kd + 1, A6, c6, by omega, by omega, by simp, rfl, HM3.out⟩, by simp [intOf]; omega⟩
              · obtain rfl : kd = 4 := by omega
                obtain ⟨xs, hxs⟩ : ∃ xs, rowsTo st' 4 0 = xs := ⟨_, rfl⟩
                have HXL : Hid (xs.length ≤ 1000) := by
                  have := rowsTo_le hsT.out 4 0 (Nat.le_refl _) (by omega)
                  rw [hxs] at this
                  show _ ≤ _
                  omega
                rw [hxs] at HM HN ⊢
                clear hxs
                obtain ⟨wx, hwx⟩ : ∃ wx, wx = wr := ⟨_, rfl⟩
                rw [← hwx] at HM ⊢
                clear hwx
                have hlx : Hid (∀ b, (Value.slice A6 xs.length c6).ownBlock = some b → b < wx.heap.size) := HM.out.lt
                obtain ⟨_, _, hsl, hA6⟩ := own_len HM.out.own
                obtain ⟨rfl, rfl⟩ : A6 = _ ∧ c6 = _ := by
                  injection hsl with h1 _ h2
                  exact ⟨h1, h2⟩
                have HA6 := Lib.hid hA6
                have hxl : xs.length ≤ 1000 := HXL.out
                clear hA6 hsl
                go_wp2_with fail
                go_loopw [9] (fun i wq => ∃ p : Nat, p ≤ xs.length ∧ i = .int .i64 p ∧ Keeps NoBlock wx wq) (fun i _ => xs.length - (intOf i).toNat)
                case atStart => exact ⟨0, by omega, rfl, Keeps.refl _ _⟩
                case round =>
                  obtain ⟨p, hp, rfl, hkp⟩ := hrel
                  have HKP := Lib.hid hkp
                  clear hkp
                  by_cases hpl : p < xs.length
                  · have hpz : (p : Int) < (xs.length : Int) := by omega
                    have hp0 : (0 : Int) ≤ (p : Int) := by omega
                    have hwp : IntKind.i64.wrap ((p : Int) + 1) = (p : Int) + 1 := by rw [IntKind.wrap_i64]; omega
                    obtain ⟨g, rfl⟩ := HA6.out (by omega)
                    obtain ⟨yp, hyp⟩ : ∃ y, xs[p]? = some y := ⟨_, List.getElem?_eq_getElem hpl⟩
                    have Hyp := Lib.hid hyp
                    clear hyp
                    go_wp2_with fail
                    go_loopw [10] (fun i wq => ∃ q : Nat, q ≤ p ∧ i = .int .i64 q ∧ Keeps NoBlock wx wq) (fun i _ => p - (intOf i).toNat)
                    case atStart => exact ⟨0, by omega, rfl, HKP.out⟩
                    case round =>
                      obtain ⟨q, hq, rfl, hkq⟩ := hrel
                      have HKQ := Lib.hid hkq
                      clear hkq
                      by_cases hqp : q < p
                      · have hqz : (q : Int) < (p : Int) := by omega
                        have hq0 : (0 : Int) ≤ (q : Int) := by omega
                        have hql : (q : Int) < (xs.length : Int) := by omega
                        have hwq : IntKind.i64.wrap ((q : Int) + 1) = (q : Int) + 1 := by rw [IntKind.wrap_i64]; omega
                        obtain ⟨yq, hyq⟩ : ∃ y, xs[q]? = some y := ⟨_, List.getElem?_eq_getElem (by omega)⟩
                        have hown := HM.out.own.keeps HKQ.out (fun _ _ e => e)
                        have cp : wr.cell? ⟨g, p, none⟩ = some (.int .i64 yp) := by
                          rw [World.ownsRow.cellAt hown p (by omega), List.getElem?_map, Hyp.out]; rfl
                        have cq' : wr.cell? ⟨g, q, none⟩ = some (.int .i64 yq) := by
                          rw [World.ownsRow.cellAt hown q (by omega), List.getElem?_map, hyq]; rfl
                        have hne : (yq == yp) = false := by
                          rw [beq_eq_false_iff_ne]
                          intro e
                          subst e
                          exact absurd ((List.getElem?_inj (by omega) HN.out).1 (hyq.trans Hyp.out.symm)) (by omega)
                        clear hown hyq
                        go_wp2_with fail
                        go_region
                        go_wp2_with fail
                        exact ⟨⟨q + 1, by omega, by simp, by repeat (first | with_reducible exact HKQ.out | with_reducible refine Keeps.drew ?_ | with_reducible refine Keeps.drewN ?_ _)⟩, by simp [intOf]; omega⟩
                      · obtain rfl : q = p := by omega
                        go_wp2_with fail
                        exact ⟨⟨q + 1, by omega, by simp, HKQ.out⟩, by simp [intOf]; omega⟩
                  · obtain rfl : p = xs.length := by omega
                    have HGe : Hid (Gw w G st' wr) := HGt.out.keeps (HM.out.kp.trans HKP.out (fun _ _ e => e))
                    go_wp2_with fail
                    exact ⟨⟨k + 1, by omega, by omega, by simp, st', HGe.out, HIt.out, by have := HSt.out.1; omega, by have := HSt.out.2.1; omega, by have := HSt.out.2.2; omega⟩, by simp [intOf]; omega⟩
          · have g1 : (what == 1) = false := by rw [beq_eq_false_iff_ne]; exact w1
            by_cases w2 : what = 2
            · subst w2
              clear g0 g1 w0 w1
              obtain ⟨y, b, er, st', hL⟩ : ∃ y b er s, WaitA st who n m ch = (y, b, er, s) := ⟨_, _, _, _, rfl⟩
              have hinv := WaitA_inv HI.out who (n : Int) (m : Int) ch
              rw [hL] at hinv
              have HIt := Lib.hid hinv.1
              have HSt := Lib.hid hinv.2
              have hlk := Lib.hid (Wait_at Hgs.out hsh.out who (n : Int) (m : Int) ch hL)
              clear hL hinv
              go_wp2_with fail
              refine hlk.out.mono ?_
              rintro e w5 ⟨rfl, B5, g5, t5⟩
              have HGt : Hid (Gw w G st' w5) := ⟨B5, g5, Htq.out.trans t5⟩
              clear g5 t5 x0 x1 x2 x3 x4 hlk
              go_wp2_with fail
              have HN := Lib.hid (all_nodup HIt.out (by have := HSt.out.1; omega) (by have := HSt.out.2.1; omega) (by have := HSt.out.2.2; omega))
              have hsT := Lib.hid (tot_short (Nat.le_trans HIt.out.t (show k + 1 ≤ 100 by omega)))
              have hsT2 := Lib.hid (tot_short (Nat.le_trans HIt.out.t (show k + 1 ≤ 10000 by omega)))
              obtain ⟨Bt, hgt, _⟩ := HGt.out
              have Hgt := Lib.hid hgt
              clear hgt
              go_loopw [6, 7] (fun u i wq => ∃ (kd : Nat) (A : Option Addr) (c : Nat), 1 ≤ kd ∧ kd ≤ 4 ∧ i = .int .i64 kd ∧ u = .slice A (rowsTo st' kd 0).length c ∧ Mine w5 wq 3 1 (.slice A (rowsTo st' kd 0).length c) (rowsTo st' kd 0).length ((rowsTo st' kd 0).map encI)) (fun _ i _ => 4 - (intOf i).toNat)
              case atStart => exact ⟨1, _, _, by omega, by omega, rfl, rfl, ⟨own_new w5.heap.size rfl, fun b hb => by simp only [Value.ownBlock, Option.some.injEq] at hb; omega, (Keeps.refl _ _).alloc _⟩⟩
              case round =>
                obtain ⟨kd, A6, c6, hkd1, hkd4, rfl, rfl, hmine⟩ := hrel
                have HM := Lib.hid hmine
                clear hmine
                by_cases hkd : kd < 4
                · have hkz : (kd : Int) ≤ 3 := by omega
                  have hwkd : IntKind.i64.wrap ((kd : Int) + 1) = (kd : Int) + 1 := by rw [IntKind.wrap_i64]; omega
                  go_upto_region 24 with fail
                  go_wp2_with fail
                  go_loopw [6, 8] (fun u i wq => ∃ (nn : Nat) (A : Option Addr) (c : Nat), nn ≤ 2 ∧ i = .int .i64 nn ∧ u = .slice A (rowsTo st' kd nn).length c ∧ Mine w5 wq 3 1 (.slice A (rowsTo st' kd nn).length c) (rowsTo st' kd nn).length ((rowsTo st' kd nn).map encI)) (fun _ i _ => 2 - (intOf i).toNat)
                  case atStart => exact ⟨0, _, _, by omega, rfl, rfl, HM.out⟩
                  case round =>
                    obtain ⟨nn, A6, c6, hnn, rfl, rfl, hmine⟩ := hrel
                    have HM2 := Lib.hid hmine
                    clear hmine
                    by_cases hn2' : nn < 2
                    · have hnz : (nn : Int) < 2 := by omega
                      have hwnn : IntKind.i64.wrap ((nn : Int) + 1) = (nn : Int) + 1 := by rw [IntKind.wrap_i64]; omega
                      have hwt := Lib.hid (Waiters_fn (Hgt.out.keeps HM2.out.kp (fun _ e => e.elim)) hsT2.out (kd : Int) (nn : Int))
                      have hlw := waiters_len hsT.out (kd : Int) (nn : Int)
                      have hlr := rowsTo_le hsT.out kd nn hkd4 hnn
                      have hnext := Lib.hid (rowsTo_next st' kd nn)
                      obtain ⟨ys, hys⟩ : ∃ ys, WaitersA st' kd nn = ys := ⟨_, rfl⟩
                      obtain ⟨xs, hxs⟩ : ∃ xs, rowsTo st' kd nn = xs := ⟨_, rfl⟩
                      rw [hys] at hwt hlw hnext
                      rw [hxs] at HM2 hlr hnext ⊢
                      clear hys hxs
                      go_wp2_with fail
                      refine hwt.out.mono ?_
                      rintro e wj2 ⟨u, rfl, mj⟩
                      have M7 := Lib.hid (HM2.out.keeps mj.kp)
                      obtain ⟨Aj, cj, rfl, hAj⟩ := own_len mj.own
                      have hcj : Hid (∀ g, Aj = some ⟨g, 0, none⟩ → ∀ j u, (ys.map encI)[j]? = some u → wj2.cell? ⟨g, 0 + j, none⟩ = some u) := fun g hg j u hu => by
                        subst hg
                        have hj := (List.getElem?_eq_some_iff.1 hu).1
                        rw [Nat.zero_add, World.ownsRow.cellAt mj.own j (by simpa using hj)]
                        exact hu
                      clear mj
                      by_cases hy0 : 0 < ys.length
                      · obtain ⟨g, rfl⟩ := hAj hy0
                        have hcg := Lib.hid (hcj.out g rfl)
                        clear hAj
                        go_wp2_with (at_builtin; refine wpList_appX eI _ rfl _ _ rfl (.slice A6 xs.length c6) xs.length (xs.map encI) rfl M7.out.own (some ⟨g, 0, none⟩) g 0 ys.length cj (ys.map encI) rfl (fun _ => rfl) (by simp) hcg.out (eIone ys) (by simp only [maxLen]; omega) (by omega) ?_; intro v8 w8 ho8 hg8 hf8 _)
                        obtain ⟨A8, c8, rfl⟩ := Own.isSlice ho8
                        refine ⟨⟨nn + 1, A8, c8, by omega, by simp, ?_, ?_⟩, by simp [intOf]; omega⟩
                        · rw [hnext.out, List.length_append]
                        · rw [hnext.out, List.length_append, List.map_append]
                          exact M7.out.grow (Keeps.refl _ _) ho8 hg8 hf8 (Nat.le_refl _)
                      · obtain rfl : ys = [] := List.eq_nil_of_length_eq_zero (by omega)
                        clear hcj hAj
                        go_wp2_with (at_builtin; refine wpList_appX eI _ rfl _ _ rfl (.slice A6 xs.length c6) xs.length (xs.map encI) rfl M7.out.own Aj 0 0 0 cj [] rfl (fun h => absurd h (Nat.lt_irrefl _)) rfl (fun j u h => by simp at h) (fun u h => by simp at h) (by simp only [maxLen]; omega) (by omega) ?_; intro v8 w8 ho8 hg8 hf8 _)
                        obtain ⟨A8, c8, rfl⟩ := Own.isSlice ho8
                        rw [List.append_nil] at hnext
                        refine ⟨⟨nn + 1, A8, c8, by omega, by simp, ?_, ?_⟩, by simp [intOf]; omega⟩
                        · rw [hnext.out]; rfl
                        · rw [hnext.out]
                          rw [List.append_nil] at ho8
                          exact M7.out.grow (Keeps.refl _ _) ho8 hg8 hf8 (Nat.le_refl _)
                    · obtain rfl : nn = 2 := by omega
                      have hknd := rowsTo_kind st' kd hkd1
                      rw [← hknd] at HM2 ⊢
                      have HM3 := HM2
                      clear HM2
                      go_wp2_with fail
                      exact ⟨⟨kd + 1, A6, c6, by omega, by omega, by simp, rfl, HM3.out⟩, by simp [intOf]; omega⟩
                · obtain rfl : kd = 4 := by omega
                  obtain ⟨xs, hxs⟩ : ∃ xs, rowsTo st' 4 0 = xs := ⟨_, rfl⟩
                  have HXL : Hid (xs.length ≤ 1000) := by
                    have := rowsTo_le hsT.out 4 0 (Nat.le_refl _) (by omega)
                    rw [hxs] at this
                    show _ ≤ _
                    omega
                  rw [hxs] at HM HN ⊢
                  clear hxs
                  obtain ⟨wx, hwx⟩ : ∃ wx, wx = wr := ⟨_, rfl⟩
                  rw [← hwx] at HM ⊢
                  clear hwx
                  have hlx : Hid (∀ b, (Value.slice A6 xs.length c6).ownBlock = some b → b < wx.heap.size) := HM.out.lt
                  obtain ⟨_, _, hsl, hA6⟩ := own_len HM.out.own
                  obtain ⟨rfl, rfl⟩ : A6 = _ ∧ c6 = _ := by
                    injection hsl with h1 _ h2
                    exact ⟨h1, h2⟩
                  have HA6 := Lib.hid hA6
                  have hxl : xs.length ≤ 1000 := HXL.out
                  clear hA6 hsl
                  go_wp2_with fail
                  go_loopw [9] (fun i wq => ∃ p : Nat, p ≤ xs.length ∧ i = .int .i64 p ∧ Keeps NoBlock wx wq) (fun i _ => xs.length - (intOf i).toNat)
                  case atStart => exact ⟨0, by omega, rfl, Keeps.refl _ _⟩
                  case round =>
                    obtain ⟨p, hp, rfl, hkp⟩ := hrel
                    have HKP := Lib.hid hkp
                    clear hkp
                    by_cases hpl : p < xs.length
                    · have hpz : (p : Int) < (xs.length : Int) := by omega
                      have hp0 : (0 : Int) ≤ (p : Int) := by omega
                      have hwp : IntKind.i64.wrap ((p : Int) + 1) = (p : Int) + 1 := by rw [IntKind.wrap_i64]; omega
                      obtain ⟨g, rfl⟩ := HA6.out (by omega)
                      obtain ⟨yp, hyp⟩ : ∃ y, xs[p]? = some y := ⟨_, List.getElem?_eq_getElem hpl⟩
                      have Hyp := Lib.hid hyp
                      clear hyp
                      go_wp2_with fail
                      go_loopw [10] (fun i wq => ∃ q : Nat, q ≤ p ∧ i = .int .i64 q ∧ Keeps NoBlock wx wq) (fun i _ => p - (intOf i).toNat)
                      case atStart => exact ⟨0, by omega, rfl, HKP.out⟩
                      case round =>
                        obtain ⟨q, hq, rfl, hkq⟩ := hrel
                        have HKQ := Lib.hid hkq
                        clear hkq
                        by_cases hqp : q < p
                        · have hqz : (q : Int) < (p : Int) := by omega
                          have hq0 : (0 : Int) ≤ (q : Int) := by omega
                          have hql : (q : Int) < (xs.length : Int) := by omega
                          have hwq : IntKind.i64.wrap ((q : Int) + 1) = (q : Int) + 1 := by rw [IntKind.wrap_i64]; omega
                          obtain ⟨yq, hyq⟩ : ∃ y, xs[q]? = some y := ⟨_, List.getElem?_eq_getElem (by omega)⟩
                          have hown := HM.out.own.keeps HKQ.out (fun _ _ e => e)
                          have cp : wr.cell? ⟨g, p, none⟩ = some (.int .i64 yp) := by
                            rw [World.ownsRow.cellAt hown p (by omega), List.getElem?_map, Hyp.out]; rfl
                          have cq' : wr.cell? ⟨g, q, none⟩ = some (.int .i64 yq) := by
                            rw [World.ownsRow.cellAt hown q (by omega), List.getElem?_map, hyq]; rfl
                          have hne : (yq == yp) = false := by
                            rw [beq_eq_false_iff_ne]
                            intro e
                            subst e
                            exact absurd ((List.getElem?_inj (by omega) HN.out).1 (hyq.trans Hyp.out.symm)) (by omega)
                          clear hown hyq
                          go_wp2_with fail
                          go_region
                          go_wp2_with fail
                          exact ⟨⟨q + 1, by omega, by simp, by repeat (first | with_reducible exact HKQ.out | with_reducible refine Keeps.drew ?_ | with_reducible refine Keeps.drewN ?_ _)⟩, by simp [intOf]; omega⟩
                        · obtain rfl : q = p := by omega
                          go_wp2_with fail
                          exact ⟨⟨q + 1, by omega, by simp, HKQ.out⟩, by simp [intOf]; omega⟩
                    · obtain rfl : p = xs.length := by omega
                      have HGe : Hid (Gw w G st' wr) := HGt.out.keeps (HM.out.kp.trans HKP.out (fun _ _ e => e))
                      go_wp2_with fail
                      exact ⟨⟨k + 1, by omega, by omega, by simp, st', HGe.out, HIt.out, by have := HSt.out.1; omega, by have := HSt.out.2.1; omega, by have := HSt.out.2.2; omega⟩, by simp [intOf]; omega⟩
            · have g2 : (what == 2) = false := by rw [beq_eq_false_iff_ne]; exact w2
              by_cases w3 : what = 3 ∨ what = 4
              · obtain ⟨al, hal⟩ : ∃ al, (what == 4) = al := ⟨_, rfl⟩
                obtain ⟨y, er, st', hL⟩ : ∃ y er s, SignalA st n ch al = (y, er, s) := ⟨_, _, _, rfl⟩
                have hinv := SignalA_inv HI.out (n : Int) ch al
                rw [hL] at hinv
                have HIt := Lib.hid (hinv.1.mono (Nat.le_succ k))
                have HSt := Lib.hid hinv.2
                have hlk := Lib.hid (Signal_at Hgs.out HI.out.im (Nat.le_trans HI.out.t (by omega)) (n : Int) ch al hL)
                clear hL hinv w0 w1 w2
                rcases w3 with rfl | rfl
                · obtain rfl : false = al := hal
                  clear g0 g1 g2
                  go_wp2_with fail
                  refine hlk.out.mono ?_
                  rintro e w5 ⟨u5, B5, rfl, g5, t5, o5, _⟩
                  obtain ⟨A5, c5, rfl⟩ := Own.isSlice o5
                  have HGt : Hid (Gw w G st' w5) := ⟨B5, g5, Htq.out.trans t5⟩
                  clear g5 t5 o5 x0 x1 x2 x3 x4 hlk
                  go_wp2_with fail
                  have HN := Lib.hid (all_nodup HIt.out (by have := HSt.out.1; omega) (by have := HSt.out.2.1; omega) (by have := HSt.out.2.2; omega))
                  have hsT := Lib.hid (tot_short (Nat.le_trans HIt.out.t (show k + 1 ≤ 100 by omega)))
                  have hsT2 := Lib.hid (tot_short (Nat.le_trans HIt.out.t (show k + 1 ≤ 10000 by omega)))
                  obtain ⟨Bt, hgt, _⟩ := HGt.out
                  have Hgt := Lib.hid hgt
                  clear hgt
                  go_loopw [6, 7] (fun u i wq => ∃ (kd : Nat) (A : Option Addr) (c : Nat), 1 ≤ kd ∧ kd ≤ 4 ∧ i = .int .i64 kd ∧ u = .slice A (rowsTo st' kd 0).length c ∧ Mine w5 wq 3 1 (.slice A (rowsTo st' kd 0).length c) (rowsTo st' kd 0).length ((rowsTo st' kd 0).map encI)) (fun _ i _ => 4 - (intOf i).toNat)
                  case atStart => exact ⟨1, _, _, by omega, by omega, rfl, rfl, ⟨own_new w5.heap.size rfl, fun b hb => by simp only [Value.ownBlock, Option.some.injEq] at hb; omega, (Keeps.refl _ _).alloc _⟩⟩
                  case round =>
                    obtain ⟨kd, A6, c6, hkd1, hkd4, rfl, rfl, hmine⟩ := hrel
                    have HM := Lib.hid hmine
                    clear hmine
                    by_cases hkd : kd < 4
                    · have hkz : (kd : Int) ≤ 3 := by omega
                      have hwkd : IntKind.i64.wrap ((kd : Int) + 1) = (kd : Int) + 1 := by rw [IntKind.wrap_i64]; omega
                      go_upto_region 24 with fail
                      go_wp2_with fail
                      go_loopw [6, 8] (fun u i wq => ∃ (nn : Nat) (A : Option Addr) (c : Nat), nn ≤ 2 ∧ i = .int .i64 nn ∧ u = .slice A (rowsTo st' kd nn).length c ∧ Mine w5 wq 3 1 (.slice A (rowsTo st' kd nn).length c) (rowsTo st' kd nn).length ((rowsTo st' kd nn).map encI)) (fun _ i _ => 2 - (intOf i).toNat)
                      case atStart => exact ⟨0, _, _, by omega, rfl, rfl, HM.out⟩
                      case round =>
                        obtain ⟨nn, A6, c6, hnn, rfl, rfl, hmine⟩ := hrel
                        have HM2 := Lib.hid hmine
                        clear hmine
                        by_cases hn2' : nn < 2
                        · have hnz : (nn : Int) < 2 := by omega
                          have hwnn : IntKind.i64.wrap ((nn : Int) + 1) = (nn : Int) + 1 := by rw [IntKind.wrap_i64]; omega
                          have hwt := Lib.hid (Waiters_fn (Hgt.out.keeps HM2.out.kp (fun _ e => e.elim)) hsT2.out (kd : Int) (nn : Int))
                          have hlw := waiters_len hsT.out (kd : Int) (nn : Int)
                          have hlr := rowsTo_le hsT.out kd nn hkd4 hnn
                          have hnext := Lib.hid (rowsTo_next st' kd nn)
                          obtain ⟨ys, hys⟩ : ∃ ys, WaitersA st' kd nn = ys := ⟨_, rfl⟩
                          obtain ⟨xs, hxs⟩ : ∃ xs, rowsTo st' kd nn = xs := ⟨_, rfl⟩
                          rw [hys] at hwt hlw hnext
                          rw [hxs] at HM2 hlr hnext ⊢
                          clear hys hxs
                          go_wp2_with fail
                          refine hwt.out.mono ?_
                          rintro e wj2 ⟨u, rfl, mj⟩
                          have M7 := Lib.hid (HM2.out.keeps mj.kp)
                          obtain ⟨Aj, cj, rfl, hAj⟩ := own_len mj.own
                          have hcj : Hid (∀ g, Aj = some ⟨g, 0, none⟩ → ∀ j u, (ys.map encI)[j]? = some u → wj2.cell? ⟨g, 0 + j, none⟩ = some u) := fun g hg j u hu => by
                            subst hg
                            have hj := (List.getElem?_eq_some_iff.1 hu).1
                            rw [Nat.zero_add, World.ownsRow.cellAt mj.own j (by simpa using hj)]
                            exact hu
                          clear mj
                          by_cases hy0 : 0 < ys.length
                          · obtain ⟨g, rfl⟩ := hAj hy0
                            have hcg := Lib.hid (hcj.out g rfl)
                            clear hAj
                            go_wp2_with (at_builtin; refine wpList_appX eI _ rfl _ _ rfl (.slice A6 xs.length c6) xs.length (xs.map encI) rfl M7.out.own (some ⟨g, 0, none⟩) g 0 ys.length cj (ys.map encI) rfl (fun _ => rfl) (by simp) hcg.out (eIone ys) (by simp only [maxLen]; omega) (by omega) ?_; intro v8 w8 ho8 hg8 hf8 _)
                            obtain ⟨A8, c8, rfl⟩ := Own.isSlice ho8
                            refine ⟨⟨nn + 1, A8, c8, by omega, by simp, ?_, ?_⟩, by simp [intOf]; omega⟩
                            · rw [hnext.out, List.length_append]
                            · rw [hnext.out, List.length_append, List.map_append]
                              exact M7.out.grow (Keeps.refl _ _) ho8 hg8 hf8 (Nat.le_refl _)
                          · obtain rfl : ys = [] := List.eq_nil_of_length_eq_zero (by omega)
                            clear hcj hAj
                            go_wp2_with (at_builtin; refine wpList_appX eI _ rfl _ _ rfl (.slice A6 xs.length c6) xs.length (xs.map encI) rfl M7.out.own Aj 0 0 0 cj [] rfl (fun h => absurd h (Nat.lt_irrefl _)) rfl (fun j u h => by simp at h) (fun u h => by simp at h) (by simp only [maxLen]; omega) (by omega) ?_; intro v8 w8 ho8 hg8 hf8 _)
                            obtain ⟨A8, c8, rfl⟩ := Own.isSlice ho8
                            rw [List.append_nil] at hnext
                            refine ⟨⟨nn + 1, A8, c8, by omega, by simp, ?_, ?_⟩, by simp [intOf]; omega⟩
                            · rw [hnext.out]; rfl
                            · rw [hnext.out]
                              rw [List.append_nil] at ho8
                              exact M7.out.grow (Keeps.refl _ _) ho8 hg8 hf8 (Nat.le_refl _)
                        · obtain rfl : nn = 2 := by omega
                          have hknd := rowsTo_kind st' kd hkd1
                          rw [← hknd] at HM2 ⊢
                          have HM3 := HM2
                          clear HM2
                          go_wp2_with fail
                          exact ⟨⟨kd + 1, A6, c6, by omega, by omega, by simp, rfl, HM3.out⟩, by simp [intOf]; omega⟩
                    · obtain rfl : kd = 4 := by omega
                      obtain ⟨xs, hxs⟩ : ∃ xs, rowsTo st' 4 0 = xs := ⟨_, rfl⟩
                      have HXL : Hid (xs.length ≤ 1000) := by
                        have := rowsTo_le hsT.out 4 0 (Nat.le_refl _) (by omega)
                        rw [hxs] at this
                        show _ ≤ _
                        omega
                      rw [hxs] at HM HN ⊢
                      clear hxs
                      obtain ⟨wx, hwx⟩ : ∃ wx, wx = wr := ⟨_, rfl⟩
                      rw [← hwx] at HM ⊢
                      clear hwx
                      have hlx : Hid (∀ b, (Value.slice A6 xs.length c6).ownBlock = some b → b < wx.heap.size) := HM.out.lt
                      obtain ⟨_, _, hsl, hA6⟩ := own_len HM.out.own
                      obtain ⟨rfl, rfl⟩ : A6 = _ ∧ c6 = _ := by
                        injection hsl with h1 _ h2
                        exact ⟨h1, h2⟩
                      have HA6 := Lib.hid hA6
                      have hxl : xs.length ≤ 1000 := HXL.out
                      clear hA6 hsl
                      go_wp2_with fail
                      go_loopw [9] (fun i wq => ∃ p : Nat, p ≤ xs.length ∧ i = .int .i64 p ∧ Keeps NoBlock wx wq) (fun i _ => xs.length - (intOf i).toNat)
                      case atStart => exact ⟨0, by omega, rfl, Keeps.refl _ _⟩
                      case round =>
                        obtain ⟨p, hp, rfl, hkp⟩ := hrel
                        have HKP := Lib.hid hkp
                        clear hkp
                        by_cases hpl : p < xs.length
                        · have hpz : (p : Int) < (xs.length : Int) := by omega
                          have hp0 : (0 : Int) ≤ (p : Int) := by omega
                          have hwp : IntKind.i64.wrap ((p : Int) + 1) = (p : Int) + 1 := by rw [IntKind.wrap_i64]; omega
                          obtain ⟨g, rfl⟩ := HA6.out (by omega)
                          obtain ⟨yp, hyp⟩ : ∃ y, xs[p]? = some y := ⟨_, List.getElem?_eq_getElem hpl⟩
                          have Hyp := Lib.hid hyp
                          clear hyp
                          go_wp2_with fail
                          go_loopw [10] (fun i wq => ∃ q : Nat, q ≤ p ∧ i = .int .i64 q ∧ Keeps NoBlock wx wq) (fun i _ => p - (intOf i).toNat)
                          case atStart => exact ⟨0, by omega, rfl, HKP.out⟩
                          case round =>
                            obtain ⟨q, hq, rfl, hkq⟩ := hrel
                            have HKQ := Lib.hid hkq
                            clear hkq
                            by_cases hqp : q < p
                            · have hqz : (q : Int) < (p : Int) := by omega
                              have hq0 : (0 : Int) ≤ (q : Int) := by omega
                              have hql : (q : Int) < (xs.length : Int) := by omega
                              have hwq : IntKind.i64.wrap ((q : Int) + 1) = (q : Int) + 1 := by rw [IntKind.wrap_i64]; omega
                              obtain ⟨yq, hyq⟩ : ∃ y, xs[q]? = some y := ⟨_, List.getElem?_eq_getElem (by omega)⟩
                              have hown := HM.out.own.keeps HKQ.out (fun _ _ e => e)
                              have cp : wr.cell? ⟨g, p, none⟩ = some (.int .i64 yp) := by
                                rw [World.ownsRow.cellAt hown p (by omega), List.getElem?_map, Hyp.out]; rfl
                              have cq' : wr.cell? ⟨g, q, none⟩ = some (.int .i64 yq) := by
                                rw [World.ownsRow.cellAt hown q (by omega), List.getElem?_map, hyq]; rfl
                              have hne : (yq == yp) = false := by
                                rw [beq_eq_false_iff_ne]
                                intro e
                                subst e
                                exact absurd ((List.getElem?_inj (by omega) HN.out).1 (hyq.trans Hyp.out.symm)) (by omega)
                              clear hown hyq
                              go_wp2_with fail
                              go_region
                              go_wp2_with fail
                              exact ⟨⟨q + 1, by omega, by simp, by repeat (first | with_reducible exact HKQ.out | with_reducible refine Keeps.drew ?_ | with_reducible refine Keeps.drewN ?_ _)⟩, by simp [intOf]; omega⟩
                            · obtain rfl : q = p := by omega
                              go_wp2_with fail
                              exact ⟨⟨q + 1, by omega, by simp, HKQ.out⟩, by simp [intOf]; omega⟩
                        · obtain rfl : p = xs.length := by omega
                          have HGe : Hid (Gw w G st' wr) := HGt.out.keeps (HM.out.kp.trans HKP.out (fun _ _ e => e))
                          go_wp2_with fail
                          exact ⟨⟨k + 1, by omega, by omega, by simp, st', HGe.out, HIt.out, by have := HSt.out.1; omega, by have := HSt.out.2.1; omega, by have := HSt.out.2.2; omega⟩, by simp [intOf]; omega⟩
                · obtain rfl : true = al := hal
                  clear g0 g1 g2
                  go_wp2_with fail
                  refine hlk.out.mono ?_
                  rintro e w5 ⟨u5, B5, rfl, g5, t5, o5, _⟩
                  obtain ⟨A5, c5, rfl⟩ := Own.isSlice o5
                  have HGt : Hid (Gw w G st' w5) := ⟨B5, g5, Htq.out.trans t5⟩
                  clear g5 t5 o5 x0 x1 x2 x3 x4 hlk
                  go_wp2_with fail
                  have HN := Lib.hid (all_nodup HIt.out (by have := HSt.out.1; omega) (by have := HSt.out.2.1; omega) (by have := HSt.out.2.2; omega))
                  have hsT := Lib.hid (tot_short (Nat.le_trans HIt.out.t (show k + 1 ≤ 100 by omega)))
                  have hsT2 := Lib.hid (tot_short (Nat.le_trans HIt.out.t (show k + 1 ≤ 10000 by omega)))
                  obtain ⟨Bt, hgt, _⟩ := HGt.out
                  have Hgt := Lib.hid hgt
                  clear hgt
                  go_loopw [6, 7] (fun u i wq => ∃ (kd : Nat) (A : Option Addr) (c : Nat), 1 ≤ kd ∧ kd ≤ 4 ∧ i = .int .i64 kd ∧ u = .slice A (rowsTo st' kd 0).length c ∧ Mine w5 wq 3 1 (.slice A (rowsTo st' kd 0).length c) (rowsTo st' kd 0).length ((rowsTo st' kd 0).map encI)) (fun _ i _ => 4 - (intOf i).toNat)
                  case atStart => exact ⟨1, _, _, by omega, by omega, rfl, rfl, ⟨own_new w5.heap.size rfl, fun b hb => by simp only [Value.ownBlock, Option.some.injEq] at hb; omega, (Keeps.refl _ _).alloc _⟩⟩
                  case round =>
                    obtain ⟨kd, A6, c6, hkd1, hkd4, rfl, rfl, hmine⟩ := hrel
                    have HM := Lib.hid hmine
                    clear hmine
                    by_cases hkd : kd < 4
                    · have hkz : (kd : Int) ≤ 3 := by omega
                      have hwkd : IntKind.i64.wrap ((kd : Int) + 1) = (kd : Int) + 1 := by rw [IntKind.wrap_i64]; omega
                      go_upto_region 24 with fail
                      go_wp2_with fail
                      go_loopw [6, 8] (fun u i wq => ∃ (nn : Nat) (A : Option Addr) (c : Nat), nn ≤ 2 ∧ i = .int .i64 nn ∧ u = .slice A (rowsTo st' kd nn).length c ∧ Mine w5 wq 3 1 (.slice A (rowsTo st' kd nn).length c) (rowsTo st' kd nn).length ((rowsTo st' kd nn).map encI)) (fun _ i _ => 2 - (intOf i).toNat)
                      case atStart => exact ⟨0, _, _, by omega, rfl, rfl, HM.out⟩
                      case round =>
                        obtain ⟨nn, A6, c6, hnn, rfl, rfl, hmine⟩ := hrel
                        have HM2 := Lib.hid hmine
                        clear hmine
                        by_cases hn2' : nn < 2
                        · have hnz : (nn : Int) < 2 := by omega
                          have hwnn : IntKind.i64.wrap ((nn : Int) + 1) = (nn : Int) + 1 := by rw [IntKind.wrap_i64]; omega
                          have hwt := Lib.hid (Waiters_fn (Hgt.out.keeps HM2.out.kp (fun _ e => e.elim)) hsT2.out (kd : Int) (nn : Int))
                          have hlw := waiters_len hsT.out (kd : Int) (nn : Int)
                          have hlr := rowsTo_le hsT.out kd nn hkd4 hnn
                          have hnext := Lib.hid (rowsTo_next st' kd nn)
                          obtain ⟨ys, hys⟩ : ∃ ys, WaitersA st' kd nn = ys := ⟨_, rfl⟩
                          obtain ⟨xs, hxs⟩ : ∃ xs, rowsTo st' kd nn = xs := ⟨_, rfl⟩
                          rw [hys] at hwt hlw hnext
                          rw [hxs] at HM2 hlr hnext ⊢
                          clear hys hxs
                          go_wp2_with fail
                          refine hwt.out.mono ?_
                          rintro e wj2 ⟨u, rfl, mj⟩
                          have M7 := Lib.hid (HM2.out.keeps mj.kp)
                          obtain ⟨Aj, cj, rfl, hAj⟩ := own_len mj.own
                          have hcj : Hid (∀ g, Aj = some ⟨g, 0, none⟩ → ∀ j u, (ys.map encI)[j]? = some u → wj2.cell? ⟨g, 0 + j, none⟩ = some u) := fun g hg j u hu => by
                            subst hg
                            have hj := (List.getElem?_eq_some_iff.1 hu).1
                            rw [Nat.zero_add, World.ownsRow.cellAt mj.own j (by simpa using hj)]
                            exact hu
                          clear mj
                          by_cases hy0 : 0 < ys.length
                          · obtain ⟨g, rfl⟩ := hAj hy0
                            have hcg := Lib.hid (hcj.out g rfl)
                            clear hAj
                            go_wp2_with (at_builtin; refine wpList_appX eI _ rfl _ _ rfl (.slice A6 xs.length c6) xs.length (xs.map encI) rfl M7.out.own (some ⟨g, 0, none⟩) g 0 ys.length cj (ys.map encI) rfl (fun _ => rfl) (by simp) hcg.out (eIone ys) (by simp only [maxLen]; omega) (by omega) ?_; intro v8 w8 ho8 hg8 hf8 _)
                            obtain ⟨A8, c8, rfl⟩ := Own.isSlice ho8
                            refine ⟨⟨nn + 1, A8, c8, by omega, by simp, ?_, ?_⟩, by simp [intOf]; omega⟩
                            · rw [hnext.out, List.length_append]
                            · rw [hnext.out, List.length_append, List.map_append]
                              exact M7.out.grow (Keeps.refl _ _) ho8 hg8 hf8 (Nat.le_refl _)
                          · obtain rfl : ys = [] := List.eq_nil_of_length_eq_zero (by omega)
                            clear hcj hAj
                            go_wp2_with (at_builtin; refine wpList_appX eI _ rfl _ _ rfl (.slice A6 xs.length c6) xs.length (xs.map encI) rfl M7.out.own Aj 0 0 0 cj [] rfl (fun h => absurd h (Nat.lt_irrefl _)) rfl (fun j u h => by simp at h) (fun u h => by simp at h) (by simp only [maxLen]; omega) (by omega) ?_; intro v8 w8 ho8 hg8 hf8 _)
                            obtain ⟨A8, c8, rfl⟩ := Own.isSlice ho8
                            rw [List.append_nil] at hnext
                            refine ⟨⟨nn + 1, A8, c8, by omega, by simp, ?_, ?_⟩, by simp [intOf]; omega⟩
                            · rw [hnext.out]; rfl
                            · rw [hnext.out]
                              rw [List.append_nil] at ho8
                              exact M7.out.grow (Keeps.refl _ _) ho8 hg8 hf8 (Nat.le_refl _)
                        · obtain rfl : nn = 2 := by omega
                          have hknd := rowsTo_kind st' kd hkd1
                          rw [← hknd] at HM2 ⊢
                          have HM3 := HM2
                          clear HM2
                          go_wp2_with fail
                          exact ⟨⟨kd + 1, A6, c6, by omega, by omega, by simp, rfl, HM3.out⟩, by simp [intOf]; omega⟩
                    · obtain rfl : kd = 4 := by omega
                      obtain ⟨xs, hxs⟩ : ∃ xs, rowsTo st' 4 0 = xs := ⟨_, rfl⟩
                      have HXL : Hid (xs.length ≤ 1000) := by
                        have := rowsTo_le hsT.out 4 0 (Nat.le_refl _) (by omega)
                        rw [hxs] at this
                        show _ ≤ _
                        omega
                      rw [hxs] at HM HN ⊢
                      clear hxs
                      obtain ⟨wx, hwx⟩ : ∃ wx, wx = wr := ⟨_, rfl⟩
                      rw [← hwx] at HM ⊢
                      clear hwx
                      have hlx : Hid (∀ b, (Value.slice A6 xs.length c6).ownBlock = some b → b < wx.heap.size) := HM.out.lt
                      obtain ⟨_, _, hsl, hA6⟩ := own_len HM.out.own
                      obtain ⟨rfl, rfl⟩ : A6 = _ ∧ c6 = _ := by
                        injection hsl with h1 _ h2
                        exact ⟨h1, h2⟩
                      have HA6 := Lib.hid hA6
                      have hxl : xs.length ≤ 1000 := HXL.out
                      clear hA6 hsl
                      go_wp2_with fail
                      go_loopw [9] (fun i wq => ∃ p : Nat, p ≤ xs.length ∧ i = .int .i64 p ∧ Keeps NoBlock wx wq) (fun i _ => xs.length - (intOf i).toNat)
                      case atStart => exact ⟨0, by omega, rfl, Keeps.refl _ _⟩
                      case round =>
                        obtain ⟨p, hp, rfl, hkp⟩ := hrel
                        have HKP := Lib.hid hkp
                        clear hkp
                        by_cases hpl : p < xs.length
                        · have hpz : (p : Int) < (xs.length : Int) := by omega
                          have hp0 : (0 : Int) ≤ (p : Int) := by omega
                          have hwp : IntKind.i64.wrap ((p : Int) + 1) = (p : Int) + 1 := by rw [IntKind.wrap_i64]; omega
                          obtain ⟨g, rfl⟩ := HA6.out (by omega)
                          obtain ⟨yp, hyp⟩ : ∃ y, xs[p]? = some y := ⟨_, List.getElem?_eq_getElem hpl⟩
                          have Hyp := Lib.hid hyp
                          clear hyp
                          go_wp2_with fail
                          go_loopw [10] (fun i wq => ∃ q : Nat, q ≤ p ∧ i = .int .i64 q ∧ Keeps NoBlock wx wq) (fun i _ => p - (intOf i).toNat)
                          case atStart => exact ⟨0, by omega, rfl, HKP.out⟩
                          case round =>
                            obtain ⟨q, hq, rfl, hkq⟩ := hrel
                            have HKQ := Lib.hid hkq
                            clear hkq
                            by_cases hqp : q < p
                            · have hqz : (q : Int) < (p : Int) := by omega
                              have hq0 : (0 : Int) ≤ (q : Int) := by omega
                              have hql : (q : Int) < (xs.length : Int) := by omega
                              have hwq : IntKind.i64.wrap ((q : Int) + 1) = (q : Int) + 1 := by rw [IntKind.wrap_i64]; omega
                              obtain ⟨yq, hyq⟩ : ∃ y, xs[q]? = some y := ⟨_, List.getElem?_eq_getElem (by omega)⟩
                              have hown := HM.out.own.keeps HKQ.out (fun _ _ e => e)
                              have cp : wr.cell? ⟨g, p, none⟩ = some (.int .i64 yp) := by
                                rw [World.ownsRow.cellAt hown p (by omega), List.getElem?_map, Hyp.out]; rfl
                              have cq' : wr.cell? ⟨g, q, none⟩ = some (.int .i64 yq) := by
                                rw [World.ownsRow.cellAt hown q (by omega), List.getElem?_map, hyq]; rfl
                              have hne : (yq == yp) = false := by
                                rw [beq_eq_false_iff_ne]
                                intro e
                                subst e
                                exact absurd ((List.getElem?_inj (by omega) HN.out).1 (hyq.trans Hyp.out.symm)) (by omega)
                              clear hown hyq
                              go_wp2_with fail
                              go_region
                              go_wp2_with fail
                              exact ⟨⟨q + 1, by omega, by simp, by repeat (first | with_reducible exact HKQ.out | with_reducible refine Keeps.drew ?_ | with_reducible refine Keeps.drewN ?_ _)⟩, by simp [intOf]; omega⟩
                            · obtain rfl : q = p := by omega
                              go_wp2_with fail
                              exact ⟨⟨q + 1, by omega, by simp, HKQ.out⟩, by simp [intOf]; omega⟩
                        · obtain rfl : p = xs.length := by omega
                          have HGe : Hid (Gw w G st' wr) := HGt.out.keeps (HM.out.kp.trans HKP.out (fun _ _ e => e))
                          go_wp2_with fail
                          exact ⟨⟨k + 1, by omega, by omega, by simp, st', HGe.out, HIt.out, by have := HSt.out.1; omega, by have := HSt.out.2.1; omega, by have := HSt.out.2.2; omega⟩, by simp [intOf]; omega⟩
              · have g3 : (what == 3) = false := by rw [beq_eq_false_iff_ne]; omega
                have g4 : (what == 4) = false := by rw [beq_eq_false_iff_ne]; omega
                by_cases w5 : what = 5
                · subst w5
                  clear g0 g1 g2 g3 g4 w0 w1 w2 w3
                  obtain ⟨b, er, st', hL⟩ : ∃ b er s, DownA st who n = (b, er, s) := ⟨_, _, _, rfl⟩
                  have hinv := DownA_inv HI.out who (n : Int)
                  rw [hL] at hinv
                  have HIt := Lib.hid hinv.1
                  have HSt := Lib.hid hinv.2
                  have hlk := Lib.hid (Down_at Hgs.out hsh.out HI.out.cn who (n : Int) hL)
                  clear hL hinv
                  go_wp2_with fail
                  refine hlk.out.mono ?_
                  rintro e w5 ⟨rfl, B5, g5, t5⟩
                  have HGt : Hid (Gw w G st' w5) := ⟨B5, g5, Htq.out.trans t5⟩
                  clear g5 t5 x0 x1 x2 x3 x4 hlk
                  go_wp2_with fail
                  have HN := Lib.hid (all_nodup HIt.out (by have := HSt.out.1; omega) (by have := HSt.out.2.1; omega) (by have := HSt.out.2.2; omega))
                  have hsT := Lib.hid (tot_short (Nat.le_trans HIt.out.t (show k + 1 ≤ 100 by omega)))
                  have hsT2 := Lib.hid (tot_short (Nat.le_trans HIt.out.t (show k + 1 ≤ 10000 by omega)))
                  obtain ⟨Bt, hgt, _⟩ := HGt.out
                  have Hgt := Lib.hid hgt
                  clear hgt
                  go_loopw [6, 7] (fun u i wq => ∃ (kd : Nat) (A : Option Addr) (c : Nat), 1 ≤ kd ∧ kd ≤ 4 ∧ i = .int .i64 kd ∧ u = .slice A (rowsTo st' kd 0).length c ∧ Mine w5 wq 3 1 (.slice A (rowsTo st' kd 0).length c) (rowsTo st' kd 0).length ((rowsTo st' kd 0).map encI)) (fun _ i _ => 4 - (intOf i).toNat)
                  case atStart => exact ⟨1, _, _, by omega, by omega, rfl, rfl, ⟨own_new w5.heap.size rfl, fun b hb => by simp only [Value.ownBlock, Option.some.injEq] at hb; omega, (Keeps.refl _ _).alloc _⟩⟩
                  case round =>
                    obtain ⟨kd, A6, c6, hkd1, hkd4, rfl, rfl, hmine⟩ := hrel
                    have HM := Lib.hid hmine
                    clear hmine
                    by_cases hkd : kd < 4
                    · have hkz : (kd : Int) ≤ 3 := by omega
                      have hwkd : IntKind.i64.wrap ((kd : Int) + 1) = (kd : Int) + 1 := by rw [IntKind.wrap_i64]; omega
                      go_upto_region 24 with fail
                      go_wp2_with fail
                      go_loopw [6, 8] (fun u i wq => ∃ (nn : Nat) (A : Option Addr) (c : Nat), nn ≤ 2 ∧ i = .int .i64 nn ∧ u = .slice A (rowsTo st' kd nn).length c ∧ Mine w5 wq 3 1 (.slice A (rowsTo st' kd nn).length c) (rowsTo st' kd nn).length ((rowsTo st' kd nn).map encI)) (fun _ i _ => 2 - (intOf i).toNat)
                      case atStart => exact ⟨0, _, _, by omega, rfl, rfl, HM.out⟩
                      case round =>
                        obtain ⟨nn, A6, c6, hnn, rfl, rfl, hmine⟩ := hrel
                        have HM2 := Lib.hid hmine
                        clear hmine
                        by_cases hn2' : nn < 2
                        · have hnz : (nn : Int) < 2 := by omega
                          have hwnn : IntKind.i64.wrap ((nn : Int) + 1) = (nn : Int) + 1 := by rw [IntKind.wrap_i64]; omega
                          have hwt := Lib.hid (Waiters_fn (Hgt.out.keeps HM2.out.kp (fun _ e => e.elim)) hsT2.out (kd : Int) (nn : Int))
                          have hlw := waiters_len hsT.out (kd : Int) (nn : Int)
                          have hlr := rowsTo_le hsT.out kd nn hkd4 hnn
                          have hnext := Lib.hid (rowsTo_next st' kd nn)
                          obtain ⟨ys, hys⟩ : ∃ ys, WaitersA st' kd nn = ys := ⟨_, rfl⟩
                          obtain ⟨xs, hxs⟩ : ∃ xs, rowsTo st' kd nn = xs := ⟨_, rfl⟩
                          rw [hys] at hwt hlw hnext
                          rw [hxs] at HM2 hlr hnext ⊢
                          clear hys hxs
                          go_wp2_with fail
                          refine hwt.out.mono ?_
                          rintro e wj2 ⟨u, rfl, mj⟩
                          have M7 := Lib.hid (HM2.out.keeps mj.kp)
                          obtain ⟨Aj, cj, rfl, hAj⟩ := own_len mj.own
                          have hcj : Hid (∀ g, Aj = some ⟨g, 0, none⟩ → ∀ j u, (ys.map encI)[j]? = some u → wj2.cell? ⟨g, 0 + j, none⟩ = some u) := fun g hg j u hu => by
                            subst hg
                            have hj := (List.getElem?_eq_some_iff.1 hu).1
                            rw [Nat.zero_add, World.ownsRow.cellAt mj.own j (by simpa using hj)]
                            exact hu
                          clear mj
                          by_cases hy0 : 0 < ys.length
                          · obtain ⟨g, rfl⟩ := hAj hy0
                            have hcg := Lib.hid (hcj.out g rfl)
                            clear hAj
                            go_wp2_with (at_builtin; refine wpList_appX eI _ rfl _ _ rfl (.slice A6 xs.length c6) xs.length (xs.map encI) rfl M7.out.own (some ⟨g, 0, none⟩) g 0 ys.length cj (ys.map encI) rfl (fun _ => rfl) (by simp) hcg.out (eIone ys) (by simp only [maxLen]; omega) (by omega) ?_; intro v8 w8 ho8 hg8 hf8 _)
                            obtain ⟨A8, c8, rfl⟩ := Own.isSlice ho8
                            refine ⟨⟨nn + 1, A8, c8, by omega, by simp, ?_, ?_⟩, by simp [intOf]; omega⟩
                            · rw [hnext.out, List.length_append]
                            · rw [hnext.out, List.length_append, List.map_append]
                              exact M7.out.grow (Keeps.refl _ _) ho8 hg8 hf8 (Nat.le_refl _)
                          · obtain rfl : ys = [] := List.eq_nil_of_length_eq_zero (by omega)
                            clear hcj hAj
                            go_wp2_with (at_builtin; refine wpList_appX eI _ rfl _ _ rfl (.slice A6 xs.length c6) xs.length (xs.map encI) rfl M7.out.own Aj 0 0 0 cj [] rfl (fun h => absurd h (Nat.lt_irrefl _)) rfl (fun j u h => by simp at h) (fun u h => by simp at h) (by simp only [maxLen]; omega) (by omega) ?_; intro v8 w8 ho8 hg8 hf8 _)
                            obtain ⟨A8, c8, rfl⟩ := Own.isSlice ho8
                            rw [List.append_nil] at hnext
                            refine ⟨⟨nn + 1, A8, c8, by omega, by simp, ?_, ?_⟩, by simp [intOf]; omega⟩
                            · rw [hnext.out]; rfl
                            · rw [hnext.out]
                              rw [List.append_nil] at ho8
                              exact M7.out.grow (Keeps.refl _ _) ho8 hg8 hf8 (Nat.le_refl _)
                        · obtain rfl : nn = 2 := by omega
                          have hknd := rowsTo_kind st' kd hkd1
                          rw [← hknd] at HM2 ⊢
                          have HM3 := HM2
                          clear HM2
                          go_wp2_with fail
                          exact ⟨⟨kd + 1, A6, c6, by omega, by omega, by simp, rfl, HM3.out⟩, by simp [intOf]; omega⟩
                    · obtain rfl : kd = 4 := by omega
                      obtain ⟨xs, hxs⟩ : ∃ xs, rowsTo st' 4 0 = xs := ⟨_, rfl⟩
                      have HXL : Hid (xs.length ≤ 1000) := by
                        have := rowsTo_le hsT.out 4 0 (Nat.le_refl _) (by omega)
                        rw [hxs] at this
                        show _ ≤ _
                        omega
                      rw [hxs] at HM HN ⊢
                      clear hxs
                      obtain ⟨wx, hwx⟩ : ∃ wx, wx = wr := ⟨_, rfl⟩
                      rw [← hwx] at HM ⊢
                      clear hwx
                      have hlx : Hid (∀ b, (Value.slice A6 xs.length c6).ownBlock = some b → b < wx.heap.size) := HM.out.lt
                      obtain ⟨_, _, hsl, hA6⟩ := own_len HM.out.own
                      obtain ⟨rfl, rfl⟩ : A6 = _ ∧ c6 = _ := by
                        injection hsl with h1 _ h2
                        exact ⟨h1, h2⟩
                      have HA6 := Lib.hid hA6
                      have hxl : xs.length ≤ 1000 := HXL.out
                      clear hA6 hsl
                      go_wp2_with fail
                      go_loopw [9] (fun i wq => ∃ p : Nat, p ≤ xs.length ∧ i = .int .i64 p ∧ Keeps NoBlock wx wq) (fun i _ => xs.length - (intOf i).toNat)
                      case atStart => exact ⟨0, by omega, rfl, Keeps.refl _ _⟩
                      case round =>
                        obtain ⟨p, hp, rfl, hkp⟩ := hrel
                        have HKP := Lib.hid hkp
                        clear hkp
                        by_cases hpl : p < xs.length
                        · have hpz : (p : Int) < (xs.length : Int) := by omega
                          have hp0 : (0 : Int) ≤ (p : Int) := by omega
                          have hwp : IntKind.i64.wrap ((p : Int) + 1) = (p : Int) + 1 := by rw [IntKind.wrap_i64]; omega
                          obtain ⟨g, rfl⟩ := HA6.out (by omega)
                          obtain ⟨yp, hyp⟩ : ∃ y, xs[p]? = some y := ⟨_, List.getElem?_eq_getElem hpl⟩
                          have Hyp := Lib.hid hyp
                          clear hyp
                          go_wp2_with fail
                          go_loopw [10] (fun i wq => ∃ q : Nat, q ≤ p ∧ i = .int .i64 q ∧ Keeps NoBlock wx wq) (fun i _ => p - (intOf i).toNat)
                          case atStart => exact ⟨0, by omega, rfl, HKP.out⟩
                          case round =>
                            obtain ⟨q, hq, rfl, hkq⟩ := hrel
                            have HKQ := Lib.hid hkq
                            clear hkq
                            by_cases hqp : q < p
                            · have hqz : (q : Int) < (p : Int) := by omega
                              have hq0 : (0 : Int) ≤ (q : Int) := by omega
                              have hql : (q : Int) < (xs.length : Int) := by omega
                              have hwq : IntKind.i64.wrap ((q : Int) + 1) = (q : Int) + 1 := by rw [IntKind.wrap_i64]; omega
                              obtain ⟨yq, hyq⟩ : ∃ y, xs[q]? = some y := ⟨_, List.getElem?_eq_getElem (by omega)⟩
                              have hown := HM.out.own.keeps HKQ.out (fun _ _ e => e)
                              have cp : wr.cell? ⟨g, p, none⟩ = some (.int .i64 yp) := by
                                rw [World.ownsRow.cellAt hown p (by omega), List.getElem?_map, Hyp.out]; rfl
                              have cq' : wr.cell? ⟨g, q, none⟩ = some (.int .i64 yq) := by
                                rw [World.ownsRow.cellAt hown q (by omega), List.getElem?_map, hyq]; rfl
                              have hne : (yq == yp) = false := by
                                rw [beq_eq_false_iff_ne]
                                intro e
                                subst e
                                exact absurd ((List.getElem?_inj (by omega) HN.out).1 (hyq.trans Hyp.out.symm)) (by omega)
                              clear hown hyq
                              go_wp2_with fail
                              go_region
                              go_wp2_with fail
                              exact ⟨⟨q + 1, by omega, by simp, by repeat (first | with_reducible exact HKQ.out | with_reducible refine Keeps.drew ?_ | with_reducible refine Keeps.drewN ?_ _)⟩, by simp [intOf]; omega⟩
                            · obtain rfl : q = p := by omega
                              go_wp2_with fail
                              exact ⟨⟨q + 1, by omega, by simp, HKQ.out⟩, by simp [intOf]; omega⟩
                        · obtain rfl : p = xs.length := by omega
                          have HGe : Hid (Gw w G st' wr) := HGt.out.keeps (HM.out.kp.trans HKP.out (fun _ _ e => e))
                          go_wp2_with fail
                          exact ⟨⟨k + 1, by omega, by omega, by simp, st', HGe.out, HIt.out, by have := HSt.out.1; omega, by have := HSt.out.2.1; omega, by have := HSt.out.2.2; omega⟩, by simp [intOf]; omega⟩
                · have g5 : (what == 5) = false := by rw [beq_eq_false_iff_ne]; exact w5
                  obtain ⟨y, b, er, st', hL⟩ : ∃ y b er s, UpA st n ch = (y, b, er, s) := ⟨_, _, _, _, rfl⟩
                  have hinv := UpA_inv HI.out (n : Int) ch
                  rw [hL] at hinv
                  have HIt := Lib.hid (hinv.1.mono (Nat.le_succ k))
                  have HSt := Lib.hid hinv.2
                  have hlk := Lib.hid (Up_at Hgs.out hsh.out HI.out.cn (n : Int) ch hL)
                  clear hL hinv w0 w1 w2 w3 w5
                  go_wp2_with fail
                  refine hlk.out.mono ?_
                  rintro e w5 ⟨rfl, B5, g5, t5⟩
                  have HGt : Hid (Gw w G st' w5) := ⟨B5, g5, Htq.out.trans t5⟩
                  clear g5 t5 x0 x1 x2 x3 x4 hlk
                  go_wp2_with fail
                  have HN := Lib.hid (all_nodup HIt.out (by have := HSt.out.1; omega) (by have := HSt.out.2.1; omega) (by have := HSt.out.2.2; omega))
                  have hsT := Lib.hid (tot_short (Nat.le_trans HIt.out.t (show k + 1 ≤ 100 by omega)))
                  have hsT2 := Lib.hid (tot_short (Nat.le_trans HIt.out.t (show k + 1 ≤ 10000 by omega)))
                  obtain ⟨Bt, hgt, _⟩ := HGt.out
                  have Hgt := Lib.hid hgt
                  clear hgt
                  go_loopw [6, 7] (fun u i wq => ∃ (kd : Nat) (A : Option Addr) (c : Nat), 1 ≤ kd ∧ kd ≤ 4 ∧ i = .int .i64 kd ∧ u = .slice A (rowsTo st' kd 0).length c ∧ Mine w5 wq 3 1 (.slice A (rowsTo st' kd 0).length c) (rowsTo st' kd 0).length ((rowsTo st' kd 0).map encI)) (fun _ i _ => 4 - (intOf i).toNat)
                  case atStart => exact ⟨1, _, _, by omega, by omega, rfl, rfl, ⟨own_new w5.heap.size rfl, fun b hb => by simp only [Value.ownBlock, Option.some.injEq] at hb; omega, (Keeps.refl _ _).alloc _⟩⟩
                  case round =>
                    obtain ⟨kd, A6, c6, hkd1, hkd4, rfl, rfl, hmine⟩ := hrel
                    have HM := Lib.hid hmine
                    clear hmine
                    by_cases hkd : kd < 4
                    · have hkz : (kd : Int) ≤ 3 := by omega
                      have hwkd : IntKind.i64.wrap ((kd : Int) + 1) = (kd : Int) + 1 := by rw [IntKind.wrap_i64]; omega
                      go_upto_region 24 with fail
                      go_wp2_with fail
                      go_loopw [6, 8] (fun u i wq => ∃ (nn : Nat) (A : Option Addr) (c : Nat), nn ≤ 2 ∧ i = .int .i64 nn ∧ u = .slice A (rowsTo st' kd nn).length c ∧ Mine w5 wq 3 1 (.slice A (rowsTo st' kd nn).length c) (rowsTo st' kd nn).length ((rowsTo st' kd nn).map encI)) (fun _ i _ => 2 - (intOf i).toNat)
                      case atStart => exact ⟨0, _, _, by omega, rfl, rfl, HM.out⟩
                      case round =>
                        obtain ⟨nn, A6, c6, hnn, rfl, rfl, hmine⟩ := hrel
                        have HM2 := Lib.hid hmine
                        clear hmine
                        by_cases hn2' : nn < 2
                        · have hnz : (nn : Int) < 2 := by omega
                          have hwnn : IntKind.i64.wrap ((nn : Int) + 1) = (nn : Int) + 1 := by rw [IntKind.wrap_i64]; omega
                          have hwt := Lib.hid (Waiters_fn (Hgt.out.keeps HM2.out.kp (fun _ e => e.elim)) hsT2.out (kd : Int) (nn : Int))
                          have hlw := waiters_len hsT.out (kd : Int) (nn : Int)
                          have hlr := rowsTo_le hsT.out kd nn hkd4 hnn
                          have hnext := Lib.hid (rowsTo_next st' kd nn)
                          obtain ⟨ys, hys⟩ : ∃ ys, WaitersA st' kd nn = ys := ⟨_, rfl⟩
                          obtain ⟨xs, hxs⟩ : ∃ xs, rowsTo st' kd nn = xs := ⟨_, rfl⟩
                          rw [hys] at hwt hlw hnext
                          rw [hxs] at HM2 hlr hnext ⊢
                          clear hys hxs
                          go_wp2_with fail
                          refine hwt.out.mono ?_
                          rintro e wj2 ⟨u, rfl, mj⟩
                          have M7 := Lib.hid (HM2.out.keeps mj.kp)
                          obtain ⟨Aj, cj, rfl, hAj⟩ := own_len mj.own
                          have hcj : Hid (∀ g, Aj = some ⟨g, 0, none⟩ → ∀ j u, (ys.map encI)[j]? = some u → wj2.cell? ⟨g, 0 + j, none⟩ = some u) := fun g hg j u hu => by
                            subst hg
                            have hj := (List.getElem?_eq_some_iff.1 hu).1
                            rw [Nat.zero_add, World.ownsRow.cellAt mj.own j (by simpa using hj)]
                            exact hu
                          clear mj
                          by_cases hy0 : 0 < ys.length
                          · obtain ⟨g, rfl⟩ := hAj hy0
                            have hcg := Lib.hid (hcj.out g rfl)
                            clear hAj
                            go_wp2_with (at_builtin; refine wpList_appX eI _ rfl _ _ rfl (.slice A6 xs.length c6) xs.length (xs.map encI) rfl M7.out.own (some ⟨g, 0, none⟩) g 0 ys.length cj (ys.map encI) rfl (fun _ => rfl) (by simp) hcg.out (eIone ys) (by simp only [maxLen]; omega) (by omega) ?_; intro v8 w8 ho8 hg8 hf8 _)
                            obtain ⟨A8, c8, rfl⟩ := Own.isSlice ho8
                            refine ⟨⟨nn + 1, A8, c8, by omega, by simp, ?_, ?_⟩, by simp [intOf]; omega⟩
                            · rw [hnext.out, List.length_append]
                            · rw [hnext.out, List.length_append, List.map_append]
                              exact M7.out.grow (Keeps.refl _ _) ho8 hg8 hf8 (Nat.le_refl _)
                          · obtain rfl : ys = [] := List.eq_nil_of_length_eq_zero (by omega)
                            clear hcj hAj
                            go_wp2_with (at_builtin; refine wpList_appX eI _ rfl _ _ rfl (.slice A6 xs.length c6) xs.length (xs.map encI) rfl M7.out.own Aj 0 0 0 cj [] rfl (fun h => absurd h (Nat.lt_irrefl _)) rfl (fun j u h => by simp at h) (fun u h => by simp at h) (by simp only [maxLen]; omega) (by omega) ?_; intro v8 w8 ho8 hg8 hf8 _)
                            obtain ⟨A8, c8, rfl⟩ := Own.isSlice ho8
                            rw [List.append_nil] at hnext
                            refine ⟨⟨nn + 1, A8, c8, by omega, by simp, ?_, ?_⟩, by simp [intOf]; omega⟩
                            · rw [hnext.out]; rfl
                            · rw [hnext.out]
                              rw [List.append_nil] at ho8
                              exact M7.out.grow (Keeps.refl _ _) ho8 hg8 hf8 (Nat.le_refl _)
                        · obtain rfl : nn = 2 := by omega
                          have hknd := rowsTo_kind st' kd hkd1
                          rw [← hknd] at HM2 ⊢
                          have HM3 := HM2
                          clear HM2
                          go_wp2_with fail
                          exact ⟨⟨kd + 1, A6, c6, by omega, by omega, by simp, rfl, HM3.out⟩, by simp [intOf]; omega⟩
                    · obtain rfl : kd = 4 := by omega
                      obtain ⟨xs, hxs⟩ : ∃ xs, rowsTo st' 4 0 = xs := ⟨_, rfl⟩
                      have HXL : Hid (xs.length ≤ 1000) := by
                        have := rowsTo_le hsT.out 4 0 (Nat.le_refl _) (by omega)
                        rw [hxs] at this
                        show _ ≤ _
                        omega
                      rw [hxs] at HM HN ⊢
                      clear hxs
                      obtain ⟨wx, hwx⟩ : ∃ wx, wx = wr := ⟨_, rfl⟩
                      rw [← hwx] at HM ⊢
                      clear hwx
                      have hlx : Hid (∀ b, (Value.slice A6 xs.length c6).ownBlock = some b → b < wx.heap.size) := HM.out.lt
                      obtain ⟨_, _, hsl, hA6⟩ := own_len HM.out.own
                      obtain ⟨rfl, rfl⟩ : A6 = _ ∧ c6 = _ := by
                        injection hsl with h1 _ h2
                        exact ⟨h1, h2⟩
                      have HA6 := Lib.hid hA6
                      have hxl : xs.length ≤ 1000 := HXL.out
                      clear hA6 hsl
                      go_wp2_with fail
                      go_loopw [9] (fun i wq => ∃ p : Nat, p ≤ xs.length ∧ i = .int .i64 p ∧ Keeps NoBlock wx wq) (fun i _ => xs.length - (intOf i).toNat)
                      case atStart => exact ⟨0, by omega, rfl, Keeps.refl _ _⟩
                      case round =>
                        obtain ⟨p, hp, rfl, hkp⟩ := hrel
                        have HKP := Lib.hid hkp
                        clear hkp
                        by_cases hpl : p < xs.length
                        · have hpz : (p : Int) < (xs.length : Int) := by omega
                          have hp0 : (0 : Int) ≤ (p : Int) := by omega
                          have hwp : IntKind.i64.wrap ((p : Int) + 1) = (p : Int) + 1 := by rw [IntKind.wrap_i64]; omega
                          obtain ⟨g, rfl⟩ := HA6.out (by omega)
                          obtain ⟨yp, hyp⟩ : ∃ y, xs[p]? = some y := ⟨_, List.getElem?_eq_getElem hpl⟩
                          have Hyp := Lib.hid hyp
                          clear hyp
                          go_wp2_with fail
                          go_loopw [10] (fun i wq => ∃ q : Nat, q ≤ p ∧ i = .int .i64 q ∧ Keeps NoBlock wx wq) (fun i _ => p - (intOf i).toNat)
                          case atStart => exact ⟨0, by omega, rfl, HKP.out⟩
                          case round =>
                            obtain ⟨q, hq, rfl, hkq⟩ := hrel
                            have HKQ := Lib.hid hkq
                            clear hkq
                            by_cases hqp : q < p
                            · have hqz : (q : Int) < (p : Int) := by omega
                              have hq0 : (0 : Int) ≤ (q : Int) := by omega
                              have hql : (q : Int) < (xs.length : Int) := by omega
                              have hwq : IntKind.i64.wrap ((q : Int) + 1) = (q : Int) + 1 := by rw [IntKind.wrap_i64]; omega
                              obtain ⟨yq, hyq⟩ : ∃ y, xs[q]? = some y := ⟨_, List.getElem?_eq_getElem (by omega)⟩
                              have hown := HM.out.own.keeps HKQ.out (fun _ _ e => e)
                              have cp : wr.cell? ⟨g, p, none⟩ = some (.int .i64 yp) := by
                                rw [World.ownsRow.cellAt hown p (by omega), List.getElem?_map, Hyp.out]; rfl
                              have cq' : wr.cell? ⟨g, q, none⟩ = some (.int .i64 yq) := by
                                rw [World.ownsRow.cellAt hown q (by omega), List.getElem?_map, hyq]; rfl
                              have hne : (yq == yp) = false := by
                                rw [beq_eq_false_iff_ne]
                                intro e
                                subst e
                                exact absurd ((List.getElem?_inj (by omega) HN.out).1 (hyq.trans Hyp.out.symm)) (by omega)
                              clear hown hyq
                              go_wp2_with fail
                              go_region
                              go_wp2_with fail
                              exact ⟨⟨q + 1, by omega, by simp, by repeat (first | with_reducible exact HKQ.out | with_reducible refine Keeps.drew ?_ | with_reducible refine Keeps.drewN ?_ _)⟩, by simp [intOf]; omega⟩
                            · obtain rfl : q = p := by omega
                              go_wp2_with fail
                              exact ⟨⟨q + 1, by omega, by simp, HKQ.out⟩, by simp [intOf]; omega⟩
                        · obtain rfl : p = xs.length := by omega
                          have HGe : Hid (Gw w G st' wr) := HGt.out.keeps (HM.out.kp.trans HKP.out (fun _ _ e => e))
                          go_wp2_with fail
                          exact ⟨⟨k + 1, by omega, by omega, by simp, st', HGe.out, HIt.out, by have := HSt.out.1; omega, by have := HSt.out.2.1; omega, by have := HSt.out.2.2; omega⟩, by simp [intOf]; omega⟩
    · have HGk := Lib.hid HG.out.kp
      rcases Nat.lt_or_ge k l.length with hlt1 | hge1
      · have hk1 : (k : Int) < (l.length : Int) := by omega
        have hk2 : (60 : Int) ≤ (k : Int) := by omega
        go_wp2_with fail
        refine (awake_calls _).mono ?_
        rintro e w6 ⟨rfl, k6⟩
        have K6 := Lib.hid (HGk.out.trans k6 (fun _ _ e => e))
        clear k6
        go_wp2_with fail
        go_ret
        exact ⟨rfl, K6.out.below (Nat.le_refl _) (fun _ e => e.elim)⟩
      · have hk1 : (l.length : Int) ≤ (k : Int) := by omega
        go_wp2_with fail
        refine (awake_calls _).mono ?_
        rintro e w6 ⟨rfl, k6⟩
        have K6 := Lib.hid (HGk.out.trans k6 (fun _ _ e => e))
        clear k6
        go_wp2_with fail
        go_ret
        exact ⟨rfl, K6.out.below (Nat.le_refl _) (fun _ e => e.elim)⟩

theorem once_row (w : World) (v : Value) (l : List Act) (h : ActsAt w v l) : Calls Try.prog 3 #[v] w fun e w' => e = .returned (.bool true) ∧ Below w.heap.size w w' := once_calls v l w h

end Gt
end Go.Proofs.Ytlgolofcpokndaa
