/- SchedWindows: in each window each processor takes a step. -/
import Derived.Test.YtlnfjjbfdbcgbaaSdF
namespace Go.Proofs.Ytlnfjjbfdbcgbaa
open Go.RowKit
namespace Sd

theorem windows_none (v : Value) (P W : Int) (h : P < 1 ∨ 64 < P ∨ W < 1 ∨ 65536 < W) (w : World) : Calls Try.prog 22 #[v, .int .i64 P, .int .i64 W] w fun e w' => e = .returned (.bool false) ∧ w = w' := by
  by_cases hp : 1 ≤ P ∧ P ≤ 64
  · have h1 := Lib.hid (fun Wd => within_calls P 1 64 Wd true (by rw [decide_eq_true hp.1, decide_eq_true hp.2]; rfl))
    have h2 := Lib.hid (fun Wd => within_calls W 1 65536 Wd false (by
      by_cases hn : 1 ≤ W
      · rw [decide_eq_true hn, decide_eq_false (by omega)]; rfl
      · rw [decide_eq_false hn]; rfl))
    clear h hp
    go_enter Try.func22, Try.ntmps22
    go_wp2_with fail
    refine (h1.out _).mono ?_
    rintro e w' ⟨rfl, rfl⟩
    go_wp2_with fail
    refine (h2.out _).mono ?_
    rintro e w' ⟨rfl, rfl⟩
    go_wp2_with fail
    go_ret
    exact ⟨rfl, rfl⟩
  · have h1 := Lib.hid (fun Wd => within_calls P 1 64 Wd false (by
      by_cases hn : 1 ≤ P
      · rw [decide_eq_true hn, decide_eq_false (by omega)]; rfl
      · rw [decide_eq_false hn]; rfl))
    clear h hp
    go_enter Try.func22, Try.ntmps22
    go_wp2_with fail
    refine (h1.out _).mono ?_
    rintro e w' ⟨rfl, rfl⟩
    go_wp2_with fail
    go_ret
    exact ⟨rfl, rfl⟩

/-- Did p step in the d entries from at on? -/
def foundB (xs : List St) (p at_ d : Nat) : Bool := decide (at_ < lastAt xs p (at_ + d))
theorem found_zero (xs : List St) (p a : Nat) : foundB xs p a 0 = false := decide_eq_false (by have := lastAt_le xs p a; rw [Nat.add_zero]; omega)
theorem found_hit (xs : List St) (p a d : Nat) (x : St) (hx : xs[a + d]? = some x) (h : stepB p x = true) : foundB xs p a (d + 1) = true := by
  unfold foundB
  rw [← Nat.add_assoc, lastAt_succ xs p (a + d) x hx, if_pos h]
  exact decide_eq_true (by omega)
theorem found_miss (xs : List St) (p a d : Nat) (x : St) (hx : xs[a + d]? = some x) (h : stepB p x = false) : foundB xs p a (d + 1) = foundB xs p a d := by
  unfold foundB
  rw [← Nat.add_assoc, lastAt_succ xs p (a + d) x hx, h]
  rfl
theorem found_on (xs : List St) (p a d : Nat) (x : St) (hx : xs[a + d]? = some x) (h : foundB xs p a d = true) : foundB xs p a (d + 1) = true := by
  cases hs : stepB p x with
  | true => exact found_hit xs p a d x hx hs
  | false => rw [found_miss xs p a d x hx hs]; exact h

def allP (xs : List St) (W a p : Nat) : Bool := (List.range p).all fun q => foundB xs q a W
theorem allP_succ (xs : List St) (W a p : Nat) : allP xs W a (p + 1) = (allP xs W a p && foundB xs p a W) := by simp [allP, List.range_succ]
def wantA (xs : List St) (P W k : Nat) : Bool := (List.range k).all fun a => allP xs W a P
theorem wantA_succ (xs : List St) (P W k : Nat) : wantA xs P W (k + 1) = (wantA xs P W k && allP xs W k P) := by simp [wantA, List.range_succ]
theorem win_want (xs : List St) (P W : Nat) (hW : 1 ≤ W) : winB xs P W = wantA xs P W (xs.length + 1 - W) := by
  rw [Bool.eq_iff_iff]
  unfold winB wantA allP foundB okW
  simp only [List.all_eq_true, List.mem_range, Bool.or_eq_true, decide_eq_true_eq]
  constructor
  · intro h a ha p hp
    have h1 := h (a + W - 1) (by omega)
    rw [show a + W - 1 + 1 = a + W by omega] at h1
    rcases h1 with h1 | h1
    · omega
    · have := h1 p hp; rw [show a + W - W = a by omega] at this; exact this
  · intro h k hk
    by_cases h1 : k + 1 < W
    · exact .inl h1
    · right
      intro p hp
      have := h (k + 1 - W) (by omega) p hp
      rw [show k + 1 - W + W = k + 1 by omega] at this
      exact this

set_option maxHeartbeats 8000000 in
set_option maxRecDepth 100000 in
theorem windows_law1 (v : Value) (xs : List St) (P W : Nat) (w : World) (h : StsAt w v xs) (hP : 1 ≤ P) (hP2 : P ≤ 64) (hW : 1 ≤ W) (hW2 : W ≤ 65536) : Calls Try.prog 9 #[v, .int .i64 P, .int .i64 W] w fun e w' => e = .returned (.bool true) ∧ Keeps NoBlock w w' := by
  obtain ⟨A, n, cap, m, b, off, ys, rfl, hn, hm, hym, hmc, hnc, hm1, hR, hA, hc⟩ := trim h
  have HR := Lib.hid hR
  have Hy := Lib.hid hym
  have Hc := Lib.hid hc
  have HA1 : Hid (0 < m → A = some ⟨b, off, none⟩ ∧ b < w.heap.size) := fun h0 => hA (by omega)
  have HA := Lib.hid hA
  obtain ⟨gb, hgb⟩ : ∃ gb, Hid (gb = winB ys P W) := ⟨_, rfl⟩
  have hwi := windows_calls _ ys P W w hR (by omega) hP hP2 hW hW2
  rw [← hgb.out] at hwi
  have Hwi := Lib.hid hwi
  clear h hR hym hc hA hwi
  go_enter Try.func9, Try.ntmps9
  go_upto_if 15 with fail
  go_cut [0] from 15 to 17 (fun v wx => v = .slice A m cap ∧ w = wx)
  case first =>
    rcases hm with ⟨h1, rfl⟩ | ⟨h1, rfl⟩
    · go_wp2_with fail
      go_meet
      case rel => exact ⟨rfl, rfl⟩
    · obtain ⟨rfl, _⟩ := HA.out (by omega)
      have h60 : (100 : Int) ≤ cap := by omega
      go_wp2_with fail
      go_meet
      case rel => exact ⟨rfl, rfl⟩
  case rest =>
    obtain ⟨rfl, rfl⟩ := hcut
    clear hm HA hn hnc
    go_wp2_with fail
    refine Hwi.out.mono ?_
    rintro e w2 ⟨rfl, k2⟩
    have HK := Lib.hid k2
    clear k2
    go_wp2_with fail
    go_loopw [8, 9] (fun v i wr => ∃ (k : Nat) (wb : Bool), k ≤ m + 1 - W ∧ i = .int .i64 k ∧ v = .bool wb ∧ w2 = wr ∧ Hid (wb = wantA ys P W k)) (fun _ i _ => m + 1 - W - (intOf i).toNat)
    case atStart => exact ⟨0, true, Nat.zero_le _, rfl, rfl, rfl, rfl⟩
    case round =>
      obtain ⟨k, wb, hk, rfl, rfl, rfl, Hb⟩ := hrel
      by_cases hWm : W ≤ m
      · obtain ⟨ix, hix⟩ : ∃ ix : Nat, (m : Int) - W = ix := ⟨m - W, by omega⟩
        by_cases hki : k ≤ ix
        · obtain ⟨rfl, hb1⟩ := HA1.out (by omega)
          have hkW : k + W ≤ m := by omega
          go_wp2_with fail
          go_loopw [8, 10] (fun v i wr => ∃ (p : Nat) (b2 : Bool), p ≤ P ∧ i = .int .i64 p ∧ v = .bool b2 ∧ w2 = wr ∧ Hid (b2 = (wb && allP ys W k p))) (fun _ i _ => P - (intOf i).toNat)
          case atStart => exact ⟨0, wb, Nat.zero_le _, rfl, rfl, rfl, by show _ = _; simp [allP]⟩
          case round =>
            obtain ⟨p, b2, hp, rfl, rfl, rfl, Hb2⟩ := hrel
            by_cases hpP : p < P
            · go_wp2_with fail
              go_loopw [11, 12] (fun f j wr => ∃ (d q : Nat) (fb : Bool), d ≤ W ∧ q = k + d ∧ j = .int .i64 q ∧ f = .bool fb ∧ w2 = wr ∧ Hid (fb = foundB ys p k d)) (fun _ j _ => k + W - (intOf j).toNat)
              case atStart => exact ⟨0, k, false, Nat.zero_le _, rfl, rfl, rfl, rfl, (found_zero ys p k).symm⟩
              case round =>
                obtain ⟨d, q, fb, hd, hq, rfl, rfl, rfl, Hfb⟩ := hrel
                have Hq := Lib.hid hq
                by_cases hdW : d < W
                · have hqW : (q : Int) < k + W := by omega
                  obtain ⟨x, hx⟩ : ∃ x, ys[q]? = some x := ⟨_, List.getElem?_eq_getElem (by rw [Hy.out]; omega)⟩
                  have hcx := cells3 Hc.out hx
                  rw [← HK.out.cell hb1 (fun h => h), ← HK.out.cell hb1 (fun h => h), ← HK.out.cell hb1 (fun h => h)] at hcx
                  have hb2 : b < w2.heap.size := Nat.lt_of_lt_of_le hb1 HK.out.size
                  have hx2 := hx
                  rw [hq] at hx2
                  have Hx := Lib.hid hx2
                  have hqm : q < m := by omega
                  have hd1 : d + 1 ≤ W := hdW
                  have hq1 : q + 1 = k + (d + 1) := by omega
                  have hms : k + W - (q + 1) < k + W - q := by omega
                  clear hx hx2 hq
                  cases fb with
                  | true =>
                    have hfin : Hid (true = foundB ys p k (d + 1)) := (found_on ys p k d x Hx.out Hfb.out.symm).symm
                    go_wp2_with fail
                    exact ⟨⟨d + 1, q + 1, true, hd1, hq1, by go_num, rfl, trivial, hfin.out⟩, by simp [intOf]; omega⟩
                  | false =>
                    cases hk1 : x.kind == 1 with
                    | false =>
                      have hfin : Hid (false = foundB ys p k (d + 1)) := by show _ = _; rw [found_miss ys p k d x Hx.out (by unfold stepB; rw [hk1]; rfl)]; exact Hfb.out
                      go_wp2_with fail
                      exact ⟨⟨d + 1, q + 1, false, hd1, hq1, by go_num, rfl, trivial, hfin.out⟩, by simp [intOf]; omega⟩
                    | true =>
                      cases ha1 : x.a == (p : Int) with
                      | false =>
                        have hfin : Hid (false = foundB ys p k (d + 1)) := by show _ = _; rw [found_miss ys p k d x Hx.out (by unfold stepB; rw [hk1, ha1]; rfl)]; exact Hfb.out
                        go_wp2_with fail
                        exact ⟨⟨d + 1, q + 1, false, hd1, hq1, by go_num, rfl, trivial, hfin.out⟩, by simp [intOf]; omega⟩
                      | true =>
                        have hfin : Hid (true = foundB ys p k (d + 1)) := by show _ = _; rw [found_hit ys p k d x Hx.out (by unfold stepB; rw [hk1, ha1]; rfl)]
                        go_wp2_with fail
                        exact ⟨⟨d + 1, q + 1, true, hd1, hq1, by go_num, rfl, trivial, hfin.out⟩, by simp [intOf]; omega⟩
                · have hqW : (k : Int) + W ≤ q := by omega
                  obtain ⟨b3, hb3⟩ : ∃ b3, Hid (b3 = (b2 && fb)) := ⟨_, rfl⟩
                  have hfin : Hid (b3 = (wb && allP ys W k (p + 1))) := by
                    show _ = _
                    rw [hb3.out, Hb2.out, Hfb.out, show d = W by omega, allP_succ, Bool.and_assoc]
                  clear hq
                  cases b2 with
                  | true =>
                    have h3 : fb = b3 := by rw [hb3.out, Bool.true_and]
                    subst h3
                    go_wp2_with fail
                    exact ⟨⟨p + 1, fb, by omega, by go_num, rfl, trivial, hfin.out⟩, by simp [intOf]; omega⟩
                  | false =>
                    have h3 : b3 = false := by rw [hb3.out, Bool.false_and]
                    subst h3
                    go_wp2_with fail
                    exact ⟨⟨p + 1, false, by omega, by go_num, rfl, trivial, hfin.out⟩, by simp [intOf]; omega⟩
            · obtain rfl : P = p := by omega
              have hfin : Hid (b2 = wantA ys P W (k + 1)) := by show _ = _; rw [wantA_succ, ← Hb.out]; exact Hb2.out
              go_wp2_with fail
              exact ⟨⟨k + 1, b2, by omega, by go_num, rfl, trivial, hfin.out⟩, by simp [intOf]; omega⟩
        · obtain rfl : k = m + 1 - W := by omega
          have hgb2 : wb = gb := by rw [hgb.out, Hb.out, win_want ys P W hW, Hy.out]
          obtain rfl := hgb2
          go_wp2_with fail
          refine (awake28_calls _).mono ?_
          rintro e w7 ⟨rfl, k7⟩
          have K7 := Lib.hid (HK.out.trans k7 (fun _ _ h => h))
          clear k7
          cases wb with
          | true =>
            go_wp2_with fail
            go_ret
            exact ⟨rfl, K7.out⟩
          | false =>
            go_wp2_with fail
            go_ret
            exact ⟨rfl, K7.out⟩
      · obtain rfl : k = m + 1 - W := by omega
        · have hgb2 : wb = gb := by rw [hgb.out, Hb.out, win_want ys P W hW, Hy.out]
          obtain rfl := hgb2
          go_wp2_with fail
          refine (awake28_calls _).mono ?_
          rintro e w7 ⟨rfl, k7⟩
          have K7 := Lib.hid (HK.out.trans k7 (fun _ _ h => h))
          clear k7
          cases wb with
          | true =>
            go_wp2_with fail
            go_ret
            exact ⟨rfl, K7.out⟩
          | false =>
            go_wp2_with fail
            go_ret
            exact ⟨rfl, K7.out⟩

theorem windows_law0 (v : Value) (xs : List St) (P W : Int) (w : World) (h : StsAt w v xs) (hbad : P < 1 ∨ 64 < P ∨ W < 1 ∨ 65536 < W) : Calls Try.prog 9 #[v, .int .i64 P, .int .i64 W] w fun e w' => e = .returned (.bool true) ∧ Keeps NoBlock w w' := by
  obtain ⟨A, n, cap, m, b, off, ys, rfl, hn, hm, hym, hmc, hnc, hm1, hR, hA, hc⟩ := trim h
  have HA := Lib.hid hA
  have hwi := Lib.hid (windows_none (.slice A m cap) P W hbad w)
  have Hbad := Lib.hid hbad
  clear h hR hym hc hA hbad
  go_enter Try.func9, Try.ntmps9
  go_upto_if 15 with fail
  go_cut [0] from 15 to 17 (fun v wx => v = .slice A m cap ∧ w = wx)
  case first =>
    rcases hm with ⟨h1, rfl⟩ | ⟨h1, rfl⟩
    · go_wp2_with fail
      go_meet
      case rel => exact ⟨rfl, rfl⟩
    · obtain ⟨rfl, _⟩ := HA.out (by omega)
      have h60 : (100 : Int) ≤ cap := by omega
      go_wp2_with fail
      go_meet
      case rel => exact ⟨rfl, rfl⟩
  case rest =>
    obtain ⟨rfl, rfl⟩ := hcut
    clear hm HA hn hnc
    go_wp2_with fail
    refine hwi.out.mono ?_
    rintro e w2 ⟨rfl, rfl⟩
    by_cases b1 : P < 1
    · go_wp2_with fail
      refine (awake28_calls _).mono ?_
      rintro e w7 ⟨rfl, k7⟩
      have K7 := Lib.hid k7
      clear k7
      go_wp2_with fail
      go_ret
      exact ⟨rfl, K7.out⟩
    by_cases b2 : 64 < P
    · go_wp2_with fail
      refine (awake28_calls _).mono ?_
      rintro e w7 ⟨rfl, k7⟩
      have K7 := Lib.hid k7
      clear k7
      go_wp2_with fail
      go_ret
      exact ⟨rfl, K7.out⟩
    by_cases b3 : W < 1
    · go_wp2_with fail
      refine (awake28_calls _).mono ?_
      rintro e w7 ⟨rfl, k7⟩
      have K7 := Lib.hid k7
      clear k7
      go_wp2_with fail
      go_ret
      exact ⟨rfl, K7.out⟩
    have b4 : 65536 < W := by have := Hbad.out; omega
    · go_wp2_with fail
      refine (awake28_calls _).mono ?_
      rintro e w7 ⟨rfl, k7⟩
      have K7 := Lib.hid k7
      clear k7
      go_wp2_with fail
      go_ret
      exact ⟨rfl, K7.out⟩

theorem windows_law (w : World) (v : Value) (xs : List St) (h : StsAt w v xs) (P : Int) (_hp : (Lit.int .i64 P).wf = true) (W : Int) (_hw : (Lit.int .i64 W).wf = true) :
    Calls Try.prog 9 #[v, .int .i64 P, .int .i64 W] w fun e w' => e = .returned (.bool true) ∧ Below w.heap.size w w' := by
  have key : Calls Try.prog 9 #[v, .int .i64 P, .int .i64 W] w fun e w' => e = .returned (.bool true) ∧ Keeps NoBlock w w' := by
    by_cases hbad : P < 1 ∨ 64 < P ∨ W < 1 ∨ 65536 < W
    · exact windows_law0 v xs P W w h hbad
    · obtain ⟨p, rfl⟩ : ∃ p : Nat, P = p := ⟨P.toNat, by omega⟩
      obtain ⟨q, rfl⟩ : ∃ q : Nat, W = q := ⟨W.toNat, by omega⟩
      exact windows_law1 v xs p q w h (by omega) (by omega) (by omega) (by omega)
  exact key.mono fun _ _ ⟨he, hk⟩ => ⟨he, hk.below (Nat.le_refl _) (fun _ h => h.elim)⟩
end Sd
end Go.Proofs.Ytlnfjjbfdbcgbaa
