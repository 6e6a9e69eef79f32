/- SchedShares: the most shares in one window. -/
import Derived.Test.YtlnfjjbfdbcgbaaSdD
import Derived.Test.YtlnfjjbfdbcgbaaArg
namespace Go.Proofs.Ytlnfjjbfdbcgbaa
open Go.RowKit
namespace Sd

/-- The first hundred entries. -/
theorem trim {w : World} {v : Value} {xs : List St} (h : StsAt w v xs) : ∃ (A : Option Addr) (n cap m b off : Nat) (ys : List St), v = .slice A n cap ∧ n ≤ 10000000000000 ∧ ((n ≤ 100 ∧ m = n) ∨ (100 < n ∧ m = 100)) ∧ ys.length = m ∧ m ≤ cap ∧ n ≤ cap ∧ m ≤ 100 ∧ Rd encS 3 w (.slice A m cap) ys ∧
    (0 < n → A = some ⟨b, off, none⟩ ∧ b < w.heap.size) ∧ ∀ (j : Nat) (x : St) (i : Nat) (u : Value), ys[j]? = some x → (encS x)[i]? = some u → w.cell? ⟨b, off + j * 3 + i, none⟩ = some u := by
  obtain ⟨⟨A', b, off, cap', hv, hA, hc⟩, hl, A, cap, rfl, hcap⟩ := h
  cases hv
  by_cases h1 : xs.length ≤ 100
  · exact ⟨_, _, _, xs.length, b, off, xs, rfl, by omega, .inl ⟨h1, rfl⟩, rfl, hcap, hcap, h1, ⟨_, b, off, _, rfl, hA, hc⟩, hA, hc⟩
  · have hp := Rd.part hA hc A' 0 100 cap' (by omega) (fun _ => by rw [(hA (by omega)).1]; simp)
    rw [List.drop_zero] at hp
    refine ⟨_, _, _, 100, b, off, xs.take 100, rfl, by omega, .inr ⟨by omega, rfl⟩, ?_, by omega, hcap, Nat.le_refl _, hp, hA, ?_⟩
    · rw [List.length_take]; omega
    · intro j x i u hx hu
      rw [List.getElem?_take] at hx
      split at hx
      · exact hc j x i u hx hu
      · cases hx

/-- What a window from entry i on holds. -/
def fromAt (xs : List St) (W n i : Nat) : Nat := sh xs (min n (i + W)) - sh xs i
theorem shares_alike (xs : List St) (W : Nat) (hW : 1 ≤ W) : sharesN xs W = maxN (fromAt xs W xs.length) xs.length := by
  unfold sharesN
  apply Nat.le_antisymm
  · apply maxN_le
    intro j hj
    refine Nat.le_trans ?_ (le_maxN (fromAt xs W xs.length) xs.length (j + 1 - W) (by omega))
    unfold nowAt fromAt
    have := sh_mono xs (show j + 1 ≤ min xs.length (j + 1 - W + W) by omega)
    omega
  · apply maxN_le
    intro i hi
    have h := le_maxN (fun j => nowAt xs W (j + 1)) xs.length (min xs.length (i + W) - 1) (by omega)
    refine Nat.le_trans ?_ h
    unfold nowAt fromAt
    rw [show min xs.length (i + W) - 1 + 1 = min xs.length (i + W) by omega]
    have := sh_mono xs (show min xs.length (i + W) - W ≤ i by omega)
    omega

set_option maxHeartbeats 4000000 in
set_option maxRecDepth 100000 in
theorem shares_law0 (v : Value) (xs : List St) (wi : Int) (w : World) (h : StsAt w v xs) : Calls Try.prog 10 #[v, .int .i64 wi] w fun e w' => e = .returned (.bool true) ∧ Keeps NoBlock w w' := by
  obtain ⟨A, n, cap, m, b, off, ys, rfl, hn, hm, hym, hmc, hnc, hm1, hR, hA, hc⟩ := trim h
  have HR := Lib.hid hR
  have Hy := Lib.hid hym
  have Hc := Lib.hid hc
  have HA1 : Hid (0 < m → A = some ⟨b, off, none⟩ ∧ b < w.heap.size) := fun h0 => hA (by omega)
  have HA := Lib.hid hA
  clear h hR hym hc hA
  go_enter Try.func10, Try.ntmps10
  go_upto_if 11 with fail
  go_cut [0] from 11 to 13 (fun v wx => v = .slice A m cap ∧ w = wx)
  case first =>
    rcases hm with ⟨h1, rfl⟩ | ⟨h1, rfl⟩
    · go_wp2_with fail
      go_meet
      case rel => exact ⟨rfl, rfl⟩
    · obtain ⟨rfl, _⟩ := HA.out (by omega)
      have h60 : (100 : Int) ≤ cap := by omega
      go_wp2_with fail
      go_meet
      case rel => exact ⟨rfl, rfl⟩
  case rest =>
    obtain ⟨rfl, rfl⟩ := hcut
    clear hm HA hn hnc
    by_cases hW : 1 ≤ wi
    · obtain ⟨W, rfl⟩ : ∃ W : Nat, wi = W := ⟨wi.toNat, by omega⟩
      have hsh := Lib.hid (fun (Wd : World) (k : Keeps NoBlock w Wd) => shares_calls _ ys W Wd (HR.out.keeps k (fun _ _ h => h)) (by rw [Hy.out]; omega) hW)
      have hW1 : 1 ≤ W := by omega
      go_wp2_with fail
      go_loopw [5, 6] (fun v i wr => ∃ (k bs : Nat), k ≤ m ∧ i = .int .i64 k ∧ v = .int .i64 bs ∧ bs ≤ m ∧ w = wr ∧ Hid (bs = maxN (fromAt ys W m) k)) (fun _ i _ => m - (intOf i).toNat)
      case atStart => exact ⟨0, 0, Nat.zero_le _, rfl, rfl, Nat.zero_le _, rfl, rfl⟩
      case round =>
        obtain ⟨k, bs, hk, rfl, rfl, hbs, rfl, Hbs⟩ := hrel
        by_cases hkm : k < m
        · obtain ⟨rfl, hb1⟩ := HA1.out (by omega)
          go_wp2_with fail
          go_loopw [7, 8] (fun c j wr => ∃ (q cn : Nat), k ≤ q ∧ q ≤ m ∧ q ≤ k + W ∧ cn ≤ q ∧ c = .int .i64 cn ∧ j = .int .i64 q ∧ w = wr ∧ Hid (cn = sh ys q - sh ys k)) (fun _ j _ => m - (intOf j).toNat)
          case atStart => exact ⟨k, 0, Nat.le_refl _, by omega, by omega, Nat.zero_le _, rfl, rfl, rfl, by show _ = _; omega⟩
          case round =>
            obtain ⟨j, cn, hkj, hdm, hdW, hcn, rfl, rfl, rfl, Hcn⟩ := hrel
            by_cases hjm : j < m
            · by_cases hdW2 : (j : Int) - k < W
              · obtain ⟨x, hx⟩ : ∃ x, ys[j]? = some x := ⟨_, List.getElem?_eq_getElem (by rw [Hy.out]; exact hjm)⟩
                have hcx := (cells3 Hc.out hx).1
                have hs := sh_succ ys j x hx
                have hmo := sh_mono ys (show k ≤ j by omega)
                cases hb : shareB x with
                | true =>
                  have hb6 : (x.kind == 6) = true := hb
                  rw [hb, if_pos rfl] at hs
                  have hfin : Hid (cn + 1 = sh ys (j + 1) - sh ys k) := by show _ = _; rw [hs, Hcn.out]; omega
                  clear hx hs hmo hb
                  go_wp2_with fail
                  exact ⟨⟨j + 1, cn + 1, by omega, by omega, by omega, by omega, by go_num, by go_num, trivial, hfin.out⟩, by simp [intOf]; omega⟩
                | false =>
                  have hb6 : (x.kind == 6) = false := hb
                  rw [hb] at hs
                  have hfin : Hid (cn = sh ys (j + 1) - sh ys k) := by show _ = _; rw [hs, Hcn.out]; rfl
                  clear hx hs hmo hb
                  go_wp2_with fail
                  exact ⟨⟨j + 1, cn, by omega, by omega, by omega, by omega, rfl, by go_num, trivial, hfin.out⟩, by simp [intOf]; omega⟩
              · have hdW3 : (W : Int) ≤ (j : Int) - k := by omega
                have hcf : Hid (cn = fromAt ys W m k) := by show _ = _; unfold fromAt; rw [show min m (k + W) = j by omega]; exact Hcn.out
                by_cases hbc : bs < cn
                · have hfin : Hid (cn = maxN (fromAt ys W m) (k + 1)) := by show _ = _; rw [maxN, ← Hbs.out, ← hcf.out]; omega
                  go_wp2_with fail
                  exact ⟨⟨k + 1, cn, by omega, by go_num, rfl, by omega, trivial, hfin.out⟩, by simp [intOf]; omega⟩
                · have hfin : Hid (bs = maxN (fromAt ys W m) (k + 1)) := by show _ = _; rw [maxN, ← Hbs.out, ← hcf.out]; omega
                  go_wp2_with fail
                  exact ⟨⟨k + 1, bs, by omega, by go_num, rfl, by omega, trivial, hfin.out⟩, by simp [intOf]; omega⟩
            · obtain rfl : m = j := by omega
              · have hmm := hjm
                have hcf : Hid (cn = fromAt ys W m k) := by show _ = _; unfold fromAt; rw [show min m (k + W) = m by omega]; exact Hcn.out
                by_cases hbc : bs < cn
                · have hfin : Hid (cn = maxN (fromAt ys W m) (k + 1)) := by show _ = _; rw [maxN, ← Hbs.out, ← hcf.out]; omega
                  go_wp2_with fail
                  exact ⟨⟨k + 1, cn, by omega, by go_num, rfl, by omega, trivial, hfin.out⟩, by simp [intOf]; omega⟩
                · have hfin : Hid (bs = maxN (fromAt ys W m) (k + 1)) := by show _ = _; rw [maxN, ← Hbs.out, ← hcf.out]; omega
                  go_wp2_with fail
                  exact ⟨⟨k + 1, bs, by omega, by go_num, rfl, by omega, trivial, hfin.out⟩, by simp [intOf]; omega⟩
        · obtain rfl : k = m := by omega
          have Hb2 : Hid (sharesN ys W = bs) := by show _ = _; rw [shares_alike ys W hW1, Hy.out, Hbs.out]
          go_wp2_with fail
          refine (awake28_calls _).mono ?_
          rintro e w7 ⟨rfl, k7⟩
          have K7 := Lib.hid k7
          clear k7
          go_wp2_with fail
          refine (hsh.out _ K7.out).mono ?_
          rintro e w8 ⟨rfl, k8⟩
          have K8 := Lib.hid (K7.out.trans k8 (fun _ _ h => h))
          rw [Int.toNat_natCast, Hb2.out]
          clear k8
          go_wp2_with fail
          go_ret
          exact ⟨rfl, K8.out⟩
    · have hW0 : wi < 1 := by omega
      have hsh := Lib.hid (fun (Wd : World) => shares_low (.slice A m cap) wi Wd hW0)
      go_wp2_with fail
      go_loopw [5, 6] (fun v i wr => v = .int .i64 0 ∧ i = .int .i64 0 ∧ w = wr) (fun _ _ _ => 0)
      case atStart => exact ⟨rfl, rfl, rfl⟩
      case round =>
        obtain ⟨rfl, rfl, rfl⟩ := hrel
        by_cases hm0 : 0 < m
        · go_wp2_with fail
          refine (awake28_calls _).mono ?_
          rintro e w7 ⟨rfl, k7⟩
          have K7 := Lib.hid k7
          clear k7
          go_wp2_with fail
          refine (hsh.out _).mono ?_
          rintro e w8 ⟨rfl, k8⟩
          have K8 := Lib.hid (K7.out.trans k8 (fun _ _ h => h))
          clear k8
          go_wp2_with fail
          go_ret
          exact ⟨rfl, K8.out⟩
        · obtain rfl : m = 0 := by omega
          go_wp2_with fail
          refine (awake28_calls _).mono ?_
          rintro e w7 ⟨rfl, k7⟩
          have K7 := Lib.hid k7
          clear k7
          go_wp2_with fail
          refine (hsh.out _).mono ?_
          rintro e w8 ⟨rfl, k8⟩
          have K8 := Lib.hid (K7.out.trans k8 (fun _ _ h => h))
          clear k8
          go_wp2_with fail
          go_ret
          exact ⟨rfl, K8.out⟩

theorem shares_law (w : World) (v : Value) (xs : List St) (h : StsAt w v xs) (wi : Int) (_hw : (Lit.int .i64 wi).wf = true) :
    Calls Try.prog 10 #[v, .int .i64 wi] w fun e w' => e = .returned (.bool true) ∧ Below w.heap.size w w' :=
  (shares_law0 v xs wi w h).mono fun _ _ ⟨he, hk⟩ => ⟨he, hk.below (Nat.le_refl _) (fun _ h => h.elim)⟩
end Sd
end Go.Proofs.Ytlnfjjbfdbcgbaa
