/- Package ready: in whose row is a thread; are they empty? -/
import Derived.Test.YtmpingalekdlnaaRyA
namespace Go.Proofs.Ytmpingalekdlnaa
open Go.RowKit
namespace Ry
open Dq

theorem Row_out {col : Nat → Nat} {w : World} {r n : Nat} {A : Option Addr} {c : Nat} {ds : List Nat} {qs : List (List Int)} (p : Int) (h : RowsIn col w r n A c ds qs) (hp : p < 0 ∨ (n : Int) ≤ p) : Calls Try.prog 16 #[ptr r, .int .i64 p] w fun e w' => e = .returned (.slice none 0 0) ∧ w = w' := by
  have hr := Lib.hid (row_out p h hp)
  have ha := Lib.hid (all_nil w)
  clear h hp
  go_enter Try.func16, Try.ntmps16
  go_wp2_with fail
  refine hr.out.mono ?_
  rintro e w1 ⟨rfl, rfl⟩
  go_wp2_with fail
  refine ha.out.mono ?_
  rintro e w1 ⟨rfl, rfl⟩
  go_wp2_with fail
  go_ret
  exact ⟨rfl, rfl⟩

theorem Row_in {col : Nat → Nat} {w : World} {r n : Nat} {A : Option Addr} {c : Nat} {ds : List Nat} {qs : List (List Int)} (k : Nat) (q : List Int) (h : RowsIn col w r n A c ds qs) (hk : k < n) (hq : qs[k]? = some q) : Calls Try.prog 16 #[ptr r, .int .i64 k] w (AllPost w q) := by
  obtain ⟨g, d, q', _, _, _, hd, hq', hdq⟩ := h.at hk
  rw [hq] at hq'
  cases hq'
  have hr := Lib.hid (row_in k d h hk hd)
  have ha := Lib.hid (all_calls d q w hdq)
  clear h hd hq hdq
  go_enter Try.func16, Try.ntmps16
  go_wp2_with fail
  refine hr.out.mono ?_
  rintro e w1 ⟨rfl, rfl⟩
  go_wp2_with fail
  refine ha.out.mono ?_
  rintro e w1 ⟨A1, c1, rfl, h1, h2, h3⟩
  go_wp2_with fail
  go_ret
  exact ⟨A1, c1, rfl, h1, h2, h3⟩

theorem empty_calls {col : Nat → Nat} {w : World} {r n : Nat} {A : Option Addr} {c : Nat} {ds : List Nat} {qs : List (List Int)} (h : RowsIn col w r n A c ds qs) (hn : n ≤ 64) : Calls Try.prog 19 #[ptr r] w fun e w' => e = .returned (.bool (qs.all fun q => decide (q = []))) ∧ Keeps NoBlock w w' := by
  have H := Lib.hid h
  have c0 := cell_of_block h.head (o := 0) rfl
  have z0 := lt_of_block h.head
  clear h
  go_enter Try.func19, Try.ntmps19
  go_wp2_with fail
  go_loopw [12] (fun i wr => ∃ k : Nat, k ≤ n ∧ i = .int .i64 k ∧ Hid (Keeps NoBlock w wr) ∧ Hid (∀ (j : Nat) (q : List Int), j < k → qs[j]? = some q → q = [])) (fun i _ => n - (intOf i).toNat)
  case atStart => exact ⟨0, Nat.zero_le _, rfl, Keeps.refl _ _, fun j q hj => by omega⟩
  case round =>
    obtain ⟨k, hk, rfl, HK, Hall⟩ := hrel
    clear c0 z0
    by_cases hkn : k < n
    · obtain ⟨g, d, q, rfl, hg, hc, _, hq, hdq⟩ := (H.out.keeps HK.out).at hkn
      have ha := Lib.hid (all_calls d q wr hdq)
      have Hq := Lib.hid hq
      have hl := hdq.len
      clear hdq hq
      go_wp2_with fail
      refine ha.out.mono ?_
      rintro e w1 ⟨A1, c1, rfl, _, _, h3⟩
      have K1 := Lib.hid (HK.out.trans h3 (fun _ _ h => h))
      clear h3
      by_cases hq0 : q = []
      · have Hq0 := Lib.hid hq0
        have hlen : (q.length : Int) = 0 := by rw [hq0]; rfl
        clear hq0
        have hfin : Hid (∀ (j : Nat) (p : List Int), j < k + 1 → qs[j]? = some p → p = []) := fun j p hj hp => by
          by_cases e : j = k
          · subst e
            rw [Hq.out] at hp
            cases hp; exact Hq0.out
          · exact Hall.out j p (by omega) hp
        go_wp2_with fail
        exact ⟨⟨k + 1, by omega, by go_num, K1.out, hfin.out⟩, by simp [intOf]; omega⟩
      · have hlen : (0 : Int) < q.length := by have := List.length_pos_iff.2 hq0; omega
        have hfin : Hid ((qs.all fun q => decide (q = [])) = false) := by
          show _ = _
          rw [List.all_eq_false]
          exact ⟨q, List.mem_of_getElem? Hq.out, by simp [hq0]⟩
        clear hq0
        go_wp2_with fail
        go_ret
        exact ⟨by rw [hfin.out]; rfl, K1.out⟩
    · obtain rfl : k = n := by omega
      have hfin : Hid ((qs.all fun q => decide (q = [])) = true) := by
        show _ = _
        rw [List.all_eq_true]
        intro q hq
        obtain ⟨j, hj⟩ := List.mem_iff_getElem?.1 hq
        exact decide_eq_true (Hall.out j q (by rw [← H.out.ql]; exact (List.getElem?_eq_some_iff.1 hj).1) hj)
      go_wp2_with fail
      go_ret
      exact ⟨by rw [hfin.out]; rfl, HK.out⟩
end Ry
end Go.Proofs.Ytmpingalekdlnaa
