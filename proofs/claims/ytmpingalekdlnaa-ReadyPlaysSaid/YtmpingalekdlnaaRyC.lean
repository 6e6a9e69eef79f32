/- Package ready: in whose row is a thread? -/
import Derived.Test.YtmpingalekdlnaaRyB
namespace Go.Proofs.Ytmpingalekdlnaa
open Go.RowKit
namespace Ry
open Dq

/-- What Where says. -/
def WhereIs (qs : List (List Int)) (t : Int) (e : Ending) : Prop :=
  (∃ (k : Nat) (q : List Int), qs[k]? = some q ∧ t ∈ q ∧ (∀ (j : Nat) (p : List Int), j < k → qs[j]? = some p → t ∉ p) ∧ e = out2 k true) ∨ ((∀ (j : Nat) (p : List Int), qs[j]? = some p → t ∉ p) ∧ e = out2 0 false)

set_option maxHeartbeats 1000000 in
theorem where_calls {col : Nat → Nat} {w : World} {r n : Nat} {A : Option Addr} {c : Nat} {ds : List Nat} {qs : List (List Int)} (t : Int) (h : RowsIn col w r n A c ds qs) (hn : n ≤ 64) : Calls Try.prog 17 #[ptr r, .int .i64 t] w fun e w' => WhereIs qs t e ∧ Keeps NoBlock w w' := by
  have H := Lib.hid h
  have c0 := cell_of_block h.head (o := 0) rfl
  have z0 := lt_of_block h.head
  clear h
  go_enter Try.func17, Try.ntmps17
  go_wp2_with fail
  go_loopw [17] (fun i wr => ∃ k : Nat, k ≤ n ∧ i = .int .i64 k ∧ Hid (Keeps NoBlock w wr) ∧ Hid (∀ (j : Nat) (q : List Int), j < k → qs[j]? = some q → t ∉ q)) (fun i _ => n - (intOf i).toNat)
  case atStart => exact ⟨0, Nat.zero_le _, rfl, Keeps.refl _ _, fun j q hj => by omega⟩
  case round =>
    obtain ⟨k, hk, rfl, HK, Hall⟩ := hrel
    clear c0 z0
    by_cases hkn : k < n
    · obtain ⟨g, d, q, rfl, hg, hc, _, hq, hdq⟩ := (H.out.keeps HK.out).at hkn
      have ha := Lib.hid (all_calls d q wr hdq)
      have Hq := Lib.hid hq
      have hl := hdq.len
      clear hdq hq
      go_wp2_with fail
      refine ha.out.mono ?_
      rintro e w1 ⟨A1, c1, rfl, hR, _, h3⟩
      have K1 := Lib.hid (HK.out.trans h3 (fun _ _ h => h))
      have HR := Lib.hid hR
      obtain ⟨m, hm⟩ : ∃ m, Hid (q.length = m) := ⟨_, rfl⟩
      rw [hm.out] at hl ⊢
      obtain ⟨A2, b2, off2, cap2, hv, hA2, hc2⟩ := hR
      rw [hm.out] at hv hA2
      simp only [Value.slice.injEq, true_and] at hv
      obtain ⟨rfl, rfl⟩ := hv
      have HA2 := Lib.hid hA2
      have Hc2 := Lib.hid hc2
      clear h3 hA2 hc2 HR
      go_wp2_with fail
      go_loopw [25] (fun i wr => ∃ j : Nat, j ≤ m ∧ i = .int .i64 j ∧ w1 = wr ∧ Hid (∀ (x : Nat) (y : Int), x < j → q[x]? = some y → y ≠ t)) (fun i _ => m - (intOf i).toNat)
      case atStart => exact ⟨0, Nat.zero_le _, rfl, rfl, fun x y hx => by omega⟩
      case round =>
        obtain ⟨j, hj, rfl, rfl, Hne⟩ := hrel
        by_cases hjm : j < m
        · obtain ⟨y, hy⟩ : ∃ y, q[j]? = some y := ⟨_, List.getElem?_eq_getElem (by rw [hm.out]; exact hjm)⟩
          obtain ⟨rfl, hb2⟩ := HA2.out (by omega)
          have hcy := Hc2.out j y hy
          have Hy := Lib.hid hy
          clear hy
          by_cases hyt : y = t
          · subst hyt
            have hfin : Hid (WhereIs qs y (out2 k true)) := .inl ⟨k, q, Hq.out, List.mem_of_getElem? Hy.out, Hall.out, rfl⟩
            go_wp2_with fail
            go_ret2
            exact ⟨hfin.out, K1.out⟩
          · have hyt' : (y == t) = false := beq_eq_false_iff_ne.2 hyt
            have hfin : Hid (∀ (x : Nat) (z : Int), x < j + 1 → q[x]? = some z → z ≠ t) := fun x z hx hz => by
              by_cases e : x = j
              · subst e
                rw [Hy.out] at hz
                cases hz; exact hyt
              · exact Hne.out x z (by omega) hz
            clear hyt
            go_wp2_with fail
            exact ⟨⟨j + 1, by omega, by go_num, trivial, hfin.out⟩, by simp [intOf]; omega⟩
        · obtain rfl : j = m := by omega
          have hfin : Hid (∀ (x : Nat) (p : List Int), x < k + 1 → qs[x]? = some p → t ∉ p) := fun x p hx hp hin => by
            by_cases e : x = k
            · subst e
              rw [Hq.out] at hp
              cases hp
              obtain ⟨z, hz⟩ := List.mem_iff_getElem?.1 hin
              exact Hne.out z t (by rw [← hm.out]; exact (List.getElem?_eq_some_iff.1 hz).1) hz rfl
            · exact Hall.out x p (by omega) hp hin
          go_wp2_with fail
          exact ⟨⟨k + 1, by omega, by go_num, K1.out, hfin.out⟩, by simp [intOf]; omega⟩
    · obtain rfl : k = n := by omega
      have hfin : Hid (∀ (j : Nat) (p : List Int), qs[j]? = some p → t ∉ p) := fun j p hj => Hall.out j p (by rw [← H.out.ql]; exact (List.getElem?_eq_some_iff.1 hj).1) hj
      go_wp2_with fail
      go_ret2
      exact ⟨.inr ⟨hfin.out, rfl⟩, HK.out⟩
end Ry
end Go.Proofs.Ytmpingalekdlnaa
