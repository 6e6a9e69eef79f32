/- The reference's small words on lists of numbers. -/
import Derived.Test.YtlgolofcpokndaaProg
import Derived.Test.YtlgolofcpokndaaMem
import Derived.KernelRfl
import Derived.Handy
import Derived.Outline
import Derived.Deep.QuietTactic
import Derived.BigQuiet
namespace Go.Proofs.Ytlgolofcpokndaa
open Go.RowKit

def SameInts (xs ys : List Int) (w : World) (e : Ending) (w' : World) : Prop := e = .returned (.bool (decide (xs = ys))) ∧ Keeps NoBlock w w'

theorem SameInts.yes {xs ys : List Int} {w w' : World} (h : xs = ys) (k : Keeps NoBlock w w') : SameInts xs ys w (.returned (.bool true)) w' := ⟨by simp [h], k⟩
theorem SameInts.no {xs ys : List Int} {w w' : World} (h : xs ≠ ys) (k : Keeps NoBlock w w') : SameInts xs ys w (.returned (.bool false)) w' := ⟨by simp [h], k⟩

theorem list_ext_below {xs ys : List Int} (hlen : xs.length = ys.length) (h : ∀ j, j < xs.length → xs[j]? = ys[j]?) : xs = ys := List.ext_getElem? (fun j => by
  by_cases hj : j < xs.length
  · exact h j hj
  · rw [List.getElem?_eq_none (by omega), List.getElem?_eq_none (by omega)])

set_option maxRecDepth 100000 in
/-- Ints: are two lists alike? -/
theorem ints_calls (va vb : Value) (xs ys : List Int) (w : World) (ha : ReadsI .i64 w va xs) (hb : ReadsI .i64 w vb ys) (hl : xs.length < 1000000000000000) (hl' : ys.length < 1000000000000000) :
    Calls Try.prog 22 #[va, vb] w (SameInts xs ys w) := by
  obtain ⟨A, b, off, cap, rfl, hA, hc⟩ := ha
  obtain ⟨A', b', off', cap', rfl, hA', hc'⟩ := hb
  have Hc := Lib.hid hc
  have Hc' := Lib.hid hc'
  have HA := Lib.hid hA
  have HA' := Lib.hid hA'
  clear hc hc' hA hA'
  by_cases hlen : xs.length = ys.length
  · obtain ⟨n, hn⟩ : ∃ n, Hid (ys.length = n) := ⟨_, rfl⟩
    have hnx : Hid (xs.length = n) := hlen.trans hn.out
    have Hext := Lib.hid (list_ext_below hlen)
    clear hlen
    rw [hn.out, hnx.out]
    rw [hn.out] at hl' HA'
    rw [hnx.out] at hl HA
    go_enter Try.func22, Try.ntmps22
    go_wp2_with fail
    go_loopw [5] (fun i wr => ∃ k : Nat, k ≤ n ∧ i = .int .i64 k ∧ Keeps NoBlock w wr ∧ Hid (∀ j, j < k → xs[j]? = ys[j]?)) (fun i _ => n - (intOf i).toNat)
    case atStart => exact ⟨0, Nat.zero_le _, rfl, Keeps.refl _ _, fun j hj => by omega⟩
    case round =>
      obtain ⟨k, hk, rfl, hkp, hall⟩ := hrel
      by_cases hlt : k < n
      · obtain ⟨x, hx⟩ : ∃ x, xs[k]? = some x := ⟨_, List.getElem?_eq_getElem (by rw [hnx.out]; exact hlt)⟩
        obtain ⟨y, hy⟩ : ∃ y, ys[k]? = some y := ⟨_, List.getElem?_eq_getElem (by rw [hn.out]; exact hlt)⟩
        obtain ⟨rfl, hb1⟩ := HA.out (by omega)
        obtain ⟨rfl, hb2⟩ := HA'.out (by omega)
        have hcx : wr.cell? ⟨b, off + k, none⟩ = some (.int .i64 x) := by rw [hkp.cell hb1 (fun h => h)]; exact Hc.out k x hx
        have hcy : wr.cell? ⟨b', off' + k, none⟩ = some (.int .i64 y) := by rw [hkp.cell hb2 (fun h => h)]; exact Hc'.out k y hy
        have Hx := Lib.hid hx
        have Hy := Lib.hid hy
        clear hx hy
        by_cases hxy : x = y
        · subst hxy
          go_wp2_with fail
          go_quiet (fail)
          go_wp2_with fail
          refine ⟨⟨k + 1, by omega, by go_num, hkp.drewN _, fun j hj => ?_⟩, by simp [intOf]; omega⟩
          by_cases e : j = k
          · subst e; rw [Hx.out, Hy.out]
          · exact hall.out j (by omega)
        · have hne : (x != y) = true := by simp [hxy]
          have Hne : Hid (xs ≠ ys) := fun e => by
            have h1 := Hx.out
            rw [e, Hy.out] at h1
            simp at h1
            exact hxy h1.symm
          clear hxy
          go_wp2_with fail
          go_quiet (fail)
          go_wp2_with fail
          go_ret
          exact SameInts.no Hne.out (hkp.drewN _)
      · obtain rfl : k = n := by omega
        have Heq : Hid (xs = ys) := Hext.out (fun j hj => hall.out j (by rw [hnx.out] at hj; exact hj))
        go_wp2_with fail
        go_ret
        exact SameInts.yes Heq.out hkp
  · have hne : ((xs.length : Int) != ys.length) = true := by simp; omega
    have Hne : Hid (xs ≠ ys) := fun e => hlen (by rw [e])
    clear hlen
    go_enter Try.func22, Try.ntmps22
    go_wp2_with fail
    go_ret
    exact SameInts.no Hne.out (Keeps.refl _ _)
end Go.Proofs.Ytlgolofcpokndaa
