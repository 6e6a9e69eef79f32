/- The reference's small words on lists, more of them. -/
import Derived.Test.YtlnoejmckpimnaaRef02
import Derived.Test.YtlnoejmckpimnaaLst
import Derived.Deep.RegionHeld3
import Derived.IntWalk
namespace Go.Proofs.Ytlnoejmckpimnaa
open Go.RowKit

theorem elI02 : Elem Try.prog 23 3 (.int .i64 0) 1 8 := Elem.mk' (by kernel_rfl) (by kernel_rfl) rfl (by decide)

theorem in_calls (v : Value) (xs : List Int) (x : Int) (w : World) (h : ReadsI .i64 w v xs) (hl : xs.length < 1000000000000000) :
    Calls Try.prog 25 #[v, .int .i64 x] w fun e w' => e = .returned (.bool (xs.any (fun y => y == x))) ∧ w = w' := by
  obtain ⟨A, b, off, cap, rfl, hA, hc⟩ := h
  obtain ⟨n, hn⟩ : ∃ n, Hid (xs.length = n) := ⟨_, rfl⟩
  have Hc := Lib.hid hc
  have HA := Lib.hid hA
  rw [hn.out] at hl HA ⊢
  clear hc hA
  go_enter Try.func25, Try.ntmps25
  go_wp2_with fail
  go_loop [5] (fun i => ∃ k : Nat, k ≤ n ∧ i = .int .i64 k ∧ Hid (∀ (j : Nat) (y : Int), j < k → xs[j]? = some y → (y == x) = false)) (fun i => n - (intOf i).toNat)
  case atStart => exact ⟨0, Nat.zero_le _, rfl, fun j y hj => by omega⟩
  case round =>
    obtain ⟨k, hk, rfl, hall⟩ := hrel
    by_cases hlt : k < n
    · obtain ⟨y, hy⟩ : ∃ y, xs[k]? = some y := ⟨_, List.getElem?_eq_getElem (by rw [hn.out]; exact hlt)⟩
      obtain ⟨rfl, hb⟩ := HA.out (by omega)
      have hcx := Hc.out k y hy
      have Hy := Lib.hid hy
      clear hy
      by_cases hxy : y = x
      · subst hxy
        have hb : (y == y) = true := by simp
        have hany : Hid ((xs.any fun z => z == y) = true) := by
          show (xs.any fun z => z == y) = true
          rw [List.any_eq_true]; exact ⟨y, List.mem_of_getElem? Hy.out, by simp⟩
        go_wp2_with fail
        go_ret
        exact ⟨by rw [hany.out]; rfl, rfl⟩
      · have hb : (y == x) = false := by simp [hxy]
        have Hb := Lib.hid hb
        clear hxy
        go_wp2_with fail
        refine ⟨⟨k + 1, by omega, by go_num, fun j z hj hz => ?_⟩, by simp [intOf]; omega⟩
        by_cases e : j = k
        · subst e
          have hxy := Hy.out
          rw [hz] at hxy
          cases hxy
          exact Hb.out
        · exact hall.out j z (by omega) hz
    · obtain rfl : k = n := by omega
      have hany : Hid ((xs.any fun z => z == x) = false) := by
        show (xs.any fun z => z == x) = false
        rw [List.any_eq_false]
        intro z hz
        obtain ⟨j, hj, he⟩ := List.getElem_of_mem hz
        rw [hall.out j z (by rw [← hn.out]; exact hj) (by rw [List.getElem?_eq_getElem hj, he])]
        simp
      go_wp2_with fail
      go_ret
      exact ⟨by rw [hany.out]; rfl, rfl⟩

theorem map_erase (f : Int → Value) (xs : List Int) (i : Nat) : (xs.map f).take i ++ (xs.map f).drop (i + 1) = (xs.eraseIdx i).map f := by
  rw [← List.eraseIdx_eq_take_drop_succ]
  apply List.ext_getElem?
  intro j
  rw [List.getElem?_map (l := xs.eraseIdx i), List.getElem?_eraseIdx, List.getElem?_eraseIdx]
  split <;> simp


end Go.Proofs.Ytlnoejmckpimnaa
