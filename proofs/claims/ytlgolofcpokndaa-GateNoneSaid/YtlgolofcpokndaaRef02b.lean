/- The reference's small words on lists, more of them. -/
import Derived.Test.YtlgolofcpokndaaRef02
import Derived.Test.YtlgolofcpokndaaLst
import Derived.Deep.RegionHeld3
import Derived.IntWalk
namespace Go.Proofs.Ytlgolofcpokndaa
open Go.RowKit

theorem elI02 : Elem Try.prog 25 3 (.int .i64 0) 1 8 := Elem.mk' (by kernel_rfl) (by kernel_rfl) rfl (by decide)

theorem in_calls (v : Value) (xs : List Int) (x : Int) (w : World) (h : ReadsI .i64 w v xs) (hl : xs.length < 1000000000000000) :
    Calls Try.prog 47 #[v, .int .i64 x] w fun e w' => e = .returned (.bool (xs.any (fun y => y == x))) ∧ w = w' := by
  obtain ⟨A, b, off, cap, rfl, hA, hc⟩ := h
  obtain ⟨n, hn⟩ : ∃ n, Hid (xs.length = n) := ⟨_, rfl⟩
  have Hc := Lib.hid hc
  have HA := Lib.hid hA
  rw [hn.out] at hl HA ⊢
  clear hc hA
  go_enter Try.func47, Try.ntmps47
  go_wp2_with fail
  go_loop [5] (fun i => ∃ k : Nat, k ≤ n ∧ i = .int .i64 k ∧ Hid (∀ (j : Nat) (y : Int), j < k → xs[j]? = some y → (y == x) = false)) (fun i => n - (intOf i).toNat)
  case atStart => exact ⟨0, Nat.zero_le _, rfl, fun j y hj => by omega⟩
  case round =>
    obtain ⟨k, hk, rfl, hall⟩ := hrel
    by_cases hlt : k < n
    · obtain ⟨y, hy⟩ : ∃ y, xs[k]? = some y := ⟨_, List.getElem?_eq_getElem (by rw [hn.out]; exact hlt)⟩
      obtain ⟨rfl, hb⟩ := HA.out (by omega)
      have hcx := Hc.out k y hy
      have Hy := Lib.hid hy
      clear hy
      by_cases hxy : y = x
      · subst hxy
        have hb : (y == y) = true := by simp
        have hany : Hid ((xs.any fun z => z == y) = true) := by
          show (xs.any fun z => z == y) = true
          rw [List.any_eq_true]; exact ⟨y, List.mem_of_getElem? Hy.out, by simp⟩
        go_wp2_with fail
        go_ret
        exact ⟨by rw [hany.out]; rfl, rfl⟩
      · have hb : (y == x) = false := by simp [hxy]
        have Hb := Lib.hid hb
        clear hxy
        go_wp2_with fail
        refine ⟨⟨k + 1, by omega, by go_num, fun j z hj hz => ?_⟩, by simp [intOf]; omega⟩
        by_cases e : j = k
        · subst e
          have hxy := Hy.out
          rw [hz] at hxy
          cases hxy
          exact Hb.out
        · exact hall.out j z (by omega) hz
    · obtain rfl : k = n := by omega
      have hany : Hid ((xs.any fun z => z == x) = false) := by
        show (xs.any fun z => z == x) = false
        rw [List.any_eq_false]
        intro z hz
        obtain ⟨j, hj, he⟩ := List.getElem_of_mem hz
        rw [hall.out j z (by rw [← hn.out]; exact hj) (by rw [List.getElem?_eq_getElem hj, he])]
        simp
      go_wp2_with fail
      go_ret
      exact ⟨by rw [hany.out]; rfl, rfl⟩

theorem map_erase (f : Int → Value) (xs : List Int) (i : Nat) : (xs.map f).take i ++ (xs.map f).drop (i + 1) = (xs.eraseIdx i).map f := by
  rw [← List.eraseIdx_eq_take_drop_succ]
  apply List.ext_getElem?
  intro j
  rw [List.getElem?_map (l := xs.eraseIdx i), List.getElem?_eraseIdx, List.getElem?_eraseIdx]
  split <;> simp

set_option maxHeartbeats 1000000 in
theorem without_calls (g n cap ix : Nat) (xs : List Int) (w : World) (hn : xs.length = n) (ho : Own w 3 1 (.slice (some ⟨g, 0, none⟩) n cap) n (xs.map (Value.int .i64))) (hil : ix < n) (hl : n ≤ 1000000) :
    Calls Try.prog 48 #[.slice (some ⟨g, 0, none⟩) n cap, .int .i64 ix] w fun e w' => ∃ A c, e = .returned (.slice A (n - 1 : Nat) c) ∧ Own w' 3 1 (.slice A (n - 1) c) (n - 1) ((xs.eraseIdx ix).map (Value.int .i64)) ∧ (∀ k, (Value.slice A (n - 1) c).ownBlock = some k → w.heap.size ≤ k) ∧ Keeps NoBlock w w' := by
  obtain ⟨hmc, hcm⟩ : n ≤ cap ∧ cap ≤ maxLen := by
    rcases Own.form ho with ⟨h, _⟩ | ⟨g', c', h, _, h1, h2⟩
    · cases h
    · cases h; exact ⟨h1, h2⟩
  obtain ⟨fl, hfl0⟩ : ∃ fl, Hid (fl = xs.map (Value.int .i64)) := ⟨_, rfl⟩
  rw [← hfl0.out] at ho
  have hfl : fl.length = n := by rw [hfl0.out, List.length_map, hn]
  have hone : ∀ u ∈ fl, u.oneCell' = true := fun u hu => by rw [hfl0.out] at hu; obtain ⟨x, _, rfl⟩ := List.mem_map.1 hu; rfl
  have o2s : Hid (((w.alloc (.cells #[] 3)).drew).ownsRow 0 3 1 (.slice (some ⟨g, 0, none⟩) n cap) n fl) := World.ownsRow.drew (World.ownsRow.alloc ho _)
  have ne0 : Hid (((w.alloc (.cells #[] 3)).drew).ownsRow 0 3 1 (.slice (some ⟨w.heap.size, 0, none⟩) 0 0) 0 []) :=
    World.ownsRow.drew (World.ownsRow_lit (base := 0) (e := 3) (size := 1) w #[] 0 (Nat.zero_le _) (by simp [maxLen]) (by simp))
  obtain ⟨T, hT⟩ : ∃ T, Hid (T = fl.take ix) := ⟨_, rfl⟩
  obtain ⟨U, hU⟩ : ∃ U, Hid (U = fl.drop (ix + 1)) := ⟨_, rfl⟩
  have tl : Hid (T.length = ix * 1) := by show T.length = _; rw [hT.out, List.length_take, hfl]; omega
  have ul : Hid (U.length = (n - (ix + 1)) * 1) := by show U.length = _; rw [hU.out, List.length_drop, hfl]; omega
  have t1 : Hid (∀ u ∈ T, u.oneCell' = true) := fun u hu => hone u (by rw [hT.out] at hu; exact List.mem_of_mem_take hu)
  have u1 : Hid (∀ u ∈ U, u.oneCell' = true) := fun u hu => hone u (by rw [hU.out] at hu; exact List.mem_of_mem_drop hu)
  have tc : Hid (∀ j u, T[j]? = some u → ((w.alloc (.cells #[] 3)).drew).cell? ((⟨g, 0, none⟩ : Addr).add j) = some u) := by
    intro j u hj
    rw [Addr.add_lit, Nat.zero_add]
    have hjl : j < n * 1 := by have := (List.getElem?_eq_some_iff.1 hj).1; rw [tl.out] at this; omega
    rw [World.ownsRow.cellAt o2s.out j hjl]
    rw [hT.out, List.getElem?_take] at hj
    split at hj
    · exact hj
    · cases hj
  obtain ⟨Ad, hAd, uc⟩ : ∃ Ad : Addr, (if cap = ix + 1 then some (⟨g, 0, none⟩ : Addr) else some ⟨g, ix + 1, none⟩) = some Ad ∧
      Hid (∀ w5, World.grownBy (w.alloc (.cells #[] 3)).drew w5 (Value.slice (some ⟨w.heap.size, 0, none⟩) 0 0).ownBlock → ∀ j u, U[j]? = some u → w5.cell? (Ad.add j) = some u) := by
    have hg4 := ho.lt g rfl
    by_cases hh : cap = ix + 1
    · refine ⟨⟨g, 0, none⟩, by simp [hh], fun w5 hg5 j u hj => ?_⟩
      have h0 : U.length = 0 := by rw [ul.out]; omega
      rw [List.length_eq_zero_iff.1 h0] at hj
      simp at hj
    · refine ⟨⟨g, ix + 1, none⟩, by simp [hh], fun w5 hg5 j u hj => ?_⟩
      have hjl : ix + 1 + j < n * 1 := by have := (List.getElem?_eq_some_iff.1 hj).1; rw [ul.out] at this; omega
      rw [Addr.add_lit]
      refine World.grownBy.cell hg5 ?_ (by simp [Value.ownBlock]; omega)
      rw [World.ownsRow.cellAt o2s.out _ hjl]
      rw [hU.out, List.getElem?_drop] at hj
      exact hj
  have hbi0 : (0 : Int) ≤ (ix : Int) := by omega
  have hbi1 : (ix : Int) < (n : Int) := by omega
  have hbi2 : (ix : Int) ≤ (cap : Int) := by omega
  have hbi3 : (ix : Int) + 1 ≤ (n : Int) := by omega
  have hbi4 : (0 : Int) ≤ (ix : Int) + 1 := by omega
  have hicap : ix ≤ cap := by omega
  have hi1cap : ix + 1 ≤ cap := by omega
  have hwp : IntKind.i64.wrap ((ix : Int) + 1) = (ix : Int) + 1 := IntWalk.i64_in _ (by simp only [maxLen] at hcm; omega)
  have htn : ((ix : Int) + 1).toNat = ix + 1 := by omega
  have hg4 := ho.lt g rfl
  clear hfl ho
  go_enter Try.func48, Try.ntmps48
  go_wp2_with fail
  go_region_held3 (fun w' => True) (trivial)
    (first
    | (refine step_app (P := Try.prog) elI02 ?_ (.tmp 5) (.tmp 8) ?_ (.slice (some ⟨w.heap.size, 0, none⟩) 0 0) 0 [] ?_ ?_ ⟨g, 0, none⟩ ix cap T ?_ ?_ tc.out t1.out ?_ ?_ ?_
       · rfl
       · rfl
       · rfl
       · exact ne0.out
       · rfl
       · exact tl.out
       · simp only [maxLen]; omega
       · omega
       intro v5 w5 ho5 hg5 hf5 hs5
       obtain ⟨A5, cap5, rfl⟩ := Own.isSlice ho5
       clear hs5)
    | (refine step_app (P := Try.prog) elI02 ?_ (.tmp 9) (.tmp 13) ?_ (.slice A5 (0 + ix) cap5) (0 + ix) ([] ++ T) ?_ ?_ Ad (n - (ix + 1)) (cap - (ix + 1)) U ?_ ?_ (uc.out w5 hg5) u1.out ?_ ?_ ?_
       · rfl
       · rfl
       · simp [Act.eval]
       · exact ho5
       · simp [Act.eval]
       · exact ul.out
       · simp only [maxLen]; omega
       · omega
       intro v6 w6 ho6 hg6 hf6 hs6
       obtain ⟨A6, cap6, rfl⟩ := Own.isSlice ho6
       clear hs6)
    | fail)
  have hsz5 := hg5.size
  have hsz6 := hg6.size
  simp only [World.size_alloc, World.size_drew] at hsz5
  have fr5 : ∀ j, (Value.slice A5 (0 + ix) cap5).ownBlock = some j → w.heap.size ≤ j := fun j hj => by
    rcases hf5 j hj with h | h
    · simp only [Value.ownBlock, Option.some.injEq] at h; omega
    · simp only [World.size_alloc, World.size_drew] at h; omega
  have fr6 : ∀ j, (Value.slice A6 (n - 1) cap6).ownBlock = some j → w.heap.size ≤ j := fun j hj => by
    have hj' : (Value.slice A6 (0 + ix + (n - (ix + 1))) cap6).ownBlock = some j := by cases A6 <;> exact hj
    rcases hf6 j hj' with h | h
    · exact fr5 j h
    · omega
  have k45 : Keeps NoBlock w w5 := (((Keeps.refl NoBlock w).alloc _).drew).grown hg5 (fun j hj => .inr (by simp only [Value.ownBlock, Option.some.injEq] at hj; omega))
  have k46 : Keeps NoBlock w w6 := k45.grown hg6 (fun j hj => .inr (fr5 j hj))
  have o6 : Own w6 3 1 (.slice A6 (n - 1) cap6) (n - 1) ((xs.eraseIdx ix).map (Value.int .i64)) := by
    rw [← map_erase, ← hfl0.out, ← hT.out, ← hU.out]
    rw [show 0 + ix + (n - (ix + 1)) = n - 1 by omega, List.nil_append] at ho6
    exact ho6
  rw [show ix + (n - (ix + 1)) = n - 1 by omega]
  have Hall : Hid (∃ A c, Ending.returned (.slice A6 (n - 1) cap6) = .returned (.slice A (n - 1 : Nat) c) ∧ Own w6 3 1 (.slice A (n - 1) c) (n - 1) ((xs.eraseIdx ix).map (Value.int .i64)) ∧ (∀ k, (Value.slice A (n - 1) c).ownBlock = some k → w.heap.size ≤ k) ∧ Keeps NoBlock w w6) := ⟨A6, cap6, rfl, o6, fr6, k46⟩
  clear o6 fr6 k46 k45 fr5 hf5 hf6 ho5 ho6 hg5 hg6
  go_wp2_with fail
  go_ret
  exact Hall.out

end Go.Proofs.Ytlgolofcpokndaa
