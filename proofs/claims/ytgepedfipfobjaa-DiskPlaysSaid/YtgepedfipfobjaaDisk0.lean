/- Package disk: what is deleted from the requests. -/
import Derived.Test.YtgepedfipfobjaaProg
import Derived.Test.YtgepedfipfobjaaMemD
import Derived.KernelRfl
import Derived.Handy
import Derived.Outline
import Derived.Deep.RegionLaw
import Derived.Shelf.RegionOpenPlain
namespace Go.Proofs.Ytgepedfipfobjaa
open Go.RowKit

def reqZ : Value := .agg #[.int .i64 0, .int .i64 0, .bool false, .int .u64 0]
theorem reqE : Elem Try.prog 26 29 reqZ 4 32 := Elem.mk' (by kernel_rfl) (by kernel_rfl) rfl (by decide)

theorem delete_calls (g n cap i : Nat) (xs : List Value) (hi : i < n) (hn : n ≤ cap) (hc : cap ≤ maxLen) (w : World) (h : Own w 29 4 (.slice (some ⟨g, 0, none⟩) n cap) n xs) (h1 : ∀ u ∈ xs, u.oneCell' = true) :
    Calls Try.prog 28 #[.slice (some ⟨g, 0, none⟩) n cap, .int .i64 i, .int .i64 ((i : Int) + 1)] w fun e w' => e = .returned (.slice (some ⟨g, 0, none⟩) (n - 1 : Nat) cap) ∧ Own w' 29 4 (.slice (some ⟨g, 0, none⟩) (n - 1) cap) (n - 1) (xs.take (i * 4) ++ xs.drop ((i + 1) * 4)) ∧ Keeps (· = g) w w' := by
  have hc' : cap ≤ 9223372036854775807 := hc
  obtain ⟨cur, hg, hcs⟩ : ∃ cur, w.heap[g]? = some (.cells cur 29 (0, 0)) ∧ cur.size = cap * 4 ∧ cur.toList.take (n * 4) = xs := by
    rcases h.2 with ⟨h0, _⟩ | ⟨g', cap', cur, hv, hb, hg, _, _, hs, ht⟩
    · cases h0
    · cases hv; exact ⟨cur, hg, hs, ht⟩
  obtain ⟨news, hnews⟩ : ∃ news, news = xs.drop ((i + 1) * 4) := ⟨_, rfl⟩
  have hlen : news.length = (n - (i + 1)) * 4 := by rw [hnews, List.length_drop, h.1]; omega
  have cellX : ∀ (k : Nat) (u : Value), xs[k]? = some u → cur[k]? = some u := by
    intro k u hu
    rw [← hcs.2, List.getElem?_take] at hu
    split at hu
    · rwa [Array.getElem?_toList] at hu
    · cases hu
  obtain ⟨A, hA, hsrc⟩ : ∃ A : Addr, (if cap = i + 1 then some (⟨g, 0, none⟩ : Addr) else some ⟨g, (i + 1) * 4, none⟩) = some A ∧ Hid (∀ (t : Nat) (u : Value), news[t]? = some u → w.drew.cell? (A.add t) = some u) := by
    by_cases hh : cap = i + 1
    · refine ⟨⟨g, 0, none⟩, by simp [hh], fun t u hu => ?_⟩
      have h0 : news.length = 0 := by rw [hlen]; omega
      rw [List.length_eq_zero_iff.1 h0] at hu
      simp at hu
    · refine ⟨⟨g, (i + 1) * 4, none⟩, by simp [hh], fun t u hu => ?_⟩
      rw [hnews, List.getElem?_drop] at hu
      rw [Addr.add_lit]
      exact cell_of_block (w := w.drew) hg (cellX _ _ hu)
  have s1 : Hid (news.length = (n - (i + 1)) * 4) := hlen
  have s2 : Hid (∀ u ∈ news, u.oneCell' = true) := fun u hu => h1 u (by rw [hnews] at hu; exact List.mem_of_mem_drop hu)
  have s3 : Hid (∀ t, t < news.length → (w.drew.cell? ⟨g, 0 + i * 4 + t, none⟩).isSome = true ∧ w.drew.frozen? ⟨g, 0 + i * 4 + t, none⟩ = false) := by
    intro t ht
    have hlt : 0 + i * 4 + t < cur.size := by rw [hcs.1]; omega
    exact ⟨by rw [cell_of_block (w := w.drew) hg (Array.getElem?_eq_getElem hlt)]; rfl, frozen_of_block (w := w.drew) hg⟩
  obtain ⟨W1, hW1⟩ : ∃ W1, W1 = w.drew.setCells g (0 + i * 4) news := ⟨_, rfl⟩
  have hO1 : Own W1 29 4 (.slice (some ⟨g, 0, none⟩) (n - 1) cap) (n - 1) (xs.take (i * 4) ++ news) := by
    rw [hW1, Nat.zero_add]
    exact Own.lay (w := w.drew) h news i (n - 1) (by rw [hlen]; omega) (by omega)
  have hK1 : Keeps (· = g) w W1 := by rw [hW1]; exact Keeps.setCells (S := fun x => x = g) (b := g) (.inl rfl) _ _ _ (Keeps.refl _ w).drew
  obtain ⟨cur1, hg1, hcs1⟩ : ∃ cur, W1.heap[g]? = some (.cells cur 29 (0, 0)) ∧ cur.size = cap * 4 := by
    rcases hO1.2 with ⟨h0, _⟩ | ⟨g', cap', cur, hv, hb, hg, _, _, hs, ht⟩
    · cases h0
    · cases hv; exact ⟨cur, hg, hs⟩
  obtain ⟨zs, hzs⟩ : ∃ zs, zs = (Builtin.zeroCells reqZ.cells (n - (i + (n - (i + 1))))).toList := ⟨_, rfl⟩
  have hzl : zs.length = 4 := by rw [hzs, show n - (i + (n - (i + 1))) = 1 by omega]; decide +kernel
  have hz1' : ∀ u ∈ zs, u.oneCell' = true := by rw [hzs, show n - (i + (n - (i + 1))) = 1 by omega]; decide +kernel
  have hcl : ∀ ty, (Builtin.clear_ #[26] ty #[.slice (some ⟨g, (i + (n - (i + 1))) * 4, none⟩) (n - (i + (n - (i + 1)))) (cap - (i + (n - (i + 1))))]).run Try.prog W1 = .ok (.tuple #[]) (W1.setCells g ((i + (n - (i + 1))) * 4) zs) := by
    intro ty
    rw [hzs]
    refine run_clear_row W1 26 29 ty reqZ Try.underlying26 Try.zeroValue29 g _ _ _ (by omega) ?_ ?_ (by rw [← hzs]; exact hz1')
    · intro j hj
      rw [← hzs, hzl] at hj
      have hlt : (i + (n - (i + 1))) * 4 + j < cur1.size := by rw [hcs1]; omega
      rw [cell_of_block hg1 (Array.getElem?_eq_getElem hlt)]; rfl
    · intro j _
      exact frozen_of_block hg1
  have hO2 := Lib.hid (hO1.setCells_tail zs ((i + (n - (i + 1))) * 4) (by omega))
  have hK2 := Lib.hid (Keeps.setCells (S := (· = g)) (.inl rfl) zs ((i + (n - (i + 1))) * 4) W1 hK1)
  have hW : Hid (W1 = w.drew.setCells g (0 + i * 4) news) := hW1
  have hic : i ≤ cap := by omega
  have hx1 : (0 : Int) ≤ (i : Int) + 1 := by omega
  have hx2 : (i : Int) + 1 ≤ (n : Int) := by omega
  have hjc : i + 1 ≤ cap := by omega
  have hmul : (cap - (i + 1)) * 4 = cap * 4 - (i + 1) * 4 := by omega
  have mixed : Try.prog.follows Departure.mixedOrders = true := by kernel_rfl
  have Hn := Lib.hid hnews
  clear hW1 hO1 hK1 hnews hlen hg hcs hg1 hcs1 hzs hzl hz1' h h1 cellX
  go_enter Try.func28, Try.ntmps28
  go_wp2_with fail
  obtain ⟨i0, hi0, hz0, hz1, hz2⟩ := reqE.info
  go_region_law_o (refine step_append_room rfl (.tmp 22) (.tmp 25) 26 rfl 29 i0 4 Try.underlying26 hi0 hz1 g 0 i cap (by simp [Act.eval, Act.put]) A (n - (i + 1)) (cap - (i + 1)) news (by simp [Act.eval, Act.put]) s1.out hsrc.out s2.out (by omega) s3.out ?_; rw [← hW.out])
  go_wp2_with fail
  go_ret
  refine ⟨?_, ?_, hK2.out⟩
  · rw [show i + (n - (i + 1)) = n - 1 by omega]; rfl
  · rw [← Hn.out]; exact hO2.out
end Go.Proofs.Ytgepedfipfobjaa
