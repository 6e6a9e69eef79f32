/- Package gate: what waits; library functions at its rows. -/
import Derived.Test.YtlgolofcpokndaaProg
import Derived.Test.YtlgolofcpokndaaGtE
import Derived.Test.YtlgolofcpokndaaMemD
import Derived.KernelRfl
import Derived.Handy
import Derived.Outline
import Derived.Deep.RegionLaw
import Derived.Shelf.RegionOpenPlain
import Derived.WalkKit
import Derived.Lib.SliceRun
import Derived.Lib.MinMax
namespace Go.Proofs.Ytlgolofcpokndaa
open Go.RowKit

namespace Gt
abbrev Wt := Int × Int
def zI : Value := .int .i64 0
def zW : Value := .agg #[.int .i64 0, .int .i64 0]
theorem eW : Elem Try.prog 64 76 zW 2 16 := Elem.mk' (by kernel_rfl) (by kernel_rfl) rfl (by decide)

def encW (p : Wt) : List Value := [.int .i64 p.1, .int .i64 p.2]
theorem encW_len (p : Wt) : (encW p).length = 2 := rfl
theorem encW_one (l : List Wt) : ∀ u ∈ l.flatMap encW, u.oneCell' = true := by
  intro u hu
  obtain ⟨r, _, hr⟩ := List.mem_flatMap.1 hu
  simp only [encW, List.mem_cons, List.not_mem_nil, or_false] at hr
  rcases hr with rfl | rfl <;> rfl

theorem wt_cells {w : World} {g cap n : Nat} {xs : List Wt} (hn : xs.length = n) (h : Own w 76 2 (.slice (some ⟨g, 0, none⟩) n cap) n (xs.flatMap encW)) {k : Nat} {x : Wt} (hx : xs[k]? = some x) :
    w.cell? ⟨g, k * 2, none⟩ = some (.int .i64 x.1) ∧ w.cell? ⟨g, k * 2 + 1, none⟩ = some (.int .i64 x.2) := by
  have hlt : k < n := by rw [← hn]; exact (List.getElem?_eq_some_iff.1 hx).1
  have key : ∀ (j : Nat) (u : Value), (encW x)[j]? = some u → w.cell? ⟨g, k * 2 + j, none⟩ = some u := by
    intro j u hu
    have hj : j < 2 := (List.getElem?_eq_some_iff.1 hu).1
    rw [World.ownsRow.cellAt h (k * 2 + j) (lt_mul hlt hj)]
    exact flat_get' encW 2 encW_len xs k j x u hx hu
  exact ⟨key 0 _ rfl, key 1 _ rfl⟩

theorem idxW_calls (p : (Int × Int) → Bool) (B : Nat) (v : Value) (xs : List (Int × Int)) (w : World) (h : Own w 76 2 v xs.length (xs.flatMap encW)) (hl : xs.length ≤ 1000000)
    (hp : ∀ (W : World) (x : (Int × Int)), x ∈ xs → Keeps NoBlock w W → Calls Try.prog 51 #[.agg #[.int .i64 x.1, .int .i64 x.2], .pointer (some ⟨B, 0, none⟩)] W fun e w' => e = .returned (.bool (p x)) ∧ Keeps NoBlock W w') :
    Calls Try.prog 54 #[v, .func (.func 51) #[] #[.pointer (some ⟨B, 0, none⟩)]] w (IdxPost p xs w) := by
  obtain ⟨n, hn⟩ : ∃ n, Hid (xs.length = n) := ⟨_, rfl⟩
  obtain ⟨A, cap, rfl, hf⟩ : ∃ A cap, v = .slice A n cap ∧ (0 < n → ∃ g, A = some ⟨g, 0, none⟩) := by
    rcases Own.form h with ⟨rfl, h0⟩ | ⟨g, cap, rfl, _⟩
    · exact ⟨none, 0, by rw [← hn.out, h0], fun h => by have := hn.out; omega⟩
    · exact ⟨_, cap, by rw [hn.out], fun _ => ⟨g, rfl⟩⟩
  have H := Lib.hid h
  have HP := Lib.hid hp
  have HF := Lib.hid hf
  rw [hn.out] at hl
  have H' : Hid (Own w 76 2 (.slice A n cap) n (xs.flatMap encW)) := by have h2 := H.out; rw [hn.out] at h2; exact h2
  clear h hp hf H
  go_enter Try.func54, Try.ntmps54
  go_wp2_with fail
  go_loopw [8] (fun i wr => ∃ k : Nat, k ≤ n ∧ i = .int .i64 k ∧ Keeps NoBlock w wr ∧ Hid (∀ (j : Nat) (y : (Int × Int)), j < k → xs[j]? = some y → p y = false)) (fun i _ => n - (intOf i).toNat)
  case atStart => exact ⟨0, Nat.zero_le _, rfl, Keeps.refl _ _, fun j y hj => by omega⟩
  case round =>
    obtain ⟨k, hk, rfl, hkp, hall⟩ := hrel
    by_cases hlt : k < n
    · obtain ⟨x, hx⟩ : ∃ x, xs[k]? = some x := ⟨_, List.getElem?_eq_getElem (by rw [hn.out]; exact hlt)⟩
      obtain ⟨g, rfl⟩ := HF.out (by omega)
      have hcx := wt_cells hn.out (H'.out.keeps hkp (fun _ _ h => h)) hx
      have Hx := Lib.hid hx
      clear hx
      go_wp2_with fail
      refine (HP.out _ x (List.mem_of_getElem? Hx.out) hkp).mono ?_
      rintro e w1 ⟨rfl, hk1⟩
      have hk01 := Lib.hid (hkp.trans hk1 (fun _ _ h => h))
      clear hk1
      cases hpx : p x with
      | true =>
        have Hpx := Lib.hid hpx
        clear hpx
        go_wp2_with fail
        go_ret
        exact ⟨by rw [idxI_at Hx.out Hpx.out hall.out]; rfl, hk01.out⟩
      | false =>
        have Hpx := Lib.hid hpx
        clear hpx
        go_wp2_with fail
        refine ⟨⟨k + 1, by omega, by go_num, hk01.out, fun j y hj hy => ?_⟩, by simp [intOf]; omega⟩
        by_cases e : j = k
        · subst e
          have hxy := Hx.out
          rw [hy] at hxy
          cases hxy
          exact Hpx.out
        · exact hall.out j y (by omega) hy
    · obtain rfl : k = n := by omega
      go_wp2_with fail
      go_ret
      exact ⟨by rw [idxI_none (fun j y hj hy => hall.out j y (by rw [← hn.out]; exact hj) hy)]; rfl, hkp⟩
theorem cntW_calls (p : (Int × Int) → Bool) (B : Nat) (v : Value) (xs : List (Int × Int)) (w : World) (h : Own w 76 2 v xs.length (xs.flatMap encW)) (hl : xs.length ≤ 1000000)
    (hp : ∀ (W : World) (x : (Int × Int)), x ∈ xs → Keeps NoBlock w W → Calls Try.prog 51 #[.agg #[.int .i64 x.1, .int .i64 x.2], .pointer (some ⟨B, 0, none⟩)] W fun e w' => e = .returned (.bool (p x)) ∧ Keeps NoBlock W w') :
    Calls Try.prog 50 #[v, .func (.func 51) #[] #[.pointer (some ⟨B, 0, none⟩)]] w fun e w' => e = .returned (.bool (xs.any p)) ∧ Keeps NoBlock w w' := by
  have hcon := idxW_calls p B v xs w h hl hp
  have hd := Lib.hid (idxI_any p xs)
  unfold IdxPost at hcon
  generalize idxI p xs = r at hcon hd
  go_enter Try.func50, Try.ntmps50
  go_wp2_with fail
  refine hcon.mono ?_
  rintro e w1 ⟨rfl, hk⟩
  go_wp2_with fail
  go_ret
  exact ⟨by rw [← hd.out]; rfl, hk⟩
theorem delW_calls (g n cap i : Nat) (xs : List Value) (hi : i < n) (hn : n ≤ cap) (hc : cap ≤ maxLen) (w : World) (h : Own w 76 2 (.slice (some ⟨g, 0, none⟩) n cap) n xs) (h1 : ∀ u ∈ xs, u.oneCell' = true) :
    Calls Try.prog 46 #[.slice (some ⟨g, 0, none⟩) n cap, .int .i64 i, .int .i64 ((i : Int) + 1)] w fun e w' => e = .returned (.slice (some ⟨g, 0, none⟩) (n - 1 : Nat) cap) ∧ Own w' 76 2 (.slice (some ⟨g, 0, none⟩) (n - 1) cap) (n - 1) (xs.take (i * 2) ++ xs.drop ((i + 1) * 2)) ∧ Keeps (· = g) w w' := by
  have hc' : cap ≤ 9223372036854775807 := hc
  obtain ⟨cur, hg, hcs⟩ : ∃ cur, w.heap[g]? = some (.cells cur 76 (0, 0)) ∧ cur.size = cap * 2 ∧ cur.toList.take (n * 2) = xs := by
    rcases h.2 with ⟨h0, _⟩ | ⟨g', cap', cur, hv, hb, hg, _, _, hs, ht⟩
    · cases h0
    · cases hv; exact ⟨cur, hg, hs, ht⟩
  obtain ⟨news, hnews⟩ : ∃ news, news = xs.drop ((i + 1) * 2) := ⟨_, rfl⟩
  have hlen : news.length = (n - (i + 1)) * 2 := by rw [hnews, List.length_drop, h.1]; omega
  have cellX : ∀ (k : Nat) (u : Value), xs[k]? = some u → cur[k]? = some u := by
    intro k u hu
    rw [← hcs.2, List.getElem?_take] at hu
    split at hu
    · rwa [Array.getElem?_toList] at hu
    · cases hu
  obtain ⟨A, hA, hsrc⟩ : ∃ A : Addr, (if cap = i + 1 then some (⟨g, 0, none⟩ : Addr) else some ⟨g, (i + 1) * 2, none⟩) = some A ∧ Hid (∀ (t : Nat) (u : Value), news[t]? = some u → w.drew.cell? (A.add t) = some u) := by
    by_cases hh : cap = i + 1
    · refine ⟨⟨g, 0, none⟩, by simp [hh], fun t u hu => ?_⟩
      have h0 : news.length = 0 := by rw [hlen]; omega
      rw [List.length_eq_zero_iff.1 h0] at hu
      simp at hu
    · refine ⟨⟨g, (i + 1) * 2, none⟩, by simp [hh], fun t u hu => ?_⟩
      rw [hnews, List.getElem?_drop] at hu
      rw [Addr.add_lit]
      exact cell_of_block (w := w.drew) hg (cellX _ _ hu)
  have s1 : Hid (news.length = (n - (i + 1)) * 2) := hlen
  have s2 : Hid (∀ u ∈ news, u.oneCell' = true) := fun u hu => h1 u (by rw [hnews] at hu; exact List.mem_of_mem_drop hu)
  have s3 : Hid (∀ t, t < news.length → (w.drew.cell? ⟨g, 0 + i * 2 + t, none⟩).isSome = true ∧ w.drew.frozen? ⟨g, 0 + i * 2 + t, none⟩ = false) := by
    intro t ht
    have hlt : 0 + i * 2 + t < cur.size := by rw [hcs.1]; omega
    exact ⟨by rw [cell_of_block (w := w.drew) hg (Array.getElem?_eq_getElem hlt)]; rfl, frozen_of_block (w := w.drew) hg⟩
  obtain ⟨W1, hW1⟩ : ∃ W1, W1 = w.drew.setCells g (0 + i * 2) news := ⟨_, rfl⟩
  have hO1 : Own W1 76 2 (.slice (some ⟨g, 0, none⟩) (n - 1) cap) (n - 1) (xs.take (i * 2) ++ news) := by
    rw [hW1, Nat.zero_add]
    exact Own.lay (w := w.drew) h news i (n - 1) (by rw [hlen]; omega) (by omega)
  have hK1 : Keeps (· = g) w W1 := by rw [hW1]; exact Keeps.setCells (S := fun x => x = g) (b := g) (.inl rfl) _ _ _ (Keeps.refl _ w).drew
  obtain ⟨cur1, hg1, hcs1⟩ : ∃ cur, W1.heap[g]? = some (.cells cur 76 (0, 0)) ∧ cur.size = cap * 2 := by
    rcases hO1.2 with ⟨h0, _⟩ | ⟨g', cap', cur, hv, hb, hg, _, _, hs, ht⟩
    · cases h0
    · cases hv; exact ⟨cur, hg, hs⟩
  obtain ⟨zs, hzs⟩ : ∃ zs, zs = (Builtin.zeroCells zW.cells (n - (i + (n - (i + 1))))).toList := ⟨_, rfl⟩
  have hzl : zs.length = 2 := by rw [hzs, show n - (i + (n - (i + 1))) = 1 by omega]; decide +kernel
  have hz1' : ∀ u ∈ zs, u.oneCell' = true := by rw [hzs, show n - (i + (n - (i + 1))) = 1 by omega]; decide +kernel
  have hcl : ∀ ty, (Builtin.clear_ #[64] ty #[.slice (some ⟨g, (i + (n - (i + 1))) * 2, none⟩) (n - (i + (n - (i + 1)))) (cap - (i + (n - (i + 1))))]).run Try.prog W1 = .ok (.tuple #[]) (W1.setCells g ((i + (n - (i + 1))) * 2) zs) := by
    intro ty
    rw [hzs]
    refine run_clear_row W1 64 76 ty zW Try.underlying64 Try.zeroValue76 g _ _ _ (by omega) ?_ ?_ (by rw [← hzs]; exact hz1')
    · intro j hj
      rw [← hzs, hzl] at hj
      have hlt : (i + (n - (i + 1))) * 2 + j < cur1.size := by rw [hcs1]; omega
      rw [cell_of_block hg1 (Array.getElem?_eq_getElem hlt)]; rfl
    · intro j _
      exact frozen_of_block hg1
  have hO2 := Lib.hid (hO1.setCells_tail zs ((i + (n - (i + 1))) * 2) (by omega))
  have hK2 := Lib.hid (Keeps.setCells (S := (· = g)) (.inl rfl) zs ((i + (n - (i + 1))) * 2) W1 hK1)
  have hW : Hid (W1 = w.drew.setCells g (0 + i * 2) news) := hW1
  have hic : i ≤ cap := by omega
  have hx1 : (0 : Int) ≤ (i : Int) + 1 := by omega
  have hx2 : (i : Int) + 1 ≤ (n : Int) := by omega
  have hjc : i + 1 ≤ cap := by omega
  have hmul : (cap - (i + 1)) * 2 = cap * 2 - (i + 1) * 2 := by omega
  have mixed : Try.prog.follows Departure.mixedOrders = true := by kernel_rfl
  have Hn := Lib.hid hnews
  clear hW1 hO1 hK1 hnews hlen hg hcs hg1 hcs1 hzs hzl hz1' h h1 cellX
  go_enter Try.func46, Try.ntmps46
  go_wp2_with fail
  obtain ⟨i0, hi0, hz0, hz1, hz2⟩ := eW.info
  go_region_law_o (refine step_append_room rfl (.tmp 22) (.tmp 25) 64 rfl 76 i0 2 Try.underlying64 hi0 hz1 g 0 i cap (by simp [Act.eval, Act.put]) A (n - (i + 1)) (cap - (i + 1)) news (by simp [Act.eval, Act.put]) s1.out hsrc.out s2.out (by omega) s3.out ?_; rw [← hW.out])
  go_wp2_with fail
  go_ret
  refine ⟨?_, ?_, hK2.out⟩
  · rw [show i + (n - (i + 1)) = n - 1 by omega]; rfl
  · rw [← Hn.out]; exact hO2.out

theorem flat_erase {α : Type} (f : α → List Value) (s : Nat) (hf : ∀ x, (f x).length = s) : ∀ (l : List α) (i : Nat), (l.flatMap f).take (i * s) ++ (l.flatMap f).drop ((i + 1) * s) = (l.eraseIdx i).flatMap f
  | [], i => by simp
  | a :: l, 0 => by
    have := hf a
    simp only [Nat.zero_mul, List.take_zero, List.nil_append, Nat.zero_add, Nat.one_mul, List.flatMap_cons, List.eraseIdx_cons_zero]
    rw [← this, List.drop_left]
  | a :: l, i + 1 => by
    have ha := hf a
    have e1 : (i + 1) * s = (f a).length + i * s := by rw [ha, Nat.add_mul]; omega
    have e2 : (i + 1 + 1) * s = (f a).length + (i + 1) * s := by rw [ha, Nat.add_mul (i + 1)]; omega
    rw [List.flatMap_cons, e2, e1, List.take_length_add_append, List.drop_length_add_append, ← e1, List.eraseIdx_cons_succ, List.flatMap_cons, List.append_assoc, flat_erase f s hf l i]

theorem clamp_calls (n m : Int) (w : World) : Calls Try.prog 23 #[.int .i64 n, .int .i64 m] w fun e w' => e = .returned (.int .i64 (min (max n 0) m)) ∧ w = w' := by
  go_enter Try.func23, Try.ntmps23
  go_wp2_with fail
  go_ret
  exact ⟨rfl, rfl⟩

end Gt
end Go.Proofs.Ytlgolofcpokndaa
