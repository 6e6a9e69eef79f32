/- Package deque: library functions at its row. -/
import Derived.Test.YtmpingalekdlnaaProg
import Derived.Test.YtmpingalekdlnaaLst
import Derived.KernelRfl
import Derived.Handy
import Derived.Outline
import Derived.Deep.RegionLaw
import Derived.Shelf.RegionOpenPlain
import Derived.WalkKit
import Derived.Lib.SliceRun
import Derived.Lib.MinMax
import Derived.Shelf.Spec.SlicesInsertGrow
namespace Go.Proofs.Ytmpingalekdlnaa
open Go.RowKit
namespace Dq

def zI : Value := .int .i64 0
theorem eI : Elem Try.prog 30 3 zI 1 8 := Elem.mk' (by kernel_rfl) (by kernel_rfl) rfl (by decide)

theorem ints_one (k : IntKind) (l : List Int) : ∀ u ∈ l.map (Value.int k), u.oneCell' = true := by
  intro u hu
  obtain ⟨x, _, rfl⟩ := List.mem_map.1 hu
  rfl

theorem clipI_calls (A : Option Addr) (n cap : Nat) (hn : n ≤ cap) (hA : A = none → n = 0 ∧ cap = 0) (w : World) :
    Calls Try.prog 33 #[.slice A n cap] w fun e w' => e = .returned (.slice A n n) ∧ w = w' := by
  cases A with
  | none =>
    obtain ⟨rfl, rfl⟩ := hA rfl
    go_enter Try.func33, Try.ntmps33
    go_wp2
    go_ret
    exact ⟨rfl, rfl⟩
  | some a =>
    have hA' := Lib.hid hA
    clear hA
    go_enter Try.func33, Try.ntmps33
    go_wp2
    go_ret
    exact ⟨rfl, rfl⟩
theorem cloneI_calls (v : Value) (n : Nat) (xs : List Value) (w : World) (h : Own w 3 1 v n xs) (h1 : ∀ u ∈ xs, u.oneCell' = true) (hn : n ≤ 1000000) :
    Calls Try.prog 34 #[v] w fun e w' => ∃ v', e = .returned v' ∧ Own w' 3 1 v' n xs ∧ (∀ k, v'.ownBlock = some k → w.heap.size ≤ k) ∧ Keeps NoBlock w w' := by
  have q : ∀ (w : World) (a : Option Addr) (n c n' c' : Nat), (binOp .eql 30 (.slice a n c) (.slice none n' c')).run Try.prog w = .ok (.bool a.isNone) w := fun w a n c n' c' => Lib.run_eql_slice_nil w _ _ a n c n' c' Try.underlying30
  rcases Own.form h with ⟨rfl, rfl⟩ | ⟨g, cap, rfl, hg, hnc, hc⟩
  · have hx : xs = [] := List.eq_nil_of_length_eq_zero (by simpa using h.1)
    subst hx
    clear h h1
    go_enter Try.func34, Try.ntmps34
    go_wp2
    go_ret
    exact ⟨_, rfl, World.ownsRow_nil _ _ _ _, fun k hk => by simp [Value.ownBlock] at hk, Keeps.refl _ _⟩
  · have H := Lib.hid h
    have H1 := Lib.hid h1
    clear h h1
    go_enter Try.func34, Try.ntmps34
    go_wp2_with (at_builtin; refine wpList_appN eI _ rfl _ _ rfl (.slice (some ⟨w.heap.size, 0, none⟩) 0 0) 0 [] rfl ?_ ⟨g, 0, none⟩ n cap xs rfl ?_ ?_ H1.out ?_ ?_ ?_)
    · exact World.ownsRow_lit w #[] 0 (Nat.zero_le _) (by simp [maxLen]) (by simp)
    · exact H.out.1
    · intro j u hj
      rw [Addr.add_lit, Nat.zero_add]
      have hjl : j < n * 1 := by rw [← H.out.1]; exact (List.getElem?_eq_some_iff.1 hj).1
      have := World.ownsRow.cellAt (World.ownsRow.alloc H.out (.cells #[] 3)) j hjl
      rw [this]; exact hj
    · simp only [maxLen]; omega
    · omega
    intro v' w' ho hgr hfr hsm
    have HO := Lib.hid ho
    have HF := Lib.hid hfr
    have HG := Lib.hid hgr
    clear ho hfr hsm hgr
    go_wp2
    go_ret
    refine ⟨v', rfl, HO.out, fun k hk => ?_, ?_⟩
    · rcases HF.out k hk with h | h
      · simp only [Value.ownBlock, Option.some.injEq] at h; omega
      · omega
    · exact ((Keeps.refl NoBlock w).alloc _).grown HG.out (fun k hk => .inr (by simp only [Value.ownBlock, Option.some.injEq] at hk; omega))
theorem has_idx (x : Int) (v : Value) (xs : List Int) (w : World) (h : Own w 3 1 v xs.length (xs.map (Value.int .i64))) (hl : xs.length ≤ 1000000) :
    Calls Try.prog 32 #[v, .int .i64 x] w fun e w' => e = .returned (.int .i64 (idxI (fun y => y == x) xs)) ∧ w = w' := by
  obtain ⟨n, hn⟩ : ∃ n, Hid (xs.length = n) := ⟨_, rfl⟩
  obtain ⟨A, cap, rfl, hf⟩ : ∃ A cap, v = .slice A n cap ∧ (0 < n → ∃ g, A = some ⟨g, 0, none⟩) := by
    rcases Own.form h with ⟨rfl, h0⟩ | ⟨g, cap, rfl, _⟩
    · exact ⟨none, 0, by rw [← hn.out, h0], fun h => by have := hn.out; omega⟩
    · exact ⟨_, cap, by rw [hn.out], fun _ => ⟨g, rfl⟩⟩
  have HF := Lib.hid hf
  rw [hn.out] at hl
  have H' : Hid (Own w 3 1 (.slice A n cap) n (xs.map (Value.int .i64))) := by have h2 := h; rw [hn.out] at h2; exact h2
  clear h hf
  go_enter Try.func32, Try.ntmps32
  go_wp2_with fail
  go_loop [8] (fun i => ∃ k : Nat, k ≤ n ∧ i = .int .i64 k ∧ Hid (∀ (j : Nat) (y : Int), j < k → xs[j]? = some y → (y == x) = false)) (fun i => n - (intOf i).toNat)
  case atStart => exact ⟨0, Nat.zero_le _, rfl, fun j y hj => by omega⟩
  case round =>
    obtain ⟨k, hk, rfl, hall⟩ := hrel
    by_cases hlt : k < n
    · obtain ⟨y, hy⟩ : ∃ y, xs[k]? = some y := ⟨_, List.getElem?_eq_getElem (by rw [hn.out]; exact hlt)⟩
      obtain ⟨g, rfl⟩ := HF.out (by omega)
      have hcx : w.cell? ⟨g, k, none⟩ = some (.int .i64 y) := by
        rw [World.ownsRow.cellAt H'.out k (by omega), List.getElem?_map, hy]; rfl
      have Hy := Lib.hid hy
      clear hy
      by_cases hxy : x = y
      · subst hxy
        have hb : (x == x) = true := by simp
        go_wp2_with fail
        go_ret
        exact ⟨by rw [idxI_at Hy.out (by simp) hall.out]; rfl, rfl⟩
      · have hb : (x == y) = false := by simp [hxy]
        have hb' : Hid ((y == x) = false) := by show (y == x) = false; simp; exact fun e => hxy e.symm
        clear hxy
        go_wp2_with fail
        refine ⟨⟨k + 1, by omega, by go_num, fun j z hj hz => ?_⟩, by simp [intOf]; omega⟩
        by_cases e : j = k
        · subst e
          have hxy := Hy.out
          rw [hz] at hxy
          cases hxy
          exact hb'.out
        · exact hall.out j z (by omega) hz
    · obtain rfl : k = n := by omega
      go_wp2_with fail
      go_ret
      exact ⟨by rw [idxI_none (fun j y hj hy => hall.out j y (by rw [← hn.out]; exact hj) hy)]; rfl, rfl⟩

theorem has_calls (x : Int) (v : Value) (xs : List Int) (w : World) (h : Own w 3 1 v xs.length (xs.map (Value.int .i64))) (hl : xs.length ≤ 1000000) :
    Calls Try.prog 35 #[v, .int .i64 x] w fun e w' => e = .returned (.bool (xs.any (fun y => y == x))) ∧ w = w' := by
  have hcon := has_idx x v xs w h hl
  have hd := Lib.hid (idxI_any (fun y => y == x) xs)
  generalize idxI (fun y => y == x) xs = r at hcon hd
  go_enter Try.func35, Try.ntmps35
  go_wp2_with fail
  refine hcon.mono ?_
  rintro e w1 ⟨rfl, rfl⟩
  go_wp2_with fail
  go_ret
  exact ⟨by rw [← hd.out]; rfl, rfl⟩
theorem delI_calls (g n cap i : Nat) (xs : List Value) (hi : i < n) (hn : n ≤ cap) (hc : cap ≤ maxLen) (w : World) (h : Own w 3 1 (.slice (some ⟨g, 0, none⟩) n cap) n xs) (h1 : ∀ u ∈ xs, u.oneCell' = true) :
    Calls Try.prog 38 #[.slice (some ⟨g, 0, none⟩) n cap, .int .i64 i, .int .i64 ((i : Int) + 1)] w fun e w' => e = .returned (.slice (some ⟨g, 0, none⟩) (n - 1 : Nat) cap) ∧ Own w' 3 1 (.slice (some ⟨g, 0, none⟩) (n - 1) cap) (n - 1) (xs.take i ++ xs.drop (i + 1)) ∧ Keeps (· = g) w w' := by
  have hc' : cap ≤ 9223372036854775807 := hc
  obtain ⟨cur, hg, hcs⟩ : ∃ cur, w.heap[g]? = some (.cells cur 3 (0, 0)) ∧ cur.size = cap * 1 ∧ cur.toList.take (n * 1) = xs := by
    rcases h.2 with ⟨h0, _⟩ | ⟨g', cap', cur, hv, hb, hg, _, _, hs, ht⟩
    · cases h0
    · cases hv; exact ⟨cur, hg, hs, ht⟩
  obtain ⟨news, hnews⟩ : ∃ news, news = xs.drop (i + 1) := ⟨_, rfl⟩
  have hlen : news.length = n - (i + 1) := by rw [hnews, List.length_drop, h.1]; omega
  have cellX : ∀ (k : Nat) (u : Value), xs[k]? = some u → cur[k]? = some u := by
    intro k u hu
    rw [← hcs.2, List.getElem?_take] at hu
    split at hu
    · rwa [Array.getElem?_toList] at hu
    · cases hu
  obtain ⟨A, hA, hsrc⟩ : ∃ A : Addr, (if cap = i + 1 then some (⟨g, 0, none⟩ : Addr) else some ⟨g, i + 1, none⟩) = some A ∧ Hid (∀ (t : Nat) (u : Value), news[t]? = some u → w.drew.cell? (A.add t) = some u) := by
    by_cases hh : cap = i + 1
    · refine ⟨⟨g, 0, none⟩, by simp [hh], fun t u hu => ?_⟩
      have h0 : news.length = 0 := by rw [hlen]; omega
      rw [List.length_eq_zero_iff.1 h0] at hu
      simp at hu
    · refine ⟨⟨g, i + 1, none⟩, by simp [hh], fun t u hu => ?_⟩
      rw [hnews, List.getElem?_drop] at hu
      rw [Addr.add_lit]
      exact cell_of_block (w := w.drew) hg (cellX _ _ hu)
  have s1 : Hid (news.length = (n - (i + 1)) * 1) := by show news.length = _; rw [hlen, Nat.mul_one]
  have s2 : Hid (∀ u ∈ news, u.oneCell' = true) := fun u hu => h1 u (by rw [hnews] at hu; exact List.mem_of_mem_drop hu)
  have s3 : Hid (∀ t, t < news.length → (w.drew.cell? ⟨g, 0 + i * 1 + t, none⟩).isSome = true ∧ w.drew.frozen? ⟨g, 0 + i * 1 + t, none⟩ = false) := by
    intro t ht
    have hlt : 0 + i * 1 + t < cur.size := by rw [hcs.1]; omega
    exact ⟨by rw [cell_of_block (w := w.drew) hg (Array.getElem?_eq_getElem hlt)]; rfl, frozen_of_block (w := w.drew) hg⟩
  obtain ⟨W1, hW1⟩ : ∃ W1, W1 = w.drew.setCells g (0 + i * 1) news := ⟨_, rfl⟩
  have hO1 : Own W1 3 1 (.slice (some ⟨g, 0, none⟩) (n - 1) cap) (n - 1) (xs.take i ++ news) := by
    rw [hW1, Nat.zero_add]
    have := Own.lay (w := w.drew) h news i (n - 1) (by rw [hlen]; omega) (by omega)
    rw [Nat.mul_one] at this ⊢
    exact this
  have hK1 : Keeps (· = g) w W1 := by rw [hW1]; exact Keeps.setCells (S := fun x => x = g) (b := g) (.inl rfl) _ _ _ (Keeps.refl _ w).drew
  obtain ⟨cur1, hg1, hcs1⟩ : ∃ cur, W1.heap[g]? = some (.cells cur 3 (0, 0)) ∧ cur.size = cap * 1 := by
    rcases hO1.2 with ⟨h0, _⟩ | ⟨g', cap', cur, hv, hb, hg, _, _, hs, ht⟩
    · cases h0
    · cases hv; exact ⟨cur, hg, hs⟩
  obtain ⟨zs, hzs⟩ : ∃ zs, zs = (Builtin.zeroCells zI.cells (n - (i + (n - (i + 1))))).toList := ⟨_, rfl⟩
  have hzl : zs.length = 1 := by rw [hzs, show n - (i + (n - (i + 1))) = 1 by omega]; decide +kernel
  have hz1' : ∀ u ∈ zs, u.oneCell' = true := by rw [hzs, show n - (i + (n - (i + 1))) = 1 by omega]; decide +kernel
  have hcl : ∀ ty, (Builtin.clear_ #[30] ty #[.slice (some ⟨g, i + (n - (i + 1)), none⟩) (n - (i + (n - (i + 1)))) (cap - (i + (n - (i + 1))))]).run Try.prog W1 = .ok (.tuple #[]) (W1.setCells g (i + (n - (i + 1))) zs) := by
    intro ty
    rw [hzs]
    refine run_clear_row W1 30 3 ty zI Try.underlying30 Try.zeroValue3 g _ _ _ (by omega) ?_ ?_ (by rw [← hzs]; exact hz1')
    · intro j hj
      rw [← hzs, hzl] at hj
      have hlt : i + (n - (i + 1)) + j < cur1.size := by rw [hcs1]; omega
      rw [cell_of_block hg1 (Array.getElem?_eq_getElem hlt)]; rfl
    · intro j _
      exact frozen_of_block hg1
  have hO2 := Lib.hid (hO1.setCells_tail zs (i + (n - (i + 1))) (by omega))
  have hK2 := Lib.hid (Keeps.setCells (S := (· = g)) (.inl rfl) zs (i + (n - (i + 1))) W1 hK1)
  have hW : Hid (W1 = w.drew.setCells g (0 + i * 1) news) := hW1
  have hic : i ≤ cap := by omega
  have hx1 : (0 : Int) ≤ (i : Int) + 1 := by omega
  have hx2 : (i : Int) + 1 ≤ (n : Int) := by omega
  have hjc : i + 1 ≤ cap := by omega
  have mixed : Try.prog.follows Departure.mixedOrders = true := by kernel_rfl
  have Hn := Lib.hid hnews
  clear hW1 hO1 hK1 hnews hlen hg hcs hg1 hcs1 hzs hzl hz1' h h1 cellX
  go_enter Try.func38, Try.ntmps38
  go_wp2_with fail
  obtain ⟨i0, hi0, hz0, hz1, hz2⟩ := eI.info
  go_region_law_o (refine step_append_room rfl (.tmp 22) (.tmp 25) 30 rfl 3 i0 1 Try.underlying30 hi0 hz1 g 0 i cap (by simp [Act.eval, Act.put]) A (n - (i + 1)) (cap - (i + 1)) news (by simp [Act.eval, Act.put]) s1.out hsrc.out s2.out (by omega) s3.out ?_; rw [← hW.out])
  go_wp2_with fail
  go_ret
  refine ⟨?_, ?_, hK2.out⟩
  · rw [show i + (n - (i + 1)) = n - 1 by omega]; rfl
  · rw [← Hn.out]; exact hO2.out

def insRen : Go.Shelf.Ren := ⟨fun | 21 => 30 | 27 => 36 | 28 => 37 | 35 => 39 | 39 => 40 | n => n, fun | 22 => 30 | 3 => 3 | 4 => 4 | 0 => 0 | n => n, fun n => n⟩
theorem insL : Go.Proofs.Lays2.n21 Try.prog insRen := {
  mixed := by kernel_rfl, f21 := by kernel_rfl, f27 := by kernel_rfl, f28 := by kernel_rfl, f35 := by kernel_rfl, f39 := by kernel_rfl,
  t0 := Try.underlying0, a0 := Try.isAgg0, z0 := Try.sizeOf0, v0 := Try.zeroValue0,
  t3 := Try.underlying3, a3 := Try.isAgg3, z3 := Try.sizeOf3, v3 := Try.zeroValue3,
  t4 := Try.underlying4, a4 := Try.isAgg4, z4 := Try.sizeOf4, v4 := Try.zeroValue4,
  t22 := Try.underlying30, a22 := Try.isAgg30, z22 := Try.sizeOf30, v22 := Try.zeroValue30, i3 := by kernel_rfl }
end Dq
end Go.Proofs.Ytmpingalekdlnaa
