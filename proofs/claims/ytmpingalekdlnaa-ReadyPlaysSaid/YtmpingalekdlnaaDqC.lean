/- Package deque: numbers go out. -/
import Derived.Test.YtmpingalekdlnaaDqB
namespace Go.Proofs.Ytmpingalekdlnaa
open Go.RowKit
namespace Dq

abbrev out2 (n : Int) (b : Bool) : Ending := .returned (.tuple #[.int .i64 n, .bool b])

theorem out_nil (at_ : Int) (w : World) : Calls Try.prog 31 #[.pointer none, .int .i64 at_] w fun e w' => e = out2 0 false ∧ w = w' := by
  go_enter Try.func31, Try.ntmps31
  go_wp2
  go_ret2
  exact ⟨rfl, rfl⟩

theorem out_empty {col : Nat → Nat} {i : Nat} (d : Nat) (at_ : Int) (w : World) (h : DequeAt col i w d []) : Calls Try.prog 31 #[.pointer (some ⟨d, 0, none⟩), .int .i64 at_] w fun e w' => e = out2 0 false ∧ w = w' := by
  obtain ⟨A, c, h⟩ := h
  have hc := cell_of_block h.head (o := 0) rfl
  clear h
  go_enter Try.func31, Try.ntmps31
  go_wp2
  go_ret2
  exact ⟨rfl, rfl⟩

theorem map_erase (f : Int → Value) (xs : List Int) (i : Nat) : (xs.map f).take i ++ (xs.map f).drop (i + 1) = (xs.eraseIdx i).map f := by
  rw [← List.eraseIdx_eq_take_drop_succ]
  apply List.ext_getElem?
  intro j
  rw [List.getElem?_map (l := xs.eraseIdx i), List.getElem?_eraseIdx, List.getElem?_eraseIdx]
  split <;> simp

set_option maxHeartbeats 1000000 in
theorem out_calls {col : Nat → Nat} {i : Nat} (d : Nat) (l : List Int) (at_ : Int) (ix : Nat) (x : Int) (w : World) (h : DequeAt col i w d l) (hx : l[ix]? = some x) (hat : at_ = ix ∨ (at_ < 0 ∧ at_ + l.length = ix)) :
    Calls Try.prog 31 #[.pointer (some ⟨d, 0, none⟩), .int .i64 at_] w (Step col i w d (l.eraseIdx ix) (out2 x true)) := by
  obtain ⟨A, c, h⟩ := h
  have hil : ix < l.length := (List.getElem?_eq_some_iff.1 hx).1
  obtain ⟨g, rfl, hg, hnc, hcm⟩ : ∃ g, A = some ⟨g, 0, none⟩ ∧ g < w.heap.size ∧ l.length ≤ c ∧ c ≤ maxLen := by
    rcases h.own.form with ⟨_, h0⟩ | ⟨g, c', h1, h2, h3, h4⟩
    · omega
    · cases h1; exact ⟨g, rfl, h2, h3, h4⟩
  obtain ⟨n, hn⟩ : ∃ n, Hid (l.length = n) := ⟨_, rfl⟩
  have hlen := h.len
  have hc := cell_of_block h.head (o := 0) rfl
  have hc0 : w.cell? ⟨d, 0, none⟩ = some (.slice (some ⟨g, 0, none⟩) n c) := by rw [hc, ← hn.out]; rfl
  have hfz := frozen_of_block (o := 0) h.head
  have hdg : g ≠ d := (h.cr g rfl).2
  have hcx : w.cell? ⟨g, ix, none⟩ = some (.int .i64 x) := by rw [World.ownsRow.cellAt h.own ix (by omega), List.getElem?_map, hx]; rfl
  rw [hn.out] at hil hnc hlen hat
  have ho := h.own
  rw [hn.out] at ho
  have hdel := Lib.hid (delI_calls g n c ix _ hil hnc hcm w ho (ints_one .i64 l))
  have hn0 : ((n : Int) == 0) = false := beq_eq_false_iff_ne.2 (by omega)
  have H := Lib.hid h
  have fin : ∀ w1, Own w1 3 1 (.slice (some ⟨g, 0, none⟩) (n - 1) c) (n - 1) ((l.map (Value.int .i64)).take ix ++ (l.map (Value.int .i64)).drop (ix + 1)) → Keeps (· = g) w w1 → w1.cell? ⟨d, 0, none⟩ = some (.slice (some ⟨g, 0, none⟩) n c) ∧ w1.frozen? ⟨d, 0, none⟩ = false ∧
      Step col i w d (l.eraseIdx ix) (out2 x true) (out2 x true) (w1.setCell ⟨d, 0, none⟩ (.slice (some ⟨g, 0, none⟩) (n - 1) c)) := by
    intro w1 ho1 hk1
    have hb1 : w1.heap[d]? = some (.cells #[.slice (some ⟨g, 0, none⟩) l.length c] 59 (0, 0)) := by rw [hk1.block d (lt_of_block H.out.head) (fun e => hdg e.symm)]; exact H.out.head
    have hel : (l.eraseIdx ix).length = n - 1 := by rw [List.length_eraseIdx, if_pos (by rw [hn.out]; exact hil), hn.out]
    have hst := H.out.set (xs := l.eraseIdx ix) (A' := some ⟨g, 0, none⟩) (c' := c) (w4 := w1.setCell ⟨d, 0, none⟩ (.slice (some ⟨g, 0, none⟩) (n - 1) c)) (by rw [hel]; exact block_set hb1 _)
      (by rw [hel, ← map_erase]; exact ho1.keeps ((Keeps.refl (fun k => k = d) w1).set (.inl rfl) _) (fun b hb hbt => by simp only [Value.ownBlock, Option.some.injEq] at hb; subst hb; exact hdg hbt))
      ((hk1.mono (fun k _ hk => .inr (by rw [hk]; rfl))).set (.inl (.inl rfl)) _) (fun k hk => .inl hk) (by rw [hel]; omega)
    refine ⟨?_, frozen_of_block hb1, ?_⟩
    · rw [cell_of_block hb1 (o := 0) rfl, hn.out]; rfl
    · obtain ⟨col', h1, h2⟩ := hst
      exact ⟨col', rfl, h1, h2⟩
  have Fin := Lib.hid fin
  clear h hc ho fin hx
  by_cases hneg : at_ < 0
  · have hsum : Hid (at_ + n = ix) := by show at_ + (n : Int) = ix; omega
    have hb2 : -1000 ≤ at_ := by omega
    have hs := hsum.out
    clear hat
    go_enter Try.func31, Try.ntmps31
    go_wp2_with fail
    refine hdel.out.mono ?_
    rintro e w1 ⟨rfl, ho1, hk1⟩
    obtain ⟨z1, z2, hst⟩ := Fin.out w1 ho1 hk1
    have Hst := Lib.hid hst
    clear hst ho1 hk1
    go_wp2_with fail
    go_ret2
    exact Hst.out
  · obtain rfl : at_ = ix := by omega
    clear hat hneg
    go_enter Try.func31, Try.ntmps31
    go_wp2_with fail
    refine hdel.out.mono ?_
    rintro e w1 ⟨rfl, ho1, hk1⟩
    obtain ⟨z1, z2, hst⟩ := Fin.out w1 ho1 hk1
    have Hst := Lib.hid hst
    clear hst ho1 hk1
    go_wp2_with fail
    go_ret2
    exact Hst.out

theorem pop_nil (w : World) : Calls Try.prog 23 #[.pointer none] w fun e w' => e = out2 0 false ∧ w = w' := by
  go_enter Try.func23, Try.ntmps23
  go_wp2_with fail
  refine (out_nil _ _).mono ?_
  rintro e w' ⟨rfl, rfl⟩
  go_wp2_with fail
  go_ret2
  exact ⟨rfl, rfl⟩

theorem pop_empty {col : Nat → Nat} {i : Nat} (d : Nat) (w : World) (h : DequeAt col i w d []) : Calls Try.prog 23 #[.pointer (some ⟨d, 0, none⟩)] w fun e w' => e = out2 0 false ∧ w = w' := by
  have ho := Lib.hid (out_empty d (0) w h)
  clear h
  go_enter Try.func23, Try.ntmps23
  go_wp2_with fail
  refine ho.out.mono ?_
  rintro e w' ⟨rfl, rfl⟩
  go_wp2_with fail
  go_ret2
  exact ⟨rfl, rfl⟩

theorem pop_calls {col : Nat → Nat} {i : Nat} (d : Nat) (l : List Int) (x : Int) (w : World) (h : DequeAt col i w d l) (hx : l[0]? = some x) : Calls Try.prog 23 #[.pointer (some ⟨d, 0, none⟩)] w (Step col i w d (l.eraseIdx (0)) (out2 x true)) := by
  have hil : 0 < l.length := (List.getElem?_eq_some_iff.1 hx).1
  have ho := Lib.hid (out_calls d l (0) (0) x w h hx (by omega))
  clear h hx hil
  go_enter Try.func23, Try.ntmps23
  go_wp2_with fail
  refine ho.out.mono ?_
  rintro e w' ⟨col', rfl, h1, h2⟩
  have H1 := Lib.hid h1
  have H2 := Lib.hid h2
  clear h1 h2
  go_wp2_with fail
  go_ret2
  exact ⟨col', rfl, H1.out, H2.out⟩
theorem popB_nil (w : World) : Calls Try.prog 24 #[.pointer none] w fun e w' => e = out2 0 false ∧ w = w' := by
  go_enter Try.func24, Try.ntmps24
  go_wp2_with fail
  refine (out_nil _ _).mono ?_
  rintro e w' ⟨rfl, rfl⟩
  go_wp2_with fail
  go_ret2
  exact ⟨rfl, rfl⟩

theorem popB_empty {col : Nat → Nat} {i : Nat} (d : Nat) (w : World) (h : DequeAt col i w d []) : Calls Try.prog 24 #[.pointer (some ⟨d, 0, none⟩)] w fun e w' => e = out2 0 false ∧ w = w' := by
  have ho := Lib.hid (out_empty d (-1) w h)
  clear h
  go_enter Try.func24, Try.ntmps24
  go_wp2_with fail
  refine ho.out.mono ?_
  rintro e w' ⟨rfl, rfl⟩
  go_wp2_with fail
  go_ret2
  exact ⟨rfl, rfl⟩

theorem popB_calls {col : Nat → Nat} {i : Nat} (d : Nat) (l : List Int) (x : Int) (w : World) (h : DequeAt col i w d l) (hx : l[l.length - 1]? = some x) : Calls Try.prog 24 #[.pointer (some ⟨d, 0, none⟩)] w (Step col i w d (l.eraseIdx (l.length - 1)) (out2 x true)) := by
  have hil : l.length - 1 < l.length := (List.getElem?_eq_some_iff.1 hx).1
  have ho := Lib.hid (out_calls d l (-1) (l.length - 1) x w h hx (by omega))
  clear h hx hil
  go_enter Try.func24, Try.ntmps24
  go_wp2_with fail
  refine ho.out.mono ?_
  rintro e w' ⟨col', rfl, h1, h2⟩
  have H1 := Lib.hid h1
  have H2 := Lib.hid h2
  clear h1 h2
  go_wp2_with fail
  go_ret2
  exact ⟨col', rfl, H1.out, H2.out⟩

theorem drop_nil (n : Int) (w : World) : Calls Try.prog 25 #[.pointer none, .int .i64 n] w fun e w' => e = .returned (.bool false) ∧ w = w' := by
  go_enter Try.func25, Try.ntmps25
  go_wp2
  go_ret
  exact ⟨rfl, rfl⟩

theorem drop_none {col : Nat → Nat} {i : Nat} (d : Nat) (l : List Int) (n : Int) (w : World) (h : DequeAt col i w d l) (hn : (l.any fun y => y == n) = false) :
    Calls Try.prog 25 #[.pointer (some ⟨d, 0, none⟩), .int .i64 n] w fun e w' => e = .returned (.bool false) ∧ w = w' := by
  obtain ⟨A, c, h⟩ := h
  have hc := cell_of_block h.head (o := 0) rfl
  have hidx : idxI (fun y => y == n) l = -1 := idxI_none (fun j y _ hj => by
    rw [List.any_eq_false] at hn
    have := hn y (List.mem_of_getElem? hj)
    simpa using this)
  have hh := has_idx n _ l w h.own (by have := h.len; omega)
  rw [hidx] at hh
  have Hh := Lib.hid hh
  clear h hn hidx hh
  go_enter Try.func25, Try.ntmps25
  go_wp2_with fail
  refine Hh.out.mono ?_
  rintro e w' ⟨rfl, rfl⟩
  go_wp2_with fail
  go_ret
  exact ⟨rfl, rfl⟩

theorem drop_some {col : Nat → Nat} {i : Nat} (d : Nat) (l : List Int) (n : Int) (ix : Nat) (w : World) (h : DequeAt col i w d l) (hx : l[ix]? = some n) (hb : ∀ (j : Nat) (y : Int), j < ix → l[j]? = some y → y ≠ n) :
    Calls Try.prog 25 #[.pointer (some ⟨d, 0, none⟩), .int .i64 n] w (Step col i w d (l.eraseIdx ix) (.returned (.bool true))) := by
  have hout := Lib.hid (out_calls d l ix ix n w h hx (.inl rfl))
  have hlen := h.len
  have hil : ix < l.length := (List.getElem?_eq_some_iff.1 hx).1
  obtain ⟨A, c, h⟩ := h
  have hc := cell_of_block h.head (o := 0) rfl
  have hidx : idxI (fun y => y == n) l = ix := idxI_at hx (by simp) (fun j y hj hy => by simpa using hb j y hj hy)
  have hh := has_idx n _ l w h.own (by omega)
  rw [hidx] at hh
  have Hh := Lib.hid hh
  clear h hx hb hidx hh
  go_enter Try.func25, Try.ntmps25
  go_wp2_with fail
  refine Hh.out.mono ?_
  rintro e w' ⟨rfl, rfl⟩
  go_wp2_with fail
  refine hout.out.mono ?_
  rintro e w' ⟨col', rfl, h1, h2⟩
  have H1 := Lib.hid h1
  have H2 := Lib.hid h2
  clear h1 h2
  go_wp2_with fail
  go_ret
  exact ⟨col', rfl, H1.out, H2.out⟩

def AllPost (w : World) (l : List Int) (e : Ending) (w' : World) : Prop := ∃ A c, e = .returned (.slice A l.length c) ∧ ReadsI .i64 w' (.slice A l.length c) l ∧ (∀ b, (Value.slice A l.length c).ownBlock = some b → w.heap.size ≤ b ∧ b < w'.heap.size) ∧ Keeps NoBlock w w'

theorem all_nil (w : World) : Calls Try.prog 27 #[.pointer none] w fun e w' => e = .returned (.slice none 0 0) ∧ w = w' := by
  go_enter Try.func27, Try.ntmps27
  go_wp2
  go_ret
  exact ⟨rfl, rfl⟩

theorem ReadsI.clip {k : IntKind} {w : World} {A : Option Addr} {n c c' : Nat} {xs : List Int} (h : ReadsI k w (.slice A n c) xs) : ReadsI k w (.slice A n c') xs := by
  obtain ⟨A', b, off, cap1, e, h1, h2⟩ := h
  cases e
  exact ⟨_, b, off, c', rfl, h1, h2⟩

theorem all_calls {col : Nat → Nat} {i : Nat} (d : Nat) (l : List Int) (w : World) (h : DequeAt col i w d l) :
    Calls Try.prog 27 #[.pointer (some ⟨d, 0, none⟩)] w (AllPost w l) := by
  obtain ⟨A, c, h⟩ := h
  have hc := cell_of_block h.head (o := 0) rfl
  have hl := h.len
  have Hh := Lib.hid h
  clear h
  go_enter Try.func27, Try.ntmps27
  go_wp2_with fail
  refine (cloneI_calls _ _ _ _ Hh.out.own (ints_one .i64 _) (by omega)).mono ?_
  rintro e w1 ⟨v, rfl, ho, hf, hk⟩
  obtain ⟨A, n, c, rfl, hn1, hA1, hn⟩ : ∃ A n c, v = .slice A n c ∧ n ≤ c ∧ (A = none → n = 0 ∧ c = 0) ∧ n = l.length := by
    rcases Own.form ho with ⟨rfl, h0⟩ | ⟨g, c, rfl, _, h2, _⟩
    · exact ⟨none, 0, 0, rfl, Nat.le_refl _, (fun _ => ⟨rfl, rfl⟩), h0.symm⟩
    · exact ⟨_, _, _, rfl, h2, (fun h => by simp at h), rfl⟩
  have Hr := Lib.hid (Own.readsI ho)
  have Hf := Lib.hid hf
  have Hlt := Lib.hid ho.lt
  have Hk := Lib.hid hk
  have Hn := Lib.hid hn
  clear ho hf hk hn
  go_wp2_with fail
  refine (clipI_calls _ _ _ hn1 hA1 _).mono ?_
  rintro e w2 ⟨rfl, rfl⟩
  go_wp2_with fail
  go_ret
  have hR : ReadsI .i64 w1 (.slice A l.length n) l := by rw [← Hn.out]; exact ReadsI.clip Hr.out
  exact ⟨A, n, by rw [← Hn.out]; rfl, hR, fun k hk => ⟨Hf.out k (by cases A <;> exact hk), Hlt.out k (by cases A <;> exact hk)⟩, Hk.out⟩
end Dq
end Go.Proofs.Ytmpingalekdlnaa
