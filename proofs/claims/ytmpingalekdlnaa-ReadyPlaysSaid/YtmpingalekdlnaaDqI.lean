/- slices.Insert of one number ahead of all others. -/
import Derived.Test.YtmpingalekdlnaaDqL
namespace Go.Proofs.Ytmpingalekdlnaa
open Go.RowKit
namespace Dq

/-- A row whose cells were laid anew. -/
theorem own_laid2 {w : World} {g cap n : Nat} {x : Value} {xs : List Value} {c : Array Value} (hb : w.heap[g]? = some (.cells c 3 (0, 0))) (hc : c.size = cap) (hn : xs.length = n) (hnc : n + 1 ≤ cap) (hcm : cap ≤ maxLen) (w' : World)
    (hw' : w' = (w.setCells g 1 xs).setCells g 0 [x]) : Own w' 3 1 (.slice (some ⟨g, 0, none⟩) (n + 1) cap) (n + 1) (x :: xs) := by
  obtain ⟨c1, h1, s1, _, l1⟩ := cells_laid (e := 3) xs 1 w c hb (by omega)
  obtain ⟨c2, h2, s2, _, l2⟩ := cells_laid (e := 3) [x] 0 (w.setCells g 1 xs) c1 h1 (by simp; omega)
  have keep : ∀ j, 1 ≤ j → c2[j]? = c1[j]? := by
    intro j hj
    have hset : (w.setCells g 1 xs).setCells g 0 [x] = (w.setCells g 1 xs).setCell ⟨g, 0, none⟩ x := rfl
    have := block_set (o := 0) h1 x
    rw [← hset, h2] at this
    simp only [Option.some.injEq, Obj.cells.injEq, and_true] at this
    rw [this, Array.getElem?_setIfInBounds_ne (by omega)]
  subst hw'
  refine ⟨by simp; omega, .inr ⟨g, cap, c2, rfl, Nat.zero_le _, h2, by omega, hcm, by omega, ?_⟩⟩
  apply List.ext_getElem?
  intro j
  rw [List.getElem?_take]
  split
  · rw [Array.getElem?_toList]
    cases j with
    | zero => have := l2 0 (by simp); simpa using this
    | succ j =>
      rw [keep (j + 1) (by omega), show j + 1 = 1 + j by omega, l1 j (by omega), show 1 + j = j + 1 by omega, List.getElem?_cons_succ]
  · rw [List.getElem?_eq_none (by simp; omega)]

theorem own_laid1 {w : World} {g cap n : Nat} {x : Value} {xs : List Value} {c : Array Value} (hb : w.heap[g]? = some (.cells c 3 (0, 0))) (hc : c.size = cap) (hn : xs.length = n) (hnc : n + 1 ≤ cap) (hcm : cap ≤ maxLen) (w' : World)
    (hw' : w' = (w.setCells g 0 [x]).drew.setCells g 1 xs) : Own w' 3 1 (.slice (some ⟨g, 0, none⟩) (n + 1) cap) (n + 1) (x :: xs) := by
  obtain ⟨c1, h1, s1, _, l1⟩ := cells_laid (e := 3) [x] 0 w c hb (by simp; omega)
  obtain ⟨c2, h2, s2, k2, l2⟩ := cells_laid (e := 3) xs 1 (w.setCells g 0 [x]).drew c1 h1 (by omega)
  subst hw'
  refine ⟨by simp; omega, .inr ⟨g, cap, c2, rfl, Nat.zero_le _, h2, by omega, hcm, by omega, ?_⟩⟩
  apply List.ext_getElem?
  intro j
  rw [List.getElem?_take]
  split
  · rw [Array.getElem?_toList]
    cases j with
    | zero => rw [k2 0 (by decide)]; have := l1 0 (by simp); simpa using this
    | succ j =>
      rw [show j + 1 = 1 + j by omega, l2 j (by omega), show 1 + j = j + 1 by omega, List.getElem?_cons_succ]
  · rw [List.getElem?_eq_none (by simp; omega)]

def InsPost (w : World) (v : Value) (n : Nat) (xs : List Value) (e : Ending) (w' : World) : Prop :=
  ∃ A c, e = .returned (.slice A (n + 1 : Nat) c) ∧ Own w' 3 1 (.slice A (n + 1) c) (n + 1) xs ∧ Keeps (fun k => v.ownBlock = some k) w w' ∧ ∀ b, (Value.slice A (n + 1) c).ownBlock = some b → v.ownBlock = some b ∨ w.heap.size ≤ b

theorem insert0_calls (v : Value) (n q : Nat) (x : Int) (xs : List Int) (w : World) (hn : xs.length = n) (ho : Own w 3 1 v n (xs.map (Value.int .i64))) (hq : w.heap[q]? = some (.cells #[.int .i64 x] 3 (0, 0))) (hvq : v.ownBlock ≠ some q) (hl : n ≤ 1000000) :
    Calls Try.prog 30 #[v, .int .i64 0, .slice (some ⟨q, 0, none⟩) 1 1] w (InsPost w v n ((x :: xs).map (Value.int .i64))) := by
  have hql := lt_of_block hq
  have hqc : ∀ (j : Nat) (u : Value), [Value.int .i64 x][j]? = some u → w.cell? ⟨q, 0 + j, none⟩ = some u := by
    intro j u hj
    match j, hj with
    | 0, hj => simp at hj; subst hj; exact cell_of_block hq rfl
  by_cases h0 : n = 0
  · subst h0
    obtain rfl : xs = [] := List.eq_nil_of_length_eq_zero hn
    have Ho := Lib.hid ho
    have Hq := Lib.hid hq
    have fin : ∀ v' w', Own w' 3 1 v' (0 + 1) (([] : List Int).map (Value.int .i64) ++ [.int .i64 x]) → World.grownBy w w' v.ownBlock → (∀ k, v'.ownBlock = some k → v.ownBlock = some k ∨ w.heap.size ≤ k) → (0 < 1 → ∃ g cap, v' = .slice (some ⟨g, 0, none⟩) (0 + 1) cap) → InsPost w v 0 ([x].map (Value.int .i64)) (.returned v') w' := by
      intro v' w' h1 h2 h3 h4
      obtain ⟨g, c, rfl⟩ := h4 (by decide)
      exact ⟨_, c, rfl, h1, (Keeps.refl _ w).grown h2 (fun k hk => .inl hk), h3⟩
    have Fin := Lib.hid fin
    obtain ⟨A, c, rfl⟩ := Own.isSlice ho
    clear ho hq fin hqc
    cases A with
    | none =>
      go_enter Try.func30, Try.ntmps30
      go_wp2_with (at_builtin; refine wpList_appN eI _ rfl _ _ rfl (.slice none 0 c) 0 [] rfl Ho.out ⟨q, 0, none⟩ 1 1 [.int .i64 x] rfl rfl (newsB (e := 3) Hq.out) ?_ ?_ ?_ ?_)
      · simp [Value.oneCell']
      · simp [maxLen]
      · omega
      rintro v1 w1 h1 h2 h3 g1 c1 rfl
      have F1 := Lib.hid (Fin.out _ w1 h1 h2 h3 (fun _ => ⟨g1, c1, rfl⟩))
      clear h1 h2 h3
      go_wp2
      go_ret
      exact F1.out
    | some a =>
      by_cases hc : c = 0
      all_goals
        go_enter Try.func30, Try.ntmps30
        go_wp2_with (at_builtin; refine wpList_appN eI _ rfl _ _ rfl (.slice (some a) 0 c) 0 [] rfl Ho.out ⟨q, 0, none⟩ 1 1 [.int .i64 x] rfl rfl (newsB (e := 3) Hq.out) ?_ ?_ ?_ ?_)
        · simp [Value.oneCell']
        · simp [maxLen]
        · omega
        rintro v1 w1 h1 h2 h3 g1 c1 rfl
        have F1 := Lib.hid (Fin.out _ w1 h1 h2 h3 (fun _ => ⟨g1, c1, rfl⟩))
        clear h1 h2 h3
        go_wp2
        go_ret
        exact F1.out
  · obtain ⟨g, c, rfl, hg, hnc, hcm⟩ : ∃ g c, v = .slice (some ⟨g, 0, none⟩) n c ∧ g < w.heap.size ∧ n ≤ c ∧ c ≤ maxLen := by
      rcases Own.form ho with ⟨_, h1⟩ | h1
      · exact absurd h1 h0
      · exact h1
    obtain ⟨cur, hb, hcs⟩ : ∃ cur, w.heap[g]? = some (.cells cur 3 (0, 0)) ∧ cur.size = c := by
      rcases ho.2 with ⟨h1, _⟩ | ⟨g', cap', cur, hv, _, hg', _, _, hs, ht⟩
      · cases h1
      · cases hv; exact ⟨cur, hg', by rw [hs, Nat.mul_one]⟩
    have hgq : q ≠ g := fun e => hvq (by rw [e]; rfl)
    have hml : (xs.map (Value.int .i64)).length = n := by rw [List.length_map, hn]
    have hc63 : c ≤ 9223372036854775807 := hcm
    have hcell : ∀ (j : Nat) (u : Value), (xs.map (Value.int .i64))[j]? = some u → w.cell? ⟨g, 0 + j, none⟩ = some u := by
      intro j u hj
      have hjl := (List.getElem?_eq_some_iff.1 hj).1
      rw [Nat.zero_add, World.ownsRow.cellAt ho j (by omega)]
      exact hj
    by_cases hroom : n + 1 ≤ c
    · have hh := Any2.slices_Insert_int_shift insL g 0 n c 0 q 0 1 1 (xs.map (Value.int .i64)) [.int .i64 x] w (by omega) (by decide) hroom hc63 hgq hml rfl hcell
        (fun j hj => by rw [Nat.zero_add, cell_of_block hb (Array.getElem?_eq_getElem (by omega))]; rfl) (fun j _ => frozen_of_block hb) hqc (ints_one .i64 xs) (by simp [Value.oneCell'])
        3 3 1 cur.size (by simp [World.shape?, hq]) (by simp [World.shape?, hb]) (by omega) (frozen_of_block hq) (frozen_of_block hq)
      simp only [Int.natCast_zero, Nat.zero_add, List.drop_zero] at hh
      refine hh.mono ?_
      rintro e w' ⟨rfl, hw'⟩
      refine ⟨_, c, rfl, own_laid2 (w := w.drew) hb hcs hml hroom hcm w' hw', ?_, fun b hb => .inl hb⟩
      rw [hw']
      exact Keeps.setCells (S := fun k => (Value.slice (some ⟨g, 0, none⟩) n c).ownBlock = some k) (.inl rfl) _ _ _ (Keeps.setCells (S := fun k => (Value.slice (some ⟨g, 0, none⟩) n c).ownBlock = some k) (.inl rfl) _ _ _ (Keeps.refl _ w).drew)
    · have hh := Any2.slices_Insert_int_grow insL g 0 n c 0 q 0 1 1 (xs.map (Value.int .i64)) [.int .i64 x] w (by omega) (by decide) hnc (by omega) (by omega) hml rfl hcell hqc (ints_one .i64 xs) (by simp [Value.oneCell'])
      simp only [Int.natCast_zero, Nat.zero_add, List.drop_zero, List.take_zero, show insRen.t 3 = 3 from rfl] at hh
      refine hh.mono ?_
      rintro e w' ⟨rfl, hw'⟩
      have hge : n + 1 ≤ grownCap w (n + 1) c 3 := grownCap_ge w (n + 1) c 3
      have hle : grownCap w (n + 1) c 3 ≤ maxLen := grownCap_le_maxLen w (n + 1) c 3 (by simp only [maxLen]; omega)
      refine ⟨_, _, rfl, ?_, ?_, fun b hb => .inr ?_⟩
      · refine own_laid1 (w := (w.alloc _).drew) (c := _) (block_alloc_new w _) ?_ hml hge hle w' hw'
        simp only [Array.size_append, List.size_toArray, List.length_nil, size_zeroCells, Value.cells]
        simp
        omega
      · rw [hw']
        have k1 : Keeps NoBlock w (w.alloc (.cells (([] : List Value).toArray ++ Builtin.zeroCells (Value.int .i64 0).cells (n + 1 - 0) ++ Builtin.zeroCells (Value.int .i64 0).cells (grownCap w (n + 1) c 3 - (n + 1))) 3)).drew := ((Keeps.refl _ w).alloc _).drew
        have k2 := Keeps.setCells (S := NoBlock) (a := w) (b := w.heap.size) (.inr (Nat.le_refl _)) [.int .i64 x] 0 _ k1
        have k3 := Keeps.setCells (S := NoBlock) (a := w) (b := w.heap.size) (.inr (Nat.le_refl _)) (xs.map (Value.int .i64)) 1 _ k2.drew
        exact k3.mono (fun _ _ h => h.elim)
      · simp [Value.ownBlock] at hb; omega
end Dq
end Go.Proofs.Ytmpingalekdlnaa
