/- Package deque: what its calls come to. -/
import Derived.Test.YtmpingalekdlnaaDqI
import Derived.Deep.DeepCutAuto
import Derived.Deep.CutBlock
namespace Go.Proofs.Ytmpingalekdlnaa
open Go.RowKit
namespace Dq

/-- A row of numbers at d, in blocks of colour i. -/
structure DequeIn (col : Nat → Nat) (i : Nat) (w : World) (d : Nat) (l : List Int) (A : Option Addr) (c : Nat) : Prop where
  head : w.heap[d]? = some (.cells #[.slice A l.length c] 59 (0, 0))
  own : Own w 3 1 (.slice A l.length c) l.length (l.map (Value.int .i64))
  cd : col d = i
  cr : ∀ k, (Value.slice A l.length c).ownBlock = some k → col k = i ∧ k ≠ d
  flt : ∀ k, col k = i → k < w.heap.size
  len : l.length ≤ 1000

def DequeAt (col : Nat → Nat) (i : Nat) (w : World) (d : Nat) (l : List Int) : Prop := ∃ A c, DequeIn col i w d l A c

def NextC (i : Nat) (col col' : Nat → Nat) (w w' : World) : Prop := Keeps (fun k => col k = i) w w' ∧ ∀ k, col' k = col k ∨ (w.heap.size ≤ k ∧ k < w'.heap.size ∧ col' k = i)

theorem NextC.same (i : Nat) (col : Nat → Nat) {w w' : World} (k : Keeps NoBlock w w') : NextC i col col w w' := ⟨k.mono (fun _ _ h => h.elim), fun _ => .inl rfl⟩

theorem NextC.old {i : Nat} {col col' : Nat → Nat} {w w' : World} (h : NextC i col col' w w') {k : Nat} (hk : k < w.heap.size) : col' k = col k := by
  rcases h.2 k with h | h
  · exact h
  · omega

theorem NextC.trans {i : Nat} {c0 c1 c2 : Nat → Nat} {w w1 w2 : World} (h : NextC i c0 c1 w w1) (k : NextC i c1 c2 w1 w2) : NextC i c0 c2 w w2 :=
  ⟨h.1.trans k.1 (fun j hj hh => by rw [h.old hj] at hh; exact hh), fun j => by
    have hs := h.1.size
    have hs' := k.1.size
    rcases k.2 j with h1 | h1
    · rcases h.2 j with h2 | h2
      · exact .inl (h1.trans h2)
      · exact .inr ⟨h2.1, by omega, h1.trans h2.2.2⟩
    · exact .inr ⟨by omega, h1.2.1, h1.2.2⟩⟩

theorem DequeIn.keeps {col : Nat → Nat} {i : Nat} {S : Nat → Prop} {w w' : World} {d : Nat} {l : List Int} {A : Option Addr} {c : Nat} (h : DequeIn col i w d l A c) (k : Keeps S w w') (hS : ∀ j, col j = i → ¬ S j) : DequeIn col i w' d l A c :=
  ⟨by rw [k.block d (lt_of_block h.head) (hS _ h.cd)]; exact h.head, h.own.keeps k (fun b hb => hS _ (h.cr b hb).1), h.cd, h.cr, fun j hj => Nat.lt_of_lt_of_le (h.flt j hj) k.size, h.len⟩

theorem DequeAt.keeps {col : Nat → Nat} {i : Nat} {S : Nat → Prop} {w w' : World} {d : Nat} {l : List Int} (h : DequeAt col i w d l) (k : Keeps S w w') (hS : ∀ j, col j = i → ¬ S j) : DequeAt col i w' d l := by
  obtain ⟨A, c, h⟩ := h
  exact ⟨A, c, h.keeps k hS⟩

theorem DequeAt.len {col : Nat → Nat} {i : Nat} {w : World} {d : Nat} {l : List Int} (h : DequeAt col i w d l) : l.length ≤ 1000 := by
  obtain ⟨A, c, h⟩ := h
  exact h.len

/-- Another deque's step leaves this one as it was. -/
theorem DequeAt.other {col col' : Nat → Nat} {i j : Nat} {w w' : World} {d : Nat} {l : List Int} (h : DequeAt col j w d l) (n : NextC i col col' w w') (hij : j ≠ i) : DequeAt col' j w' d l := by
  obtain ⟨A, c, h⟩ := h
  have k := h.keeps n.1 (fun b hb hh => hij (hb.symm.trans hh))
  have back : ∀ b, col' b = j → col b = j := fun b hb => by
    rcases n.2 b with h1 | h1
    · rw [← h1]; exact hb
    · exact absurd (hb.symm.trans h1.2.2) hij
  exact ⟨A, c, k.head, k.own, by rw [n.old (lt_of_block h.head)]; exact h.cd, fun b hb => by
    rw [n.old (h.own.lt b hb)]; exact h.cr b hb, fun b hb => k.flt b (back b hb), h.len⟩

def paint (col : Nat → Nat) (v : Value) (i : Nat) : Nat → Nat := fun k => if v.ownBlock = some k then i else col k

/-- The row has become another one. -/
theorem DequeIn.set {col : Nat → Nat} {i : Nat} {w w4 : World} {d : Nat} {l xs : List Int} {A A' : Option Addr} {c c' : Nat} (h : DequeIn col i w d l A c)
    (hd : w4.heap[d]? = some (.cells #[.slice A' xs.length c'] 59 (0, 0))) (ho : Own w4 3 1 (.slice A' xs.length c') xs.length (xs.map (Value.int .i64))) (ko : Keeps (fun k => k = d ∨ (Value.slice A l.length c).ownBlock = some k) w w4)
    (hf : ∀ k, (Value.slice A' xs.length c').ownBlock = some k → (Value.slice A l.length c).ownBlock = some k ∨ w.heap.size ≤ k) (hl : xs.length ≤ 1000) :
    ∃ col', DequeAt col' i w4 d xs ∧ NextC i col col' w w4 := by
  have ht := lt_of_block h.head
  have hp : ∀ k, paint col (.slice A' xs.length c') i k = col k ∨ (w.heap.size ≤ k ∧ k < w4.heap.size ∧ paint col (.slice A' xs.length c') i k = i) := fun k => by
    unfold paint
    split
    · rename_i hk
      rcases hf k hk with h1 | h1
      · exact .inl (h.cr k h1).1.symm
      · exact .inr ⟨h1, ho.lt k hk, rfl⟩
    · exact .inl rfl
  refine ⟨paint col (.slice A' xs.length c') i, ⟨A', c', hd, ho, ?_, fun k hk => ⟨by unfold paint; rw [if_pos hk], ?_⟩, fun k hk => ?_, hl⟩, ko.mono ?_, hp⟩
  · rcases hp d with h1 | h1
    · rw [h1, h.cd]
    · exact h1.2.2
  · rcases hf k hk with h1 | h1
    · exact (h.cr k h1).2
    · omega
  · rcases hp k with h1 | h1
    · rw [h1] at hk; exact Nat.lt_of_lt_of_le (h.flt k hk) ko.size
    · exact h1.2.1
  · rintro k _ (rfl | hk)
    · exact h.cd
    · exact (h.cr k hk).1

theorem new_calls (w : World) : Calls Try.prog 20 #[] w fun e w' => e = .returned (.pointer (some ⟨w.heap.size, 0, none⟩)) ∧ w' = w.alloc (.cells #[.slice none 0 0] 59) := by
  go_enter Try.func20, Try.ntmps20
  go_wp2
  go_ret
  exact ⟨rfl, rfl⟩

theorem DequeAt.new {col : Nat → Nat} {i : Nat} (w : World) (hc : ∀ k, col k = i → k < w.heap.size) : DequeAt (fun k => if k = w.heap.size then i else col k) i (w.alloc (.cells #[.slice none 0 0] 59)) w.heap.size [] ∧ NextC i col (fun k => if k = w.heap.size then i else col k) w (w.alloc (.cells #[.slice none 0 0] 59)) := by
  refine ⟨⟨none, 0, block_alloc_new _ _, World.ownsRow_nil _ _ _ _, by simp, fun k hk => by simp [Value.ownBlock] at hk, fun k hk => ?_, by simp⟩, (Keeps.refl _ _).alloc _, fun k => ?_⟩
  · by_cases h : k = w.heap.size
    · subst h; simp
    · rw [if_neg h] at hk; have := hc k hk; simp; omega
  · by_cases h : k = w.heap.size
    · subst h; exact .inr ⟨Nat.le_refl _, by simp, by simp⟩
    · exact .inl (if_neg h)

theorem fresh_nil (n : Int) (w : World) : Calls Try.prog 29 #[.pointer none, .int .i64 n] w fun e w' => e = .returned (.bool false) ∧ w = w' := by
  go_enter Try.func29, Try.ntmps29
  go_wp2
  go_ret
  exact ⟨rfl, rfl⟩

theorem fresh_calls {col : Nat → Nat} {i : Nat} (d : Nat) (l : List Int) (n : Int) (w : World) (h : DequeAt col i w d l) :
    Calls Try.prog 29 #[.pointer (some ⟨d, 0, none⟩), .int .i64 n] w fun e w' => e = .returned (.bool (!(l.any fun y => y == n))) ∧ w = w' := by
  obtain ⟨A, c, h⟩ := h
  have hc := cell_of_block h.head (o := 0) rfl
  have hh := Lib.hid (has_calls n _ l w h.own (by have := h.len; omega))
  clear h
  go_enter Try.func29, Try.ntmps29
  go_wp2_with fail
  refine hh.out.mono ?_
  rintro e w' ⟨rfl, rfl⟩
  go_wp2_with fail
  go_ret
  exact ⟨rfl, rfl⟩

def Step (col : Nat → Nat) (i : Nat) (w : World) (d : Nat) (l : List Int) (r : Ending) (e : Ending) (w' : World) : Prop := ∃ col', e = r ∧ DequeAt col' i w' d l ∧ NextC i col col' w w'

theorem push_nil (n : Int) (w : World) : Calls Try.prog 21 #[.pointer none, .int .i64 n] w fun e w' => e = .returned (.bool false) ∧ w = w' := by
  go_enter Try.func21, Try.ntmps21
  go_wp2_with fail
  refine (fresh_nil _ _).mono ?_
  rintro e w' ⟨rfl, rfl⟩
  go_wp2_with fail
  go_ret
  exact ⟨rfl, rfl⟩

theorem pushF_nil (n : Int) (w : World) : Calls Try.prog 22 #[.pointer none, .int .i64 n] w fun e w' => e = .returned (.bool false) ∧ w = w' := by
  go_enter Try.func22, Try.ntmps22
  go_wp2_with fail
  refine (fresh_nil _ _).mono ?_
  rintro e w' ⟨rfl, rfl⟩
  go_wp2_with fail
  go_ret
  exact ⟨rfl, rfl⟩

theorem push_has {col : Nat → Nat} {i : Nat} (d : Nat) (l : List Int) (n : Int) (w : World) (h : DequeAt col i w d l) (hn : (l.any fun y => y == n) = true) :
    Calls Try.prog 21 #[.pointer (some ⟨d, 0, none⟩), .int .i64 n] w fun e w' => e = .returned (.bool false) ∧ w = w' := by
  have hf := Lib.hid (fresh_calls d l n w h)
  have Hn := Lib.hid hn
  clear h hn
  go_enter Try.func21, Try.ntmps21
  go_wp2_with fail
  refine hf.out.mono ?_
  rintro e w' ⟨rfl, rfl⟩
  rw [Hn.out]
  go_wp2_with fail
  go_ret
  exact ⟨rfl, rfl⟩
theorem pushF_has {col : Nat → Nat} {i : Nat} (d : Nat) (l : List Int) (n : Int) (w : World) (h : DequeAt col i w d l) (hn : (l.any fun y => y == n) = true) :
    Calls Try.prog 22 #[.pointer (some ⟨d, 0, none⟩), .int .i64 n] w fun e w' => e = .returned (.bool false) ∧ w = w' := by
  have hf := Lib.hid (fresh_calls d l n w h)
  have Hn := Lib.hid hn
  clear h hn
  go_enter Try.func22, Try.ntmps22
  go_wp2_with fail
  refine hf.out.mono ?_
  rintro e w' ⟨rfl, rfl⟩
  rw [Hn.out]
  go_wp2_with fail
  go_ret
  exact ⟨rfl, rfl⟩

set_option maxHeartbeats 1000000 in
theorem push_new {col : Nat → Nat} {i : Nat} (d : Nat) (l : List Int) (n : Int) (w : World) (h : DequeAt col i w d l) (hn : (l.any fun y => y == n) = false) (hl : l.length < 1000) :
    Calls Try.prog 21 #[.pointer (some ⟨d, 0, none⟩), .int .i64 n] w (Step col i w d (l ++ [n]) (.returned (.bool true))) := by
  have hf := Lib.hid (fresh_calls d l n w h)
  have Hn := Lib.hid hn
  obtain ⟨A, c, h⟩ := h
  have hc := cell_of_block h.head (o := 0) rfl
  have hfz := frozen_of_block (o := 0) h.head
  have hd := lt_of_block h.head
  have H := Lib.hid h
  have hnb : Hid ((Value.slice A l.length c).ownBlock ≠ some d) := fun e => (H.out.cr d e).2 rfl
  clear h hn
  go_enter Try.func21, Try.ntmps21
  go_wp2_with fail
  refine hf.out.mono ?_
  rintro e w' ⟨rfl, rfl⟩
  rw [Hn.out]
  go_wp2_with (at_builtin; refine wpList_appN eI _ rfl _ _ rfl (.slice A l.length c) l.length _ rfl (World.ownsRow.alloc H.out.own _) ⟨w.heap.size, 0, none⟩ 1 1 [.int .i64 n] rfl rfl (newsB (e := 3) (block_alloc_new w _)) ?_ ?_ ?_ ?_)
  · simp [Value.oneCell']
  · simp only [maxLen]; omega
  · omega
  rintro v3 w3 ho3 hg3 hf3 g c3 rfl
  have f3 := hf3 g rfl
  have hb3 := blk_grown hg3 hnb.out (block_alloc_old (o' := .cells #[.int .i64 n] 3) H.out.head)
  have z1 := cell_of_block hb3 (o := 0) rfl
  have z2 := frozen_of_block (o := 0) hb3
  have hlen1 : (l ++ [n]).length = l.length + 1 := by simp
  have hst := H.out.set (xs := l ++ [n]) (A' := some ⟨g, 0, none⟩) (c' := c3) (w4 := w3.setCell ⟨d, 0, none⟩ (.slice (some ⟨g, 0, none⟩) (l.length + 1) c3)) (by rw [hlen1]; exact block_set hb3 _)
    (by rw [hlen1, show (l ++ [n]).map (Value.int .i64) = l.map (Value.int .i64) ++ [.int .i64 n] by simp]; exact ho3.keeps ((Keeps.refl (fun k => k = d) w3).set (.inl rfl) _) (fun b hb hbt => by
        simp only [Value.ownBlock, Option.some.injEq] at hb; subst hb
        rcases f3 with h | h
        · exact hnb.out (by rw [h, hbt])
        · omega))
    ((((Keeps.refl _ w).alloc _).grown hg3 (fun k hk => .inl (.inr hk))).set (.inl (.inl rfl)) _) (fun k hk => by
        simp only [Value.ownBlock, Option.some.injEq] at hk; subst hk
        rcases f3 with h | h
        · exact .inl h
        · exact .inr (by omega)) (by rw [hlen1]; omega)
  have Hst := Lib.hid hst
  clear hst hb3 ho3 hg3 hf3
  go_wp2_with fail
  go_ret
  obtain ⟨col', h1, h2⟩ := Hst.out
  exact ⟨col', rfl, h1, h2⟩

set_option maxHeartbeats 1000000 in
theorem pushF_new {col : Nat → Nat} {i : Nat} (d : Nat) (l : List Int) (n : Int) (w : World) (h : DequeAt col i w d l) (hn : (l.any fun y => y == n) = false) (hl : l.length < 1000) :
    Calls Try.prog 22 #[.pointer (some ⟨d, 0, none⟩), .int .i64 n] w (Step col i w d (n :: l) (.returned (.bool true))) := by
  have hf := Lib.hid (fresh_calls d l n w h)
  have Hn := Lib.hid hn
  obtain ⟨A, c, h⟩ := h
  have hc := cell_of_block h.head (o := 0) rfl
  have hfz := frozen_of_block (o := 0) h.head
  have hd := lt_of_block h.head
  have H := Lib.hid h
  have hnb : Hid ((Value.slice A l.length c).ownBlock ≠ some d) := fun e => (H.out.cr d e).2 rfl
  have hnq : (Value.slice A l.length c).ownBlock ≠ some w.heap.size := fun e => by have := H.out.own.lt _ e; omega
  have hins := Lib.hid (insert0_calls (.slice A l.length c) l.length w.heap.size n l (w.alloc (.cells #[.int .i64 n] 3)) rfl (World.ownsRow.alloc H.out.own _) (block_alloc_new w _) hnq (by omega))
  clear h hn hnq
  go_enter Try.func22, Try.ntmps22
  go_wp2_with fail
  refine hf.out.mono ?_
  rintro e w' ⟨rfl, rfl⟩
  rw [Hn.out]
  go_wp2_with fail
  refine hins.out.mono ?_
  rintro e w3 ⟨A3, c3, rfl, ho3, k3, hf3⟩
  have hs3 := k3.size
  simp only [World.size_alloc] at hs3
  have hb3 : w3.heap[d]? = some (.cells #[.slice A l.length c] 59 (0, 0)) := by rw [k3.block d (by simp; omega) hnb.out]; exact block_alloc_old H.out.head
  have z1 := cell_of_block hb3 (o := 0) rfl
  have z2 := frozen_of_block (o := 0) hb3
  have hlen1 : (n :: l).length = l.length + 1 := by simp
  have hst := H.out.set (xs := n :: l) (A' := A3) (c' := c3) (w4 := w3.setCell ⟨d, 0, none⟩ (.slice A3 (l.length + 1) c3)) (by rw [hlen1]; exact block_set hb3 _)
    (by rw [hlen1]; exact ho3.keeps ((Keeps.refl (fun k => k = d) w3).set (.inl rfl) _) (fun b hb hbt => by
        rcases hf3 b hb with h | h
        · exact hnb.out (by rw [h, hbt])
        · simp at h; omega))
    (((((Keeps.refl _ w).alloc _).trans k3 (fun k _ hk => .inr hk))).set (.inl (.inl rfl)) _) (fun k hk => by
        rw [hlen1] at hk
        rcases hf3 k hk with h | h
        · exact .inl h
        · simp at h; exact .inr (by omega)) (by rw [hlen1]; omega)
  have Hst := Lib.hid hst
  clear hst hb3 ho3 k3 hf3
  go_wp2_with fail
  go_ret
  obtain ⟨col', h1, h2⟩ := Hst.out
  exact ⟨col', rfl, h1, h2⟩
end Dq
end Go.Proofs.Ytmpingalekdlnaa
