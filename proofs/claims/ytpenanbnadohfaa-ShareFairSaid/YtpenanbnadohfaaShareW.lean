/- The fixed fact of layer 12's statements, and small words for their walks. -/
import Derived.Test.YtpenanbnadohfaaShareB
import Derived.Test.YtpenanbnadohfaaRef02
import Derived.Test.YtpenanbnadohfaaArg
import Derived.Deep.RegionLaw
import Derived.Deep.RegionHeld3
import Derived.Deep.AppendLies
namespace Go.Proofs.Ytpenanbnadohfaa
open Go.RowKit Sh

theorem step_app {P : Program} {t e : TypeId} {z : Value} {size bytes : Nat} (E : Elem P t e z size bytes) {ops : Array Oper} {o : Oper} {a : Act} {w : World} {K : Act → World → Prop} {Q : Exit → Act → World → Prop} {F : Prop}
    (hg : o.guard = none) (s x : Operand) (hop : o.op = Op.call { callee := Callee.builtin Builtin.append, args := #[s, x], argTypes := #[t, t] })
    (v : Value) (n : Nat) (xs : List Value) (hs : a.eval s = v) (hown : Own w e size v n xs)
    (ad : Addr) (m c : Nat) (news : List Value) (hx : a.eval x = .slice (some ad) m c) (hl : news.length = m * size) (hnews : ∀ j u, news[j]? = some u → w.cell? (ad.add j) = some u) (h1 : ∀ u ∈ news, u.oneCell' = true)
    (h63 : n + m ≤ maxLen) (hbytes : (n + m) * bytes ≤ 140737488355328)
    (h : ∀ v' w', Own w' e size v' (n + m) (xs ++ news) → w.grownBy w' v.ownBlock → (∀ k, v'.ownBlock = some k → v.ownBlock = some k ∨ w.heap.size ≤ k) → (0 < m → ∃ g cap, v' = .slice (some ⟨g, 0, none⟩) (n + m) cap) → K (a.put o.dst v') w') :
    if Region.wanted o (yielded ops a.tmps) = true then Oper.wp P o a w K Q else F := by
  have hw : Region.wanted o (yielded ops a.tmps) = true := by simp [Region.wanted, hg]
  rw [if_pos hw]
  exact wp_app E w s x hop v n xs hs hown ad m c news hx hl hnews h1 h63 hbytes h

theorem cell_alloc_some {w : World} {o : Obj} {a : Addr} {v : Value} (h : w.cell? a = some v) : (w.alloc o).cell? a = some v := by
  rw [World.cell?_of_block (w := w) (w' := w.alloc o) (a := a) (Below.heap_alloc w o a.block (World.block_lt_of_cell? w a h)), h]
theorem cell_drew_some {w : World} {a : Addr} {v : Value} (h : w.cell? a = some v) : w.drew.cell? a = some v := h

theorem litReads {w : World} {q n cap : Nat} {c : Array Value} {e : TypeId} {l : List Int} (h : w.heap[q]? = some (.cells c e (0, 0))) (hn : l.length = n) (hc : ∀ (j : Nat) (x : Int), l[j]? = some x → c[j]? = some (Value.int .i64 x)) : ReadsI .i64 w (.slice (some ⟨q, 0, none⟩) n cap) l :=
  ⟨_, q, 0, cap, by rw [hn], fun _ => ⟨rfl, lt_of_block h⟩, fun j x hx => by rw [Nat.zero_add]; exact cell_of_block h (hc j x hx)⟩

theorem spec1 : Sh.Spec 5 [4, 4] [0, 0] 2 1 [2, 3] := ⟨rfl, by decide, by decide, by decide, .inl (by decide), fun i j hi hj => (show ∀ i, i < 2 → ∀ j, j < 2 → i ≠ j → 0 < at0 [2, 3] i → at0 [2, 3] j < at0 [4, 4] j → before (at0 [0, 0] i) (at0 [2, 3] i - 1) (rank 2 1 i) (at0 [0, 0] j) (at0 [2, 3] j) (rank 2 1 j) by decide) i hi j hj⟩
theorem spec2 : Sh.Spec 3 [1, 9, 9] [0, 0, 5] 3 0 [0, 0, 3] := ⟨rfl, by decide, by decide, by decide, .inl (by decide), fun i j hi hj => (show ∀ i, i < 3 → ∀ j, j < 3 → i ≠ j → 0 < at0 [0, 0, 3] i → at0 [0, 0, 3] j < at0 [1, 9, 9] j → before (at0 [0, 0, 5] i) (at0 [0, 0, 3] i - 1) (rank 3 0 i) (at0 [0, 0, 5] j) (at0 [0, 0, 3] j) (rank 3 0 j) by decide) i hi j hj⟩
theorem val1 : ShValid 5 [4, 4] [0, 0] := ⟨rfl, by decide, by decide, by decide, by decide⟩
theorem val2 : ShValid 3 [1, 9, 9] [0, 0, 5] := ⟨rfl, by decide, by decide, by decide, by decide⟩
theorem noval3 : ¬ ShValid (-1) [1] [0] := fun h => by have := h.2.2.1; omega

theorem FairPost.is {procs turn : Int} {d pr o : List Int} {w w' : World} {e : Ending} (h : FairPost procs d pr turn w e w') (hv : ShValid procs d pr) (S : Sh.Spec procs d pr d.length (firstOf turn d.length) o) :
    ∃ v, e = .returned v ∧ NewList w w' v o ∧ Keeps NoBlock w w' := by
  obtain ⟨v, o', rfl, h1, h2, h3⟩ := h
  rcases h3 with ⟨_, h4⟩ | ⟨h4, _⟩
  · have := h4.unique S; subst this; exact ⟨v, rfl, h1, h2⟩
  · exact absurd hv h4

set_option maxRecDepth 100000 in
theorem awake12_calls (w : World) : Calls Try.prog 21 #[] w fun e w' => e = .returned (.bool true) ∧ Keeps NoBlock w w' := by
  have r1 : ReadsI .i64 ((w.alloc (.cells #[.int .i64 4, .int .i64 4] 3)).alloc (.cells #[.int .i64 0, .int .i64 0] 3)) (.slice (some ⟨w.heap.size, 0, none⟩) 2 2) [4, 4] :=
    litReads (block_alloc_old (block_alloc_new _ _)) rfl (fun j x hx => by match j, hx with | 0, hx => simpa using hx | 1, hx => simpa using hx)
  have r2 : ReadsI .i64 ((w.alloc (.cells #[.int .i64 4, .int .i64 4] 3)).alloc (.cells #[.int .i64 0, .int .i64 0] 3)) (.slice (some ⟨w.heap.size + 1, 0, none⟩) 2 2) [0, 0] :=
    litReads (blk_new (by simp)) rfl (fun j x hx => by match j, hx with | 0, hx => simpa using hx | 1, hx => simpa using hx)
  go_enter Try.func21, Try.ntmps21
  go_wp2_with fail
  refine (fair_calls _ _ _ _ _ 5 1 r1 r2 (by decide) (by decide) (by decide) (by decide)).mono ?_
  rintro e w1 hf1
  obtain ⟨v1, rfl, ⟨hn1, hf1⟩, hk1⟩ := hf1.is val1 spec1
  have q1 : ReadsI .i64 w1 v1 [2, 3] := Own.readsI hn1
  clear hn1 hf1 r1 r2
  go_wp2_with fail
  have r3 := litReads (l := [2, 3]) (cap := 2) (blk_new (w := w1) (o := .cells #[.int .i64 2, .int .i64 3] 3) rfl) rfl (fun j x hx => by match j, hx with | 0, hx => simpa using hx | 1, hx => simpa using hx)
  have k1 : Keeps NoBlock w1 (w1.alloc (.cells #[.int .i64 2, .int .i64 3] 3)) := (Keeps.refl _ _).alloc _
  refine (ints_calls v1 _ _ _ _ (q1.keeps k1 (fun _ _ h => h)) r3 (by decide) (by decide)).mono ?_
  rintro e w2 ⟨rfl, hk2⟩
  clear q1 r3
  have k2 : Keeps NoBlock w w2 := ((((Keeps.refl NoBlock w).alloc _).alloc _).trans hk1 (fun _ _ h => h)).trans (k1.trans hk2 (fun _ _ h => h)) (fun _ _ h => h)
  clear hk1 hk2 k1
  rw [decide_eq_true rfl]
  go_wp2_with fail
  have r1 : ReadsI .i64 ((w2.alloc (.cells #[.int .i64 1, .int .i64 9, .int .i64 9] 3)).alloc (.cells #[.int .i64 0, .int .i64 0, .int .i64 5] 3)) (.slice (some ⟨w2.heap.size, 0, none⟩) 3 3) [1, 9, 9] :=
    litReads (block_alloc_old (block_alloc_new _ _)) rfl (fun j x hx => by match j, hx with | 0, hx => simpa using hx | 1, hx => simpa using hx | 2, hx => simpa using hx)
  have r2 : ReadsI .i64 ((w2.alloc (.cells #[.int .i64 1, .int .i64 9, .int .i64 9] 3)).alloc (.cells #[.int .i64 0, .int .i64 0, .int .i64 5] 3)) (.slice (some ⟨w2.heap.size + 1, 0, none⟩) 3 3) [0, 0, 5] :=
    litReads (blk_new (by simp)) rfl (fun j x hx => by match j, hx with | 0, hx => simpa using hx | 1, hx => simpa using hx | 2, hx => simpa using hx)
  refine (fair_calls _ _ _ _ _ 3 0 r1 r2 (by decide) (by decide) (by decide) (by decide)).mono ?_
  rintro e w3 hf3
  obtain ⟨v3, rfl, ⟨hn3, hf3⟩, hk3⟩ := hf3.is val2 spec2
  have q3 : ReadsI .i64 w3 v3 [0, 0, 3] := Own.readsI hn3
  clear hn3 hf3 r1 r2
  go_wp2_with fail
  have r3 := litReads (l := [0, 0, 3]) (cap := 3) (blk_new (w := w3) (o := .cells #[.int .i64 0, .int .i64 0, .int .i64 3] 3) rfl) rfl (fun j x hx => by match j, hx with | 0, hx => simpa using hx | 1, hx => simpa using hx | 2, hx => simpa using hx)
  have k1 : Keeps NoBlock w3 (w3.alloc (.cells #[.int .i64 0, .int .i64 0, .int .i64 3] 3)) := (Keeps.refl _ _).alloc _
  refine (ints_calls v3 _ _ _ _ (q3.keeps k1 (fun _ _ h => h)) r3 (by decide) (by decide)).mono ?_
  rintro e w4 ⟨rfl, hk4⟩
  clear q3 r3
  have k4 : Keeps NoBlock w w4 := (k2.trans ((((Keeps.refl NoBlock w2).alloc _).alloc _).trans hk3 (fun _ _ h => h)) (fun _ _ h => h)).trans (k1.trans hk4 (fun _ _ h => h)) (fun _ _ h => h)
  clear hk3 hk4 k1 k2
  rw [decide_eq_true rfl]
  go_wp2_with fail
  have r1 : ReadsI .i64 ((w4.alloc (.cells #[.int .i64 1] 3)).alloc (.cells #[.int .i64 0] 3)) (.slice (some ⟨w4.heap.size, 0, none⟩) 1 1) [1] :=
    litReads (block_alloc_old (block_alloc_new _ _)) rfl (fun j x hx => by match j, hx with | 0, hx => simpa using hx)
  have r2 : ReadsI .i64 ((w4.alloc (.cells #[.int .i64 1] 3)).alloc (.cells #[.int .i64 0] 3)) (.slice (some ⟨w4.heap.size + 1, 0, none⟩) 1 1) [0] :=
    litReads (blk_new (by simp)) rfl (fun j x hx => by match j, hx with | 0, hx => simpa using hx)
  refine (fair_calls _ _ _ _ _ (-1) 0 r1 r2 (by decide) (by decide) (by decide) (by decide)).mono ?_
  rintro e w5 hf5
  obtain ⟨v5, o5, rfl, ⟨hn5, _⟩, hk5, h5⟩ := hf5
  obtain rfl : o5 = [] := by
    rcases h5 with ⟨h, _⟩ | ⟨_, h⟩
    · exact absurd h noval3
    · exact h
  obtain ⟨A, b, off, cap, rfl, _, _⟩ := Own.readsI hn5
  clear h5 hn5 r1 r2
  have k6 : Keeps NoBlock w w5 := k4.trans ((((Keeps.refl NoBlock w4).alloc _).alloc _).trans hk5 (fun _ _ h => h)) (fun _ _ h => h)
  clear hk5 k4
  go_wp2_with fail
  go_ret
  exact ⟨rfl, k6⟩

theorem take_next {l : List Int} {k : Nat} {x : Int} (h : l.getD k 0 = x) (hk : k < l.length) : l.take (k + 1) = l.take k ++ [x] := by
  rw [List.take_succ_eq_append_getElem hk]
  simp [List.getD, hk] at h
  rw [h]

/-- Two lists of the call's own, of k numbers each. -/
structure Two (w wr : World) (gd cd gp cp k : Nat) (dl pl : List Int) : Prop where
  own1 : Own wr 3 1 (.slice (some ⟨gd, 0, none⟩) k cd) k (dl.map (Value.int .i64))
  own2 : Own wr 3 1 (.slice (some ⟨gp, 0, none⟩) k cp) k (pl.map (Value.int .i64))
  keep : Keeps NoBlock w wr
  new : w.heap.size ≤ gd ∧ w.heap.size ≤ gp ∧ gd ≠ gp
  len : dl.length = k ∧ pl.length = k
end Go.Proofs.Ytpenanbnadohfaa
