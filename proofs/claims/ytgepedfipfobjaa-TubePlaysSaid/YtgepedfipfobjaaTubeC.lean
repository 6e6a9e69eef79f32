/- Package tube: the first of a row goes. -/
import Derived.Test.YtgepedfipfobjaaTubeB
namespace Go.Proofs.Ytgepedfipfobjaa
open Go.RowKit
namespace Tb

def FirstPost (t g o : Nat) (c : Array Value) (T : TypeId) (el : TypeId) (s n cap : Nat) (xs : List Value) (r : Value) (w : World) (e : Ending) (w' : World) : Prop :=
  e = .returned r ∧ w'.heap[t]? = some (.cells (c.setIfInBounds o (.slice (some ⟨g, 0, none⟩) n cap)) T (0, 0)) ∧ Own w' el s (.slice (some ⟨g, 0, none⟩) n cap) n xs ∧ Keeps (fun k => k = t ∨ k = g) w w'

theorem firstW_calls (t o g cap n : Nat) (c : Array Value) (T : TypeId) (x : Int) (xs : List Int) (w : World) (hb : w.heap[t]? = some (.cells c T (0, 0))) (hc : c[o]? = some (.slice (some ⟨g, 0, none⟩) (n + 1) cap)) (hx : xs.length = n)
    (ho : Own w 27 1 (.slice (some ⟨g, 0, none⟩) (n + 1) cap) (n + 1) ((x :: xs).map (Value.int .u64))) (hne : t ≠ g) (hn : n ≤ 1000) :
    Calls Try.prog 34 #[.pointer (some ⟨t, o, none⟩)] w (FirstPost t g o c T 27 1 n cap (xs.map (Value.int .u64)) (.int .u64 x) w) := by
  obtain ⟨hnc, hcm⟩ : n + 1 ≤ cap ∧ cap ≤ maxLen := by
    rcases Own.form ho with ⟨h, _⟩ | ⟨g', c', h, _, h1, h2⟩
    · cases h
    · cases h; exact ⟨h1, h2⟩
  have hcell := cell_of_block hb hc
  have hfz := frozen_of_block (o := o) hb
  have hc0 : w.cell? ⟨g, 0, none⟩ = some (.int .u64 x) := by rw [World.ownsRow.cellAt ho 0 (by omega)]; rfl
  have hdel := delW_calls g (n + 1) cap 0 _ (by omega) hnc hcm w ho (ints_one .u64 _)
  simp only [Int.natCast_zero, Int.zero_add, Nat.add_sub_cancel, List.take_zero, List.nil_append, Nat.zero_add, List.map_cons, List.drop_succ_cons, List.drop_zero] at hdel
  have Hd := Lib.hid hdel
  have Hb := Lib.hid hb
  have Hc := Lib.hid hc
  clear hdel hb hc ho
  go_enter Try.func34, Try.ntmps34
  go_wp2_with fail
  refine Hd.out.mono ?_
  rintro e w1 ⟨rfl, ho1, hk1⟩
  have hb1 : w1.heap[t]? = some (.cells c T (0, 0)) := by rw [hk1.block t (lt_of_block Hb.out) hne]; exact Hb.out
  have hcell1 := cell_of_block hb1 Hc.out
  have hfz1 := frozen_of_block (o := o) hb1
  have Hb1 := Lib.hid hb1
  have Ho1 := Lib.hid ho1
  have Hk1 := Lib.hid hk1
  clear hb1 ho1 hk1
  go_wp2_with fail
  go_ret
  refine ⟨rfl, block_set Hb1.out _, ?_, ?_⟩
  · exact Ho1.out.keeps ((Keeps.refl (fun k => k = t) w1).set (.inl rfl) _) (fun b hb => by simp [Value.ownBlock] at hb; subst hb; exact fun h => hne h.symm)
  · exact (Hk1.out.mono (fun _ _ h => .inr h)).set (.inl (.inl rfl)) _
theorem firstI_calls (t o g cap n : Nat) (c : Array Value) (T : TypeId) (x : Int) (xs : List Int) (w : World) (hb : w.heap[t]? = some (.cells c T (0, 0))) (hc : c[o]? = some (.slice (some ⟨g, 0, none⟩) (n + 1) cap)) (hx : xs.length = n)
    (ho : Own w 3 1 (.slice (some ⟨g, 0, none⟩) (n + 1) cap) (n + 1) ((x :: xs).map (Value.int .i64))) (hne : t ≠ g) (hn : n ≤ 1000) :
    Calls Try.prog 36 #[.pointer (some ⟨t, o, none⟩)] w (FirstPost t g o c T 3 1 n cap (xs.map (Value.int .i64)) (.int .i64 x) w) := by
  obtain ⟨hnc, hcm⟩ : n + 1 ≤ cap ∧ cap ≤ maxLen := by
    rcases Own.form ho with ⟨h, _⟩ | ⟨g', c', h, _, h1, h2⟩
    · cases h
    · cases h; exact ⟨h1, h2⟩
  have hcell := cell_of_block hb hc
  have hfz := frozen_of_block (o := o) hb
  have hc0 : w.cell? ⟨g, 0, none⟩ = some (.int .i64 x) := by rw [World.ownsRow.cellAt ho 0 (by omega)]; rfl
  have hdel := delI_calls g (n + 1) cap 0 _ (by omega) hnc hcm w ho (ints_one .i64 _)
  simp only [Int.natCast_zero, Int.zero_add, Nat.add_sub_cancel, List.take_zero, List.nil_append, Nat.zero_add, List.map_cons, List.drop_succ_cons, List.drop_zero] at hdel
  have Hd := Lib.hid hdel
  have Hb := Lib.hid hb
  have Hc := Lib.hid hc
  clear hdel hb hc ho
  go_enter Try.func36, Try.ntmps36
  go_wp2_with fail
  refine Hd.out.mono ?_
  rintro e w1 ⟨rfl, ho1, hk1⟩
  have hb1 : w1.heap[t]? = some (.cells c T (0, 0)) := by rw [hk1.block t (lt_of_block Hb.out) hne]; exact Hb.out
  have hcell1 := cell_of_block hb1 Hc.out
  have hfz1 := frozen_of_block (o := o) hb1
  have Hb1 := Lib.hid hb1
  have Ho1 := Lib.hid ho1
  have Hk1 := Lib.hid hk1
  clear hb1 ho1 hk1
  go_wp2_with fail
  go_ret
  refine ⟨rfl, block_set Hb1.out _, ?_, ?_⟩
  · exact Ho1.out.keeps ((Keeps.refl (fun k => k = t) w1).set (.inl rfl) _) (fun b hb => by simp [Value.ownBlock] at hb; subst hb; exact fun h => hne h.symm)
  · exact (Hk1.out.mono (fun _ _ h => .inr h)).set (.inl (.inl rfl)) _

theorem firstP_calls (t o g cap n : Nat) (c : Array Value) (T : TypeId) (x : Int × Int) (xs : List (Int × Int)) (w : World) (hb : w.heap[t]? = some (.cells c T (0, 0))) (hc : c[o]? = some (.slice (some ⟨g, 0, none⟩) (n + 1) cap)) (hx : xs.length = n)
    (ho : Own w 78 2 (.slice (some ⟨g, 0, none⟩) (n + 1) cap) (n + 1) ((x :: xs).flatMap encP)) (hne : t ≠ g) (hn : n ≤ 1000) :
    Calls Try.prog 35 #[.pointer (some ⟨t, o, none⟩)] w (FirstPost t g o c T 78 2 n cap (xs.flatMap encP) (.agg #[.int .i64 x.1, .int .u64 x.2]) w) := by
  obtain ⟨hnc, hcm⟩ : n + 1 ≤ cap ∧ cap ≤ maxLen := by
    rcases Own.form ho with ⟨h, _⟩ | ⟨g', c', h, _, h1, h2⟩
    · cases h
    · cases h; exact ⟨h1, h2⟩
  have hcell := cell_of_block hb hc
  have hfz := frozen_of_block (o := o) hb
  have hc0 : w.cell? ⟨g, 0, none⟩ = some (.int .i64 x.1) := by rw [World.ownsRow.cellAt ho 0 (by omega)]; rfl
  have hc1 : w.cell? ⟨g, 1, none⟩ = some (.int .u64 x.2) := by rw [World.ownsRow.cellAt ho 1 (by omega)]; rfl
  have hg := ho.lt g rfl
  have ht := lt_of_block hb
  obtain ⟨w0, hw0⟩ : ∃ w0, Hid (w0 = (w.alloc (.cells #[.int .i64 0, .int .u64 0] 78)).alloc (.cells #[.int .i64 x.1, .int .u64 x.2] 78)) := ⟨_, rfl⟩
  have k0 : Keeps NoBlock w w0 := by rw [hw0.out]; exact ((Keeps.refl _ _).alloc _).alloc _
  have hdel := delP_calls g (n + 1) cap 0 _ (by omega) hnc hcm w0 (ho.keeps k0 (fun _ _ h => h)) (encP_one _)
  simp only [Int.natCast_zero, Int.zero_add, Nat.add_sub_cancel, Nat.zero_mul, List.take_zero, List.nil_append, Nat.zero_add, Nat.one_mul, List.flatMap_cons, show encP x = [.int .i64 x.1, .int .u64 x.2] from rfl, List.cons_append, List.drop_succ_cons, List.drop_zero] at hdel
  rw [hw0.out] at hdel
  have Hd := Lib.hid hdel
  have Hb := Lib.hid hb
  have Hc := Lib.hid hc
  have K0 := Lib.hid k0
  clear hdel hb hc ho k0
  go_enter Try.func35, Try.ntmps35
  go_wp2_with fail
  refine Hd.out.mono ?_
  rintro e w1 ⟨rfl, ho1, hk1⟩
  rw [← hw0.out] at hk1
  have hs1 := hk1.size
  have hs0 : w0.heap.size = w.heap.size + 2 := by rw [hw0.out]; simp
  have hb1 : w1.heap[t]? = some (.cells c T (0, 0)) := by rw [hk1.block t (by omega) hne, K0.out.block t ht (fun h => h)]; exact Hb.out
  have br : w1.heap[w.heap.size]? = some (.cells #[.int .i64 0, .int .u64 0] 78 (0, 0)) := by
    rw [hk1.block _ (by omega) (by intro h; omega), hw0.out]; exact block_alloc_old (block_alloc_new _ _)
  have bx : w1.heap[w.heap.size + 1]? = some (.cells #[.int .i64 x.1, .int .u64 x.2] 78 (0, 0)) := by
    rw [hk1.block _ (by omega) (by intro h; omega), hw0.out]; exact blk_new (by simp)
  have hcell1 := cell_of_block hb1 Hc.out
  have hfz1 := frozen_of_block (o := o) hb1
  have r0 := cell_of_block br (o := 0) rfl
  have r1 := cell_of_block br (o := 1) rfl
  have rf0 := frozen_of_block (o := 0) br
  have rf1 := frozen_of_block (o := 1) br
  have x0 := cell_of_block bx (o := 0) rfl
  have x1 := cell_of_block bx (o := 1) rfl
  have Hb1 := Lib.hid hb1
  have Ho1 := Lib.hid ho1
  have Hk1 := Lib.hid hk1
  have hne1 : t ≠ w.heap.size := by omega
  have hne2 : t ≠ w.heap.size + 1 := by omega
  clear hb1 ho1 hk1 br bx
  go_wp2_with fail
  refine bodyPost_ret (v := .agg #[.int .i64 x.1, .int .u64 x.2]) (by simp [results, Try.results35, go_sem, r0, r1]) rfl ?_
  have kk : ∀ S : Nat → Prop, S t → (∀ k, w.heap.size ≤ k → S k) → Keeps S w1 (((w1.setCell ⟨t, o, none⟩ (.slice (some ⟨g, 0, none⟩) n cap)).setCell ⟨w.heap.size, 0, none⟩ (.int .i64 x.1)).setCell ⟨w.heap.size, 1, none⟩ (.int .u64 x.2)) := fun S h1 h2 =>
    (((Keeps.refl S w1).set (.inl h1) _).set (.inl (h2 _ (Nat.le_refl _))) _).set (.inl (h2 _ (Nat.le_refl _))) _
  refine ⟨rfl, ?_, ?_, ?_⟩
  · rw [block_set_ne (by simpa using hne1), block_set_ne (by simpa using hne1)]
    exact block_set Hb1.out _
  · exact Ho1.out.keeps (kk (fun k => k = t ∨ w.heap.size ≤ k) (.inl rfl) (fun _ h => .inr h)) (fun b hb => by simp [Value.ownBlock] at hb; subst hb; rintro (h | h); exact hne h.symm; omega)
  · refine ((K0.out.mono (fun _ _ h => h.elim)).trans (Hk1.out.mono (fun _ _ h => .inr h)) (fun _ _ h => h)).trans (kk (fun k => k = t ∨ w.heap.size ≤ k) (.inl rfl) (fun _ h => .inr h)) (fun j hj h => ?_)
    rcases h with h | h
    · exact .inl h
    · omega
end Tb
end Go.Proofs.Ytgepedfipfobjaa
