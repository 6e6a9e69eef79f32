/- Package gate: a row: has, add, take. -/
import Derived.Test.YtlgolofcpokndaaGtA
import Derived.Deep.RegionLaw
import Derived.Deep.AppendLies
import Derived.RegionTactic
import Derived.Deep.DeepCutAuto
import Derived.Deep.CutBlock
namespace Go.Proofs.Ytlgolofcpokndaa
open Go.RowKit

namespace Gt

theorem clo_pred (who : Int) (B : Nat) (w : World) (hB : B < w.heap.size) (hcell : w.cell? ⟨B, 0, none⟩ = some (.int .i64 who)) (W : World) (x : Wt) (hk : Keeps NoBlock w W) :
    Calls Try.prog 51 #[.agg #[.int .i64 x.1, .int .i64 x.2], .pointer (some ⟨B, 0, none⟩)] W fun e w' => e = .returned (.bool (x.1 == who)) ∧ Keeps NoBlock W w' := by
  have hc : W.cell? ⟨B, 0, none⟩ = some (.int .i64 who) := (hk.cell hB (fun h => h)).trans hcell
  have hBW : B < W.heap.size := Nat.lt_of_lt_of_le hB hk.size
  have hne : B ≠ W.heap.size := by omega
  go_enter Try.func51, Try.ntmps51
  go_wp2
  go_ret
  exact ⟨rfl, (Keeps.refl _ _).alloc _⟩

def hasB (who : Int) (q : List Wt) : Bool := q.any fun x => x.1 == who

set_option maxRecDepth 100000 in
theorem rowhas_calls {w : World} {b o : Nat} {v : Value} {q : List Wt} (who : Int) (hc : w.cell? ⟨b, o, none⟩ = some v) (ho : Own w 76 2 v q.length (q.flatMap encW)) (hl : q.length ≤ 1000000) :
    Calls Try.prog 41 #[.pointer (some ⟨b, o, none⟩), .int .i64 who] w fun e w' => e = .returned (.bool (hasB who q)) ∧ Keeps NoBlock w w' := by
  have hbw := World.block_lt_of_cell? w _ hc
  simp only [] at hbw
  have hne : b ≠ w.heap.size := by omega
  have hmf : ∀ (fn : Fn) (first cap : Array Value) (w : World), (Instr.makeFunc fn first cap).run Try.prog w = .ok (.func fn first cap) w := fun _ _ _ _ => rfl
  obtain ⟨w1, hw1⟩ : ∃ w1, w.alloc (.cells #[.int .i64 who] 3) = w1 := ⟨_, rfl⟩
  have b1 : w1.heap[w.heap.size]? = some (.cells #[.int .i64 who] 3 (0, 0)) := by rw [← hw1]; exact block_alloc_new _ _
  have hB := Lib.hid (lt_of_block b1)
  have cB := Lib.hid (cell_of_block b1 (o := 0) rfl)
  have k1 : Hid (Keeps NoBlock w w1) := by show Keeps _ _ _; rw [← hw1]; exact (Keeps.refl _ _).alloc _
  have ho1 := Lib.hid (ho.keeps k1.out (fun _ _ h => h))
  have hw2 := Lib.hid hw1
  clear hw1 b1 ho
  go_enter Try.func41, Try.ntmps41
  go_wp2_with fail
  rw [hw2.out]
  refine (cntW_calls (fun x => x.1 == who) w.heap.size v q w1 ho1.out hl (fun W x _ hk => clo_pred who w.heap.size w1 hB.out cB.out W x hk)).mono ?_
  rintro e w2 ⟨rfl, hk2⟩
  go_wp2_with fail
  go_ret
  exact ⟨rfl, k1.out.trans hk2 (fun _ _ h => h)⟩

/-- What add and take leave: the row's own slice in another state, laid into its cell; nothing else that was there has turned. -/
def RowPost (w : World) (b o : Nat) (v : Value) (q' : List Wt) (w' : World) : Prop :=
  ∃ v', Own w' 76 2 v' q'.length (q'.flatMap encW) ∧ Keeps (fun k => k = b ∨ v.ownBlock = some k) w w' ∧ (∀ k, v'.ownBlock = some k → v.ownBlock = some k ∨ w.heap.size ≤ k) ∧
    ∀ cur t, w.heap[b]? = some (.cells cur t (0, 0)) → w'.heap[b]? = some (.cells (cur.setIfInBounds o v') t (0, 0))

theorem RowPost.mk {w w2 w' : World} {b o : Nat} {v v' : Value} {q' : List Wt} (hb : b < w.heap.size) (hne : v.ownBlock ≠ some b) (ho : Own w2 76 2 v' q'.length (q'.flatMap encW)) (k2 : Keeps (fun k => v.ownBlock = some k) w w2)
    (hf : ∀ k, v'.ownBlock = some k → v.ownBlock = some k ∨ w.heap.size ≤ k) (k' : Keeps (fun k => w.heap.size ≤ k ∧ v'.ownBlock ≠ some k) (w2.setCell ⟨b, o, none⟩ v') w') : RowPost w b o v q' w' := by
  have hne' : v'.ownBlock ≠ some b := fun e => by
    rcases hf b e with h | h
    · exact hne h
    · omega
  have ks : Keeps (fun k => k = b) w2 (w2.setCell ⟨b, o, none⟩ v') := Keeps.set (S := fun k => k = b) (Keeps.refl _ _) (.inl rfl) _
  refine ⟨v', ?_, ?_, hf, fun cur t hcur => ?_⟩
  · refine (ho.keeps ks (fun k hk e => hne' (by rw [hk, e]))).keeps k' (fun k hk e => e.2 hk)
  · refine (((k2.mono (S' := fun k => k = b ∨ v.ownBlock = some k) (fun _ _ e => .inr e)).trans ks (fun _ _ e => .inl e)).mono (S' := fun k => (k = b ∨ v.ownBlock = some k) ∨ w.heap.size ≤ k) (fun _ _ e => .inl e)).trans k' (fun _ _ e => .inr e.1) |>.mono (fun j hj e => ?_)
    rcases e with e | e
    · exact e
    · omega
  · have h2 : w2.heap[b]? = some (.cells cur t (0, 0)) := (k2.block _ hb hne).trans hcur
    have h3 := block_set (o := o) h2 v'
    exact (k'.block _ (lt_of_block h3) (fun e => by omega)).trans h3

set_option maxRecDepth 100000 in
set_option maxHeartbeats 1000000 in
theorem add_calls {w : World} {b o : Nat} {v : Value} {q : List Wt} (x : Wt) (hc : w.cell? ⟨b, o, none⟩ = some v) (hfz : w.frozen? ⟨b, o, none⟩ = false) (ho : Own w 76 2 v q.length (q.flatMap encW)) (hne : v.ownBlock ≠ some b) (hl : q.length ≤ 1000000) :
    Calls Try.prog 30 #[.pointer (some ⟨b, o, none⟩), .agg #[.int .i64 x.1, .int .i64 x.2]] w fun e w' => e = .returned (.tuple #[]) ∧ RowPost w b o v (q ++ [x]) w' := by
  have hbw := World.block_lt_of_cell? w _ hc
  simp only [] at hbw
  have hne2 : b ≠ w.heap.size := by omega
  have Ho := Lib.hid ho
  have Hne := Lib.hid hne
  obtain ⟨A, cap, rfl⟩ := Own.isSlice ho
  obtain ⟨x1, x2⟩ := x
  have Hlt : Hid (∀ k, (Value.slice A q.length cap).ownBlock = some k → k < w.heap.size) := fun k hk => ho.lt k hk
  have Hc := Lib.hid hc
  have Hfz := Lib.hid hfz
  clear ho hne hc hfz
  go_enter Try.func30, Try.ntmps30
  go_wp2_with fail
  generalize hW : World.alloc w _ = w1
  have k1 : Hid (Keeps NoBlock w w1) := by show Keeps _ _ _; rw [← hW]; exact (Keeps.refl _ _).alloc _
  have b1 : Hid (w1.heap[w.heap.size]? = some (.cells #[.int .i64 x1, .int .i64 x2] 76 (0, 0))) := by show _ = _; rw [← hW]; exact block_alloc_new _ _
  have ho1 : Hid (Own w1 76 2 (.slice A q.length cap) q.length (q.flatMap encW)) := Ho.out.keeps k1.out (fun _ _ h => h)
  have c1 : w1.cell? ⟨b, o, none⟩ = some (.slice A q.length cap) := (k1.out.cell hbw (fun h => h)).trans Hc.out
  have f1 : w1.frozen? ⟨b, o, none⟩ = false := (k1.out.frozen hbw (fun h => h)).trans Hfz.out
  have y0 : w1.cell? ⟨w.heap.size, 0, none⟩ = some (.int .i64 x1) := cell_of_block (o := 0) b1.out rfl
  have y1 : w1.cell? ⟨w.heap.size, 1, none⟩ = some (.int .i64 x2) := cell_of_block (o := 1) b1.out rfl
  have hs1 : w.heap.size < w1.heap.size := lt_of_block b1.out
  have hb1 : b < w1.heap.size := by omega
  clear hW
  go_region_law
    (first
    | (refine step_app (P := Try.prog) eW ?_ (.tmp 8) (.tmp 10) ?_ (.slice A q.length cap) q.length (q.flatMap encW) ?_ ?_ ⟨w1.heap.size, 0, none⟩ 1 1 [.int .i64 x1, .int .i64 x2] ?_ ?_ (newsB (e := 76) ?_) ?_ ?_ ?_ ?_
       · rfl
       · rfl
       · simp [Act.eval]
       · repeat (first | with_reducible exact ho1.out | with_reducible refine World.ownsRow.alloc ?_ _ | with_reducible refine World.ownsRow.drew ?_)
       · simp [Act.eval]
       · rfl
       · repeat (first | with_reducible exact block_alloc_new _ _ | with_reducible refine blk_drew ?_)
       · simp [Value.oneCell']
       · simp only [maxLen]; omega
       · omega
       intro v5 w5 ho5 hg5 hf5 hs5
       obtain ⟨A5, cap5, rfl⟩ := Own.isSlice ho5
       have K5 : Keeps (fun k => (Value.slice A q.length cap).ownBlock = some k) w1 w5 := by
         refine Keeps.grown ?_ hg5 (fun k hk => .inl hk)
         repeat (first | with_reducible exact Keeps.refl _ _ | with_reducible refine Keeps.alloc ?_ _ | with_reducible refine Keeps.drew ?_)
       have c5 := (K5.cell (o := o) hb1 Hne.out).trans c1
       have f5 := (K5.frozen (o := o) hb1 Hne.out).trans f1
       have z0 := (K5.cell (o := 0) hs1 (fun e => by have := Hlt.out _ e; omega)).trans y0
       have z1 := (K5.cell (o := 1) hs1 (fun e => by have := Hlt.out _ e; omega)).trans y1
       have F5 : ∀ k, (Value.slice A5 (q.length + 1) cap5).ownBlock = some k → (Value.slice A q.length cap).ownBlock = some k ∨ w.heap.size ≤ k := fun k hk => by
         rcases hf5 k hk with h | h
         · exact .inl h
         · right
           first
           | omega
           | (simp only [World.size_alloc, World.size_drew] at h; omega)
           | (simp only [World.size_alloc] at h; omega)
       clear hs5)
    | fail)
  all_goals
    have hpost : Hid (∀ W, Keeps NoBlock (w5.setCell ⟨b, o, none⟩ (.slice A5 (q.length + 1) cap5)) W → RowPost w b o (.slice A q.length cap) (q ++ [(x1, x2)]) W) := fun W kW => by
      refine RowPost.mk (w2 := w5) (v' := .slice A5 (q.length + 1) cap5) hbw Hne.out ?_ ((k1.out.mono (fun _ _ e => e.elim)).trans K5 (fun _ _ e => e)) F5 (kW.mono (fun _ _ e => e.elim))
      rw [List.length_append, List.length_singleton, List.flatMap_append]
      exact ho5
    clear F5 K5 ho5 hg5 hf5 c5 f5 z0 z1
    go_wp2_with fail
    go_end0
    exact ⟨rfl, hpost.out _ (by repeat (first | with_reducible exact Keeps.refl _ _ | with_reducible refine Keeps.drew ?_))⟩

theorem at_emod (c : Int) (n : Nat) (hn : 0 < n) : (c.tmod (n : Int) + n).tmod (n : Int) = c % (n : Int) := by
  have h1 : (n : Int) ≠ 0 := by omega
  rcases Int.le_total 0 c with h | h
  · rw [Int.tmod_eq_emod_of_nonneg h, Int.tmod_eq_emod_of_nonneg (by have := Int.emod_nonneg c h1; omega), Int.add_emod_right, Int.emod_emod]
  · obtain ⟨d, rfl⟩ : ∃ d : Int, c = -d := ⟨-c, by omega⟩
    have hd : 0 ≤ d := by omega
    rw [Int.neg_tmod, Int.tmod_eq_emod_of_nonneg hd]
    have hlt := Int.emod_lt_of_pos d (show (0 : Int) < n by omega)
    rw [Int.tmod_eq_emod_of_nonneg (by omega), Int.add_emod_right]
    have e : -d = -(d % (n : Int)) + (-(d / (n : Int))) * (n : Int) := by
      have h5 := Int.emod_add_mul_ediv d (n : Int)
      rw [Int.mul_comm] at h5
      rw [Int.neg_mul]
      omega
    rw [e, Int.add_mul_emod_self_right]

theorem tmod_bounds (c : Int) (n : Nat) (hn : 0 < n) : -(n : Int) < c.tmod (n : Int) ∧ c.tmod (n : Int) < (n : Int) := by
  have h1 : (n : Int) ≠ 0 := by omega
  rcases Int.le_total 0 c with h | h
  · rw [Int.tmod_eq_emod_of_nonneg h]
    have := Int.emod_nonneg c h1
    have := Int.emod_lt_of_pos c (show (0 : Int) < n by omega)
    omega
  · obtain ⟨d, rfl⟩ : ∃ d : Int, c = -d := ⟨-c, by omega⟩
    have hd : 0 ≤ d := by omega
    rw [Int.neg_tmod, Int.tmod_eq_emod_of_nonneg hd]
    have := Int.emod_nonneg d h1
    have := Int.emod_lt_of_pos d (show (0 : Int) < n by omega)
    omega

/-- Which one a choice picks. -/
def at_ (c : Int) (n : Nat) : Nat := (c % (n : Int)).toNat

theorem at_lt (c : Int) {n : Nat} (hn : 0 < n) : at_ c n < n := by
  unfold at_
  have := Int.emod_lt_of_pos c (show (0 : Int) < n by omega)
  have := Int.emod_nonneg c (show (n : Int) ≠ 0 by omega)
  omega

theorem at_int (c : Int) {n : Nat} (hn : 0 < n) : ((at_ c n : Nat) : Int) = c % (n : Int) := by
  unfold at_
  have := Int.emod_nonneg c (show (n : Int) ≠ 0 by omega)
  omega

set_option maxRecDepth 100000 in
theorem take_none {w : World} {b o : Nat} {v : Value} (c : Int) (hc : w.cell? ⟨b, o, none⟩ = some v) (ho : Own w 76 2 v 0 []) :
    Calls Try.prog 31 #[.pointer (some ⟨b, o, none⟩), .int .i64 c] w fun e w' => e = .returned (.tuple #[.agg #[.int .i64 0, .int .i64 0], .bool false]) ∧ Keeps NoBlock w w' := by
  have hbw := World.block_lt_of_cell? w _ hc
  simp only [] at hbw
  obtain ⟨A, cap, rfl⟩ := Own.isSlice ho
  clear ho
  go_enter Try.func31, Try.ntmps31
  go_wp2_with fail
  refine bodyPost_ret (v := .tuple #[.agg #[.int .i64 0, .int .i64 0], .bool false]) ?_ rfl ?_
  · simp [results, Try.results31, go_sem]
  · exact ⟨rfl, (Keeps.refl _ _).alloc _⟩

set_option maxRecDepth 100000 in
set_option maxHeartbeats 1000000 in
theorem take_calls {w : World} {b o : Nat} {v : Value} {q : List Wt} {x : Wt} (c : Int) (hq : 0 < q.length) (hx : q[at_ c q.length]? = some x) (hc : w.cell? ⟨b, o, none⟩ = some v) (hfz : w.frozen? ⟨b, o, none⟩ = false) (ho : Own w 76 2 v q.length (q.flatMap encW)) (hne : v.ownBlock ≠ some b) (hl : q.length ≤ 1000000) :
    Calls Try.prog 31 #[.pointer (some ⟨b, o, none⟩), .int .i64 c] w fun e w' => e = .returned (.tuple #[.agg #[.int .i64 x.1, .int .i64 x.2], .bool true]) ∧ RowPost w b o v (q.eraseIdx (at_ c q.length)) w' := by
  have hbw := World.block_lt_of_cell? w _ hc
  simp only [] at hbw
  obtain ⟨g, cap, rfl, hgw, hnc, hcm⟩ : ∃ g cap, v = .slice (some ⟨g, 0, none⟩) q.length cap ∧ g < w.heap.size ∧ q.length ≤ cap ∧ cap ≤ maxLen := by
    rcases Own.form ho with ⟨_, h0⟩ | h
    · omega
    · exact h
  have hal := at_lt c hq
  have hai := at_int c hq
  have hae := at_emod c q.length hq
  obtain ⟨ix, hix⟩ : ∃ ix, at_ c q.length = ix := ⟨_, rfl⟩
  rw [hix] at hx hal hai ⊢
  rw [← hai] at hae
  obtain ⟨r1, hr1⟩ : ∃ r1 : Int, c.tmod (q.length : Int) = r1 := ⟨_, rfl⟩
  rw [hr1] at hae
  have hr1b : -(q.length : Int) < r1 ∧ r1 < (q.length : Int) := by
    rw [← hr1]
    exact tmod_bounds c q.length hq
  have hw1 : IntKind.i64.wrap r1 = r1 := by rw [IntKind.wrap_i64]; omega
  have hw2 : IntKind.i64.wrap (r1 + (q.length : Int)) = r1 + (q.length : Int) := by rw [IntKind.wrap_i64]; omega
  have hw3 : IntKind.i64.wrap (ix : Int) = (ix : Int) := by rw [IntKind.wrap_i64]; omega
  have hw4 : IntKind.i64.wrap ((ix : Int) + 1) = (ix : Int) + 1 := by rw [IntKind.wrap_i64]; omega
  have hq0 : ((q.length : Int) == 0) = false := by rw [beq_eq_false_iff_ne]; omega
  have Ho := Lib.hid ho
  have Hne := Lib.hid hne
  have Hx := Lib.hid hx
  clear ho hne hx hix hai
  go_enter Try.func31, Try.ntmps31
  go_upto_region 1 with fail
  generalize hW : World.alloc w _ = w1
  have k1 : Hid (Keeps NoBlock w w1) := by show Keeps _ _ _; rw [← hW]; exact (Keeps.refl _ _).alloc _
  have r1b : Hid (w1.heap[w.heap.size]? = some (.cells #[.int .i64 0, .int .i64 0] 76 (0, 0))) := by show _ = _; rw [← hW]; exact block_alloc_new _ _
  have o1 : Hid (Own w1 76 2 (.slice (some ⟨g, 0, none⟩) q.length cap) q.length (q.flatMap encW)) := Ho.out.keeps k1.out (fun _ _ h => h)
  have c1 : w1.cell? ⟨b, o, none⟩ = some (.slice (some ⟨g, 0, none⟩) q.length cap) := (k1.out.cell hbw (fun h => h)).trans hc
  have f1 : w1.frozen? ⟨b, o, none⟩ = false := (k1.out.frozen hbw (fun h => h)).trans hfz
  obtain ⟨e0, e1⟩ := wt_cells rfl o1.out Hx.out
  have hR := lt_of_block r1b.out
  have hb1 : b < w1.heap.size := by omega
  have hi0 : (0 : Int) ≤ (ix : Int) := by omega
  have hi1 : (ix : Int) < (q.length : Int) := by omega
  clear hW
  go_upto_region 6 with fail
  generalize hW : World.alloc w1 _ = w2
  have k2 : Hid (Keeps NoBlock w1 w2) := by show Keeps _ _ _; rw [← hW]; exact (Keeps.refl _ _).alloc _
  have x2 : Hid (w2.heap[w1.heap.size]? = some (.cells #[.int .i64 x.1, .int .i64 x.2] 76 (0, 0))) := by show _ = _; rw [← hW]; exact block_alloc_new _ _
  have r2 : Hid (w2.heap[w.heap.size]? = some (.cells #[.int .i64 0, .int .i64 0] 76 (0, 0))) := (k2.out.block _ (lt_of_block r1b.out) (fun h => h)).trans r1b.out
  have o2 : Hid (Own w2 76 2 (.slice (some ⟨g, 0, none⟩) q.length cap) q.length (q.flatMap encW)) := o1.out.keeps k2.out (fun _ _ h => h)
  have c2 : w2.cell? ⟨b, o, none⟩ = some (.slice (some ⟨g, 0, none⟩) q.length cap) := (k2.out.cell hb1 (fun h => h)).trans c1
  have f2 : w2.frozen? ⟨b, o, none⟩ = false := (k2.out.frozen hb1 (fun h => h)).trans f1
  have hb2 : b < w2.heap.size := by have := k2.out.size; omega
  have hbg : Hid (b ≠ g) := fun e => Hne.out (by rw [e]; rfl)
  have C2 := Lib.hid c2
  have F2 := Lib.hid f2
  have K02 : Hid (Keeps NoBlock w w2) := k1.out.trans k2.out (fun _ _ h => h)
  clear e0 e1 c1 f1 hW
  go_wp2_with fail
  refine (delW_calls g q.length cap ix (q.flatMap encW) hal hnc hcm w2 o2.out (encW_one q)).mono ?_
  rintro e w3 ⟨rfl, o3, k3⟩
  rw [flat_erase encW 2 encW_len] at o3
  have hln : (q.eraseIdx ix).length = q.length - 1 := List.length_eraseIdx_of_lt hal
  have hgR : g ≠ w.heap.size := by omega
  have hgX : g ≠ w1.heap.size := by omega
  have C3 := (k3.cell (o := o) hb2 hbg.out).trans C2.out
  have F3 := (k3.frozen (o := o) hb2 hbg.out).trans F2.out
  have X3 := (k3.block _ (lt_of_block x2.out) (fun e => hgX e.symm)).trans x2.out
  have R3 := (k3.block _ (lt_of_block r2.out) (fun e => hgR e.symm)).trans r2.out
  have x30 : w3.cell? ⟨w1.heap.size, 0, none⟩ = some (.int .i64 x.1) := cell_of_block (o := 0) X3 rfl
  have x31 : w3.cell? ⟨w1.heap.size, 1, none⟩ = some (.int .i64 x.2) := cell_of_block (o := 1) X3 rfl
  have r30 : w3.cell? ⟨w.heap.size, 0, none⟩ = some (.int .i64 0) := cell_of_block (o := 0) R3 rfl
  have r31 : w3.cell? ⟨w.heap.size, 1, none⟩ = some (.int .i64 0) := cell_of_block (o := 1) R3 rfl
  have rf0 := frozen_of_block R3 (o := 0)
  have rf1 := frozen_of_block R3 (o := 1)
  have hbR : b ≠ w.heap.size := by omega
  have hRb : w.heap.size ≠ b := by omega
  have hbX : b ≠ w1.heap.size := by omega
  have hXb : w1.heap.size ≠ b := by omega
  have hRX : w.heap.size ≠ w1.heap.size := by omega
  have hXR : w1.heap.size ≠ w.heap.size := by omega
  have O3 := Lib.hid o3
  have K3 := Lib.hid k3
  clear o3 k3 c2 f2 X3 R3
  go_wp2_with fail
  have hpost : RowPost w b o (.slice (some ⟨g, 0, none⟩) q.length cap) (q.eraseIdx ix) (((w3.setCell ⟨b, o, none⟩ (.slice (some ⟨g, 0, none⟩) (q.length - 1) cap)).setCell ⟨w.heap.size, 0, none⟩ (.int .i64 x.1)).setCell ⟨w.heap.size, 1, none⟩ (.int .i64 x.2)) := by
    have hS : w.heap.size ≤ w.heap.size ∧ (Value.slice (some ⟨g, 0, none⟩) (q.length - 1) cap).ownBlock ≠ some w.heap.size := ⟨Nat.le_refl _, fun e => by simp only [Value.ownBlock, Option.some.injEq] at e; exact hgR e⟩
    refine RowPost.mk (w2 := w3) (v' := .slice (some ⟨g, 0, none⟩) (q.length - 1) cap) hbw Hne.out ?_ ?_ (fun k hk => .inl hk) ?_
    · rw [hln]
      exact O3.out
    · exact (K02.out.mono (S' := fun k => (Value.slice (some ⟨g, 0, none⟩) q.length cap).ownBlock = some k) (fun _ _ e => e.elim)).trans K3.out (fun _ _ e => by rw [e]; rfl)
    · exact Keeps.set (S := fun k => w.heap.size ≤ k ∧ (Value.slice (some ⟨g, 0, none⟩) (q.length - 1) cap).ownBlock ≠ some k) (Keeps.set (S := fun k => w.heap.size ≤ k ∧ (Value.slice (some ⟨g, 0, none⟩) (q.length - 1) cap).ownBlock ≠ some k) (Keeps.refl _ _) (.inl hS) _) (.inl hS) _
  have hR8 : (((w3.setCell ⟨b, o, none⟩ (.slice (some ⟨g, 0, none⟩) (q.length - 1) cap)).setCell ⟨w.heap.size, 0, none⟩ (.int .i64 x.1)).setCell ⟨w.heap.size, 1, none⟩ (.int .i64 x.2)).heap[w.heap.size]? = some (.cells #[.int .i64 x.1, .int .i64 x.2] 76 (0, 0)) := by
    have h3 := (K3.out.block _ (lt_of_block r2.out) (fun e => hgR e.symm)).trans r2.out
    exact block_set (block_set ((block_set_ne (by exact hRb) _).trans h3) _) _
  generalize (((w3.setCell ⟨b, o, none⟩ (.slice (some ⟨g, 0, none⟩) (q.length - 1) cap)).setCell ⟨w.heap.size, 0, none⟩ (.int .i64 x.1)).setCell ⟨w.heap.size, 1, none⟩ (.int .i64 x.2)) = W8 at hpost hR8 ⊢
  have z0 : W8.cell? ⟨w.heap.size, 0, none⟩ = some (.int .i64 x.1) := cell_of_block (o := 0) hR8 rfl
  have z1 : W8.cell? ⟨w.heap.size, 1, none⟩ = some (.int .i64 x.2) := cell_of_block (o := 1) hR8 rfl
  refine bodyPost_ret (v := .tuple #[.agg #[.int .i64 x.1, .int .i64 x.2], .bool true]) ?_ rfl ⟨rfl, hpost⟩
  simp [results, Try.results31, go_sem, z0, z1]

end Gt
end Go.Proofs.Ytlgolofcpokndaa
