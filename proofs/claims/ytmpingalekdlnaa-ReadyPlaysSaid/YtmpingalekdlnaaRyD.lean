/- Package ready: rows are made, and a thread comes. -/
import Derived.Test.YtmpingalekdlnaaRyC
import Derived.Lib.MinMax
import Derived.Deep.AppendLies
namespace Go.Proofs.Ytmpingalekdlnaa
open Go.RowKit
namespace Ry
open Dq

theorem elP : Elem Try.prog 53 43 (.pointer none) 1 8 := Elem.mk' (by kernel_rfl) (by kernel_rfl) rfl (by decide)

theorem DequeAt.recolK {S : Nat → Prop} {col col' : Nat → Nat} {i : Nat} {w w' : World} {d : Nat} {l : List Int} (h : DequeAt col i w d l) (k : Keeps S w w') (hS : ∀ j, col j = i → ¬ S j) (e : ∀ x, x < w.heap.size → col' x = col x) (b : ∀ x, col' x = i → x < w'.heap.size) : DequeAt col' i w' d l := by
  obtain ⟨A, c, h⟩ := h
  have h' := h.keeps k hS
  exact ⟨A, c, h'.head, h'.own, by rw [e d (lt_of_block h.head)]; exact h.cd, fun k hk => by rw [e k (h.own.lt k hk)]; exact h.cr k hk, b, h.len⟩

/-- One deque's step. -/
theorem RowsIn.step {col col' : Nat → Nat} {w w' : World} {r n : Nat} {A : Option Addr} {c : Nat} {ds : List Nat} {qs : List (List Int)} (h : RowsIn col w r n A c ds qs) {k d : Nat} {q' : List Int} (hd : ds[k]? = some d)
    (h1 : DequeAt col' (k + 2) w' d q') (h2 : NextC (k + 2) col col' w w') : RowsIn col' w' r n A c ds (qs.set k q') := by
  have hr := lt_of_block h.head
  refine ⟨?_, h.own.keeps h2.1 ?_, ?_, ?_, h.dl, by rw [List.length_set]; exact h.ql, ?_⟩
  · rw [h2.1.block r hr (fun hh => by rw [h.cr] at hh; omega)]; exact h.head
  · intro b hb hh
    have := (h.ca b hb).1
    rw [this] at hh; omega
  · rw [h2.old hr]; exact h.cr
  · intro b hb
    rw [h2.old (h.own.lt b hb)]; exact h.ca b hb
  · intro j d' q hd' hq
    by_cases e : j = k
    · subst e
      rw [hd] at hd'
      cases hd'
      rw [List.getElem?_set_self' ] at hq
      cases hq' : qs[j]? with
      | none => rw [hq'] at hq; simp at hq
      | some q0 => rw [hq'] at hq; simp at hq; rw [← hq]; exact h1
    · rw [List.getElem?_set_ne (Ne.symm e)] at hq
      exact (h.deq j d' q hd' hq).other h2 (by omega)

/-- One deque more. -/
theorem RowsIn.add {col : Nat → Nat} {w w4 : World} {r k : Nat} {A A' : Option Addr} {c c' d : Nat} {ds : List Nat} {qs : List (List Int)} (h : RowsIn col w r k A c ds qs) (hz : ∀ x, col x ≠ 0 → x < w.heap.size) (hd : d = w.heap.size)
    (h1 : w4.heap[r]? = some (.cells #[.slice A' (k + 1) c'] 55 (0, 0))) (h2 : Own w4 43 1 (.slice A' (k + 1) c') (k + 1) (ds.map ptr ++ [ptr d]))
    (h3 : w4.heap[d]? = some (.cells #[.slice none 0 0] 59 (0, 0))) (h4 : Keeps (fun x => x = r ∨ (Value.slice A k c).ownBlock = some x) w w4)
    (h5 : ∀ x, (Value.slice A' (k + 1) c').ownBlock = some x → (Value.slice A k c).ownBlock = some x ∨ w.heap.size < x) :
    ∃ col', RowsIn col' w4 r (k + 1) A' c' (ds ++ [d]) (qs ++ [[]]) ∧ ∀ x, col' x = col x ∨ (w.heap.size ≤ x ∧ x < w4.heap.size) := by
  subst hd
  have hr := lt_of_block h.head
  obtain ⟨col', hc'⟩ : ∃ col' : Nat → Nat, col' = fun x => if x = w.heap.size then k + 2 else if (Value.slice A' (k + 1) c').ownBlock = some x then 1 else col x := ⟨_, rfl⟩
  have cd : col' w.heap.size = k + 2 := by rw [hc']; simp
  have cl : ∀ x, (Value.slice A' (k + 1) c').ownBlock = some x → col' x = 1 := fun x hx => by
    have hne : x ≠ w.heap.size := by
      rcases h5 x hx with h' | h'
      · have := h.own.lt x h'; omega
      · omega
    rw [hc']; simp only [if_neg hne, if_pos hx]
  have co : ∀ x, x < w.heap.size → col' x = col x := fun x hx => by
    rw [hc']
    simp only [if_neg (show x ≠ w.heap.size by omega)]
    split
    · rename_i hb
      rcases h5 x hb with h' | h'
      · exact ((h.ca x h').1).symm
      · omega
    · rfl
  have cn : ∀ x, col' x ≠ 0 → x < w4.heap.size := fun x hx => by
    rw [hc'] at hx
    by_cases e1 : x = w.heap.size
    · rw [e1]; exact lt_of_block h3
    · by_cases e2 : (Value.slice A' (k + 1) c').ownBlock = some x
      · exact h2.lt x e2
      · simp only [if_neg e1, if_neg e2] at hx
        exact Nat.lt_of_lt_of_le (hz x hx) h4.size
  refine ⟨col', ⟨h1, by rw [List.map_append]; exact h2, by rw [co r hr]; exact h.cr, fun x hx => ⟨cl x hx, ?_⟩, by simp [h.dl], by simp [h.ql], ?_⟩, fun x => ?_⟩
  · rcases h5 x hx with h' | h'
    · exact (h.ca x h').2
    · omega
  · intro j d q hd hq
    by_cases hj : j < k
    · rw [List.getElem?_append_left (by rw [h.dl]; exact hj)] at hd
      rw [List.getElem?_append_left (by rw [h.ql]; exact hj)] at hq
      have hD := h.deq j d q hd hq
      refine DequeAt.recolK hD h4 (fun x hx hh => ?_) co (fun x hx => cn x (by omega))
      rcases hh with hh | hh
      · rw [hh, h.cr] at hx; omega
      · rw [(h.ca x hh).1] at hx; omega
    · have hjk : j = k := by
        have := (List.getElem?_eq_some_iff.1 hd).1
        simp [h.dl] at this; omega
      subst hjk
      rw [List.getElem?_append_right (by rw [h.dl]; exact Nat.le_refl _), h.dl, Nat.sub_self] at hd
      rw [List.getElem?_append_right (by rw [h.ql]; exact Nat.le_refl _), h.ql, Nat.sub_self] at hq
      simp at hd hq
      subst hd hq
      exact ⟨none, 0, h3, World.ownsRow_nil _ _ _ _, cd, fun x hx => by simp [Value.ownBlock] at hx, fun x hx => cn x (by omega), by simp⟩
  · by_cases hx : x < w.heap.size
    · exact .inl (co x hx)
    · by_cases h0 : col' x = 0
      · refine .inl ?_
        rw [h0]
        by_cases h00 : col x = 0
        · exact h00.symm
        · exact absurd (hz x h00) hx
      · exact .inr ⟨by omega, cn x h0⟩

/-- Rows of the law's own, apart from the blocks of B. -/
def RyS (w : World) (r n : Nat) (qs : List (List Int)) (B : Nat → Prop) (wr : World) : Prop :=
  ∃ (col : Nat → Nat) (A : Option Addr) (c : Nat) (ds : List Nat), RowsIn col wr r n A c ds qs ∧ (∀ x, col x ≠ 0 → w.heap.size ≤ x ∧ x < wr.heap.size) ∧ Keeps NoBlock w wr ∧ ∀ b, B b → col b = 0 ∧ b < wr.heap.size ∧ w.heap.size ≤ b

theorem RyS.kp {w wr : World} {r n : Nat} {qs : List (List Int)} {B : Nat → Prop} (h : RyS w r n qs B wr) : Keeps NoBlock w wr := by
  obtain ⟨_, _, _, _, _, _, h, _⟩ := h
  exact h
theorem RyS.ql {w wr : World} {r n : Nat} {qs : List (List Int)} {B : Nat → Prop} (h : RyS w r n qs B wr) : qs.length = n := by
  obtain ⟨_, _, _, _, h, _⟩ := h
  exact h.ql

/-- The law writes blocks of B alone, or makes new ones. -/
theorem RyS.change {w wr w' : World} {r n : Nat} {qs : List (List Int)} {B B' : Nat → Prop} (h : RyS w r n qs B wr) (k : Keeps B wr w') (hB : ∀ b, B' b → (B b ∨ wr.heap.size ≤ b) ∧ b < w'.heap.size) : RyS w r n qs B' w' := by
  obtain ⟨col, A, c, ds, h1, h2, h3, h4⟩ := h
  have hn : ∀ x, col x ≠ 0 → ¬ B x := fun x hx hb => hx (h4 x hb).1
  refine ⟨col, A, c, ds, ⟨?_, h1.own.keeps k (fun b hb => hn b (by rw [(h1.ca b hb).1]; omega)), h1.cr, h1.ca, h1.dl, h1.ql, fun j d q hd hq => (h1.deq j d q hd hq).keeps k (fun x hx => hn x (by omega))⟩, fun x hx => ⟨(h2 x hx).1, Nat.lt_of_lt_of_le (h2 x hx).2 k.size⟩, h3.trans k (fun j hj hb => by have := (h4 j hb).2.2; omega), fun b hb => ?_⟩
  · rw [k.block r (lt_of_block h1.head) (hn r (by rw [h1.cr]; omega))]; exact h1.head
  · obtain ⟨h5, h6⟩ := hB b hb
    rcases h5 with h5 | h5
    · exact ⟨(h4 b h5).1, h6, (h4 b h5).2.2⟩
    · refine ⟨Classical.byContradiction fun hc => ?_, h6, by have := h3.size; omega⟩
      have := (h2 b hc).2
      omega

theorem RyS.keeps {w wr w' : World} {r n : Nat} {qs : List (List Int)} {B : Nat → Prop} (h : RyS w r n qs B wr) (k : Keeps NoBlock wr w') : RyS w r n qs B w' := by
  have h4 := h
  obtain ⟨_, _, _, _, _, _, _, h4⟩ := h4
  exact h.change (k.mono (fun _ _ h => h.elim)) (fun b hb => ⟨.inl hb, Nat.lt_of_lt_of_le (h4 b hb).2.1 k.size⟩)

/-- A deque's step. -/
theorem RyS.step {col col' : Nat → Nat} {w wr w' : World} {r n : Nat} {A : Option Addr} {c : Nat} {ds : List Nat} {qs : List (List Int)} {B : Nat → Prop} (h1 : RowsIn col wr r n A c ds qs) (h2 : ∀ x, col x ≠ 0 → w.heap.size ≤ x ∧ x < wr.heap.size) (h3 : Keeps NoBlock w wr)
    (h4 : ∀ b, B b → col b = 0 ∧ b < wr.heap.size ∧ w.heap.size ≤ b) {k d : Nat} {q' : List Int} (hd : ds[k]? = some d) (h5 : DequeAt col' (k + 2) w' d q') (h6 : NextC (k + 2) col col' wr w') :
    RyS w r n (qs.set k q') B w' ∧ Keeps (fun b => ¬ B b) wr w' := by
  have hs := h6.1.size
  have hs3 := h3.size
  refine ⟨⟨col', A, c, ds, h1.step hd h5 h6, fun x hx => ?_, h3.trans h6.1 (fun j hj hh => by have := (h2 j (by omega)).1; omega), fun b hb => ⟨by rw [h6.old (h4 b hb).2.1]; exact (h4 b hb).1, by have := (h4 b hb).2.1; omega, (h4 b hb).2.2⟩⟩, h6.1.mono (fun b _ hb hB => by have := (h4 b hB).1; omega)⟩
  rcases h6.2 x with h7 | h7
  · rw [h7] at hx
    have := h2 x hx
    omega
  · omega

set_option maxHeartbeats 1000000 in
theorem new_calls (procs : Int) (n : Nat) (hn : (n : Int) = min (max procs 0) 64) (w : World) : Calls Try.prog 10 #[.int .i64 procs] w fun e w' => e = .returned (ptr w.heap.size) ∧ RyS w w.heap.size n (List.replicate n []) (fun _ => False) w' := by
  obtain ⟨r, hr⟩ : ∃ r, Hid (r = w.heap.size) := ⟨_, rfl⟩
  have S0 : Hid (RyS w r 0 [] (fun _ => False) (w.alloc (.cells #[.slice none 0 0] 55))) := by
    show RyS _ _ _ _ _ _
    rw [hr.out]
    refine ⟨fun x => if x = w.heap.size then 1 else 0, none, 0, [], ⟨block_alloc_new _ _, World.ownsRow_nil _ _ _ _, by simp, fun x hx => by simp [Value.ownBlock] at hx, rfl, rfl, fun j d q hd => by simp at hd⟩, fun x hx => ?_, (Keeps.refl _ _).alloc _, fun _ h => h.elim⟩
    by_cases e : x = w.heap.size
    · subst e; simp
    · simp [e] at hx
  have hn' : min (max procs 0) 64 = (n : Int) := hn.symm
  have hn6 : n ≤ 64 := by omega
  clear hn
  go_enter Try.func10, Try.ntmps10
  go_wp2_with fail
  clear hn'
  rw [← hr.out]
  go_loopw [9] (fun i wr => ∃ k : Nat, k ≤ n ∧ i = .int .i64 k ∧ RyS w r k (List.replicate k []) (fun _ => False) wr) (fun i _ => n - (intOf i).toNat)
  case atStart => exact ⟨0, Nat.zero_le _, rfl, S0.out⟩
  case round =>
    obtain ⟨k, hk, rfl, S⟩ := hrel
    by_cases hkn : k < n
    · obtain ⟨col, A, c, ds, h1, h2, h3, _⟩ := S
      have c0 := cell_of_block h1.head (o := 0) rfl
      have z0 := lt_of_block h1.head
      have hnb : (Value.slice A k c).ownBlock ≠ some r := fun h => (h1.ca r h).2 rfl
      have hfin : Hid (∀ w3 g c', Own w3 43 1 (.slice (some ⟨g, 0, none⟩) (k + 1) c') (k + 1) (ds.map ptr ++ [ptr wr.heap.size]) → World.grownBy ((wr.drew.alloc (.cells #[.slice none 0 0] 59)).alloc (.cells #[ptr wr.heap.size] 43)) w3 (Value.slice A k c).ownBlock →
          ((Value.slice A k c).ownBlock = some g ∨ ((wr.drew.alloc (.cells #[.slice none 0 0] 59)).alloc (.cells #[ptr wr.heap.size] 43)).heap.size ≤ g) → w3.frozen? ⟨r, 0, none⟩ = false ∧ w3.cell? ⟨r, 0, none⟩ = some (.slice A k c) ∧ RyS w r (k + 1) (List.replicate (k + 1) []) (fun _ => False) (w3.setCell ⟨r, 0, none⟩ (.slice (some ⟨g, 0, none⟩) (k + 1) c'))) := by
        intro w3 g c' ho hg hf
        simp only [World.size_alloc, World.size_drew] at hf
        have hb : w3.heap[r]? = some (.cells #[.slice A k c] 55 (0, 0)) := blk_grown hg hnb (block_alloc_old (block_alloc_old (blk_drew h1.head)))
        have hdb : w3.heap[wr.heap.size]? = some (.cells #[.slice none 0 0] 59 (0, 0)) := blk_grown hg (fun e => by have := h1.own.lt _ e; omega) (block_alloc_old (blk_new rfl))
        have hbn := block_set hb (o := 0) (.slice (some ⟨g, 0, none⟩) (k + 1) c')
        have kk : Keeps (fun x => x = r ∨ (Value.slice A k c).ownBlock = some x) wr (w3.setCell ⟨r, 0, none⟩ (.slice (some ⟨g, 0, none⟩) (k + 1) c')) := ((((Keeps.refl _ wr).drew.alloc _).alloc _).grown hg (fun x hx => .inl (.inr hx))).set (.inl (.inl rfl)) _
        obtain ⟨col', h5, h6⟩ := RowsIn.add h1 (fun x hx => (h2 x hx).2) rfl hbn (ho.keeps ((Keeps.refl (fun x => x = r) w3).set (.inl rfl) _) (fun b hb' hbr => by
          simp only [Value.ownBlock, Option.some.injEq] at hb'
          rcases hf with h | h
          · exact hnb (by rw [h, hb', hbr])
          · omega)) (by rw [block_set_ne (by show wr.heap.size ≠ r; omega)]; exact hdb) kk (fun x hx => by
          simp only [Value.ownBlock, Option.some.injEq] at hx
          rcases hf with h | h
          · exact .inl (by rw [h, hx])
          · exact .inr (by omega))
        refine ⟨frozen_of_block hb, cell_of_block hb rfl, col', _, _, _, by rw [List.replicate_succ']; exact h5, fun x hx => ?_, h3.trans kk (fun x hx hh => ?_), fun _ h => h.elim⟩
        · rcases h6 x with h7 | h7
          · rw [h7] at hx
            have := h2 x hx
            have := kk.size
            omega
          · have := h3.size; omega
        · rcases hh with hh | hh
          · have := (h2 r (by rw [h1.cr]; decide)).1; omega
          · have := (h2 x (by rw [(h1.ca x hh).1]; decide)).1; omega
      have H1 := Lib.hid h1
      clear h1 h2 h3
      go_wp2_with fail
      go_region_law (first
        | (refine step_app (P := Try.prog) elP ?_ (.tmp 15) (.tmp 17) ?_ (.slice A k c) k (ds.map ptr) ?_ ?_ ⟨wr.heap.size + 1, 0, none⟩ 1 1 [ptr wr.heap.size] ?_ ?_ (newsB (e := 43) ?_) ?_ ?_ ?_ ?_
           · rfl
           · rfl
           · rfl
           · repeat (first | exact H1.out.own | with_reducible refine World.ownsRow.alloc ?_ _ | with_reducible refine World.ownsRow.drew ?_)
           · rfl
           · rfl
           · repeat (first | (refine blk_new ?_; (simp; done)) | with_reducible refine block_alloc_old ?_ | with_reducible refine blk_drew ?_)
           · simp [Value.oneCell']
           · simp only [maxLen]; omega
           · omega
           intro v5 w5 ho5 hg5 hf5 hs5
           obtain ⟨g5, c5, rfl⟩ := hs5 (by decide)
           obtain ⟨z1, z2, hst⟩ := hfin.out w5 g5 c5 ho5 hg5 (hf5 g5 rfl)
           have Hst := Lib.hid hst
           clear hs5 hf5 ho5 hg5 hst)
        | (go_simp; go_at_call 20; refine (Dq.new_calls _).mono ?_; rintro e w2 ⟨rfl, rfl⟩)
        | fail)
      all_goals
        go_wp2_with fail
        exact ⟨⟨k + 1, by omega, by go_num, Hst.out⟩, by simp [intOf]; omega⟩
    · obtain rfl : k = n := by omega
      go_wp2_with fail
      go_ret
      rw [← hr.out]
      exact ⟨rfl, S⟩
end Ry
end Go.Proofs.Ytmpingalekdlnaa
