/- Layer 6's fixed fact; a clock of the call's own. -/
import Derived.Test.YtlnoejmckpimnaaWhB
import Derived.Test.YtlnoejmckpimnaaRef02
namespace Go.Proofs.Ytlnoejmckpimnaa
open Go.RowKit Go.Maps
namespace Wh

theorem lt_ext : ∀ {xs ys : List Int}, xs.Pairwise (· < ·) → ys.Pairwise (· < ·) → (∀ k, k ∈ xs ↔ k ∈ ys) → xs = ys
  | [], [], _, _, _ => rfl
  | [], b :: ys, _, _, h => by have := (h b).2 (by simp); simp at this
  | a :: xs, [], _, _, h => by have := (h a).1 (by simp); simp at this
  | a :: xs, b :: ys, ha, hb, h => by
    obtain ⟨ha1, ha2⟩ := List.pairwise_cons.1 ha
    obtain ⟨hb1, hb2⟩ := List.pairwise_cons.1 hb
    have e : a = b := by
      have h1 := (h a).1 (by simp)
      have h2 := (h b).2 (by simp)
      rw [List.mem_cons] at h1 h2
      rcases h1 with h1 | h1
      · exact h1
      · rcases h2 with h2 | h2
        · exact h2.symm
        · have := hb1 a h1; have := ha1 b h2; omega
    subst e
    rw [lt_ext ha2 hb2 (fun k => ?_)]
    constructor
    · intro hk
      have h1 := (h k).1 (List.mem_cons_of_mem _ hk)
      rcases List.mem_cons.1 h1 with rfl | h1
      · have := ha1 k hk; omega
      · exact h1
    · intro hk
      have h1 := (h k).2 (List.mem_cons_of_mem _ hk)
      rcases List.mem_cons.1 h1 with rfl | h1
      · have := hb1 k hk; omega
      · exact h1

theorem eq_single {ks : List Int} {x : Int} (h : ks.Pairwise (· < ·)) (hm : ∀ k, k ∈ ks ↔ k = x) : ks = [x] :=
  lt_ext h (List.pairwise_singleton _ _) (fun k => by rw [hm, List.mem_singleton])

theorem eq_none {ks : List Int} (hm : ∀ k, k ∉ ks) : ks = [] := by
  cases ks with
  | nil => rfl
  | cons a xs => exact absurd (List.mem_cons_self (a := a) (l := xs)) (hm a)

theorem litI {w : World} {q : Nat} {x : Int} (h : w.heap[q]? = some (.cells #[.int .i64 x] 3 (0, 0))) : ReadsI .i64 w (.slice (some ⟨q, 0, none⟩) 1 1) [x] :=
  ⟨_, q, 0, 1, rfl, fun _ => ⟨rfl, lt_of_block h⟩, fun j y hy => by
    match j, hy with
    | 0, hy => simp at hy; subst hy; rw [Nat.zero_add]; exact cell_of_block h rfl⟩

/-- A clock that the call begun at w has made. -/
structure Wl (w : World) (d mb n : Nat) (now : Int) (f : Int → Int) (wr : World) : Prop where
  wh : WhAt wr d mb n now f
  kp : Keeps NoBlock w wr
  ld : w.heap.size ≤ d
  lm : w.heap.size ≤ mb

abbrev Two (d mb : Nat) : Nat → Prop := fun b => b = d ∨ b = mb

theorem Wl.step {w wr w' : World} {d mb n n' : Nat} {now now' : Int} {f f' : Int → Int} (h : Wl w d mb n now f wr) (h' : WhAt w' d mb n' now' f') (k : Keeps (Two d mb) wr w') : Wl w d mb n' now' f' w' :=
  ⟨h', (h.kp.mono (S' := Two d mb) (fun _ _ e => e.elim)).trans k (fun _ _ e => e) |>.mono (fun j hj e => by
    rcases e with rfl | rfl
    · have := h.ld; omega
    · have := h.lm; omega), h.ld, h.lm⟩

theorem Wl.keeps {w wr w' : World} {d mb n : Nat} {now : Int} {f : Int → Int} (h : Wl w d mb n now f wr) (k : Keeps NoBlock wr w') : Wl w d mb n now f w' :=
  ⟨h.wh.keeps k (fun e => e) (fun e => e), h.kp.trans k (fun _ _ e => e), h.ld, h.lm⟩

theorem Wl.begin {w w' : World} {d mb : Nat} (h1 : w.heap.size ≤ d) (h2 : w.heap.size ≤ mb) (h : WhAt w' d mb 0 0 (fun _ => 0)) (k : Keeps NoBlock w w') : Wl w d mb 0 0 (fun _ => 0) w' := ⟨h, k, h1, h2⟩

set_option maxRecDepth 100000 in
set_option maxHeartbeats 1000000 in
theorem awake06_calls (w : World) : Calls Try.prog 22 #[] w fun e w' => e = .returned (.bool true) ∧ Keeps NoBlock w w' := by
  go_enter Try.func22, Try.ntmps22
  go_wp2_with fail
  refine (new_calls w).mono ?_
  rintro e w1 ⟨d, mb, rfl, h1, h2, hw1, k1⟩
  have I1 := Lib.hid (Wl.begin h1 h2 hw1 k1)
  clear h1 h2 hw1 k1
  go_wp2_with fail
  refine (sleep_ok I1.out.wh 3 2 (by decide) (by decide) (by decide) rfl (by decide)).mono ?_
  rintro e w2 ⟨rfl, hw2, k2⟩
  have I2 := Lib.hid (I1.out.step hw2 (k2.mono (fun _ _ e => .inr e)))
  clear hw2 k2 I1
  go_wp2_with fail
  refine (sleep_ok I2.out.wh 1 1 (by decide) (by decide) (by decide) rfl (by decide)).mono ?_
  rintro e w3 ⟨rfl, hw3, k3⟩
  have I3 := Lib.hid (I2.out.step hw3 (k3.mono (fun _ _ e => .inr e)))
  clear hw3 k3 I2
  go_wp2_with fail
  refine (sleep_busy I3.out.wh 3 9 (by decide) (by decide) (by decide) (by decide)).mono ?_
  rintro e w4 ⟨rfl, rfl⟩
  go_wp2_with fail
  refine (tick_calls I3.out.wh (by decide) (lim := 1) (by decide)).mono ?_
  rintro e w4 ⟨A, c, ks, rfl, ho4, hp4, hm4, hf4, hw4, k4, hl4⟩
  obtain rfl : ks = [1] := eq_single hp4 (fun k => by
    rw [hm4]
    by_cases e : k = 1
    · subst e; decide
    · by_cases e3 : k = 3
      · subst e3; decide
      · simp [e, e3])
  have I4 := Lib.hid (I3.out.step hw4 k4)
  have R4 : Hid (ReadsI .i64 w4 (.slice A 1 c) [1]) := Own.readsI (xs := [1]) ho4
  have F4 : Hid (∀ b, (Value.slice A 1 c).ownBlock = some b → b ≠ d ∧ b ≠ mb) := fun b hb => by
    have := hf4 b hb
    have := lt_of_block I3.out.wh.head
    have := I3.out.wh.lt
    omega
  clear ho4 hp4 hm4 hf4 hw4 k4 hl4 I3
  simp only [List.length_singleton]
  go_wp2_with fail
  refine (tick_calls I4.out.wh (by decide) (lim := 2) (by decide)).mono ?_
  rintro e w5 ⟨A2, c2, ks, rfl, ho5, hp5, hm5, hf5, hw5, k5, hl5⟩
  obtain rfl : ks = [3] := eq_single hp5 (fun k => by
    rw [hm5]
    by_cases e : k = 1
    · subst e; decide
    · by_cases e3 : k = 3
      · subst e3; decide
      · simp [e, e3])
  have I5 := Lib.hid (I4.out.step hw5 k5)
  have R5 : Hid (ReadsI .i64 w5 (.slice A2 1 c2) [3]) := Own.readsI (xs := [3]) ho5
  have R45 : Hid (ReadsI .i64 w5 (.slice A 1 c) [1]) := R4.out.keeps k5 (fun b hb e => by
    have := F4.out b hb
    rcases e with e | e
    · exact this.1 e
    · exact this.2 e)
  clear ho5 hp5 hm5 hf5 hw5 k5 hl5 R4 F4 I4
  simp only [List.length_singleton]
  go_wp2_with fail
  refine (ints_calls _ _ [1] [1] _ (R45.out.keeps ((Keeps.refl NoBlock w5).alloc _) (fun _ _ e => e)) (litI (block_alloc_new _ _)) (by decide) (by decide)).mono ?_
  rintro e w6 ⟨rfl, k6⟩
  rw [decide_eq_true rfl]
  have K6 : Hid (Keeps NoBlock w5 w6) := ((Keeps.refl NoBlock w5).alloc _).trans k6 (fun _ _ e => e)
  clear k6
  go_wp2_with fail
  refine (ints_calls _ _ [3] [3] _ (R5.out.keeps (K6.out.alloc _) (fun _ _ e => e)) (litI (block_alloc_new _ _)) (by decide) (by decide)).mono ?_
  rintro e w7 ⟨rfl, k7⟩
  rw [decide_eq_true rfl]
  have I7 := Lib.hid (I5.out.keeps ((K6.out.alloc _).trans k7 (fun _ _ e => e)))
  clear k7 I5 K6 R5 R45
  go_wp2_with fail
  refine (now_calls I7.out.wh).mono ?_
  rintro e w8 ⟨rfl, rfl⟩
  go_wp2_with fail
  refine (sleep_bad d 1 0 _ (.inl (by decide))).mono ?_
  rintro e w8 ⟨rfl, rfl⟩
  go_wp2_with fail
  go_ret
  exact ⟨rfl, I7.out.kp⟩

end Wh
end Go.Proofs.Ytlnoejmckpimnaa
