/- Layer 5's statements: a deque made in the law, the fixed fact, and no deque at all. -/
import Derived.Test.YtmpingalekdlnaaDqC
import Derived.Test.YtmpingalekdlnaaRef02b
namespace Go.Proofs.Ytmpingalekdlnaa
open Go.RowKit
namespace Dq

def Fr (B i : Nat) (col : Nat → Nat) : Prop := ∀ k, col k = i → B ≤ k

/-- A deque of the law's own. -/
def DqInv (w : World) (d : Nat) (l : List Int) (wr : World) : Prop := ∃ col, DequeAt col 1 wr d l ∧ Fr w.heap.size 1 col ∧ Keeps NoBlock w wr

theorem DqInv.kp {w wr : World} {d : Nat} {l : List Int} (h : DqInv w d l wr) : Keeps NoBlock w wr := by
  obtain ⟨_, _, _, h⟩ := h
  exact h

theorem DqInv.keeps {w wr w' : World} {d : Nat} {l : List Int} (h : DqInv w d l wr) (k : Keeps NoBlock wr w') : DqInv w d l w' := by
  obtain ⟨col, h1, h2, h3⟩ := h
  exact ⟨col, h1.keeps k (fun _ _ h => h), h2, h3.trans k (fun _ _ h => h)⟩

theorem DqInv.len {w wr : World} {d : Nat} {l : List Int} (h : DqInv w d l wr) : l.length ≤ 1000 := by
  obtain ⟨col, h1, _⟩ := h
  exact h1.len

theorem inv_new (w : World) : Calls Try.prog 20 #[] w fun e w' => e = .returned (.pointer (some ⟨w.heap.size, 0, none⟩)) ∧ DqInv w w.heap.size [] w' := (new_calls w).mono fun e w' ⟨he, hw⟩ => by
  subst hw
  have h := DequeAt.new (col := fun _ => 0) (i := 1) w (fun k hk => by simp at hk)
  refine ⟨he, _, h.1, fun k hk => ?_, (Keeps.refl _ _).alloc _⟩
  by_cases hh : k = w.heap.size
  · omega
  · have hk' : (if k = w.heap.size then 1 else 0) = 1 := hk
    rw [if_neg hh] at hk'; simp at hk'

theorem inv_step {f : FuncId} {args : Array Value} {w wr : World} {d : Nat} {l l' : List Int} {r : Ending} (I : DqInv w d l wr) (h : ∀ col, DequeAt col 1 wr d l → Calls Try.prog f args wr (Step col 1 wr d l' r)) :
    Calls Try.prog f args wr fun e w' => e = r ∧ DqInv w d l' w' := by
  obtain ⟨col, h1, h2, h3⟩ := I
  refine (h col h1).mono ?_
  rintro e w' ⟨col', rfl, h4, h5⟩
  refine ⟨rfl, col', h4, fun k hk => ?_, h3.trans h5.1 (fun j hj hh => by have := h2 j hh; omega)⟩
  rcases h5.2 k with h6 | h6
  · rw [h6] at hk; exact h2 k hk
  · have := h3.size; omega

theorem inv_same {f : FuncId} {args : Array Value} {w wr : World} {d : Nat} {l : List Int} {r : Ending} (I : DqInv w d l wr) (h : ∀ col, DequeAt col 1 wr d l → Calls Try.prog f args wr fun e w' => e = r ∧ wr = w') :
    Calls Try.prog f args wr fun e w' => e = r ∧ DqInv w d l w' := by
  have I' := I
  obtain ⟨col, h1, h2, h3⟩ := I
  refine (h col h1).mono ?_
  rintro e w' ⟨rfl, rfl⟩
  exact ⟨rfl, I'⟩

theorem inv_all {w wr : World} {d : Nat} {l : List Int} (I : DqInv w d l wr) : Calls Try.prog 27 #[.pointer (some ⟨d, 0, none⟩)] wr fun e w' => ∃ A c, e = .returned (.slice A l.length c) ∧ ReadsI .i64 w' (.slice A l.length c) l ∧ (∀ b, (Value.slice A l.length c).ownBlock = some b → wr.heap.size ≤ b ∧ b < w'.heap.size) ∧ DqInv w d l w' := by
  have I' := I
  obtain ⟨col, h1, h2, h3⟩ := I
  refine (all_calls d l wr h1).mono ?_
  rintro e w' ⟨A, c, rfl, hr, hf, hk⟩
  exact ⟨A, c, rfl, hr, hf, I'.keeps hk⟩

theorem litI {w : World} {q : Nat} {x : Int} (h : w.heap[q]? = some (.cells #[.int .i64 x] 3 (0, 0))) : ReadsI .i64 w (.slice (some ⟨q, 0, none⟩) 1 1) [x] :=
  ⟨_, q, 0, 1, rfl, fun _ => ⟨rfl, lt_of_block h⟩, fun j y hy => by
    match j, hy with
    | 0, hy => simp at hy; subst hy; rw [Nat.zero_add]; exact cell_of_block h rfl⟩

set_option maxRecDepth 100000 in
theorem awake05_calls (w : World) : Calls Try.prog 26 #[] w fun e w' => e = .returned (.bool true) ∧ Keeps NoBlock w w' := by
  go_enter Try.func26, Try.ntmps26
  go_wp2_with fail
  refine (inv_new w).mono ?_
  rintro e w1 ⟨rfl, I1⟩
  go_wp2_with fail
  refine (inv_step I1 (fun col h => push_new w.heap.size [] 1 _ h rfl (by decide))).mono ?_
  rintro e w2 ⟨rfl, I2⟩
  go_wp2_with fail
  refine (inv_step I2 (fun col h => pushF_new w.heap.size [1] 2 _ h rfl (by decide))).mono ?_
  rintro e w3 ⟨rfl, I3⟩
  go_wp2_with fail
  refine (inv_same I3 (fun col h => push_has w.heap.size [2, 1] 1 _ h rfl)).mono ?_
  rintro e w4 ⟨rfl, I4⟩
  go_wp2_with fail
  refine (inv_step I4 (fun col h => popB_calls w.heap.size [2, 1] 1 _ h rfl)).mono ?_
  rintro e w5 ⟨rfl, I5⟩
  have I5' : DqInv w w.heap.size [2] w5 := I5
  clear I1 I2 I3 I4 I5
  go_wp2_with fail
  refine (inv_all I5').mono ?_
  rintro e w6 ⟨A6, c6, rfl, r6, _, I6⟩
  have k6 : Keeps NoBlock w6 (w6.alloc (.cells #[.int .i64 2] 3)) := (Keeps.refl _ _).alloc _
  have R6 := Lib.hid (r6.keeps k6 (fun _ _ h => h))
  have R7 := Lib.hid (litI (block_alloc_new w6 (.cells #[.int .i64 2] 3)))
  have I7 := I6.keeps k6
  clear r6 I6 k6 I5'
  go_wp2_with fail
  refine (ints_calls _ _ [2] [2] _ R6.out R7.out (by decide) (by decide)).mono ?_
  rintro e w8 ⟨rfl, k8⟩
  rw [decide_eq_true rfl]
  have I8 := I7.keeps k8
  clear I7 k8
  go_wp2_with fail
  refine (inv_step I8 (fun col h => drop_some w.heap.size [2] 2 0 _ h rfl (fun j y hj => by omega))).mono ?_
  rintro e w9 ⟨rfl, I9⟩
  have I9' : DqInv w w.heap.size [] w9 := I9
  clear I8 I9
  go_wp2_with fail
  refine (inv_same I9' (fun col h => drop_none w.heap.size [] 2 _ h rfl)).mono ?_
  rintro e w10 ⟨rfl, I10⟩
  go_wp2_with fail
  go_ret
  exact ⟨rfl, I10.kp⟩

theorem none_calls (n : Int) (w : World) : Calls Try.prog 8 #[.int .i64 n] w fun e w' => e = .returned (.bool true) ∧ Below w.heap.size w w' := by
  go_enter Try.func8, Try.ntmps8
  go_wp2_with fail
  refine (pop_nil _).mono ?_
  rintro e w' ⟨rfl, rfl⟩
  go_wp2_with fail
  refine (popB_nil _).mono ?_
  rintro e w' ⟨rfl, rfl⟩
  go_wp2_with fail
  refine (awake05_calls _).mono ?_
  rintro e w1 ⟨rfl, k1⟩
  go_wp2_with fail
  refine (push_nil _ _).mono ?_
  rintro e w' ⟨rfl, rfl⟩
  go_wp2_with fail
  refine (pushF_nil _ _).mono ?_
  rintro e w' ⟨rfl, rfl⟩
  go_wp2_with fail
  refine (drop_nil _ _).mono ?_
  rintro e w' ⟨rfl, rfl⟩
  go_wp2_with fail
  refine (all_nil _).mono ?_
  rintro e w' ⟨rfl, rfl⟩
  go_wp2_with fail
  go_ret
  exact ⟨rfl, k1.below (Nat.le_refl _) (fun _ h => h.elim)⟩

theorem none_row (w : World) (n : Int) (_h : (Lit.int .i64 n).wf = true) : Calls Try.prog 8 #[.int .i64 n] w fun e w' => e = .returned (.bool true) ∧ Below w.heap.size w w' := none_calls n w
end Dq
end Go.Proofs.Ytmpingalekdlnaa
