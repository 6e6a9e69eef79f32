/- Layer 13's fixed fact. -/
import Derived.Test.YtmpingalekdlnaaRyP
import Derived.Test.YtmpingalekdlnaaRef02b
namespace Go.Proofs.Ytmpingalekdlnaa
open Go.RowKit
namespace Ry
open Dq

theorem litI {w : World} {q : Nat} {x : Int} (h : w.heap[q]? = some (.cells #[.int .i64 x] 3 (0, 0))) : ReadsI .i64 w (.slice (some ⟨q, 0, none⟩) 1 1) [x] :=
  ⟨_, q, 0, 1, rfl, fun _ => ⟨rfl, lt_of_block h⟩, fun j y hy => by
    match j, hy with
    | 0, hy => simp at hy; subst hy; rw [Nat.zero_add]; exact cell_of_block h rfl⟩

def RAll (w : World) (r n : Nat) (qs : List (List Int)) (B : Nat → Prop) (q : List Int) (wr : World) (e : Ending) (w' : World) : Prop :=
  ∃ A c, e = .returned (.slice A q.length c) ∧ ReadsI .i64 w' (.slice A q.length c) q ∧ (∀ b, (Value.slice A q.length c).ownBlock = some b → wr.heap.size ≤ b ∧ b < w'.heap.size) ∧ Keeps NoBlock wr w' ∧ RyS w r n qs B w'

theorem rows_calls {w wr : World} {r n : Nat} {qs : List (List Int)} {B : Nat → Prop} (k : Nat) (q : List Int) (I : RyS w r n qs B wr) (hq : qs[k]? = some q) : Calls Try.prog 16 #[ptr r, .int .i64 k] wr (RAll w r n qs B q wr) := by
  have I' := I
  have hk : k < n := by rw [← I.ql]; exact (List.getElem?_eq_some_iff.1 hq).1
  obtain ⟨col, A, c, ds, h1, _⟩ := I
  refine (Row_in k q h1 hk hq).mono ?_
  rintro e w' ⟨A, c, rfl, h1, h2, h3⟩
  exact ⟨A, c, rfl, h1, h2, h3, I'.keeps h3⟩

theorem rowsOut_calls {w wr : World} {r n : Nat} {qs : List (List Int)} {B : Nat → Prop} (p : Int) (I : RyS w r n qs B wr) (hp : p < 0 ∨ (n : Int) ≤ p) : Calls Try.prog 16 #[ptr r, .int .i64 p] wr fun e w' => e = .returned (.slice none 0 0) ∧ wr = w' := by
  obtain ⟨col, A, c, ds, h1, _⟩ := I
  exact Row_out p h1 hp

theorem rEmpty_calls {w wr : World} {r n : Nat} {qs : List (List Int)} {B : Nat → Prop} (I : RyS w r n qs B wr) (hn : n ≤ 64) : Calls Try.prog 19 #[ptr r] wr fun e w' => e = .returned (.bool (qs.all fun q => decide (q = []))) ∧ Keeps NoBlock wr w' := by
  obtain ⟨col, A, c, ds, h1, _⟩ := I
  exact empty_calls h1 hn

theorem rWhere_calls {w wr : World} {r n : Nat} {qs : List (List Int)} {B : Nat → Prop} (t : Int) (I : RyS w r n qs B wr) (hn : n ≤ 64) : Calls Try.prog 17 #[ptr r, .int .i64 t] wr fun e w' => WhereIs qs t e ∧ Keeps NoBlock wr w' := by
  obtain ⟨col, A, c, ds, h1, _⟩ := I
  exact where_calls t h1 hn

/-- What a pick that is known comes to. -/
theorem PickPost.at {w wr w' : World} {r n : Nat} {qs : List (List Int)} {p : Int} {B : Nat → Prop} {e : Ending} (h : PickPost w r n qs p B wr e w') {k ix : Nat} {q : List Int} {t : Int} (hp : pickR qs p = some (k, ix)) (hq : qs[k]? = some q) (ht : q[ix]? = some t) :
    e = out2 t true ∧ RyS w r n (qs.set k (q.eraseIdx ix)) B w' := by
  rcases h with ⟨h, _⟩ | ⟨k', ix', q', t', h, hq', ht', he, hs, _⟩
  · rw [hp] at h; cases h
  · rw [hp] at h
    simp only [Option.some.injEq, Prod.mk.injEq] at h
    obtain ⟨rfl, rfl⟩ := h
    rw [hq] at hq'
    cases hq'
    rw [ht] at ht'
    cases ht'
    exact ⟨he, hs⟩

set_option maxRecDepth 100000 in
set_option maxHeartbeats 1000000 in
theorem awake13_calls (w : World) : Calls Try.prog 18 #[] w fun e w' => e = .returned (.bool true) ∧ Keeps NoBlock w w' := by
  obtain ⟨r, hr⟩ : ∃ r, r = w.heap.size := ⟨_, rfl⟩
  go_enter Try.func18, Try.ntmps18
  go_wp2_with fail
  refine (new_calls 2 2 (by decide) w).mono ?_
  rintro e w1 ⟨rfl, I1⟩
  rw [← hr] at I1 ⊢
  clear hr
  have I1' : Hid (RyS w r 2 [[], []] (fun _ => False) w1) := I1
  clear I1
  go_wp2_with fail
  refine (add_calls 0 5 I1'.out (by decide) (by decide)).mono ?_
  rintro e w2 ⟨rfl, I2, _⟩
  have I2' : Hid (RyS w r 2 [[5], []] (fun _ => False) w2) := I2
  rw [show addB [[], []] 0 5 = true from rfl]
  clear I2
  go_wp2_with fail
  refine (add_calls 1 6 I2'.out (by decide) (by decide)).mono ?_
  rintro e w3 ⟨rfl, I3, _⟩
  have I3' : Hid (RyS w r 2 [[5], [6]] (fun _ => False) w3) := I3
  rw [show addB [[5], []] 1 6 = true from rfl]
  clear I3
  go_wp2_with fail
  refine (add_calls 1 5 I3'.out (by decide) (by decide)).mono ?_
  rintro e w4 ⟨rfl, I4, _⟩
  have I4' : Hid (RyS w r 2 [[5], [6]] (fun _ => False) w4) := I4
  rw [show addB [[5], [6]] 1 5 = false from rfl]
  clear I4
  go_wp2_with fail
  refine (add_calls 1 7 I4'.out (by decide) (by decide)).mono ?_
  rintro e w5 ⟨rfl, I5, _⟩
  have I5' : Hid (RyS w r 2 [[5], [6, 7]] (fun _ => False) w5) := I5
  rw [show addB [[5], [6]] 1 7 = true from rfl]
  clear I5
  go_wp2_with fail
  refine (pick_calls 0 I5'.out (by decide)).mono ?_
  intro e w6 hp6
  obtain ⟨rfl, I6⟩ := PickPost.at (k := 0) (ix := 0) (q := [5]) (t := 5) hp6 rfl rfl rfl
  have I6' : Hid (RyS w r 2 [[], [6, 7]] (fun _ => False) w6) := I6
  clear I6 hp6
  go_wp2_with fail
  refine (pick_calls 0 I6'.out (by decide)).mono ?_
  intro e w7 hp7
  obtain ⟨rfl, I7⟩ := PickPost.at (k := 1) (ix := 1) (q := [6, 7]) (t := 7) hp7 rfl rfl rfl
  have I7' : Hid (RyS w r 2 [[], [6]] (fun _ => False) w7) := I7
  clear I7 hp7
  go_wp2_with fail
  refine (rows_calls 1 [6] I7'.out rfl).mono ?_
  rintro e w8 ⟨A8, c8, rfl, r8, _, k8, I8⟩
  have k9 : Keeps NoBlock w8 (w8.alloc (.cells #[.int .i64 6] 3)) := (Keeps.refl _ _).alloc _
  have R8 := Lib.hid (r8.keeps k9 (fun _ _ h => h))
  have R9 := Lib.hid (litI (block_alloc_new w8 (.cells #[.int .i64 6] 3)))
  have I9 := Lib.hid (I8.keeps k9)
  clear r8 I8 k9 k8
  go_wp2_with fail
  refine (ints_calls _ _ [6] [6] _ R8.out R9.out (by decide) (by decide)).mono ?_
  rintro e w10 ⟨rfl, k10⟩
  rw [decide_eq_true rfl]
  have I10 := Lib.hid (I9.out.keeps k10)
  clear k10
  go_wp2_with fail
  refine (rEmpty_calls I10.out (by decide)).mono ?_
  rintro e w11 ⟨rfl, k11⟩
  rw [show (([[], [6]] : List (List Int)).all fun q => decide (q = [])) = false from rfl]
  have K11 := Lib.hid ((I10.out.keeps k11).kp)
  clear k11
  go_wp2_with fail
  go_ret
  exact ⟨rfl, K11.out⟩
end Ry
end Go.Proofs.Ytmpingalekdlnaa
