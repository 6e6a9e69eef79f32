/- Layer 9's fixed fact. -/
import Derived.Test.YtlgolofcpokndaaGtQ
import Derived.Test.YtlgolofcpokndaaRef02b
namespace Go.Proofs.Ytlgolofcpokndaa
open Go.RowKit
namespace Gt

theorem litI {w : World} {q : Nat} {x : Int} (hx : (Lit.int .i64 x).wf = true) (h : w.heap[q]? = some (.cells #[.int .i64 x] 3 (0, 0))) : IntsAt .i64 w (some ⟨q, 0, none⟩) q 0 1 [x] :=
  ⟨fun _ => rfl, fun j hj => by
    obtain rfl : j = 0 := by omega
    exact cell_of_block (o := 0) h rfl, fun j hj => by
    obtain rfl : j = 0 := by omega
    exact hx, rfl⟩

theorem litR {w : World} {q : Nat} {x : Int} (h : w.heap[q]? = some (.cells #[.int .i64 x] 3 (0, 0))) : ReadsI .i64 w (.slice (some ⟨q, 0, none⟩) 1 1) [x] :=
  ⟨_, q, 0, 1, rfl, fun _ => ⟨rfl, lt_of_block h⟩, fun j y hy => by
    match j, hy with
    | 0, hy => simp at hy; subst hy; rw [Nat.zero_add]; exact cell_of_block h rfl⟩

theorem Turn.own {B B' : Nat → Prop} {w w' : World} (t : Turn B B' w w') {e : TypeId} {s n : Nat} {u : Value} {xs : List Value} (ho : Own w e s u n xs) (hu : ∀ b, u.ownBlock = some b → ¬ B b) : Own w' e s u n xs ∧ ∀ b, u.ownBlock = some b → ¬ B' b :=
  ⟨ho.keeps t.kp hu, fun b hb e => by
    rcases t.new b e with h1 | h1
    · exact hu b hb h1
    · have := ho.lt b hb
      omega⟩

theorem Lock_at {G : Nat} {B : Nat → Prop} {st st' : St} {w : World} (h : Gs G B st w) (hs : ShortA 1000000 st) (who m : Int) {b : Bool} {er : Int} (he : LockA st who m = (b, er, st')) :
    Calls Try.prog 10 #[.pointer (some ⟨G, 0, none⟩), .int .i64 who, .int .i64 m] w (Post G B w (ret2 b er) st') := by
  have := Lock_fn h hs who m
  rw [he] at this
  exact this
theorem Unlock_at {G : Nat} {B : Nat → Prop} {st st' : St} {w : World} (h : Gs G B st w) (hs : ShortA 1000000 st) (who m c : Int) {n : Int} {b : Bool} {er : Int} (he : UnlockA st who m c = (n, b, er, st')) :
    Calls Try.prog 11 #[.pointer (some ⟨G, 0, none⟩), .int .i64 who, .int .i64 m, .int .i64 c] w (Post G B w (ret3 n b er) st') := by
  have := Unlock_fn h hs who m c
  rw [he] at this
  exact this
theorem Wait_at {G : Nat} {B : Nat → Prop} {st st' : St} {w : World} (h : Gs G B st w) (hs : ShortA 1000000 st) (who c m ch : Int) {n : Int} {b : Bool} {er : Int} (he : WaitA st who c m ch = (n, b, er, st')) :
    Calls Try.prog 12 #[.pointer (some ⟨G, 0, none⟩), .int .i64 who, .int .i64 c, .int .i64 m, .int .i64 ch] w (Post G B w (ret3 n b er) st') := by
  have := Wait_fn h hs who c m ch
  rw [he] at this
  exact this
theorem Down_at {G : Nat} {B : Nat → Prop} {st st' : St} {w : World} (h : Gs G B st w) (hs : ShortA 1000000 st) (hc : ∀ x ∈ st.ss, 0 ≤ x.1 ∧ x.1 ≤ 1048576) (who s : Int) {b : Bool} {er : Int} (he : DownA st who s = (b, er, st')) :
    Calls Try.prog 14 #[.pointer (some ⟨G, 0, none⟩), .int .i64 who, .int .i64 s] w (Post G B w (ret2 b er) st') := by
  have := Down_fn h hs hc who s
  rw [he] at this
  exact this
theorem Up_at {G : Nat} {B : Nat → Prop} {st st' : St} {w : World} (h : Gs G B st w) (hs : ShortA 1000000 st) (hc : ∀ x ∈ st.ss, 0 ≤ x.1 ∧ x.1 ≤ 1048576) (s c : Int) {n : Int} {b : Bool} {er : Int} (he : UpA st s c = (n, b, er, st')) :
    Calls Try.prog 15 #[.pointer (some ⟨G, 0, none⟩), .int .i64 s, .int .i64 c] w (Post G B w (ret3 n b er) st') := by
  have := Up_fn h hs hc s c
  rw [he] at this
  exact this

theorem Signal_at {G : Nat} {B : Nat → Prop} {st st' : St} {w : World} (h : Gs G B st w) (hI : InM st) (ht : tot st ≤ 1000) (c ch : Int) (all : Bool) {l : List Int} {er : Int} (he : SignalA st c ch all = (l, er, st')) :
    Calls Try.prog 13 #[.pointer (some ⟨G, 0, none⟩), .int .i64 c, .int .i64 ch, .bool all] w (SigPost G B w l er st') := by
  have := Signal_fn h hI ht c ch all
  rw [he] at this
  exact this

set_option maxRecDepth 100000 in
set_option maxHeartbeats 1000000 in
theorem awake_calls (w : World) : Calls Try.prog 17 #[] w fun e w' => e = .returned (.bool true) ∧ Keeps NoBlock w w' := by
  go_enter Try.func17, Try.ntmps17
  go_wp2_with fail
  refine (New_fn 1 1 1 1 (by decide) (by decide) (some ⟨w.heap.size, 0, none⟩) w.heap.size 0 1 1 _ [1] (litI (by decide) (block_alloc_new w (.cells #[.int .i64 1] 3))) (Nat.le_refl _)).mono ?_
  rintro e w1 ⟨G, B1, rfl, g1, t1⟩
  have H1 : Hid (Gs G B1 ⟨[⟨false, 0, []⟩], [[]], [(1, [])]⟩ w1) := g1
  have T1 : Hid (Turn NoBlock B1 w w1) := (Turn.keeps ((Keeps.refl NoBlock w).alloc _)).trans t1
  clear g1 t1
  go_wp2_with fail
  refine (Lock_at H1.out (tot_short (by decide)) 1 0 (b := true) (er := 0) (st' := ⟨[⟨true, 1, []⟩], [[]], [(1, [])]⟩) rfl).mono ?_
  rintro e w2 ⟨rfl, B2, g2, t2⟩
  have H2 : Hid (Gs G B2 ⟨[⟨true, 1, []⟩], [[]], [(1, [])]⟩ w2) := g2
  have T2 := Lib.hid (T1.out.trans t2)
  clear g2
  clear H1 T1 t2
  go_wp2_with fail
  refine (Lock_at H2.out (tot_short (by decide)) 2 0 (b := false) (er := 0) (st' := ⟨[⟨true, 1, [(2, 0)]⟩], [[]], [(1, [])]⟩) rfl).mono ?_
  rintro e w3 ⟨rfl, B3, g3, t3⟩
  have H3 : Hid (Gs G B3 ⟨[⟨true, 1, [(2, 0)]⟩], [[]], [(1, [])]⟩ w3) := g3
  have T3 := Lib.hid (T2.out.trans t3)
  clear g3
  clear H2 T2 t3
  go_wp2_with fail
  refine (Unlock_at H3.out (tot_short (by decide)) 1 0 0 (n := 2) (b := true) (er := 0) (st' := ⟨[⟨true, 2, []⟩], [[]], [(1, [])]⟩) rfl).mono ?_
  rintro e w4 ⟨rfl, B4, g4, t4⟩
  have H4 : Hid (Gs G B4 ⟨[⟨true, 2, []⟩], [[]], [(1, [])]⟩ w4) := g4
  have T4 := Lib.hid (T3.out.trans t4)
  clear g4
  clear H3 T3 t4
  go_wp2_with fail
  refine (Unlock_at H4.out (tot_short (by decide)) 1 0 0 (n := 0) (b := false) (er := 5) (st' := ⟨[⟨true, 2, []⟩], [[]], [(1, [])]⟩) rfl).mono ?_
  rintro e w5 ⟨rfl, B5, g5, t5⟩
  have H5 : Hid (Gs G B5 ⟨[⟨true, 2, []⟩], [[]], [(1, [])]⟩ w5) := g5
  have T5 := Lib.hid (T4.out.trans t5)
  clear g5
  clear H4 T4 t5
  go_wp2_with fail
  refine (Wait_at H5.out (tot_short (by decide)) 2 0 0 0 (n := 0) (b := false) (er := 0) (st' := ⟨[⟨false, 0, []⟩], [[(2, 0)]], [(1, [])]⟩) rfl).mono ?_
  rintro e w6 ⟨rfl, B6, g6, t6⟩
  have H6 : Hid (Gs G B6 ⟨[⟨false, 0, []⟩], [[(2, 0)]], [(1, [])]⟩ w6) := g6
  have T6 := Lib.hid (T5.out.trans t6)
  clear g6
  clear H5 T5 t6
  go_wp2_with fail
  refine (Signal_at H6.out (fun q hq y hy => by simp at hq; subst hq; simp at hy; subst hy; decide) (by decide) 0 5 false (l := [2]) (er := 0) (st' := ⟨[⟨true, 2, []⟩], [[]], [(1, [])]⟩) rfl).mono ?_
  rintro e w7 ⟨u, B7, rfl, g7, t7, o7, n7⟩
  have H7 : Hid (Gs G B7 ⟨[⟨true, 2, []⟩], [[]], [(1, [])]⟩ w7) := g7
  have T7 := Lib.hid (T6.out.trans t7)
  obtain ⟨A, cap, rfl⟩ := Own.isSlice o7
  have O7 := Lib.hid o7
  have N7 := Lib.hid (fun b hb => (n7 b hb).2)
  clear H6 T6 t7 g7 o7 n7
  go_wp2_with fail
  refine (Down_at H7.out (tot_short (by decide)) (fun x hx => by simp at hx; subst hx; decide) 7 0 (b := true) (er := 0) (st' := ⟨[⟨true, 2, []⟩], [[]], [(0, [])]⟩) rfl).mono ?_
  rintro e w8 ⟨rfl, B8, g8, t8⟩
  have H8 : Hid (Gs G B8 ⟨[⟨true, 2, []⟩], [[]], [(0, [])]⟩ w8) := g8
  have T8 := Lib.hid (T7.out.trans t8)
  clear g8
  obtain ⟨o8, n8⟩ := t8.own O7.out N7.out
  have O8 := Lib.hid o8
  have N8 := Lib.hid n8
  clear H7 T7 t8 o8 n8 O7 N7
  go_wp2_with fail
  refine (Down_at H8.out (tot_short (by decide)) (fun x hx => by simp at hx; subst hx; decide) 8 0 (b := false) (er := 0) (st' := ⟨[⟨true, 2, []⟩], [[]], [(0, [(8, 0)])]⟩) rfl).mono ?_
  rintro e w9 ⟨rfl, B9, g9, t9⟩
  have H9 : Hid (Gs G B9 ⟨[⟨true, 2, []⟩], [[]], [(0, [(8, 0)])]⟩ w9) := g9
  have T9 := Lib.hid (T8.out.trans t9)
  clear g9
  obtain ⟨o9, n9⟩ := t9.own O8.out N8.out
  have O9 := Lib.hid o9
  have N9 := Lib.hid n9
  clear H8 T8 t9 o9 n9 O8 N8
  go_wp2_with fail
  refine (Up_at H9.out (tot_short (by decide)) (fun x hx => by simp at hx; subst hx; decide) 0 3 (n := 8) (b := true) (er := 0) (st' := ⟨[⟨true, 2, []⟩], [[]], [(0, [])]⟩) rfl).mono ?_
  rintro e w10 ⟨rfl, B10, g10, t10⟩
  have H10 : Hid (Gs G B10 ⟨[⟨true, 2, []⟩], [[]], [(0, [])]⟩ w10) := g10
  have T10 := Lib.hid (T9.out.trans t10)
  clear g10
  have O10 := Lib.hid (t10.own O9.out N9.out).1
  clear H9 T9 t10 O9 N9
  have k9 : Keeps NoBlock w10 (w10.alloc (.cells #[.int .i64 2] 3)) := (Keeps.refl _ _).alloc _
  have R8 := Lib.hid ((Own.readsI (xs := [2]) O10.out).keeps k9 (fun _ _ h => h))
  have R9 := Lib.hid (litR (block_alloc_new w10 (.cells #[.int .i64 2] 3)))
  have K10 := Lib.hid (T10.out.kp.trans k9 (fun _ _ h => h))
  clear k9 O10 T10 H10
  go_wp2_with fail
  refine (ints_calls _ _ [2] [2] _ R8.out R9.out (by decide) (by decide)).mono ?_
  rintro e w11 ⟨rfl, k11⟩
  rw [decide_eq_true rfl]
  have K11 := Lib.hid (K10.out.trans k11 (fun _ _ h => h))
  clear k11
  go_wp2_with fail
  go_ret
  exact ⟨rfl, K11.out⟩

end Gt
end Go.Proofs.Ytlgolofcpokndaa
