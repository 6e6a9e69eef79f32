/- Package event: what its calls come to. -/
import Derived.Test.YtpchhlhjmkkoiaaApp
import Derived.KernelRfl
import Derived.Handy
import Derived.Outline
import Derived.WalkKit
import Derived.Deep.QuietTactic
import Derived.BigQuiet
import Derived.Lib.SliceRun
import Derived.IntWalk
namespace Go.Proofs.Ytpchhlhjmkkoiaa
open Go.RowKit

structure Ev where
  kind : Int
  thread : Int
  mode : Int
  deriving DecidableEq

abbrev evV (x : Ev) : Value := .agg #[.int .i64 x.kind, .int .i64 x.thread, .int .i64 x.mode]
def encE (x : Ev) : List Value := [.int .i64 x.kind, .int .i64 x.thread, .int .i64 x.mode]
theorem encE_len (x : Ev) : (encE x).length = 3 := rfl
theorem encE_one : ∀ (l : List Ev), ∀ u ∈ l.flatMap encE, u.oneCell' = true := by
  intro l u hu
  obtain ⟨r, _, hr⟩ := List.mem_flatMap.1 hu
  simp only [encE, List.mem_cons, List.not_mem_nil, or_false] at hr
  rcases hr with rfl | rfl | rfl <;> rfl
def evZ : Value := .agg #[.int .i64 0, .int .i64 0, .int .i64 0]
theorem eE : Elem Try.prog 22 36 evZ 3 24 := Elem.mk' (by kernel_rfl) (by kernel_rfl) rfl (by decide)
theorem eN : Elem Try.prog 40 3 (.int .i64 0) 1 8 := Elem.mk' (by kernel_rfl) (by kernel_rfl) rfl (by decide)

abbrev out2 (n : Int) (b : Bool) : Ending := .returned (.tuple #[.int .i64 n, .bool b])

/-- May a thread run by an event? -/
def runsB (x : Ev) : Bool := decide (0 ≤ x.thread) && decide (x.mode ≤ 0) && (x.kind == 3 || x.kind == 4)

theorem runsB_cases (x : Ev) : (runsB x = false ∧ x.thread < 0) ∨ (runsB x = false ∧ 0 ≤ x.thread ∧ 0 < x.mode) ∨ (runsB x = true ∧ 0 ≤ x.thread ∧ x.mode ≤ 0 ∧ (x.kind == 3) = true) ∨
    (runsB x = true ∧ 0 ≤ x.thread ∧ x.mode ≤ 0 ∧ (x.kind == 3) = false ∧ (x.kind == 4) = true) ∨ (runsB x = false ∧ 0 ≤ x.thread ∧ x.mode ≤ 0 ∧ (x.kind == 3) = false ∧ (x.kind == 4) = false) := by
  unfold runsB
  by_cases h1 : x.thread < 0
  · left; exact ⟨by rw [decide_eq_false (by omega)]; rfl, h1⟩
  · right
    by_cases h2 : 0 < x.mode
    · left; exact ⟨by rw [decide_eq_true (show 0 ≤ x.thread by omega), decide_eq_false (by omega)]; rfl, by omega, h2⟩
    · right
      rw [decide_eq_true (show 0 ≤ x.thread by omega), decide_eq_true (show x.mode ≤ 0 by omega)]
      cases h3 : x.kind == 3 <;> cases h4 : x.kind == 4 <;> simp <;> omega

theorem runs_nonneg {x : Ev} (h : runsB x = true) : 0 ≤ x.thread := by
  rcases runsB_cases x with h1 | h1 | h1 | h1 | h1
  · rw [h1.1] at h; cases h
  · exact h1.2.1
  · exact h1.2.1
  · exact h1.2.1
  · exact h1.2.1

theorem runs_calls (x : Ev) (w : World) (b : Bool) (hb : runsB x = b) : Calls Try.prog 20 #[evV x] w fun e w' => e = out2 (if b then x.thread else 0) b ∧ Keeps NoBlock w w' := by
  have hx := runsB_cases x
  rw [hb] at hx
  obtain ⟨kind, thread, mode⟩ := x
  dsimp only at hx
  clear hb
  rcases hx with ⟨rfl, h1⟩ | ⟨rfl, h1, h2⟩ | ⟨rfl, h1, h2, h3⟩ | ⟨rfl, h1, h2, h3, h4⟩ | ⟨rfl, h1, h2, h3, h4⟩
  · go_enter Try.func20, Try.ntmps20
    go_wp2
    go_ret2
    exact ⟨rfl, (Keeps.refl _ _).alloc _⟩
  · go_enter Try.func20, Try.ntmps20
    go_wp2
    go_ret2
    exact ⟨rfl, (Keeps.refl _ _).alloc _⟩
  · have h3' : (kind != 3) = false := by simpa using h3
    go_enter Try.func20, Try.ntmps20
    go_wp2
    go_ret2
    exact ⟨rfl, (Keeps.refl _ _).alloc _⟩
  · have h3' : (kind != 3) = true := by simpa using h3
    have h4' : (kind != 4) = false := by simpa using h4
    go_enter Try.func20, Try.ntmps20
    go_wp2
    go_ret2
    exact ⟨rfl, (Keeps.refl _ _).alloc _⟩
  · have h3' : (kind != 3) = true := by simpa using h3
    have h4' : (kind != 4) = true := by simpa using h4
    go_enter Try.func20, Try.ntmps20
    go_wp2
    go_ret2
    exact ⟨rfl, (Keeps.refl _ _).alloc _⟩
theorem runsR_calls (x : Ev) (w : World) (b : Bool) (hb : runsB x = b) : Calls Try.prog 19 #[evV x] w fun e w' => e = out2 (if b then x.thread else 0) b ∧ Keeps NoBlock w w' := by
  have hx := runsB_cases x
  rw [hb] at hx
  obtain ⟨kind, thread, mode⟩ := x
  dsimp only at hx
  clear hb
  rcases hx with ⟨rfl, h1⟩ | ⟨rfl, h1, h2⟩ | ⟨rfl, h1, h2, h3⟩ | ⟨rfl, h1, h2, h3, h4⟩ | ⟨rfl, h1, h2, h3, h4⟩
  · go_enter Try.func19, Try.ntmps19
    go_wp2
    go_ret2
    exact ⟨rfl, (Keeps.refl _ _).alloc _⟩
  · go_enter Try.func19, Try.ntmps19
    go_wp2
    go_ret2
    exact ⟨rfl, (Keeps.refl _ _).alloc _⟩
  · have h3' : (kind != 3) = false := by simpa using h3
    go_enter Try.func19, Try.ntmps19
    go_wp2
    go_ret2
    exact ⟨rfl, (Keeps.refl _ _).alloc _⟩
  · have h3' : (kind != 3) = true := by simpa using h3
    have h4' : (kind != 4) = false := by simpa using h4
    go_enter Try.func19, Try.ntmps19
    go_wp2
    go_ret2
    exact ⟨rfl, (Keeps.refl _ _).alloc _⟩
  · have h3' : (kind != 3) = true := by simpa using h3
    have h4' : (kind != 4) = true := by simpa using h4
    go_enter Try.func19, Try.ntmps19
    go_wp2
    go_ret2
    exact ⟨rfl, (Keeps.refl _ _).alloc _⟩

theorem cells3 {w : World} {b off : Nat} {xs : List Ev} (h : ∀ (j : Nat) (x : Ev) (i : Nat) (u : Value), xs[j]? = some x → (encE x)[i]? = some u → w.cell? ⟨b, off + j * 3 + i, none⟩ = some u) {k : Nat} {x : Ev} (hx : xs[k]? = some x) :
    w.cell? ⟨b, off + k * 3, none⟩ = some (.int .i64 x.kind) ∧ w.cell? ⟨b, off + k * 3 + 1, none⟩ = some (.int .i64 x.thread) ∧ w.cell? ⟨b, off + k * 3 + 2, none⟩ = some (.int .i64 x.mode) :=
  ⟨h k x 0 _ hx rfl, h k x 1 _ hx rfl, h k x 2 _ hx rfl⟩

def fThreads (x : Ev) : Option Int := if 0 ≤ x.thread then some x.thread else none
def fReady (x : Ev) : Option Int := if runsB x then some x.thread else none
def keepB (x : Ev) : Bool := runsB x || decide (0 < x.mode)
def fKeep (x : Ev) : Option Ev := if keepB x then some x else none

/-- New numbers. -/
def NewInts (w : World) (l : List Int) (e : Ending) (w' : World) : Prop := ∃ A c, e = .returned (.slice A l.length c) ∧ Mine w w' 3 1 (.slice A l.length c) l.length (l.map (Value.int .i64))
/-- New events. -/
def NewEvs (w : World) (l : List Ev) (e : Ending) (w' : World) : Prop := ∃ A c, e = .returned (.slice A l.length c) ∧ Mine w w' 36 3 (.slice A l.length c) l.length (l.flatMap encE)

theorem threads_calls (v : Value) (xs : List Ev) (w : World) (h : Rd encE 3 w v xs) (hl : xs.length * 24 ≤ 140737488351232) :
    Calls Try.prog 23 #[v] w (NewInts w (xs.filterMap fThreads)) := by
  obtain ⟨A, b, off, cap, rfl, hA, hc⟩ := h
  obtain ⟨n, hn⟩ : ∃ n, Hid (xs.length = n) := ⟨_, rfl⟩
  have Hc := Lib.hid hc
  have HA := Lib.hid hA
  rw [hn.out] at hl HA ⊢
  clear hc hA
  have M0 := Mine.nil w 3 1
  go_enter Try.func23, Try.ntmps23
  go_wp2_with fail
  go_loopw [3, 8] (fun v i wr => ∃ (k : Nat) (m : List Int) (A5 : Option Addr) (c5 : Nat), k ≤ n ∧ i = .int .i64 k ∧ v = .slice A5 m.length c5 ∧ m.length ≤ k ∧ Hid (m = (xs.take k).filterMap fThreads) ∧ Mine w wr 3 1 (.slice A5 m.length c5) m.length (m.map (Value.int .i64))) (fun _ i _ => n - (intOf i).toNat)
  case atStart => exact ⟨0, [], _, _, Nat.zero_le _, rfl, rfl, Nat.le_refl _, rfl, M0⟩
  case round =>
    obtain ⟨k, m, A5, c5, hk, rfl, rfl, hml, hm, M⟩ := hrel
    clear M0
    have HM := Lib.hid M
    clear M
    by_cases hlt : k < n
    · obtain ⟨x, hx⟩ : ∃ x, xs[k]? = some x := ⟨_, List.getElem?_eq_getElem (by rw [hn.out]; exact hlt)⟩
      obtain ⟨rfl, hb1⟩ := HA.out (by omega)
      have hcx := cells3 Hc.out hx
      rw [← HM.out.kp.cell hb1 (fun h => h), ← HM.out.kp.cell hb1 (fun h => h), ← HM.out.kp.cell hb1 (fun h => h)] at hcx
      have Hx := Lib.hid hx
      clear hx
      obtain ⟨kind, thread, mode⟩ := x
      dsimp only at hcx
      by_cases hth : 0 ≤ thread
      · have hfin : Hid ((xs.take (k + 1)).filterMap fThreads = m ++ [thread]) := by
          show _ = _
          rw [filterMap_yes fThreads xs k _ thread Hx.out (by simp [fThreads, hth]), ← hm.out]
        have hnb := Lib.hid (newsB (e := 3) (blk_new (w := wr.alloc (.cells #[.int .i64 kind, .int .i64 thread, .int .i64 mode] 36)) (o := .cells #[.int .i64 thread] 3) (k := wr.heap.size + 1) (by simp)))
        go_wp2_with (at_builtin; refine wpList_appN eN _ rfl _ _ rfl (.slice A5 m.length c5) m.length _ rfl (World.ownsRow.alloc (World.ownsRow.alloc HM.out.own _) _) ⟨wr.heap.size + 1, 0, none⟩ 1 1 [.int .i64 thread] rfl rfl hnb.out ?_ ?_ ?_ ?_)
        · simp [Value.oneCell']
        · simp only [maxLen]; omega
        · omega
        rintro v4 w4 ho4 hg4 hf4 g4 c4 rfl
        have hln : (m ++ [thread]).length = m.length + 1 := by simp
        have M4 := HM.out.grow (((Keeps.refl _ wr).alloc _).alloc _) ho4 hg4 hf4 (by omega)
        have HM4 : Hid (Mine w w4 3 1 (.slice (some ⟨g4, 0, none⟩) (m ++ [thread]).length c4) (m ++ [thread]).length ((m ++ [thread]).map (Value.int .i64))) := by
          show Mine _ _ _ _ _ _ _
          rw [hln, List.map_append]; exact M4
        clear M4 ho4 hg4 hf4 hln
        go_wp2_with fail
        exact ⟨⟨k + 1, m ++ [thread], some ⟨g4, 0, none⟩, c4, by omega, by go_num, by simp, by simp; omega, hfin.out.symm, HM4.out⟩, by simp [intOf]; omega⟩
      · have hth' : thread < 0 := by omega
        have hfin : Hid ((xs.take (k + 1)).filterMap fThreads = m) := by
          show _ = _
          rw [filterMap_no fThreads xs k _ Hx.out (by simp [fThreads, hth]), ← hm.out]
        clear hth
        go_wp2_with fail
        exact ⟨⟨k + 1, m, A5, c5, by omega, by go_num, rfl, by omega, hfin.out.symm, HM.out.keeps ((Keeps.refl _ _).alloc _)⟩, by simp [intOf]; omega⟩
    · obtain rfl : k = n := by omega
      have hfin : Hid (xs.filterMap fThreads = m) := by show _ = _; rw [hm.out, List.take_of_length_le (by rw [hn.out]; omega)]
      go_wp2_with fail
      go_ret
      rw [hfin.out]
      exact ⟨A5, c5, rfl, HM.out⟩

theorem ready_calls (v : Value) (xs : List Ev) (w : World) (h : Rd encE 3 w v xs) (hl : xs.length * 24 ≤ 140737488351232) :
    Calls Try.prog 24 #[v] w (NewInts w (xs.filterMap fReady)) := by
  obtain ⟨A, b, off, cap, rfl, hA, hc⟩ := h
  obtain ⟨n, hn⟩ : ∃ n, Hid (xs.length = n) := ⟨_, rfl⟩
  have Hc := Lib.hid hc
  have HA := Lib.hid hA
  rw [hn.out] at hl HA ⊢
  clear hc hA
  have M0 := Mine.nil w 3 1
  go_enter Try.func24, Try.ntmps24
  go_wp2_with fail
  go_loopw [3, 10] (fun v i wr => ∃ (k : Nat) (m : List Int) (A5 : Option Addr) (c5 : Nat), k ≤ n ∧ i = .int .i64 k ∧ v = .slice A5 m.length c5 ∧ m.length ≤ k ∧ Hid (m = (xs.take k).filterMap fReady) ∧ Mine w wr 3 1 (.slice A5 m.length c5) m.length (m.map (Value.int .i64))) (fun _ i _ => n - (intOf i).toNat)
  case atStart => exact ⟨0, [], _, _, Nat.zero_le _, rfl, rfl, Nat.le_refl _, rfl, M0⟩
  case round =>
    obtain ⟨k, m, A5, c5, hk, rfl, rfl, hml, hm, M⟩ := hrel
    clear M0
    have HM := Lib.hid M
    clear M
    by_cases hlt : k < n
    · obtain ⟨x, hx⟩ : ∃ x, xs[k]? = some x := ⟨_, List.getElem?_eq_getElem (by rw [hn.out]; exact hlt)⟩
      obtain ⟨rfl, hb1⟩ := HA.out (by omega)
      have hcx := cells3 Hc.out hx
      rw [← HM.out.kp.cell hb1 (fun h => h), ← HM.out.kp.cell hb1 (fun h => h), ← HM.out.kp.cell hb1 (fun h => h)] at hcx
      have Hx := Lib.hid hx
      clear hx
      obtain ⟨kind, thread, mode⟩ := x
      dsimp only at hcx
      cases hr : runsB ⟨kind, thread, mode⟩ with
      | true =>
        have hfin : Hid ((xs.take (k + 1)).filterMap fReady = m ++ [thread]) := by
          show _ = _
          rw [filterMap_yes fReady xs k _ thread Hx.out (by simp [fReady, hr]), ← hm.out]
        have hcall := Lib.hid (fun W => runs_calls ⟨kind, thread, mode⟩ W true hr)
        clear hr
        go_wp2_with fail
        refine (hcall.out _).mono ?_
        rintro e w2 ⟨rfl, hk2⟩
        have z2 := hk2.size
        have q0 : w2.cell? ⟨wr.heap.size, 0, none⟩ = some (.int .i64 kind) := by rw [hk2.cell (by simp) (fun h => h)]; simp
        have q1 : w2.cell? ⟨wr.heap.size, 1, none⟩ = some (.int .i64 thread) := by rw [hk2.cell (by simp) (fun h => h)]; simp
        have q2 : w2.cell? ⟨wr.heap.size, 2, none⟩ = some (.int .i64 mode) := by rw [hk2.cell (by simp) (fun h => h)]; simp
        have M2 := Lib.hid (HM.out.keeps (((Keeps.refl _ wr).alloc _).trans hk2 (fun _ _ h => h)))
        clear hk2 hcall
        go_wp2_with (at_builtin; refine wpList_appN eN _ rfl _ _ rfl (.slice A5 m.length c5) m.length _ rfl (World.ownsRow.alloc M2.out.own _) ⟨w2.heap.size, 0, none⟩ 1 1 [.int .i64 thread] rfl rfl (newsB (e := 3) (block_alloc_new w2 _)) ?_ ?_ ?_ ?_)
        · simp [Value.oneCell']
        · simp only [maxLen]; omega
        · omega
        rintro v4 w4 ho4 hg4 hf4 g4 c4 rfl
        have hln : (m ++ [thread]).length = m.length + 1 := by simp
        have M4 := M2.out.grow ((Keeps.refl _ w2).alloc _) ho4 hg4 hf4 (by omega)
        have HM4 : Hid (Mine w w4 3 1 (.slice (some ⟨g4, 0, none⟩) (m ++ [thread]).length c4) (m ++ [thread]).length (List.map (Value.int .i64) (m ++ [thread]))) := by
          show Mine _ _ _ _ _ _ _
          rw [hln, List.map_append]; exact M4
        clear M4 ho4 hg4 hf4 hln
        go_wp2_with fail
        exact ⟨⟨k + 1, m ++ [thread], some ⟨g4, 0, none⟩, c4, by omega, by go_num, by simp, by simp; omega, hfin.out.symm, HM4.out⟩, by simp [intOf]; omega⟩
      | false =>
        have hcall := Lib.hid (fun W => runs_calls ⟨kind, thread, mode⟩ W false hr)
        have hfin : Hid ((xs.take (k + 1)).filterMap fReady = m) := by
          show _ = _
          rw [filterMap_no fReady xs k _ Hx.out (by simp [fReady, hr]), ← hm.out]
        clear hr
        go_wp2_with fail
        refine (hcall.out _).mono ?_
        rintro e w2 ⟨rfl, hk2⟩
        have M2 := Lib.hid (HM.out.keeps (((Keeps.refl _ wr).alloc _).trans hk2 (fun _ _ h => h)))
        clear hk2 hcall
        go_wp2_with fail
        exact ⟨⟨k + 1, m, A5, c5, by omega, by go_num, rfl, by omega, hfin.out.symm, M2.out⟩, by simp [intOf]; omega⟩
    · obtain rfl : k = n := by omega
      have hfin : Hid (xs.filterMap fReady = m) := by show _ = _; rw [hm.out, List.take_of_length_le (by rw [hn.out]; omega)]
      go_wp2_with fail
      go_ret
      rw [hfin.out]
      exact ⟨A5, c5, rfl, HM.out⟩

theorem keep_calls (v : Value) (xs : List Ev) (w : World) (h : Rd encE 3 w v xs) (hl : xs.length * 24 ≤ 140737488351232) :
    Calls Try.prog 25 #[v] w (NewEvs w (xs.filterMap fKeep)) := by
  obtain ⟨A, b, off, cap, rfl, hA, hc⟩ := h
  obtain ⟨n, hn⟩ : ∃ n, Hid (xs.length = n) := ⟨_, rfl⟩
  have Hc := Lib.hid hc
  have HA := Lib.hid hA
  rw [hn.out] at hl HA ⊢
  clear hc hA
  have M0 := Mine.nil w 36 3
  go_enter Try.func25, Try.ntmps25
  go_wp2_with fail
  go_loopw [3, 10] (fun v i wr => ∃ (k : Nat) (m : List Ev) (A5 : Option Addr) (c5 : Nat), k ≤ n ∧ i = .int .i64 k ∧ v = .slice A5 m.length c5 ∧ m.length ≤ k ∧ Hid (m = (xs.take k).filterMap fKeep) ∧ Mine w wr 36 3 (.slice A5 m.length c5) m.length (m.flatMap encE)) (fun _ i _ => n - (intOf i).toNat)
  case atStart => exact ⟨0, [], _, _, Nat.zero_le _, rfl, rfl, Nat.le_refl _, rfl, M0⟩
  case round =>
    obtain ⟨k, m, A5, c5, hk, rfl, rfl, hml, hm, M⟩ := hrel
    clear M0
    have HM := Lib.hid M
    clear M
    by_cases hlt : k < n
    · obtain ⟨x, hx⟩ : ∃ x, xs[k]? = some x := ⟨_, List.getElem?_eq_getElem (by rw [hn.out]; exact hlt)⟩
      obtain ⟨rfl, hb1⟩ := HA.out (by omega)
      have hcx := cells3 Hc.out hx
      rw [← HM.out.kp.cell hb1 (fun h => h), ← HM.out.kp.cell hb1 (fun h => h), ← HM.out.kp.cell hb1 (fun h => h)] at hcx
      have Hx := Lib.hid hx
      clear hx
      obtain ⟨kind, thread, mode⟩ := x
      dsimp only at hcx
      cases hr : runsB ⟨kind, thread, mode⟩ with
      | true =>
        have hfin : Hid ((xs.take (k + 1)).filterMap fKeep = m ++ [Ev.mk kind thread mode]) := by
          show _ = _
          rw [filterMap_yes fKeep xs k _ (Ev.mk kind thread mode) Hx.out (by simp [fKeep, keepB, hr]), ← hm.out]
        have hcall := Lib.hid (fun W => runs_calls ⟨kind, thread, mode⟩ W true hr)
        clear hr
        go_wp2_with fail
        refine (hcall.out _).mono ?_
        rintro e w2 ⟨rfl, hk2⟩
        have z2 := hk2.size
        have q0 : w2.cell? ⟨wr.heap.size, 0, none⟩ = some (.int .i64 kind) := by rw [hk2.cell (by simp) (fun h => h)]; simp
        have q1 : w2.cell? ⟨wr.heap.size, 1, none⟩ = some (.int .i64 thread) := by rw [hk2.cell (by simp) (fun h => h)]; simp
        have q2 : w2.cell? ⟨wr.heap.size, 2, none⟩ = some (.int .i64 mode) := by rw [hk2.cell (by simp) (fun h => h)]; simp
        have M2 := Lib.hid (HM.out.keeps (((Keeps.refl _ wr).alloc _).trans hk2 (fun _ _ h => h)))
        clear hk2 hcall
        go_wp2_with (at_builtin; refine wpList_appN eE _ rfl _ _ rfl (.slice A5 m.length c5) m.length _ rfl (World.ownsRow.alloc M2.out.own _) ⟨w2.heap.size, 0, none⟩ 1 1 [.int .i64 kind, .int .i64 thread, .int .i64 mode] rfl rfl (newsB (e := 36) (block_alloc_new w2 _)) ?_ ?_ ?_ ?_)
        · simp [Value.oneCell']
        · simp only [maxLen]; omega
        · omega
        rintro v4 w4 ho4 hg4 hf4 g4 c4 rfl
        have hln : (m ++ [Ev.mk kind thread mode]).length = m.length + 1 := by simp
        have M4 := M2.out.grow ((Keeps.refl _ w2).alloc _) ho4 hg4 hf4 (by omega)
        have HM4 : Hid (Mine w w4 36 3 (.slice (some ⟨g4, 0, none⟩) (m ++ [Ev.mk kind thread mode]).length c4) (m ++ [Ev.mk kind thread mode]).length ((m ++ [Ev.mk kind thread mode]).flatMap encE)) := by
          show Mine _ _ _ _ _ _ _
          rw [hln, List.flatMap_append]; exact M4
        clear M4 ho4 hg4 hf4 hln
        go_wp2_with fail
        exact ⟨⟨k + 1, m ++ [Ev.mk kind thread mode], some ⟨g4, 0, none⟩, c4, by omega, by go_num, by simp, by simp; omega, hfin.out.symm, HM4.out⟩, by simp [intOf]; omega⟩
      | false =>
        have hcall := Lib.hid (fun W => runs_calls ⟨kind, thread, mode⟩ W false hr)
        have hcallF := hcall
        by_cases hmo : 0 < mode
        · have hfin : Hid ((xs.take (k + 1)).filterMap fKeep = m ++ [Ev.mk kind thread mode]) := by
            show _ = _
            rw [filterMap_yes fKeep xs k _ (Ev.mk kind thread mode) Hx.out (by simp [fKeep, keepB, hmo]), ← hm.out]
          clear hr hcallF
          go_wp2_with fail
          refine (hcall.out _).mono ?_
          rintro e w2 ⟨rfl, hk2⟩
          have z2 := hk2.size
          have q0 : w2.cell? ⟨wr.heap.size, 0, none⟩ = some (.int .i64 kind) := by rw [hk2.cell (by simp) (fun h => h)]; simp
          have q1 : w2.cell? ⟨wr.heap.size, 1, none⟩ = some (.int .i64 thread) := by rw [hk2.cell (by simp) (fun h => h)]; simp
          have q2 : w2.cell? ⟨wr.heap.size, 2, none⟩ = some (.int .i64 mode) := by rw [hk2.cell (by simp) (fun h => h)]; simp
          have M2 := Lib.hid (HM.out.keeps (((Keeps.refl _ wr).alloc _).trans hk2 (fun _ _ h => h)))
          clear hk2 hcall
          go_wp2_with (at_builtin; refine wpList_appN eE _ rfl _ _ rfl (.slice A5 m.length c5) m.length _ rfl (World.ownsRow.alloc M2.out.own _) ⟨w2.heap.size, 0, none⟩ 1 1 [.int .i64 kind, .int .i64 thread, .int .i64 mode] rfl rfl (newsB (e := 36) (block_alloc_new w2 _)) ?_ ?_ ?_ ?_)
          · simp [Value.oneCell']
          · simp only [maxLen]; omega
          · omega
          rintro v4 w4 ho4 hg4 hf4 g4 c4 rfl
          have hln : (m ++ [Ev.mk kind thread mode]).length = m.length + 1 := by simp
          have M4 := M2.out.grow ((Keeps.refl _ w2).alloc _) ho4 hg4 hf4 (by omega)
          have HM4 : Hid (Mine w w4 36 3 (.slice (some ⟨g4, 0, none⟩) (m ++ [Ev.mk kind thread mode]).length c4) (m ++ [Ev.mk kind thread mode]).length ((m ++ [Ev.mk kind thread mode]).flatMap encE)) := by
            show Mine _ _ _ _ _ _ _
            rw [hln, List.flatMap_append]; exact M4
          clear M4 ho4 hg4 hf4 hln
          go_wp2_with fail
          exact ⟨⟨k + 1, m ++ [Ev.mk kind thread mode], some ⟨g4, 0, none⟩, c4, by omega, by go_num, by simp, by simp; omega, hfin.out.symm, HM4.out⟩, by simp [intOf]; omega⟩
        · have hmo' : mode ≤ 0 := by omega
          have hfin : Hid ((xs.take (k + 1)).filterMap fKeep = m) := by
            show _ = _
            rw [filterMap_no fKeep xs k _ Hx.out (by simp [fKeep, keepB, hr, hmo]), ← hm.out]
          clear hr hcallF hmo
          go_wp2_with fail
          refine (hcall.out _).mono ?_
          rintro e w2 ⟨rfl, hk2⟩
          have z2 := hk2.size
          have q2 : w2.cell? ⟨wr.heap.size, 2, none⟩ = some (.int .i64 mode) := by rw [hk2.cell (by simp) (fun h => h)]; simp
          have M2 := Lib.hid (HM.out.keeps (((Keeps.refl _ wr).alloc _).trans hk2 (fun _ _ h => h)))
          clear hk2 hcall
          go_wp2_with fail
          exact ⟨⟨k + 1, m, A5, c5, by omega, by go_num, rfl, by omega, hfin.out.symm, M2.out⟩, by simp [intOf]; omega⟩
    · obtain rfl : k = n := by omega
      have hfin : Hid (xs.filterMap fKeep = m) := by show _ = _; rw [hm.out, List.take_of_length_le (by rw [hn.out]; omega)]
      go_wp2_with fail
      go_ret
      rw [hfin.out]
      exact ⟨A5, c5, rfl, HM.out⟩
end Go.Proofs.Ytpchhlhjmkkoiaa
