/- EventParts: of any events: whose threads they are, which may run by them, which count again. -/
import Derived.Test.YtpchhlhjmkkoiaaEvD
import Derived.Deep.DeepCutAuto
import Derived.Deep.CutBlock
namespace Go.Proofs.Ytpchhlhjmkkoiaa
open Go.RowKit

def EndsPost (w : World) (e : Ending) (w' : World) : Prop := e = .returned (.bool true) ∧ Below w.heap.size w w'

/-- Three rows of the law's own. -/
structure Three (w wr : World) (g3 c3 : Nat) (m3 : List Int) (g4 c4 : Nat) (m4 : List Int) (g5 c5 : Nat) (m5 : List Ev) : Prop where
  o3 : Own wr 3 1 (.slice (some ⟨g3, 0, none⟩) m3.length c3) m3.length (m3.map (Value.int .i64))
  o4 : Own wr 3 1 (.slice (some ⟨g4, 0, none⟩) m4.length c4) m4.length (m4.map (Value.int .i64))
  o5 : Own wr 36 3 (.slice (some ⟨g5, 0, none⟩) m5.length c5) m5.length (m5.flatMap encE)
  n : g3 ≠ g4 ∧ g3 ≠ g5 ∧ g4 ≠ g5
  f : w.heap.size ≤ g3 ∧ w.heap.size ≤ g4 ∧ w.heap.size ≤ g5
  kp : Keeps NoBlock w wr

theorem Three.keeps {w wr w' : World} {g3 c3 g4 c4 g5 c5 : Nat} {m3 m4 : List Int} {m5 : List Ev} (h : Three w wr g3 c3 m3 g4 c4 m4 g5 c5 m5) (k : Keeps NoBlock wr w') : Three w w' g3 c3 m3 g4 c4 m4 g5 c5 m5 :=
  ⟨h.o3.keeps k (fun _ _ h => h), h.o4.keeps k (fun _ _ h => h), h.o5.keeps k (fun _ _ h => h), h.n, h.f, h.kp.trans k (fun _ _ h => h)⟩

theorem grown_keeps {wr W w' : World} {g : Nat} (kW : Keeps NoBlock wr W) (hg : World.grownBy W w' (some g)) : Keeps (fun b => b = g) wr w' :=
  (kW.mono (fun _ _ h => h.elim)).grown hg (fun k hk => .inl (by simp only [Option.some.injEq] at hk; exact hk.symm))

theorem Three.g3 {w wr W w' : World} {g3 c3 g4 c4 g5 c5 g c N : Nat} {m3 m4 : List Int} {m5 : List Ev} (h : Three w wr g3 c3 m3 g4 c4 m4 g5 c5 m5) (kW : Keeps NoBlock wr W) (x : Int)
    (ho : Own w' 3 1 (.slice (some ⟨g, 0, none⟩) (m3.length + 1) c) (m3.length + 1) (m3.map (Value.int .i64) ++ [.int .i64 x])) (hg : World.grownBy W w' (some g3))
    (hf : ∀ k, (Value.slice (some ⟨g, 0, none⟩) (m3.length + 1) c).ownBlock = some k → (Value.slice (some ⟨g3, 0, none⟩) m3.length c3).ownBlock = some k ∨ N ≤ k) (hN : wr.heap.size ≤ N) : Three w w' g c (m3 ++ [x]) g4 c4 m4 g5 c5 m5 := by
  have k := grown_keeps kW hg
  have hl4 := h.o4.lt g4 rfl
  have hl5 := h.o5.lt g5 rfl
  have hs := h.kp.size
  obtain ⟨n1, n2, n3⟩ := h.n
  obtain ⟨f1, f2, f3⟩ := h.f
  have hfg : g3 = g ∨ N ≤ g := by
    rcases hf g rfl with h1 | h1
    · simp only [Value.ownBlock, Option.some.injEq] at h1; exact .inl h1
    · exact .inr h1
  refine ⟨by rw [List.length_append, List.map_append]; exact ho, h.o4.keeps k (fun b hb e => ?_), h.o5.keeps k (fun b hb e => ?_), by omega, by omega, h.kp.trans k (fun j hj e => ?_)⟩
  · simp only [Value.ownBlock, Option.some.injEq] at hb; omega
  · simp only [Value.ownBlock, Option.some.injEq] at hb; omega
  · omega

theorem Three.g4 {w wr W w' : World} {g3 c3 g4 c4 g5 c5 g c N : Nat} {m3 m4 : List Int} {m5 : List Ev} (h : Three w wr g3 c3 m3 g4 c4 m4 g5 c5 m5) (kW : Keeps NoBlock wr W) (x : Int)
    (ho : Own w' 3 1 (.slice (some ⟨g, 0, none⟩) (m4.length + 1) c) (m4.length + 1) (m4.map (Value.int .i64) ++ [.int .i64 x])) (hg : World.grownBy W w' (some g4))
    (hf : ∀ k, (Value.slice (some ⟨g, 0, none⟩) (m4.length + 1) c).ownBlock = some k → (Value.slice (some ⟨g4, 0, none⟩) m4.length c4).ownBlock = some k ∨ N ≤ k) (hN : wr.heap.size ≤ N) : Three w w' g3 c3 m3 g c (m4 ++ [x]) g5 c5 m5 := by
  have k := grown_keeps kW hg
  have hl3 := h.o3.lt g3 rfl
  have hl5 := h.o5.lt g5 rfl
  have hs := h.kp.size
  obtain ⟨n1, n2, n3⟩ := h.n
  obtain ⟨f1, f2, f3⟩ := h.f
  have hfg : g4 = g ∨ N ≤ g := by
    rcases hf g rfl with h1 | h1
    · simp only [Value.ownBlock, Option.some.injEq] at h1; exact .inl h1
    · exact .inr h1
  refine ⟨h.o3.keeps k (fun b hb e => ?_), by rw [List.length_append, List.map_append]; exact ho, h.o5.keeps k (fun b hb e => ?_), by omega, by omega, h.kp.trans k (fun j hj e => ?_)⟩
  · simp only [Value.ownBlock, Option.some.injEq] at hb; omega
  · simp only [Value.ownBlock, Option.some.injEq] at hb; omega
  · omega

theorem Three.g5 {w wr W w' : World} {g3 c3 g4 c4 g5 c5 g c N : Nat} {m3 m4 : List Int} {m5 : List Ev} (h : Three w wr g3 c3 m3 g4 c4 m4 g5 c5 m5) (kW : Keeps NoBlock wr W) (x : Ev)
    (ho : Own w' 36 3 (.slice (some ⟨g, 0, none⟩) (m5.length + 1) c) (m5.length + 1) (m5.flatMap encE ++ encE x)) (hg : World.grownBy W w' (some g5))
    (hf : ∀ k, (Value.slice (some ⟨g, 0, none⟩) (m5.length + 1) c).ownBlock = some k → (Value.slice (some ⟨g5, 0, none⟩) m5.length c5).ownBlock = some k ∨ N ≤ k) (hN : wr.heap.size ≤ N) : Three w w' g3 c3 m3 g4 c4 m4 g c (m5 ++ [x]) := by
  have k := grown_keeps kW hg
  have hl3 := h.o3.lt g3 rfl
  have hl4 := h.o4.lt g4 rfl
  have hs := h.kp.size
  obtain ⟨n1, n2, n3⟩ := h.n
  obtain ⟨f1, f2, f3⟩ := h.f
  have hfg : g5 = g ∨ N ≤ g := by
    rcases hf g rfl with h1 | h1
    · simp only [Value.ownBlock, Option.some.injEq] at h1; exact .inl h1
    · exact .inr h1
  refine ⟨h.o3.keeps k (fun b hb e => ?_), h.o4.keeps k (fun b hb e => ?_), by rw [List.length_append, List.flatMap_append]; simpa using ho, by omega, by omega, h.kp.trans k (fun j hj e => ?_)⟩
  · simp only [Value.ownBlock, Option.some.injEq] at hb; omega
  · simp only [Value.ownBlock, Option.some.injEq] at hb; omega
  · omega

theorem three_new (w : World) : Three w (((w.alloc (.cells #[] 3)).alloc (.cells #[] 3)).alloc (.cells #[] 36)) w.heap.size 0 [] (w.heap.size + 1) 0 [] (w.heap.size + 2) 0 [] := by
  have h3 : Own (w.alloc (.cells #[] 3)) 3 1 (.slice (some ⟨w.heap.size, 0, none⟩) 0 0) 0 [] := World.ownsRow_lit w #[] 0 (Nat.zero_le _) (by simp [maxLen]) (by simp)
  have h4 : Own ((w.alloc (.cells #[] 3)).alloc (.cells #[] 3)) 3 1 (.slice (some ⟨(w.alloc (.cells #[] 3)).heap.size, 0, none⟩) 0 0) 0 [] := World.ownsRow_lit _ #[] 0 (Nat.zero_le _) (by simp [maxLen]) (by simp)
  have h5 : Own (((w.alloc (.cells #[] 3)).alloc (.cells #[] 3)).alloc (.cells #[] 36)) 36 3 (.slice (some ⟨((w.alloc (.cells #[] 3)).alloc (.cells #[] 3)).heap.size, 0, none⟩) 0 0) 0 [] := World.ownsRow_lit _ #[] 0 (Nat.zero_le _) (by simp [maxLen]) (by simp)
  simp only [World.size_alloc] at h4 h5
  exact ⟨World.ownsRow.alloc (World.ownsRow.alloc h3 _) _, World.ownsRow.alloc h4 _, h5, by omega, by omega, ((((Keeps.refl _ _).alloc _).alloc _).alloc _)⟩

def PartsRel (w : World) (xs : List Ev) (n : Nat) (v3 v4 v5 i : Value) (wr : World) : Prop :=
  ∃ (k g3 c3 : Nat) (m3 : List Int) (g4 c4 : Nat) (m4 : List Int) (g5 c5 : Nat) (m5 : List Ev), k ≤ n ∧ i = .int .i64 k ∧ v3 = .slice (some ⟨g3, 0, none⟩) m3.length c3 ∧ v4 = .slice (some ⟨g4, 0, none⟩) m4.length c4 ∧ v5 = .slice (some ⟨g5, 0, none⟩) m5.length c5 ∧
    (m3.length ≤ k ∧ m4.length ≤ k ∧ m5.length ≤ k) ∧ Hid (m3 = (xs.take k).filterMap fThreads ∧ m4 = (xs.take k).filterMap fReady ∧ m5 = (xs.take k).filterMap fKeep) ∧ Hid (Three w wr g3 c3 m3 g4 c4 m4 g5 c5 m5)

set_option maxHeartbeats 4000000 in
set_option maxRecDepth 100000 in
theorem parts_calls (v : Value) (xs : List Ev) (w : World) (h : EvsAt w v xs) : Calls Try.prog 7 #[v] w (EndsPost w) := by
  obtain ⟨h, hl, _⟩ := h
  have HR := Lib.hid h
  obtain ⟨A, b, off, cap, rfl, hA, hc⟩ := h
  obtain ⟨n, hn⟩ : ∃ n, Hid (xs.length = n) := ⟨_, rfl⟩
  have Hc := Lib.hid hc
  have HA := Lib.hid hA
  rw [hn.out] at hl HA HR ⊢
  clear hc hA
  have T0 := Lib.hid (three_new w)
  go_enter Try.func7, Try.ntmps7
  go_wp2_with fail
  go_loopw [3, 4, 5, 6] (fun v3 v4 v5 i wr => PartsRel w xs n v3 v4 v5 i wr) (fun _ _ _ i _ => n - (intOf i).toNat)
  case atStart => exact ⟨0, _, _, [], _, _, [], _, _, [], Nat.zero_le _, rfl, rfl, rfl, rfl, ⟨Nat.le_refl _, Nat.le_refl _, Nat.le_refl _⟩, ⟨rfl, rfl, rfl⟩, T0.out⟩
  case round =>
    obtain ⟨k, g3, c3, m3, g4, c4, m4, g5, c5, m5, hk, rfl, rfl, rfl, rfl, ⟨hl3, hl4, hl5⟩, hm, HT⟩ := hrel
    clear T0
    by_cases hlt : k < n
    · obtain ⟨x, hx⟩ : ∃ x, xs[k]? = some x := ⟨_, List.getElem?_eq_getElem (by rw [hn.out]; exact hlt)⟩
      obtain ⟨rfl, hb1⟩ := HA.out (by omega)
      have hcx := cells3 Hc.out hx
      rw [← HT.out.kp.cell hb1 (fun h => h), ← HT.out.kp.cell hb1 (fun h => h), ← HT.out.kp.cell hb1 (fun h => h)] at hcx
      have Hx := Lib.hid hx
      clear hx
      obtain ⟨kind, thread, mode⟩ := x
      dsimp only at hcx
      have hg3l : g3 < wr.heap.size := HT.out.o3.lt g3 rfl
      have hg4l : g4 < wr.heap.size := HT.out.o4.lt g4 rfl
      have hg5l : g5 < wr.heap.size := HT.out.o5.lt g5 rfl
      go_upto_if 27 with fail
      go_cut [3] from 27 to 32 (fun v wx => ∃ (g c : Nat) (m : List Int), v = .slice (some ⟨g, 0, none⟩) m.length c ∧ m.length ≤ k + 1 ∧ Hid (m = (xs.take (k + 1)).filterMap fThreads) ∧ Hid (Three w wx g c m g4 c4 m4 g5 c5 m5) ∧ Hid (wx.heap[wr.heap.size]? = some (.cells #[.int .i64 kind, .int .i64 thread, .int .i64 mode] 36 (0, 0))))
      case first =>
        by_cases hth : 0 ≤ thread
        · have hfin : Hid ((xs.take (k + 1)).filterMap fThreads = m3 ++ [thread]) := by
            show _ = _
            rw [filterMap_yes fThreads xs k _ thread Hx.out (by simp [fThreads, hth]), ← hm.out.1]
          have hnb := Lib.hid (newsB (e := 3) (blk_new (w := wr.alloc (.cells #[.int .i64 kind, .int .i64 thread, .int .i64 mode] 36)) (o := .cells #[.int .i64 thread] 3) (k := wr.heap.size + 1) (by simp)))
          go_wp2_with (at_builtin; refine wpList_appN eN _ rfl _ _ rfl (.slice (some ⟨g3, 0, none⟩) m3.length c3) m3.length _ rfl (World.ownsRow.alloc (World.ownsRow.alloc HT.out.o3 _) _) ⟨wr.heap.size + 1, 0, none⟩ 1 1 [.int .i64 thread] rfl rfl hnb.out ?_ ?_ ?_ ?_)
          · simp [Value.oneCell']
          · simp only [maxLen]; omega
          · omega
          rintro v6 w6 ho6 hg6 hf6 g6 c6 rfl
          have T6 := Lib.hid (HT.out.g3 (((Keeps.refl _ wr).alloc _).alloc _) thread ho6 hg6 hf6 (by omega))
          have b6 : Hid (w6.heap[wr.heap.size]? = some (.cells #[.int .i64 kind, .int .i64 thread, .int .i64 mode] 36 (0, 0))) := blk_grown hg6 (by simp only [Value.ownBlock, ne_eq, Option.some.injEq]; omega) (block_alloc_old (block_alloc_new _ _))
          clear ho6 hg6 hf6 hnb
          go_wp2_with fail
          go_meet
          case rel => exact ⟨g6, c6, m3 ++ [thread], by simp, by simp; omega, hfin.out.symm, T6.out, b6.out⟩
        · have hth' : thread < 0 := by omega
          have hfin : Hid ((xs.take (k + 1)).filterMap fThreads = m3) := by
            show _ = _
            rw [filterMap_no fThreads xs k _ Hx.out (by simp [fThreads, hth]), ← hm.out.1]
          have b6 : Hid ((wr.alloc (.cells #[.int .i64 kind, .int .i64 thread, .int .i64 mode] 36)).heap[wr.heap.size]? = some (.cells #[.int .i64 kind, .int .i64 thread, .int .i64 mode] 36 (0, 0))) := block_alloc_new _ _
          have T6 := Lib.hid (HT.out.keeps ((Keeps.refl _ wr).alloc (.cells #[.int .i64 kind, .int .i64 thread, .int .i64 mode] 36)))
          clear hth
          go_wp2_with fail
          go_meet
          case rel => exact ⟨g3, c3, m3, rfl, by omega, hfin.out.symm, T6.out, b6.out⟩
      case rest =>
        obtain ⟨g3', c3', m3', rfl, hl3', hm3', HT', Hb⟩ := hcut
        have q0 : wc.cell? ⟨wr.heap.size, 0, none⟩ = some (.int .i64 kind) := cell_of_block Hb.out rfl
        have q1 : wc.cell? ⟨wr.heap.size, 1, none⟩ = some (.int .i64 thread) := cell_of_block Hb.out rfl
        have q2 : wc.cell? ⟨wr.heap.size, 2, none⟩ = some (.int .i64 mode) := cell_of_block Hb.out rfl
        have zc := lt_of_block Hb.out
        cases hr : runsB ⟨kind, thread, mode⟩ with
        | true =>
          have f4 : Hid ((xs.take (k + 1)).filterMap fReady = m4 ++ [thread]) := by
            show _ = _
            rw [filterMap_yes fReady xs k _ thread Hx.out (by simp [fReady, hr]), ← hm.out.2.1]
          have f5 : Hid ((xs.take (k + 1)).filterMap fKeep = m5 ++ [Ev.mk kind thread mode]) := by
            show _ = _
            rw [filterMap_yes fKeep xs k _ (Ev.mk kind thread mode) Hx.out (by simp [fKeep, keepB, hr]), ← hm.out.2.2]
          have hcR := Lib.hid (fun W => runsR_calls ⟨kind, thread, mode⟩ W true hr)
          have hcE := Lib.hid (fun W => runs_calls ⟨kind, thread, mode⟩ W true hr)
          have Hr := Lib.hid hr
          clear hr
          go_wp2_with fail
          refine (hcR.out _).mono ?_
          rintro e w7 ⟨rfl, k7⟩
          have b7 : Hid (w7.heap[wr.heap.size]? = some (.cells #[.int .i64 kind, .int .i64 thread, .int .i64 mode] 36 (0, 0))) := (k7.block _ (lt_of_block Hb.out) (fun h => h)).trans Hb.out
          have T7 := Lib.hid (HT'.out.keeps k7)
          have p0 : w7.cell? ⟨wr.heap.size, 0, none⟩ = some (.int .i64 kind) := cell_of_block b7.out rfl
          have p1 : w7.cell? ⟨wr.heap.size, 1, none⟩ = some (.int .i64 thread) := cell_of_block b7.out rfl
          have p2 : w7.cell? ⟨wr.heap.size, 2, none⟩ = some (.int .i64 mode) := cell_of_block b7.out rfl
          clear k7 q0 q1 q2
          go_wp2_with fail
          refine (hcE.out _).mono ?_
          rintro e w8 ⟨rfl, k8⟩
          have b8 : Hid (w8.heap[wr.heap.size]? = some (.cells #[.int .i64 kind, .int .i64 thread, .int .i64 mode] 36 (0, 0))) := (k8.block _ (lt_of_block b7.out) (fun h => h)).trans b7.out
          have T8 := Lib.hid (T7.out.keeps k8)
          have z8 := lt_of_block b8.out
          have r0 : w8.cell? ⟨wr.heap.size, 0, none⟩ = some (.int .i64 kind) := cell_of_block b8.out rfl
          have r1 : w8.cell? ⟨wr.heap.size, 1, none⟩ = some (.int .i64 thread) := cell_of_block b8.out rfl
          have r2 : w8.cell? ⟨wr.heap.size, 2, none⟩ = some (.int .i64 mode) := cell_of_block b8.out rfl
          clear k8 p0 p1 p2
          go_wp2_with (at_builtin; refine wpList_appN eN _ rfl _ _ rfl (.slice (some ⟨g4, 0, none⟩) m4.length c4) m4.length _ rfl (World.ownsRow.alloc T8.out.o4 _) ⟨w8.heap.size, 0, none⟩ 1 1 [.int .i64 thread] rfl rfl (newsB (e := 3) (block_alloc_new w8 _)) ?_ ?_ ?_ ?_)
          · simp [Value.oneCell']
          · simp only [maxLen]; omega
          · omega
          rintro v9 w9 ho9 hg9 hf9 g9 c9 rfl
          have T9 := Lib.hid (T8.out.g4 ((Keeps.refl _ w8).alloc _) thread ho9 hg9 hf9 (by omega))
          have b9 : Hid (w9.heap[wr.heap.size]? = some (.cells #[.int .i64 kind, .int .i64 thread, .int .i64 mode] 36 (0, 0))) := blk_grown hg9 (by simp only [Value.ownBlock, ne_eq, Option.some.injEq]; omega) (block_alloc_old b8.out)
          clear ho9 hg9 hf9 r0 r1 r2
          have s0 : w9.cell? ⟨wr.heap.size, 0, none⟩ = some (.int .i64 kind) := cell_of_block b9.out rfl
          have s1 : w9.cell? ⟨wr.heap.size, 1, none⟩ = some (.int .i64 thread) := cell_of_block b9.out rfl
          have s2 : w9.cell? ⟨wr.heap.size, 2, none⟩ = some (.int .i64 mode) := cell_of_block b9.out rfl
          go_wp2_with (at_builtin; refine wpList_appN eE _ rfl _ _ rfl (.slice (some ⟨g5, 0, none⟩) m5.length c5) m5.length _ rfl (World.ownsRow.alloc T9.out.o5 _) ⟨w9.heap.size, 0, none⟩ 1 1 [.int .i64 kind, .int .i64 thread, .int .i64 mode] rfl rfl (newsB (e := 36) (block_alloc_new w9 _)) ?_ ?_ ?_ ?_)
          · simp [Value.oneCell']
          · simp only [maxLen]; omega
          · omega
          rintro v10 w10 ho10 hg10 hf10 g10 c10 rfl
          have T10 := Lib.hid (T9.out.g5 ((Keeps.refl _ w9).alloc _) ⟨kind, thread, mode⟩ ho10 hg10 hf10 (by omega))
          clear ho10 hg10 hf10
          go_wp2_with fail
          exact ⟨⟨k + 1, g3', c3', m3', g9, c9, m4 ++ [thread], g10, c10, m5 ++ [Ev.mk kind thread mode], by omega, by go_num, rfl, by simp, by simp, ⟨by omega, by simp; omega, by simp; omega⟩, ⟨hm3'.out, f4.out.symm, f5.out.symm⟩, T10.out⟩, by simp [intOf]; omega⟩
        | false =>
          have f4 : Hid ((xs.take (k + 1)).filterMap fReady = m4) := by
            show _ = _
            rw [filterMap_no fReady xs k _ Hx.out (by simp [fReady, hr]), ← hm.out.2.1]
          have f5 := fun (h : 0 < mode) => filterMap_yes fKeep xs k _ (Ev.mk kind thread mode) Hx.out (by simp [fKeep, keepB, h])
          have f5' := fun (h : ¬ 0 < mode) => filterMap_no fKeep xs k _ Hx.out (by simp [fKeep, keepB, hr, h])
          rw [← hm.out.2.2] at f5 f5'
          have F5 := Lib.hid f5
          have F5' := Lib.hid f5'
          clear f5 f5'
          have hcR := Lib.hid (fun W => runsR_calls ⟨kind, thread, mode⟩ W false hr)
          have hcE := Lib.hid (fun W => runs_calls ⟨kind, thread, mode⟩ W false hr)
          have Hr := Lib.hid hr
          clear hr
          go_wp2_with fail
          refine (hcR.out _).mono ?_
          rintro e w7 ⟨rfl, k7⟩
          have b7 : Hid (w7.heap[wr.heap.size]? = some (.cells #[.int .i64 kind, .int .i64 thread, .int .i64 mode] 36 (0, 0))) := (k7.block _ (lt_of_block Hb.out) (fun h => h)).trans Hb.out
          have T7 := Lib.hid (HT'.out.keeps k7)
          have p0 : w7.cell? ⟨wr.heap.size, 0, none⟩ = some (.int .i64 kind) := cell_of_block b7.out rfl
          have p1 : w7.cell? ⟨wr.heap.size, 1, none⟩ = some (.int .i64 thread) := cell_of_block b7.out rfl
          have p2 : w7.cell? ⟨wr.heap.size, 2, none⟩ = some (.int .i64 mode) := cell_of_block b7.out rfl
          clear k7 q0 q1 q2
          go_wp2_with fail
          refine (hcE.out _).mono ?_
          rintro e w8 ⟨rfl, k8⟩
          have b8 : Hid (w8.heap[wr.heap.size]? = some (.cells #[.int .i64 kind, .int .i64 thread, .int .i64 mode] 36 (0, 0))) := (k8.block _ (lt_of_block b7.out) (fun h => h)).trans b7.out
          have T8 := Lib.hid (T7.out.keeps k8)
          have z8 := lt_of_block b8.out
          have r0 : w8.cell? ⟨wr.heap.size, 0, none⟩ = some (.int .i64 kind) := cell_of_block b8.out rfl
          have r1 : w8.cell? ⟨wr.heap.size, 1, none⟩ = some (.int .i64 thread) := cell_of_block b8.out rfl
          have r2 : w8.cell? ⟨wr.heap.size, 2, none⟩ = some (.int .i64 mode) := cell_of_block b8.out rfl
          clear k8 p0 p1 p2
          by_cases hmo : 0 < mode
          · have f5 := Lib.hid (F5.out hmo)
            go_wp2_with (at_builtin; refine wpList_appN eE _ rfl _ _ rfl (.slice (some ⟨g5, 0, none⟩) m5.length c5) m5.length _ rfl (World.ownsRow.alloc T8.out.o5 _) ⟨w8.heap.size, 0, none⟩ 1 1 [.int .i64 kind, .int .i64 thread, .int .i64 mode] rfl rfl (newsB (e := 36) (block_alloc_new w8 _)) ?_ ?_ ?_ ?_)
            · simp [Value.oneCell']
            · simp only [maxLen]; omega
            · omega
            rintro v10 w10 ho10 hg10 hf10 g10 c10 rfl
            have T10 := Lib.hid (T8.out.g5 ((Keeps.refl _ w8).alloc _) ⟨kind, thread, mode⟩ ho10 hg10 hf10 (by omega))
            clear ho10 hg10 hf10
            go_wp2_with fail
            exact ⟨⟨k + 1, g3', c3', m3', g4, c4, m4, g10, c10, m5 ++ [Ev.mk kind thread mode], by omega, by go_num, rfl, rfl, by simp, ⟨by omega, by omega, by simp; omega⟩, ⟨hm3'.out, f4.out.symm, f5.out.symm⟩, T10.out⟩, by simp [intOf]; omega⟩
          · have f5 := Lib.hid (F5'.out (by omega))
            have hmo' : mode ≤ 0 := by omega
            clear hmo
            go_wp2_with fail
            exact ⟨⟨k + 1, g3', c3', m3', g4, c4, m4, g5, c5, m5, by omega, by go_num, rfl, rfl, rfl, ⟨by omega, by omega, by omega⟩, ⟨hm3'.out, f4.out.symm, f5.out.symm⟩, T8.out⟩, by simp [intOf]; omega⟩
    · obtain rfl : k = n := by omega
      have hall : Hid (xs.filterMap fThreads = m3 ∧ xs.filterMap fReady = m4 ∧ xs.filterMap fKeep = m5) := by
        have h := hm.out
        rw [List.take_of_length_le (by rw [hn.out]; omega)] at h
        exact ⟨h.1.symm, h.2.1.symm, h.2.2.symm⟩
      have hlk : Hid (xs.length * 24 ≤ 140737488351232) := by show _ ≤ _; rw [hn.out]; exact hl
      go_wp2_with fail
      refine (awake14_calls _).mono ?_
      rintro e w1 ⟨rfl, k1⟩
      have T1 := Lib.hid (HT.out.keeps k1)
      clear k1
      go_wp2_with fail
      refine (threads_calls _ xs _ (HR.out.keeps T1.out.kp (fun _ _ h => h)) hlk.out).mono ?_
      rintro e w2 ⟨A2, c2, rfl, M2⟩
      rw [hall.out.1] at M2 ⊢
      have T2 := Lib.hid (T1.out.keeps M2.kp)
      have R2 := Lib.hid (Own.readsI M2.own)
      clear M2
      go_wp2_with fail
      refine (ints_calls _ _ m3 m3 _ R2.out (Own.readsI T2.out.o3) (by omega) (by omega)).mono ?_
      rintro e w3 ⟨rfl, k3⟩
      rw [decide_eq_true rfl]
      have T3 := Lib.hid (T2.out.keeps k3)
      clear k3
      go_wp2_with fail
      refine (ready_calls _ xs _ (HR.out.keeps T3.out.kp (fun _ _ h => h)) hlk.out).mono ?_
      rintro e w4 ⟨A4, c4', rfl, M4⟩
      rw [hall.out.2.1] at M4 ⊢
      have T4 := Lib.hid (T3.out.keeps M4.kp)
      have R4 := Lib.hid (Own.readsI M4.own)
      clear M4
      go_wp2_with fail
      refine (ints_calls _ _ m4 m4 _ R4.out (Own.readsI T4.out.o4) (by omega) (by omega)).mono ?_
      rintro e w5 ⟨rfl, k5⟩
      rw [decide_eq_true rfl]
      have T5 := Lib.hid (T4.out.keeps k5)
      clear k5
      go_wp2_with fail
      refine (keep_calls _ xs _ (HR.out.keeps T5.out.kp (fun _ _ h => h)) hlk.out).mono ?_
      rintro e w6 ⟨A6, c6, rfl, M6⟩
      rw [hall.out.2.2] at M6 ⊢
      have T6 := Lib.hid (T5.out.keeps M6.kp)
      have R6 := Lib.hid (Own.rd encE_len M6.own)
      clear M6
      go_wp2_with fail
      refine (events_calls _ _ m5 m5 _ R6.out (Own.rd encE_len T6.out.o5) (by omega) (by omega)).mono ?_
      rintro e w7 ⟨rfl, k7⟩
      rw [decide_eq_true rfl]
      have K7 := Lib.hid (T6.out.kp.trans k7 (fun _ _ h => h))
      clear k7
      go_wp2_with fail
      go_ret
      exact ⟨rfl, K7.out.below (Nat.le_refl _) (fun _ h => h.elim)⟩

theorem parts_row (w : World) (v : Value) (l : List Ev) (h : EvsAt w v l) : Calls Try.prog 7 #[v] w fun e w' => e = .returned (.bool true) ∧ Below w.heap.size w w' := parts_calls v l w h
end Go.Proofs.Ytpchhlhjmkkoiaa
