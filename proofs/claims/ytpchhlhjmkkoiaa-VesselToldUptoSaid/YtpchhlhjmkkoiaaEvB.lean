/- Package event: events behind one another, and the first one within a section. -/
import Derived.Test.YtpchhlhjmkkoiaaEvA
import Derived.Deep.RegionHeld3
import Derived.Laws.StructEq
namespace Go.Proofs.Ytpchhlhjmkkoiaa
open Go.RowKit

theorem grow_calls (n : Nat) (w : World) (hb : n * 24 ≤ 140737488355328) : Calls Try.prog 32 #[.slice none 0 0, .int .i64 n] w fun e w' => ∃ v, e = .returned v ∧ Mine w w' 36 3 v 0 [] := by
  by_cases hn : n = 0
  · subst hn
    go_enter Try.func32, Try.ntmps32
    go_wp2_with fail
    go_ret
    exact ⟨_, rfl, Mine.nil _ _ _⟩
  · obtain ⟨g, cap, w1, hr, hnc, hcm, M⟩ := run_grown0 eE (tn := 3) Try.underlying3 n (by omega) hb (by omega) w
    have HM := Lib.hid M
    have hn0 : 0 < n := by omega
    clear M hn
    unfold maxLen at hcm
    go_enter Try.func32, Try.ntmps32
    go_wp2_with (at_builtin; refine Lib.wpList_append_run _ rfl _ _ _ _ rfl _ _ rfl rfl _ _ (hr _) ?_)
    go_ret
    exact ⟨_, rfl, HM.out⟩

theorem clone_calls (v : Value) (xs : List Ev) (w : World) (h : Rd encE 3 w v xs) (hb : xs.length * 24 ≤ 140737488351232) : Calls Try.prog 28 #[v] w (NewEvs w xs) := by
  obtain ⟨A, b, off, cap, rfl, hA, hc⟩ := h
  have q : ∀ (w : World) (a : Option Addr) (n c n' c' : Nat), (binOp .eql 22 (.slice a n c) (.slice none n' c')).run Try.prog w = .ok (.bool a.isNone) w := fun w a n c n' c' => Lib.run_eql_slice_nil w _ _ a n c n' c' Try.underlying22
  obtain ⟨n, hn⟩ : ∃ n, Hid (xs.length = n) := ⟨_, rfl⟩
  have hl := flat_len encE 3 encE_len xs
  have hf := Rd.flat (w := w.alloc (.cells #[] 36)) (by decide) encE_len (fun j x i u h1 h2 => by
    have hj : j < xs.length := (List.getElem?_eq_some_iff.1 h1).1
    have := hc j x i u h1 h2
    have hbl := (hA (by omega)).2
    rw [((Keeps.refl NoBlock w).alloc _).cell hbl (fun h => h)]; exact this)
  have Hl := Lib.hid hl
  have Hf := Lib.hid hf
  have HA := Lib.hid (fun h => (hA h).1)
  rw [hn.out] at hb HA Hl ⊢
  clear hl hf hA hc
  cases A with
  | none =>
    obtain rfl : n = 0 := by
      rcases Nat.eq_zero_or_pos n with h | h
      · exact h
      · have := HA.out h; cases this
    obtain rfl : xs = [] := List.eq_nil_of_length_eq_zero hn.out
    go_enter Try.func28, Try.ntmps28
    go_wp2_with fail
    go_ret
    exact ⟨_, _, rfl, Mine.nil _ _ _⟩
  | some a =>
    have h0 : Own (w.alloc (.cells #[] 36)) 36 3 (.slice (some ⟨w.heap.size, 0, none⟩) 0 0) 0 [] := World.ownsRow_lit w #[] 0 (Nat.zero_le _) (by simp [maxLen]) (by simp)
    have M0 : Mine w (w.alloc (.cells #[] 36)) 36 3 (.slice (some ⟨w.heap.size, 0, none⟩) 0 0) 0 [] := ⟨h0, fun k hk => by simp only [Value.ownBlock, Option.some.injEq] at hk; omega, (Keeps.refl _ _).alloc _⟩
    have HM0 := Lib.hid M0
    clear h0 M0
    go_enter Try.func28, Try.ntmps28
    go_wp2_with (at_builtin; refine wpList_appX eE _ rfl _ _ rfl (.slice (some ⟨w.heap.size, 0, none⟩) 0 0) 0 [] rfl HM0.out.own (some a) b off n cap (xs.flatMap encE) rfl HA.out Hl.out Hf.out (encE_one xs) ?_ ?_ ?_)
    · simp only [maxLen]; omega
    · omega
    intro v' w' ho hg hfr hsm
    have M1 := Lib.hid (HM0.out.grow (Keeps.refl _ _) ho hg hfr (by simp))
    obtain ⟨A', c', hv⟩ := Own.isSlice ho
    have Hv := Lib.hid hv
    clear ho hg hfr hsm hv
    go_wp2_with fail
    go_ret
    have M2 := M1.out
    rw [Hv.out] at M2
    exact ⟨A', c', by rw [hn.out, ← Hv.out]; rfl, by rw [hn.out]; exact M2⟩

set_option maxHeartbeats 1000000 in
theorem concat_calls (q : Nat) (va vb : Value) (xs ys : List Ev) (w : World) (hq : w.heap[q]? = some (.cells #[va, vb] 22 (0, 0))) (ha : Rd encE 3 w va xs) (hb : Rd encE 3 w vb ys) (hl : (xs.length + ys.length) * 24 ≤ 140737488355328) :
    Calls Try.prog 31 #[.slice (some ⟨q, 0, none⟩) 2 2] w (NewEvs w (xs ++ ys)) := by
  obtain ⟨A, b, off, cap, rfl, hA, hc⟩ := ha
  obtain ⟨A', b', off', cap', rfl, hA', hc'⟩ := hb
  obtain ⟨nx, hnx⟩ : ∃ n, Hid (xs.length = n) := ⟨_, rfl⟩
  obtain ⟨ny, hny⟩ : ∃ n, Hid (ys.length = n) := ⟨_, rfl⟩
  have c0 := cell_of_block hq (o := 0) rfl
  have c1 := cell_of_block hq (o := 1) rfl
  have hql := lt_of_block hq
  have lx := flat_len encE 3 encE_len xs
  have ly := flat_len encE 3 encE_len ys
  have fx : Hid (∀ W, Keeps NoBlock w W → ∀ j u, (xs.flatMap encE)[j]? = some u → W.cell? ⟨b, off + j, none⟩ = some u) := fun W kW => Rd.flat (by decide) encE_len (fun j x i u h1 h2 => by
    have hj : j < xs.length := (List.getElem?_eq_some_iff.1 h1).1
    rw [kW.cell (hA (by omega)).2 (fun h => h)]; exact hc j x i u h1 h2)
  have fy : Hid (∀ W, Keeps NoBlock w W → ∀ j u, (ys.flatMap encE)[j]? = some u → W.cell? ⟨b', off' + j, none⟩ = some u) := fun W kW => Rd.flat (by decide) encE_len (fun j x i u h1 h2 => by
    have hj : j < ys.length := (List.getElem?_eq_some_iff.1 h1).1
    rw [kW.cell (hA' (by omega)).2 (fun h => h)]; exact hc' j x i u h1 h2)
  have hAx := Lib.hid (fun h => (hA h).1)
  have hAy := Lib.hid (fun h => (hA' h).1)
  have Lx := Lib.hid lx
  have Ly := Lib.hid ly
  rw [hnx.out] at hl hAx Lx c0
  rw [hny.out] at hl hAy Ly c1
  clear hA hA' hc hc' lx ly hq
  go_enter Try.func31, Try.ntmps31
  go_wp2_with fail
  go_loop [3, 11] (fun s i => (i = .int .i64 0 ∧ s = .int .i64 0) ∨ (i = .int .i64 1 ∧ s = .int .i64 nx) ∨ (i = .int .i64 2 ∧ s = .int .i64 ((nx : Int) + ny))) (fun _ i => 2 - (intOf i).toNat)
  case atStart => exact .inl ⟨rfl, rfl⟩
  case round =>
    rcases hrel with ⟨rfl, rfl⟩ | ⟨rfl, rfl⟩ | ⟨rfl, rfl⟩
    · go_wp2_with fail
      exact ⟨.inr (.inl ⟨by go_num, by go_num⟩), by simp [intOf]⟩
    · go_wp2_with fail
      exact ⟨.inr (.inr ⟨by go_num, by go_num⟩), by simp [intOf]⟩
    · obtain ⟨nn, hnn⟩ : ∃ nn : Nat, (nx : Int) + ny = nn := ⟨nx + ny, by omega⟩
      have Hnn := Lib.hid hnn
      rw [hnn]
      clear hnn
      go_wp2_with fail
      refine (grow_calls nn _ (by have := Hnn.out; omega)).mono ?_
      rintro e w1 ⟨v1, rfl, M1⟩
      have HM1 := Lib.hid M1
      have c0' : w1.cell? ⟨q, 0, none⟩ = some (.slice A nx cap) := by rw [M1.kp.cell hql (fun h => h)]; exact c0
      have c1' : w1.cell? ⟨q, 1, none⟩ = some (.slice A' ny cap') := by rw [M1.kp.cell hql (fun h => h)]; exact c1
      clear M1
      go_wp2_with fail
      go_loopw [6, 27] (fun v i wr => (i = .int .i64 0 ∧ v = v1 ∧ wr = w1) ∨ (i = .int .i64 1 ∧ Mine w wr 36 3 v nx (xs.flatMap encE)) ∨ (i = .int .i64 2 ∧ Mine w wr 36 3 v (nx + ny) (xs.flatMap encE ++ ys.flatMap encE))) (fun _ i _ => 2 - (intOf i).toNat)
      case atStart => exact .inl ⟨rfl, rfl, rfl⟩
      case round =>
        rcases hrel with ⟨rfl, rfl, rfl⟩ | ⟨rfl, M⟩ | ⟨rfl, M⟩
        · go_wp2_with (at_builtin; refine wpList_appX eE _ rfl _ _ rfl _ 0 [] rfl HM1.out.own A b off nx cap (xs.flatMap encE) rfl hAx.out Lx.out (fx.out _ HM1.out.kp) (encE_one xs) ?_ ?_ ?_)
          · simp only [maxLen]; omega
          · omega
          intro v' w' ho hg hfr hsm
          have M2 := HM1.out.grow (Keeps.refl _ _) ho hg hfr (Nat.le_refl _)
          have HM2 := Lib.hid M2
          clear ho hg hfr hsm M2
          go_wp2_with fail
          exact ⟨.inr (.inl ⟨by go_num, HM2.out⟩), by simp [intOf]⟩
        · have HM := Lib.hid M
          have c2' : wr.cell? ⟨q, 1, none⟩ = some (.slice A' ny cap') := by rw [M.kp.cell hql (fun h => h)]; exact c1
          clear M
          go_wp2_with (at_builtin; refine wpList_appX eE _ rfl _ _ rfl _ nx (xs.flatMap encE) rfl HM.out.own A' b' off' ny cap' (ys.flatMap encE) rfl hAy.out Ly.out (fy.out _ HM.out.kp) (encE_one ys) ?_ ?_ ?_)
          · simp only [maxLen]; omega
          · omega
          intro v' w' ho hg hfr hsm
          have HM2 := Lib.hid (HM.out.grow (Keeps.refl _ _) ho hg hfr (Nat.le_refl _))
          clear ho hg hfr hsm
          go_wp2_with fail
          exact ⟨.inr (.inr ⟨by go_num, HM2.out⟩), by simp [intOf]⟩
        · obtain ⟨A2, cc2, hv⟩ := Own.isSlice M.own
          subst hv
          have HM := Lib.hid M
          clear M
          go_wp2_with fail
          go_ret
          have hlen : (xs ++ ys).length = nx + ny := by rw [List.length_append, hnx.out, hny.out]
          exact ⟨A2, cc2, by rw [hlen]; rfl, by rw [hlen, List.flatMap_append]; exact HM.out⟩

theorem join_calls (va vb : Value) (xs ys : List Ev) (w : World) (ha : Rd encE 3 w va xs) (hb : Rd encE 3 w vb ys) (hl : (xs.length + ys.length) * 24 ≤ 140737488355328) :
    Calls Try.prog 27 #[va, vb] w (NewEvs w (xs ++ ys)) := by
  have kk : Keeps NoBlock w (w.alloc (.cells #[va, vb] 22)) := (Keeps.refl _ _).alloc _
  have hcon := Lib.hid (concat_calls w.heap.size va vb xs ys (w.alloc (.cells #[va, vb] 22)) (block_alloc_new _ _) (ha.keeps kk (fun _ _ h => h)) (hb.keeps kk (fun _ _ h => h)) hl)
  obtain ⟨A, cap, rfl⟩ := ha.isSlice
  obtain ⟨A', cap', rfl⟩ := hb.isSlice
  have Kk := Lib.hid kk
  clear ha hb kk
  go_enter Try.func27, Try.ntmps27
  go_wp2_with fail
  refine hcon.out.mono ?_
  rintro e w1 ⟨A2, c2, rfl, M⟩
  have HM := Lib.hid (M.back Kk.out)
  clear M
  go_wp2_with fail
  go_ret
  exact ⟨A2, c2, by first | rfl | (rw [List.length_append]; rfl), HM.out⟩
end Go.Proofs.Ytpchhlhjmkkoiaa
