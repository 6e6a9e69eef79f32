/- EventWithin: the first of any events that was taken away within a section, and the others. -/
import Derived.Test.YtpchhlhjmkkoiaaEvE
namespace Go.Proofs.Ytpchhlhjmkkoiaa
open Go.RowKit

theorem idx_cases {α : Type} (p : α → Bool) (xs : List α) : (idxI p xs = -1 ∧ ∀ (j : Nat) (y : α), xs[j]? = some y → p y = false) ∨ ∃ (k : Nat) (x : α), idxI p xs = k ∧ xs[k]? = some x ∧ p x = true ∧ ∀ (j : Nat) (y : α), j < k → xs[j]? = some y → p y = false := by
  unfold idxI
  cases h : xs.findIdx? p with
  | none =>
    rw [List.findIdx?_eq_none_iff] at h
    exact .inl ⟨rfl, fun j y hj => h y (List.mem_of_getElem? hj)⟩
  | some k =>
    rw [List.findIdx?_eq_some_iff_getElem] at h
    obtain ⟨hl, hp, hb⟩ := h
    refine .inr ⟨k, xs[k], rfl, List.getElem?_eq_getElem hl, hp, fun j y hj hy => ?_⟩
    have h1 := hb j hj
    have h2 : xs[j]'(by omega) = y := by
      have := List.getElem?_eq_getElem (l := xs) (show j < xs.length by omega)
      rw [this] at hy
      exact Option.some.inj hy
    rw [h2] at h1
    simpa using h1

theorem mine_empty (w : World) : Mine w (w.alloc (.cells #[] 36)) 36 3 (.slice (some ⟨w.heap.size, 0, none⟩) 0 0) 0 [] :=
  ⟨World.ownsRow_lit w #[] 0 (Nat.zero_le _) (by simp [maxLen]) (by simp), fun k hk => by simp only [Value.ownBlock, Option.some.injEq] at hk; omega, (Keeps.refl _ _).alloc _⟩

theorem mine_one {w w' : World} {v' : Value} {n : Nat} {xs : List Value} (ho : Own w' 36 3 v' n xs) (hg : World.grownBy (w.alloc (.cells #[] 36)) w' (Value.slice (some ⟨w.heap.size, 0, none⟩) 0 0).ownBlock)
    (hf : ∀ k, v'.ownBlock = some k → (Value.slice (some ⟨w.heap.size, 0, none⟩) 0 0).ownBlock = some k ∨ (w.alloc (.cells #[] 36)).heap.size ≤ k) : Mine w w' 36 3 v' n xs :=
  (mine_empty w).grow (Keeps.refl _ _) ho hg hf (Nat.le_refl _)

theorem mine_more {w wr w' : World} {v v' : Value} {n n' : Nat} {xs xs' : List Value} (h : Mine w wr 36 3 v n xs) (ho : Own w' 36 3 v' n' xs') (hg : World.grownBy wr w' v.ownBlock)
    (hf : ∀ k, v'.ownBlock = some k → v.ownBlock = some k ∨ wr.heap.size ≤ k) : Mine w w' 36 3 v' n' xs' := h.grow (Keeps.refl _ _) ho hg hf (Nat.le_refl _)

theorem rd_len {w : World} {e : TypeId} {A : Option Addr} {m m' c : Nat} {l : List Ev} (h : Own w e 3 (.slice A m c) m (l.flatMap encE)) (hm : m = l.length) (hm' : m' = l.length) : Rd encE 3 w (.slice A m' c) l := by
  subst hm; subst hm'; exact Own.rd encE_len h

theorem events_same (va vb : Value) (xs : List Ev) (w : World) (ha : Rd encE 3 w va xs) (hb : Rd encE 3 w vb xs) (hl : xs.length < 1000000000000000) :
    Calls Try.prog 12 #[va, vb] w fun e w' => e = .returned (.bool true) ∧ Keeps NoBlock w w' := (events_calls va vb xs xs w ha hb hl hl).mono fun e w' ⟨he, hk⟩ => ⟨by rw [he, decide_eq_true rfl], hk⟩

set_option maxHeartbeats 4000000 in
set_option maxRecDepth 100000 in
theorem withinL_some (A : Option Addr) (cap k : Nat) (x : Ev) (xs : List Ev) (w : World) (h : Rd encE 3 w (.slice A xs.length cap) xs) (hcap : xs.length ≤ cap) (hl : xs.length * 24 ≤ 140737488351232) (hi : idxI modeB xs = k) (hx : xs[k]? = some x) (hpx : modeB x = true)
    (hbef : ∀ (j : Nat) (y : Ev), j < k → xs[j]? = some y → modeB y = false) : Calls Try.prog 8 #[.slice A xs.length cap] w (EndsPost w) := by
  have Hw := Lib.hid (within_some A cap k x xs w h hcap hl hi hx)
  have HR := Lib.hid h
  obtain ⟨A', b, off, cap', hv, hA, hc⟩ := h
  cases hv
  have hk : k < xs.length := (List.getElem?_eq_some_iff.1 hx).1
  obtain ⟨rfl, hb1⟩ := hA (by omega)
  obtain ⟨n, hn⟩ : ∃ n, Hid (xs.length = n) := ⟨_, rfl⟩
  have tc0 : ∀ W, Keeps NoBlock w W → ∀ j u, (xs.flatMap encE)[j]? = some u → W.cell? ⟨b, off + j, none⟩ = some u := fun W kW => Rd.flat (by decide) encE_len (fun j x i u h1 h2 => by
    rw [kW.cell hb1 (fun h => h)]; exact hc j x i u h1 h2)
  have tc : Hid (∀ W, Keeps NoBlock w W → ∀ j u, ((xs.take k).flatMap encE)[j]? = some u → W.cell? ⟨b, off + j, none⟩ = some u) := fun W kW j u hj => by
    refine tc0 W kW j u ?_
    have e : xs.flatMap encE = (xs.take k).flatMap encE ++ (xs.drop k).flatMap encE := by rw [← List.flatMap_append, List.take_append_drop]
    rw [e, List.getElem?_append_left (List.getElem?_eq_some_iff.1 hj).1]; exact hj
  have uc : Hid (∀ W, Keeps NoBlock w W → ∀ j u, ((xs.drop (k + 1)).flatMap encE)[j]? = some u → W.cell? ⟨b, off + (k + 1) * 3 + j, none⟩ = some u) := fun W kW j u hj => by
    rw [Nat.add_assoc]
    refine tc0 W kW _ u ?_
    have e : xs.flatMap encE = (xs.take (k + 1)).flatMap encE ++ (xs.drop (k + 1)).flatMap encE := by rw [← List.flatMap_append, List.take_append_drop]
    have hlt : ((xs.take (k + 1)).flatMap encE).length = (k + 1) * 3 := by rw [flat_len encE 3 encE_len, List.length_take]; omega
    rw [e, List.getElem?_append_right (by omega), hlt, Nat.add_sub_cancel_left]; exact hj
  have tl : Hid (((xs.take k).flatMap encE).length = k * 3) := by show _ = _; rw [flat_len encE 3 encE_len, List.length_take]; omega
  have ul : Hid (((xs.drop (k + 1)).flatMap encE).length = (n - (k + 1)) * 3) := by show _ = _; rw [flat_len encE 3 encE_len, List.length_drop, hn.out]
  have t1 := Lib.hid (encE_one (xs.take k))
  have u1 := Lib.hid (encE_one (xs.drop (k + 1)))
  obtain ⟨Ad, hAd, hAd2⟩ : ∃ Ad : Addr, (if cap = k + 1 then some (⟨b, off, none⟩ : Addr) else some ⟨b, off + (k + 1) * 3, none⟩) = some Ad ∧ Hid (0 < n - (k + 1) → some Ad = some ⟨b, off + (k + 1) * 3, none⟩) := by
    by_cases hh : cap = k + 1
    · exact ⟨⟨b, off, none⟩, by simp [hh], fun h => by rw [hn.out] at hcap; omega⟩
    · exact ⟨⟨b, off + (k + 1) * 3, none⟩, by simp [hh], fun _ => rfl⟩
  have herase : Hid ((xs.take k).flatMap encE ++ (xs.drop (k + 1)).flatMap encE = (xs.eraseIdx k).flatMap encE) := by show _ = _; rw [← List.flatMap_append, List.eraseIdx_eq_take_drop_succ]
  have hlen : Hid ((xs.eraseIdx k).length = n - 1) := by show _ = _; rw [List.length_eraseIdx_of_lt hk, hn.out]
  have Hc := Lib.hid hc
  have Hx := Lib.hid hx
  have Hbef := Lib.hid hbef
  have hpm : 0 < x.mode := by simpa [modeB] using hpx
  rw [hn.out] at hcap hl hk Hw HR ⊢
  clear hA hc hx hi tc0 hbef hpx
  have hbi0 : (0 : Int) ≤ (k : Int) := by omega
  have hbi1 : (k : Int) < (n : Int) := by omega
  have hbi2 : (k : Int) ≤ (cap : Int) := by omega
  have hbi3 : (k : Int) + 1 ≤ (n : Int) := by omega
  have hbi4 : (0 : Int) ≤ (k : Int) + 1 := by omega
  have hicap : k ≤ cap := by omega
  have hi1cap : k + 1 ≤ cap := by omega
  have hwp : IntKind.i64.wrap ((k : Int) + 1) = (k : Int) + 1 := IntWalk.i64_in _ (by omega)
  have htn : ((k : Int) + 1).toNat = k + 1 := by omega
  obtain ⟨kind, thread, mode⟩ := x
  dsimp only at hpm
  go_enter Try.func8, Try.ntmps8
  go_wp2_with fail
  refine Hw.out.mono ?_
  rintro e w1 ⟨A2, c2, rfl, r1, k1, _, _⟩
  have R1 := Lib.hid (r1.keeps ((Keeps.refl NoBlock w1).alloc (.cells #[.int .i64 kind, .int .i64 thread, .int .i64 mode] 36)) (fun _ _ h => h))
  have K1 := Lib.hid (k1.alloc (.cells #[.int .i64 kind, .int .i64 thread, .int .i64 mode] 36))
  have B1 : Hid ((w1.alloc (.cells #[.int .i64 kind, .int .i64 thread, .int .i64 mode] 36)).heap[w1.heap.size]? = some (.cells #[.int .i64 kind, .int .i64 thread, .int .i64 mode] 36 (0, 0))) := block_alloc_new _ _
  have hb2 : b < w1.heap.size := Nat.lt_of_lt_of_le hb1 k1.size
  clear r1 k1 Hw
  go_wp2_with fail
  obtain ⟨wq, hwq⟩ : ∃ wq, wq = w1.alloc (.cells #[.int .i64 kind, .int .i64 thread, .int .i64 mode] 36) := ⟨_, rfl⟩
  have hz : wq.heap.size = w1.heap.size + 1 := by rw [hwq]; simp
  rw [← hwq] at R1 K1 B1 ⊢
  have hb3 : b < wq.heap.size := by omega
  have hz3 : w1.heap.size < wq.heap.size := by omega
  clear hwq hz
  go_loop [6] (fun i => ∃ j : Nat, j ≤ k ∧ i = .int .i64 j) (fun i => k + 1 - (intOf i).toNat)
  case atStart => exact ⟨0, Nat.zero_le _, rfl⟩
  case round =>
    obtain ⟨j, hj, rfl⟩ := hrel
    by_cases hjk : j < k
    · obtain ⟨y, hy⟩ : ∃ y, xs[j]? = some y := ⟨_, List.getElem?_eq_getElem (by rw [hn.out]; omega)⟩
      have hcy := cells3 Hc.out hy
      rw [← K1.out.cell hb1 (fun h => h), ← K1.out.cell hb1 (fun h => h), ← K1.out.cell hb1 (fun h => h)] at hcy
      have hym : y.mode ≤ 0 := by have := Hbef.out j y hjk hy; simpa [modeB] using this
      have hjn : j < n := by omega
      clear hy
      go_wp2_with fail
      exact ⟨⟨j + 1, by omega, by go_num⟩, by simp [intOf]; omega⟩
    · obtain rfl : j = k := by omega
      have hcx := cells3 Hc.out Hx.out
      rw [← K1.out.cell hb1 (fun h => h), ← K1.out.cell hb1 (fun h => h), ← K1.out.cell hb1 (fun h => h)] at hcx
      dsimp only at hcx
      have q0 : wq.cell? ⟨w1.heap.size, 0, none⟩ = some (.int .i64 kind) := cell_of_block B1.out rfl
      have q1 : wq.cell? ⟨w1.heap.size, 1, none⟩ = some (.int .i64 thread) := cell_of_block B1.out rfl
      have q2 : wq.cell? ⟨w1.heap.size, 2, none⟩ = some (.int .i64 mode) := cell_of_block B1.out rfl
      have hq : ∀ w, (Op.equalIn 10000 36 (.agg #[.int .i64 kind, .int .i64 thread, .int .i64 mode]) (.agg #[.int .i64 kind, .int .i64 thread, .int .i64 mode])).run Try.prog w = .ok true w := fun w => by
        have h := equalEv ⟨kind, thread, mode⟩ ⟨kind, thread, mode⟩ w
        rw [decide_eq_true rfl] at h; exact h
      have hgu := guardEv
      clear hjk
      go_wp2_with fail
      go_region_held3 (fun w' => w'.cell? ⟨w1.heap.size, 0, none⟩ = some (.int .i64 kind) ∧ w'.cell? ⟨w1.heap.size, 1, none⟩ = some (.int .i64 thread) ∧ w'.cell? ⟨w1.heap.size, 2, none⟩ = some (.int .i64 mode) ∧
          w'.cell? ⟨b, off + j * 3, none⟩ = some (.int .i64 kind) ∧ w'.cell? ⟨b, off + j * 3 + 1, none⟩ = some (.int .i64 thread) ∧ w'.cell? ⟨b, off + j * 3 + 2, none⟩ = some (.int .i64 mode)) (go_keep)
        (first
        | (go_at_call 21
           refine Calls.mono (awake14_calls _) ?_
           rintro e w3 ⟨rfl, k3⟩
           have s0 := (k3.cell (o := 0) hz3 (fun h => h)).trans q0
           have s1 := (k3.cell (o := 1) hz3 (fun h => h)).trans q1
           have s2 := (k3.cell (o := 2) hz3 (fun h => h)).trans q2
           have s3 := (k3.cell (o := off + j * 3) hb3 (fun h => h)).trans hcx.1
           have s4 := (k3.cell (o := off + j * 3 + 1) hb3 (fun h => h)).trans hcx.2.1
           have s5 := (k3.cell (o := off + j * 3 + 2) hb3 (fun h => h)).trans hcx.2.2
           have z3 := Nat.lt_of_lt_of_le hz3 k3.size
           have z4 := Nat.lt_of_lt_of_le hb3 k3.size
           have K3 := Lib.hid (K1.out.drew.trans k3 (fun _ _ h => h)))
        | (refine step_appG (P := Try.prog) eE ?_ (.tmp 39) (.tmp 42) ?_ (.slice (some ⟨w3.heap.size, 0, none⟩) 0 0) 0 [] ?_ ?_ (some ⟨b, off, none⟩) b off j cap ((xs.take j).flatMap encE) ?_ (fun _ => rfl) tl.out ?_ t1.out ?_ ?_ ?_
           · rfl
           · rfl
           · rfl
           · exact (mine_empty w3).own
           · rfl
           · exact tc.out _ (K3.out.trans (mine_empty w3).kp (fun _ _ h => h))
           · simp only [maxLen]; omega
           · omega
           intro v5 w5 ho5 hg5 hf5 hs5
           have M5 := mine_one ho5 hg5 hf5
           have r0 := (M5.kp.cell (o := 0) z3 (fun h => h)).trans s0
           have r1 := (M5.kp.cell (o := 1) z3 (fun h => h)).trans s1
           have r2 := (M5.kp.cell (o := 2) z3 (fun h => h)).trans s2
           have r3 := (M5.kp.cell (o := off + j * 3) z4 (fun h => h)).trans s3
           have r4 := (M5.kp.cell (o := off + j * 3 + 1) z4 (fun h => h)).trans s4
           have r5 := (M5.kp.cell (o := off + j * 3 + 2) z4 (fun h => h)).trans s5
           obtain ⟨A5, cap5, rfl⟩ := Own.isSlice ho5
           clear hs5)
        | (refine step_appG (P := Try.prog) eE ?_ (.tmp 43) (.tmp 47) ?_ (.slice A5 (0 + j) cap5) (0 + j) ([] ++ (xs.take j).flatMap encE) ?_ ?_ (some Ad) b (off + (j + 1) * 3) (n - (j + 1)) (cap - (j + 1)) ((xs.drop (j + 1)).flatMap encE) ?_ hAd2.out ul.out ?_ u1.out ?_ ?_ ?_
           · rfl
           · rfl
           · rfl
           · exact M5.own
           · rfl
           · exact uc.out _ (K3.out.trans M5.kp (fun _ _ h => h))
           · simp only [maxLen]; omega
           · omega
           intro v6 w6 ho6 hg6 hf6 hs6
           have M6 := mine_more M5 ho6 hg6 hf6
           have p0 := (M6.kp.cell (o := 0) z3 (fun h => h)).trans s0
           have p1 := (M6.kp.cell (o := 1) z3 (fun h => h)).trans s1
           have p2 := (M6.kp.cell (o := 2) z3 (fun h => h)).trans s2
           have p3 := (M6.kp.cell (o := off + j * 3) z4 (fun h => h)).trans s3
           have p4 := (M6.kp.cell (o := off + j * 3 + 1) z4 (fun h => h)).trans s4
           have p5 := (M6.kp.cell (o := off + j * 3 + 2) z4 (fun h => h)).trans s5
           obtain ⟨A6, cap6, rfl⟩ := Own.isSlice ho6
           have hl6 : 0 + j + (n - (j + 1)) = (xs.eraseIdx j).length := (show 0 + j + (n - (j + 1)) = n - 1 from by omega).trans hlen.out.symm
           have HR6 := Lib.hid ((R1.out.keeps (Keeps.drew (Keeps.refl NoBlock wq)) (fun _ _ h => h)).keeps (k3.trans M6.kp (fun _ _ h => h)) (fun _ _ h => h))
           have HO6 := M6.own
           rw [List.nil_append, herase.out] at HO6
           have HQ6 := Lib.hid (rd_len (m' := j + (n - (j + 1))) HO6 hl6 (by rw [← hl6]; omega))
           have KM6 := Lib.hid (K3.out.trans M6.kp (fun _ _ h => h))
           have z5 := Nat.lt_of_lt_of_le z3 M6.kp.size
           have z6 := Nat.lt_of_lt_of_le z4 M6.kp.size
           clear hs6 HO6 hl6 M6 M5)
        | (go_at_call 12
           refine Calls.mono (events_same _ _ (xs.eraseIdx j) _ HR6.out HQ6.out ?_) ?_
           · rw [hlen.out]; omega
           rintro e w7 ⟨rfl, k7⟩
           have m0 := (k7.cell (o := 0) z5 (fun h => h)).trans p0
           have m1 := (k7.cell (o := 1) z5 (fun h => h)).trans p1
           have m2 := (k7.cell (o := 2) z5 (fun h => h)).trans p2
           have m3 := (k7.cell (o := off + j * 3) z6 (fun h => h)).trans p3
           have m4 := (k7.cell (o := off + j * 3 + 1) z6 (fun h => h)).trans p4
           have m5 := (k7.cell (o := off + j * 3 + 2) z6 (fun h => h)).trans p5
           have K7 := Lib.hid (KM6.out.trans k7 (fun _ _ h => h))
           clear k7)
        | fail)
      go_wp2_with fail
      go_ret
      exact ⟨rfl, K7.out.below (Nat.le_refl _) (fun _ h => h.elim)⟩

set_option maxHeartbeats 4000000 in
set_option maxRecDepth 100000 in
theorem withinL_none (A : Option Addr) (cap : Nat) (xs : List Ev) (w : World) (h : Rd encE 3 w (.slice A xs.length cap) xs) (hl : xs.length * 24 ≤ 140737488351232) (hi : idxI modeB xs = -1)
    (hbef : ∀ (j : Nat) (y : Ev), xs[j]? = some y → modeB y = false) : Calls Try.prog 8 #[.slice A xs.length cap] w (EndsPost w) := by
  have Hw := Lib.hid (within_none _ xs w h hl hi)
  have HR := Lib.hid h
  obtain ⟨A', b, off, cap', hv, hA, hc⟩ := h
  cases hv
  obtain ⟨n, hn⟩ : ∃ n, Hid (xs.length = n) := ⟨_, rfl⟩
  have HA := Lib.hid hA
  have Hc := Lib.hid hc
  have Hbef := Lib.hid hbef
  rw [hn.out] at hl Hw HR HA ⊢
  clear hA hc hi hbef
  go_enter Try.func8, Try.ntmps8
  go_wp2_with fail
  refine Hw.out.mono ?_
  rintro e w1 ⟨A2, c2, rfl, r1, k1, _, _⟩
  rw [hn.out] at r1 ⊢
  have R1 := Lib.hid (r1.keeps ((Keeps.refl NoBlock w1).alloc (.cells #[.int .i64 0, .int .i64 0, .int .i64 0] 36)) (fun _ _ h => h))
  have K1 := Lib.hid (k1.alloc (.cells #[.int .i64 0, .int .i64 0, .int .i64 0] 36))
  have B1 : Hid ((w1.alloc (.cells #[.int .i64 0, .int .i64 0, .int .i64 0] 36)).heap[w1.heap.size]? = some (.cells #[.int .i64 0, .int .i64 0, .int .i64 0] 36 (0, 0))) := block_alloc_new _ _
  clear r1 k1 Hw
  go_wp2_with fail
  obtain ⟨wq, hwq⟩ : ∃ wq, wq = w1.alloc (.cells #[.int .i64 0, .int .i64 0, .int .i64 0] 36) := ⟨_, rfl⟩
  rw [← hwq] at R1 K1 B1 ⊢
  clear hwq
  go_loop [6] (fun i => ∃ j : Nat, j ≤ n ∧ i = .int .i64 j) (fun i => n - (intOf i).toNat)
  case atStart => exact ⟨0, Nat.zero_le _, rfl⟩
  case round =>
    obtain ⟨j, hj, rfl⟩ := hrel
    by_cases hjk : j < n
    · obtain ⟨y, hy⟩ : ∃ y, xs[j]? = some y := ⟨_, List.getElem?_eq_getElem (by rw [hn.out]; omega)⟩
      obtain ⟨rfl, hb1⟩ := HA.out (by omega)
      have hcy := cells3 Hc.out hy
      rw [← K1.out.cell hb1 (fun h => h), ← K1.out.cell hb1 (fun h => h), ← K1.out.cell hb1 (fun h => h)] at hcy
      have hym : y.mode ≤ 0 := by have := Hbef.out j y hy; simpa [modeB] using this
      clear hy
      go_wp2_with fail
      exact ⟨⟨j + 1, by omega, by go_num⟩, by simp [intOf]; omega⟩
    · obtain rfl : j = n := by omega
      have hq : ∀ w, (Op.equalIn 10000 36 (.agg #[.int .i64 0, .int .i64 0, .int .i64 0]) (.agg #[.int .i64 0, .int .i64 0, .int .i64 0])).run Try.prog w = .ok true w := fun w => by
        have h := equalEv evZero evZero w
        rw [decide_eq_true rfl] at h; exact h
      have hgu := guardEv
      go_wp2_with fail
      refine (awake14_calls _).mono ?_
      rintro e w3 ⟨rfl, k3⟩
      have b3 : w3.heap[w1.heap.size]? = some (.cells #[.int .i64 0, .int .i64 0, .int .i64 0] 36 (0, 0)) := (k3.block _ (lt_of_block B1.out) (fun h => h)).trans B1.out
      have q0 : w3.cell? ⟨w1.heap.size, 0, none⟩ = some (.int .i64 0) := cell_of_block b3 rfl
      have q1 : w3.cell? ⟨w1.heap.size, 1, none⟩ = some (.int .i64 0) := cell_of_block b3 rfl
      have q2 : w3.cell? ⟨w1.heap.size, 2, none⟩ = some (.int .i64 0) := cell_of_block b3 rfl
      have K3 := Lib.hid (K1.out.trans k3 (fun _ _ h => h))
      have R3 := Lib.hid (R1.out.keeps k3 (fun _ _ h => h))
      clear b3 k3
      go_wp2_with fail
      refine (events_same _ _ xs _ R3.out (HR.out.keeps K3.out (fun _ _ h => h)) (by rw [hn.out]; omega)).mono ?_
      rintro e w7 ⟨rfl, k7⟩
      have K7 := Lib.hid (K3.out.trans k7 (fun _ _ h => h))
      clear k7
      go_wp2_with fail
      go_ret
      exact ⟨rfl, K7.out.below (Nat.le_refl _) (fun _ h => h.elim)⟩

theorem withinL_row (w : World) (v : Value) (l : List Ev) (h : EvsAt w v l) : Calls Try.prog 8 #[v] w fun e w' => e = .returned (.bool true) ∧ Below w.heap.size w w' := by
  obtain ⟨h, hb, A, cap, rfl, hc⟩ := h
  rcases idx_cases modeB l with ⟨h1, h2⟩ | ⟨k, x, h1, h2, h3, h4⟩
  · exact withinL_none A cap l w h hb h1 h2
  · exact withinL_some A cap k x l w h hc hb h1 h2 h3 h4
end Go.Proofs.Ytpchhlhjmkkoiaa
