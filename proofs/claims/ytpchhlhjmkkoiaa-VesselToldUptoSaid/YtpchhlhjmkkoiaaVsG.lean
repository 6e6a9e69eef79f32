/- VesselTold: a vessel that is told something holds what it held, and that behind it. -/
import Derived.Test.YtpchhlhjmkkoiaaVsF
import Derived.Test.YtpchhlhjmkkoiaaBulk
namespace Go.Proofs.Ytpchhlhjmkkoiaa
open Go.RowKit Go.ChangeShapes Go.WideShapes

theorem keep_all : ∀ (l : List Ev), (∀ x ∈ l, keepB x = true) → l.filterMap fKeep = l
  | [], _ => rfl
  | x :: l, h => by
    rw [List.filterMap_cons]
    simp only [fKeep, h x (List.mem_cons_self ..), if_true]
    rw [keep_all l (fun y hy => h y (List.mem_cons_of_mem _ hy))]

theorem pre_one : preL 1 (-1) = [] := by decide +kernel
theorem filter_one (p : Ev → Bool) (l : List Ev) (k : Nat) (x : Ev) (hx : l[k]? = some x) : ((l.take (k + 1)).filter p).length = ((l.take k).filter p).length + (if p x then 1 else 0) := by
  have hk := (List.getElem?_eq_some_iff.1 hx).1
  have he : l[k] = x := (List.getElem?_eq_some_iff.1 hx).2
  rw [List.take_succ_eq_append_getElem hk, List.filter_append, he, List.length_append]
  cases h : p x <;> simp [h]
theorem pre_holds (mode thread : Int) (l : List Ev) (h : holdsB mode = true) : 0 < ((preL mode thread ++ l).filter modeB).length := by
  rw [List.length_pos_iff]
  unfold preL
  rw [if_pos h, List.singleton_append, List.filter_cons_of_pos (by have := mode_pos h; simp only [modeB]; exact decide_eq_true this)]
  simp

set_option maxHeartbeats 4000000 in
set_option maxRecDepth 100000 in
theorem toldL_calls (mode thread : Int) (A : Option Addr) (c : Nat) (xs more : List Ev) (v : Value) (w : World) (h : Rd encE 3 w (.slice A xs.length c) xs) (hm : Rd encE 3 w v more) (hl : xs.length ≤ 1048576) (hl2 : more.length ≤ 1048576) :
    Calls Try.prog 5 #[vesV mode thread A xs.length c, v] w fun e w' => e = .returned (.bool true) ∧ Keeps NoBlock w w' := by
  have hpl := preL_len mode thread
  have hkl := len_fm fKeep xs
  obtain ⟨SL, hSL⟩ : ∃ SL, Hid (SL = preL mode thread ++ xs.filterMap fKeep) := ⟨_, rfl⟩
  have hsl : SL.length ≤ 1048577 := by rw [hSL.out, List.length_append]; omega
  obtain ⟨TL, hTL⟩ : ∃ TL, Hid (TL = SL ++ more) := ⟨_, rfl⟩
  have htl : TL.length ≤ 2097153 := by rw [hTL.out, List.length_append]; omega
  obtain ⟨n, hn⟩ : ∃ n, Hid (xs.length = n) := ⟨_, rfl⟩
  obtain ⟨m, hmm⟩ : ∃ m, Hid (more.length = m) := ⟨_, rfl⟩
  obtain ⟨Am, cm, rfl⟩ := hm.isSlice
  have hs : Hid (∀ W, Keeps NoBlock w W → Calls Try.prog 13 #[vesV mode thread A n c] W (NewEvs W SL)) := fun W kW => by
    rw [hSL.out, ← hn.out]; exact strip_calls mode thread A c xs W (h.keeps kW (fun _ _ h => h)) (by omega)
  have ht : Hid (∀ W, Keeps NoBlock w W → Calls Try.prog 17 #[vesV mode thread A n c, .slice Am m cm] W (NewVes W TL)) := fun W kW => by
    rw [hTL.out, hSL.out, ← hn.out, ← hmm.out]; exact told_calls mode thread A c xs more _ W (h.keeps kW (fun _ _ h => h)) (hm.keeps kW (fun _ _ h => h)) (by omega) (by omega)
  have hto0 : Hid (∀ W, Keeps NoBlock w W → Calls Try.prog 17 #[vesV mode thread A n c, .slice none 0 0] W (NewVes W SL)) := fun W kW => by
    have h9 := told_calls mode thread A c xs [] (.slice none 0 0) W (h.keeps kW (fun _ _ h => h)) (nilE W) (by omega) (by decide)
    rw [List.append_nil, ← hSL.out, hn.out] at h9
    exact h9
  have hpos : Hid (holdsB mode = true → 0 < (SL.filter modeB).length) := fun hh => by rw [hSL.out]; exact pre_holds mode thread _ hh
  have hkeep : Hid (SL.filterMap fKeep = SL) := by show _ = _; rw [hSL.out]; exact keep_all _ (strip_keep mode thread xs)
  have hho := Lib.hid (fun W => holds_calls mode thread A n c W _ rfl)
  have hne : Hid (∀ W, Keeps NoBlock w W → Calls Try.prog 18 #[.slice Am m cm] W (NewVes W more)) := fun W kW => by
    rw [← hmm.out]; exact new_calls _ more W (hm.keeps kW (fun _ _ h => h)) (by omega)
  have HMr : Hid (Rd encE 3 w (.slice Am m cm) more) := by show Rd _ _ _ _ _; rw [← hmm.out]; exact hm
  obtain ⟨Am', bm, om, cm', hv, hA, hc⟩ := hm
  have Hsrc : Hid (∀ W, Keeps NoBlock w W → ∀ j u, (more.flatMap encE)[j]? = some u → W.cell? ⟨bm, om + j, none⟩ = some u) := fun W k j u hj => by
    have h0 := Rd.flat (by decide) encE_len hc j u hj
    have hlt : 0 < more.length := by
      have := (List.getElem?_eq_some_iff.1 hj).1
      rw [flat_len encE 3 encE_len] at this
      omega
    rw [k.cell (hA hlt).2 (fun h => h)]; exact h0
  have HAm : Hid (0 < m → Am = some ⟨bm, om, none⟩) := fun h0 => by
    rw [← hmm.out] at h0
    simp only [Value.slice.injEq] at hv
    rw [hv.1]; exact (hA h0).1
  have Hml : Hid ((more.flatMap encE).length = m * 3) := by show _ = _; rw [flat_len encE 3 encE_len, hmm.out]
  have Hone := Lib.hid (encE_one more)
  have hmle : m ≤ 1048576 := by rw [← hmm.out]; exact hl2
  rw [hn.out, hmm.out]
  clear h hkl hpl hv hA hc
  go_enter Try.func5, Try.ntmps5
  go_wp2_with fail
  obtain ⟨w1, hw1⟩ : ∃ w1, w1 = w.alloc (.cells (vesC mode thread A n c) 24) := ⟨_, rfl⟩
  have K1 : Hid (Keeps NoBlock w w1) := by show Keeps _ _ _; rw [hw1]; exact (Keeps.refl _ _).alloc _
  have B1 : Hid (w1.heap[w.heap.size]? = some (.cells (vesC mode thread A n c) 24 (0, 0))) := by show _ = _; rw [hw1]; exact block_alloc_new _ _
  rw [← hw1]
  clear hw1
  refine (ht.out _ K1.out).mono ?_
  rintro e w2 ⟨A2, c2, rfl, R2, k2, -⟩
  obtain ⟨tn, htn⟩ : ∃ tn, Hid (TL.length = tn) := ⟨_, rfl⟩
  rw [htn.out] at R2 ⊢
  obtain ⟨w3, hw3⟩ : ∃ w3, w3 = w2.alloc (.cells (vesC 1 (-1) A2 tn c2) 24) := ⟨_, rfl⟩
  have K3 : Hid (Keeps NoBlock w1 w3) := by show Keeps _ _ _; rw [hw3]; exact k2.alloc _
  have B3 : Hid (w3.heap[w2.heap.size]? = some (.cells (vesC 1 (-1) A2 tn c2) 24 (0, 0))) := by show _ = _; rw [hw3]; exact block_alloc_new _ _
  have R3 : Hid (Rd encE 3 w3 (.slice A2 tn c2) TL) := by show Rd _ _ _ _ _; rw [hw3]; exact R2.keeps ((Keeps.refl NoBlock _).alloc _) (fun _ _ h => h)
  have Hw3 := Lib.hid hw3
  clear hw3 k2 R2
  go_upto_region 2 with fail
  rw [← Hw3.out]
  clear Hw3
  go_wp2_with fail
  refine (hne.out _ (K1.out.trans K3.out (fun _ _ h => h))).mono ?_
  rintro e w4 ⟨A4, c4, rfl, R4, k4, -⟩
  rw [hmm.out] at R4 ⊢
  obtain ⟨w5, hw5⟩ : ∃ w5, w5 = w4.alloc (.cells (vesC 1 (-1) A4 m c4) 24) := ⟨_, rfl⟩
  have K5 : Hid (Keeps NoBlock w3 w5) := by show Keeps _ _ _; rw [hw5]; exact k4.alloc _
  have B5 : Hid (w5.heap[w4.heap.size]? = some (.cells (vesC 1 (-1) A4 m c4) 24 (0, 0))) := by show _ = _; rw [hw5]; exact block_alloc_new _ _
  have R5 : Hid (Rd encE 3 w5 (.slice A4 m c4) more) := by show Rd _ _ _ _ _; rw [hw5]; exact R4.keeps ((Keeps.refl NoBlock _).alloc _) (fun _ _ h => h)
  have Hw5 := Lib.hid hw5
  clear hw5 k4 R4
  go_upto_region 3 with fail
  rw [← Hw5.out]
  clear Hw5
  have KW := Lib.hid ((K1.out.trans K3.out (fun _ _ h => h)).trans K5.out (fun _ _ h => h))
  have y1 : w.heap.size < w5.heap.size := Nat.lt_of_lt_of_le (lt_of_block B1.out) (Nat.le_trans K3.out.size K5.out.size)
  have y3 : w2.heap.size < w5.heap.size := Nat.lt_of_lt_of_le (lt_of_block B3.out) K5.out.size
  have y5 : w4.heap.size < w5.heap.size := lt_of_block B5.out
  have B15 : w5.heap[w.heap.size]? = some (.cells (vesC mode thread A n c) 24 (0, 0)) := ((K5.out.block _ (Nat.lt_of_lt_of_le (lt_of_block B1.out) K3.out.size) (fun h => h)).trans (K3.out.block _ (lt_of_block B1.out) (fun h => h))).trans B1.out
  have B35 : w5.heap[w2.heap.size]? = some (.cells (vesC 1 (-1) A2 tn c2) 24 (0, 0)) := (K5.out.block _ (lt_of_block B3.out) (fun h => h)).trans B3.out
  have R35 := Lib.hid (R3.out.keeps K5.out (fun _ _ h => h))
  have a0 := cell_of_block B15 (o := 0) rfl
  have a1 := cell_of_block B15 (o := 1) rfl
  have a2 := cell_of_block B15 (o := 2) rfl
  have b0 := cell_of_block B35 (o := 0) rfl
  have b1 := cell_of_block B35 (o := 1) rfl
  have b2 := cell_of_block B35 (o := 2) rfl
  have d0 := cell_of_block B5.out (o := 0) rfl
  have d2 := cell_of_block B5.out (o := 2) rfl
  have HB15 := Lib.hid B15
  have HB35 := Lib.hid B35
  have Hflat : Hid (SL.flatMap encE ++ more.flatMap encE = TL.flatMap encE) := by show _ = _; rw [hTL.out, List.flatMap_append]
  have Htl : Hid (SL.length + m = TL.length) := by show _ = _; rw [hTL.out, List.length_append, hmm.out]
  obtain ⟨z1, hz1⟩ : ∃ z, Hid (w.heap.size = z) := ⟨_, rfl⟩
  obtain ⟨z3, hz3⟩ : ∃ z, Hid (w2.heap.size = z) := ⟨_, rfl⟩
  obtain ⟨z5, hz5⟩ : ∃ z, Hid (w4.heap.size = z) := ⟨_, rfl⟩
  rw [hz1.out] at a0 a1 a2 y1 ⊢
  rw [hz3.out] at b0 b1 b2 y3 ⊢
  rw [hz5.out] at d0 d2 y5 ⊢
  clear B15 B35
  go_region_held3 (fun w' => w'.cell? ⟨z1, 0, none⟩ = some (.int .i64 mode) ∧ w'.cell? ⟨z1, 1, none⟩ = some (.int .i64 thread) ∧ w'.cell? ⟨z1, 2, none⟩ = some (.slice A n c) ∧
      w'.cell? ⟨z3, 0, none⟩ = some (.int .i64 1) ∧ w'.cell? ⟨z3, 1, none⟩ = some (.int .i64 (-1)) ∧ w'.cell? ⟨z3, 2, none⟩ = some (.slice A2 tn c2) ∧ w'.cell? ⟨z5, 0, none⟩ = some (.int .i64 1) ∧ w'.cell? ⟨z5, 2, none⟩ = some (.slice A4 m c4)) (go_keep)
    (first
    | (go_at_call 13
       refine Calls.mono (hs.out _ KW.out.drew) ?_
       rintro e w6 ⟨A6, c6, rfl, M6⟩
       have e0 := (M6.kp.cell (o := 0) y1 (fun h => h)).trans a0
       have e1 := (M6.kp.cell (o := 1) y1 (fun h => h)).trans a1
       have e2 := (M6.kp.cell (o := 2) y1 (fun h => h)).trans a2
       have e3 := (M6.kp.cell (o := 0) y3 (fun h => h)).trans b0
       have e4 := (M6.kp.cell (o := 1) y3 (fun h => h)).trans b1
       have e5 := (M6.kp.cell (o := 2) y3 (fun h => h)).trans b2
       have e6 := (M6.kp.cell (o := 0) y5 (fun h => h)).trans d0
       have e7 := (M6.kp.cell (o := 2) y5 (fun h => h)).trans d2
       have K6 := Lib.hid (KW.out.drew.trans M6.kp (fun _ _ h => h))
       have Q6 := Lib.hid M6
       clear M6)
    | (refine step_appG (P := Try.prog) eE ?_ (.tmp 28) (.tmp 29) ?_ (.slice A6 SL.length c6) SL.length (SL.flatMap encE) ?_ ?_ Am bm om m cm (more.flatMap encE) ?_ HAm.out Hml.out ?_ Hone.out ?_ ?_ ?_
       · rfl
       · rfl
       · rfl
       · exact Q6.out.own
       · rfl
       · exact Hsrc.out _ K6.out
       · simp only [maxLen]; omega
       · omega
       intro v7 w7 ho7 hg7 hf7 hs7
       have M7 := Lib.hid (Q6.out.grow (Keeps.refl _ _) ho7 hg7 hf7 (Nat.le_refl _))
       have f0 := (M7.out.kp.cell (o := 0) y1 (fun h => h)).trans a0
       have f1 := (M7.out.kp.cell (o := 1) y1 (fun h => h)).trans a1
       have f2 := (M7.out.kp.cell (o := 2) y1 (fun h => h)).trans a2
       have f3 := (M7.out.kp.cell (o := 0) y3 (fun h => h)).trans b0
       have f4 := (M7.out.kp.cell (o := 1) y3 (fun h => h)).trans b1
       have f5 := (M7.out.kp.cell (o := 2) y3 (fun h => h)).trans b2
       have f6 := (M7.out.kp.cell (o := 0) y5 (fun h => h)).trans d0
       have f7 := (M7.out.kp.cell (o := 2) y5 (fun h => h)).trans d2
       obtain ⟨A7, c7, rfl⟩ := Own.isSlice ho7
       have K7 := Lib.hid (KW.out.drew.trans M7.out.kp (fun _ _ h => h))
       have k57 := Lib.hid M7.out.kp
       have o7 := M7.out.own
       rw [Hflat.out] at o7
       have T7 := Lib.hid (rd_len (m' := SL.length + m) o7 Htl.out Htl.out)
       have g1 := Nat.lt_of_lt_of_le y1 M7.out.kp.size
       have g3 := Nat.lt_of_lt_of_le y3 M7.out.kp.size
       have g5 := Nat.lt_of_lt_of_le y5 M7.out.kp.size
       have R7 := Lib.hid (R35.out.keeps (Keeps.drew (Keeps.refl NoBlock w5)) (fun _ _ h => h) |>.keeps M7.out.kp (fun _ _ h => h))
       have N7 := Lib.hid (R5.out.keeps (Keeps.drew (Keeps.refl NoBlock w5)) (fun _ _ h => h) |>.keeps M7.out.kp (fun _ _ h => h))
       clear hs7 o7 ho7 hg7 hf7 M7)
    | (go_at_call 12
       refine Calls.mono (events_same _ _ TL _ R7.out T7.out ?_) ?_
       · omega
       rintro e w8 ⟨rfl, k8⟩
       have h0 := (k8.cell (o := 0) g1 (fun h => h)).trans f0
       have h1 := (k8.cell (o := 1) g1 (fun h => h)).trans f1
       have h2 := (k8.cell (o := 2) g1 (fun h => h)).trans f2
       have h3 := (k8.cell (o := 0) g3 (fun h => h)).trans f3
       have h4 := (k8.cell (o := 1) g3 (fun h => h)).trans f4
       have h5 := (k8.cell (o := 2) g3 (fun h => h)).trans f5
       have h6 := (k8.cell (o := 0) g5 (fun h => h)).trans f6
       have h7 := (k8.cell (o := 2) g5 (fun h => h)).trans f7
       have K8 := Lib.hid (K7.out.trans k8 (fun _ _ h => h))
       have k58 := Lib.hid (k57.out.trans k8 (fun _ _ h => h))
       have j1 := Nat.lt_of_lt_of_le g1 k8.size
       have j3 := Nat.lt_of_lt_of_le g3 k8.size
       have j5 := Nat.lt_of_lt_of_le g5 k8.size
       have N8 := Lib.hid (N7.out.keeps k8 (fun _ _ h => h))
       clear k8)
    | (go_at_call 12
       refine Calls.mono (events_same _ _ more _ N8.out (HMr.out.keeps K8.out (fun _ _ h => h)) ?_) ?_
       · omega
       rintro e w9 ⟨rfl, k9⟩
       have i0 := (k9.cell (o := 0) j1 (fun h => h)).trans h0
       have i1 := (k9.cell (o := 1) j1 (fun h => h)).trans h1
       have i2 := (k9.cell (o := 2) j1 (fun h => h)).trans h2
       have i3 := (k9.cell (o := 0) j3 (fun h => h)).trans h3
       have i4 := (k9.cell (o := 1) j3 (fun h => h)).trans h4
       have i5 := (k9.cell (o := 2) j3 (fun h => h)).trans h5
       have i6 := (k9.cell (o := 0) j5 (fun h => h)).trans h6
       have i7 := (k9.cell (o := 2) j5 (fun h => h)).trans h7
       have K9 := Lib.hid (K8.out.trans k9 (fun _ _ h => h))
       have k59 := Lib.hid (k58.out.trans k9 (fun _ _ h => h))
       have l1 := Nat.lt_of_lt_of_le j1 k9.size
       clear k9)
    | fail)
  clear hs ht hne HMr Hsrc HAm Hml Hone Hflat Htl R35 HB15 HB35 Q6 K6 k57 k58 K7 K8 N7 N8 R7 T7
  obtain ⟨sn, hsn⟩ : ∃ sn, Hid (SL.length = sn) := ⟨_, rfl⟩
  have hsn1 : sn ≤ 1048577 := by rw [← hsn.out]; exact hsl
  go_wp2_with fail
  refine (hto0.out _ K9.out).mono ?_
  rintro e w10 ⟨A10, c10, rfl, R10, k10, -⟩
  rw [hsn.out] at R10 ⊢
  obtain ⟨w11, hw11⟩ : ∃ w11, w11 = w10.alloc (.cells (vesC 1 (-1) A10 sn c10) 24) := ⟨_, rfl⟩
  have K11 : Hid (Keeps NoBlock w9 w11) := by show Keeps _ _ _; rw [hw11]; exact k10.alloc _
  have B11 : Hid (w11.heap[w10.heap.size]? = some (.cells (vesC 1 (-1) A10 sn c10) 24 (0, 0))) := by show _ = _; rw [hw11]; exact block_alloc_new _ _
  have R11 : Hid (Rd encE 3 w11 (.slice A10 sn c10) SL) := by show Rd _ _ _ _ _; rw [hw11]; exact R10.keeps ((Keeps.refl NoBlock _).alloc _) (fun _ _ h => h)
  have Hw11 := Lib.hid hw11
  clear hw11 k10 R10
  have ht2 : Hid (∀ W, Keeps NoBlock w11 W → Calls Try.prog 17 #[vesV 1 (-1) A10 sn c10, .slice none 0 0] W (NewVes W SL)) := fun W kW => by
    have h9 := told_calls 1 (-1) A10 c10 SL [] (.slice none 0 0) W (by rw [hsn.out]; exact R11.out.keeps kW (fun _ _ h => h)) (nilE W) (by omega) (by decide)
    rw [List.append_nil, pre_one, List.nil_append, hkeep.out, hsn.out] at h9
    exact h9
  go_upto_region 6 with fail
  rw [← Hw11.out]
  clear Hw11
  have u0 := cell_of_block B11.out (o := 0) rfl
  have u1 := cell_of_block B11.out (o := 1) rfl
  have u2 := cell_of_block B11.out (o := 2) rfl
  go_wp2_with fail
  refine (ht2.out _ (Keeps.refl _ _)).mono ?_
  rintro e w12 ⟨A12, c12, rfl, R12, k12, -⟩
  rw [hsn.out] at R12 ⊢
  obtain ⟨w13, hw13⟩ : ∃ w13, w13 = w12.alloc (.cells (vesC 1 (-1) A12 sn c12) 24) := ⟨_, rfl⟩
  have K13 : Hid (Keeps NoBlock w11 w13) := by show Keeps _ _ _; rw [hw13]; exact k12.alloc _
  have B13 : Hid (w13.heap[w12.heap.size]? = some (.cells (vesC 1 (-1) A12 sn c12) 24 (0, 0))) := by show _ = _; rw [hw13]; exact block_alloc_new _ _
  have R13 : Hid (Rd encE 3 w13 (.slice A12 sn c12) SL) := by show Rd _ _ _ _ _; rw [hw13]; exact R12.keeps ((Keeps.refl NoBlock _).alloc _) (fun _ _ h => h)
  have Hw13 := Lib.hid hw13
  have k913 := K11.out.trans K13.out (fun _ _ h => h)
  have I0 := Lib.hid ((k913.cell (o := 0) l1 (fun h => h)).trans i0)
  have I1 := Lib.hid ((k913.cell (o := 1) l1 (fun h => h)).trans i1)
  have I2 := Lib.hid ((k913.cell (o := 2) l1 (fun h => h)).trans i2)
  have U2 := Lib.hid ((K13.out.cell (o := 2) (lt_of_block B11.out) (fun h => h)).trans u2)
  have L13 := Nat.lt_of_lt_of_le l1 k913.size
  have L11 := Nat.lt_of_lt_of_le (lt_of_block B11.out) K13.out.size
  have KZ := Lib.hid (K9.out.trans k913 (fun _ _ h => h))
  have S13 := Lib.hid (R11.out.keeps K13.out (fun _ _ h => h))
  clear k913 hw13 k12 R12 u0 u1 u2 i0 i1 i2 i3 i4 i5 i6 i7
  go_upto_region 7 with fail
  rw [← Hw13.out]
  clear Hw13
  have x2 := cell_of_block B13.out (o := 2) rfl
  obtain ⟨A', b, off, c', hv, hA, hc⟩ := R13.out
  rw [hsn.out] at hv hA
  simp only [Value.slice.injEq, true_and] at hv
  obtain ⟨rfl, rfl⟩ := hv
  have HA := Lib.hid hA
  have Hc := Lib.hid hc
  clear hA hc
  go_wp2_with fail
  go_loopw [9, 10] (fun v i wr => ∃ (k cn : Nat), k ≤ sn ∧ i = .int .i64 k ∧ v = .int .i64 cn ∧ cn ≤ k ∧ w13 = wr ∧ Hid (cn = ((SL.take k).filter modeB).length)) (fun _ i _ => sn - (intOf i).toNat)
  case atStart => exact ⟨0, 0, Nat.zero_le _, rfl, rfl, Nat.le_refl _, rfl, rfl⟩
  case round =>
    obtain ⟨k, cn, hk, rfl, rfl, hcn, rfl, Hcn⟩ := hrel
    by_cases hkn : k < sn
    · obtain ⟨x, hx⟩ : ∃ x, SL[k]? = some x := ⟨_, List.getElem?_eq_getElem (by rw [hsn.out]; exact hkn)⟩
      obtain ⟨rfl, hb1⟩ := HA.out (by omega)
      have hcx := (cells3 Hc.out hx).2.2
      have hf := filter_one modeB SL k x hx
      by_cases hmo : 0 < x.mode
      · have hmB : modeB x = true := decide_eq_true hmo
        rw [hmB, if_pos rfl] at hf
        have hfin : Hid (cn + 1 = ((SL.take (k + 1)).filter modeB).length) := by show _ = _; rw [hf, Hcn.out]
        clear hx hf hmB
        go_wp2_with fail
        exact ⟨⟨k + 1, cn + 1, by omega, by go_num, by go_num, by omega, trivial, hfin.out⟩, by simp [intOf]; omega⟩
      · have hmB : modeB x = false := decide_eq_false hmo
        rw [hmB] at hf
        have hfin : Hid (cn = ((SL.take (k + 1)).filter modeB).length) := by show _ = _; rw [hf, Hcn.out]; rfl
        have hmo' : x.mode ≤ 0 := by omega
        clear hx hf hmB hmo
        go_wp2_with fail
        exact ⟨⟨k + 1, cn, by omega, by go_num, rfl, by omega, trivial, hfin.out⟩, by simp [intOf]; omega⟩
    · obtain rfl : k = sn := by omega
      have hcnt : Hid (holdsB mode = true → 0 < cn) := fun hh => by
        rw [Hcn.out, List.take_of_length_le (by rw [hsn.out]; exact Nat.le_refl _)]; exact hpos.out hh
      have L12 := lt_of_block B13.out
      go_wp2_with fail
      refine (awake15_calls _).mono ?_
      rintro e w14 ⟨rfl, k14⟩
      have v7 := (k14.cell (o := 2) L11 (fun h => h)).trans U2.out
      have v8 := (k14.cell (o := 2) L12 (fun h => h)).trans x2
      have K14 := Lib.hid k14
      clear k14 x2
      go_wp2_with fail
      refine (events_same _ _ SL _ (S13.out.keeps K14.out (fun _ _ h => h)) (R13.out.keeps K14.out (fun _ _ h => h)) (by omega)).mono ?_
      rintro e w15 ⟨rfl, k15⟩
      have K15 := Lib.hid (K14.out.trans k15 (fun _ _ h => h))
      have s0 := (K15.out.cell (o := 0) L13 (fun h => h)).trans I0.out
      have s1 := (K15.out.cell (o := 1) L13 (fun h => h)).trans I1.out
      have s2 := (K15.out.cell (o := 2) L13 (fun h => h)).trans I2.out
      clear k15 v7 v8
      go_wp2_with fail
      refine (hho.out _).mono ?_
      rintro e w16 ⟨rfl, k16⟩
      have K16 := Lib.hid ((KZ.out.trans K15.out (fun _ _ h => h)).trans k16 (fun _ _ h => h))
      clear k16 s0 s1 s2
      have hc2 := hcnt.out
      cases hh : holdsB mode with
      | true =>
        have hp := hc2 hh
        clear hc2 hh
        go_wp2_with fail
        go_ret
        exact ⟨rfl, K16.out⟩
      | false =>
        clear hc2 hh
        go_wp2_with fail
        go_ret
        exact ⟨rfl, K16.out⟩

section
variable {H : Type} {enc0 : TypeId × Value → H} {W : World} {base : Nat} {spare : Nat → Bool} {held : Bool}
theorem ves_argU {ts : List TypeId} {ds : List (DataW H)} {j : Nat} {v : Value} {d : DataW H} {ps : List MemPlace} {r : Reach} {b0 : Nat} (hsz : (DataW.weightsEach Try.prog ts ds).all (· ≤ reachBytes) = true) (ht : ts[j]? = some 24) (hd : ds[j]? = some d)
    (hv : Value.okWide Try.prog W r b0 24 v) (h : DataW.Trod enc0 Try.prog W base spare held 24 v d ps) : ∃ x, VesAt W v x ∧ x.evs.length ≤ Rows.uptoBulk d := by
  obtain ⟨x, A, c, rfl, he⟩ := ves_arg hsz ht hd hv h
  refine ⟨x, ⟨A, c, rfl, he⟩, ?_⟩
  obtain ⟨fuel, hf⟩ := h
  obtain ⟨ys, n', _, hy, _, hyl, hff⟩ := DataW.trod_struct Try.underlying24 hf
  have h2 := hff 2 _ rfl
  obtain ⟨rfl, _⟩ := Prod.mk.inj hy
  match ys, hyl with
  | [y0, y1, y2], _ =>
    have h3 : DataW.Trod enc0 Try.prog W base spare held 22 (.slice A x.evs.length c) y2.1 y2.2 := ⟨n', h2⟩
    have h4 := slice_bulk Try.underlying22 h3
    have h5 : Rows.uptoBulk y2.1 ≤ Rows.uptoBulkAll ([y0, y1, y2].map (·.1)) := bulk_part (by simp)
    simp only [Rows.uptoBulk]
    omega
end

theorem told_row {H : Type} (w : World) (v : Value) (x : Ves) {da : DataW H} (ha : VesAt w v x ∧ x.evs.length ≤ Rows.uptoBulk da) (ba : Rows.uptoBulk da ≤ 1048576) (vb : Value) (ys : List Ev) {db : DataW H} (hb : EvsAt w vb ys ∧ ys.length ≤ Rows.uptoBulk db) (bb : Rows.uptoBulk db ≤ 1048576) :
    Calls Try.prog 5 #[v, vb] w fun e w' => e = .returned (.bool true) ∧ Below w.heap.size w w' := by
  obtain ⟨⟨A, c, rfl, he⟩, hl⟩ := ha
  exact (toldL_calls x.mode x.thread A c x.evs ys vb w he.1 hb.1.1 (by omega) (by omega)).mono fun _ _ ⟨h1, h2⟩ => ⟨h1, h2.below (Nat.le_refl _) (fun _ h => h.elim)⟩
end Go.Proofs.Ytpchhlhjmkkoiaa
