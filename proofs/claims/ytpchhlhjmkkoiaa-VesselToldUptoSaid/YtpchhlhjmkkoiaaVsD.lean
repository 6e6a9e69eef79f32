/- Layer 15's statements: what is left of any vessel; whether it is within a section, and which thread it runs. -/
import Derived.Test.YtpchhlhjmkkoiaaVsC
namespace Go.Proofs.Ytpchhlhjmkkoiaa
open Go.RowKit Go.ChangeShapes Go.WideShapes

structure Ves where
  mode : Int
  thread : Int
  evs : List Ev

/-- A vessel that came in. -/
def VesAt (W : World) (v : Value) (x : Ves) : Prop := ∃ A c, v = vesV x.mode x.thread A x.evs.length c ∧ EvsAt W (.slice A x.evs.length c) x.evs

section
variable {H : Type} {enc0 : TypeId × Value → H} {W : World} {base : Nat} {spare : Nat → Bool} {held : Bool}

theorem opens_ves : Opens enc0 Try.prog W base spare held (fun (x : Ves) cs => VesAt W (.agg cs.toArray) x) 24 := by
  refine opens_struct Try.underlying24 (by kernel_rfl) (by kernel_rfl) ?_
  intro cs hl hf
  obtain ⟨v0, n0, y0, g0, t0, _⟩ := hf 0 _ rfl
  obtain ⟨v1, n1, y1, g1, t1, _⟩ := hf 1 _ rfl
  obtain ⟨v2, n2, y2, g2, t2, l2⟩ := hf 2 _ rfl
  obtain ⟨a0, e0, _⟩ := DataW.trod_int Try.underlying3 t0
  obtain ⟨a1, e1, _⟩ := DataW.trod_int Try.underlying3 t1
  obtain ⟨l, hl2⟩ := opens_slice (sz := 3) (B := 24) Try.underlying22 (by kernel_rfl) (by decide) (by kernel_rfl) opens_ev _ _ _ t2 l2
  have he := evs_sl hl2
  have he' := he
  obtain ⟨_, _, A, cap, rfl, _⟩ := he'
  simp only [List.cons.injEq, and_true] at e0 e1
  subst e0 e1
  match cs, hl with
  | [q0, q1, q2], _ =>
    simp at g0 g1 g2
    subst g0 g1 g2
    exact ⟨⟨a0, a1, l⟩, A, cap, rfl, he⟩

theorem ves_arg {ts : List TypeId} {ds : List (DataW H)} {j : Nat} {v : Value} {d : DataW H} {ps : List MemPlace} {r : Reach} {b0 : Nat} (hsz : (DataW.weightsEach Try.prog ts ds).all (· ≤ reachBytes) = true) (ht : ts[j]? = some 24) (hd : ds[j]? = some d)
    (hv : Value.okWide Try.prog W r b0 24 v) (h : DataW.Trod enc0 Try.prog W base spare held 24 v d ps) : ∃ x, VesAt W v x := by
  obtain ⟨cs, rfl, _⟩ := okWide_struct Try.underlying24 hv
  exact opens_arg hsz ht hd h opens_ves
end

set_option maxHeartbeats 4000000 in
set_option maxRecDepth 100000 in
theorem strips_row (w : World) (v : Value) (x : Ves) (h : VesAt w v x) : Calls Try.prog 3 #[v] w fun e w' => e = .returned (.bool true) ∧ Below w.heap.size w w' := by
  obtain ⟨A, c, rfl, hr, hl, _⟩ := h
  obtain ⟨mode, thread, xs⟩ := x
  dsimp only at hr hl ⊢
  have hpl := preL_len mode thread
  have hkl := len_fm fKeep xs
  obtain ⟨SL, hSL⟩ : ∃ SL, Hid (SL = preL mode thread ++ xs.filterMap fKeep) := ⟨_, rfl⟩
  have hsl : SL.length < 1000000000000000 := by rw [hSL.out, List.length_append]; omega
  obtain ⟨n, hn⟩ : ∃ n, Hid (xs.length = n) := ⟨_, rfl⟩
  have hs : Hid (∀ W, Keeps NoBlock w W → Calls Try.prog 13 #[vesV mode thread A n c] W (NewEvs W SL)) := fun W kW => by
    rw [hSL.out, ← hn.out]; exact strip_calls mode thread A c xs W (hr.keeps kW (fun _ _ h => h)) hl
  have hsR : Hid (∀ W, Keeps NoBlock w W → Calls Try.prog 14 #[vesV mode thread A n c] W (NewEvs W SL)) := fun W kW => by
    rw [hSL.out, ← hn.out]; exact stripR_calls mode thread A c xs W (hr.keeps kW (fun _ _ h => h)) hl
  rw [hn.out]
  clear hr hl hpl hkl
  obtain ⟨w1, hw1⟩ : ∃ w1, w1 = w.alloc (.cells (vesC mode thread A n c) 24) := ⟨_, rfl⟩
  have K1 : Hid (Keeps NoBlock w w1) := by show Keeps _ _ _; rw [hw1]; exact (Keeps.refl _ _).alloc _
  have B1 : Hid (w1.heap[w.heap.size]? = some (.cells (vesC mode thread A n c) 24 (0, 0))) := by show _ = _; rw [hw1]; exact block_alloc_new _ _
  have Hw1 := Lib.hid hw1
  clear hw1
  go_enter Try.func3, Try.ntmps3
  go_upto_region 1 with fail
  rw [← Hw1.out]
  have q0 : w1.cell? ⟨w.heap.size, 0, none⟩ = some (.int .i64 mode) := cell_of_block B1.out rfl
  have q1 : w1.cell? ⟨w.heap.size, 1, none⟩ = some (.int .i64 thread) := cell_of_block B1.out rfl
  have q2 : w1.cell? ⟨w.heap.size, 2, none⟩ = some (.slice A n c) := cell_of_block B1.out rfl
  have z1 := lt_of_block B1.out
  clear Hw1
  go_region_held3 (fun w' => w'.cell? ⟨w.heap.size, 0, none⟩ = some (.int .i64 mode) ∧ w'.cell? ⟨w.heap.size, 1, none⟩ = some (.int .i64 thread) ∧ w'.cell? ⟨w.heap.size, 2, none⟩ = some (.slice A n c)) (go_keep)
    (first
    | (go_at_call 11
       refine Calls.mono (awake15_calls _) ?_
       rintro e w3 ⟨rfl, k3⟩
       have s0 := (k3.cell (o := 0) z1 (fun h => h)).trans q0
       have s1 := (k3.cell (o := 1) z1 (fun h => h)).trans q1
       have s2 := (k3.cell (o := 2) z1 (fun h => h)).trans q2
       have z3 := Nat.lt_of_lt_of_le z1 k3.size
       have K3 := Lib.hid (K1.out.drew.trans k3 (fun _ _ h => h)))
    | (go_at_call 13
       refine Calls.mono (hs.out _ K3.out) ?_
       rintro e w4 ⟨A4, c4, rfl, M4⟩
       have r0 := (M4.kp.cell (o := 0) z3 (fun h => h)).trans s0
       have r1 := (M4.kp.cell (o := 1) z3 (fun h => h)).trans s1
       have r2 := (M4.kp.cell (o := 2) z3 (fun h => h)).trans s2
       have z4 := Nat.lt_of_lt_of_le z3 M4.kp.size
       have K4 := Lib.hid (K3.out.trans M4.kp (fun _ _ h => h))
       have R4 := Lib.hid (Own.rd encE_len M4.own)
       clear M4)
    | (go_at_call 14
       refine Calls.mono (hsR.out _ K4.out) ?_
       rintro e w5 ⟨A5, c5, rfl, M5⟩
       have p0 := (M5.kp.cell (o := 0) z4 (fun h => h)).trans r0
       have p1 := (M5.kp.cell (o := 1) z4 (fun h => h)).trans r1
       have p2 := (M5.kp.cell (o := 2) z4 (fun h => h)).trans r2
       have z5 := Nat.lt_of_lt_of_le z4 M5.kp.size
       have K5 := Lib.hid (K4.out.trans M5.kp (fun _ _ h => h))
       have R5 := Lib.hid (R4.out.keeps M5.kp (fun _ _ h => h))
       have Q5 := Lib.hid (Own.rd encE_len M5.own)
       clear M5)
    | (go_at_call 12
       refine Calls.mono (events_same _ _ SL _ R5.out Q5.out hsl) ?_
       rintro e w6 ⟨rfl, k6⟩
       have m0 := (k6.cell (o := 0) z5 (fun h => h)).trans p0
       have m1 := (k6.cell (o := 1) z5 (fun h => h)).trans p1
       have m2 := (k6.cell (o := 2) z5 (fun h => h)).trans p2
       have K6 := Lib.hid (K5.out.trans k6 (fun _ _ h => h))
       clear k6)
    | fail)
  go_wp2_with fail
  go_ret
  exact ⟨rfl, K6.out.below (Nat.le_refl _) (fun _ h => h.elim)⟩
end Go.Proofs.Ytpchhlhjmkkoiaa
