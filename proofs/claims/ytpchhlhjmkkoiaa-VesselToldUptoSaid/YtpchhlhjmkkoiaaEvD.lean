/- Layer 14's statements: the fixed fact, and events that came in. -/
import Derived.Test.YtpchhlhjmkkoiaaEvC
import Derived.Test.YtpchhlhjmkkoiaaRef02
import Derived.Test.YtpchhlhjmkkoiaaOpens3
namespace Go.Proofs.Ytpchhlhjmkkoiaa
open Go.RowKit Go.ChangeShapes Go.WideShapes

section
variable {H : Type} {enc0 : TypeId × Value → H} {W : World} {base : Nat} {spare : Nat → Bool} {held : Bool}

theorem opens_ev : Opens enc0 Try.prog W base spare held (fun (a : Ev) cs => cs = encE a) 36 := by
  refine opens_structN Try.underlying36 (fun cs hl hf => ?_)
  rw [show Try.prog.cellsOf 36 = 3 by kernel_rfl] at hl
  obtain ⟨n0, y0, t0, _⟩ := hf 0 _ rfl
  obtain ⟨n1, y1, t1, _⟩ := hf 1 _ rfl
  obtain ⟨n2, y2, t2, _⟩ := hf 2 _ rfl
  obtain ⟨x0, e0, _⟩ := DataW.trod_int Try.underlying3 (cell1 (c := 1) (t := 3) (o := 0) (by kernel_rfl) t0)
  obtain ⟨x1, e1, _⟩ := DataW.trod_int Try.underlying3 (cell1 (c := 1) (t := 3) (o := 1) (by kernel_rfl) t1)
  obtain ⟨x2, e2, _⟩ := DataW.trod_int Try.underlying3 (cell1 (c := 1) (t := 3) (o := 2) (by kernel_rfl) t2)
  match cs, hl with
  | [a, b, c], _ =>
    simp at e0 e1 e2
    subst e0 e1 e2
    exact ⟨⟨x0, x1, x2⟩, rfl⟩

/-- Events that came in. -/
def EvsAt (W : World) (v : Value) (l : List Ev) : Prop := Rd encE 3 W v l ∧ l.length * 24 ≤ 140737488351232 ∧ ∃ A cap, v = .slice A l.length cap ∧ l.length ≤ cap

theorem evs_sl {v : Value} {l : List Ev} (h : SlR W (fun (x : Ev) cs => cs = encE x) 3 24 l [v]) : EvsAt W v l := by
  have h' := h
  obtain ⟨A, b, off, cap, hv, _, hb, hc, _⟩ := h
  simp only [List.cons.injEq, and_true] at hv
  subst hv
  exact ⟨rd_of_sl h' (by decide) encE_len, hb, A, cap, rfl, hc⟩

theorem evs_arg {ts : List TypeId} {ds : List (DataW H)} {j : Nat} {v : Value} {d : DataW H} {ps : List MemPlace} {r : Reach} {b0 : Nat} (hsz : (DataW.weightsEach Try.prog ts ds).all (· ≤ reachBytes) = true) (ht : ts[j]? = some 22) (hd : ds[j]? = some d)
    (hv : Value.okWide Try.prog W r b0 22 v) (h : DataW.Trod enc0 Try.prog W base spare held 22 v d ps) : ∃ l, EvsAt W v l := by
  obtain ⟨a, len, cap, rfl⟩ := okWide_slice Try.underlying22 hv
  obtain ⟨l, hl⟩ := opens_arg hsz ht hd h (opens_slice (sz := 3) (B := 24) Try.underlying22 (by kernel_rfl) (by decide) (by kernel_rfl) opens_ev)
  exact ⟨l, evs_sl hl⟩
end

theorem litE (w : World) (xs : List Ev) (hl : xs.length ≤ 1000) : Rd encE 3 (w.alloc (.cells (xs.flatMap encE).toArray 36)) (.slice (some ⟨w.heap.size, 0, none⟩) xs.length xs.length) xs := by
  have h := World.ownsRow_lit (base := 0) (e := 36) (size := 3) w (xs.flatMap encE).toArray xs.length (Nat.zero_le _) (by simp only [maxLen]; omega) (by rw [List.size_toArray, flat_len encE 3 encE_len])
  exact Own.rd encE_len h

theorem litI (w : World) (xs : List Int) (hl : xs.length ≤ 1000) : ReadsI .i64 (w.alloc (.cells (xs.map (Value.int .i64)).toArray 3)) (.slice (some ⟨w.heap.size, 0, none⟩) xs.length xs.length) xs := by
  have h := World.ownsRow_lit (base := 0) (e := 3) (size := 1) w (xs.map (Value.int .i64)).toArray xs.length (Nat.zero_le _) (by simp only [maxLen]; omega) (by simp)
  exact Own.readsI h

set_option maxRecDepth 100000 in
set_option maxHeartbeats 2000000 in
theorem awake14_calls (w : World) : Calls Try.prog 21 #[] w fun e w' => e = .returned (.bool true) ∧ Keeps NoBlock w w' := by
  have k0 : Keeps NoBlock w (w.alloc (.cells #[.int .i64 1, .int .i64 (-1), .int .i64 0, .int .i64 3, .int .i64 3, .int .i64 0, .int .i64 4, .int .i64 4, .int .i64 7, .int .i64 4, .int .i64 5, .int .i64 0] 36)) := (Keeps.refl _ _).alloc _
  have HL : Hid (Rd encE 3 (w.alloc (.cells #[.int .i64 1, .int .i64 (-1), .int .i64 0, .int .i64 3, .int .i64 3, .int .i64 0, .int .i64 4, .int .i64 4, .int .i64 7, .int .i64 4, .int .i64 5, .int .i64 0] 36)) (.slice (some ⟨w.heap.size, 0, none⟩) 4 4) [⟨1, -1, 0⟩, ⟨3, 3, 0⟩, ⟨4, 4, 7⟩, ⟨4, 5, 0⟩]) := litE w [⟨1, -1, 0⟩, ⟨3, 3, 0⟩, ⟨4, 4, 7⟩, ⟨4, 5, 0⟩] (by decide)
  have hwi := Lib.hid (within_some _ 4 2 ⟨4, 4, 7⟩ [⟨1, -1, 0⟩, ⟨3, 3, 0⟩, ⟨4, 4, 7⟩, ⟨4, 5, 0⟩] _ HL.out (by decide) (by decide) rfl rfl)
  have K0 := Lib.hid k0
  clear k0
  go_enter Try.func21, Try.ntmps21
  go_wp2_with fail
  refine hwi.out.mono ?_
  rintro e w1 ⟨A1, c1, rfl, r1, k1, _, _⟩
  clear hwi r1
  have L1 := Lib.hid (HL.out.keeps (k1.trans ((Keeps.refl _ _).alloc (.cells #[.int .i64 4, .int .i64 4, .int .i64 7] 36)) (fun _ _ h => h)) (fun _ _ h => h))
  have K1 := Lib.hid ((K0.out.trans k1 (fun _ _ h => h)).alloc (.cells #[.int .i64 4, .int .i64 4, .int .i64 7] 36))
  clear k1
  go_wp2_with fail
  refine (ready_calls _ [⟨1, -1, 0⟩, ⟨3, 3, 0⟩, ⟨4, 4, 7⟩, ⟨4, 5, 0⟩] _ L1.out (by decide)).mono ?_
  rintro e w2 ⟨A2, c2, rfl, M2⟩
  have kk2 := M2.kp.trans ((Keeps.refl _ _).alloc (.cells #[.int .i64 3, .int .i64 5] 3)) (fun _ _ h => h)
  have L2 := Lib.hid (L1.out.keeps kk2 (fun _ _ h => h))
  have K2 := Lib.hid (K1.out.trans kk2 (fun _ _ h => h))
  have R2 := Lib.hid ((Own.readsI M2.own).keeps ((Keeps.refl NoBlock w2).alloc (.cells #[.int .i64 3, .int .i64 5] 3)) (fun _ _ h => h))
  have I2 := Lib.hid (litI w2 [3, 5] (by decide))
  clear M2 kk2
  go_wp2_with fail
  refine (ints_calls _ _ _ [3, 5] _ R2.out I2.out (by decide) (by decide)).mono ?_
  rintro e w3 ⟨rfl, k3⟩
  rw [decide_eq_true (by decide +kernel)]
  have L3 := Lib.hid (L2.out.keeps k3 (fun _ _ h => h))
  have K3 := Lib.hid (K2.out.trans k3 (fun _ _ h => h))
  clear k3
  go_wp2_with fail
  refine (threads_calls _ [⟨1, -1, 0⟩, ⟨3, 3, 0⟩, ⟨4, 4, 7⟩, ⟨4, 5, 0⟩] _ L3.out (by decide)).mono ?_
  rintro e w4 ⟨A4, c4, rfl, M4⟩
  have kk4 := M4.kp.trans ((Keeps.refl _ _).alloc (.cells #[.int .i64 3, .int .i64 4, .int .i64 5] 3)) (fun _ _ h => h)
  have L4 := Lib.hid (L3.out.keeps kk4 (fun _ _ h => h))
  have K4 := Lib.hid (K3.out.trans kk4 (fun _ _ h => h))
  have R4 := Lib.hid ((Own.readsI M4.own).keeps ((Keeps.refl NoBlock w4).alloc (.cells #[.int .i64 3, .int .i64 4, .int .i64 5] 3)) (fun _ _ h => h))
  have I4 := Lib.hid (litI w4 [3, 4, 5] (by decide))
  clear M4 kk4
  go_wp2_with fail
  refine (ints_calls _ _ _ [3, 4, 5] _ R4.out I4.out (by decide) (by decide)).mono ?_
  rintro e w5 ⟨rfl, k5⟩
  rw [decide_eq_true (by decide +kernel)]
  have L5 := Lib.hid (L4.out.keeps k5 (fun _ _ h => h))
  have K5 := Lib.hid (K4.out.trans k5 (fun _ _ h => h))
  clear k5
  go_wp2_with fail
  refine (keep_calls _ [⟨1, -1, 0⟩, ⟨3, 3, 0⟩, ⟨4, 4, 7⟩, ⟨4, 5, 0⟩] _ L5.out (by decide)).mono ?_
  rintro e w6 ⟨A6, c6, rfl, M6⟩
  have L6 := Lib.hid (L5.out.keeps M6.kp (fun _ _ h => h))
  have K6 := Lib.hid (K5.out.trans M6.kp (fun _ _ h => h))
  clear M6
  go_wp2_with fail
  refine (join_calls _ _ [⟨1, -1, 0⟩, ⟨3, 3, 0⟩, ⟨4, 4, 7⟩, ⟨4, 5, 0⟩] [⟨1, -1, 0⟩, ⟨3, 3, 0⟩, ⟨4, 4, 7⟩, ⟨4, 5, 0⟩] _ L6.out L6.out (by decide)).mono ?_
  rintro e w7 ⟨A7, c7, rfl, M7⟩
  have K7 := Lib.hid (K6.out.trans M7.kp (fun _ _ h => h))
  clear M7
  go_wp2_with fail
  go_ret
  exact ⟨rfl, K7.out⟩
end Go.Proofs.Ytpchhlhjmkkoiaa
