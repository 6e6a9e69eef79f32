/- Package vessel: one that is told something; layer 15's fixed fact, and a vessel that came in. -/
import Derived.Test.YtpchhlhjmkkoiaaVsB
namespace Go.Proofs.Ytpchhlhjmkkoiaa
open Go.RowKit Go.ChangeShapes Go.WideShapes

/-- A new vessel that is told something. -/
def NewVes (w : World) (l : List Ev) (e : Ending) (w' : World) : Prop := ∃ A c, e = .returned (vesV 1 (-1) A l.length c) ∧ Rd encE 3 w' (.slice A l.length c) l ∧ Keeps NoBlock w w' ∧ ∀ b, (Value.slice A l.length c).ownBlock = some b → w.heap.size ≤ b ∧ b < w'.heap.size

theorem new_calls (v : Value) (xs : List Ev) (w : World) (h : Rd encE 3 w v xs) (hl : xs.length * 24 ≤ 140737488351232) : Calls Try.prog 18 #[v] w (NewVes w xs) := by
  have hcl := Lib.hid (clone_calls v xs (w.alloc (.cells #[.int .i64 0, .int .i64 0, .slice none 0 0] 24)) (h.keeps ((Keeps.refl NoBlock _).alloc _) (fun _ _ h => h)) hl)
  obtain ⟨A, cap, rfl⟩ := h.isSlice
  clear h
  go_enter Try.func18, Try.ntmps18
  go_wp2_with fail
  refine hcl.out.mono ?_
  rintro e w2 ⟨A2, c2, rfl, M⟩
  have hz2 : w2.heap[w.heap.size]? = some (.cells #[.int .i64 0, .int .i64 0, .slice none 0 0] 24 (0, 0)) := (M.kp.block _ (by simp) (fun h => h)).trans (block_alloc_new _ _)
  have z0 := cell_of_block hz2 (o := 0) rfl
  have z1 := cell_of_block hz2 (o := 1) rfl
  have z2 := cell_of_block hz2 (o := 2) rfl
  have f0 := frozen_of_block hz2 (o := 0)
  have f1 := frozen_of_block hz2 (o := 1)
  have f2 := frozen_of_block hz2 (o := 2)
  have z3 := lt_of_block hz2
  have HM := Lib.hid M
  clear hz2 M hcl
  go_wp2_with fail
  refine bodyPost_ret (v := vesV 1 (-1) A2 xs.length c2) (by simp [results, Try.results18, go_sem, z0, z1, z2]) rfl ?_
  have kk : Keeps (fun b => b = w.heap.size) w2 (((w2.setCell ⟨w.heap.size, 0, none⟩ (.int .i64 1)).setCell ⟨w.heap.size, 1, none⟩ (.int .i64 (-1))).setCell ⟨w.heap.size, 2, none⟩ (.slice A2 xs.length c2)) :=
    (((Keeps.refl (fun b => b = w.heap.size) w2).set (.inl rfl) _).set (.inl rfl) _).set (.inl rfl) _
  exact ⟨A2, c2, rfl, (Own.rd encE_len HM.out.own).keeps kk (fun b hb e => by have := HM.out.fresh b hb; simp at this; omega), (((Keeps.refl NoBlock w).alloc _).trans HM.out.kp (fun _ _ h => h)).trans kk (fun j hj e => by omega), fun b hb => ⟨by have := HM.out.fresh b hb; simp at this; omega, Nat.lt_of_lt_of_le (HM.out.lt b hb) kk.size⟩⟩

set_option maxHeartbeats 1000000 in
theorem told_calls (mode thread : Int) (A : Option Addr) (c : Nat) (xs more : List Ev) (v : Value) (w : World) (h : Rd encE 3 w (.slice A xs.length c) xs) (hm : Rd encE 3 w v more) (hl : xs.length ≤ 10000000) (hl2 : more.length ≤ 10000000) :
    Calls Try.prog 17 #[vesV mode thread A xs.length c, v] w (NewVes w ((preL mode thread ++ xs.filterMap fKeep) ++ more)) := by
  have HR := Lib.hid h
  have HM := Lib.hid hm
  have hkl := len_fm fKeep xs
  have hpl := preL_len mode thread
  obtain ⟨n, hn⟩ : ∃ n, Hid (xs.length = n) := ⟨_, rfl⟩
  obtain ⟨SL, hSL⟩ : ∃ SL, Hid (SL = preL mode thread ++ xs.filterMap fKeep) := ⟨_, rfl⟩
  have hs : Hid (∀ W, Keeps NoBlock w W → Calls Try.prog 13 #[vesV mode thread A n c] W (NewEvs W SL)) := fun W kW => by
    rw [hSL.out, ← hn.out]; exact strip_calls mode thread A c xs W (HR.out.keeps kW (fun _ _ h => h)) (by omega)
  have hsl : SL.length ≤ 10000001 := by rw [hSL.out, List.length_append]; omega
  rw [← hSL.out, hn.out]
  obtain ⟨A2, c2, rfl⟩ := hm.isSlice
  obtain ⟨m, hmm⟩ : ∃ m, Hid (more.length = m) := ⟨_, rfl⟩
  obtain ⟨TL, hTL⟩ : ∃ TL, Hid (TL = SL ++ more) := ⟨_, rfl⟩
  have htl : TL.length ≤ 20000001 := by rw [hTL.out, List.length_append]; omega
  rw [← hTL.out]
  rw [hmm.out] at HM hl2 ⊢
  clear h hm hkl hpl hl
  go_enter Try.func17, Try.ntmps17
  go_wp2_with fail
  have k0 : Keeps NoBlock w ((w.alloc (.cells (vesC mode thread A n c) 24)).alloc (.cells #[.int .i64 0, .int .i64 0, .slice none 0 0] 24)) := ((Keeps.refl _ _).alloc _).alloc _
  refine (hs.out _ k0).mono ?_
  rintro e w1 ⟨A3, c3, rfl, M3⟩
  have b1 : Hid (w1.heap[w.heap.size + 1]? = some (.cells #[.int .i64 0, .int .i64 0, .slice none 0 0] 24 (0, 0))) := (M3.kp.block _ (by simp) (fun h => h)).trans (by have h := block_alloc_new (w.alloc (.cells (vesC mode thread A n c) 24)) (.cells #[.int .i64 0, .int .i64 0, .slice none 0 0] 24); rwa [World.size_alloc] at h)
  have K1 := Lib.hid (k0.trans M3.kp (fun _ _ h => h))
  have R1 := Lib.hid (Own.rd encE_len M3.own)
  clear M3 k0 hs
  go_wp2_with fail
  refine (join_calls _ _ SL more w1 R1.out (HM.out.keeps K1.out (fun _ _ h => h)) (by rw [hmm.out]; omega)).mono ?_
  rintro e w2 ⟨A4, c4, rfl, M4⟩
  rw [← hTL.out] at M4 ⊢
  have K2 := Lib.hid (K1.out.trans M4.kp (fun _ _ h => h))
  have b2 : Hid (w2.heap[w.heap.size + 1]? = some (.cells #[.int .i64 0, .int .i64 0, .slice none 0 0] 24 (0, 0))) := (M4.kp.block _ (lt_of_block b1.out) (fun h => h)).trans b1.out
  have R2 := Lib.hid (Own.rd encE_len M4.own)
  clear M4
  go_wp2_with fail
  refine (new_calls _ TL w2 R2.out (by omega)).mono ?_
  rintro e w3 ⟨A5, c5, rfl, r3, k3, f3⟩
  have F3 := Lib.hid f3
  clear f3
  have hz2 : w3.heap[w.heap.size + 1]? = some (.cells #[.int .i64 0, .int .i64 0, .slice none 0 0] 24 (0, 0)) := (k3.block _ (lt_of_block b2.out) (fun h => h)).trans b2.out
  have z0 := cell_of_block hz2 (o := 0) rfl
  have z1 := cell_of_block hz2 (o := 1) rfl
  have z2 := cell_of_block hz2 (o := 2) rfl
  have f0 := frozen_of_block hz2 (o := 0)
  have f1 := frozen_of_block hz2 (o := 1)
  have f2 := frozen_of_block hz2 (o := 2)
  have z3 := lt_of_block hz2
  have R3 := Lib.hid r3
  have K3 := Lib.hid (K2.out.trans k3 (fun _ _ h => h))
  clear hz2 r3 k3
  go_wp2_with fail
  refine bodyPost_ret (v := vesV 1 (-1) A5 TL.length c5) (by simp [results, Try.results17, go_sem, z0, z1, z2]) rfl ?_
  have kk : Keeps (fun b => b = w.heap.size + 1) w3 (((w3.setCell ⟨w.heap.size + 1, 0, none⟩ (.int .i64 1)).setCell ⟨w.heap.size + 1, 1, none⟩ (.int .i64 (-1))).setCell ⟨w.heap.size + 1, 2, none⟩ (.slice A5 TL.length c5)) :=
    (((Keeps.refl (fun b => b = w.heap.size + 1) w3).set (.inl rfl) _).set (.inl rfl) _).set (.inl rfl) _
  have zb := lt_of_block b2.out
  exact ⟨A5, c5, rfl, R3.out.keeps kk (fun b hb e => by have := (F3.out b hb).1; omega), K3.out.trans kk (fun j hj e => by omega), fun b hb => ⟨by have := (F3.out b hb).1; have := K2.out.size; omega, Nat.lt_of_lt_of_le (F3.out b hb).2 kk.size⟩⟩

def one1 : List Ev := [⟨1, -1, 0⟩]
def one3 : List Ev := [⟨3, 1, 0⟩]
def one7 : List Ev := [⟨4, 3, 7⟩]
def two7 : List Ev := [⟨4, 3, 7⟩, ⟨3, 1, 0⟩]
theorem one7_is : preL 7 3 ++ one1.filterMap fKeep = one7 := by decide +kernel
theorem two7_is : (preL 7 3 ++ one1.filterMap fKeep) ++ one3 = two7 := by decide +kernel

set_option maxRecDepth 100000 in
set_option maxHeartbeats 2000000 in
theorem awake15_calls (w : World) : Calls Try.prog 11 #[] w fun e w' => e = .returned (.bool true) ∧ Keeps NoBlock w w' := by
  have HL : Hid (Rd encE 3 (w.alloc (.cells #[.int .i64 1, .int .i64 (-1), .int .i64 0] 36)) (.slice (some ⟨w.heap.size, 0, none⟩) 1 1) one1) := litE w one1 (by decide)
  have hn := Lib.hid (new_calls _ one1 _ HL.out (by decide))
  go_enter Try.func11, Try.ntmps11
  go_wp2_with fail
  refine hn.out.mono ?_
  rintro e w1 ⟨A1, c1, rfl, r1, k1, _⟩
  have K1 := Lib.hid (((Keeps.refl _ w).alloc (.cells #[.int .i64 1, .int .i64 (-1), .int .i64 0] 36)).trans k1 (fun _ _ h => h))
  have R1 : Hid (Rd encE 3 (w1.alloc (.cells (vesC 7 3 A1 1 c1) 24)) (.slice A1 1 c1) one1) := r1.keeps ((Keeps.refl NoBlock _).alloc _) (fun _ _ h => h)
  have hs : Hid (∀ W, Keeps NoBlock (w1.alloc (.cells (vesC 7 3 A1 1 c1) 24)) W → Calls Try.prog 13 #[vesV 7 3 A1 1 c1] W (NewEvs W one7)) := fun W kW => by
    rw [← one7_is]; exact strip_calls 7 3 A1 c1 one1 W (R1.out.keeps kW (fun _ _ h => h)) (by decide)
  have ht : Hid (∀ W v, Keeps NoBlock (w1.alloc (.cells (vesC 7 3 A1 1 c1) 24)) W → Rd encE 3 W v one3 → Calls Try.prog 17 #[vesV 7 3 A1 1 c1, v] W (NewVes W two7)) := fun W v kW hv => by
    rw [← two7_is]; exact told_calls 7 3 A1 c1 one1 one3 v W (R1.out.keeps kW (fun _ _ h => h)) hv (by decide) (by decide)
  have B1 : Hid ((w1.alloc (.cells (vesC 7 3 A1 1 c1) 24)).heap[w1.heap.size]? = some (.cells (vesC 7 3 A1 1 c1) 24 (0, 0))) := block_alloc_new _ _
  clear r1 k1 hn
  rw [show one1.length = 1 from rfl]
  go_wp2_with fail
  refine (hs.out _ (Keeps.refl _ _)).mono ?_
  rintro e w2 ⟨A2, c2, rfl, M2⟩
  rw [show one7.length = 1 from rfl] at M2 ⊢
  have K2 := Lib.hid M2.kp
  have O2 := Lib.hid M2.own
  have b2 : Hid (w2.heap[w1.heap.size]? = some (.cells (vesC 7 3 A1 1 c1) 24 (0, 0))) := (M2.kp.block _ (by simp) (fun h => h)).trans B1.out
  have p0 : w2.cell? ⟨w1.heap.size, 0, none⟩ = some (.int .i64 7) := cell_of_block b2.out rfl
  have p1 : w2.cell? ⟨w1.heap.size, 1, none⟩ = some (.int .i64 3) := cell_of_block b2.out rfl
  have p2 : w2.cell? ⟨w1.heap.size, 2, none⟩ = some (.slice A1 1 c1) := cell_of_block b2.out rfl
  clear M2
  go_wp2_with fail
  refine (vruns_calls 7 3 _ _ _ _ true rfl).mono ?_
  rintro e w3 ⟨rfl, k3⟩
  have K3 := Lib.hid (K2.out.trans k3 (fun _ _ h => h))
  have O3 := Lib.hid (O2.out.keeps k3 (fun _ _ h => h))
  have b3 : Hid (w3.heap[w1.heap.size]? = some (.cells (vesC 7 3 A1 1 c1) 24 (0, 0))) := (k3.block _ (lt_of_block b2.out) (fun h => h)).trans b2.out
  have q0 : w3.cell? ⟨w1.heap.size, 0, none⟩ = some (.int .i64 7) := cell_of_block b3.out rfl
  have q1 : w3.cell? ⟨w1.heap.size, 1, none⟩ = some (.int .i64 3) := cell_of_block b3.out rfl
  have q2 : w3.cell? ⟨w1.heap.size, 2, none⟩ = some (.slice A1 1 c1) := cell_of_block b3.out rfl
  clear k3 p0 p1 p2
  have ka := Lib.hid ((Keeps.refl NoBlock w3).alloc (.cells #[.int .i64 3, .int .i64 1, .int .i64 0] 36))
  go_wp2_with fail
  refine (ht.out _ _ (K3.out.trans ka.out (fun _ _ h => h)) (litE w3 one3 (by decide))).mono ?_
  rintro e w4 ⟨A4, c4, rfl, r4, k4, _⟩
  rw [show two7.length = 2 from rfl] at r4 ⊢
  have k4' := ka.out.trans k4 (fun _ _ h => h)
  have k5 := k4'.trans ((Keeps.refl _ _).alloc (.cells (vesC 1 (-1) A4 2 c4) 24)) (fun _ _ h => h)
  have O5 := Lib.hid (O3.out.keeps k5 (fun _ _ h => h))
  have K5 := Lib.hid (K3.out.trans k5 (fun _ _ h => h))
  have b5 : Hid ((w4.alloc (.cells (vesC 1 (-1) A4 2 c4) 24)).heap[w1.heap.size]? = some (.cells (vesC 7 3 A1 1 c1) 24 (0, 0))) := (k5.block _ (lt_of_block b3.out) (fun h => h)).trans b3.out
  obtain ⟨w5, hw5⟩ : ∃ w5, w5 = w4.alloc (.cells (vesC 1 (-1) A4 2 c4) 24) := ⟨_, rfl⟩
  have B5 : Hid (w5.heap[w4.heap.size]? = some (.cells (vesC 1 (-1) A4 2 c4) 24 (0, 0))) := by show _ = _; rw [hw5]; exact block_alloc_new _ _
  rw [← hw5] at O5 K5 b5
  have Hw5 := Lib.hid hw5
  clear r4 k4 k4' k5 q0 q1 q2 hw5
  go_upto_region 6 with fail
  rw [← Hw5.out]
  obtain ⟨g2, rfl⟩ : ∃ g2, A2 = some ⟨g2, 0, none⟩ := by
    rcases Own.form O5.out with ⟨_, h0⟩ | ⟨g, c, h1, _⟩
    · omega
    · cases h1; exact ⟨g, rfl⟩
  have hco := ownE_cells (xs := one7) (k := 0) rfl O5.out rfl
  rw [Nat.zero_mul, Nat.zero_add, Nat.zero_add] at hco
  have c0 : w5.cell? ⟨g2, 0, none⟩ = some (.int .i64 4) := hco.1
  have c1' : w5.cell? ⟨g2, 1, none⟩ = some (.int .i64 3) := hco.2.1
  have c2' : w5.cell? ⟨g2, 2, none⟩ = some (.int .i64 7) := hco.2.2
  have q0 : w5.cell? ⟨w1.heap.size, 0, none⟩ = some (.int .i64 7) := cell_of_block b5.out rfl
  have q1 : w5.cell? ⟨w1.heap.size, 1, none⟩ = some (.int .i64 3) := cell_of_block b5.out rfl
  have q2 : w5.cell? ⟨w1.heap.size, 2, none⟩ = some (.slice A1 1 c1) := cell_of_block b5.out rfl
  have hq : ∀ w, (Op.equalIn 10000 36 (.agg #[.int .i64 4, .int .i64 3, .int .i64 7]) (.agg #[.int .i64 4, .int .i64 3, .int .i64 7])).run Try.prog w = .ok true w := fun w => by
    have h := equalEv ⟨4, 3, 7⟩ ⟨4, 3, 7⟩ w
    rw [decide_eq_true rfl] at h; exact h
  have hgu := guardEv
  clear hco
  go_wp2_with fail
  refine (holds_calls 7 3 _ _ _ _ true rfl).mono ?_
  rintro e w6 ⟨rfl, k6⟩
  have b6 : Hid (w6.heap[w4.heap.size]? = some (.cells (vesC 1 (-1) A4 2 c4) 24 (0, 0))) := (k6.block _ (lt_of_block B5.out) (fun h => h)).trans B5.out
  have s0 : w6.cell? ⟨w4.heap.size, 0, none⟩ = some (.int .i64 1) := cell_of_block b6.out rfl
  have s1 : w6.cell? ⟨w4.heap.size, 1, none⟩ = some (.int .i64 (-1)) := cell_of_block b6.out rfl
  have s2 : w6.cell? ⟨w4.heap.size, 2, none⟩ = some (.slice A4 2 c4) := cell_of_block b6.out rfl
  have K6 := Lib.hid ((K1.out.alloc (.cells (vesC 7 3 A1 1 c1) 24)).trans (K5.out.trans k6 (fun _ _ h => h)) (fun _ _ h => h))
  clear k6
  go_wp2_with fail
  go_ret
  exact ⟨rfl, K6.out⟩
end Go.Proofs.Ytpchhlhjmkkoiaa
