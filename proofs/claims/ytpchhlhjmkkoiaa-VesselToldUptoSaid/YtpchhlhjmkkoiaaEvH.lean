/- EventJoins: what may run by events and more is what may run by each, in order; what counts again counts again. -/
import Derived.Test.YtpchhlhjmkkoiaaEvG
import Derived.Test.YtpchhlhjmkkoiaaBulk
namespace Go.Proofs.Ytpchhlhjmkkoiaa
open Go.RowKit

theorem Own.src {w : World} {e : TypeId} {s n : Nat} {v : Value} {xs : List Value} (h : Own w e s v n xs) : ∃ (A : Option Addr) (b c : Nat), v = .slice A n c ∧ (0 < n → A = some ⟨b, 0, none⟩) ∧ ∀ j u, xs[j]? = some u → w.cell? ⟨b, 0 + j, none⟩ = some u := by
  rcases Own.form h with ⟨rfl, rfl⟩ | ⟨g, c, rfl, _⟩
  · refine ⟨none, 0, 0, rfl, fun h => by omega, fun j u hj => ?_⟩
    have := h.1
    rw [Nat.zero_mul] at this
    rw [List.eq_nil_of_length_eq_zero this] at hj
    simp at hj
  · refine ⟨_, g, c, rfl, fun _ => rfl, fun j u hj => ?_⟩
    rw [Nat.zero_add, World.ownsRow.cellAt h j (by rw [← h.1]; exact (List.getElem?_eq_some_iff.1 hj).1)]
    exact hj

theorem keep_keep (l : List Ev) : (l.filterMap fKeep).filterMap fKeep = l.filterMap fKeep := by
  rw [List.filterMap_filterMap]
  congr 1
  funext x
  unfold fKeep
  by_cases h : keepB x = true <;> simp [h]

theorem ready_keep (l : List Ev) : (l.filterMap fKeep).filterMap fReady = l.filterMap fReady := by
  rw [List.filterMap_filterMap]
  congr 1
  funext x
  unfold fKeep fReady keepB
  by_cases h : runsB x = true
  · simp [h]
  · by_cases h2 : 0 < x.mode <;> simp [h, h2]

theorem ints_same (va vb : Value) (xs ys : List Int) (hxy : xs = ys) (w : World) (ha : ReadsI .i64 w va xs) (hb : ReadsI .i64 w vb ys) (hl : xs.length < 1000000000000000) :
    Calls Try.prog 22 #[va, vb] w fun e w' => e = .returned (.bool true) ∧ Keeps NoBlock w w' := by
  subst hxy
  exact (ints_calls va vb xs xs w ha hb hl hl).mono fun e w' ⟨he, hk⟩ => ⟨by rw [he, decide_eq_true rfl], hk⟩

theorem len_fm {α β : Type} (f : α → Option β) (l : List α) : (l.filterMap f).length ≤ l.length := List.length_filterMap_le f l

set_option maxHeartbeats 4000000 in
set_option maxRecDepth 100000 in
theorem joins_calls (va vb : Value) (xs ys : List Ev) (w : World) (ha : Rd encE 3 w va xs) (hb : Rd encE 3 w vb ys) (lx : xs.length ≤ 1048576) (ly : ys.length ≤ 1048576) : Calls Try.prog 9 #[va, vb] w (EndsPost w) := by
  have HRa := Lib.hid ha
  have HRb := Lib.hid hb
  have Hj := Lib.hid (join_calls va vb xs ys w ha hb (by omega))
  obtain ⟨Aa, ca, rfl⟩ := ha.isSlice
  obtain ⟨Ab, cb, rfl⟩ := hb.isSlice
  obtain ⟨nx, hnx⟩ : ∃ n, Hid (xs.length = n) := ⟨_, rfl⟩
  obtain ⟨ny, hny⟩ : ∃ n, Hid (ys.length = n) := ⟨_, rfl⟩
  have hll : Hid ((xs ++ ys).length = nx + ny) := by show _ = _; rw [List.length_append, hnx.out, hny.out]
  rw [hnx.out] at HRa lx Hj ⊢
  rw [hny.out] at HRb ly Hj ⊢
  clear ha hb
  go_enter Try.func9, Try.ntmps9
  go_wp2_with fail
  refine Hj.out.mono ?_
  rintro e w1 ⟨A, c, rfl, M⟩
  rw [hll.out] at M ⊢
  have K1 := Lib.hid M.kp
  have hcap : nx + ny ≤ c := own_cap M.own
  have HRl : Hid (Rd encE 3 w1 (.slice A (nx + ny) c) (xs ++ ys)) := rd_len M.own hll.out.symm hll.out.symm
  obtain ⟨A', b, off, c', hv, hA, hc⟩ := HRl.out
  have hA2 : 0 < nx + ny → A = some ⟨b, off, none⟩ := fun h0 => by
    simp only [Value.slice.injEq] at hv
    rw [hv.1]; exact (hA (by rw [hll.out]; exact h0)).1
  obtain ⟨A2, hs1, hA3⟩ := run_slice_from eE A (nx + ny) c nx b off (by omega) hcap hA2
  have hs2 := run_slice_to eE A (nx + ny) c nx (by omega)
  rw [Nat.add_sub_cancel_left] at hs1 hA3
  have HRa2 : Hid (Rd encE 3 w1 (.slice A nx c) xs) := by
    have h := Rd.part hA hc A 0 nx c (by rw [hll.out]; omega) (fun h0 => by rw [Nat.zero_mul, Nat.add_zero]; exact hA2 (by omega))
    rw [List.drop_zero, List.take_append_of_le_length (by rw [hnx.out]; omega), List.take_of_length_le (by rw [hnx.out]; omega)] at h
    exact h
  have HRb2 : Hid (Rd encE 3 w1 (.slice A2 ny (c - nx)) ys) := by
    have h := Rd.part hA hc A2 nx ny (c - nx) (by rw [hll.out]; omega) hA3
    rw [List.drop_append_of_le_length (by rw [hnx.out]; omega), List.drop_of_length_le (by rw [hnx.out]; omega), List.nil_append, List.take_of_length_le (by rw [hny.out]; omega)] at h
    exact h
  have Hs1 := Lib.hid hs1
  have Hs2 := Lib.hid hs2
  clear hv hA hc hA2 hA3 M Hj hs1 hs2 A' c'
  have hs1 := Hs1.out
  have hs2 := Hs2.out
  go_wp2_with fail
  refine (events_same _ _ xs _ HRa2.out (HRa.out.keeps K1.out (fun _ _ h => h)) (by rw [hnx.out]; omega)).mono ?_
  rintro e w2 ⟨rfl, k2⟩
  have K2 := Lib.hid k2
  clear k2
  go_wp2_with fail
  refine (events_same _ _ ys _ (HRb2.out.keeps K2.out (fun _ _ h => h)) (HRb.out.keeps (K1.out.trans K2.out (fun _ _ h => h)) (fun _ _ h => h)) (by rw [hny.out]; omega)).mono ?_
  rintro e w3 ⟨rfl, k3⟩
  have K3 := Lib.hid (K2.out.trans k3 (fun _ _ h => h))
  clear k3 hs1 hs2
  have hL : Hid ((xs ++ ys).length * 24 ≤ 140737488351232) := by show _ ≤ _; rw [hll.out]; omega
  go_wp2_with fail
  refine (keep_calls _ (xs ++ ys) _ (HRl.out.keeps K3.out (fun _ _ h => h)) hL.out).mono ?_
  rintro e w4 ⟨A4, c4, rfl, M4⟩
  have K4 := Lib.hid (K3.out.trans M4.kp (fun _ _ h => h))
  have R4 := Lib.hid (Own.rd encE_len M4.own)
  obtain ⟨KL, hKL⟩ : ∃ KL, Hid (KL = (xs ++ ys).filterMap fKeep) := ⟨_, rfl⟩
  rw [← hKL.out] at R4 ⊢
  have hkl : KL.length ≤ 2097152 := by rw [hKL.out]; have := len_fm fKeep (xs ++ ys); rw [hll.out] at this; omega
  have hKb : Hid (KL.length * 24 ≤ 140737488351232) := by show _ ≤ _; omega
  obtain ⟨nk, hnk⟩ : ∃ n, Hid (KL.length = n) := ⟨_, rfl⟩
  rw [hnk.out] at R4 hkl ⊢
  clear M4
  go_wp2_with fail
  refine (awake14_calls _).mono ?_
  rintro e w5 ⟨rfl, k5⟩
  have K5 := Lib.hid (K4.out.trans k5 (fun _ _ h => h))
  have R5 := Lib.hid (R4.out.keeps k5 (fun _ _ h => h))
  clear k5
  obtain ⟨r6, hr6'⟩ : ∃ r, Hid (r = (xs ++ ys).filterMap fReady) := ⟨_, rfl⟩
  obtain ⟨r7, hr7'⟩ : ∃ r, Hid (r = xs.filterMap fReady) := ⟨_, rfl⟩
  obtain ⟨r8, hr8'⟩ : ∃ r, Hid (r = ys.filterMap fReady) := ⟨_, rfl⟩
  have hr6 := len_fm fReady (xs ++ ys)
  have hr7 := len_fm fReady xs
  have hr8 := len_fm fReady ys
  rw [hll.out, ← hr6'.out] at hr6
  rw [hnx.out, ← hr7'.out] at hr7
  rw [hny.out, ← hr8'.out] at hr8
  go_wp2_with fail
  refine (ready_calls _ (xs ++ ys) _ (HRl.out.keeps K5.out (fun _ _ h => h)) hL.out).mono ?_
  rintro e w6 ⟨A6, c6, rfl, M6⟩
  rw [← hr6'.out] at M6 ⊢
  have K6 := Lib.hid (K5.out.trans M6.kp (fun _ _ h => h))
  have R6 := Lib.hid (R5.out.keeps M6.kp (fun _ _ h => h))
  have I6 := Lib.hid (Own.readsI M6.own)
  clear M6
  go_wp2_with fail
  refine (ready_calls _ xs _ (HRa.out.keeps (K1.out.trans K6.out (fun _ _ h => h)) (fun _ _ h => h)) (by rw [hnx.out]; omega)).mono ?_
  rintro e w7 ⟨A7, c7, rfl, M7⟩
  rw [← hr7'.out] at M7 ⊢
  have HM7 := Lib.hid M7
  clear M7
  go_wp2_with fail
  refine (ready_calls _ ys _ (HRb.out.keeps (K1.out.trans (K6.out.trans HM7.out.kp (fun _ _ h => h)) (fun _ _ h => h)) (fun _ _ h => h)) (by rw [hny.out]; omega)).mono ?_
  rintro e w8 ⟨A8, c8, rfl, M8⟩
  rw [← hr8'.out] at M8 ⊢
  have M78 := Lib.hid (HM7.out.keeps M8.kp)
  obtain ⟨A8', b8, c8', hv8, hA8, hs8⟩ := Own.src M8.own
  have hA8' : Hid (0 < r8.length → A8 = some ⟨b8, 0, none⟩) := fun h0 => by
    simp only [Value.slice.injEq] at hv8
    rw [hv8.1]; exact hA8 h0
  have Hs8 := Lib.hid hs8
  have hl8 := M8.own.1
  have Hl8 := Lib.hid hl8
  have hone : Hid (∀ u ∈ r8.map (Value.int .i64), u.oneCell' = true) := fun u hu => by obtain ⟨x, _, rfl⟩ := List.mem_map.1 hu; rfl
  clear M8 hv8 hA8 hs8 hl8 A8' c8'
  go_wp2_with (at_builtin; refine wpList_appG eN _ _ _ rfl (.slice A7 r7.length c7) r7.length _ rfl M78.out.own A8 b8 0 r8.length c8 (r8.map (Value.int .i64)) rfl hA8'.out Hl8.out Hs8.out hone.out ?_ ?_ ?_ ?_)
  · simp only [maxLen]; omega
  · omega
  intro v9 w9 ho9 hg9 hf9 hs9
  have M9 := M78.out.grow (Keeps.refl _ _) ho9 hg9 hf9 (Nat.le_refl _)
  have hv9 : ∃ A9 c9, v9 = .slice A9 (r7.length + r8.length) c9 := Own.isSlice ho9
  obtain ⟨A9, c9, rfl⟩ := hv9
  have I9 : Hid (ReadsI .i64 w9 (.slice A9 (r7.length + r8.length) c9) (r7 ++ r8)) := by
    have h := ho9
    rw [← List.map_append, ← List.length_append] at h
    have h2 := Own.readsI h
    rw [List.length_append] at h2
    exact h2
  have I69 := Lib.hid (I6.out.keeps M9.kp (fun _ _ h => h))
  have R9 := Lib.hid (R6.out.keeps M9.kp (fun _ _ h => h))
  have K9 := Lib.hid (K6.out.trans M9.kp (fun _ _ h => h))
  clear ho9 hg9 hf9 hs9 M9
  go_wp2_with fail
  refine (ints_same _ _ r6 (r7 ++ r8) ?_ _ I69.out I9.out ?_).mono ?_
  · rw [hr6'.out, List.filterMap_append, hr7'.out, hr8'.out]
  · omega
  rintro e w10 ⟨rfl, k10⟩
  have K10 := Lib.hid (K9.out.trans k10 (fun _ _ h => h))
  have R10 := Lib.hid (R9.out.keeps k10 (fun _ _ h => h))
  clear k10
  go_wp2_with fail
  refine (keep_calls _ KL _ R10.out hKb.out).mono ?_
  rintro e w11 ⟨A11, c11, rfl, M11⟩
  have K11 := Lib.hid (K10.out.trans M11.kp (fun _ _ h => h))
  have R11 := Lib.hid (R10.out.keeps M11.kp (fun _ _ h => h))
  have hkk : KL.filterMap fKeep = KL := by rw [hKL.out, keep_keep]
  rw [hkk] at M11 ⊢
  have Q11 := Lib.hid (Own.rd encE_len M11.own)
  clear M11 hkk
  go_wp2_with fail
  refine (events_same _ _ KL _ Q11.out R11.out (by rw [hnk.out]; omega)).mono ?_
  rintro e w12 ⟨rfl, k12⟩
  have K12 := Lib.hid (K11.out.trans k12 (fun _ _ h => h))
  have R12 := Lib.hid (R11.out.keeps k12 (fun _ _ h => h))
  clear k12
  go_wp2_with fail
  refine (ready_calls _ KL _ R12.out hKb.out).mono ?_
  rintro e w13 ⟨A13, c13, rfl, M13⟩
  have hrk : KL.filterMap fReady = r6 := by rw [hKL.out, ready_keep, hr6'.out]
  rw [hrk] at M13 ⊢
  clear hrk
  have K13 := Lib.hid (K12.out.trans M13.kp (fun _ _ h => h))
  have I13 := Lib.hid (Own.readsI M13.own)
  clear M13
  go_wp2_with fail
  refine (ready_calls _ (xs ++ ys) _ (HRl.out.keeps K13.out (fun _ _ h => h)) hL.out).mono ?_
  rintro e w14 ⟨A14, c14, rfl, M14⟩
  rw [← hr6'.out] at M14 ⊢
  have K14 := Lib.hid (K13.out.trans M14.kp (fun _ _ h => h))
  have I14 := Lib.hid (I13.out.keeps M14.kp (fun _ _ h => h))
  have J14 := Lib.hid (Own.readsI M14.own)
  clear M14
  go_wp2_with fail
  refine (ints_same _ _ r6 r6 rfl _ I14.out J14.out ?_).mono ?_
  · omega
  rintro e w15 ⟨rfl, k15⟩
  have K15 := Lib.hid (K1.out.trans (K14.out.trans k15 (fun _ _ h => h)) (fun _ _ h => h))
  clear k15
  go_wp2_with fail
  go_ret
  exact ⟨rfl, K15.out.below (Nat.le_refl _) (fun _ h => h.elim)⟩

section
variable {H : Type} {enc0 : TypeId × Value → H} {W : World} {base : Nat} {spare : Nat → Bool} {held : Bool}
theorem evs_argU {ts : List TypeId} {ds : List (DataW H)} {j : Nat} {v : Value} {d : DataW H} {ps : List MemPlace} {r : Reach} {b0 : Nat} (hsz : (DataW.weightsEach Try.prog ts ds).all (· ≤ reachBytes) = true) (ht : ts[j]? = some 22) (hd : ds[j]? = some d)
    (hv : Value.okWide Try.prog W r b0 22 v) (h : DataW.Trod enc0 Try.prog W base spare held 22 v d ps) : ∃ l, EvsAt W v l ∧ l.length ≤ Rows.uptoBulk d := by
  obtain ⟨l, hl⟩ := evs_arg hsz ht hd hv h
  have hl' := hl
  obtain ⟨_, _, A, cap, rfl, _⟩ := hl'
  exact ⟨l, hl, slice_bulk Try.underlying22 h⟩
end

theorem joins_row {H : Type} (w : World) (va : Value) (xs : List Ev) {da : DataW H} (ha : EvsAt w va xs ∧ xs.length ≤ Rows.uptoBulk da) (ba : Rows.uptoBulk da ≤ 1048576) (vb : Value) (ys : List Ev) {db : DataW H} (hb : EvsAt w vb ys ∧ ys.length ≤ Rows.uptoBulk db) (bb : Rows.uptoBulk db ≤ 1048576) :
    Calls Try.prog 9 #[va, vb] w fun e w' => e = .returned (.bool true) ∧ Below w.heap.size w w' := joins_calls va vb xs ys w ha.1.1 hb.1.1 (by omega) (by omega)
end Go.Proofs.Ytpchhlhjmkkoiaa
