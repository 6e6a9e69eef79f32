/- Package sched: Fill; are two lists of entries alike? -/
import Derived.Test.YtlnfjjbfdbcgbaaSdC
namespace Go.Proofs.Ytlnfjjbfdbcgbaa
open Go.RowKit
namespace Sd

def SamePost {α : Type} [DecidableEq α] (xs ys : List α) (w : World) (e : Ending) (w' : World) : Prop := e = .returned (.bool (decide (xs = ys))) ∧ Keeps NoBlock w w'
theorem SamePost.yes {α : Type} [DecidableEq α] {xs ys : List α} {w w' : World} (h : xs = ys) (k : Keeps NoBlock w w') : SamePost xs ys w (.returned (.bool true)) w' := ⟨by simp [h], k⟩
theorem SamePost.no {α : Type} [DecidableEq α] {xs ys : List α} {w w' : World} (h : xs ≠ ys) (k : Keeps NoBlock w w') : SamePost xs ys w (.returned (.bool false)) w' := ⟨by simp [h], k⟩

theorem list_ext_lt {α : Type} {xs ys : List α} (hlen : xs.length = ys.length) (h : ∀ j, j < xs.length → xs[j]? = ys[j]?) : xs = ys := List.ext_getElem? (fun j => by
  by_cases hj : j < xs.length
  · exact h j hj
  · rw [List.getElem?_eq_none (by omega), List.getElem?_eq_none (by omega)])

set_option maxRecDepth 100000 in
/-- same: are two lists of entries alike? -/
theorem same_calls (va vb : Value) (xs ys : List St) (w : World) (ha : Rd encS 3 w va xs) (hb : Rd encS 3 w vb ys) (hl : xs.length < 1000000000000000) (hl' : ys.length < 1000000000000000) :
    Calls Try.prog 20 #[va, vb] w (SamePost xs ys w) := by
  obtain ⟨A, b, off, cap, rfl, hA, hc⟩ := ha
  obtain ⟨A', b', off', cap', rfl, hA', hc'⟩ := hb
  have Hc := Lib.hid hc
  have Hc' := Lib.hid hc'
  have HA := Lib.hid hA
  have HA' := Lib.hid hA'
  clear hc hc' hA hA'
  by_cases hlen : xs.length = ys.length
  · obtain ⟨n, hn⟩ : ∃ n, Hid (ys.length = n) := ⟨_, rfl⟩
    have hnx : Hid (xs.length = n) := hlen.trans hn.out
    have Hext := Lib.hid (list_ext_lt hlen)
    clear hlen
    rw [hn.out, hnx.out]
    rw [hn.out] at hl' HA'
    rw [hnx.out] at hl HA
    go_enter Try.func20, Try.ntmps20
    go_wp2_with fail
    go_loopw [5] (fun i wr => ∃ k : Nat, k ≤ n ∧ i = .int .i64 k ∧ Keeps NoBlock w wr ∧ Hid (∀ j, j < k → xs[j]? = ys[j]?)) (fun i _ => n - (intOf i).toNat)
    case atStart => exact ⟨0, Nat.zero_le _, rfl, Keeps.refl _ _, fun j hj => by omega⟩
    case round =>
      obtain ⟨k, hk, rfl, hkp, hall⟩ := hrel
      by_cases hlt : k < n
      · obtain ⟨x, hx⟩ : ∃ x, xs[k]? = some x := ⟨_, List.getElem?_eq_getElem (by rw [hnx.out]; exact hlt)⟩
        obtain ⟨y, hy⟩ : ∃ y, ys[k]? = some y := ⟨_, List.getElem?_eq_getElem (by rw [hn.out]; exact hlt)⟩
        obtain ⟨rfl, hb1⟩ := HA.out (by omega)
        obtain ⟨rfl, hb2⟩ := HA'.out (by omega)
        have hcx := cells3 Hc.out hx
        have hcy := cells3 Hc'.out hy
        rw [← hkp.cell hb1 (fun h => h), ← hkp.cell hb1 (fun h => h), ← hkp.cell hb1 (fun h => h)] at hcx
        rw [← hkp.cell hb2 (fun h => h), ← hkp.cell hb2 (fun h => h), ← hkp.cell hb2 (fun h => h)] at hcy
        have Hx := Lib.hid hx
        have Hy := Lib.hid hy
        clear hx hy
        have hq : ∀ w, (Op.equalIn 10000 41 (.agg #[.int .i64 x.kind, .int .i64 x.a, .int .i64 x.b]) (.agg #[.int .i64 y.kind, .int .i64 y.a, .int .i64 y.b])).run Try.prog w = .ok (decide (x = y)) w := equalSt x y
        have hgu := guardSt
        by_cases hxy : x = y
        · rw [decide_eq_true hxy] at hq
          have Hxy := Lib.hid hxy
          clear hxy
          go_wp2_with fail
          go_quiet (fail)
          go_wp2_with fail
          refine ⟨⟨k + 1, by omega, by go_num, hkp.drewN _, fun j hj => ?_⟩, by simp [intOf]; omega⟩
          by_cases e : j = k
          · subst e; rw [Hx.out, Hy.out, Hxy.out]
          · exact hall.out j (by omega)
        · rw [decide_eq_false hxy] at hq
          have Hne : Hid (xs ≠ ys) := fun e => by
            have h1 := Hx.out
            rw [e, Hy.out] at h1
            simp at h1
            exact hxy h1.symm
          clear hxy
          go_wp2_with fail
          go_quiet (fail)
          go_wp2_with fail
          go_ret
          exact SamePost.no Hne.out (hkp.drewN _)
      · obtain rfl : k = n := by omega
        have Heq : Hid (xs = ys) := Hext.out (fun j hj => hall.out j (by rw [hnx.out] at hj; exact hj))
        go_wp2_with fail
        go_ret
        exact SamePost.yes Heq.out hkp
  · have hne : ((xs.length : Int) != ys.length) = true := by
      rw [bne_iff_ne]; omega
    have Hne : Hid (xs ≠ ys) := fun e => hlen (by rw [e])
    clear hlen
    go_enter Try.func20, Try.ntmps20
    go_wp2_with fail
    go_ret
    exact SamePost.no Hne.out (Keeps.refl _ _)

theorem Own.src {w : World} {e : TypeId} {s n : Nat} {v : Value} {xs : List Value} (h : Own w e s v n xs) : ∃ (A : Option Addr) (b c : Nat), v = .slice A n c ∧ (0 < n → A = some ⟨b, 0, none⟩) ∧ ∀ j u, xs[j]? = some u → w.cell? ⟨b, 0 + j, none⟩ = some u := by
  rcases Own.form h with ⟨rfl, rfl⟩ | ⟨g, c, rfl, _⟩
  · refine ⟨none, 0, 0, rfl, fun h => by omega, fun j u hj => ?_⟩
    have := h.1
    rw [Nat.zero_mul] at this
    rw [List.eq_nil_of_length_eq_zero this] at hj
    simp at hj
  · refine ⟨_, g, c, rfl, fun _ => rfl, fun j u hj => ?_⟩
    rw [Nat.zero_add, World.ownsRow.cellAt h j (by rw [← h.1]; exact (List.getElem?_eq_some_iff.1 hj).1)]
    exact hj

/-- The entries, with the round r behind each m of them. -/
def fillL (xs r : List St) (m : Nat) : Nat → List St
  | 0 => []
  | k + 1 => fillL xs r m k ++ (xs[k]?).toList ++ (if (k + 1) % m = 0 then r else [])
theorem fillL_succ (xs r : List St) (m k : Nat) (x : St) (hx : xs[k]? = some x) : fillL xs r m (k + 1) = fillL xs r m k ++ [x] ++ (if (k + 1) % m = 0 then r else []) := by simp [fillL, hx]
theorem fillL_le (xs r : List St) (m : Nat) : ∀ k, (fillL xs r m k).length ≤ k * (1 + r.length)
  | 0 => by simp [fillL]
  | k + 1 => by
    have ih := fillL_le xs r m k
    have h1 : (xs[k]?).toList.length ≤ 1 := by cases xs[k]? <;> simp
    have h2 : (if (k + 1) % m = 0 then r else []).length ≤ r.length := by split <;> simp
    simp only [fillL, List.length_append]
    rw [Nat.add_mul]
    omega

def FillRel (w1 : World) (xs r : List St) (m n : Nat) (v i : Value) (wr : World) : Prop :=
  ∃ (k l : Nat) (A : Option Addr) (c : Nat), k ≤ n ∧ i = .int .i64 k ∧ v = .slice A l c ∧ l ≤ k * 65 ∧ Hid ((fillL xs r m k).length = l) ∧ Hid (Mine w1 wr 41 3 (.slice A l c) l ((fillL xs r m k).flatMap encS))

set_option maxHeartbeats 2000000 in
theorem fill_calls (v : Value) (xs : List St) (P W : Nat) (w : World) (h : Rd encS 3 w v xs) (hl : xs.length ≤ 1000000) (hP : 1 ≤ P) (hP2 : P ≤ 64) (hW : 2 * P ≤ W) (hW2 : W ≤ 65536) (out : List St) (hout : fillL xs (roundsL P 1) (W + 1 - 2 * P) xs.length ++ roundsL P 1 = out) :
    Calls Try.prog 30 #[v, .int .i64 P, .int .i64 W] w fun e w' => ∃ A c, e = .returned (.tuple #[.slice A out.length c, .int .i64 0]) ∧ Mine w w' 41 3 (.slice A out.length c) out.length (out.flatMap encS) := by
  have h1 := Lib.hid (fun Wd => within_calls P 1 64 Wd true (by rw [decide_eq_true (by omega), decide_eq_true (by omega)]; rfl))
  have h2 := Lib.hid (fun Wd => within_calls W (2 * (P : Int)) 65536 Wd true (by rw [decide_eq_true (by omega), decide_eq_true (by omega)]; rfl))
  have hr := Lib.hid (fun Wd => rounds_calls P 1 hP hP2 (by omega) Wd)
  obtain ⟨m, hm⟩ : ∃ m : Nat, (W : Int) + 1 - 2 * P = m := ⟨W + 1 - 2 * P, by omega⟩
  have hm1 : 1 ≤ m := by omega
  rw [show W + 1 - 2 * P = m by omega] at hout
  have hrl := roundsL_len P 1
  rw [Nat.one_mul] at hrl
  have HR := Lib.hid h
  obtain ⟨A, b, off, cap, rfl, hA, hc⟩ := h
  obtain ⟨n, hn⟩ : ∃ n, Hid (xs.length = n) := ⟨_, rfl⟩
  have Hc := Lib.hid hc
  have HA := Lib.hid hA
  rw [hn.out] at hl HA hout ⊢
  clear hc hA
  obtain ⟨r, hrr⟩ : ∃ r, r = roundsL P 1 := ⟨_, rfl⟩
  rw [← hrr] at hr hout hrl
  have hbr : (r.flatMap encS).length = P * 3 := by rw [flat_len encS 3 encS_len, hrl]
  have Hbr := Lib.hid hbr
  have Hrl := Lib.hid hrl
  have Hout := Lib.hid hout
  clear hrr hrl hbr hout
  go_enter Try.func30, Try.ntmps30
  go_wp2_with fail
  refine (h1.out _).mono ?_
  rintro e w' ⟨rfl, rfl⟩
  go_wp2_with fail
  refine (h2.out _).mono ?_
  rintro e w' ⟨rfl, rfl⟩
  go_wp2_with fail
  refine (hr.out _).mono ?_
  rintro e w1 ⟨Ar, cr, rfl, Mr⟩
  rw [Hrl.out] at Mr ⊢
  obtain ⟨Ar', br, cr', hv, hAr, hcr⟩ := Own.src Mr.own
  simp only [Value.slice.injEq, true_and] at hv
  obtain ⟨rfl, rfl⟩ := hv
  have HMr := Lib.hid Mr
  have HcR := Lib.hid hcr
  clear Mr hcr
  go_wp2_with fail
  go_loopw [10, 32] (fun v i wr => FillRel w1 xs r m n v i wr) (fun _ i _ => n - (intOf i).toNat)
  case atStart => exact ⟨0, 0, none, 0, Nat.zero_le _, rfl, rfl, by omega, rfl, Mine.nil _ _ _⟩
  case round =>
    obtain ⟨k, l, A1, c1, hk, rfl, rfl, hlk, Hlen, HM⟩ := hrel
    by_cases hlt : k < n
    · obtain ⟨x, hx⟩ : ∃ x, xs[k]? = some x := ⟨_, List.getElem?_eq_getElem (by rw [hn.out]; exact hlt)⟩
      obtain ⟨rfl, hb1⟩ := HA.out (by omega)
      have hcx := cells3 Hc.out hx
      have KW : Keeps NoBlock w wr := HMr.out.kp.trans HM.out.kp (fun _ _ h => h)
      rw [← KW.cell hb1 (fun h => h), ← KW.cell hb1 (fun h => h), ← KW.cell hb1 (fun h => h)] at hcx
      have hf := fillL_succ xs r m k x hx
      have hbr : b < wr.heap.size := Nat.lt_of_lt_of_le hb1 KW.size
      clear hx KW
      obtain ⟨kd, ea, eb⟩ := x
      dsimp only at hcx
      go_wp2_with (at_builtin; refine wpList_appN eS _ rfl _ _ rfl (.slice A1 l c1) l _ rfl (World.ownsRow.alloc (World.ownsRow.alloc HM.out.own _) _) ⟨wr.heap.size + 1, 0, none⟩ 1 1 [.int .i64 kd, .int .i64 ea, .int .i64 eb] rfl rfl (newsB (e := 41) (blk_new (by simp))) ?_ ?_ ?_ ?_)
      · simp [Value.oneCell']
      · simp only [maxLen]; omega
      · omega
      rintro v4 w4 ho4 hg4 hf4 g4 c4 rfl
      have M4 := Lib.hid (HM.out.grow (((Keeps.refl _ wr).alloc _).alloc _) ho4 hg4 hf4 (by omega))
      clear ho4 hg4 hf4
      have hm0 : ((m : Int) == 0) = false := by rw [beq_eq_false_iff_ne]; omega
      have hcast : ((k : Int) + 1) % (m : Int) = (((k + 1) % m : Nat) : Int) := by rw [Int.natCast_emod, Int.natCast_add]; rfl
      by_cases hz : (k + 1) % m = 0
      · have hz' : (((k : Int) + 1) % (m : Int) == 0) = true := by rw [hcast, hz]; rfl
        rw [if_pos hz] at hf
        have Hf := Lib.hid hf
        clear hf hz hcast
        have HCR : Hid (∀ j u, (r.flatMap encS)[j]? = some u → w4.cell? ⟨br, 0 + j, none⟩ = some u) := fun j u hj => by
          have h0 := HcR.out j u hj
          rw [← h0]
          exact M4.out.kp.cell (HMr.out.lt br (by rw [hAr (by omega)]; rfl)) (fun h => h)
        go_wp2_with (at_builtin; refine wpList_appX eS _ rfl _ _ rfl (.slice (some ⟨g4, 0, none⟩) (l + 1) c4) (l + 1) _ rfl M4.out.own Ar br 0 P cr (r.flatMap encS) rfl hAr Hbr.out HCR.out (encS_one r) ?_ ?_ ?_)
        · simp only [maxLen]; omega
        · omega
        rintro v5 w5 ho5 hg5 hf5 hg6
        obtain ⟨g5, c5, rfl⟩ := hg6 (by omega)
        have M5 := Lib.hid (M4.out.grow (Keeps.refl _ w4) ho5 hg5 hf5 (Nat.le_refl _))
        clear ho5 hg5 hf5 hg6
        go_wp2_with fail
        refine ⟨⟨k + 1, l + 1 + P, some ⟨g5, 0, none⟩, c5, by omega, by go_num, rfl, by omega, ?_, ?_⟩, by simp [intOf]; omega⟩
        · show _ = _; rw [Hf.out, List.length_append, List.length_append, Hlen.out, Hrl.out]; rfl
        · show Mine _ _ _ _ _ _ _; rw [Hf.out, List.flatMap_append, List.flatMap_append, List.append_assoc]; exact M5.out
      · have hz' : (((k : Int) + 1) % (m : Int) == 0) = false := by rw [hcast, beq_eq_false_iff_ne]; omega
        rw [if_neg hz, List.append_nil] at hf
        have Hf := Lib.hid hf
        clear hf hz hcast
        go_wp2_with fail
        refine ⟨⟨k + 1, l + 1, some ⟨g4, 0, none⟩, c4, by omega, by go_num, rfl, by omega, ?_, ?_⟩, by simp [intOf]; omega⟩
        · show _ = _; rw [Hf.out, List.length_append, Hlen.out]; rfl
        · show Mine _ _ _ _ _ _ _; rw [Hf.out, List.flatMap_append]; exact M4.out
    · obtain rfl : k = n := by omega
      have hlo : Hid (l + P = out.length) := by show _ = _; rw [← Hout.out, List.length_append, Hlen.out, Hrl.out]
      have hA2 : 0 < P → Ar = some ⟨br, 0, none⟩ := hAr
      have HcR2 : ∀ j u, (r.flatMap encS)[j]? = some u → wr.cell? ⟨br, 0 + j, none⟩ = some u := fun j u hj => by
        have h0 := HcR.out j u hj
        rw [← h0]
        exact HM.out.kp.cell (HMr.out.lt br (by rw [hA2 hP]; rfl)) (fun h => h)
      have HCR := Lib.hid HcR2
      clear HcR2
      go_wp2_with (at_builtin; refine wpList_appX eS _ rfl _ _ rfl (.slice A1 l c1) l _ rfl HM.out.own Ar br 0 P cr (r.flatMap encS) rfl hA2 Hbr.out HCR.out (encS_one r) ?_ ?_ ?_)
      · simp only [maxLen]; omega
      · omega
      rintro v4 w4 ho4 hg4 hf4 hg5
      obtain ⟨g4, c4, rfl⟩ := hg5 (by omega)
      have M4 := Lib.hid ((HM.out.grow (Keeps.refl _ wr) ho4 hg4 hf4 (Nat.le_refl _)).back HMr.out.kp)
      clear ho4 hg4 hf4 hg5
      go_wp2_with fail
      refine bodyPost_ret (v := .tuple #[.slice (some ⟨g4, 0, none⟩) (l + P) c4, .int .i64 0]) (by simp [results, Try.results30, go_sem]) rfl ?_
      refine ⟨some ⟨g4, 0, none⟩, c4, by rw [← hlo.out], ?_⟩
      rw [← hlo.out, ← Hout.out, List.flatMap_append]
      exact M4.out

abbrev stT : St := ⟨2, 0, 0⟩
abbrev stS : St := ⟨6, 0, 0⟩
abbrev stP (p : Int) : St := ⟨1, p, 0⟩
def l7 : List St := [stT, stT, stP 0, stP 1, stS, stP 0, stP 1]
theorem l7_fill : fillL [stT, stT, stS] (roundsL 2 1) (5 + 1 - 2 * 2) 3 ++ roundsL 2 1 = l7 := by decide
theorem l7_win : winB l7 2 5 = true := by decide
theorem l7_win2 : winB [stT, stT] 2 2 = false := by decide
theorem l7_shares : sharesN l7 5 = 1 := by decide

set_option maxHeartbeats 2000000 in
set_option maxRecDepth 100000 in
theorem awake28_calls (w : World) : Calls Try.prog 19 #[] w fun e w' => e = .returned (.bool true) ∧ Keeps NoBlock w w' := by
  have hlit := Lib.hid (litS w [stT, stT, stS] (by decide))
  have hfill := Lib.hid (fun v W h => fill_calls v [stT, stT, stS] 2 5 W h (by decide) (by decide) (by decide) (by decide) (by decide) l7 l7_fill)
  have hwin := Lib.hid (fun v W h => l7_win ▸ windows_calls v l7 2 5 W h (by decide) (by decide) (by decide) (by decide) (by decide))
  have hwin2 := Lib.hid (fun v W h => l7_win2 ▸ windows_calls v [stT, stT] 2 2 W h (by decide) (by decide) (by decide) (by decide) (by decide))
  have hsh := Lib.hid (fun v W h => l7_shares ▸ shares_calls v l7 5 W h (by decide) (by decide))
  have hro := Lib.hid (fun W => rounds_calls 3 2 (by decide) (by decide) (by decide) W)
  have hmi := Lib.hid (fun W => mix_calls 1 2 1 9 (by decide) (by decide) (by decide) (by decide) (by decide) W)
  go_enter Try.func19, Try.ntmps19
  go_wp2_with fail
  refine (hfill.out _ _ hlit.out).mono ?_
  rintro e w1 ⟨A, c, rfl, M1⟩
  rw [show l7.length = 7 from rfl] at M1 ⊢
  have K1 := Lib.hid ((Keeps.refl NoBlock w).alloc (.cells ([stT, stT, stS].flatMap encS).toArray 41) |>.trans M1.kp (fun _ _ h => h))
  rcases Own.form M1.own with ⟨h, _⟩ | ⟨g, c', h, hg, hcap, _⟩
  · cases h
  cases h
  have R1 := Lib.hid (Own.rd (xs := l7) encS_len M1.own)
  have R2 : Hid (Rd encS 3 w1 (.slice (some ⟨g, 0, none⟩) 2 c) [stT, stT]) := by
    obtain ⟨A', b, off, c', hv, hA, hc⟩ := R1.out
    have hA0 := (hA (by decide)).1
    rw [hA0] at hv
    simp only [Value.slice.injEq, Option.some.injEq, Addr.mk.injEq, and_true] at hv
    have h := Rd.part hA hc (some ⟨g, 0, none⟩) 0 2 c (by decide) (fun _ => by rw [Nat.zero_mul, Nat.add_zero, hv.1.1, hv.1.2])
    exact h
  have hcell := ownS_cells (xs := l7) (k := 2) (x := stP 0) rfl M1.own rfl
  dsimp only at hcell
  have hs2 := run_slice_to eS (some ⟨g, 0, none⟩) 7 c 2 (by omega)
  have heq : ∀ w, (Op.equalIn 10000 41 (.agg #[.int .i64 1, .int .i64 0, .int .i64 0]) (.agg #[.int .i64 1, .int .i64 0, .int .i64 0])).run Try.prog w = .ok true w := fun w => by rw [equalSt ⟨1, 0, 0⟩ ⟨1, 0, 0⟩ w, decide_eq_true rfl]
  have hgu := guardSt
  have hs3 : Hid _ := hs2
  clear M1 hlit hfill
  go_wp2_with fail
  refine (hwin.out _ _ R1.out).mono ?_
  rintro e w2 ⟨rfl, k2⟩
  have K2 := Lib.hid k2
  clear k2 hcell heq hgu
  have hs2 := hs3.out
  go_wp2_with fail
  refine (hwin2.out _ _ (R2.out.keeps K2.out (fun _ _ h => h))).mono ?_
  rintro e w3 ⟨rfl, k3⟩
  have K3 := Lib.hid (K2.out.trans k3 (fun _ _ h => h))
  clear k3 hs2
  go_wp2_with fail
  refine (hsh.out _ _ (R1.out.keeps K3.out (fun _ _ h => h))).mono ?_
  rintro e w4 ⟨rfl, k4⟩
  have K4 := Lib.hid (K3.out.trans k4 (fun _ _ h => h))
  clear k4
  go_wp2_with fail
  refine (hro.out _).mono ?_
  rintro e w5 ⟨A5, c5, rfl, M5⟩
  have K5 := Lib.hid (K4.out.trans M5.kp (fun _ _ h => h))
  rw [show (roundsL 3 2).length = 6 from rfl]
  clear M5
  go_wp2_with fail
  refine (hmi.out _).mono ?_
  rintro e w6 ⟨A6, c6, rfl, M6⟩
  have K6 := Lib.hid (K5.out.trans M6.kp (fun _ _ h => h))
  rw [mixL_len]
  clear M6
  go_wp2_with fail
  go_ret
  exact ⟨rfl, K1.out.trans K6.out (fun _ _ h => h)⟩
end Sd
end Go.Proofs.Ytlnfjjbfdbcgbaa
