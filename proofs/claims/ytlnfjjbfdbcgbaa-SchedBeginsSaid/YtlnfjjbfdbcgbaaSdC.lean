/- Package sched: how often processors are shared out; whether each processor takes a step. -/
import Derived.Test.YtlnfjjbfdbcgbaaSdB
import Derived.Lib.MinMax
import Derived.Deep.DeepCutAuto
import Derived.Deep.CutBlock
namespace Go.Proofs.Ytlnfjjbfdbcgbaa
open Go.RowKit
namespace Sd

/-- The greatest of g 0 .. g (k - 1), or 0. -/
def maxN (g : Nat → Nat) : Nat → Nat
  | 0 => 0
  | k + 1 => max (maxN g k) (g k)
theorem le_maxN (g : Nat → Nat) : ∀ (k j : Nat), j < k → g j ≤ maxN g k
  | k + 1, j, h => by
    unfold maxN
    by_cases e : j = k
    · subst e; omega
    · have := le_maxN g k j (by omega); omega
theorem maxN_le (g : Nat → Nat) (m : Nat) : ∀ (k : Nat), (∀ j, j < k → g j ≤ m) → maxN g k ≤ m
  | 0, _ => Nat.zero_le _
  | k + 1, h => by
    unfold maxN
    have h1 := maxN_le g m k (fun j hj => h j (by omega))
    have h2 := h k (by omega)
    omega
theorem maxN_bound (g : Nat → Nat) (m k : Nat) (h : ∀ j, g j ≤ m) : maxN g k ≤ m := maxN_le g m k (fun j _ => h j)

def shareB (x : St) : Bool := x.kind == 6
/-- How many of the first k entries share processors out. -/
def sh (xs : List St) (k : Nat) : Nat := ((xs.take k).filter shareB).length
theorem filter_take {α : Type} (p : α → Bool) (xs : List α) (k : Nat) (x : α) (hx : xs[k]? = some x) : (xs.take (k + 1)).filter p = (xs.take k).filter p ++ (if p x then [x] else []) := by
  have hk := (List.getElem?_eq_some_iff.1 hx).1
  have : xs[k] = x := (List.getElem?_eq_some_iff.1 hx).2
  rw [List.take_succ_eq_append_getElem hk, List.filter_append, this]
  congr 1
  cases h : p x <;> simp [h]
theorem sh_succ (xs : List St) (k : Nat) (x : St) (hx : xs[k]? = some x) : sh xs (k + 1) = sh xs k + (if shareB x then 1 else 0) := by
  unfold sh
  rw [filter_take _ xs k x hx, List.length_append]
  split <;> rfl
theorem sh_le (xs : List St) (k : Nat) : sh xs k ≤ k := by
  unfold sh
  have h1 := List.length_filter_le shareB (xs.take k)
  have h2 := List.length_take_le k xs
  omega
theorem sh_mono1 (xs : List St) (k : Nat) : sh xs k ≤ sh xs (k + 1) := by
  by_cases h : k < xs.length
  · have := sh_succ xs k _ (List.getElem?_eq_getElem h); omega
  · unfold sh; rw [List.take_of_length_le (by omega), List.take_of_length_le (by omega)]; exact Nat.le_refl _
theorem sh_mono (xs : List St) {j k : Nat} (h : j ≤ k) : sh xs j ≤ sh xs k := by
  induction h with
  | refl => exact Nat.le_refl _
  | step _ ih => exact Nat.le_trans ih (sh_mono1 xs _)

/-- How many in the window of W entries that ends behind k. -/
def nowAt (xs : List St) (W k : Nat) : Nat := sh xs k - sh xs (k - W)
theorem nowAt_le (xs : List St) (W k : Nat) : nowAt xs W k ≤ k := by have := sh_le xs k; unfold nowAt; omega
def sharesN (xs : List St) (W : Nat) : Nat := maxN (fun j => nowAt xs W (j + 1)) xs.length

def SharesRel (w : World) (xs : List St) (W n : Nat) (a b i : Value) (wr : World) : Prop :=
  ∃ k na bs : Nat, k ≤ n ∧ i = .int .i64 k ∧ a = .int .i64 na ∧ b = .int .i64 bs ∧ na ≤ k ∧ bs ≤ k ∧ Hid (na = nowAt xs W k) ∧ Hid (bs = maxN (fun j => nowAt xs W (j + 1)) k) ∧ Hid (Keeps NoBlock w wr)

set_option maxHeartbeats 2000000 in
theorem shares_calls (v : Value) (xs : List St) (wi : Int) (w : World) (h : Rd encS 3 w v xs) (hl : xs.length ≤ 1000000000000000) (hw : 1 ≤ wi) :
    Calls Try.prog 23 #[v, .int .i64 wi] w fun e w' => e = .returned (.int .i64 (sharesN xs wi.toNat)) ∧ Keeps NoBlock w w' := by
  obtain ⟨W, rfl⟩ : ∃ W : Nat, wi = W := ⟨wi.toNat, by omega⟩
  rw [Int.toNat_natCast]
  obtain ⟨A, b, off, cap, rfl, hA, hc⟩ := h
  obtain ⟨n, hn⟩ : ∃ n, Hid (xs.length = n) := ⟨_, rfl⟩
  have Hc := Lib.hid hc
  have HA := Lib.hid hA
  have hW1 : 1 ≤ W := by omega
  rw [hn.out] at hl HA ⊢
  clear hc hA
  go_enter Try.func23, Try.ntmps23
  go_wp2_with fail
  go_loopw [5, 6, 13] (fun a b i wr => SharesRel w xs W n a b i wr) (fun _ _ i _ => n - (intOf i).toNat)
  case atStart => exact ⟨0, 0, 0, Nat.zero_le _, rfl, rfl, rfl, Nat.le_refl _, Nat.le_refl _, by show _ = _; simp [nowAt, sh], rfl, Keeps.refl _ _⟩
  case round =>
    obtain ⟨k, na, bs, hk, rfl, rfl, rfl, hna, hbs, hnow, hbest, HK⟩ := hrel
    by_cases hlt : k < n
    · obtain ⟨x, hx⟩ : ∃ x, xs[k]? = some x := ⟨_, List.getElem?_eq_getElem (by rw [hn.out]; exact hlt)⟩
      obtain ⟨rfl, hb1⟩ := HA.out (by omega)
      have hcx := cells3 Hc.out hx
      rw [← HK.out.cell hb1 (fun h => h), ← HK.out.cell hb1 (fun h => h), ← HK.out.cell hb1 (fun h => h)] at hcx
      have hbr : b < wr.heap.size := Nat.lt_of_lt_of_le hb1 HK.out.size
      have hs1 := sh_succ xs k x hx
      have hm1 := sh_mono xs (show k - W ≤ k by omega)
      have hm2 := sh_mono xs (show k + 1 - W ≤ k + 1 by omega)
      have hK' : Hid (Keeps NoBlock w (wr.alloc (.cells #[.int .i64 x.kind, .int .i64 x.a, .int .i64 x.b] 41))) := HK.out.alloc _
      have hnow' := hnow.out
      unfold nowAt at hnow'
      by_cases hWk : W ≤ k
      · obtain ⟨ix, hix⟩ : ∃ ix : Nat, (k : Int) - W = ix := ⟨k - W, by omega⟩
        have hixk : ix = k - W := by omega
        have hixn : ix < n := by omega
        obtain ⟨y, hy⟩ : ∃ y, xs[ix]? = some y := ⟨_, List.getElem?_eq_getElem (by rw [hn.out]; omega)⟩
        have hcy := (cells3 Hc.out hy).1
        rw [← HK.out.cell hb1 (fun h => h)] at hcy
        have hs2 := sh_succ xs ix y hy
        have e1 : k + 1 - W = ix + 1 := by omega
        have e2 : k - W = ix := by omega
        rw [e1] at hm2
        rw [e2] at hm1 hnow'
        have hnew : nowAt xs W (k + 1) = na + (if shareB x then 1 else 0) - (if shareB y then 1 else 0) ∧ (if shareB y then 1 else 0) ≤ na + (if shareB x then 1 else 0) := by
          unfold nowAt
          rw [e1, hs1, hs2]
          rw [hs1, hs2] at hm2
          omega
        obtain ⟨hnew1, hnew2⟩ := hnew
        clear hx hy hs1 hs2 hm1 hm2 hnow' e1 e2 hixk
        have Hn1 := hnew1
        cases hsx : shareB x with
        | true =>
          have b1 : (x.kind == 6) = true := hsx
          cases hsy : shareB y with
          | true =>
            have b2 : (y.kind == 6) = true := hsy
            simp only [hsx, hsy, if_true] at hnew1 hnew2
            have hfin : Hid (na = nowAt xs W (k + 1)) := by show _ = _; omega
            clear Hn1 hnew1 hnew2 hsx hsy
            go_wp2_with fail
            exact ⟨⟨k + 1, na, max bs (na), by omega, by go_num, by go_num, by go_num, by omega, by omega, hfin.out, by show _ = _; rw [hbest.out, hfin.out]; rfl, hK'.out⟩, by simp [intOf]; omega⟩
          | false =>
            have b2 : (y.kind == 6) = false := hsy
            simp only [hsx, hsy, if_true, Bool.false_eq_true, if_false] at hnew1 hnew2
            have hfin : Hid (na + 1 = nowAt xs W (k + 1)) := by show _ = _; omega
            clear Hn1 hnew1 hnew2 hsx hsy
            go_wp2_with fail
            exact ⟨⟨k + 1, na + 1, max bs (na + 1), by omega, by go_num, by go_num, by go_num, by omega, by omega, hfin.out, by show _ = _; rw [hbest.out, hfin.out]; rfl, hK'.out⟩, by simp [intOf]; omega⟩
        | false =>
          have b1 : (x.kind == 6) = false := hsx
          cases hsy : shareB y with
          | true =>
            have b2 : (y.kind == 6) = true := hsy
            simp only [hsx, hsy, if_true, Bool.false_eq_true, if_false] at hnew1 hnew2
            obtain ⟨nb, rfl⟩ : ∃ nb, na = nb + 1 := ⟨na - 1, by omega⟩
            have hfin : Hid (nb = nowAt xs W (k + 1)) := by show _ = _; omega
            clear Hn1 hnew1 hnew2 hsx hsy
            go_wp2_with fail
            exact ⟨⟨k + 1, nb, max bs (nb), by omega, by go_num, by go_num, by go_num, by omega, by omega, hfin.out, by show _ = _; rw [hbest.out, hfin.out]; rfl, hK'.out⟩, by simp [intOf]; omega⟩
          | false =>
            have b2 : (y.kind == 6) = false := hsy
            simp only [hsx, hsy, Bool.false_eq_true, if_false] at hnew1 hnew2
            have hfin : Hid (na = nowAt xs W (k + 1)) := by show _ = _; omega
            clear Hn1 hnew1 hnew2 hsx hsy
            go_wp2_with fail
            exact ⟨⟨k + 1, na, max bs (na), by omega, by go_num, by go_num, by go_num, by omega, by omega, hfin.out, by show _ = _; rw [hbest.out, hfin.out]; rfl, hK'.out⟩, by simp [intOf]; omega⟩
      · have hWk' : k < W := by omega
        have e1 : k + 1 - W = 0 := by omega
        have e2 : k - W = 0 := by omega
        have h0 : sh xs 0 = 0 := by simp [sh]
        rw [e2, h0] at hnow'
        have hnew1 : nowAt xs W (k + 1) = na + (if shareB x then 1 else 0) := by unfold nowAt; rw [e1, h0, hs1]; omega
        clear hx hs1 hm1 hm2 hnow' e1 e2 h0 hWk
        cases hsx : shareB x with
        | true =>
            have b1 : (x.kind == 6) = true := hsx
            simp only [hsx, if_true] at hnew1
            have hfin : Hid (na + 1 = nowAt xs W (k + 1)) := by show _ = _; omega
            clear hnew1 hsx
            go_wp2_with fail
            exact ⟨⟨k + 1, na + 1, max bs (na + 1), by omega, by go_num, by go_num, by go_num, by omega, by omega, hfin.out, by show _ = _; rw [hbest.out, hfin.out]; rfl, hK'.out⟩, by simp [intOf]; omega⟩
        | false =>
            have b1 : (x.kind == 6) = false := hsx
            simp only [hsx, Bool.false_eq_true, if_false] at hnew1
            have hfin : Hid (na = nowAt xs W (k + 1)) := by show _ = _; omega
            clear hnew1 hsx
            go_wp2_with fail
            exact ⟨⟨k + 1, na, max bs (na), by omega, by go_num, by go_num, by go_num, by omega, by omega, hfin.out, by show _ = _; rw [hbest.out, hfin.out]; rfl, hK'.out⟩, by simp [intOf]; omega⟩
    · obtain rfl : k = n := by omega
      have hfin : Hid (sharesN xs W = bs) := by show _ = _; rw [hbest.out, sharesN, hn.out]
      go_wp2_with fail
      go_ret
      exact ⟨by rw [hfin.out]; rfl, HK.out⟩

theorem shares_low (v : Value) (wi : Int) (w : World) (hw : wi < 1) : Calls Try.prog 23 #[v, .int .i64 wi] w fun e w' => e = .returned (.int .i64 0) ∧ Keeps NoBlock w w' := by
  go_enter Try.func23, Try.ntmps23
  go_wp2
  go_ret
  exact ⟨rfl, Keeps.refl _ _⟩

def stepB (p : Nat) (x : St) : Bool := x.kind == 1 && x.a == (p : Int)
/-- Behind which entry a processor stepped last, of the first k; 0: behind none. -/
def lastAt (xs : List St) (p : Nat) : Nat → Nat
  | 0 => 0
  | k + 1 => match xs[k]? with
    | some x => if stepB p x then k + 1 else lastAt xs p k
    | none => lastAt xs p k
theorem lastAt_succ (xs : List St) (p k : Nat) (x : St) (hx : xs[k]? = some x) : lastAt xs p (k + 1) = if stepB p x then k + 1 else lastAt xs p k := by
  simp only [lastAt, hx]
theorem lastAt_le (xs : List St) (p : Nat) : ∀ k, lastAt xs p k ≤ k
  | 0 => Nat.le_refl _
  | k + 1 => by
    have := lastAt_le xs p k
    simp only [lastAt]
    split
    · split <;> omega
    · omega

/-- Where each stepped last. -/
def lastL (xs : List St) (P k : Nat) : List Int := (List.range P).map fun p => (lastAt xs p k : Int)
theorem lastL_len (xs : List St) (P k : Nat) : (lastL xs P k).length = P := by simp [lastL]
theorem lastL_get (xs : List St) (P k p : Nat) (hp : p < P) : (lastL xs P k)[p]? = some (lastAt xs p k : Int) := by simp [lastL, hp]
theorem lastL_zero (xs : List St) (P : Nat) : lastL xs P 0 = List.replicate P 0 := by
  apply List.ext_getElem?
  intro j
  by_cases h : j < P
  · rw [lastL_get xs P 0 j h, List.getElem?_replicate, if_pos h]; rfl
  · rw [List.getElem?_eq_none (by rw [lastL_len]; omega), List.getElem?_eq_none (by simp; omega)]

theorem lastL_hit (xs : List St) (P k a : Nat) (x : St) (hx : xs[k]? = some x) (hk : (x.kind == 1) = true) (ha : x.a = a) : (lastL xs P k).set a ((k : Int) + 1) = lastL xs P (k + 1) := by
  apply List.ext_getElem?
  intro j
  rw [List.getElem?_set]
  by_cases h : j < P
  · rw [lastL_get xs P (k + 1) j h, lastAt_succ xs j k x hx]
    by_cases e : a = j
    · subst e
      rw [if_pos rfl, if_pos (by rw [lastL_len]; exact h)]
      simp [stepB, hk, ha]
    · rw [if_neg e, lastL_get xs P k j h]
      have : stepB j x = false := by
        unfold stepB
        rw [hk, ha]
        simp
        omega
      rw [this]; rfl
  · by_cases e : a = j
    · rw [if_pos e, if_neg (by rw [lastL_len]; omega), List.getElem?_eq_none (by rw [lastL_len]; omega)]
    · rw [if_neg e, List.getElem?_eq_none (by rw [lastL_len]; omega), List.getElem?_eq_none (by rw [lastL_len]; omega)]

theorem lastL_miss (xs : List St) (P k : Nat) (x : St) (hx : xs[k]? = some x) (hm : (x.kind == 1) = false ∨ x.a < 0 ∨ (P : Int) ≤ x.a) : lastL xs P k = lastL xs P (k + 1) := by
  apply List.ext_getElem?
  intro j
  by_cases h : j < P
  · rw [lastL_get xs P k j h, lastL_get xs P (k + 1) j h, lastAt_succ xs j k x hx]
    have : stepB j x = false := by
      unfold stepB
      rcases hm with h1 | h1
      · rw [h1]; rfl
      · have : (x.a == (j : Int)) = false := by rw [beq_eq_false_iff_ne]; omega
        rw [this]; simp
    rw [this]; rfl
  · rw [List.getElem?_eq_none (by rw [lastL_len]; omega), List.getElem?_eq_none (by rw [lastL_len]; omega)]

/-- Is the window of W entries that ends with entry k without a fault? -/
def okW (xs : List St) (P W k : Nat) : Bool := decide (k + 1 < W) || (List.range P).all fun p => decide (k + 1 - W < lastAt xs p (k + 1))
def winB (xs : List St) (P W : Nat) : Bool := (List.range xs.length).all fun k => okW xs P W k

def WinRel (w : World) (xs : List St) (P W n g : Nat) (i : Value) (wr : World) : Prop :=
  ∃ k : Nat, k ≤ n ∧ i = .int .i64 k ∧ Hid (Mine w wr 3 1 (.slice (some ⟨g, 0, none⟩) P P) P ((lastL xs P k).map (Value.int .i64))) ∧ Hid (∀ j, j < k → okW xs P W j = true)

theorem eInt : Elem Try.prog 23 3 (.int .i64 0) 1 8 := Elem.mk' (by kernel_rfl) (by kernel_rfl) rfl (by decide)

set_option maxHeartbeats 4000000 in
set_option maxRecDepth 100000 in
theorem windows_calls (v : Value) (xs : List St) (P W : Nat) (w : World) (h : Rd encS 3 w v xs) (hl : xs.length ≤ 1000000000000000) (hP : 1 ≤ P) (hP2 : P ≤ 64) (hW : 1 ≤ W) (hW2 : W ≤ 65536) :
    Calls Try.prog 22 #[v, .int .i64 P, .int .i64 W] w fun e w' => e = .returned (.bool (winB xs P W)) ∧ Keeps NoBlock w w' := by
  have h1 := Lib.hid (fun Wd => within_calls P 1 64 Wd true (by rw [decide_eq_true (by omega), decide_eq_true (by omega)]; rfl))
  have h2 := Lib.hid (fun Wd => within_calls W 1 65536 Wd true (by rw [decide_eq_true (by omega), decide_eq_true (by omega)]; rfl))
  obtain ⟨A, b, off, cap, rfl, hA, hc⟩ := h
  obtain ⟨n, hn⟩ : ∃ n, Hid (xs.length = n) := ⟨_, rfl⟩
  have Hc := Lib.hid hc
  have HA := Lib.hid hA
  rw [hn.out] at hl HA ⊢
  clear hc hA
  have hmk := run_mk eInt P (by omega) (by decide) w
  have M0 : Hid (Mine w (w.alloc (.cells (madeCells (Value.int .i64 0).cells (P * 1)) 3)) 3 1 (.slice (some ⟨w.heap.size, 0, none⟩) P P) P ((lastL xs P 0).map (Value.int .i64))) := by
    refine ⟨?_, fun k hk => by simp only [Value.ownBlock, Option.some.injEq] at hk; omega, (Keeps.refl _ _).alloc _⟩
    rw [lastL_zero, List.map_replicate, Nat.mul_one]
    exact own_made (.int .i64 0) P (by omega) rfl
  go_enter Try.func22, Try.ntmps22
  go_wp2_with fail
  refine (h1.out _).mono ?_
  rintro e w' ⟨rfl, rfl⟩
  go_wp2_with fail
  refine (h2.out _).mono ?_
  rintro e w' ⟨rfl, rfl⟩
  go_wp2_with fail
  go_loopw [24] (fun i wr => WinRel w xs P W n w.heap.size i wr) (fun i _ => n - (intOf i).toNat)
  case atStart => exact ⟨0, Nat.zero_le _, rfl, by have h := M0.out; rw [Nat.mul_one] at h; exact h, fun j hj => by omega⟩
  case round =>
    obtain ⟨k, hk, rfl, HM, Hok⟩ := hrel
    clear M0 hmk
    by_cases hlt : k < n
    · obtain ⟨x, hx⟩ : ∃ x, xs[k]? = some x := ⟨_, List.getElem?_eq_getElem (by rw [hn.out]; exact hlt)⟩
      obtain ⟨rfl, hb1⟩ := HA.out (by omega)
      have hcx := cells3 Hc.out hx
      rw [← HM.out.kp.cell hb1 (fun h => h), ← HM.out.kp.cell hb1 (fun h => h), ← HM.out.kp.cell hb1 (fun h => h)] at hcx
      have Hx := Lib.hid hx
      obtain ⟨w5, hw5⟩ : ∃ w5, w5 = wr.alloc (.cells #[.int .i64 x.kind, .int .i64 x.a, .int .i64 x.b] 41) := ⟨_, rfl⟩
      have M5 : Hid (Mine w w5 3 1 (.slice (some ⟨w.heap.size, 0, none⟩) P P) P ((lastL xs P k).map (Value.int .i64))) := by
        show Mine _ _ _ _ _ _ _
        rw [hw5]; exact HM.out.keeps ((Keeps.refl _ wr).alloc _)
      have B5 : Hid (w5.heap[wr.heap.size]? = some (.cells #[.int .i64 x.kind, .int .i64 x.a, .int .i64 x.b] 41 (0, 0))) := by show _ = _; rw [hw5]; exact block_alloc_new _ _
      have zr : w.heap.size < wr.heap.size := HM.out.lt w.heap.size rfl
      have HK : Hid (Keeps NoBlock w wr) := HM.out.kp
      clear hx HM
      obtain ⟨kd, a, bb⟩ := x
      dsimp only at hcx B5 hw5
      obtain ⟨hb, hhb⟩ : ∃ hb : Bool, hb = (kd == 1 && (decide (0 ≤ a) && decide (a ≤ (P : Int) - 1))) := ⟨_, rfl⟩
      have Hhb := Lib.hid hhb
      clear hhb
      go_upto_region 7 with fail
      rw [← hw5]
      have Hw5 := Lib.hid hw5
      clear hw5 hcx
      have p0 : w5.cell? ⟨wr.heap.size, 0, none⟩ = some (.int .i64 kd) := cell_of_block B5.out rfl
      have p1 : w5.cell? ⟨wr.heap.size, 1, none⟩ = some (.int .i64 a) := cell_of_block B5.out rfl
      go_cut [38] from 28 to 37 (fun v wx => v = .bool hb ∧ w5 = wx)
      case first =>
        have hwi := Lib.hid (fun Wd => within_calls a 0 ((P : Int) - 1) Wd _ rfl)
        cases hk1 : kd == 1 with
        | true =>
          have hb2 := Hhb.out
          rw [hk1, Bool.true_and] at hb2
          have Hb2 := Lib.hid hb2
          clear hb2
          go_wp2_with fail
          refine (hwi.out _).mono ?_
          rintro e w' ⟨rfl, rfl⟩
          rw [← Hb2.out]
          go_wp2_with fail
          go_meet
          case rel => exact ⟨rfl, rfl⟩
        | false =>
          have hb2 := Hhb.out
          rw [hk1, Bool.false_and] at hb2
          have Hb2 := Lib.hid hb2
          clear hb2
          go_wp2_with fail
          go_meet
          case rel => exact ⟨by rw [Hb2.out], rfl⟩
      case rest =>
        obtain ⟨rfl, rfl⟩ := hcut
        go_upto_if 38 with fail
        go_cut [38] from 38 to 44 (fun v38 wx => Hid (Mine w wx 3 1 (.slice (some ⟨w.heap.size, 0, none⟩) P P) P ((lastL xs P (k + 1)).map (Value.int .i64))))
        case first =>
          cases hb with
          | true =>
            have h3 := Hhb.out
            simp only [Bool.true_eq, Bool.and_eq_true, decide_eq_true_eq] at h3
            obtain ⟨h31, h32, h33⟩ := h3
            obtain ⟨ai, rfl⟩ : ∃ ai : Nat, a = ai := ⟨a.toNat, by omega⟩
            have hset := Lib.hid (lastL_hit xs P k ai _ Hx.out h31 rfl)
            have hai : ai < P := by omega
            have M6 : Hid (Mine w (w5.setCell ⟨w.heap.size, ai, none⟩ (.int .i64 ((k : Int) + 1))) 3 1 (.slice (some ⟨w.heap.size, 0, none⟩) P P) P ((lastL xs P (k + 1)).map (Value.int .i64))) := by
              show Mine _ _ _ _ _ _ _
              have h := (World.ownsRow.stored M5.out.own ai (.int .i64 ((k : Int) + 1))).1
              rw [← hset.out, List.map_set]
              exact ⟨h, M5.out.fresh, M5.out.kp.set (.inr (Nat.le_refl _)) _⟩
            have q0 : (w5.cell? ⟨w.heap.size, ai, none⟩).isSome = true := by
              rw [World.ownsRow.cellAt M5.out.own ai (by omega), List.getElem?_map, lastL_get xs P k ai hai]; rfl
            have q1 := World.ownsRow.frozenAt M5.out.own ai
            obtain ⟨u0, hu0⟩ := Option.isSome_iff_exists.1 q0
            clear h31 h32 h33 q0
            go_wp2_with fail
            go_meet
            case rel => exact M6.out
          | false =>
            have M6 : Hid (Mine w w5 3 1 (.slice (some ⟨w.heap.size, 0, none⟩) P P) P ((lastL xs P (k + 1)).map (Value.int .i64))) := by
              show Mine _ _ _ _ _ _ _
              rw [← lastL_miss xs P k _ Hx.out]
              · exact M5.out
              · have h3 := Hhb.out
                by_cases h1 : (kd == 1) = true
                · rw [h1, Bool.true_and] at h3
                  by_cases h2 : 0 ≤ a
                  · rw [decide_eq_true h2, Bool.true_and] at h3
                    have h4 : ¬ a ≤ (P : Int) - 1 := fun h => by rw [decide_eq_true h] at h3; cases h3
                    dsimp only; omega
                  · dsimp only; omega
                · exact .inl (by simpa using h1)
            go_wp2_with fail
            go_meet
            case rel => exact M6.out
        case rest =>
          clear zr p0 p1 B5 M5 Hhb HK
          have M7 := hcut
          clear hcut
          go_wp2_with fail
          go_loopw [47] (fun i wr => ∃ q : Nat, q ≤ P ∧ i = .int .i64 q ∧ wc = wr ∧ Hid (∀ p, p < q → k + 1 < W ∨ k + 1 - W < lastAt xs p (k + 1))) (fun i _ => P - (intOf i).toNat)
          case atStart => exact ⟨0, Nat.zero_le _, rfl, rfl, fun p hp => by omega⟩
          case round =>
            obtain ⟨q, hq, rfl, rfl, Hq⟩ := hrel
            by_cases hqp : q < P
            · obtain ⟨la, hla⟩ : ∃ la, Hid (lastAt xs q (k + 1) = la) := ⟨_, rfl⟩
              have p2 : wc.cell? ⟨w.heap.size, q, none⟩ = some (.int .i64 la) := by
                rw [World.ownsRow.cellAt M7.out.own q (by omega), List.getElem?_map, lastL_get xs P (k + 1) q hqp, ← hla.out]; rfl
              have hlk : la ≤ k + 1 := by rw [← hla.out]; exact lastAt_le xs q (k + 1)
              by_cases hWk : W ≤ k + 1
              · obtain ⟨ix, hix⟩ : ∃ ix : Nat, (k : Int) + 1 - W = ix := ⟨k + 1 - W, by omega⟩
                have Hix : Hid (k + 1 - W = ix) := by show _ = _; omega
                by_cases hbad : la ≤ ix
                · have hfin : Hid (winB xs P W = false) := by
                    show _ = _
                    unfold winB
                    rw [List.all_eq_false]
                    refine ⟨k, by rw [List.mem_range, hn.out]; exact hlt, ?_⟩
                    unfold okW
                    rw [decide_eq_false (by omega), Bool.false_or, Bool.not_eq_true, List.all_eq_false]
                    exact ⟨q, by rw [List.mem_range]; exact hqp, by rw [hla.out, Hix.out]; simp; exact hbad⟩
                  go_wp2_with fail
                  go_ret
                  exact ⟨by rw [hfin.out]; rfl, M7.out.kp⟩
                · have hfin : Hid (∀ p, p < q + 1 → k + 1 < W ∨ k + 1 - W < lastAt xs p (k + 1)) := by
                    intro p hp
                    by_cases e : p = q
                    · subst e; right; rw [hla.out, Hix.out]; omega
                    · exact Hq.out p (by omega)
                  go_wp2_with fail
                  exact ⟨⟨q + 1, by omega, by go_num, trivial, hfin.out⟩, by simp [intOf]; omega⟩
              · have hfin : Hid (∀ p, p < q + 1 → k + 1 < W ∨ k + 1 - W < lastAt xs p (k + 1)) := fun p _ => .inl (by omega)
                go_wp2_with fail
                exact ⟨⟨q + 1, by omega, by go_num, trivial, hfin.out⟩, by simp [intOf]; omega⟩
            · obtain rfl : q = P := by omega
              have hok : Hid (∀ j, j < k + 1 → okW xs q W j = true) := by
                intro j hj
                by_cases e : j = k
                · subst e
                  unfold okW
                  by_cases hWk : j + 1 < W
                  · rw [decide_eq_true hWk, Bool.true_or]
                  · rw [decide_eq_false hWk, Bool.false_or, List.all_eq_true]
                    intro p hp
                    rcases Hq.out p (List.mem_range.1 hp) with h | h
                    · omega
                    · exact decide_eq_true h
                · exact Hok.out j (by omega)
              go_wp2_with fail
              exact ⟨⟨k + 1, by omega, by go_num, M7.out, hok.out⟩, by simp [intOf]; omega⟩
    · obtain rfl : k = n := by omega
      have hfin : Hid (winB xs P W = true) := by
        show _ = _
        unfold winB
        rw [List.all_eq_true]
        intro j hj
        rw [List.mem_range, hn.out] at hj
        exact Hok.out j hj
      go_wp2_with fail
      go_ret
      exact ⟨by rw [hfin.out]; rfl, HM.out.kp⟩
end Sd
end Go.Proofs.Ytlnfjjbfdbcgbaa
