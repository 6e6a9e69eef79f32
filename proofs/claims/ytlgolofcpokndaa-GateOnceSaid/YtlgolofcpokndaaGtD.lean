/- Package gate: does someone wait for anything? -/
import Derived.Test.YtlgolofcpokndaaGtC
namespace Go.Proofs.Ytlgolofcpokndaa
open Go.RowKit

namespace Gt

theorem mx_cells {w : World} {g cap n : Nat} {xs : List Mx} (hn : xs.length = n) (h : Own w 80 3 (.slice (some ⟨g, 0, none⟩) n cap) n (xs.flatMap encM)) {k : Nat} {x : Mx} (hx : xs[k]? = some x) :
    w.cell? ⟨g, k * 3, none⟩ = some x.v ∧ w.cell? ⟨g, k * 3 + 1, none⟩ = some (.bool x.held) ∧ w.cell? ⟨g, k * 3 + 2, none⟩ = some (.int .i64 x.own) := by
  have hlt : k < n := by rw [← hn]; exact (List.getElem?_eq_some_iff.1 hx).1
  have key : ∀ (j : Nat) (u : Value), (encM x)[j]? = some u → w.cell? ⟨g, k * 3 + j, none⟩ = some u := by
    intro j u hu
    have hj : j < 3 := (List.getElem?_eq_some_iff.1 hu).1
    rw [World.ownsRow.cellAt h (k * 3 + j) (lt_mul hlt hj)]
    exact flat_get' encM 3 encM_len xs k j x u hx hu
  exact ⟨key 0 _ rfl, key 1 _ rfl, key 2 _ rfl⟩

theorem rw_cells {w : World} {g cap n : Nat} {xs : List Rw} (hn : xs.length = n) (h : Own w 66 1 (.slice (some ⟨g, 0, none⟩) n cap) n (xs.flatMap encR)) {k : Nat} {x : Rw} (hx : xs[k]? = some x) :
    w.cell? ⟨g, k, none⟩ = some x.v := by
  have hlt : k < n := by rw [← hn]; exact (List.getElem?_eq_some_iff.1 hx).1
  have key : ∀ (j : Nat) (u : Value), (encR x)[j]? = some u → w.cell? ⟨g, k * 1 + j, none⟩ = some u := by
    intro j u hu
    have hj : j < 1 := (List.getElem?_eq_some_iff.1 hu).1
    rw [World.ownsRow.cellAt h (k * 1 + j) (lt_mul hlt hj)]
    exact flat_get' encR 1 encR_len xs k j x u hx hu
  have h0 := key 0 _ rfl
  rw [Nat.mul_one, Nat.add_zero] at h0
  exact h0

theorem sm_cells {w : World} {g cap n : Nat} {xs : List Sm} (hn : xs.length = n) (h : Own w 68 2 (.slice (some ⟨g, 0, none⟩) n cap) n (xs.flatMap encS)) {k : Nat} {x : Sm} (hx : xs[k]? = some x) :
    w.cell? ⟨g, k * 2, none⟩ = some x.v ∧ w.cell? ⟨g, k * 2 + 1, none⟩ = some (.int .i64 x.cnt) := by
  have hlt : k < n := by rw [← hn]; exact (List.getElem?_eq_some_iff.1 hx).1
  have key : ∀ (j : Nat) (u : Value), (encS x)[j]? = some u → w.cell? ⟨g, k * 2 + j, none⟩ = some u := by
    intro j u hu
    have hj : j < 2 := (List.getElem?_eq_some_iff.1 hu).1
    rw [World.ownsRow.cellAt h (k * 2 + j) (lt_mul hlt hj)]
    exact flat_get' encS 2 encS_len xs k j x u hx hu
  exact ⟨key 0 _ rfl, key 1 _ rfl⟩

set_option maxRecDepth 100000 in
theorem clo1_pred (who : Int) (B : Nat) (w : World) (hB : B < w.heap.size) (hcell : w.cell? ⟨B, 0, none⟩ = some (.int .i64 who)) (W : World) (x : Mx) (ho : Own w 76 2 x.v x.q.length (x.q.flatMap encW)) (hl : x.q.length ≤ 1000000) (hk : Keeps NoBlock w W) :
    Calls Try.prog 40 #[.agg #[x.v, .bool x.held, .int .i64 x.own], .pointer (some ⟨B, 0, none⟩)] W fun e w' => e = .returned (.bool (hasB who x.q)) ∧ Keeps NoBlock W w' := by
  have hc : W.cell? ⟨B, 0, none⟩ = some (.int .i64 who) := (hk.cell hB (fun h => h)).trans hcell
  have hBW : B < W.heap.size := Nat.lt_of_lt_of_le hB hk.size
  have hne : B ≠ W.heap.size := by omega
  have ho1 : Hid (Own W 76 2 x.v x.q.length (x.q.flatMap encW)) := ho.keeps hk (fun _ _ e => e)
  clear ho
  obtain ⟨v, q, held, own⟩ := x
  simp only [] at ho1 hl ⊢
  go_enter Try.func40, Try.ntmps40
  go_wp2_with fail
  refine (rowhas_calls who (v := v) (q := q) (by simp [*]) (by
    repeat (first | with_reducible exact ho1.out | with_reducible refine World.ownsRow.alloc ?_ _ | with_reducible refine World.ownsRow.drew ?_)) hl).mono ?_
  rintro e w1 ⟨rfl, k1⟩
  go_wp2_with fail
  go_ret
  exact ⟨rfl, ((Keeps.refl NoBlock W).alloc _).trans k1 (fun _ _ e => e)⟩

set_option maxRecDepth 100000 in
theorem clo2_pred (who : Int) (B : Nat) (w : World) (hB : B < w.heap.size) (hcell : w.cell? ⟨B, 0, none⟩ = some (.int .i64 who)) (W : World) (x : Rw) (ho : Own w 76 2 x.v x.q.length (x.q.flatMap encW)) (hl : x.q.length ≤ 1000000) (hk : Keeps NoBlock w W) :
    Calls Try.prog 43 #[.agg #[x.v], .pointer (some ⟨B, 0, none⟩)] W fun e w' => e = .returned (.bool (hasB who x.q)) ∧ Keeps NoBlock W w' := by
  have hc : W.cell? ⟨B, 0, none⟩ = some (.int .i64 who) := (hk.cell hB (fun h => h)).trans hcell
  have hBW : B < W.heap.size := Nat.lt_of_lt_of_le hB hk.size
  have hne : B ≠ W.heap.size := by omega
  have ho1 : Hid (Own W 76 2 x.v x.q.length (x.q.flatMap encW)) := ho.keeps hk (fun _ _ e => e)
  clear ho
  obtain ⟨v, q⟩ := x
  simp only [] at ho1 hl ⊢
  go_enter Try.func43, Try.ntmps43
  go_wp2_with fail
  refine (rowhas_calls who (v := v) (q := q) (by simp [*]) (by
    repeat (first | with_reducible exact ho1.out | with_reducible refine World.ownsRow.alloc ?_ _ | with_reducible refine World.ownsRow.drew ?_)) hl).mono ?_
  rintro e w1 ⟨rfl, k1⟩
  go_wp2_with fail
  go_ret
  exact ⟨rfl, ((Keeps.refl NoBlock W).alloc _).trans k1 (fun _ _ e => e)⟩

set_option maxRecDepth 100000 in
theorem clo3_pred (who : Int) (B : Nat) (w : World) (hB : B < w.heap.size) (hcell : w.cell? ⟨B, 0, none⟩ = some (.int .i64 who)) (W : World) (x : Sm) (ho : Own w 76 2 x.v x.q.length (x.q.flatMap encW)) (hl : x.q.length ≤ 1000000) (hk : Keeps NoBlock w W) :
    Calls Try.prog 45 #[.agg #[x.v, .int .i64 x.cnt], .pointer (some ⟨B, 0, none⟩)] W fun e w' => e = .returned (.bool (hasB who x.q)) ∧ Keeps NoBlock W w' := by
  have hc : W.cell? ⟨B, 0, none⟩ = some (.int .i64 who) := (hk.cell hB (fun h => h)).trans hcell
  have hBW : B < W.heap.size := Nat.lt_of_lt_of_le hB hk.size
  have hne : B ≠ W.heap.size := by omega
  have ho1 : Hid (Own W 76 2 x.v x.q.length (x.q.flatMap encW)) := ho.keeps hk (fun _ _ e => e)
  clear ho
  obtain ⟨v, q, cnt⟩ := x
  simp only [] at ho1 hl ⊢
  go_enter Try.func45, Try.ntmps45
  go_wp2_with fail
  refine (rowhas_calls who (v := v) (q := q) (by simp [*]) (by
    repeat (first | with_reducible exact ho1.out | with_reducible refine World.ownsRow.alloc ?_ _ | with_reducible refine World.ownsRow.drew ?_)) hl).mono ?_
  rintro e w1 ⟨rfl, k1⟩
  go_wp2_with fail
  go_ret
  exact ⟨rfl, ((Keeps.refl NoBlock W).alloc _).trans k1 (fun _ _ e => e)⟩

theorem idxmutex_calls (p : Mx → Bool) (B : Nat) (v : Value) (xs : List Mx) (w : World) (h : Own w 80 3 v xs.length (xs.flatMap encM)) (hl : xs.length ≤ 1000000)
    (hp : ∀ (W : World) (x : Mx), x ∈ xs → Keeps NoBlock w W → Calls Try.prog 40 #[.agg #[x.v, .bool x.held, .int .i64 x.own], .pointer (some ⟨B, 0, none⟩)] W fun e w' => e = .returned (.bool (p x)) ∧ Keeps NoBlock W w') :
    Calls Try.prog 49 #[v, .func (.func 40) #[] #[.pointer (some ⟨B, 0, none⟩)]] w (IdxPost p xs w) := by
  obtain ⟨n, hn⟩ : ∃ n, Hid (xs.length = n) := ⟨_, rfl⟩
  obtain ⟨A, cap, rfl, hf⟩ : ∃ A cap, v = .slice A n cap ∧ (0 < n → ∃ g, A = some ⟨g, 0, none⟩) := by
    rcases Own.form h with ⟨rfl, h0⟩ | ⟨g, cap, rfl, _⟩
    · exact ⟨none, 0, by rw [← hn.out, h0], fun h => by have := hn.out; omega⟩
    · exact ⟨_, cap, by rw [hn.out], fun _ => ⟨g, rfl⟩⟩
  have H := Lib.hid h
  have HP := Lib.hid hp
  have HF := Lib.hid hf
  rw [hn.out] at hl
  have H' : Hid (Own w 80 3 (.slice A n cap) n (xs.flatMap encM)) := by have h2 := H.out; rw [hn.out] at h2; exact h2
  clear h hp hf H
  go_enter Try.func49, Try.ntmps49
  go_wp2_with fail
  go_loopw [8] (fun i wr => ∃ k : Nat, k ≤ n ∧ i = .int .i64 k ∧ Keeps NoBlock w wr ∧ Hid (∀ (j : Nat) (y : Mx), j < k → xs[j]? = some y → p y = false)) (fun i _ => n - (intOf i).toNat)
  case atStart => exact ⟨0, Nat.zero_le _, rfl, Keeps.refl _ _, fun j y hj => by omega⟩
  case round =>
    obtain ⟨k, hk, rfl, hkp, hall⟩ := hrel
    by_cases hlt : k < n
    · obtain ⟨x, hx⟩ : ∃ x, xs[k]? = some x := ⟨_, List.getElem?_eq_getElem (by rw [hn.out]; exact hlt)⟩
      obtain ⟨g, rfl⟩ := HF.out (by omega)
      have hcx := mx_cells hn.out (H'.out.keeps hkp (fun _ _ h => h)) hx
      have Hx := Lib.hid hx
      clear hx
      go_wp2_with fail
      refine (HP.out _ x (List.mem_of_getElem? Hx.out) hkp).mono ?_
      rintro e w1 ⟨rfl, hk1⟩
      have hk01 := Lib.hid (hkp.trans hk1 (fun _ _ h => h))
      clear hk1
      cases hpx : p x with
      | true =>
        have Hpx := Lib.hid hpx
        clear hpx
        go_wp2_with fail
        go_ret
        exact ⟨by rw [idxI_at Hx.out Hpx.out hall.out]; rfl, hk01.out⟩
      | false =>
        have Hpx := Lib.hid hpx
        clear hpx
        go_wp2_with fail
        refine ⟨⟨k + 1, by omega, by go_num, hk01.out, fun j y hj hy => ?_⟩, by simp [intOf]; omega⟩
        by_cases e : j = k
        · subst e
          have hxy := Hx.out
          rw [hy] at hxy
          cases hxy
          exact Hpx.out
        · exact hall.out j y (by omega) hy
    · obtain rfl : k = n := by omega
      go_wp2_with fail
      go_ret
      exact ⟨by rw [idxI_none (fun j y hj hy => hall.out j y (by rw [← hn.out]; exact hj) hy)]; rfl, hkp⟩
theorem cntmutex_calls (p : Mx → Bool) (B : Nat) (v : Value) (xs : List Mx) (w : World) (h : Own w 80 3 v xs.length (xs.flatMap encM)) (hl : xs.length ≤ 1000000)
    (hp : ∀ (W : World) (x : Mx), x ∈ xs → Keeps NoBlock w W → Calls Try.prog 40 #[.agg #[x.v, .bool x.held, .int .i64 x.own], .pointer (some ⟨B, 0, none⟩)] W fun e w' => e = .returned (.bool (p x)) ∧ Keeps NoBlock W w') :
    Calls Try.prog 39 #[v, .func (.func 40) #[] #[.pointer (some ⟨B, 0, none⟩)]] w fun e w' => e = .returned (.bool (xs.any p)) ∧ Keeps NoBlock w w' := by
  have hcon := idxmutex_calls p B v xs w h hl hp
  have hd := Lib.hid (idxI_any p xs)
  unfold IdxPost at hcon
  generalize idxI p xs = r at hcon hd
  go_enter Try.func39, Try.ntmps39
  go_wp2_with fail
  refine hcon.mono ?_
  rintro e w1 ⟨rfl, hk⟩
  go_wp2_with fail
  go_ret
  exact ⟨by rw [← hd.out]; rfl, hk⟩
theorem idxrow_calls (p : Rw → Bool) (B : Nat) (v : Value) (xs : List Rw) (w : World) (h : Own w 66 1 v xs.length (xs.flatMap encR)) (hl : xs.length ≤ 1000000)
    (hp : ∀ (W : World) (x : Rw), x ∈ xs → Keeps NoBlock w W → Calls Try.prog 43 #[.agg #[x.v], .pointer (some ⟨B, 0, none⟩)] W fun e w' => e = .returned (.bool (p x)) ∧ Keeps NoBlock W w') :
    Calls Try.prog 52 #[v, .func (.func 43) #[] #[.pointer (some ⟨B, 0, none⟩)]] w (IdxPost p xs w) := by
  obtain ⟨n, hn⟩ : ∃ n, Hid (xs.length = n) := ⟨_, rfl⟩
  obtain ⟨A, cap, rfl, hf⟩ : ∃ A cap, v = .slice A n cap ∧ (0 < n → ∃ g, A = some ⟨g, 0, none⟩) := by
    rcases Own.form h with ⟨rfl, h0⟩ | ⟨g, cap, rfl, _⟩
    · exact ⟨none, 0, by rw [← hn.out, h0], fun h => by have := hn.out; omega⟩
    · exact ⟨_, cap, by rw [hn.out], fun _ => ⟨g, rfl⟩⟩
  have H := Lib.hid h
  have HP := Lib.hid hp
  have HF := Lib.hid hf
  rw [hn.out] at hl
  have H' : Hid (Own w 66 1 (.slice A n cap) n (xs.flatMap encR)) := by have h2 := H.out; rw [hn.out] at h2; exact h2
  clear h hp hf H
  go_enter Try.func52, Try.ntmps52
  go_wp2_with fail
  go_loopw [8] (fun i wr => ∃ k : Nat, k ≤ n ∧ i = .int .i64 k ∧ Keeps NoBlock w wr ∧ Hid (∀ (j : Nat) (y : Rw), j < k → xs[j]? = some y → p y = false)) (fun i _ => n - (intOf i).toNat)
  case atStart => exact ⟨0, Nat.zero_le _, rfl, Keeps.refl _ _, fun j y hj => by omega⟩
  case round =>
    obtain ⟨k, hk, rfl, hkp, hall⟩ := hrel
    by_cases hlt : k < n
    · obtain ⟨x, hx⟩ : ∃ x, xs[k]? = some x := ⟨_, List.getElem?_eq_getElem (by rw [hn.out]; exact hlt)⟩
      obtain ⟨g, rfl⟩ := HF.out (by omega)
      have hcx := rw_cells hn.out (H'.out.keeps hkp (fun _ _ h => h)) hx
      have Hx := Lib.hid hx
      clear hx
      go_wp2_with fail
      refine (HP.out _ x (List.mem_of_getElem? Hx.out) hkp).mono ?_
      rintro e w1 ⟨rfl, hk1⟩
      have hk01 := Lib.hid (hkp.trans hk1 (fun _ _ h => h))
      clear hk1
      cases hpx : p x with
      | true =>
        have Hpx := Lib.hid hpx
        clear hpx
        go_wp2_with fail
        go_ret
        exact ⟨by rw [idxI_at Hx.out Hpx.out hall.out]; rfl, hk01.out⟩
      | false =>
        have Hpx := Lib.hid hpx
        clear hpx
        go_wp2_with fail
        refine ⟨⟨k + 1, by omega, by go_num, hk01.out, fun j y hj hy => ?_⟩, by simp [intOf]; omega⟩
        by_cases e : j = k
        · subst e
          have hxy := Hx.out
          rw [hy] at hxy
          cases hxy
          exact Hpx.out
        · exact hall.out j y (by omega) hy
    · obtain rfl : k = n := by omega
      go_wp2_with fail
      go_ret
      exact ⟨by rw [idxI_none (fun j y hj hy => hall.out j y (by rw [← hn.out]; exact hj) hy)]; rfl, hkp⟩
theorem cntrow_calls (p : Rw → Bool) (B : Nat) (v : Value) (xs : List Rw) (w : World) (h : Own w 66 1 v xs.length (xs.flatMap encR)) (hl : xs.length ≤ 1000000)
    (hp : ∀ (W : World) (x : Rw), x ∈ xs → Keeps NoBlock w W → Calls Try.prog 43 #[.agg #[x.v], .pointer (some ⟨B, 0, none⟩)] W fun e w' => e = .returned (.bool (p x)) ∧ Keeps NoBlock W w') :
    Calls Try.prog 42 #[v, .func (.func 43) #[] #[.pointer (some ⟨B, 0, none⟩)]] w fun e w' => e = .returned (.bool (xs.any p)) ∧ Keeps NoBlock w w' := by
  have hcon := idxrow_calls p B v xs w h hl hp
  have hd := Lib.hid (idxI_any p xs)
  unfold IdxPost at hcon
  generalize idxI p xs = r at hcon hd
  go_enter Try.func42, Try.ntmps42
  go_wp2_with fail
  refine hcon.mono ?_
  rintro e w1 ⟨rfl, hk⟩
  go_wp2_with fail
  go_ret
  exact ⟨by rw [← hd.out]; rfl, hk⟩
theorem idxsem_calls (p : Sm → Bool) (B : Nat) (v : Value) (xs : List Sm) (w : World) (h : Own w 68 2 v xs.length (xs.flatMap encS)) (hl : xs.length ≤ 1000000)
    (hp : ∀ (W : World) (x : Sm), x ∈ xs → Keeps NoBlock w W → Calls Try.prog 45 #[.agg #[x.v, .int .i64 x.cnt], .pointer (some ⟨B, 0, none⟩)] W fun e w' => e = .returned (.bool (p x)) ∧ Keeps NoBlock W w') :
    Calls Try.prog 53 #[v, .func (.func 45) #[] #[.pointer (some ⟨B, 0, none⟩)]] w (IdxPost p xs w) := by
  obtain ⟨n, hn⟩ : ∃ n, Hid (xs.length = n) := ⟨_, rfl⟩
  obtain ⟨A, cap, rfl, hf⟩ : ∃ A cap, v = .slice A n cap ∧ (0 < n → ∃ g, A = some ⟨g, 0, none⟩) := by
    rcases Own.form h with ⟨rfl, h0⟩ | ⟨g, cap, rfl, _⟩
    · exact ⟨none, 0, by rw [← hn.out, h0], fun h => by have := hn.out; omega⟩
    · exact ⟨_, cap, by rw [hn.out], fun _ => ⟨g, rfl⟩⟩
  have H := Lib.hid h
  have HP := Lib.hid hp
  have HF := Lib.hid hf
  rw [hn.out] at hl
  have H' : Hid (Own w 68 2 (.slice A n cap) n (xs.flatMap encS)) := by have h2 := H.out; rw [hn.out] at h2; exact h2
  clear h hp hf H
  go_enter Try.func53, Try.ntmps53
  go_wp2_with fail
  go_loopw [8] (fun i wr => ∃ k : Nat, k ≤ n ∧ i = .int .i64 k ∧ Keeps NoBlock w wr ∧ Hid (∀ (j : Nat) (y : Sm), j < k → xs[j]? = some y → p y = false)) (fun i _ => n - (intOf i).toNat)
  case atStart => exact ⟨0, Nat.zero_le _, rfl, Keeps.refl _ _, fun j y hj => by omega⟩
  case round =>
    obtain ⟨k, hk, rfl, hkp, hall⟩ := hrel
    by_cases hlt : k < n
    · obtain ⟨x, hx⟩ : ∃ x, xs[k]? = some x := ⟨_, List.getElem?_eq_getElem (by rw [hn.out]; exact hlt)⟩
      obtain ⟨g, rfl⟩ := HF.out (by omega)
      have hcx := sm_cells hn.out (H'.out.keeps hkp (fun _ _ h => h)) hx
      have Hx := Lib.hid hx
      clear hx
      go_wp2_with fail
      refine (HP.out _ x (List.mem_of_getElem? Hx.out) hkp).mono ?_
      rintro e w1 ⟨rfl, hk1⟩
      have hk01 := Lib.hid (hkp.trans hk1 (fun _ _ h => h))
      clear hk1
      cases hpx : p x with
      | true =>
        have Hpx := Lib.hid hpx
        clear hpx
        go_wp2_with fail
        go_ret
        exact ⟨by rw [idxI_at Hx.out Hpx.out hall.out]; rfl, hk01.out⟩
      | false =>
        have Hpx := Lib.hid hpx
        clear hpx
        go_wp2_with fail
        refine ⟨⟨k + 1, by omega, by go_num, hk01.out, fun j y hj hy => ?_⟩, by simp [intOf]; omega⟩
        by_cases e : j = k
        · subst e
          have hxy := Hx.out
          rw [hy] at hxy
          cases hxy
          exact Hpx.out
        · exact hall.out j y (by omega) hy
    · obtain rfl : k = n := by omega
      go_wp2_with fail
      go_ret
      exact ⟨by rw [idxI_none (fun j y hj hy => hall.out j y (by rw [← hn.out]; exact hj) hy)]; rfl, hkp⟩
theorem cntsem_calls (p : Sm → Bool) (B : Nat) (v : Value) (xs : List Sm) (w : World) (h : Own w 68 2 v xs.length (xs.flatMap encS)) (hl : xs.length ≤ 1000000)
    (hp : ∀ (W : World) (x : Sm), x ∈ xs → Keeps NoBlock w W → Calls Try.prog 45 #[.agg #[x.v, .int .i64 x.cnt], .pointer (some ⟨B, 0, none⟩)] W fun e w' => e = .returned (.bool (p x)) ∧ Keeps NoBlock W w') :
    Calls Try.prog 44 #[v, .func (.func 45) #[] #[.pointer (some ⟨B, 0, none⟩)]] w fun e w' => e = .returned (.bool (xs.any p)) ∧ Keeps NoBlock w w' := by
  have hcon := idxsem_calls p B v xs w h hl hp
  have hd := Lib.hid (idxI_any p xs)
  unfold IdxPost at hcon
  generalize idxI p xs = r at hcon hd
  go_enter Try.func44, Try.ntmps44
  go_wp2_with fail
  refine hcon.mono ?_
  rintro e w1 ⟨rfl, hk⟩
  go_wp2_with fail
  go_ret
  exact ⟨by rw [← hd.out]; rfl, hk⟩

def waitsG (ms : List Mx) (cs : List Rw) (ss : List Sm) (who : Int) : Bool := (ms.any fun x => hasB who x.q) || (cs.any fun x => hasB who x.q) || (ss.any fun x => hasB who x.q)

/-- No row is longer than this. -/
def Short (m : Nat) (ms : List Mx) (cs : List Rw) (ss : List Sm) : Prop := (∀ x ∈ ms, x.q.length ≤ m) ∧ (∀ x ∈ cs, x.q.length ≤ m) ∧ (∀ x ∈ ss, x.q.length ≤ m)

set_option maxRecDepth 100000 in
set_option maxHeartbeats 1000000 in
theorem waits_calls {w0 : Base} {w : World} {G : Nat} {vm vc vs : Value} {ms : List Mx} {cs : List Rw} {ss : List Sm} (h : GAt w0 G vm vc vs ms cs ss w) (hs : Short 1000000 ms cs ss) (who : Int) :
    Calls Try.prog 25 #[.pointer (some ⟨G, 0, none⟩), .int .i64 who] w fun e w' => e = .returned (.bool (waitsG ms cs ss who)) ∧ Keeps NoBlock w w' := by
  have hmf : ∀ (fn : Fn) (first cap : Array Value) (w : World), (Instr.makeFunc fn first cap).run Try.prog w = .ok (.func fn first cap) w := fun _ _ _ _ => rfl
  obtain ⟨w1, hw1⟩ : ∃ w1, w.alloc (.cells #[.int .i64 who] 3) = w1 := ⟨_, rfl⟩
  have b1 : Hid (w1.heap[w.heap.size]? = some (.cells #[.int .i64 who] 3 (0, 0))) := by show _ = _; rw [← hw1]; exact block_alloc_new _ _
  have k1 : Hid (Keeps NoBlock w w1) := by show Keeps _ _ _; rw [← hw1]; exact (Keeps.refl _ _).alloc _
  have h1 := Lib.hid (h.keeps k1.out)
  have hw2 := Lib.hid hw1
  have hB := Lib.hid (lt_of_block b1.out)
  have cB := Lib.hid (cell_of_block b1.out (o := 0) rfl)
  have c0 : w1.cell? ⟨G, 0, none⟩ = some vm := cell_of_block h1.out.head (o := 0) rfl
  have c1 : w1.cell? ⟨G, 1, none⟩ = some vc := cell_of_block h1.out.head (o := 1) rfl
  have c2 : w1.cell? ⟨G, 2, none⟩ = some vs := cell_of_block h1.out.head (o := 2) rfl
  have hG := lt_of_block h1.out.head
  have hlm := h.lm
  have hlc := h.lc
  have hls := h.ls
  have q1 : Hid (∀ W, Keeps NoBlock w1 W → ∀ W' x, x ∈ ms → Keeps NoBlock W W' → Calls Try.prog 40 #[.agg #[x.v, .bool x.held, .int .i64 x.own], .pointer (some ⟨w.heap.size, 0, none⟩)] W' fun e w' => e = .returned (.bool (hasB who x.q)) ∧ Keeps NoBlock W' w') := fun W kW W' x hx kW' => by
    obtain ⟨i, hi, he⟩ := List.getElem_of_mem hx
    exact clo1_pred who w.heap.size w1 hB.out cB.out W' x (h1.out.rm (i := i) (by rw [List.getElem?_eq_getElem hi, he])) (hs.1 x hx) (kW.trans kW' (fun _ _ e => e))
  have q2 : Hid (∀ W, Keeps NoBlock w1 W → ∀ W' x, x ∈ cs → Keeps NoBlock W W' → Calls Try.prog 43 #[.agg #[x.v], .pointer (some ⟨w.heap.size, 0, none⟩)] W' fun e w' => e = .returned (.bool (hasB who x.q)) ∧ Keeps NoBlock W' w') := fun W kW W' x hx kW' => by
    obtain ⟨i, hi, he⟩ := List.getElem_of_mem hx
    exact clo2_pred who w.heap.size w1 hB.out cB.out W' x (h1.out.rc (i := i) (by rw [List.getElem?_eq_getElem hi, he])) (hs.2.1 x hx) (kW.trans kW' (fun _ _ e => e))
  have q3 : Hid (∀ W, Keeps NoBlock w1 W → ∀ W' x, x ∈ ss → Keeps NoBlock W W' → Calls Try.prog 45 #[.agg #[x.v, .int .i64 x.cnt], .pointer (some ⟨w.heap.size, 0, none⟩)] W' fun e w' => e = .returned (.bool (hasB who x.q)) ∧ Keeps NoBlock W' w') := fun W kW W' x hx kW' => by
    obtain ⟨i, hi, he⟩ := List.getElem_of_mem hx
    exact clo3_pred who w.heap.size w1 hB.out cB.out W' x (h1.out.rs (i := i) (by rw [List.getElem?_eq_getElem hi, he])) (hs.2.2 x hx) (kW.trans kW' (fun _ _ e => e))
  have hwd : Hid (waitsG ms cs ss who = ((ms.any fun x => hasB who x.q) || (cs.any fun x => hasB who x.q) || (ss.any fun x => hasB who x.q))) := rfl
  generalize waitsG ms cs ss who = r at hwd ⊢
  have hGw := Lib.hid (lt_of_block h.head)
  clear hw1 h hs
  go_enter Try.func25, Try.ntmps25
  go_upto_region 1 with fail
  rw [hw2.out]
  go_wp2_with fail
  refine (cntmutex_calls (fun x => hasB who x.q) w.heap.size vm ms w1 h1.out.om (by omega) (q1.out w1 (Keeps.refl _ _))).mono ?_
  rintro e w3 ⟨rfl, k3⟩
  have K3 := Lib.hid k3
  have d1 : w3.cell? ⟨G, 1, none⟩ = some vc := (k3.cell hG (fun e => e)).trans c1
  have d2 : w3.cell? ⟨G, 2, none⟩ = some vs := (k3.cell hG (fun e => e)).trans c2
  clear k3 c0 c1 c2
  cases ha : ms.any fun x => hasB who x.q with
  | true =>
    go_wp2_with fail
    go_ret
    exact ⟨by rw [hwd.out, ha]; rfl, k1.out.trans K3.out (fun _ _ e => e)⟩
  | false =>
    go_wp2_with fail
    refine (cntrow_calls (fun x => hasB who x.q) w.heap.size vc cs w3 (h1.out.keeps K3.out).oc (by omega) (q2.out w3 K3.out)).mono ?_
    rintro e w4 ⟨rfl, k4⟩
    have K4 : Hid (Keeps NoBlock w1 w4) := K3.out.trans k4 (fun _ _ e => e)
    have e2 : w4.cell? ⟨G, 2, none⟩ = some vs := (k4.cell (Nat.lt_of_lt_of_le hG K3.out.size) (fun e => e)).trans d2
    clear k4 d1 d2
    cases hb : cs.any fun x => hasB who x.q with
    | true =>
      go_wp2_with fail
      go_ret
      exact ⟨by rw [hwd.out, ha, hb]; rfl, k1.out.trans K4.out (fun _ _ e => e)⟩
    | false =>
      go_wp2_with fail
      refine (cntsem_calls (fun x => hasB who x.q) w.heap.size vs ss w4 (h1.out.keeps K4.out).os (by omega) (q3.out w4 K4.out)).mono ?_
      rintro e w5 ⟨rfl, k5⟩
      have K5 : Hid (Keeps NoBlock w1 w5) := K4.out.trans k5 (fun _ _ e => e)
      clear k5
      go_wp2_with fail
      go_ret
      exact ⟨by rw [hwd.out, ha, hb]; rfl, k1.out.trans K5.out (fun _ _ e => e)⟩

end Gt
end Go.Proofs.Ytlgolofcpokndaa
