/- Package disk: does someone's request wait already? -/
import Derived.Test.YtgepedfipfobjaaDiskL
namespace Go.Proofs.Ytgepedfipfobjaa
open Go.RowKit

structure Req where
  who : Int
  block : Int
  write : Bool
  x : Int
  deriving DecidableEq

instance : Inhabited Req := ⟨⟨0, 0, false, 0⟩⟩

def encR (r : Req) : List Value := [.int .i64 r.who, .int .i64 r.block, .bool r.write, .int .u64 r.x]
theorem encR_len (r : Req) : (encR r).length = 4 := rfl
theorem encR_one : ∀ (l : List Req), ∀ u ∈ l.flatMap encR, u.oneCell' = true := by
  intro l u hu
  obtain ⟨r, _, hr⟩ := List.mem_flatMap.1 hu
  simp only [encR, List.mem_cons, List.not_mem_nil, or_false] at hr
  rcases hr with rfl | rfl | rfl | rfl <;> rfl

theorem ownR_cells {w : World} {g cap n : Nat} {xs : List Req} (hn : xs.length = n) (h : Own w 29 4 (.slice (some ⟨g, 0, none⟩) n cap) n (xs.flatMap encR)) {k : Nat} {x : Req} (hx : xs[k]? = some x) :
    w.cell? ⟨g, k * 4, none⟩ = some (.int .i64 x.who) ∧ w.cell? ⟨g, k * 4 + 1, none⟩ = some (.int .i64 x.block) ∧ w.cell? ⟨g, k * 4 + 2, none⟩ = some (.bool x.write) ∧ w.cell? ⟨g, k * 4 + 3, none⟩ = some (.int .u64 x.x) := by
  have hlt : k < n := by rw [← hn]; exact (List.getElem?_eq_some_iff.1 hx).1
  have key : ∀ (j : Nat) (u : Value), (encR x)[j]? = some u → w.cell? ⟨g, k * 4 + j, none⟩ = some u := by
    intro j u hu
    have hj : j < 4 := (List.getElem?_eq_some_iff.1 hu).1
    rw [World.ownsRow.cellAt h (k * 4 + j) (lt_mul hlt hj)]
    exact flat_get' encR 4 encR_len xs k j x u hx hu
  exact ⟨key 0 _ rfl, key 1 _ rfl, key 2 _ rfl, key 3 _ rfl⟩

theorem idxR_calls (p : Req → Bool) (B : Nat) (v : Value) (xs : List Req) (w : World) (h : Own w 29 4 v xs.length (xs.flatMap encR)) (hl : xs.length ≤ 1000000)
    (hp : ∀ (W : World) (x : Req), Keeps NoBlock w W → Calls Try.prog 30 #[.agg #[.int .i64 x.who, .int .i64 x.block, .bool x.write, .int .u64 x.x], .pointer (some ⟨B, 0, none⟩)] W fun e w' => e = .returned (.bool (p x)) ∧ Keeps NoBlock W w') :
    Calls Try.prog 41 #[v, .func (.func 30) #[] #[.pointer (some ⟨B, 0, none⟩)]] w (IdxPost p xs w) := by
  obtain ⟨n, hn⟩ : ∃ n, Hid (xs.length = n) := ⟨_, rfl⟩
  obtain ⟨A, cap, rfl, hf⟩ : ∃ A cap, v = .slice A n cap ∧ (0 < n → ∃ g, A = some ⟨g, 0, none⟩) := by
    rcases Own.form h with ⟨rfl, h0⟩ | ⟨g, cap, rfl, _⟩
    · exact ⟨none, 0, by rw [← hn.out, h0], fun h => by have := hn.out; omega⟩
    · exact ⟨_, cap, by rw [hn.out], fun _ => ⟨g, rfl⟩⟩
  have H := Lib.hid h
  have HP := Lib.hid hp
  have HF := Lib.hid hf
  rw [hn.out] at hl
  have H' : Hid (Own w 29 4 (.slice A n cap) n (xs.flatMap encR)) := by have h2 := H.out; rw [hn.out] at h2; exact h2
  clear h hp hf H
  go_enter Try.func41, Try.ntmps41
  go_wp2_with fail
  go_loopw [8] (fun i wr => ∃ k : Nat, k ≤ n ∧ i = .int .i64 k ∧ Keeps NoBlock w wr ∧ Hid (∀ (j : Nat) (y : Req), j < k → xs[j]? = some y → p y = false)) (fun i _ => n - (intOf i).toNat)
  case atStart => exact ⟨0, Nat.zero_le _, rfl, Keeps.refl _ _, fun j y hj => by omega⟩
  case round =>
    obtain ⟨k, hk, rfl, hkp, hall⟩ := hrel
    by_cases hlt : k < n
    · obtain ⟨x, hx⟩ : ∃ x, xs[k]? = some x := ⟨_, List.getElem?_eq_getElem (by rw [hn.out]; exact hlt)⟩
      obtain ⟨g, rfl⟩ := HF.out (by omega)
      have hcx := ownR_cells hn.out (H'.out.keeps hkp (fun _ _ h => h)) hx
      have Hx := Lib.hid hx
      clear hx
      go_wp2_with fail
      refine (HP.out _ x hkp).mono ?_
      rintro e w1 ⟨rfl, hk1⟩
      have hk01 := Lib.hid (hkp.trans hk1 (fun _ _ h => h))
      clear hk1
      cases hpx : p x with
      | true =>
        have Hpx := Lib.hid hpx
        clear hpx
        go_wp2_with fail
        go_ret
        exact ⟨by rw [idxI_at Hx.out Hpx.out hall.out]; rfl, hk01.out⟩
      | false =>
        have Hpx := Lib.hid hpx
        clear hpx
        go_wp2_with fail
        refine ⟨⟨k + 1, by omega, by go_num, hk01.out, fun j y hj hy => ?_⟩, by simp [intOf]; omega⟩
        by_cases e : j = k
        · subst e
          have hxy := Hx.out
          rw [hy] at hxy
          cases hxy
          exact Hpx.out
        · exact hall.out j y (by omega) hy
    · obtain rfl : k = n := by omega
      go_wp2_with fail
      go_ret
      exact ⟨by rw [idxI_none (fun j y hj hy => hall.out j y (by rw [← hn.out]; exact hj) hy)]; rfl, hkp⟩
theorem cntR_calls (p : Req → Bool) (B : Nat) (v : Value) (xs : List Req) (w : World) (h : Own w 29 4 v xs.length (xs.flatMap encR)) (hl : xs.length ≤ 1000000)
    (hp : ∀ (W : World) (x : Req), Keeps NoBlock w W → Calls Try.prog 30 #[.agg #[.int .i64 x.who, .int .i64 x.block, .bool x.write, .int .u64 x.x], .pointer (some ⟨B, 0, none⟩)] W fun e w' => e = .returned (.bool (p x)) ∧ Keeps NoBlock W w') :
    Calls Try.prog 29 #[v, .func (.func 30) #[] #[.pointer (some ⟨B, 0, none⟩)]] w fun e w' => e = .returned (.bool (xs.any p)) ∧ Keeps NoBlock w w' := by
  have hcon := idxR_calls p B v xs w h hl hp
  have hd := Lib.hid (idxI_any p xs)
  unfold IdxPost at hcon
  generalize idxI p xs = r at hcon hd
  go_enter Try.func29, Try.ntmps29
  go_wp2_with fail
  refine hcon.mono ?_
  rintro e w1 ⟨rfl, hk⟩
  go_wp2_with fail
  go_ret
  exact ⟨by rw [← hd.out]; rfl, hk⟩

theorem ask1_pred (who : Int) (B : Nat) (w : World) (hB : B < w.heap.size) (hcell : w.cell? ⟨B, 0, none⟩ = some (.int .i64 who)) (W : World) (x : Req) (hk : Keeps NoBlock w W) :
    Calls Try.prog 30 #[.agg #[.int .i64 x.who, .int .i64 x.block, .bool x.write, .int .u64 x.x], .pointer (some ⟨B, 0, none⟩)] W fun e w' => e = .returned (.bool (x.who == who)) ∧ Keeps NoBlock W w' := by
  have hc : W.cell? ⟨B, 0, none⟩ = some (.int .i64 who) := (hk.cell hB (fun h => h)).trans hcell
  have hBW : B < W.heap.size := Nat.lt_of_lt_of_le hB hk.size
  have hne : B ≠ W.heap.size := by omega
  go_enter Try.func30, Try.ntmps30
  go_wp2
  go_ret
  exact ⟨rfl, (Keeps.refl _ _).alloc _⟩

theorem contR_calls (v : Value) (ws : List Req) (w : World) (h : Own w 29 4 v ws.length (ws.flatMap encR)) (hl : ws.length ≤ 1000000) (who : Int) (B : Nat) (hB : B < w.heap.size) (hc : w.cell? ⟨B, 0, none⟩ = some (.int .i64 who)) :
    Calls Try.prog 29 #[v, .func (.func 30) #[] #[.pointer (some ⟨B, 0, none⟩)]] w fun e w' => e = .returned (.bool (ws.any fun x => x.who == who)) ∧ Keeps NoBlock w w' :=
  cntR_calls (fun x => x.who == who) B v ws w h hl (fun W x hk => ask1_pred who B w hB hc W x hk)
end Go.Proofs.Ytgepedfipfobjaa
