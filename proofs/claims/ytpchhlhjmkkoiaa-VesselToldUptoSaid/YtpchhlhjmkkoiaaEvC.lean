/- Package event: the first one within a section; are two lists of events alike? -/
import Derived.Test.YtpchhlhjmkkoiaaEvB
namespace Go.Proofs.Ytpchhlhjmkkoiaa
open Go.RowKit

theorem clo_calls (x : Ev) (w : World) : Calls Try.prog 30 #[evV x] w fun e w' => e = .returned (.bool (decide (0 < x.mode))) ∧ Keeps NoBlock w w' := by
  obtain ⟨kind, thread, mode⟩ := x
  dsimp only [evV]
  go_enter Try.func30, Try.ntmps30
  go_wp2
  go_ret
  exact ⟨by rfl, (Keeps.refl _ _).alloc _⟩

def modeB (x : Ev) : Bool := decide (0 < x.mode)

theorem idxf_calls (v : Value) (xs : List Ev) (w : World) (h : Rd encE 3 w v xs) (hl : xs.length * 24 ≤ 140737488351232) :
    Calls Try.prog 29 #[v, .func (.func 30) #[] #[]] w (IdxPost modeB xs w) := by
  obtain ⟨A, b, off, cap, rfl, hA, hc⟩ := h
  obtain ⟨n, hn⟩ : ∃ n, Hid (xs.length = n) := ⟨_, rfl⟩
  have Hc := Lib.hid hc
  have HA := Lib.hid hA
  rw [hn.out] at hl HA ⊢
  clear hc hA
  go_enter Try.func29, Try.ntmps29
  go_wp2_with fail
  go_loopw [8] (fun i wr => ∃ k : Nat, k ≤ n ∧ i = .int .i64 k ∧ Keeps NoBlock w wr ∧ Hid (∀ (j : Nat) (y : Ev), j < k → xs[j]? = some y → modeB y = false)) (fun i _ => n - (intOf i).toNat)
  case atStart => exact ⟨0, Nat.zero_le _, rfl, Keeps.refl _ _, fun j y hj => by omega⟩
  case round =>
    obtain ⟨k, hk, rfl, hkp, hall⟩ := hrel
    by_cases hlt : k < n
    · obtain ⟨x, hx⟩ : ∃ x, xs[k]? = some x := ⟨_, List.getElem?_eq_getElem (by rw [hn.out]; exact hlt)⟩
      obtain ⟨rfl, hb1⟩ := HA.out (by omega)
      have hcx := cells3 Hc.out hx
      rw [← hkp.cell hb1 (fun h => h), ← hkp.cell hb1 (fun h => h), ← hkp.cell hb1 (fun h => h)] at hcx
      have Hx := Lib.hid hx
      clear hx
      cases hpx : modeB x with
      | true =>
        have hcl := Lib.hid (fun W => clo_calls x W)
        have Hpx := Lib.hid hpx
        obtain ⟨kind, thread, mode⟩ := x
        dsimp only at hcx
        clear hpx
        go_wp2_with fail
        refine (hcl.out _).mono ?_
        rintro e w1 ⟨rfl, hk1⟩
        rw [show decide (0 < mode) = true from Hpx.out]
        have hk01 := Lib.hid (hkp.trans hk1 (fun _ _ h => h))
        clear hk1
        go_wp2_with fail
        go_ret
        exact ⟨by rw [idxI_at Hx.out Hpx.out hall.out]; rfl, hk01.out⟩
      | false =>
        have hcl := Lib.hid (fun W => clo_calls x W)
        have Hpx := Lib.hid hpx
        obtain ⟨kind, thread, mode⟩ := x
        dsimp only at hcx
        clear hpx
        go_wp2_with fail
        refine (hcl.out _).mono ?_
        rintro e w1 ⟨rfl, hk1⟩
        rw [show decide (0 < mode) = false from Hpx.out]
        have hk01 := Lib.hid (hkp.trans hk1 (fun _ _ h => h))
        clear hk1
        go_wp2_with fail
        refine ⟨⟨k + 1, by omega, by go_num, hk01.out, fun j y hj hy => ?_⟩, by simp [intOf]; omega⟩
        by_cases e : j = k
        · subst e
          have hxy := Hx.out
          rw [hy] at hxy
          cases hxy
          exact Hpx.out
        · exact hall.out j y (by omega) hy
    · obtain rfl : k = n := by omega
      go_wp2_with fail
      go_ret
      exact ⟨by rw [idxI_none (fun j y hj hy => hall.out j y (by rw [← hn.out]; exact hj) hy)]; rfl, hkp⟩

abbrev evZero : Ev := ⟨0, 0, 0⟩

/-- What Within hands back. -/
def WithinPost (w : World) (x : Ev) (l : List Ev) (ok : Bool) (e : Ending) (w' : World) : Prop :=
  ∃ A c, e = .returned (.tuple #[evV x, .slice A l.length c, .bool ok]) ∧ Rd encE 3 w' (.slice A l.length c) l ∧ Keeps NoBlock w w' ∧ l.length ≤ c ∧ ∀ b, (Value.slice A l.length c).ownBlock = some b → w.heap.size ≤ b ∧ b < w'.heap.size

theorem own_cap {w : World} {e : TypeId} {s n c : Nat} {A : Option Addr} {xs : List Value} (h : Own w e s (.slice A n c) n xs) : n ≤ c := by
  rcases Own.form h with ⟨h1, h2⟩ | ⟨g, cap, h1, _, h2, _⟩
  · omega
  · cases h1; exact h2

theorem within_none (v : Value) (xs : List Ev) (w : World) (h : Rd encE 3 w v xs) (hl : xs.length * 24 ≤ 140737488351232) (hno : idxI modeB xs = -1) :
    Calls Try.prog 26 #[v] w (WithinPost w evZero xs false) := by
  have hi := idxf_calls v xs (w.alloc (.cells #[.int .i64 0, .int .i64 0, .int .i64 0] 36)) (h.keeps ((Keeps.refl NoBlock _).alloc _) (fun _ _ h => h)) hl
  unfold IdxPost at hi
  rw [hno] at hi
  have Hi := Lib.hid hi
  have hcl := Lib.hid (fun W (k : Keeps NoBlock w W) => clone_calls v xs W (h.keeps k (fun _ _ h => h)) hl)
  obtain ⟨A, cap, rfl⟩ := h.isSlice
  clear hi h hno
  go_enter Try.func26, Try.ntmps26
  go_wp2_with fail
  refine Hi.out.mono ?_
  rintro e w1 ⟨rfl, k1⟩
  have k1' := ((Keeps.refl NoBlock w).alloc (.cells #[.int .i64 0, .int .i64 0, .int .i64 0] 36)).trans k1 (fun _ _ h => h)
  have hz : Hid (w1.heap[w.heap.size]? = some (.cells #[.int .i64 0, .int .i64 0, .int .i64 0] 36 (0, 0))) := by
    show _ = _
    rw [k1.block _ (by simp) (fun h => h)]; exact block_alloc_new _ _
  go_wp2_with fail
  refine (hcl.out w1 k1').mono ?_
  rintro e w2 ⟨A2, c2, rfl, M⟩
  have hz2 : w2.heap[w.heap.size]? = some (.cells #[.int .i64 0, .int .i64 0, .int .i64 0] 36 (0, 0)) := by
    rw [M.kp.block _ (lt_of_block hz.out) (fun h => h)]; exact hz.out
  have z0 := cell_of_block hz2 (o := 0) rfl
  have z1 := cell_of_block hz2 (o := 1) rfl
  have z2 := cell_of_block hz2 (o := 2) rfl
  have f0 := frozen_of_block hz2 (o := 0)
  have f1 := frozen_of_block hz2 (o := 1)
  have f2 := frozen_of_block hz2 (o := 2)
  have Hz2 := Lib.hid hz2
  have HM := Lib.hid M
  have HK := Lib.hid (k1'.trans M.kp (fun _ _ h => h))
  have z3 := lt_of_block hz2
  clear hz2 M k1 k1' hcl Hi
  go_wp2_with fail
  refine bodyPost_ret (v := .tuple #[evV evZero, .slice A2 xs.length c2, .bool false]) (by simp [results, Try.results26, go_sem, z0, z1, z2]) rfl ?_
  have kk : Keeps (fun b => b = w.heap.size) w2 (((w2.setCell ⟨w.heap.size, 0, none⟩ (.int .i64 0)).setCell ⟨w.heap.size, 1, none⟩ (.int .i64 0)).setCell ⟨w.heap.size, 2, none⟩ (.int .i64 0)) :=
    (((Keeps.refl (fun b => b = w.heap.size) w2).set (.inl rfl) _).set (.inl rfl) _).set (.inl rfl) _
  exact ⟨A2, c2, rfl, (Own.rd encE_len HM.out.own).keeps kk (fun b hb e => by have := HM.out.fresh b hb; have := lt_of_block hz.out; omega), HK.out.trans kk (fun j hj e => by omega), own_cap HM.out.own, fun b hb => ⟨by have := HM.out.fresh b hb; have := lt_of_block hz.out; omega, Nat.lt_of_lt_of_le (HM.out.lt b hb) kk.size⟩⟩

set_option maxHeartbeats 1000000 in
theorem within_some (A : Option Addr) (cap k : Nat) (x : Ev) (xs : List Ev) (w : World) (h : Rd encE 3 w (.slice A xs.length cap) xs) (hcap : xs.length ≤ cap) (hl : xs.length * 24 ≤ 140737488351232) (hi : idxI modeB xs = k) (hx : xs[k]? = some x) :
    Calls Try.prog 26 #[.slice A xs.length cap] w (WithinPost w x (xs.eraseIdx k) true) := by
  have hi0 := idxf_calls _ xs (w.alloc (.cells #[.int .i64 0, .int .i64 0, .int .i64 0] 36)) (h.keeps ((Keeps.refl NoBlock _).alloc _) (fun _ _ h => h)) hl
  unfold IdxPost at hi0
  rw [hi] at hi0
  have Hi := Lib.hid hi0
  obtain ⟨A', b, off, cap', hv, hA, hc⟩ := h
  cases hv
  have hk : k < xs.length := (List.getElem?_eq_some_iff.1 hx).1
  obtain ⟨rfl, hb1⟩ := hA (by omega)
  obtain ⟨n, hn⟩ : ∃ n, Hid (xs.length = n) := ⟨_, rfl⟩
  obtain ⟨Ad, hAd, hrest⟩ : ∃ Ad : Addr, (if cap = k + 1 then some (⟨b, off, none⟩ : Addr) else some ⟨b, off + (k + 1) * 3, none⟩) = some Ad ∧ Hid (∀ c', Rd encE 3 w (.slice (some Ad) (n - (k + 1)) c') (xs.drop (k + 1))) := by
    have key : ∀ (Ad : Addr) (c' : Nat), (0 < n - (k + 1) → some Ad = some ⟨b, off + (k + 1) * 3, none⟩) → Rd encE 3 w (.slice (some Ad) (n - (k + 1)) c') (xs.drop (k + 1)) := by
      intro Ad c' hAd
      have := Rd.part hA hc (some Ad) (k + 1) (n - (k + 1)) c' (by rw [hn.out]; rw [hn.out] at hk; omega) hAd
      rwa [List.take_of_length_le (by rw [List.length_drop, hn.out]; omega)] at this
    by_cases hh : cap = k + 1
    · exact ⟨⟨b, off, none⟩, by simp [hh], fun c' => key _ c' (fun h => by rw [hn.out] at hcap; omega)⟩
    · exact ⟨⟨b, off + (k + 1) * 3, none⟩, by simp [hh], fun c' => key _ c' (fun _ => rfl)⟩
  have hfirst : Hid (∀ c', Rd encE 3 w (.slice (some ⟨b, off, none⟩) k c') (xs.take k)) := fun c' => by
    have := Rd.part hA hc (some ⟨b, off, none⟩) 0 k c' (by omega) (fun _ => by rw [Nat.zero_mul, Nat.add_zero])
    simpa using this
  have hcx := cells3 hc hx
  have Hx := Lib.hid hx
  have herase : Hid (xs.take k ++ xs.drop (k + 1) = xs.eraseIdx k) := (List.eraseIdx_eq_take_drop_succ ..).symm
  have Hcon : Hid (∀ W q c1 c2, Keeps NoBlock w W → W.heap[q]? = some (.cells #[.slice (some ⟨b, off, none⟩) k c1, .slice (some Ad) (n - (k + 1)) c2] 22 (0, 0)) → Calls Try.prog 31 #[.slice (some ⟨q, 0, none⟩) 2 2] W (NewEvs W (xs.eraseIdx k))) := by
    intro W q c1 c2 kW hq
    rw [← herase.out]
    exact concat_calls q _ _ _ _ W hq ((hfirst.out c1).keeps kW (fun _ _ h => h)) ((hrest.out c2).keeps kW (fun _ _ h => h)) (by rw [List.length_take, List.length_drop]; omega)
  have hlen : Hid ((xs.eraseIdx k).length = n - 1) := by show _ = _; rw [List.length_eraseIdx_of_lt hk, hn.out]
  rw [hn.out] at hcap hl hk Hi ⊢
  clear hA hc hx hi hi0 herase
  have hbi0 : (0 : Int) ≤ (k : Int) := by omega
  have hbi1 : (k : Int) < (n : Int) := by omega
  have hbi2 : (k : Int) ≤ (cap : Int) := by omega
  have hbi3 : (k : Int) + 1 ≤ (n : Int) := by omega
  have hbi4 : (0 : Int) ≤ (k : Int) + 1 := by omega
  have hicap : k ≤ cap := by omega
  have hi1cap : k + 1 ≤ cap := by omega
  have hwp : IntKind.i64.wrap ((k : Int) + 1) = (k : Int) + 1 := IntWalk.i64_in _ (by omega)
  have htn : ((k : Int) + 1).toNat = k + 1 := by omega
  obtain ⟨kind, thread, mode⟩ := x
  dsimp only at hcx
  go_enter Try.func26, Try.ntmps26
  go_wp2_with fail
  refine Hi.out.mono ?_
  rintro e w1 ⟨rfl, k1⟩
  have k1' := ((Keeps.refl NoBlock w).alloc (.cells #[.int .i64 0, .int .i64 0, .int .i64 0] 36)).trans k1 (fun _ _ h => h)
  have hz : Hid (w1.heap[w.heap.size]? = some (.cells #[.int .i64 0, .int .i64 0, .int .i64 0] 36 (0, 0))) := by
    show _ = _
    rw [k1.block _ (by simp) (fun h => h)]; exact block_alloc_new _ _
  have hcx' : w1.cell? ⟨b, off + k * 3, none⟩ = some (.int .i64 kind) ∧ w1.cell? ⟨b, off + k * 3 + 1, none⟩ = some (.int .i64 thread) ∧ w1.cell? ⟨b, off + k * 3 + 2, none⟩ = some (.int .i64 mode) := by
    rw [k1'.cell hb1 (fun h => h), k1'.cell hb1 (fun h => h), k1'.cell hb1 (fun h => h)]; exact hcx
  have hb1' : b < w1.heap.size := Nat.lt_of_lt_of_le hb1 k1'.size
  have K1 := Lib.hid k1'
  clear hcx k1 k1' Hi
  go_wp2_with fail
  have hx0 : w.heap.size ≠ b := by omega
  have hx1 : b ≠ w.heap.size := by omega
  go_region_held3 (fun w' => w'.cell? ⟨b, off + k * 3, none⟩ = some (.int .i64 kind) ∧ w'.cell? ⟨b, off + k * 3 + 1, none⟩ = some (.int .i64 thread) ∧ w'.cell? ⟨b, off + k * 3 + 2, none⟩ = some (.int .i64 mode))
    (go_keep)
    (first
    | (go_at_call 31
       refine Calls.mono (Hcon.out _ _ cap (cap - (k + 1)) ?_ ?_) ?_
       · repeat (first | exact K1.out | refine Keeps.drew ?_ | refine Keeps.alloc ?_ _)
       · first | exact block_alloc_new _ _ | exact blk_drew (block_alloc_new _ _)
       rintro e w2 ⟨A2, c2, rfl, M⟩
       have M' := M.back (w := w1) (((Keeps.refl _ w1).alloc _).drew)
       have q0 := (M'.kp.cell (o := off + k * 3) hb1' (fun h => h)).trans hcx'.1
       have q1 := (M'.kp.cell (o := off + k * 3 + 1) hb1' (fun h => h)).trans hcx'.2.1
       have q2 := (M'.kp.cell (o := off + k * 3 + 2) hb1' (fun h => h)).trans hcx'.2.2
       have hz2 := (M'.kp.block _ (lt_of_block hz.out) (fun h => h)).trans hz.out
       have z0 := cell_of_block hz2 (o := 0) rfl
       have z1 := cell_of_block hz2 (o := 1) rfl
       have z2 := cell_of_block hz2 (o := 2) rfl
       have f0 := frozen_of_block hz2 (o := 0)
       have f1 := frozen_of_block hz2 (o := 1)
       have f2 := frozen_of_block hz2 (o := 2)
       have z3 := lt_of_block hz2
       have HM := Lib.hid M'
       clear M M' hz2)
    | fail)
  go_wp2_with fail
  refine bodyPost_ret (v := .tuple #[evV ⟨kind, thread, mode⟩, .slice A2 (xs.eraseIdx k).length c2, .bool true]) (by simp [results, Try.results26, go_sem, z0, z1, z2]) rfl ?_
  have kk : Keeps (fun b => b = w.heap.size) w2 (((w2.setCell ⟨w.heap.size, 0, none⟩ (.int .i64 kind)).setCell ⟨w.heap.size, 1, none⟩ (.int .i64 thread)).setCell ⟨w.heap.size, 2, none⟩ (.int .i64 mode)) :=
    (((Keeps.refl (fun b => b = w.heap.size) w2).set (.inl rfl) _).set (.inl rfl) _).set (.inl rfl) _
  exact ⟨A2, c2, rfl, (Own.rd encE_len HM.out.own).keeps kk (fun b hb e => by have := HM.out.fresh b hb; have := lt_of_block hz.out; omega), (K1.out.trans HM.out.kp (fun _ _ h => h)).trans kk (fun j hj e => by omega), own_cap HM.out.own, fun b hb => ⟨by have := HM.out.fresh b hb; have := lt_of_block hz.out; omega, Nat.lt_of_lt_of_le (HM.out.lt b hb) kk.size⟩⟩

theorem equalEv (x y : Ev) (w : World) : (Op.equalIn 10000 36 (evV x) (evV y)).run Try.prog w = .ok (decide (x = y)) w := by
  have u3 := Try.underlying3
  have a3 := Try.isAgg3
  have z3 := Try.sizeOf3
  have hS : Try.prog.underlying 36 = some (.struct (Try.prog.fieldsOf 36)) := by kernel_rfl
  have hp : Try.prog.stoodInHeld 36 = false := by kernel_rfl
  obtain ⟨a, b, c⟩ := x
  obtain ⟨a', b', c'⟩ := y
  rw [show (10000 : Nat) = 9999 + 1 from rfl, run_equalIn_agg w 9999 36 _ _ hS hp]
  simp only [Program.fieldsOf, Try.underlying36]
  go_simp
  by_cases h1 : a = a' <;> by_cases h2 : b = b' <;> by_cases h3 : c = c' <;> simp [h1, h2, h3]

theorem guardEv (op : BinOp) (a b : Operand) (xs ys : Array Value) (w : World) : (eqGuard op 36 a b (.agg xs) (.agg ys)).run Try.prog w = .ok () w := run_eqGuard_agg w op 36 a b xs ys (by kernel_rfl)

def SamePost {α : Type} [DecidableEq α] (xs ys : List α) (w : World) (e : Ending) (w' : World) : Prop := e = .returned (.bool (decide (xs = ys))) ∧ Keeps NoBlock w w'
theorem SamePost.yes {α : Type} [DecidableEq α] {xs ys : List α} {w w' : World} (h : xs = ys) (k : Keeps NoBlock w w') : SamePost xs ys w (.returned (.bool true)) w' := ⟨by simp [h], k⟩
theorem SamePost.no {α : Type} [DecidableEq α] {xs ys : List α} {w w' : World} (h : xs ≠ ys) (k : Keeps NoBlock w w') : SamePost xs ys w (.returned (.bool false)) w' := ⟨by simp [h], k⟩

theorem list_ext_lt {α : Type} {xs ys : List α} (hlen : xs.length = ys.length) (h : ∀ j, j < xs.length → xs[j]? = ys[j]?) : xs = ys := List.ext_getElem? (fun j => by
  by_cases hj : j < xs.length
  · exact h j hj
  · rw [List.getElem?_eq_none (by omega), List.getElem?_eq_none (by omega)])

set_option maxRecDepth 100000 in
/-- Events: are two lists of events alike? -/
theorem events_calls (va vb : Value) (xs ys : List Ev) (w : World) (ha : Rd encE 3 w va xs) (hb : Rd encE 3 w vb ys) (hl : xs.length < 1000000000000000) (hl' : ys.length < 1000000000000000) :
    Calls Try.prog 12 #[va, vb] w (SamePost xs ys w) := by
  obtain ⟨A, b, off, cap, rfl, hA, hc⟩ := ha
  obtain ⟨A', b', off', cap', rfl, hA', hc'⟩ := hb
  have Hc := Lib.hid hc
  have Hc' := Lib.hid hc'
  have HA := Lib.hid hA
  have HA' := Lib.hid hA'
  clear hc hc' hA hA'
  by_cases hlen : xs.length = ys.length
  · obtain ⟨n, hn⟩ : ∃ n, Hid (ys.length = n) := ⟨_, rfl⟩
    have hnx : Hid (xs.length = n) := hlen.trans hn.out
    have Hext := Lib.hid (list_ext_lt hlen)
    clear hlen
    rw [hn.out, hnx.out]
    rw [hn.out] at hl' HA'
    rw [hnx.out] at hl HA
    go_enter Try.func12, Try.ntmps12
    go_wp2_with fail
    go_loopw [5] (fun i wr => ∃ k : Nat, k ≤ n ∧ i = .int .i64 k ∧ Keeps NoBlock w wr ∧ Hid (∀ j, j < k → xs[j]? = ys[j]?)) (fun i _ => n - (intOf i).toNat)
    case atStart => exact ⟨0, Nat.zero_le _, rfl, Keeps.refl _ _, fun j hj => by omega⟩
    case round =>
      obtain ⟨k, hk, rfl, hkp, hall⟩ := hrel
      by_cases hlt : k < n
      · obtain ⟨x, hx⟩ : ∃ x, xs[k]? = some x := ⟨_, List.getElem?_eq_getElem (by rw [hnx.out]; exact hlt)⟩
        obtain ⟨y, hy⟩ : ∃ y, ys[k]? = some y := ⟨_, List.getElem?_eq_getElem (by rw [hn.out]; exact hlt)⟩
        obtain ⟨rfl, hb1⟩ := HA.out (by omega)
        obtain ⟨rfl, hb2⟩ := HA'.out (by omega)
        have hcx := cells3 Hc.out hx
        have hcy := cells3 Hc'.out hy
        rw [← hkp.cell hb1 (fun h => h), ← hkp.cell hb1 (fun h => h), ← hkp.cell hb1 (fun h => h)] at hcx
        rw [← hkp.cell hb2 (fun h => h), ← hkp.cell hb2 (fun h => h), ← hkp.cell hb2 (fun h => h)] at hcy
        have Hx := Lib.hid hx
        have Hy := Lib.hid hy
        clear hx hy
        have hq : ∀ w, (Op.equalIn 10000 36 (.agg #[.int .i64 x.kind, .int .i64 x.thread, .int .i64 x.mode]) (.agg #[.int .i64 y.kind, .int .i64 y.thread, .int .i64 y.mode])).run Try.prog w = .ok (decide (x = y)) w := equalEv x y
        have hgu := guardEv
        by_cases hxy : x = y
        · rw [decide_eq_true hxy] at hq
          have Hxy := Lib.hid hxy
          clear hxy
          go_wp2_with fail
          go_quiet (fail)
          go_wp2_with fail
          refine ⟨⟨k + 1, by omega, by go_num, hkp.drewN _, fun j hj => ?_⟩, by simp [intOf]; omega⟩
          by_cases e : j = k
          · subst e; rw [Hx.out, Hy.out, Hxy.out]
          · exact hall.out j (by omega)
        · rw [decide_eq_false hxy] at hq
          have Hne : Hid (xs ≠ ys) := fun e => by
            have h1 := Hx.out
            rw [e, Hy.out] at h1
            simp at h1
            exact hxy h1.symm
          clear hxy
          go_wp2_with fail
          go_quiet (fail)
          go_wp2_with fail
          go_ret
          exact SamePost.no Hne.out (hkp.drewN _)
      · obtain rfl : k = n := by omega
        have Heq : Hid (xs = ys) := Hext.out (fun j hj => hall.out j (by rw [hnx.out] at hj; exact hj))
        go_wp2_with fail
        go_ret
        exact SamePost.yes Heq.out hkp
  · have hne : ((xs.length : Int) != ys.length) = true := by
      rw [bne_iff_ne]; omega
    have Hne : Hid (xs ≠ ys) := fun e => hlen (by rw [e])
    clear hlen
    go_enter Try.func12, Try.ntmps12
    go_wp2_with fail
    go_ret
    exact SamePost.no Hne.out (Keeps.refl _ _)
end Go.Proofs.Ytpchhlhjmkkoiaa
