/- Layer 8's small function: the same requests? -/
import Derived.Test.YtgepedfipfobjaaDiskD
import Derived.Laws.StructEq
namespace Go.Proofs.Ytgepedfipfobjaa
open Go.RowKit

theorem equalReq (x y : Req) (w : World) : (Op.equalIn 10000 29 (.agg #[.int .i64 x.who, .int .i64 x.block, .bool x.write, .int .u64 x.x]) (.agg #[.int .i64 y.who, .int .i64 y.block, .bool y.write, .int .u64 y.x])).run Try.prog w = .ok (decide (x = y)) w := by
  have u3 := Try.underlying3
  have a3 := Try.isAgg3
  have z3 := Try.sizeOf3
  have u4 := Try.underlying4
  have a4 := Try.isAgg4
  have z4 := Try.sizeOf4
  have u5 := Try.underlying27
  have a5 := Try.isAgg27
  have z5 := Try.sizeOf27
  have hS : Try.prog.underlying 29 = some (.struct (Try.prog.fieldsOf 29)) := by kernel_rfl
  have hp : Try.prog.stoodInHeld 29 = false := by kernel_rfl
  obtain ⟨a, b, c, d⟩ := x
  obtain ⟨a', b', c', d'⟩ := y
  rw [show (10000 : Nat) = 9999 + 1 from rfl, run_equalIn_agg w 9999 29 _ _ hS hp]
  simp only [Program.fieldsOf, Try.underlying29]
  go_simp
  by_cases h1 : a = a' <;> by_cases h2 : b = b' <;> by_cases h3 : c = c' <;> by_cases h4 : d = d' <;> simp [h1, h2, h3, h4]

theorem guardReq (op : BinOp) (a b : Operand) (xs ys : Array Value) (w : World) : (eqGuard op 29 a b (.agg xs) (.agg ys)).run Try.prog w = .ok () w := run_eqGuard_agg w op 29 a b xs ys (by kernel_rfl)

def SamePost {α : Type} [DecidableEq α] (xs ys : List α) (w : World) (e : Ending) (w' : World) : Prop := e = .returned (.bool (decide (xs = ys))) ∧ Keeps NoBlock w w'
theorem SamePost.yes {α : Type} [DecidableEq α] {xs ys : List α} {w w' : World} (h : xs = ys) (k : Keeps NoBlock w w') : SamePost xs ys w (.returned (.bool true)) w' := ⟨by simp [h], k⟩
theorem SamePost.no {α : Type} [DecidableEq α] {xs ys : List α} {w w' : World} (h : xs ≠ ys) (k : Keeps NoBlock w w') : SamePost xs ys w (.returned (.bool false)) w' := ⟨by simp [h], k⟩

theorem list_ext_lt {α : Type} {xs ys : List α} (hlen : xs.length = ys.length) (h : ∀ j, j < xs.length → xs[j]? = ys[j]?) : xs = ys := List.ext_getElem? (fun j => by
  by_cases hj : j < xs.length
  · exact h j hj
  · rw [List.getElem?_eq_none (by omega), List.getElem?_eq_none (by omega)])

theorem Rd.cells4 {w : World} {b off : Nat} {xs : List Req} (h : ∀ (j : Nat) (x : Req) (i : Nat) (u : Value), xs[j]? = some x → (encR x)[i]? = some u → w.cell? ⟨b, off + j * 4 + i, none⟩ = some u) {k : Nat} {x : Req} (hx : xs[k]? = some x) :
    w.cell? ⟨b, off + k * 4, none⟩ = some (.int .i64 x.who) ∧ w.cell? ⟨b, off + k * 4 + 1, none⟩ = some (.int .i64 x.block) ∧ w.cell? ⟨b, off + k * 4 + 2, none⟩ = some (.bool x.write) ∧ w.cell? ⟨b, off + k * 4 + 3, none⟩ = some (.int .u64 x.x) :=
  ⟨h k x 0 _ hx rfl, h k x 1 _ hx rfl, h k x 2 _ hx rfl, h k x 3 _ hx rfl⟩

set_option maxRecDepth 100000 in
/-- same: are two lists of requests alike? -/
theorem same_calls (va vb : Value) (xs ys : List Req) (w : World) (ha : Rd encR 4 w va xs) (hb : Rd encR 4 w vb ys) (hl : xs.length < 1000000) (hl' : ys.length < 1000000) :
    Calls Try.prog 14 #[va, vb] w (SamePost xs ys w) := by
  obtain ⟨A, b, off, cap, rfl, hA, hc⟩ := ha
  obtain ⟨A', b', off', cap', rfl, hA', hc'⟩ := hb
  have Hc := Lib.hid hc
  have Hc' := Lib.hid hc'
  have HA := Lib.hid hA
  have HA' := Lib.hid hA'
  clear hc hc' hA hA'
  by_cases hlen : xs.length = ys.length
  · obtain ⟨n, hn⟩ : ∃ n, Hid (ys.length = n) := ⟨_, rfl⟩
    have hnx : Hid (xs.length = n) := hlen.trans hn.out
    have Hext := Lib.hid (list_ext_lt hlen)
    clear hlen
    rw [hn.out, hnx.out]
    rw [hn.out] at hl' HA'
    rw [hnx.out] at hl HA
    go_enter Try.func14, Try.ntmps14
    go_wp2_with fail
    go_loopw [5] (fun i wr => ∃ k : Nat, k ≤ n ∧ i = .int .i64 k ∧ Keeps NoBlock w wr ∧ Hid (∀ j, j < k → xs[j]? = ys[j]?)) (fun i _ => n - (intOf i).toNat)
    case atStart => exact ⟨0, Nat.zero_le _, rfl, Keeps.refl _ _, fun j hj => by omega⟩
    case round =>
      obtain ⟨k, hk, rfl, hkp, hall⟩ := hrel
      by_cases hlt : k < n
      · obtain ⟨x, hx⟩ : ∃ x, xs[k]? = some x := ⟨_, List.getElem?_eq_getElem (by rw [hnx.out]; exact hlt)⟩
        obtain ⟨y, hy⟩ : ∃ y, ys[k]? = some y := ⟨_, List.getElem?_eq_getElem (by rw [hn.out]; exact hlt)⟩
        obtain ⟨rfl, hb1⟩ := HA.out (by omega)
        obtain ⟨rfl, hb2⟩ := HA'.out (by omega)
        have hcx := Rd.cells4 Hc.out hx
        have hcy := Rd.cells4 Hc'.out hy
        rw [← hkp.cell hb1 (fun h => h), ← hkp.cell hb1 (fun h => h), ← hkp.cell hb1 (fun h => h), ← hkp.cell hb1 (fun h => h)] at hcx
        rw [← hkp.cell hb2 (fun h => h), ← hkp.cell hb2 (fun h => h), ← hkp.cell hb2 (fun h => h), ← hkp.cell hb2 (fun h => h)] at hcy
        have Hx := Lib.hid hx
        have Hy := Lib.hid hy
        clear hx hy
        have hq : ∀ w, (Op.equalIn 10000 29 (.agg #[.int .i64 x.who, .int .i64 x.block, .bool x.write, .int .u64 x.x]) (.agg #[.int .i64 y.who, .int .i64 y.block, .bool y.write, .int .u64 y.x])).run Try.prog w = .ok (decide (x = y)) w := equalReq x y
        have hgu := guardReq
        by_cases hxy : x = y
        · rw [decide_eq_true hxy] at hq
          have Hxy := Lib.hid hxy
          clear hxy
          go_wp2_with fail
          go_quiet (fail)
          go_wp2_with fail
          refine ⟨⟨k + 1, by omega, by go_num, hkp.drewN _, fun j hj => ?_⟩, by simp [intOf]; omega⟩
          by_cases e : j = k
          · subst e; rw [Hx.out, Hy.out, Hxy.out]
          · exact hall.out j (by omega)
        · rw [decide_eq_false hxy] at hq
          have Hne : Hid (xs ≠ ys) := fun e => by
            have h1 := Hx.out
            rw [e, Hy.out] at h1
            simp at h1
            exact hxy h1.symm
          clear hxy
          go_wp2_with fail
          go_quiet (fail)
          go_wp2_with fail
          go_ret
          exact SamePost.no Hne.out (hkp.drewN _)
      · obtain rfl : k = n := by omega
        have Heq : Hid (xs = ys) := Hext.out (fun j hj => hall.out j (by rw [hnx.out] at hj; exact hj))
        go_wp2_with fail
        go_ret
        exact SamePost.yes Heq.out hkp
  · have hne : ((xs.length : Int) != ys.length) = true := by
      rw [bne_iff_ne]; omega
    have Hne : Hid (xs ≠ ys) := fun e => hlen (by rw [e])
    clear hlen
    go_enter Try.func14, Try.ntmps14
    go_wp2_with fail
    go_ret
    exact SamePost.no Hne.out (Keeps.refl _ _)
end Go.Proofs.Ytgepedfipfobjaa
