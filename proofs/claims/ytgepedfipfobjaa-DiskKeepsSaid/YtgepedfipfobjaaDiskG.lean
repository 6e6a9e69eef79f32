/- DiskKeeps: a block has what was written there last. -/
import Derived.Test.YtgepedfipfobjaaDiskF
import Derived.Test.YtgepedfipfobjaaArg
namespace Go.Proofs.Ytgepedfipfobjaa
open Go.RowKit

def KeepsInv (w : World) (d k : Nat) (last : Int) (wr : World) : Prop :=
  ∃ (F : Nat → Prop) (bs : List Int), DiskAt F wr d bs [] ∧ bs.length = 8 ∧ bs[k]? = some last ∧ (∀ j, F j → w.heap.size ≤ j) ∧ Keeps NoBlock w wr

set_option maxHeartbeats 4000000 in
set_option maxRecDepth 100000 in
theorem dkeeps_calls (A : Option Addr) (b off len cap : Nat) (zs : List Int) (s : Int) (w : World) (hs0 : 0 ≤ s) (hs1 : s < 256) (hA : 0 < len → A = some ⟨b, off, none⟩)
    (hc : ∀ j, j < len → w.cell? ⟨b, off + j, none⟩ = some (.int .u64 (zs.getD j 0))) (hl : len ≤ 1000000000000000) :
    Calls Try.prog 4 #[.slice A len cap, .int .u8 s] w fun e w' => e = .returned (.bool true) ∧ Below w.heap.size w w' := by
  have Hc := Lib.hid hc
  have HA := Lib.hid hA
  clear hc hA
  obtain ⟨k, hk⟩ : ∃ k : Nat, s % 8 = k := ⟨(s % 8).toNat, by omega⟩
  have hk8 : k < 8 := by omega
  go_enter Try.func4, Try.ntmps4
  go_wp2_with fail
  refine (new_calls _ w).mono ?_
  rintro e w1 ⟨d, F1, rfl, D1, f1, k1⟩
  rw [show newLen 8 = 8 by decide] at D1
  have inv1 : KeepsInv w d k 0 w1 := ⟨F1, _, D1, rfl, by rw [List.getElem?_replicate, if_pos hk8], f1, k1⟩
  clear D1 f1 k1
  go_wp2_with fail
  clear hk
  go_loopw [7, 8] (fun v i wr => ∃ (q : Nat) (last : Int), q ≤ 40 ∧ q ≤ len ∧ i = .int .i64 q ∧ v = .int .u64 last ∧ KeepsInv w d k last wr) (fun _ i _ => 40 - (intOf i).toNat)
  case atStart => exact ⟨0, 0, by omega, by omega, rfl, rfl, inv1⟩
  case round =>
    obtain ⟨q, last, hq, hql, rfl, rfl, F, bs, D, hbl, hbk, hF, hkp⟩ := hrel
    clear inv1
    by_cases hlt : q < len ∧ q < 40
    · obtain ⟨hlt, hlt6⟩ := hlt
      obtain rfl := HA.out (by omega)
      have hbw : b < w.heap.size := World.block_lt_of_cell? w ⟨b, off + q, none⟩ (Hc.out q hlt)
      obtain ⟨x, hx⟩ : ∃ x, zs.getD q 0 = x := ⟨_, rfl⟩
      have hc0 := Hc.out q hlt
      rw [hx] at hc0
      have c1 : wr.cell? ⟨b, off + q, none⟩ = some (.int .u64 x) := by rw [hkp.cell hbw (fun h => h)]; exact hc0
      clear hx
      have Hbl := Lib.hid hbl
      have Hbk := Lib.hid hbk
      clear hbl hbk
      go_wp2_with fail
      refine (ask_ok (F := F) d bs [] ⟨1, k, true, x⟩ _ D (by simp) (by simp [Hbl.out]; omega) rfl (by decide)).mono ?_
      rintro e w2 ⟨F2, rfl, D2, k2, g2⟩
      have f2 : ∀ j, F2 j → w.heap.size ≤ j := fun j hj => by
        rcases g2 j hj with h | h
        · exact hF j h
        · have := hkp.size; omega
      have k02 := hkp.trans k2 (fresh_not hF)
      go_wp2_with fail
      refine (done_calls (F := F2) d bs _ _ 0 ⟨1, k, true, x⟩ _ D2 (by simp [Int.emod_one]) rfl).mono ?_
      rintro e w3 ⟨rfl, D3, k3⟩
      have k03 := k02.trans k3 (fresh_not f2)
      have c3 : w3.cell? ⟨b, off + q, none⟩ = some (.int .u64 x) := by rw [k03.cell hbw (fun h => h)]; exact hc0
      have D3' : DiskAt F2 w3 d (bs.set k x) [] := D3
      clear D D2 D3 k2 k3 g2 c1
      go_wp2_with fail
      refine (ask_ok (F := F2) d (bs.set k x) [] ⟨1, k, false, 0⟩ _ D3' (by simp) (by simp [Hbl.out]; omega) rfl (by decide)).mono ?_
      rintro e w4 ⟨F4, rfl, D4, k4, g4⟩
      have f4 : ∀ j, F4 j → w.heap.size ≤ j := fun j hj => by
        rcases g4 j hj with h | h
        · exact f2 j h
        · have := k03.size; omega
      have k04 := k03.trans k4 (fresh_not f2)
      go_wp2_with fail
      refine (done_calls (F := F4) d (bs.set k x) _ 0 0 ⟨1, k, false, 0⟩ _ D4 (by simp) rfl).mono ?_
      rintro e w5 ⟨rfl, D5, k5⟩
      have k05 := k04.trans k5 (fresh_not f4)
      have D5' : DiskAt F4 w5 d (bs.set k x) [] := D5
      have hgot : got1 (bs.set k x) ⟨1, k, false, 0⟩ = x := by
        simp [got1, List.getD_eq_getElem?_getD, Hbl.out, hk8]
      rw [hgot]
      have inv5 : ∀ o, KeepsInv w d k x (w5.alloc o) := fun o => ⟨F4, bs.set k x, D5'.keeps (S := NoBlock) ((Keeps.refl _ _).alloc _) (fun _ _ h => h), by simp [Hbl.out], by rw [List.getElem?_set_self (by rw [Hbl.out]; exact hk8)], f4, k05.alloc _⟩
      have Inv5 := Lib.hid inv5
      have hxx : (x != x) = false := by simp
      clear inv5 D3' D4 D5 D5' k4 k5 g4 hgot k02 k03 k04 k05 f2 f4 hF hkp c3 hc0
      go_wp2_with fail
      exact ⟨⟨q + 1, x, by omega, by omega, by go_num, rfl, Inv5.out _⟩, by simp [intOf]; omega⟩
    · have HD := Lib.hid D
      have Hbk := Lib.hid hbk
      clear D hbk
      go_wp2_with fail
      all_goals
        refine (block_in (F := F) d bs [] k last _ HD.out Hbk.out).mono ?_
        rintro e w2 ⟨rfl, k2⟩
        have k02 := hkp.trans k2 (fun _ _ h => h)
        go_wp2_with fail
        refine (done_nil _ _).mono ?_
        rintro e w3 ⟨rfl, k3⟩
        have k03 := k02.trans k3 (fun _ _ h => h)
        go_wp2_with fail
        refine (block_nil _ _).mono ?_
        rintro e w4 ⟨rfl, k4⟩
        have k04 := (k03.alloc _).trans k4 (fun _ _ h => h)
        go_wp2_with fail
        refine (awake08_calls _).mono ?_
        rintro e w5 ⟨rfl, k5⟩
        have k05 := k04.trans k5 (fun _ _ h => h)
        have hll : (last == last) = true := by simp
        go_wp2_with fail
        refine (ask_nil ⟨0, 0, false, 0⟩ _).mono ?_
        rintro e w6 ⟨rfl, k6⟩
        have k06 := k05.trans k6 (fun _ _ h => h)
        go_wp2_with fail
        refine (wait_nil _).mono ?_
        rintro e w7 ⟨rfl, rfl⟩
        go_wp2_with fail
        go_ret
        exact ⟨rfl, k06.below (Nat.le_refl _) (fun _ h => h.elim)⟩

theorem dkeeps_any (w : World) (A : Option Addr) (b off len cap : Nat) (zs : List Int) (h : IntsAt .u64 w A b off len zs) (hl : len * 8 ≤ 140737488351232) (s : Int) (hs : (Lit.int .u8 s).wf = true) :
    Calls Try.prog 4 #[.slice A len cap, .int .u8 s] w fun e w' => e = .returned (.bool true) ∧ Below w.heap.size w w' := by
  have hs' := bounds_u8 hs
  exact dkeeps_calls A b off len cap zs s w (by omega) (by omega) h.addr h.cell (by omega)
end Go.Proofs.Ytgepedfipfobjaa
