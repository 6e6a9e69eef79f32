/- The fixed fact of layer 8's statements. -/
import Derived.Test.YtgepedfipfobjaaDiskE
namespace Go.Proofs.Ytgepedfipfobjaa
open Go.RowKit

theorem fresh_not {B : Nat} {F : Nat → Prop} (h : ∀ k, F k → B ≤ k) : ∀ j, j < B → F j → NoBlock j := fun j hj hF => by have := h j hF; omega

set_option maxRecDepth 100000 in
theorem awake08_calls (w : World) : Calls Try.prog 13 #[] w fun e w' => e = .returned (.bool true) ∧ Keeps NoBlock w w' := by
  go_enter Try.func13, Try.ntmps13
  go_wp2_with fail
  refine (new_calls _ w).mono ?_
  rintro e w1 ⟨d, F1, rfl, D1, f1, k1⟩
  rw [show newLen 2 = 2 by decide] at D1
  go_wp2_with fail
  refine (ask_ok (F := F1) d _ _ ⟨1, 1, true, 7⟩ _ D1 (by decide) (by decide) rfl (by decide)).mono ?_
  rintro e w2 ⟨F2, rfl, D2, k2, g2⟩
  have f2 : ∀ k, F2 k → w.heap.size ≤ k := fun k hk => by
    rcases g2 k hk with h | h
    · exact f1 k h
    · have := k1.size; omega
  have k02 : Keeps NoBlock w w2 := k1.trans k2 (fresh_not f1)
  go_wp2_with fail
  refine (ask_busy (F := F2) d _ _ ⟨1, 1, false, 0⟩ _ D2 (by decide) (by decide) rfl).mono ?_
  rintro e w3 ⟨rfl, k3⟩
  have D3 := D2.keeps k3 (fun _ _ h => h)
  go_wp2_with fail
  refine (ask_out (F := F2) d _ _ ⟨2, 2, false, 0⟩ _ D3 (.inr (by decide))).mono ?_
  rintro e w4 ⟨rfl, k4⟩
  have D4 := D3.keeps k4 (fun _ _ h => h)
  go_wp2_with fail
  refine (done_calls (F := F2) d _ _ (-1) 0 ⟨1, 1, true, 7⟩ _ D4 (by decide) rfl).mono ?_
  rintro e w5 ⟨rfl, D5, k5⟩
  have k05 : Keeps NoBlock w w5 := ((k02.trans k3 (fun _ _ h => h)).trans k4 (fun _ _ h => h)).trans k5 (fresh_not f2)
  have D6 : DiskAt F2 w5 d [0, 7] [] := D5
  rw [show got1 (List.replicate 2 0) ⟨1, 1, true, 7⟩ = 0 by decide]
  clear D1 D2 D3 D4 D5 k1 k2 k3 k4 k5 g2 k02
  go_wp2_with fail
  have D7 := D6.keeps (w' := w5.alloc (.cells #[.int .i64 1, .int .i64 1, .bool true, .int .u64 7] 29)) (S := NoBlock) ((Keeps.refl _ _).alloc _) (fun _ _ h => h)
  have b7 := block_alloc_new w5 (.cells #[.int .i64 1, .int .i64 1, .bool true, .int .u64 7] 29)
  have k7 := k05.alloc (.cells #[.int .i64 1, .int .i64 1, .bool true, .int .u64 7] 29)
  generalize w5.alloc (.cells #[.int .i64 1, .int .i64 1, .bool true, .int .u64 7] 29) = w7 at *
  refine (block_in (F := F2) d _ _ 1 7 _ D7 rfl).mono ?_
  rintro e w8 ⟨rfl, k8⟩
  have D8 := D7.keeps k8 (fun _ _ h => h)
  have b8 : w8.heap[w5.heap.size]? = some (.cells #[.int .i64 1, .int .i64 1, .bool true, .int .u64 7] 29 (0, 0)) := by
    rw [k8.block _ (lt_of_block b7) (fun h => h)]; exact b7
  have c8 := cell_of_block b8 (o := 0) rfl
  have k08 := k7.trans k8 (fun _ _ h => h)
  clear D7 D6 b7 k7 k8
  go_wp2_with fail
  refine (wait_calls (F := F2) d _ _ _ D8).mono ?_
  rintro e w9 ⟨v, rfl, hv, _, k9⟩
  obtain ⟨A, b, off, cap, rfl, _, _⟩ := hv
  have k09 := k08.trans k9 (fun _ _ h => h)
  go_wp2_with fail
  go_ret
  exact ⟨rfl, k09⟩
end Go.Proofs.Ytgepedfipfobjaa
