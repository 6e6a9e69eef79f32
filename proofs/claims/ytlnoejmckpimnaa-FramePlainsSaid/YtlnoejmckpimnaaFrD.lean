/- Package frame: instructions whose registers are none. -/
import Derived.Test.YtlnoejmckpimnaaFrC
namespace Go.Proofs.Ytlnoejmckpimnaa
open Go.RowKit Ieee
namespace Fr


theorem do_load_badA {w : World} {d g : Nat} {f : Frm} {ms : List Int} (A B C N : Int) (h : DoAt w d g f ms) (hA : A < 0 ∨ 8 ≤ A) : Calls Try.prog 45 #[.pointer (some ⟨d, 0, none⟩), insV (18, A, B, C, N)] w (Stopped w 8) := by
  have hlt := h.lt
  have z1 := cell_of_block (o := 1) h.head (dC_1 _ _)
  have f1 := frozen_of_block (o := 1) h.head
  have H := Lib.hid h
  have K := Lib.hid (Keeps.refl (fun b => b = d ∨ b = g) w)
  have K0 := Lib.hid (fun (o : Obj) => (Keeps.refl NoBlock w).alloc o)
  have Hr := Lib.hid (reg_bad d A hA)
  clear hA
  clear h
  unfold insV
  go_enter Try.func45, Try.ntmps45
  go_wp2_with fail
  go_region_with ((go_at_call 58; refine (Hr.out _).mono ?_; rintro e w1 ⟨rfl, rfl⟩; refine out_of (P := Try.prog) (md := .text) (a := { tmps := #[], defers := [] }) (w := w) ?_))
  all_goals
    exact ⟨rfl, rfl, (K0.out _).drew⟩

set_option maxHeartbeats 4000000 in
set_option maxRecDepth 100000 in
theorem do_load_badB {w : World} {d g : Nat} {f : Frm} {ms : List Int} (a : Nat) (B C N : Int) (h : DoAt w d g f ms) (ha : a < 8) (hB : B < 0 ∨ 8 ≤ B) : Calls Try.prog 45 #[.pointer (some ⟨d, 0, none⟩), insV (18, a, B, C, N)] w (Stopped w 8) := by
  have hlt := h.lt
  have z1 := cell_of_block (o := 1) h.head (dC_1 _ _)
  have f1 := frozen_of_block (o := 1) h.head
  have H := Lib.hid h
  have K := Lib.hid (Keeps.refl (fun b => b = d ∨ b = g) w)
  have K0 := Lib.hid (fun (o : Obj) => (Keeps.refl NoBlock w).alloc o)
  have Hr := Lib.hid (reg_ok d a ha)
  have Hb := Lib.hid (reg_bad d B hB)
  clear ha hB
  clear h
  unfold insV
  go_enter Try.func45, Try.ntmps45
  go_wp2_with fail
  go_region_with ((first
    | (go_at_call_of 58 (Value.int .i64 (a : Int)); refine (Hr.out _).mono ?_; rintro e w1 ⟨rfl, rfl⟩)
    | (go_at_call_of 58 (Value.int .i64 B); refine (Hb.out _).mono ?_; rintro e w1 ⟨rfl, rfl⟩; refine out_of (P := Try.prog) (md := .text) (a := { tmps := #[], defers := [] }) (w := w) ?_)))
  all_goals
    exact ⟨rfl, rfl, (K0.out _).drew⟩
theorem do_store_badA {w : World} {d g : Nat} {f : Frm} {ms : List Int} (A B C N : Int) (h : DoAt w d g f ms) (hA : A < 0 ∨ 8 ≤ A) : Calls Try.prog 45 #[.pointer (some ⟨d, 0, none⟩), insV (19, A, B, C, N)] w (Stopped w 8) := by
  have hlt := h.lt
  have z1 := cell_of_block (o := 1) h.head (dC_1 _ _)
  have f1 := frozen_of_block (o := 1) h.head
  have H := Lib.hid h
  have K := Lib.hid (Keeps.refl (fun b => b = d ∨ b = g) w)
  have K0 := Lib.hid (fun (o : Obj) => (Keeps.refl NoBlock w).alloc o)
  have Hr := Lib.hid (reg_bad d A hA)
  clear hA
  clear h
  unfold insV
  go_enter Try.func45, Try.ntmps45
  go_wp2_with fail
  go_region_with ((go_at_call 58; refine (Hr.out _).mono ?_; rintro e w1 ⟨rfl, rfl⟩; refine out_of (P := Try.prog) (md := .text) (a := { tmps := #[], defers := [] }) (w := w) ?_))
  all_goals
    exact ⟨rfl, rfl, (K0.out _).drew⟩

set_option maxHeartbeats 4000000 in
set_option maxRecDepth 100000 in
theorem do_store_badB {w : World} {d g : Nat} {f : Frm} {ms : List Int} (a : Nat) (B C N : Int) (h : DoAt w d g f ms) (ha : a < 8) (hB : B < 0 ∨ 8 ≤ B) : Calls Try.prog 45 #[.pointer (some ⟨d, 0, none⟩), insV (19, a, B, C, N)] w (Stopped w 8) := by
  have hlt := h.lt
  have z1 := cell_of_block (o := 1) h.head (dC_1 _ _)
  have f1 := frozen_of_block (o := 1) h.head
  have H := Lib.hid h
  have K := Lib.hid (Keeps.refl (fun b => b = d ∨ b = g) w)
  have K0 := Lib.hid (fun (o : Obj) => (Keeps.refl NoBlock w).alloc o)
  have Hr := Lib.hid (reg_ok d a ha)
  have Hb := Lib.hid (reg_bad d B hB)
  clear ha hB
  clear h
  unfold insV
  go_enter Try.func45, Try.ntmps45
  go_wp2_with fail
  go_region_with ((first
    | (go_at_call_of 58 (Value.int .i64 (a : Int)); refine (Hr.out _).mono ?_; rintro e w1 ⟨rfl, rfl⟩)
    | (go_at_call_of 58 (Value.int .i64 B); refine (Hb.out _).mono ?_; rintro e w1 ⟨rfl, rfl⟩; refine out_of (P := Try.prog) (md := .text) (a := { tmps := #[], defers := [] }) (w := w) ?_)))
  all_goals
    exact ⟨rfl, rfl, (K0.out _).drew⟩
end Fr
end Go.Proofs.Ytlnoejmckpimnaa
