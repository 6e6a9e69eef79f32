/- Package gate: lock and unlock of one mutex. -/
import Derived.Test.YtlgolofcpokndaaGtF
import Derived.RegionTactic
namespace Go.Proofs.Ytlgolofcpokndaa
open Go.RowKit

namespace Gt

set_option maxRecDepth 100000 in
set_option maxHeartbeats 1000000 in
theorem lock_held {w0 : Base} {w : World} {G m : Nat} {vm vc vs : Value} {ms : List Mx} {cs : List Rw} {ss : List Sm} {x : Mx} (who : Int) (h : GAt w0 G vm vc vs ms cs ss w) (hx : ms[m]? = some x) (hh : x.held = true) (hl : x.q.length ≤ 1000000) :
    ∃ M, (∃ cap, vm = .slice (some ⟨M, 0, none⟩) ms.length cap) ∧ Calls Try.prog 27 #[.pointer (some ⟨M, m * 3, none⟩), .int .i64 who] w fun e w' => e = .returned (.bool false) ∧ ∃ v', GAt w0 G vm vc vs (ms.set m { x with v := v', q := x.q ++ [(who, 0)] }) cs ss w' := by
  have hml := (List.getElem?_eq_some_iff.1 hx).1
  have om := h.om
  have ow := Lib.hid (h.rm hx)
  obtain ⟨A, cap, rfl, hA⟩ := own_len om
  obtain ⟨M, rfl⟩ := hA (by omega)
  obtain ⟨z0, z1, z2⟩ := mx_cells rfl om hx
  have f0 := World.ownsRow.frozenAt om (m * 3)
  have f1 := World.ownsRow.frozenAt om (m * 3 + 1)
  have f2 := World.ownsRow.frozenAt om (m * 3 + 2)
  have hne : Hid (x.v.ownBlock ≠ some M) := fun e => absurd (h.env.sep (1, m) (0, 0) _ _ M (show gateE _ vc vs ms cs ss (1, m) = some (rowE x.v x.q) by show (ms[m]?).map _ = _; rw [hx]; rfl) rfl e rfl) (by simp)
  have H := Lib.hid h
  have Hx := Lib.hid hx
  refine ⟨M, ⟨cap, rfl⟩, ?_⟩
  rw [hh] at z1
  clear h hx om hh
  go_enter Try.func27, Try.ntmps27
  go_wp2_with fail
  refine (add_calls (who, 0) z0 f0 ow.out hne.out hl).mono ?_
  rintro e w1 ⟨rfl, hr⟩
  have hr' := Lib.hid (H.out.rowM Hx.out rfl hr)
  clear hr
  go_wp2_with fail
  go_ret
  exact ⟨rfl, hr'.out⟩

set_option maxRecDepth 100000 in
set_option maxHeartbeats 1000000 in
theorem lock_free {w0 : Base} {w : World} {G m : Nat} {vm vc vs : Value} {ms : List Mx} {cs : List Rw} {ss : List Sm} {x : Mx} (who : Int) (h : GAt w0 G vm vc vs ms cs ss w) (hx : ms[m]? = some x) (hh : x.held = false) :
    ∃ M, (∃ cap, vm = .slice (some ⟨M, 0, none⟩) ms.length cap) ∧ Calls Try.prog 27 #[.pointer (some ⟨M, m * 3, none⟩), .int .i64 who] w fun e w' => e = .returned (.bool true) ∧ GAt w0 G vm vc vs (ms.set m { x with held := true, own := who }) cs ss w' := by
  have hml := (List.getElem?_eq_some_iff.1 hx).1
  have om := h.om
  have ow := Lib.hid (h.rm hx)
  obtain ⟨A, cap, rfl, hA⟩ := own_len om
  obtain ⟨M, rfl⟩ := hA (by omega)
  obtain ⟨z0, z1, z2⟩ := mx_cells rfl om hx
  have f0 := World.ownsRow.frozenAt om (m * 3)
  have f1 := World.ownsRow.frozenAt om (m * 3 + 1)
  have f2 := World.ownsRow.frozenAt om (m * 3 + 2)
  have hne : Hid (x.v.ownBlock ≠ some M) := fun e => absurd (h.env.sep (1, m) (0, 0) _ _ M (show gateE _ vc vs ms cs ss (1, m) = some (rowE x.v x.q) by show (ms[m]?).map _ = _; rw [hx]; rfl) rfl e rfl) (by simp)
  have H := Lib.hid h
  have Hx := Lib.hid hx
  refine ⟨M, ⟨cap, rfl⟩, ?_⟩
  rw [hh] at z1
  have hfin : Hid (GAt w0 G (.slice (some ⟨M, 0, none⟩) ms.length cap) vc vs (ms.set m { x with held := true, own := who }) cs ss ((w.setCell ⟨M, m * 3 + 1, none⟩ (.bool true)).setCell ⟨M, m * 3 + 2, none⟩ (.int .i64 who))) := by
    have s1 := h.cellM (j := 1) (x' := { x with held := true }) (u := .bool true) hx rfl (by decide) rfl rfl rfl
    have s2 := s1.cellM (m := m) (j := 2) (x := { x with held := true }) (x' := { x with held := true, own := who }) (u := .int .i64 who) (set_at hx) (by rw [List.length_set]) (by decide) rfl rfl rfl
    rw [List.set_set] at s2
    exact s2
  clear h hx om hh ow
  go_enter Try.func27, Try.ntmps27
  go_wp2_with fail
  go_ret
  exact ⟨rfl, hfin.out⟩

set_option maxRecDepth 100000 in
set_option maxHeartbeats 1000000 in
theorem unlock_none {w0 : Base} {w : World} {G m : Nat} {vm vc vs : Value} {ms : List Mx} {cs : List Rw} {ss : List Sm} {x : Mx} (c : Int) (h : GAt w0 G vm vc vs ms cs ss w) (hx : ms[m]? = some x) (hq : x.q = []) :
    ∃ M, (∃ cap, vm = .slice (some ⟨M, 0, none⟩) ms.length cap) ∧ Calls Try.prog 28 #[.pointer (some ⟨M, m * 3, none⟩), .int .i64 c] w fun e w' => e = .returned (.tuple #[.int .i64 0, .bool false]) ∧ GAt w0 G vm vc vs (ms.set m { x with held := false, own := 0 }) cs ss w' := by
  have hml := (List.getElem?_eq_some_iff.1 hx).1
  have om := h.om
  have ow := Lib.hid (h.rm hx)
  obtain ⟨A, cap, rfl, hA⟩ := own_len om
  obtain ⟨M, rfl⟩ := hA (by omega)
  obtain ⟨z0, z1, z2⟩ := mx_cells rfl om hx
  have f0 := World.ownsRow.frozenAt om (m * 3)
  have f1 := World.ownsRow.frozenAt om (m * 3 + 1)
  have f2 := World.ownsRow.frozenAt om (m * 3 + 2)
  have hne : Hid (x.v.ownBlock ≠ some M) := fun e => absurd (h.env.sep (1, m) (0, 0) _ _ M (show gateE _ vc vs ms cs ss (1, m) = some (rowE x.v x.q) by show (ms[m]?).map _ = _; rw [hx]; rfl) rfl e rfl) (by simp)
  have H := Lib.hid h
  have Hx := Lib.hid hx
  refine ⟨M, ⟨cap, rfl⟩, ?_⟩
  have ow0 : Hid (Own w 76 2 x.v 0 []) := by have := ow.out; rw [hq] at this; exact this
  have hMw : M < w.heap.size := om.lt M rfl
  clear h hx om ow hq hne
  go_enter Try.func28, Try.ntmps28
  go_wp2_with fail
  refine (take_none c z0 ow0.out).mono ?_
  rintro e w1 ⟨rfl, k1⟩
  have H1 := Lib.hid (H.out.keeps k1)
  have y1 := (k1.cell (o := m * 3 + 1) hMw (fun e => e)).trans z1
  have y2 := (k1.cell (o := m * 3 + 2) hMw (fun e => e)).trans z2
  have g1 := (k1.frozen (o := m * 3 + 1) hMw (fun e => e)).trans f1
  have g2 := (k1.frozen (o := m * 3 + 2) hMw (fun e => e)).trans f2
  have hM1 : M < w1.heap.size := by have := k1.size; omega
  clear k1 z0 z1 z2 f0 f1 f2 hMw
  go_upto_region 2 with fail
  generalize hW : World.alloc w1 _ = w2
  have H2 : Hid (GAt w0 G (.slice (some ⟨M, 0, none⟩) ms.length cap) vc vs ms cs ss w2) := by show GAt _ _ _ _ _ _ _ _ _; rw [← hW]; exact H1.out.keeps ((Keeps.refl _ _).alloc _)
  have k2 : Keeps NoBlock w1 w2 := by rw [← hW]; exact (Keeps.refl _ _).alloc _
  have b2 : w2.heap[w1.heap.size]? = some (.cells #[.int .i64 0, .int .i64 0] 76 (0, 0)) := by rw [← hW]; exact block_alloc_new _ _
  have t0 : w2.cell? ⟨w1.heap.size, 0, none⟩ = some (.int .i64 0) := cell_of_block (o := 0) b2 rfl
  have u1' := (k2.cell (o := m * 3 + 1) hM1 (fun e => e)).trans y1
  have u2' := (k2.cell (o := m * 3 + 2) hM1 (fun e => e)).trans y2
  have v1 := (k2.frozen (o := m * 3 + 1) hM1 (fun e => e)).trans g1
  have v2 := (k2.frozen (o := m * 3 + 2) hM1 (fun e => e)).trans g2
  have hMn : M ≠ w1.heap.size := by omega
  have hMn2 : w1.heap.size ≠ M := by omega
  clear hW k2 b2 y1 y2 g1 g2
  have hfin : Hid (GAt w0 G (.slice (some ⟨M, 0, none⟩) ms.length cap) vc vs (ms.set m { x with held := false, own := 0 }) cs ss ((w2.setCell ⟨M, m * 3 + 1, none⟩ (.bool false)).setCell ⟨M, m * 3 + 2, none⟩ (.int .i64 0)).drew) := by
    have s1 := H2.out.cellM (j := 1) (x' := { x with held := false }) (u := .bool false) Hx.out rfl (by decide) rfl rfl rfl
    have s2 := s1.cellM (m := m) (j := 2) (x := { x with held := false }) (x' := { x with held := false, own := 0 }) (u := .int .i64 0) (set_at Hx.out) (by rw [List.length_set]) (by decide) rfl rfl rfl
    rw [List.set_set] at s2
    exact s2.keeps (Keeps.refl _ _).drew
  go_region
  go_wp2_with fail
  go_ret2
  exact ⟨rfl, hfin.out⟩

set_option maxRecDepth 100000 in
set_option maxHeartbeats 1000000 in
theorem unlock_some {w0 : Base} {w : World} {G m : Nat} {vm vc vs : Value} {ms : List Mx} {cs : List Rw} {ss : List Sm} {x : Mx} {y : Wt} (c : Int) (h : GAt w0 G vm vc vs ms cs ss w) (hx : ms[m]? = some x) (hq : 0 < x.q.length) (hy : x.q[at_ c x.q.length]? = some y) (hl : x.q.length ≤ 1000000) :
    ∃ M, (∃ cap, vm = .slice (some ⟨M, 0, none⟩) ms.length cap) ∧ Calls Try.prog 28 #[.pointer (some ⟨M, m * 3, none⟩), .int .i64 c] w fun e w' => e = .returned (.tuple #[.int .i64 y.1, .bool true]) ∧ ∃ v', GAt w0 G vm vc vs (ms.set m { v := v', q := x.q.eraseIdx (at_ c x.q.length), held := true, own := y.1 }) cs ss w' := by
  have hml := (List.getElem?_eq_some_iff.1 hx).1
  have om := h.om
  have ow := Lib.hid (h.rm hx)
  obtain ⟨A, cap, rfl, hA⟩ := own_len om
  obtain ⟨M, rfl⟩ := hA (by omega)
  obtain ⟨z0, z1, z2⟩ := mx_cells rfl om hx
  have f0 := World.ownsRow.frozenAt om (m * 3)
  have f1 := World.ownsRow.frozenAt om (m * 3 + 1)
  have f2 := World.ownsRow.frozenAt om (m * 3 + 2)
  have hne : Hid (x.v.ownBlock ≠ some M) := fun e => absurd (h.env.sep (1, m) (0, 0) _ _ M (show gateE _ vc vs ms cs ss (1, m) = some (rowE x.v x.q) by show (ms[m]?).map _ = _; rw [hx]; rfl) rfl e rfl) (by simp)
  have H := Lib.hid h
  have Hx := Lib.hid hx
  refine ⟨M, ⟨cap, rfl⟩, ?_⟩
  have hMw : M < w.heap.size := om.lt M rfl
  have hMn : M ≠ w.heap.size := by omega
  obtain ⟨q', hq'⟩ : ∃ q', x.q.eraseIdx (at_ c x.q.length) = q' := ⟨_, rfl⟩
  have htk := Lib.hid (take_calls c hq hy z0 f0 ow.out hne.out hl)
  rw [hq'] at htk ⊢
  clear h hx om ow hne z0 z1 z2 f0 f1 f2 hy hq hq' hl
  go_enter Try.func28, Try.ntmps28
  go_wp2_with fail
  refine htk.out.mono ?_
  rintro e w1 ⟨rfl, hr⟩
  obtain ⟨v', H1⟩ := H.out.rowM Hx.out rfl hr
  have HX : Hid ((ms.set m { x with v := v', q := q' })[m]? = some { x with v := v', q := q' }) := set_at Hx.out
  have om1 := H1.om
  rw [List.length_set] at om1
  obtain ⟨_, y1, y2⟩ := mx_cells (List.length_set ..) om1 HX.out
  simp only [] at y1 y2
  have g1 := World.ownsRow.frozenAt om1 (m * 3 + 1)
  have g2 := World.ownsRow.frozenAt om1 (m * 3 + 2)
  have hM1 : M < w1.heap.size := om1.lt M rfl
  have H1' := Lib.hid H1
  clear om1 hr H1 H Hx htk
  go_upto_region 2 with fail
  generalize hW : World.alloc w1 _ = w2
  have H2 : Hid (GAt w0 G (.slice (some ⟨M, 0, none⟩) ms.length cap) vc vs (ms.set m { x with v := v', q := q' }) cs ss w2) := by show GAt _ _ _ _ _ _ _ _ _; rw [← hW]; exact H1'.out.keeps ((Keeps.refl _ _).alloc _)
  have k2 : Keeps NoBlock w1 w2 := by rw [← hW]; exact (Keeps.refl _ _).alloc _
  have b2 : w2.heap[w1.heap.size]? = some (.cells #[.int .i64 y.1, .int .i64 y.2] 76 (0, 0)) := by rw [← hW]; exact block_alloc_new _ _
  have t0 : w2.cell? ⟨w1.heap.size, 0, none⟩ = some (.int .i64 y.1) := cell_of_block (o := 0) b2 rfl
  have u1' := (k2.cell (o := m * 3 + 1) hM1 (fun e => e)).trans y1
  have u2' := (k2.cell (o := m * 3 + 2) hM1 (fun e => e)).trans y2
  have v1 := (k2.frozen (o := m * 3 + 1) hM1 (fun e => e)).trans g1
  have v2 := (k2.frozen (o := m * 3 + 2) hM1 (fun e => e)).trans g2
  have hMn1 : M ≠ w1.heap.size := by omega
  have hMn2 : w1.heap.size ≠ M := by omega
  clear hW k2 b2 y1 y2 g1 g2
  have hfin : Hid (GAt w0 G (.slice (some ⟨M, 0, none⟩) ms.length cap) vc vs (ms.set m { v := v', q := q', held := true, own := y.1 }) cs ss ((w2.setCell ⟨M, m * 3 + 1, none⟩ (.bool true)).setCell ⟨M, m * 3 + 2, none⟩ (.int .i64 y.1)).drew) := by
    have s1 := H2.out.cellM (j := 1) (x' := { x with v := v', q := q', held := true }) (u := .bool true) HX.out (by rw [List.length_set]) (by decide) rfl rfl rfl
    have s2 := s1.cellM (m := m) (j := 2) (x := { x with v := v', q := q', held := true }) (x' := { v := v', q := q', held := true, own := y.1 }) (u := .int .i64 y.1) (set_at HX.out) (by rw [List.length_set, List.length_set]) (by decide) rfl rfl rfl
    rw [List.set_set, List.set_set] at s2
    exact s2.keeps (Keeps.refl _ _).drew
  go_region
  go_wp2_with fail
  go_ret2
  exact ⟨rfl, v', hfin.out⟩

end Gt
end Go.Proofs.Ytlgolofcpokndaa
