/- Package gate: Down, Up, Count. -/
import Derived.Test.YtlgolofcpokndaaGtH
namespace Go.Proofs.Ytlgolofcpokndaa
open Go.RowKit

namespace Gt

theorem Down_out {w0 : Base} {w : World} {G : Nat} {vm vc vs : Value} {ms : List Mx} {cs : List Rw} {ss : List Sm} (who m : Int) (h : GAt w0 G vm vc vs ms cs ss w) (hm : m < 0 ∨ (ss.length : Int) ≤ m) :
    Calls Try.prog 14 #[.pointer (some ⟨G, 0, none⟩), .int .i64 who, .int .i64 m] w fun e w' => e = ret2 false 1 ∧ w = w' := by
  have hget := Lib.hid (getS_out m (cell_of_block h.head (o := 2) rfl) (vs_slice h) hm)
  clear h hm
  go_enter Try.func14, Try.ntmps14
  go_wp2_with fail
  refine hget.out.mono ?_
  rintro e w1 ⟨rfl, rfl⟩
  go_wp2_with fail
  go_ret2
  exact ⟨rfl, rfl⟩

theorem Down_busy {w0 : Base} {w : World} {G s : Nat} {vm vc vs : Value} {ms : List Mx} {cs : List Rw} {ss : List Sm} {x : Sm} (who : Int) (h : GAt w0 G vm vc vs ms cs ss w) (hs : Short 1000000 ms cs ss) (hx : ss[s]? = some x) (hb : waitsG ms cs ss who = true) :
    Calls Try.prog 14 #[.pointer (some ⟨G, 0, none⟩), .int .i64 who, .int .i64 s] w fun e w' => e = ret2 false 4 ∧ Keeps NoBlock w w' := by
  have hsl := (List.getElem?_eq_some_iff.1 hx).1
  have os := h.os
  obtain ⟨A, cap, rfl, hA⟩ := own_len h.os
  obtain ⟨D, rfl⟩ := hA (by omega)
  have c2 : w.cell? ⟨G, 2, none⟩ = some (.slice (some ⟨D, 0, none⟩) ss.length cap) := cell_of_block h.head (o := 2) rfl
  have hget := Lib.hid (getS_in s c2 hsl)
  have hne : Hid (x.v.ownBlock ≠ some D) := fun e => absurd (h.env.sep (3, s) (0, 2) _ _ D (show gateE vm vc _ ms cs ss (3, s) = some (rowE x.v x.q) by show (ss[s]?).map _ = _; rw [hx]; rfl) rfl e rfl) (by simp)
  have hDw : Hid (D < w.heap.size) := os.lt D rfl
  have HF := Lib.hid (fun o => World.ownsRow.frozenAt os o)
  have H := Lib.hid h
  have Hx := Lib.hid hx
  have HZ := Lib.hid (fun W (k : Keeps NoBlock w W) => sm_cells rfl (h.keeps k).os hx)
  have hwt := Lib.hid (waits_calls h hs who)
  rw [hb] at hwt
  clear h hx c2 hs hb os
  go_enter Try.func14, Try.ntmps14
  go_wp2_with fail
  refine hget.out.mono ?_
  rintro e w1 ⟨rfl, rfl⟩
  go_wp2_with fail
  refine hwt.out.mono ?_
  rintro e w2 ⟨rfl, k2⟩
  go_wp2_with fail
  go_ret2
  exact ⟨rfl, k2⟩

theorem Down_take {w0 : Base} {w : World} {G s : Nat} {vm vc vs : Value} {ms : List Mx} {cs : List Rw} {ss : List Sm} {x : Sm} (who : Int) (h : GAt w0 G vm vc vs ms cs ss w) (hs : Short 1000000 ms cs ss) (hx : ss[s]? = some x) (hb : waitsG ms cs ss who = false) (hc : 0 < x.cnt) (hc2 : x.cnt ≤ 1048576) :
    Calls Try.prog 14 #[.pointer (some ⟨G, 0, none⟩), .int .i64 who, .int .i64 s] w fun e w' => e = ret2 true 0 ∧ GAt w0 G vm vc vs ms cs (ss.set s { x with cnt := x.cnt - 1 }) w' := by
  have hsl := (List.getElem?_eq_some_iff.1 hx).1
  have os := h.os
  obtain ⟨A, cap, rfl, hA⟩ := own_len h.os
  obtain ⟨D, rfl⟩ := hA (by omega)
  have c2 : w.cell? ⟨G, 2, none⟩ = some (.slice (some ⟨D, 0, none⟩) ss.length cap) := cell_of_block h.head (o := 2) rfl
  have hget := Lib.hid (getS_in s c2 hsl)
  have hne : Hid (x.v.ownBlock ≠ some D) := fun e => absurd (h.env.sep (3, s) (0, 2) _ _ D (show gateE vm vc _ ms cs ss (3, s) = some (rowE x.v x.q) by show (ss[s]?).map _ = _; rw [hx]; rfl) rfl e rfl) (by simp)
  have hDw : Hid (D < w.heap.size) := os.lt D rfl
  have HF := Lib.hid (fun o => World.ownsRow.frozenAt os o)
  have H := Lib.hid h
  have Hx := Lib.hid hx
  have HZ := Lib.hid (fun W (k : Keeps NoBlock w W) => sm_cells rfl (h.keeps k).os hx)
  have hwt := Lib.hid (waits_calls h hs who)
  rw [hb] at hwt
  have hwr : IntKind.i64.wrap (x.cnt - 1) = x.cnt - 1 := by rw [IntKind.wrap_i64]; omega
  clear h hx c2 hs hb os
  go_enter Try.func14, Try.ntmps14
  go_wp2_with fail
  refine hget.out.mono ?_
  rintro e w1 ⟨rfl, rfl⟩
  go_wp2_with fail
  refine hwt.out.mono ?_
  rintro e w2 ⟨rfl, k2⟩
  obtain ⟨_, z1⟩ := HZ.out w2 k2
  have f1 := (k2.frozen (o := s * 2 + 1) hDw.out (fun e => e)).trans (HF.out (s * 2 + 1))
  have hfin := Lib.hid ((H.out.keeps k2).cellS (j := 1) (x' := { x with cnt := x.cnt - 1 }) (u := .int .i64 (x.cnt - 1)) Hx.out rfl (by decide) rfl rfl rfl)
  clear k2
  go_wp2_with fail
  go_ret2
  exact ⟨rfl, hfin.out⟩

theorem Down_wait {w0 : Base} {w : World} {G s : Nat} {vm vc vs : Value} {ms : List Mx} {cs : List Rw} {ss : List Sm} {x : Sm} (who : Int) (h : GAt w0 G vm vc vs ms cs ss w) (hs : Short 1000000 ms cs ss) (hx : ss[s]? = some x) (hb : waitsG ms cs ss who = false) (hc : x.cnt ≤ 0) :
    Calls Try.prog 14 #[.pointer (some ⟨G, 0, none⟩), .int .i64 who, .int .i64 s] w fun e w' => e = ret2 false 0 ∧ ∃ v', GAt w0 G vm vc vs ms cs (ss.set s { x with v := v', q := x.q ++ [(who, 0)] }) w' := by
  have hsl := (List.getElem?_eq_some_iff.1 hx).1
  have os := h.os
  obtain ⟨A, cap, rfl, hA⟩ := own_len h.os
  obtain ⟨D, rfl⟩ := hA (by omega)
  have c2 : w.cell? ⟨G, 2, none⟩ = some (.slice (some ⟨D, 0, none⟩) ss.length cap) := cell_of_block h.head (o := 2) rfl
  have hget := Lib.hid (getS_in s c2 hsl)
  have hne : Hid (x.v.ownBlock ≠ some D) := fun e => absurd (h.env.sep (3, s) (0, 2) _ _ D (show gateE vm vc _ ms cs ss (3, s) = some (rowE x.v x.q) by show (ss[s]?).map _ = _; rw [hx]; rfl) rfl e rfl) (by simp)
  have hDw : Hid (D < w.heap.size) := os.lt D rfl
  have HF := Lib.hid (fun o => World.ownsRow.frozenAt os o)
  have H := Lib.hid h
  have Hx := Lib.hid hx
  have HZ := Lib.hid (fun W (k : Keeps NoBlock w W) => sm_cells rfl (h.keeps k).os hx)
  have hwt := Lib.hid (waits_calls h hs who)
  have hq := hs.2.2 x (List.mem_of_getElem? hx)
  rw [hb] at hwt
  clear h hx c2 hs hb os
  go_enter Try.func14, Try.ntmps14
  go_wp2_with fail
  refine hget.out.mono ?_
  rintro e w1 ⟨rfl, rfl⟩
  go_wp2_with fail
  refine hwt.out.mono ?_
  rintro e w2 ⟨rfl, k2⟩
  obtain ⟨z0, z1⟩ := HZ.out w2 k2
  have f0 := (k2.frozen (o := s * 2) hDw.out (fun e => e)).trans (HF.out (s * 2))
  have H2 := Lib.hid (H.out.keeps k2)
  clear k2
  go_wp2_with fail
  refine (add_calls (who, 0) z0 f0 (H2.out.rs Hx.out) hne.out hq).mono ?_
  rintro e w3 ⟨rfl, hr⟩
  have hr' := Lib.hid (H2.out.rowS Hx.out rfl hr)
  clear hr
  go_wp2_with fail
  go_ret2
  exact ⟨rfl, hr'.out⟩

theorem Up_out {w0 : Base} {w : World} {G : Nat} {vm vc vs : Value} {ms : List Mx} {cs : List Rw} {ss : List Sm} (m c : Int) (h : GAt w0 G vm vc vs ms cs ss w) (hm : m < 0 ∨ (ss.length : Int) ≤ m) :
    Calls Try.prog 15 #[.pointer (some ⟨G, 0, none⟩), .int .i64 m, .int .i64 c] w fun e w' => e = ret3 0 false 1 ∧ w = w' := by
  have hget := Lib.hid (getS_out m (cell_of_block h.head (o := 2) rfl) (vs_slice h) hm)
  clear h hm
  go_enter Try.func15, Try.ntmps15
  go_wp2_with fail
  refine hget.out.mono ?_
  rintro e w1 ⟨rfl, rfl⟩
  go_wp2_with fail
  refine bodyPost_ret (v := .tuple #[.int .i64 (0), .bool false, .int .i64 1]) ?_ rfl ?_
  · simp [results, Try.results15, go_sem]
  exact ⟨rfl, rfl⟩

theorem Up_some {w0 : Base} {w : World} {G s : Nat} {vm vc vs : Value} {ms : List Mx} {cs : List Rw} {ss : List Sm} {x : Sm} {y : Wt} (c : Int) (h : GAt w0 G vm vc vs ms cs ss w) (hx : ss[s]? = some x) (hq : 0 < x.q.length) (hy : x.q[at_ c x.q.length]? = some y) (hl : x.q.length ≤ 1000000) :
    Calls Try.prog 15 #[.pointer (some ⟨G, 0, none⟩), .int .i64 s, .int .i64 c] w fun e w' => e = ret3 y.1 true 0 ∧ ∃ v', GAt w0 G vm vc vs ms cs (ss.set s { x with v := v', q := x.q.eraseIdx (at_ c x.q.length) }) w' := by
  have hsl := (List.getElem?_eq_some_iff.1 hx).1
  have os := h.os
  obtain ⟨A, cap, rfl, hA⟩ := own_len h.os
  obtain ⟨D, rfl⟩ := hA (by omega)
  have c2 : w.cell? ⟨G, 2, none⟩ = some (.slice (some ⟨D, 0, none⟩) ss.length cap) := cell_of_block h.head (o := 2) rfl
  have hget := Lib.hid (getS_in s c2 hsl)
  have hne : Hid (x.v.ownBlock ≠ some D) := fun e => absurd (h.env.sep (3, s) (0, 2) _ _ D (show gateE vm vc _ ms cs ss (3, s) = some (rowE x.v x.q) by show (ss[s]?).map _ = _; rw [hx]; rfl) rfl e rfl) (by simp)
  have hDw : Hid (D < w.heap.size) := os.lt D rfl
  have HF := Lib.hid (fun o => World.ownsRow.frozenAt os o)
  have H := Lib.hid h
  have Hx := Lib.hid hx
  have HZ := Lib.hid (fun W (k : Keeps NoBlock w W) => sm_cells rfl (h.keeps k).os hx)
  obtain ⟨z0, z1⟩ := HZ.out w (Keeps.refl _ _)
  have htk := Lib.hid (take_calls c hq hy z0 (HF.out (s * 2)) (h.rs hx) hne.out hl)
  obtain ⟨q', hq'⟩ : ∃ q', x.q.eraseIdx (at_ c x.q.length) = q' := ⟨_, rfl⟩
  rw [hq'] at htk ⊢
  clear h hx c2 os hq hy hl hq' z0 z1
  go_enter Try.func15, Try.ntmps15
  go_wp2_with fail
  refine hget.out.mono ?_
  rintro e w1 ⟨rfl, rfl⟩
  go_wp2_with fail
  refine htk.out.mono ?_
  rintro e w3 ⟨rfl, hr⟩
  obtain ⟨v', hg⟩ := H.out.rowS Hx.out rfl hr
  have Hg := Lib.hid hg
  clear hr hg
  go_wp2_with fail
  refine bodyPost_ret (v := .tuple #[.int .i64 (y.1), .bool true, .int .i64 0]) ?_ rfl ?_
  · simp [results, Try.results15, go_sem]
  exact ⟨rfl, v', Hg.out.keeps ((Keeps.refl NoBlock _).alloc _)⟩

theorem Up_full {w0 : Base} {w : World} {G s : Nat} {vm vc vs : Value} {ms : List Mx} {cs : List Rw} {ss : List Sm} {x : Sm} (c : Int) (h : GAt w0 G vm vc vs ms cs ss w) (hx : ss[s]? = some x) (hq : x.q = []) (hc : 1048576 ≤ x.cnt) :
    Calls Try.prog 15 #[.pointer (some ⟨G, 0, none⟩), .int .i64 s, .int .i64 c] w fun e w' => e = ret3 0 false 2 ∧ Keeps NoBlock w w' := by
  have hsl := (List.getElem?_eq_some_iff.1 hx).1
  have os := h.os
  obtain ⟨A, cap, rfl, hA⟩ := own_len h.os
  obtain ⟨D, rfl⟩ := hA (by omega)
  have c2 : w.cell? ⟨G, 2, none⟩ = some (.slice (some ⟨D, 0, none⟩) ss.length cap) := cell_of_block h.head (o := 2) rfl
  have hget := Lib.hid (getS_in s c2 hsl)
  have hne : Hid (x.v.ownBlock ≠ some D) := fun e => absurd (h.env.sep (3, s) (0, 2) _ _ D (show gateE vm vc _ ms cs ss (3, s) = some (rowE x.v x.q) by show (ss[s]?).map _ = _; rw [hx]; rfl) rfl e rfl) (by simp)
  have hDw : Hid (D < w.heap.size) := os.lt D rfl
  have HF := Lib.hid (fun o => World.ownsRow.frozenAt os o)
  have H := Lib.hid h
  have Hx := Lib.hid hx
  have HZ := Lib.hid (fun W (k : Keeps NoBlock w W) => sm_cells rfl (h.keeps k).os hx)
  obtain ⟨z0, z1⟩ := HZ.out w (Keeps.refl _ _)
  have hox := h.rs hx
  rw [hq] at hox
  have htk := Lib.hid (take_none c z0 hox)
  clear h hx c2 os hq z0 z1 hox
  go_enter Try.func15, Try.ntmps15
  go_wp2_with fail
  refine hget.out.mono ?_
  rintro e w1 ⟨rfl, rfl⟩
  go_wp2_with fail
  refine htk.out.mono ?_
  rintro e w3 ⟨rfl, k3⟩
  have K3 : Hid (Keeps NoBlock w (w3.alloc (.cells #[.int .i64 0, .int .i64 0] 76))) := k3.alloc _
  obtain ⟨_, z1⟩ := HZ.out _ K3.out
  clear k3
  go_wp2_with fail
  refine bodyPost_ret (v := .tuple #[.int .i64 (0), .bool false, .int .i64 2]) ?_ rfl ?_
  · simp [results, Try.results15, go_sem]
  exact ⟨rfl, K3.out⟩

theorem Up_more {w0 : Base} {w : World} {G s : Nat} {vm vc vs : Value} {ms : List Mx} {cs : List Rw} {ss : List Sm} {x : Sm} (c : Int) (h : GAt w0 G vm vc vs ms cs ss w) (hx : ss[s]? = some x) (hq : x.q = []) (hc : x.cnt < 1048576) (hc0 : 0 ≤ x.cnt) :
    Calls Try.prog 15 #[.pointer (some ⟨G, 0, none⟩), .int .i64 s, .int .i64 c] w fun e w' => e = ret3 0 false 0 ∧ GAt w0 G vm vc vs ms cs (ss.set s { x with cnt := x.cnt + 1 }) w' := by
  have hsl := (List.getElem?_eq_some_iff.1 hx).1
  have os := h.os
  obtain ⟨A, cap, rfl, hA⟩ := own_len h.os
  obtain ⟨D, rfl⟩ := hA (by omega)
  have c2 : w.cell? ⟨G, 2, none⟩ = some (.slice (some ⟨D, 0, none⟩) ss.length cap) := cell_of_block h.head (o := 2) rfl
  have hget := Lib.hid (getS_in s c2 hsl)
  have hne : Hid (x.v.ownBlock ≠ some D) := fun e => absurd (h.env.sep (3, s) (0, 2) _ _ D (show gateE vm vc _ ms cs ss (3, s) = some (rowE x.v x.q) by show (ss[s]?).map _ = _; rw [hx]; rfl) rfl e rfl) (by simp)
  have hDw : Hid (D < w.heap.size) := os.lt D rfl
  have HF := Lib.hid (fun o => World.ownsRow.frozenAt os o)
  have H := Lib.hid h
  have Hx := Lib.hid hx
  have HZ := Lib.hid (fun W (k : Keeps NoBlock w W) => sm_cells rfl (h.keeps k).os hx)
  obtain ⟨z0, z1⟩ := HZ.out w (Keeps.refl _ _)
  have hox := h.rs hx
  rw [hq] at hox
  have htk := Lib.hid (take_none c z0 hox)
  have hwr : IntKind.i64.wrap (x.cnt + 1) = x.cnt + 1 := by rw [IntKind.wrap_i64]; omega
  clear h hx c2 os hq z0 z1 hox
  go_enter Try.func15, Try.ntmps15
  go_wp2_with fail
  refine hget.out.mono ?_
  rintro e w1 ⟨rfl, rfl⟩
  go_wp2_with fail
  refine htk.out.mono ?_
  rintro e w3 ⟨rfl, k3⟩
  go_upto_region 5 with fail
  generalize hW : World.alloc w3 _ = w4
  have K4 : Hid (Keeps NoBlock w w4) := by show Keeps _ _ _; rw [← hW]; exact k3.alloc _
  obtain ⟨_, z1⟩ := HZ.out w4 K4.out
  have f1 := (K4.out.frozen (o := s * 2 + 1) hDw.out (fun e => e)).trans (HF.out (s * 2 + 1))
  have hfin := Lib.hid ((H.out.keeps K4.out).cellS (j := 1) (x' := { x with cnt := x.cnt + 1 }) (u := .int .i64 (x.cnt + 1)) Hx.out rfl (by decide) rfl rfl rfl)
  clear k3 hW
  go_wp2_with fail
  refine bodyPost_ret (v := .tuple #[.int .i64 (0), .bool false, .int .i64 0]) ?_ rfl ?_
  · simp [results, Try.results15, go_sem]
  exact ⟨rfl, hfin.out⟩

theorem Count_out {w0 : Base} {w : World} {G : Nat} {vm vc vs : Value} {ms : List Mx} {cs : List Rw} {ss : List Sm} (m : Int) (h : GAt w0 G vm vc vs ms cs ss w) (hm : m < 0 ∨ (ss.length : Int) ≤ m) :
    Calls Try.prog 18 #[.pointer (some ⟨G, 0, none⟩), .int .i64 m] w fun e w' => e = .returned (.int .i64 0) ∧ w = w' := by
  have hget := Lib.hid (getS_out m (cell_of_block h.head (o := 2) rfl) (vs_slice h) hm)
  clear h hm
  go_enter Try.func18, Try.ntmps18
  go_wp2_with fail
  refine hget.out.mono ?_
  rintro e w1 ⟨rfl, rfl⟩
  go_wp2_with fail
  go_ret
  exact ⟨rfl, rfl⟩

theorem Count_in {w0 : Base} {w : World} {G s : Nat} {vm vc vs : Value} {ms : List Mx} {cs : List Rw} {ss : List Sm} {x : Sm} (h : GAt w0 G vm vc vs ms cs ss w) (hx : ss[s]? = some x) :
    Calls Try.prog 18 #[.pointer (some ⟨G, 0, none⟩), .int .i64 s] w fun e w' => e = .returned (.int .i64 x.cnt) ∧ w = w' := by
  have hsl := (List.getElem?_eq_some_iff.1 hx).1
  have os := h.os
  obtain ⟨A, cap, rfl, hA⟩ := own_len h.os
  obtain ⟨D, rfl⟩ := hA (by omega)
  have c2 : w.cell? ⟨G, 2, none⟩ = some (.slice (some ⟨D, 0, none⟩) ss.length cap) := cell_of_block h.head (o := 2) rfl
  have hget := Lib.hid (getS_in s c2 hsl)
  have hne : Hid (x.v.ownBlock ≠ some D) := fun e => absurd (h.env.sep (3, s) (0, 2) _ _ D (show gateE vm vc _ ms cs ss (3, s) = some (rowE x.v x.q) by show (ss[s]?).map _ = _; rw [hx]; rfl) rfl e rfl) (by simp)
  have hDw : Hid (D < w.heap.size) := os.lt D rfl
  have HF := Lib.hid (fun o => World.ownsRow.frozenAt os o)
  have H := Lib.hid h
  have Hx := Lib.hid hx
  have HZ := Lib.hid (fun W (k : Keeps NoBlock w W) => sm_cells rfl (h.keeps k).os hx)
  obtain ⟨_, z1⟩ := HZ.out w (Keeps.refl _ _)
  clear h hx c2 os
  go_enter Try.func18, Try.ntmps18
  go_wp2_with fail
  refine hget.out.mono ?_
  rintro e w1 ⟨rfl, rfl⟩
  go_wp2_with fail
  go_ret
  exact ⟨rfl, rfl⟩

end Gt
end Go.Proofs.Ytlgolofcpokndaa
