/- Package frame: a word is loaded, or stored. -/
import Derived.Test.YtlnoejmckpimnaaFrC
namespace Go.Proofs.Ytlnoejmckpimnaa
open Go.RowKit Ieee
namespace Fr


set_option maxHeartbeats 4000000 in
set_option maxRecDepth 100000 in
theorem do_load_fault {w : World} {d g : Nat} {f : Frm} {ms : List Int} (a b k : Nat) (C N : Int) (h : DoAt w d g f ms) (ha : a < 8) (hb : b < 8) (hx : f.rs[b]? = some (k : Int)) (hk : ms.length ≤ k) : Calls Try.prog 45 #[.pointer (some ⟨d, 0, none⟩), insV (18, a, b, C, N)] w (Stopped w 6) := by
  have hlt := h.lt
  have z1 := cell_of_block (o := 1) h.head (dC_1 _ _)
  have f1 := frozen_of_block (o := 1) h.head
  have H := Lib.hid h
  have K := Lib.hid (Keeps.refl (fun b => b = d ∨ b = g) w)
  have K0 := Lib.hid (fun (o : Obj) => (Keeps.refl NoBlock w).alloc o)
  have zb := cell_of_block (o := 2 + b) h.head (dC_r hx)
  have zm := cell_of_block (o := 10) h.head (dC_m h.rl)
  unfold rv at zb
  obtain ⟨n, hn⟩ : ∃ n, Hid (ms.length = n) := ⟨_, rfl⟩
  have hml := h.ml
  rw [hn.out] at zm hk hml
  have HrA := Lib.hid (reg_at d a ha)
  have HrB := Lib.hid (reg_at d b hb)
  have Hc := Lib.hid (fun W (hW : W.cell? ⟨d, 10, none⟩ = some (.slice (some ⟨g, 0, none⟩) n n)) => cell_bad d g n k W hW hk hml)
  clear ha hb hx hk hml
  clear h
  unfold insV
  go_enter Try.func45, Try.ntmps45
  go_wp2_with fail
  go_quiet ((first | (go_at_call_of 58 (Value.int .i64 (a : Int)); exact Calls.quiet_of_same (HrA.out _)) | (go_at_call_of 58 (Value.int .i64 (b : Int)); exact Calls.quiet_of_same (HrB.out _))))
  go_wp2_with fail
  refine (Hc.out _ ?_).mono ?_
  · exact (((Keeps.refl NoBlock w).alloc _).cell hlt.1 (fun h => h)).trans zm
  rintro e w1 ⟨rfl, rfl⟩
  exact ⟨rfl, rfl, (K0.out _).drewN _⟩

set_option maxHeartbeats 4000000 in
set_option maxRecDepth 100000 in
theorem do_load {w : World} {d g : Nat} {f : Frm} {ms : List Int} (a b k : Nat) (C N v y : Int) (h : DoAt w d g f ms) (ha : a < 8) (hb : b < 8) (hx : f.rs[b]? = some (k : Int)) (hv : ms[k]? = some v) (hy : f.rs[a]? = some y) : Calls Try.prog 45 #[.pointer (some ⟨d, 0, none⟩), insV (18, a, b, C, N)] w (Done w d g { f with P := wrap64 (f.P + 1), rs := f.rs.set a v } ms) := by
  have hlt := h.lt
  have z1 := cell_of_block (o := 1) h.head (dC_1 _ _)
  have f1 := frozen_of_block (o := 1) h.head
  have H := Lib.hid h
  have K := Lib.hid (Keeps.refl (fun b => b = d ∨ b = g) w)
  have K0 := Lib.hid (fun (o : Obj) => (Keeps.refl NoBlock w).alloc o)
  have zb := cell_of_block (o := 2 + b) h.head (dC_r hx)
  have za := cell_of_block (o := 2 + a) h.head (dC_r hy)
  have fa := frozen_of_block (o := 2 + a) h.head
  have zm := cell_of_block (o := 10) h.head (dC_m h.rl)
  have zk := cell_of_block (o := k) h.mem (mC_at hv)
  unfold rv at zb za zk
  obtain ⟨n, hn⟩ : ∃ n, Hid (ms.length = n) := ⟨_, rfl⟩
  have hml := h.ml
  have hk := (List.getElem?_eq_some_iff.1 hv).1
  rw [hn.out] at zm hk hml
  have HrA := Lib.hid (reg_at d a ha)
  have HrB := Lib.hid (reg_at d b hb)
  have Ha := Lib.hid ha
  have Hc := Lib.hid (fun W (hW : W.cell? ⟨d, 10, none⟩ = some (.slice (some ⟨g, 0, none⟩) n n)) => cell_ok d g n k W hW hk hml)
  clear ha hb hx hk hml hv hy
  clear h
  unfold insV
  go_enter Try.func45, Try.ntmps45
  go_wp2_with fail
  go_quiet ((first | (go_at_call_of 58 (Value.int .i64 (a : Int)); exact Calls.quiet_of_same (HrA.out _)) | (go_at_call_of 58 (Value.int .i64 (b : Int)); exact Calls.quiet_of_same (HrB.out _))))
  go_wp2_with fail
  refine (Hc.out _ ?_).mono ?_
  · exact (((Keeps.refl NoBlock w).alloc _).cell hlt.1 (fun h => h)).trans zm
  rintro e w1 ⟨rfl, rfl⟩
  go_wp2_with fail
  go_end0
  exact ⟨rfl, (((H.out.alloc _).drewN _).reg Ha.out _).pc _, ((((K.out.alloc _).drewN _).set (.inl (.inl rfl)) _).set (.inl (.inl rfl)) _)⟩

set_option maxHeartbeats 4000000 in
set_option maxRecDepth 100000 in
theorem do_store_fault {w : World} {d g : Nat} {f : Frm} {ms : List Int} (a b k : Nat) (C N y : Int) (h : DoAt w d g f ms) (ha : a < 8) (hb : b < 8) (hx : f.rs[a]? = some (k : Int)) (hy : f.rs[b]? = some y) (hk : ms.length ≤ k) : Calls Try.prog 45 #[.pointer (some ⟨d, 0, none⟩), insV (19, a, b, C, N)] w (Stopped w 6) := by
  have hlt := h.lt
  have z1 := cell_of_block (o := 1) h.head (dC_1 _ _)
  have f1 := frozen_of_block (o := 1) h.head
  have H := Lib.hid h
  have K := Lib.hid (Keeps.refl (fun b => b = d ∨ b = g) w)
  have K0 := Lib.hid (fun (o : Obj) => (Keeps.refl NoBlock w).alloc o)
  have zb := cell_of_block (o := 2 + a) h.head (dC_r hx)
  have zy := cell_of_block (o := 2 + b) h.head (dC_r hy)
  have zm := cell_of_block (o := 10) h.head (dC_m h.rl)
  unfold rv at zb zy
  obtain ⟨n, hn⟩ : ∃ n, Hid (ms.length = n) := ⟨_, rfl⟩
  have hml := h.ml
  rw [hn.out] at zm hk hml
  have HrA := Lib.hid (reg_at d a ha)
  have HrB := Lib.hid (reg_at d b hb)
  have Hc := Lib.hid (fun W (hW : W.cell? ⟨d, 10, none⟩ = some (.slice (some ⟨g, 0, none⟩) n n)) => cell_bad d g n k W hW hk hml)
  have Hz := Lib.hid zm
  clear ha hb hx hk hml hy zm
  clear h
  unfold insV
  go_enter Try.func45, Try.ntmps45
  go_wp2_with fail
  go_quiet ((first | (go_at_call_of 58 (Value.int .i64 (a : Int)); exact Calls.quiet_of_same (HrA.out _)) | (go_at_call_of 58 (Value.int .i64 (b : Int)); exact Calls.quiet_of_same (HrB.out _))))
  go_wp2_with fail
  generalize hW : World.drewN (World.alloc w _) _ = W
  have kW : Keeps NoBlock w W := by rw [← hW]; exact ((Keeps.refl NoBlock w).alloc _).drewN _
  clear hW
  have z2 := (kW.cell (o := 2 + a) hlt.1 (fun h => h)).trans zb
  have z3 := (kW.cell (o := 2 + b) hlt.1 (fun h => h)).trans zy
  go_region_with ((go_at_call 59
                   refine (Hc.out _ ?_).mono ?_
                   · exact ((kW.drew).cell hlt.1 (fun h => h)).trans Hz.out
                   rintro e w1 ⟨rfl, rfl⟩
                   refine out_of (P := Try.prog) (md := .text) (a := { tmps := #[], defers := [] }) (w := w) ?_))
  all_goals
    exact ⟨rfl, rfl, kW.drew⟩

set_option maxHeartbeats 4000000 in
set_option maxRecDepth 100000 in
theorem do_store {w : World} {d g : Nat} {f : Frm} {ms : List Int} (a b k : Nat) (C N v y : Int) (h : DoAt w d g f ms) (ha : a < 8) (hb : b < 8) (hx : f.rs[a]? = some (k : Int)) (hv : ms[k]? = some v) (hy : f.rs[b]? = some y) : Calls Try.prog 45 #[.pointer (some ⟨d, 0, none⟩), insV (19, a, b, C, N)] w (Done w d g { f with P := wrap64 (f.P + 1) } (ms.set k y)) := by
  have hlt := h.lt
  have z1 := cell_of_block (o := 1) h.head (dC_1 _ _)
  have f1 := frozen_of_block (o := 1) h.head
  have H := Lib.hid h
  have K := Lib.hid (Keeps.refl (fun b => b = d ∨ b = g) w)
  have K0 := Lib.hid (fun (o : Obj) => (Keeps.refl NoBlock w).alloc o)
  have zb := cell_of_block (o := 2 + a) h.head (dC_r hx)
  have zy := cell_of_block (o := 2 + b) h.head (dC_r hy)
  have zm := cell_of_block (o := 10) h.head (dC_m h.rl)
  have zk := cell_of_block (o := k) h.mem (mC_at hv)
  have fk := frozen_of_block (o := k) h.mem
  have Ne := Lib.hid h.ne
  unfold rv at zb zy zk
  obtain ⟨n, hn⟩ : ∃ n, Hid (ms.length = n) := ⟨_, rfl⟩
  have hml := h.ml
  have hk := (List.getElem?_eq_some_iff.1 hv).1
  rw [hn.out] at zm hk hml
  have HrA := Lib.hid (reg_at d a ha)
  have HrB := Lib.hid (reg_at d b hb)
  have Hc := Lib.hid (fun W (hW : W.cell? ⟨d, 10, none⟩ = some (.slice (some ⟨g, 0, none⟩) n n)) => cell_ok d g n k W hW hk hml)
  have Hz := Lib.hid zm
  clear ha hb hx hk hml hy hv zm
  clear h
  unfold insV
  go_enter Try.func45, Try.ntmps45
  go_wp2_with fail
  go_quiet ((first | (go_at_call_of 58 (Value.int .i64 (a : Int)); exact Calls.quiet_of_same (HrA.out _)) | (go_at_call_of 58 (Value.int .i64 (b : Int)); exact Calls.quiet_of_same (HrB.out _))))
  go_wp2_with fail
  generalize hW : World.drewN (World.alloc w _) _ = W
  have kW : Keeps NoBlock w W := by rw [← hW]; exact ((Keeps.refl NoBlock w).alloc _).drewN _
  clear hW
  have z2 := (kW.cell (o := 2 + a) hlt.1 (fun h => h)).trans zb
  have z3 := (kW.cell (o := 2 + b) hlt.1 (fun h => h)).trans zy
  have z4 := (kW.cell (o := 1) hlt.1 (fun h => h)).trans z1
  have z5 := (kW.frozen (o := 1) hlt.1 (fun h => h)).trans f1
  have z6 := (kW.cell (o := k) hlt.2 (fun h => h)).trans zk
  have z7 := (kW.frozen (o := k) hlt.2 (fun h => h)).trans fk
  have HW := Lib.hid (H.out.keeps kW (fun h => h) (fun h => h))
  have KW := Lib.hid kW
  have hne : d ≠ g := Ne.out
  have hne2 : g ≠ d := fun e => Ne.out e.symm
  have Hkeep : Hid (∀ v, (W.setCell ⟨g, k, none⟩ v).drew.cell? ⟨d, 2 + a, none⟩ = some (.int .u64 k) ∧ (W.setCell ⟨g, k, none⟩ v).drew.cell? ⟨d, 2 + b, none⟩ = some (.int .u64 y)) := fun v =>
    ⟨(World.cell?_of_block (block_set_ne (by exact hne) v)).trans z2, (World.cell?_of_block (block_set_ne (by exact hne) v)).trans z3⟩
  clear zb zy zk fk z1 f1
  go_region_held3 (fun w' => w'.cell? ⟨d, 2 + a, none⟩ = some (.int .u64 k) ∧ w'.cell? ⟨d, 2 + b, none⟩ = some (.int .u64 y)) (first | exact Hkeep.out _ | go_keep)
    (first | (go_at_call 59
              refine (Hc.out _ ?_).mono ?_
              · exact ((kW.drew).cell hlt.1 (fun h => h)).trans Hz.out
              rintro e w1 ⟨rfl, rfl⟩))
  go_wp2_with fail
  go_end0
  exact ⟨rfl, ((HW.out.word k _).pc _).drew, ((((KW.out.mono (fun _ _ h => h.elim)).set (o := k) (.inl (.inr rfl)) _).set (o := 1) (.inl (.inl rfl)) _).drew)⟩
end Fr
end Go.Proofs.Ytlnoejmckpimnaa
