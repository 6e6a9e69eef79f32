/- Package frame: two words come to one, with a third register. -/
import Derived.Test.YtlnoejmckpimnaaFrF
namespace Go.Proofs.Ytlnoejmckpimnaa
open Go.RowKit Ieee
namespace Fr




set_option maxHeartbeats 4000000 in
set_option maxRecDepth 100000 in
theorem do_ari_badC {w : World} {d g : Nat} {f : Frm} {ms : List Int} (op : Int) (a b : Nat) (C N x u : Int) (h : DoAt w d g f ms) (ho : 2 ≤ op ∧ op ≤ 15) (hs : shortB op = false) (ha : a < 8) (hb : b < 8) (hC : C < 0 ∨ 8 ≤ C) (hx : f.rs[b]? = some x) (hu : f.rs[a]? = some u) :
    Calls Try.prog 45 #[.pointer (some ⟨d, 0, none⟩), insV (op, a, b, C, N)] w (Stopped w 8) := by
  have hlt := h.lt
  have z1 := cell_of_block (o := 1) h.head (dC_1 _ _)
  have f1 := frozen_of_block (o := 1) h.head
  have H := Lib.hid h
  have K := Lib.hid (Keeps.refl (fun b => b = d ∨ b = g) w)
  have K0 := Lib.hid (fun (o : Obj) => (Keeps.refl NoBlock w).alloc o)
  have zb := cell_of_block (o := 2 + b) h.head (dC_r hx)
  have za := cell_of_block (o := 2 + a) h.head (dC_r hu)
  have fa := frozen_of_block (o := 2 + a) h.head
  unfold rv at zb za
  have HrA := Lib.hid (reg_at d a ha)
  have HrB := Lib.hid (reg_at d b hb)
  have Ha := Lib.hid ha
  have Hs := Lib.hid hs
  have HrC := Lib.hid (reg_bad d C hC)
  clear ha hb hx hu hs hC
  have q1 : (op == 1) = false := beq_eq_false_iff_ne.2 (by omega)
  have q16 : (op == 16) = false := beq_eq_false_iff_ne.2 (by omega)
  have q17 : (op == 17) = false := beq_eq_false_iff_ne.2 (by omega)
  have q18 : (op == 18) = false := beq_eq_false_iff_ne.2 (by omega)
  have q19 : (op == 19) = false := beq_eq_false_iff_ne.2 (by omega)
  have Ho := Lib.hid ho
  clear ho
  clear h
  unfold insV
  go_enter Try.func45, Try.ntmps45
  go_wp2_with fail
  go_quiet ((first | (go_at_call_of 58 (Value.int .i64 (a : Int)); exact Calls.quiet_of_same (HrA.out _)) | (go_at_call_of 58 (Value.int .i64 (b : Int)); exact Calls.quiet_of_same (HrB.out _))))
  go_wp2_with fail
  generalize hW : World.drewN (World.alloc w _) _ = W
  have KW : Hid (Keeps NoBlock w W) := by rw [← hW]; exact ((Keeps.refl NoBlock w).alloc _).drewN _
  have w0 : W.cell? ⟨w.heap.size, 0, none⟩ = some (.int .i64 op) := by rw [← hW]; exact cell_of_block (block_alloc_new _ _) rfl
  have w3 : W.cell? ⟨w.heap.size, 3, none⟩ = some (.int .i64 C) := by rw [← hW]; exact cell_of_block (block_alloc_new _ _) rfl
  clear hW
  have Za := Lib.hid za
  have Fa := Lib.hid fa
  have Z1 := Lib.hid z1
  have F1 := Lib.hid f1
  clear za fa z1 f1 zb
  go_wp2_with fail
  refine (short_calls _ _).mono ?_
  rintro e w2 ⟨rfl, rfl⟩
  rw [Hs.out]
  go_wp2_with fail
  refine (HrC.out _).mono ?_
  rintro e w2 ⟨rfl, rfl⟩
  exact ⟨rfl, rfl, KW.out⟩

set_option maxHeartbeats 4000000 in
set_option maxRecDepth 100000 in
theorem do_long {w : World} {d g : Nat} {f : Frm} {ms : List Int} (op : Int) (a b c x y : Nat) (N u : Int) (h : DoAt w d g f ms) (ho : 2 ≤ op ∧ op ≤ 15) (hs : shortB op = false) (ha : a < 8) (hb : b < 8) (hc : c < 8) (hx : f.rs[b]? = some (x : Int)) (hy : f.rs[c]? = some (y : Int)) (hu : f.rs[a]? = some u) (hxb : x < 18446744073709551616) (hyb : y < 18446744073709551616) :
    Calls Try.prog 45 #[.pointer (some ⟨d, 0, none⟩), insV (op, a, b, c, N)] w (Done w d g { f with P := wrap64 (f.P + 1), rs := f.rs.set a ((ariI op x y).getD 0) } ms) := by
  have hlt := h.lt
  have z1 := cell_of_block (o := 1) h.head (dC_1 _ _)
  have f1 := frozen_of_block (o := 1) h.head
  have H := Lib.hid h
  have K := Lib.hid (Keeps.refl (fun b => b = d ∨ b = g) w)
  have K0 := Lib.hid (fun (o : Obj) => (Keeps.refl NoBlock w).alloc o)
  have zb := cell_of_block (o := 2 + b) h.head (dC_r hx)
  have za := cell_of_block (o := 2 + a) h.head (dC_r hu)
  have fa := frozen_of_block (o := 2 + a) h.head
  unfold rv at zb za
  have HrA := Lib.hid (reg_at d a ha)
  have HrB := Lib.hid (reg_at d b hb)
  have Ha := Lib.hid ha
  have zc := cell_of_block (o := 2 + c) h.head (dC_r hy)
  unfold rv at zc
  have Hs := Lib.hid hs
  have Hxb := Lib.hid hxb
  have Hyb := Lib.hid hyb
  have HrC := Lib.hid (reg_ok d c hc)
  have Zc := Lib.hid zc
  clear ha hb hx hu hs hxb hyb hy hc zc
  have q1 : (op == 1) = false := beq_eq_false_iff_ne.2 (by omega)
  have q16 : (op == 16) = false := beq_eq_false_iff_ne.2 (by omega)
  have q17 : (op == 17) = false := beq_eq_false_iff_ne.2 (by omega)
  have q18 : (op == 18) = false := beq_eq_false_iff_ne.2 (by omega)
  have q19 : (op == 19) = false := beq_eq_false_iff_ne.2 (by omega)
  have Ho := Lib.hid ho
  clear ho
  clear h
  unfold insV
  go_enter Try.func45, Try.ntmps45
  go_wp2_with fail
  go_quiet ((first | (go_at_call_of 58 (Value.int .i64 (a : Int)); exact Calls.quiet_of_same (HrA.out _)) | (go_at_call_of 58 (Value.int .i64 (b : Int)); exact Calls.quiet_of_same (HrB.out _))))
  go_wp2_with fail
  generalize hW : World.drewN (World.alloc w _) _ = W
  have KW : Hid (Keeps NoBlock w W) := by rw [← hW]; exact ((Keeps.refl NoBlock w).alloc _).drewN _
  have w0 : W.cell? ⟨w.heap.size, 0, none⟩ = some (.int .i64 op) := by rw [← hW]; exact cell_of_block (block_alloc_new _ _) rfl
  have w3 : W.cell? ⟨w.heap.size, 3, none⟩ = some (.int .i64 c) := by rw [← hW]; exact cell_of_block (block_alloc_new _ _) rfl
  clear hW
  have Za := Lib.hid za
  have Fa := Lib.hid fa
  have Z1 := Lib.hid z1
  have F1 := Lib.hid f1
  have zc := (KW.out.cell (o := 2 + c) hlt.1 (fun h => h)).trans Zc.out
  clear za fa z1 f1 zb
  go_wp2_with fail
  refine (short_calls _ _).mono ?_
  rintro e w2 ⟨rfl, rfl⟩
  rw [Hs.out]
  go_wp2_with fail
  refine (HrC.out _).mono ?_
  rintro e w2 ⟨rfl, rfl⟩
  go_wp2_with fail
  refine (ari_calls op x y Hxb.out Hyb.out _).mono ?_
  rintro e w1 ⟨he, k1⟩
  obtain ⟨r, q, he2⟩ : ∃ (r : Int) (q : Bool), e = out2 r q ∧ ((ariI op x y).getD 0) = r := by
    cases hv : ariI op x y with
    | none => rw [hv] at he; exact ⟨0, false, he, rfl⟩
    | some r => rw [hv] at he; exact ⟨r, true, he, rfl⟩
  obtain ⟨rfl, hr⟩ := he2
  clear he
  have kW := KW.out.trans k1 (fun _ _ h => h)
  have z2 := (kW.cell (o := 2 + a) hlt.1 (fun h => h)).trans Za.out
  have z3 := (kW.frozen (o := 2 + a) hlt.1 (fun h => h)).trans Fa.out
  have z4 := (kW.cell (o := 1) hlt.1 (fun h => h)).trans Z1.out
  have z5 := (kW.frozen (o := 1) hlt.1 (fun h => h)).trans F1.out
  have HW := Lib.hid (H.out.keeps kW (fun h => h) (fun h => h))
  have KW2 := Lib.hid kW
  have Hr := Lib.hid hr
  clear k1 kW hr
  go_wp2_with fail
  go_end0
  rw [Hr.out]
  exact ⟨rfl, (HW.out.reg Ha.out _).pc _, ((KW2.out.mono (fun _ _ h => h.elim)).set (o := 2 + a) (.inl (.inl rfl)) _).set (o := 1) (.inl (.inl rfl)) _⟩
end Fr
end Go.Proofs.Ytlnoejmckpimnaa
