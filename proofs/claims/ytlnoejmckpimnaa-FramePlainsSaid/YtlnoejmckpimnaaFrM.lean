/- A frame that came in as an argument. -/
import Derived.Test.YtlnoejmckpimnaaFrL
import Derived.Test.YtlnoejmckpimnaaFrO
import Derived.Test.YtlnoejmckpimnaaOpens3
namespace Go.Proofs.Ytlnoejmckpimnaa
open Go.RowKit Go.ChangeShapes Go.WideShapes
namespace Fr

def RFrm (f : Frm) (cs : List Value) : Prop := cs = (.int .i64 f.F :: .int .i64 f.P :: f.rs.map rv) ∧ f.rs.length = 8 ∧ ∀ x ∈ f.rs, 0 ≤ x ∧ x < 18446744073709551616

section
variable {H : Type} {enc0 : TypeId × Value → H} {W : World} {base : Nat} {spare : Nat → Bool} {held : Bool}

set_option maxRecDepth 100000 in
theorem opens_frame : Opens enc0 Try.prog W base spare held RFrm 29 := by
  refine opens_structN Try.underlying29 (fun cs hl hf => ?_)
  rw [show Try.prog.cellsOf 29 = 10 by kernel_rfl] at hl
  obtain ⟨n0, y0, t0, _⟩ := hf 0 _ rfl
  obtain ⟨n1, y1, t1, _⟩ := hf 1 _ rfl
  obtain ⟨n2, y2, t2, _⟩ := hf 2 _ rfl
  obtain ⟨F, e0, _⟩ := DataW.trod_int Try.underlying3 (cell1 (c := 1) (t := 3) (o := 0) (by kernel_rfl) t0)
  obtain ⟨P, e1, _⟩ := DataW.trod_int Try.underlying3 (cell1 (c := 1) (t := 3) (o := 1) (by kernel_rfl) t1)
  have t2' := cell1 (c := 8) (t := 27) (o := 2) (by kernel_rfl) t2
  obtain ⟨xs, m, _, _, _, hxl, hel⟩ := DataW.trod_array Try.underlying27 t2'
  have c1 : Try.prog.cellsOf 26 = 1 := by kernel_rfl
  have each : ∀ i, i < 8 → ∃ n : Int, (((cs.drop 2).take 8).drop i).take 1 = [.int .u64 n] ∧ 0 ≤ n ∧ n < 18446744073709551616 := by
    intro i hi
    have h := hel i hi
    rw [c1, Nat.mul_one, List.getElem?_eq_getElem (by omega)] at h
    obtain ⟨n, hn, _, hw⟩ := DataW.trod_int Try.underlying26 h
    have := bounds_u64 hw
    exact ⟨n, hn, by omega, by omega⟩
  obtain ⟨a0, h0, b0⟩ := each 0 (by omega)
  obtain ⟨a1, h1, b1⟩ := each 1 (by omega)
  obtain ⟨a2, h2, b2⟩ := each 2 (by omega)
  obtain ⟨a3, h3, b3⟩ := each 3 (by omega)
  obtain ⟨a4, h4, b4⟩ := each 4 (by omega)
  obtain ⟨a5, h5, b5⟩ := each 5 (by omega)
  obtain ⟨a6, h6, b6⟩ := each 6 (by omega)
  obtain ⟨a7, h7, b7⟩ := each 7 (by omega)
  match cs, hl with
  | [v0, v1, v2, v3, v4, v5, v6, v7, v8, v9], _ =>
    simp at e0 e1 h0 h1 h2 h3 h4 h5 h6 h7
    subst e0 e1 h0 h1 h2 h3 h4 h5 h6 h7
    refine ⟨⟨F, P, [a0, a1, a2, a3, a4, a5, a6, a7]⟩, rfl, rfl, fun x hx => ?_⟩
    simp only [List.mem_cons, List.not_mem_nil, or_false] at hx
    rcases hx with rfl | rfl | rfl | rfl | rfl | rfl | rfl | rfl <;> assumption

def FrmAt (v : Value) (f : Frm) : Prop := v = frmV f ∧ f.rs.length = 8 ∧ ∀ x ∈ f.rs, 0 ≤ x ∧ x < 18446744073709551616

set_option maxRecDepth 100000 in
theorem frame_arg {ts : List TypeId} {ds : List (DataW H)} {j : Nat} {v : Value} {d : DataW H} {ps : List MemPlace} {r : Reach} {b0 : Nat} (hsz : (DataW.weightsEach Try.prog ts ds).all (· ≤ reachBytes) = true) (ht : ts[j]? = some 29) (hd : ds[j]? = some d)
    (hv : Value.okWide Try.prog W r b0 29 v) (h : DataW.Trod enc0 Try.prog W base spare held 29 v d ps) : ∃ f, FrmAt v f := by
  obtain ⟨cs, rfl, _⟩ := okWide_struct Try.underlying29 hv
  obtain ⟨f, h1, h2, h3⟩ := opens_arg hsz ht hd h opens_frame
  refine ⟨f, ?_, h2, h3⟩
  unfold frmV
  rw [← h1]
  simp [Value.cells]
end
end Fr
end Go.Proofs.Ytlnoejmckpimnaa
