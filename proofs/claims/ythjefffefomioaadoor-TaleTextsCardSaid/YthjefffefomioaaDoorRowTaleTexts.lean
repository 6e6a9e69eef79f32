/- The card of TaleTexts. -/
import Derived.Test.YthjefffefomioaaDoorTrB
import Derived.Test.YthjefffefomioaaDoorTlN
namespace Go.Proofs.YthjefffefomioaaDoor
open Go.ChangeShapes Go.WideShapes Go.ChangeAt Go.RowKit
namespace TaleTextsRow
set_option linter.unusedVariables false

theorem reads (os : Os) {H : Type} (enc : TypeId × Value → H) : ∃ places, DataW.whole enc Tryd.prog ((Tr.laidWorld os).forCall (fun _ _ => 0) ⟨#[], #[.slice none 0 0, .bool false], []⟩).memory Tryd.f6.params.toList Rows.taleTextsSpec.vars false #[Value.slice none 0 0, Value.bool false].toList 8 = some ([.nil, .lit (.bool false)], [], places) :=
  ⟨[], by kernel_rfl⟩

set_option maxRecDepth 100000 in
theorem lifted (os : Os) (started : os.Started) (H : Type) (enc : TypeId × Value → H) (F : Stop.Interp) :
    ReturnsInHanded {} Tryd.checked os 6 .any ((OpenSpec.ofChange Rows.taleTextsSpec).preRow enc Tryd.prog Tryd.f6 Rows.taleTextsRow.domain false Rows.taleTextsRow.laid) (((OpenSpec.ofChange Rows.taleTextsSpec).at F).post enc Tryd.prog Tryd.f6 false true false false) := by
  obtain ⟨places, hx⟩ := reads os enc
  refine returnsInHanded_of_row (C := Tryd.checked) (s := OpenSpec.ofChange Rows.taleTextsSpec) Tr.own started (by kernel_rfl) Tryd.func6
    (witness_row_atRef (enc := enc) (C := Tryd.checked) false (Tr.laidWorld os) #[.slice none 0 0, .bool false] rfl (by kernel_rfl) (by kernel_rfl) (by kernel_rfl)
      (OpenSpec.preRow_of_cond 8 hx (by kernel_rfl) (fun k hk => by cases hk) (by kernel_rfl) (Tr.laid_met os _))) ?_
  intro W base args ds gs before hval0 hW hcnd _ hsz0 hL hsh _
  have hG : Tl.Gl W := Tr.gl_of hsh hL
  have hsz : (DataW.weightsEach Tryd.prog (Tryd.f6.params.toList ++ Rows.taleTextsSpec.plain.varTypes Tryd.prog) (ds ++ gs)).all (· ≤ reachBytes) = true := hsz0
  have hval : ∀ (j : Nat) t v, Tryd.f6.params[j]? = some t → args[j]? = some v → Value.okWide Tryd.prog W .any base t v := hval0
  have hW' := hW
  obtain ⟨p, q, hA0, hV, rfl, hfz, hnd⟩ := hW'
  have hA : DataW.TrodAll enc Tryd.prog W 0 (fun _ => true) true Tryd.f6.params.toList args.toList ds p := hA0
  rw [Tryd.params6] at hA hval hsz
  obtain ⟨v0, vs0, d0, ds0, p0, q0, hargs, rfl, rfl, h0, r0⟩ := trodAll_cons hA
  obtain ⟨v1, vs1, d1, ds1, p1, q1, rfl, rfl, rfl, h1, r1⟩ := trodAll_cons r0
  obtain ⟨rfl, rfl, rfl⟩ := trodAll_nil r1
  obtain rfl : args = #[v0, v1] := by cases args; simp_all
  obtain ⟨rfl, rfl⟩ := trodVars_none hV
  have k0 := h0
  have lt0 : ∀ x ∈ p0, x.block < W.heap.size := by obtain ⟨m, hm⟩ := k0; exact DataW.trod_lt m _ _ _ hm
  obtain ⟨xs, A, b, off, cap, hcs, hA1, hB, hcap, hcells⟩ := opens_arg hsz (j := 0) rfl rfl h0 (opens_slice (t := 34) (e := 23) (sz := 3) (B := 24) Tryd.underlying34 (by kernel_rfl) (by decide) (by kernel_rfl) Tr.opens_step)
  obtain ⟨a0, len0, cap0, rfl⟩ := okWide_slice Tryd.underlying34 (hval 0 34 v0 rfl rfl)
  obtain ⟨en, rfl, rfl, rfl⟩ := open_bool Tryd.underlying4 (hval 1 4 v1 rfl rfl) h1
  have he0 : Value.slice a0 len0 cap0 = .slice A xs.length cap := by
    have := hcs
    simpa [Value.cells] using this
  obtain ⟨zs, hzs⟩ : ∃ zs : List Tl.Stp, xs.map (fun x => (⟨x.1, x.2.1, x.2.2⟩ : Tl.Stp)) = zs := ⟨_, rfl⟩
  have hzl : zs.length = xs.length := by rw [← hzs, List.length_map]
  have hzx : ∀ (j : Nat) (z : Tl.Stp), zs[j]? = some z → ∃ x, xs[j]? = some x ∧ z = ⟨x.1, x.2.1, x.2.2⟩ := fun j z hz => by
    rw [← hzs, List.getElem?_map] at hz
    obtain ⟨x, hx, e⟩ := Option.map_eq_some_iff.1 hz
    exact ⟨x, hx, e.symm⟩
  have hb0 : 0 < zs.length → A = some ⟨b, off, none⟩ ∧ b < W.heap.size := fun h => by
    rw [hzl] at h
    refine ⟨hA1 h, ?_⟩
    obtain ⟨ds, ⟨rfl, -⟩, -, hc⟩ := hcells 0 _ (List.getElem?_eq_getElem h)
    have := hc 0 _ rfl
    rcases Nat.lt_or_ge b W.heap.size with h' | h'
    · exact h'
    · simp [World.cell?, Array.getElem?_eq_none h'] at this
  have hC : ∀ (j : Nat) (z : Tl.Stp) (i : Nat) (u : Value), zs[j]? = some z → (Tl.encP z)[i]? = some u → W.cell? ⟨b, off + j * 3 + i, none⟩ = some u := fun j z i u hz hu => by
    obtain ⟨x, hx, rfl⟩ := hzx j z hz
    obtain ⟨ds, ⟨rfl, -⟩, -, hc⟩ := hcells j x hx
    exact hc i u hu
  have hf : ∀ z ∈ zs, Tl.Fit z.a ∧ Tl.Fit z.b := fun z hz => by
    obtain ⟨j, hj, rfl⟩ := List.getElem_of_mem hz
    obtain ⟨x, hx, e⟩ := hzx j _ (List.getElem?_eq_getElem hj)
    obtain ⟨ds, ⟨-, -, wb, wc⟩, -⟩ := hcells j x hx
    have hb := bounds_i64 wb
    have hc := bounds_i64 wc
    rw [e]
    exact ⟨⟨by simp only []; omega, by simp only []; omega⟩, ⟨by simp only []; omega, by simp only []; omega⟩⟩
  clear hA0 hval0 hsz0 hsz
  have hcall := Tl.taleTexts_calls en zs A b off cap W hG hb0 hC (by omega) hf
  rw [hzl, ← he0] at hcall
  refine hcall.mono fun e W' ⟨he, kp⟩ => ?_
  have bel : Below W.heap.size W W' := kp.below (Nat.le_refl _) (fun _ h => h.elim)
  subst he
  exact ⟨_, rfl, _, _, _, [], _, [], hW, trodAll_mk1 (shut_bool Tryd.underlying4 _), trodAll_cons_mk (Below.trod Tr.laidOut (by kernel_rfl) (of_decide_eq_true (by kernel_rfl)) k0 bel lt0) (trodAll_cons_mk (shut_bool Tryd.underlying4 _) trodAll_mk0), rfl, bel.frame _, fun h => by cases h⟩

theorem said : Rows.TaleTextsSaid :=
  OpenClaim.holds_of_cond 6 Tryd.f6 rfl rfl rfl rfl rfl rfl rfl ⟨rfl, rfl, rfl, rfl, rfl⟩ rfl rfl rfl rfl rfl (by kernel_rfl) Tryd.func6 (by kernel_rfl)
    (of_decide_eq_true (by kernel_rfl)) (by unfold Func.isWrapper; first | (rw [if_pos (by decide +kernel)]; kernel_rfl) | (rw [if_neg (by decide +kernel)]; exact ⟨rfl, rfl⟩))
    (fun os started H enc _ F => by rw [OpenClaim.pre_eq_preRow]; exact lifted os started H enc F)

/-- No parameter wants a stand-in; the program's own looks. -/
theorem plain (f : FuncId) (fn : Func) (hf : Tryd.pinned.checked.prog.funcNamed "drawknife/drawknifelaw26.TaleTexts" = some f) (hfn : Tryd.pinned.checked.prog.funcs[f]? = some fn) :
    true = Tryd.pinned.checked.prog.looks [] ∧ ∀ (j : Nat) t, fn.params[j]? = some t → Tryd.pinned.checked.prog.wantsStandIn t = false := by
  obtain rfl : f = 6 := Option.some.inj ((show Tryd.prog.funcNamed "drawknife/drawknifelaw26.TaleTexts" = some 6 by kernel_rfl).symm.trans hf) |>.symm
  obtain rfl : fn = Tryd.f6 := (Option.some.inj (Tryd.func6.symm.trans hfn)).symm
  refine ⟨by kernel_rfl, fun j t ht => ?_⟩
  rw [Tryd.params6] at ht
  obtain rfl | rfl : t = 34 ∨ t = 4 := by simpa using Array.mem_of_getElem? ht
  · exact (show Tryd.prog.wantsStandIn 34 = false by kernel_rfl)
  · exact (show Tryd.prog.wantsStandIn 4 = false by kernel_rfl)

theorem card : Rows.TaleTextsCardSaid :=
  Claim7.holds_tied_plain_at .later [] _ _ _ _ said (fun _ h => by cases h) (by kernel_rfl) (fun _ h => by cases h) taleTexts_row_tie rfl ⟨rfl, rfl⟩ (by kernel_rfl) rfl plain (by kernel_rfl)

end TaleTextsRow
end Go.Proofs.YthjefffefomioaaDoor
