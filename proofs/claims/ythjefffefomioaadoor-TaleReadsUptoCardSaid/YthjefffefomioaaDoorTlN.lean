/- TaleTexts. -/
import Derived.Test.YthjefffefomioaaDoorTlM
namespace Go.Proofs.YthjefffefomioaaDoor
open Go.RowKit
namespace Tl

def lineD (x : Stp) : List UInt8 := (lineB x).getD []

/-- Entries' lines, one behind the other. -/
def textB (e : Bool) : List Stp → List UInt8
  | [] => []
  | x :: r => lineD x ++ (if e = true ∨ r ≠ [] then 10 :: textB e r else [])

theorem lineB_shape {x : Stp} {l : List UInt8} (h : lineB x = some l) : ∃ k ns, l = lineOf k ns := by
  unfold lineB at h
  split at h
  · split at h
    · cases h
    · exact ⟨_, _, (Option.some.inj h).symm⟩
  · cases h

theorem nums_no10 (ns : List Int) : (10 : UInt8) ∉ numsB ns := by
  intro h
  unfold numsB at h
  obtain ⟨n, -, hn⟩ := List.mem_flatMap.1 h
  rcases List.mem_cons.1 hn with h | h
  · exact absurd h (by decide)
  · exact itoa_no n 10 (by decide) h

theorem formW_no10 (k : Nat) : (10 : UInt8) ∉ formW k := by
  unfold formW
  split <;> decide

theorem formW_pos (k : Nat) : formW k ≠ [] := by
  unfold formW
  split <;> decide

theorem line_no10 {x : Stp} {l : List UInt8} (h : lineB x = some l) : (10 : UInt8) ∉ l ∧ l ≠ [] := by
  obtain ⟨k, ns, rfl⟩ := lineB_shape h
  unfold lineOf
  exact ⟨fun e => (List.mem_append.1 e).elim (formW_no10 k) (nums_no10 ns), fun e => formW_pos k (List.append_eq_nil_iff.1 e).1⟩

/-- They are read as these entries. -/
theorem read_text (e : Bool) : ∀ (xs out : List Stp), (∀ x ∈ xs, Fit x.a ∧ Fit x.b ∧ (lineB x).isSome = true) → out.length + xs.length ≤ 65536 → readB out (linesOf (textB e xs)) = (out ++ xs, 0, 0)
  | [], out, _, _ => by rw [textB, List.append_nil]; rfl
  | x :: r, out, h, hl => by
    obtain ⟨ha, hb, hs⟩ := h x (List.mem_cons_self ..)
    obtain ⟨l, hl'⟩ := Option.isSome_iff_exists.1 hs
    have hd : lineD x = l := by unfold lineD; rw [hl']; rfl
    obtain ⟨h10, hne⟩ := line_no10 hl'
    simp only [List.length_cons] at hl
    have ih := read_text e r (out ++ [x]) (fun y hy => h y (List.mem_cons_of_mem _ hy)) (by simp; omega)
    rw [textB, hd]
    by_cases hc : e = true ∨ r ≠ []
    · rw [if_pos hc, linesOf_hit l _ h10, readB_next (x := x) (by omega) (by rw [trimNl_hit]; exact line_step ha hb hl'), ih]
      simp
    · rw [if_neg hc, List.append_nil, linesOf_none l hne h10, readB_next (x := x) (by omega) (by rw [trimNl_none l h10]; exact line_step ha hb hl')]
      have hr : r = [] := by
        cases r with
        | nil => rfl
        | cons y r => exact absurd (.inr (by simp)) hc
      rw [hr]
      rfl

/-- A step of the text. -/
theorem text_step {e : Bool} {xs : List Stp} {j : Nat} {x : Stp} {l : List UInt8} (hx : xs[j]? = some x) (hl : lineB x = some l) (hc : e = true ∨ j + 1 < xs.length) : textB e (xs.drop j) = l ++ 10 :: textB e (xs.drop (j + 1)) := by
  obtain ⟨hj, rfl⟩ := List.getElem?_eq_some_iff.1 hx
  rw [List.drop_eq_getElem_cons hj, textB, lineD, hl, if_pos]
  · rfl
  · rcases hc with hc | hc
    · exact .inl hc
    · refine .inr fun h => ?_
      have := congrArg List.length h
      simp at this
      omega
theorem text_last {xs : List Stp} {j : Nat} {x : Stp} {l : List UInt8} (hx : xs[j]? = some x) (hl : lineB x = some l) (hc : j + 1 = xs.length) : textB false (xs.drop j) = l ++ textB false (xs.drop (j + 1)) := by
  obtain ⟨hj, rfl⟩ := List.getElem?_eq_some_iff.1 hx
  have h0 : xs.drop (j + 1) = [] := List.drop_eq_nil_of_le (by omega)
  rw [List.drop_eq_getElem_cons hj, textB, lineD, hl, h0, if_neg (by simp)]
  rfl


set_option maxRecDepth 100000 in
set_option maxHeartbeats 2000000 in
theorem taleTexts_calls (en : Bool) (xs : List Stp) (A : Option Addr) (b off cap : Nat) (w : World) (hg : Gl w) (hA : 0 < xs.length → A = some ⟨b, off, none⟩ ∧ b < w.heap.size) (hC : ∀ (j : Nat) (x : Stp) (i : Nat) (u : Value), xs[j]? = some x → (encP x)[i]? = some u → w.cell? ⟨b, off + j * 3 + i, none⟩ = some u) (hcap : xs.length ≤ cap) (hf : ∀ x ∈ xs, Fit x.a ∧ Fit x.b) : Calls Tryd.prog 6 #[.slice A xs.length cap, .bool en] w fun e w' => e = .returned (.bool true) ∧ Keeps NoBlock w w' := by
  have HG := Lib.hid hg
  have HAW := Lib.hid awake_calls
  by_cases hn : xs.length ≤ 300
  · obtain ⟨n, hzl⟩ : ∃ n, xs.length = n := ⟨_, rfl⟩
    generalize xs = zs at *
    rw [hzl] at hn ⊢
    have HA := Lib.hid hA
    have HC := Lib.hid hC
    have HF := Lib.hid hf
    have hnz : (n : Int) ≤ 300 := by omega
    clear hg hA hC hf hcap
    cases en with
    | true =>
      go_enter Tryd.func6, Tryd.ntmps6
      go_wp2_with fail
      go_loopw [5, 6] (fun u i wr => ∃ (j : Nat) (t : List UInt8), j ≤ n ∧ i = .int .i64 j ∧ u = S t ∧ textB true zs = t ++ textB true (zs.drop j) ∧ t.length ≤ 61 * j ∧ (∀ y ∈ zs.take j, (lineB y).isSome = true) ∧ Keeps NoBlock w wr) (fun _ i _ => n - (intOf i).toNat)
      case atStart => exact ⟨0, [], Nat.zero_le _, rfl, rfl, by simp, by simp, by simp, Keeps.refl _ _⟩
      case round =>
        obtain ⟨j, t, hj, rfl, rfl, htx, htl, hok, hkw⟩ := hrel
        have HTX := Lib.hid htx
        have HOK := Lib.hid hok
        have HK := Lib.hid hkw
        have HTL := Lib.hid htl
        clear htx hok hkw
        have hwj : IntKind.i64.wrap ((j : Int) + 1) = (j : Int) + 1 := by rw [IntKind.wrap_i64]; omega
        have hadd := s_add
        by_cases hlt : j < n
        · obtain ⟨x, hx⟩ : ∃ x, zs[j]? = some x := ⟨_, List.getElem?_eq_getElem (by omega)⟩
          obtain ⟨rfl, hb⟩ := HA.out (by omega)
          have c0 : wr.cell? ⟨b, off + j * 3, none⟩ = some (.int .i64 x.kind) := (HK.out.cell hb (fun e => e)).trans (HC.out j x 0 _ hx rfl)
          have c1 : wr.cell? ⟨b, off + j * 3 + 1, none⟩ = some (.int .i64 x.a) := (HK.out.cell hb (fun e => e)).trans (HC.out j x 1 _ hx rfl)
          have c2 : wr.cell? ⟨b, off + j * 3 + 2, none⟩ = some (.int .i64 x.b) := (HK.out.cell hb (fun e => e)).trans (HC.out j x 2 _ hx rfl)
          have hfx := HF.out x (List.mem_of_getElem? hx)
          have HLN := Lib.hid (line_calls x hfx.1 hfx.2 wr (HG.out.on HK.out))
          have hj0 : (0 : Int) ≤ (j : Int) := by omega
          have hjz : (j : Int) < (n : Int) := by omega
          cases hl : lineB x with
          | none =>
            rw [hl] at HLN
            simp only [retLine] at HLN
            clear hx hb hl hfx htl
            go_wp2_with fail
            refine HLN.out.mono ?_
            rintro e w2 ⟨rfl, k2⟩
            have K2 := Lib.hid (HK.out.trans k2 (fun _ _ e => e))
            clear k2 c0 c1 c2
            go_wp2_with fail
            refine (HAW.out _ (HG.out.on K2.out)).mono ?_
            rintro e w3 ⟨rfl, k3⟩
            have K3 := Lib.hid (K2.out.trans k3 (fun _ _ e => e))
            clear k3
            go_wp2_with fail
            go_ret
            exact ⟨rfl, K3.out⟩
          | some l =>
            rw [hl] at HLN
            simp only [retLine] at HLN
            have hll := line_len hfx.1 hfx.2 hl
            have hok2 : Hid (∀ y ∈ zs.take (j + 1), (lineB y).isSome = true) := fun y hy => by
              rw [List.take_add_one, hx] at hy
              rcases List.mem_append.1 hy with h | h
              · exact HOK.out y h
              · obtain rfl : y = x := by simpa using h
                rw [hl]; rfl
            have hb1 : ¬ 9223372036854775807 < t.length + l.length := by omega
            have hb2 : ¬ 9223372036854775807 < t.length + l.length + 1 := by omega
            have hwn : IntKind.i64.wrap ((n : Int) - 1) = (n : Int) - 1 := by rw [IntKind.wrap_i64]; omega
            have hnx : Hid (textB true zs = (t ++ (l ++ [10])) ++ textB true (zs.drop (j + 1))) := by
              show _ = _
              rw [HTX.out, text_step hx hl (.inl rfl)]
              simp
            clear hx hb hl hfx HTX
            go_wp2_with fail
            refine HLN.out.mono ?_
            rintro e w2 ⟨rfl, k2⟩
            have K2 := Lib.hid (HK.out.trans k2 (fun _ _ e => e))
            clear k2 c0 c1 c2
            go_wp2_with fail
            exact ⟨⟨j + 1, _, by omega, by simp, rfl, hnx.out, by have := HTL.out; simp; omega, hok2.out, K2.out⟩, by simp [intOf]; omega⟩
        · have ejn : j = n := by omega
          subst j
          have htt : textB true zs = t := by
            rw [HTX.out, List.drop_eq_nil_of_le (by omega)]
            simp [textB]
          have hrd := read_calls ⟨t.toArray⟩
          rw [← htt] at hrd
          have hrt : readB [] (linesOf (textB true zs)) = (zs, 0, 0) := by
            have := read_text true zs [] (fun y hy => ⟨(HF.out y hy).1, (HF.out y hy).2, HOK.out y (by rw [List.take_of_length_le (by omega)]; exact hy)⟩) (by simp; omega)
            simpa using this
          have HRD : Hid (∀ w', Gl w' → Calls Tryd.prog 16 #[S t] w' (ReadPost w' (zs, 0, 0))) := fun w' h => by
            have h2 := read_calls ⟨t.toArray⟩ w' h (by rw [Lib.size_mk]; omega)
            rw [show (⟨t.toArray⟩ : ByteArray).data.toList = t by simp, ← htt, hrt, htt] at h2
            exact h2
          clear hrd hrt htt HTX HOK htl hadd
          go_wp2_with fail
          refine (HRD.out _ (HG.out.on HK.out)).mono ?_
          rintro e w3 ⟨v, rfl, ov, hv, k3⟩
          have hrd := Own.rd encP_len ov
          obtain ⟨A3, b3, off3, cap3, rfl, hA3, hC3⟩ := hrd
          have HA3 := Lib.hid hA3
          have HC3 := Lib.hid hC3
          have K3 := Lib.hid (HK.out.trans k3 (fun _ _ e => e))
          clear hA3 hC3 k3 ov hv HRD HK
          rw [hzl]
          go_wp2_with fail
          go_loopw [12] (fun i wr => ∃ j : Nat, j ≤ n ∧ i = .int .i64 j ∧ Keeps NoBlock w3 wr) (fun i _ => n - (intOf i).toNat)
          case atStart => exact ⟨0, Nat.zero_le _, rfl, Keeps.refl _ _⟩
          case round =>
            obtain ⟨q, hq, rfl, hkq⟩ := hrel
            have HQ := Lib.hid hkq
            clear hkq
            have hwq : IntKind.i64.wrap ((q : Int) + 1) = (q : Int) + 1 := by rw [IntKind.wrap_i64]; omega
            by_cases hlq : q < n
            · obtain ⟨x, hx⟩ : ∃ x, zs[q]? = some x := ⟨_, List.getElem?_eq_getElem (by omega)⟩
              obtain ⟨rfl, hb⟩ := HA.out (by omega)
              obtain ⟨rfl, hb3⟩ := HA3.out (by omega)
              have kk := K3.out.trans HQ.out (fun _ _ e => e)
              have c0 : wr.cell? ⟨b, off + q * 3, none⟩ = some (.int .i64 x.kind) := (kk.cell hb (fun e => e)).trans (HC.out q x 0 _ hx rfl)
              have c1 : wr.cell? ⟨b, off + q * 3 + 1, none⟩ = some (.int .i64 x.a) := (kk.cell hb (fun e => e)).trans (HC.out q x 1 _ hx rfl)
              have c2 : wr.cell? ⟨b, off + q * 3 + 2, none⟩ = some (.int .i64 x.b) := (kk.cell hb (fun e => e)).trans (HC.out q x 2 _ hx rfl)
              have d0 : wr.cell? ⟨b3, off3 + q * 3, none⟩ = some (.int .i64 x.kind) := (HQ.out.cell hb3 (fun e => e)).trans (HC3.out q x 0 _ hx rfl)
              have d1 : wr.cell? ⟨b3, off3 + q * 3 + 1, none⟩ = some (.int .i64 x.a) := (HQ.out.cell hb3 (fun e => e)).trans (HC3.out q x 1 _ hx rfl)
              have d2 : wr.cell? ⟨b3, off3 + q * 3 + 2, none⟩ = some (.int .i64 x.b) := (HQ.out.cell hb3 (fun e => e)).trans (HC3.out q x 2 _ hx rfl)
              have hq0 : (0 : Int) ≤ (q : Int) := by omega
              have hqz : (q : Int) < (n : Int) := by omega
              obtain ⟨xk, xa, xb⟩ := x
              simp only [] at c0 c1 c2 d0 d1 d2
              clear hx hb hb3 kk
              go_wp2_with fail
              go_region
              all_goals
                go_wp2_with fail
                exact ⟨⟨q + 1, by omega, by simp, by first | exact HQ.out | exact HQ.out.drew⟩, by simp [intOf]; omega⟩
            · have eqn : q = n := by omega
              subst q
              have KQ := Lib.hid (K3.out.trans HQ.out (fun _ _ e => e))
              go_wp2_with fail
              refine (HAW.out _ (HG.out.on KQ.out)).mono ?_
              rintro e w5 ⟨rfl, k5⟩
              have K5 := Lib.hid (KQ.out.trans k5 (fun _ _ e => e))
              clear k5
              go_wp2_with fail
              go_ret
              exact ⟨rfl, K5.out⟩
    | false =>
      go_enter Tryd.func6, Tryd.ntmps6
      go_wp2_with fail
      go_loopw [5, 6] (fun u i wr => ∃ (j : Nat) (t : List UInt8), j ≤ n ∧ i = .int .i64 j ∧ u = S t ∧ textB false zs = t ++ textB false (zs.drop j) ∧ t.length ≤ 61 * j ∧ (∀ y ∈ zs.take j, (lineB y).isSome = true) ∧ Keeps NoBlock w wr) (fun _ i _ => n - (intOf i).toNat)
      case atStart => exact ⟨0, [], Nat.zero_le _, rfl, rfl, by simp, by simp, by simp, Keeps.refl _ _⟩
      case round =>
        obtain ⟨j, t, hj, rfl, rfl, htx, htl, hok, hkw⟩ := hrel
        have HTX := Lib.hid htx
        have HOK := Lib.hid hok
        have HK := Lib.hid hkw
        have HTL := Lib.hid htl
        clear htx hok hkw
        have hwj : IntKind.i64.wrap ((j : Int) + 1) = (j : Int) + 1 := by rw [IntKind.wrap_i64]; omega
        have hadd := s_add
        by_cases hlt : j < n
        · obtain ⟨x, hx⟩ : ∃ x, zs[j]? = some x := ⟨_, List.getElem?_eq_getElem (by omega)⟩
          obtain ⟨rfl, hb⟩ := HA.out (by omega)
          have c0 : wr.cell? ⟨b, off + j * 3, none⟩ = some (.int .i64 x.kind) := (HK.out.cell hb (fun e => e)).trans (HC.out j x 0 _ hx rfl)
          have c1 : wr.cell? ⟨b, off + j * 3 + 1, none⟩ = some (.int .i64 x.a) := (HK.out.cell hb (fun e => e)).trans (HC.out j x 1 _ hx rfl)
          have c2 : wr.cell? ⟨b, off + j * 3 + 2, none⟩ = some (.int .i64 x.b) := (HK.out.cell hb (fun e => e)).trans (HC.out j x 2 _ hx rfl)
          have hfx := HF.out x (List.mem_of_getElem? hx)
          have HLN := Lib.hid (line_calls x hfx.1 hfx.2 wr (HG.out.on HK.out))
          have hj0 : (0 : Int) ≤ (j : Int) := by omega
          have hjz : (j : Int) < (n : Int) := by omega
          cases hl : lineB x with
          | none =>
            rw [hl] at HLN
            simp only [retLine] at HLN
            clear hx hb hl hfx htl
            go_wp2_with fail
            refine HLN.out.mono ?_
            rintro e w2 ⟨rfl, k2⟩
            have K2 := Lib.hid (HK.out.trans k2 (fun _ _ e => e))
            clear k2 c0 c1 c2
            go_wp2_with fail
            refine (HAW.out _ (HG.out.on K2.out)).mono ?_
            rintro e w3 ⟨rfl, k3⟩
            have K3 := Lib.hid (K2.out.trans k3 (fun _ _ e => e))
            clear k3
            go_wp2_with fail
            go_ret
            exact ⟨rfl, K3.out⟩
          | some l =>
            rw [hl] at HLN
            simp only [retLine] at HLN
            have hll := line_len hfx.1 hfx.2 hl
            have hok2 : Hid (∀ y ∈ zs.take (j + 1), (lineB y).isSome = true) := fun y hy => by
              rw [List.take_add_one, hx] at hy
              rcases List.mem_append.1 hy with h | h
              · exact HOK.out y h
              · obtain rfl : y = x := by simpa using h
                rw [hl]; rfl
            have hb1 : ¬ 9223372036854775807 < t.length + l.length := by omega
            have hb2 : ¬ 9223372036854775807 < t.length + l.length + 1 := by omega
            have hwn : IntKind.i64.wrap ((n : Int) - 1) = (n : Int) - 1 := by rw [IntKind.wrap_i64]; omega
            by_cases hlast : j + 1 < n
            · have hz : (j : Int) < (n : Int) - 1 := by omega
              have hnx : Hid (textB false zs = (t ++ (l ++ [10])) ++ textB false (zs.drop (j + 1))) := by
                show _ = _
                rw [HTX.out, text_step hx hl (.inr (by omega))]
                simp
              clear hx hb hl hfx HTX
              go_wp2_with fail
              refine HLN.out.mono ?_
              rintro e w2 ⟨rfl, k2⟩
              have K2 := Lib.hid (HK.out.trans k2 (fun _ _ e => e))
              clear k2 c0 c1 c2
              go_wp2_with fail
              exact ⟨⟨j + 1, _, by omega, by simp, rfl, hnx.out, by have := HTL.out; simp; omega, hok2.out, K2.out⟩, by simp [intOf]; omega⟩
            · have hz : (n : Int) - 1 ≤ (j : Int) := by omega
              have hnx : Hid (textB false zs = (t ++ l) ++ textB false (zs.drop (j + 1))) := by
                show _ = _
                rw [HTX.out, text_last hx hl (by omega)]
                simp
              clear hx hb hl hfx HTX
              go_wp2_with fail
              refine HLN.out.mono ?_
              rintro e w2 ⟨rfl, k2⟩
              have K2 := Lib.hid (HK.out.trans k2 (fun _ _ e => e))
              clear k2 c0 c1 c2
              go_wp2_with fail
              exact ⟨⟨j + 1, _, by omega, by simp, rfl, hnx.out, by have := HTL.out; simp; omega, hok2.out, K2.out⟩, by simp [intOf]; omega⟩
        · have ejn : j = n := by omega
          subst j
          have htt : textB false zs = t := by
            rw [HTX.out, List.drop_eq_nil_of_le (by omega)]
            simp [textB]
          have hrd := read_calls ⟨t.toArray⟩
          rw [← htt] at hrd
          have hrt : readB [] (linesOf (textB false zs)) = (zs, 0, 0) := by
            have := read_text false zs [] (fun y hy => ⟨(HF.out y hy).1, (HF.out y hy).2, HOK.out y (by rw [List.take_of_length_le (by omega)]; exact hy)⟩) (by simp; omega)
            simpa using this
          have HRD : Hid (∀ w', Gl w' → Calls Tryd.prog 16 #[S t] w' (ReadPost w' (zs, 0, 0))) := fun w' h => by
            have h2 := read_calls ⟨t.toArray⟩ w' h (by rw [Lib.size_mk]; omega)
            rw [show (⟨t.toArray⟩ : ByteArray).data.toList = t by simp, ← htt, hrt, htt] at h2
            exact h2
          clear hrd hrt htt HTX HOK htl hadd
          go_wp2_with fail
          refine (HRD.out _ (HG.out.on HK.out)).mono ?_
          rintro e w3 ⟨v, rfl, ov, hv, k3⟩
          have hrd := Own.rd encP_len ov
          obtain ⟨A3, b3, off3, cap3, rfl, hA3, hC3⟩ := hrd
          have HA3 := Lib.hid hA3
          have HC3 := Lib.hid hC3
          have K3 := Lib.hid (HK.out.trans k3 (fun _ _ e => e))
          clear hA3 hC3 k3 ov hv HRD HK
          rw [hzl]
          go_wp2_with fail
          go_loopw [12] (fun i wr => ∃ j : Nat, j ≤ n ∧ i = .int .i64 j ∧ Keeps NoBlock w3 wr) (fun i _ => n - (intOf i).toNat)
          case atStart => exact ⟨0, Nat.zero_le _, rfl, Keeps.refl _ _⟩
          case round =>
            obtain ⟨q, hq, rfl, hkq⟩ := hrel
            have HQ := Lib.hid hkq
            clear hkq
            have hwq : IntKind.i64.wrap ((q : Int) + 1) = (q : Int) + 1 := by rw [IntKind.wrap_i64]; omega
            by_cases hlq : q < n
            · obtain ⟨x, hx⟩ : ∃ x, zs[q]? = some x := ⟨_, List.getElem?_eq_getElem (by omega)⟩
              obtain ⟨rfl, hb⟩ := HA.out (by omega)
              obtain ⟨rfl, hb3⟩ := HA3.out (by omega)
              have kk := K3.out.trans HQ.out (fun _ _ e => e)
              have c0 : wr.cell? ⟨b, off + q * 3, none⟩ = some (.int .i64 x.kind) := (kk.cell hb (fun e => e)).trans (HC.out q x 0 _ hx rfl)
              have c1 : wr.cell? ⟨b, off + q * 3 + 1, none⟩ = some (.int .i64 x.a) := (kk.cell hb (fun e => e)).trans (HC.out q x 1 _ hx rfl)
              have c2 : wr.cell? ⟨b, off + q * 3 + 2, none⟩ = some (.int .i64 x.b) := (kk.cell hb (fun e => e)).trans (HC.out q x 2 _ hx rfl)
              have d0 : wr.cell? ⟨b3, off3 + q * 3, none⟩ = some (.int .i64 x.kind) := (HQ.out.cell hb3 (fun e => e)).trans (HC3.out q x 0 _ hx rfl)
              have d1 : wr.cell? ⟨b3, off3 + q * 3 + 1, none⟩ = some (.int .i64 x.a) := (HQ.out.cell hb3 (fun e => e)).trans (HC3.out q x 1 _ hx rfl)
              have d2 : wr.cell? ⟨b3, off3 + q * 3 + 2, none⟩ = some (.int .i64 x.b) := (HQ.out.cell hb3 (fun e => e)).trans (HC3.out q x 2 _ hx rfl)
              have hq0 : (0 : Int) ≤ (q : Int) := by omega
              have hqz : (q : Int) < (n : Int) := by omega
              obtain ⟨xk, xa, xb⟩ := x
              simp only [] at c0 c1 c2 d0 d1 d2
              clear hx hb hb3 kk
              go_wp2_with fail
              go_region
              all_goals
                go_wp2_with fail
                exact ⟨⟨q + 1, by omega, by simp, by first | exact HQ.out | exact HQ.out.drew⟩, by simp [intOf]; omega⟩
            · have eqn : q = n := by omega
              subst q
              have KQ := Lib.hid (K3.out.trans HQ.out (fun _ _ e => e))
              go_wp2_with fail
              refine (HAW.out _ (HG.out.on KQ.out)).mono ?_
              rintro e w5 ⟨rfl, k5⟩
              have K5 := Lib.hid (KQ.out.trans k5 (fun _ _ e => e))
              clear k5
              go_wp2_with fail
              go_ret
              exact ⟨rfl, K5.out⟩
  · have hs := run_slice_to (P := Tryd.prog) eP A xs.length cap 300 (by omega) w
    have hsl : (Instr.slice 34 (.slice A xs.length cap) none (some (.int .i64 300)) none).run Tryd.prog w = .ok (.slice A 300 cap) w := hs
    obtain ⟨zs, hzs⟩ : ∃ zs, xs.take 300 = zs := ⟨_, rfl⟩
    obtain ⟨n, hn3⟩ : ∃ n, (300 : Nat) = n := ⟨_, rfl⟩
    have hzl : zs.length = n := by rw [← hzs, List.length_take]; omega
    have HA : Hid (0 < zs.length → A = some ⟨b, off, none⟩ ∧ b < w.heap.size) := fun _ => hA (by omega)
    have HC : Hid (∀ (j : Nat) (x : Stp) (i : Nat) (u : Value), zs[j]? = some x → (encP x)[i]? = some u → w.cell? ⟨b, off + j * 3 + i, none⟩ = some u) := fun j x i u hx hu => hC j x i u (by
      rw [← hzs, List.getElem?_take] at hx
      split at hx
      · exact hx
      · cases hx) hu
    have HF : Hid (∀ x ∈ zs, Fit x.a ∧ Fit x.b) := fun x hx => hf x (List.mem_of_mem_take (by rw [hzs]; exact hx))
    have hnn : n ≤ 300 := by omega
    have hgt : (300 : Int) < (xs.length : Int) := by omega
    have HN3 := Lib.hid hn3
    clear hg hA hC hf hs hcap hn hzs hn3
    cases en with
    | true =>
      go_enter Tryd.func6, Tryd.ntmps6
      go_upto_region 3 with fail
      rw [HN3.out]
      clear hsl hgt
      go_wp2_with fail
      go_loopw [5, 6] (fun u i wr => ∃ (j : Nat) (t : List UInt8), j ≤ n ∧ i = .int .i64 j ∧ u = S t ∧ textB true zs = t ++ textB true (zs.drop j) ∧ t.length ≤ 61 * j ∧ (∀ y ∈ zs.take j, (lineB y).isSome = true) ∧ Keeps NoBlock w wr) (fun _ i _ => n - (intOf i).toNat)
      case atStart => exact ⟨0, [], Nat.zero_le _, rfl, rfl, by simp, by simp, by simp, Keeps.refl _ _⟩
      case round =>
        obtain ⟨j, t, hj, rfl, rfl, htx, htl, hok, hkw⟩ := hrel
        have HTX := Lib.hid htx
        have HOK := Lib.hid hok
        have HK := Lib.hid hkw
        have HTL := Lib.hid htl
        clear htx hok hkw
        have hwj : IntKind.i64.wrap ((j : Int) + 1) = (j : Int) + 1 := by rw [IntKind.wrap_i64]; omega
        have hadd := s_add
        by_cases hlt : j < n
        · obtain ⟨x, hx⟩ : ∃ x, zs[j]? = some x := ⟨_, List.getElem?_eq_getElem (by omega)⟩
          obtain ⟨rfl, hb⟩ := HA.out (by omega)
          have c0 : wr.cell? ⟨b, off + j * 3, none⟩ = some (.int .i64 x.kind) := (HK.out.cell hb (fun e => e)).trans (HC.out j x 0 _ hx rfl)
          have c1 : wr.cell? ⟨b, off + j * 3 + 1, none⟩ = some (.int .i64 x.a) := (HK.out.cell hb (fun e => e)).trans (HC.out j x 1 _ hx rfl)
          have c2 : wr.cell? ⟨b, off + j * 3 + 2, none⟩ = some (.int .i64 x.b) := (HK.out.cell hb (fun e => e)).trans (HC.out j x 2 _ hx rfl)
          have hfx := HF.out x (List.mem_of_getElem? hx)
          have HLN := Lib.hid (line_calls x hfx.1 hfx.2 wr (HG.out.on HK.out))
          have hj0 : (0 : Int) ≤ (j : Int) := by omega
          have hjz : (j : Int) < (n : Int) := by omega
          cases hl : lineB x with
          | none =>
            rw [hl] at HLN
            simp only [retLine] at HLN
            clear hx hb hl hfx htl
            go_wp2_with fail
            refine HLN.out.mono ?_
            rintro e w2 ⟨rfl, k2⟩
            have K2 := Lib.hid (HK.out.trans k2 (fun _ _ e => e))
            clear k2 c0 c1 c2
            go_wp2_with fail
            refine (HAW.out _ (HG.out.on K2.out)).mono ?_
            rintro e w3 ⟨rfl, k3⟩
            have K3 := Lib.hid (K2.out.trans k3 (fun _ _ e => e))
            clear k3
            go_wp2_with fail
            go_ret
            exact ⟨rfl, K3.out⟩
          | some l =>
            rw [hl] at HLN
            simp only [retLine] at HLN
            have hll := line_len hfx.1 hfx.2 hl
            have hok2 : Hid (∀ y ∈ zs.take (j + 1), (lineB y).isSome = true) := fun y hy => by
              rw [List.take_add_one, hx] at hy
              rcases List.mem_append.1 hy with h | h
              · exact HOK.out y h
              · obtain rfl : y = x := by simpa using h
                rw [hl]; rfl
            have hb1 : ¬ 9223372036854775807 < t.length + l.length := by omega
            have hb2 : ¬ 9223372036854775807 < t.length + l.length + 1 := by omega
            have hwn : IntKind.i64.wrap ((n : Int) - 1) = (n : Int) - 1 := by rw [IntKind.wrap_i64]; omega
            have hnx : Hid (textB true zs = (t ++ (l ++ [10])) ++ textB true (zs.drop (j + 1))) := by
              show _ = _
              rw [HTX.out, text_step hx hl (.inl rfl)]
              simp
            clear hx hb hl hfx HTX
            go_wp2_with fail
            refine HLN.out.mono ?_
            rintro e w2 ⟨rfl, k2⟩
            have K2 := Lib.hid (HK.out.trans k2 (fun _ _ e => e))
            clear k2 c0 c1 c2
            go_wp2_with fail
            exact ⟨⟨j + 1, _, by omega, by simp, rfl, hnx.out, by have := HTL.out; simp; omega, hok2.out, K2.out⟩, by simp [intOf]; omega⟩
        · have ejn : j = n := by omega
          subst j
          have htt : textB true zs = t := by
            rw [HTX.out, List.drop_eq_nil_of_le (by omega)]
            simp [textB]
          have hrd := read_calls ⟨t.toArray⟩
          rw [← htt] at hrd
          have hrt : readB [] (linesOf (textB true zs)) = (zs, 0, 0) := by
            have := read_text true zs [] (fun y hy => ⟨(HF.out y hy).1, (HF.out y hy).2, HOK.out y (by rw [List.take_of_length_le (by omega)]; exact hy)⟩) (by simp; omega)
            simpa using this
          have HRD : Hid (∀ w', Gl w' → Calls Tryd.prog 16 #[S t] w' (ReadPost w' (zs, 0, 0))) := fun w' h => by
            have h2 := read_calls ⟨t.toArray⟩ w' h (by rw [Lib.size_mk]; omega)
            rw [show (⟨t.toArray⟩ : ByteArray).data.toList = t by simp, ← htt, hrt, htt] at h2
            exact h2
          clear hrd hrt htt HTX HOK htl hadd
          go_wp2_with fail
          refine (HRD.out _ (HG.out.on HK.out)).mono ?_
          rintro e w3 ⟨v, rfl, ov, hv, k3⟩
          have hrd := Own.rd encP_len ov
          obtain ⟨A3, b3, off3, cap3, rfl, hA3, hC3⟩ := hrd
          have HA3 := Lib.hid hA3
          have HC3 := Lib.hid hC3
          have K3 := Lib.hid (HK.out.trans k3 (fun _ _ e => e))
          clear hA3 hC3 k3 ov hv HRD HK
          rw [hzl]
          go_wp2_with fail
          go_loopw [12] (fun i wr => ∃ j : Nat, j ≤ n ∧ i = .int .i64 j ∧ Keeps NoBlock w3 wr) (fun i _ => n - (intOf i).toNat)
          case atStart => exact ⟨0, Nat.zero_le _, rfl, Keeps.refl _ _⟩
          case round =>
            obtain ⟨q, hq, rfl, hkq⟩ := hrel
            have HQ := Lib.hid hkq
            clear hkq
            have hwq : IntKind.i64.wrap ((q : Int) + 1) = (q : Int) + 1 := by rw [IntKind.wrap_i64]; omega
            by_cases hlq : q < n
            · obtain ⟨x, hx⟩ : ∃ x, zs[q]? = some x := ⟨_, List.getElem?_eq_getElem (by omega)⟩
              obtain ⟨rfl, hb⟩ := HA.out (by omega)
              obtain ⟨rfl, hb3⟩ := HA3.out (by omega)
              have kk := K3.out.trans HQ.out (fun _ _ e => e)
              have c0 : wr.cell? ⟨b, off + q * 3, none⟩ = some (.int .i64 x.kind) := (kk.cell hb (fun e => e)).trans (HC.out q x 0 _ hx rfl)
              have c1 : wr.cell? ⟨b, off + q * 3 + 1, none⟩ = some (.int .i64 x.a) := (kk.cell hb (fun e => e)).trans (HC.out q x 1 _ hx rfl)
              have c2 : wr.cell? ⟨b, off + q * 3 + 2, none⟩ = some (.int .i64 x.b) := (kk.cell hb (fun e => e)).trans (HC.out q x 2 _ hx rfl)
              have d0 : wr.cell? ⟨b3, off3 + q * 3, none⟩ = some (.int .i64 x.kind) := (HQ.out.cell hb3 (fun e => e)).trans (HC3.out q x 0 _ hx rfl)
              have d1 : wr.cell? ⟨b3, off3 + q * 3 + 1, none⟩ = some (.int .i64 x.a) := (HQ.out.cell hb3 (fun e => e)).trans (HC3.out q x 1 _ hx rfl)
              have d2 : wr.cell? ⟨b3, off3 + q * 3 + 2, none⟩ = some (.int .i64 x.b) := (HQ.out.cell hb3 (fun e => e)).trans (HC3.out q x 2 _ hx rfl)
              have hq0 : (0 : Int) ≤ (q : Int) := by omega
              have hqz : (q : Int) < (n : Int) := by omega
              obtain ⟨xk, xa, xb⟩ := x
              simp only [] at c0 c1 c2 d0 d1 d2
              clear hx hb hb3 kk
              go_wp2_with fail
              go_region
              all_goals
                go_wp2_with fail
                exact ⟨⟨q + 1, by omega, by simp, by first | exact HQ.out | exact HQ.out.drew⟩, by simp [intOf]; omega⟩
            · have eqn : q = n := by omega
              subst q
              have KQ := Lib.hid (K3.out.trans HQ.out (fun _ _ e => e))
              go_wp2_with fail
              refine (HAW.out _ (HG.out.on KQ.out)).mono ?_
              rintro e w5 ⟨rfl, k5⟩
              have K5 := Lib.hid (KQ.out.trans k5 (fun _ _ e => e))
              clear k5
              go_wp2_with fail
              go_ret
              exact ⟨rfl, K5.out⟩
    | false =>
      go_enter Tryd.func6, Tryd.ntmps6
      go_upto_region 3 with fail
      rw [HN3.out]
      clear hsl hgt
      go_wp2_with fail
      go_loopw [5, 6] (fun u i wr => ∃ (j : Nat) (t : List UInt8), j ≤ n ∧ i = .int .i64 j ∧ u = S t ∧ textB false zs = t ++ textB false (zs.drop j) ∧ t.length ≤ 61 * j ∧ (∀ y ∈ zs.take j, (lineB y).isSome = true) ∧ Keeps NoBlock w wr) (fun _ i _ => n - (intOf i).toNat)
      case atStart => exact ⟨0, [], Nat.zero_le _, rfl, rfl, by simp, by simp, by simp, Keeps.refl _ _⟩
      case round =>
        obtain ⟨j, t, hj, rfl, rfl, htx, htl, hok, hkw⟩ := hrel
        have HTX := Lib.hid htx
        have HOK := Lib.hid hok
        have HK := Lib.hid hkw
        have HTL := Lib.hid htl
        clear htx hok hkw
        have hwj : IntKind.i64.wrap ((j : Int) + 1) = (j : Int) + 1 := by rw [IntKind.wrap_i64]; omega
        have hadd := s_add
        by_cases hlt : j < n
        · obtain ⟨x, hx⟩ : ∃ x, zs[j]? = some x := ⟨_, List.getElem?_eq_getElem (by omega)⟩
          obtain ⟨rfl, hb⟩ := HA.out (by omega)
          have c0 : wr.cell? ⟨b, off + j * 3, none⟩ = some (.int .i64 x.kind) := (HK.out.cell hb (fun e => e)).trans (HC.out j x 0 _ hx rfl)
          have c1 : wr.cell? ⟨b, off + j * 3 + 1, none⟩ = some (.int .i64 x.a) := (HK.out.cell hb (fun e => e)).trans (HC.out j x 1 _ hx rfl)
          have c2 : wr.cell? ⟨b, off + j * 3 + 2, none⟩ = some (.int .i64 x.b) := (HK.out.cell hb (fun e => e)).trans (HC.out j x 2 _ hx rfl)
          have hfx := HF.out x (List.mem_of_getElem? hx)
          have HLN := Lib.hid (line_calls x hfx.1 hfx.2 wr (HG.out.on HK.out))
          have hj0 : (0 : Int) ≤ (j : Int) := by omega
          have hjz : (j : Int) < (n : Int) := by omega
          cases hl : lineB x with
          | none =>
            rw [hl] at HLN
            simp only [retLine] at HLN
            clear hx hb hl hfx htl
            go_wp2_with fail
            refine HLN.out.mono ?_
            rintro e w2 ⟨rfl, k2⟩
            have K2 := Lib.hid (HK.out.trans k2 (fun _ _ e => e))
            clear k2 c0 c1 c2
            go_wp2_with fail
            refine (HAW.out _ (HG.out.on K2.out)).mono ?_
            rintro e w3 ⟨rfl, k3⟩
            have K3 := Lib.hid (K2.out.trans k3 (fun _ _ e => e))
            clear k3
            go_wp2_with fail
            go_ret
            exact ⟨rfl, K3.out⟩
          | some l =>
            rw [hl] at HLN
            simp only [retLine] at HLN
            have hll := line_len hfx.1 hfx.2 hl
            have hok2 : Hid (∀ y ∈ zs.take (j + 1), (lineB y).isSome = true) := fun y hy => by
              rw [List.take_add_one, hx] at hy
              rcases List.mem_append.1 hy with h | h
              · exact HOK.out y h
              · obtain rfl : y = x := by simpa using h
                rw [hl]; rfl
            have hb1 : ¬ 9223372036854775807 < t.length + l.length := by omega
            have hb2 : ¬ 9223372036854775807 < t.length + l.length + 1 := by omega
            have hwn : IntKind.i64.wrap ((n : Int) - 1) = (n : Int) - 1 := by rw [IntKind.wrap_i64]; omega
            by_cases hlast : j + 1 < n
            · have hz : (j : Int) < (n : Int) - 1 := by omega
              have hnx : Hid (textB false zs = (t ++ (l ++ [10])) ++ textB false (zs.drop (j + 1))) := by
                show _ = _
                rw [HTX.out, text_step hx hl (.inr (by omega))]
                simp
              clear hx hb hl hfx HTX
              go_wp2_with fail
              refine HLN.out.mono ?_
              rintro e w2 ⟨rfl, k2⟩
              have K2 := Lib.hid (HK.out.trans k2 (fun _ _ e => e))
              clear k2 c0 c1 c2
              go_wp2_with fail
              exact ⟨⟨j + 1, _, by omega, by simp, rfl, hnx.out, by have := HTL.out; simp; omega, hok2.out, K2.out⟩, by simp [intOf]; omega⟩
            · have hz : (n : Int) - 1 ≤ (j : Int) := by omega
              have hnx : Hid (textB false zs = (t ++ l) ++ textB false (zs.drop (j + 1))) := by
                show _ = _
                rw [HTX.out, text_last hx hl (by omega)]
                simp
              clear hx hb hl hfx HTX
              go_wp2_with fail
              refine HLN.out.mono ?_
              rintro e w2 ⟨rfl, k2⟩
              have K2 := Lib.hid (HK.out.trans k2 (fun _ _ e => e))
              clear k2 c0 c1 c2
              go_wp2_with fail
              exact ⟨⟨j + 1, _, by omega, by simp, rfl, hnx.out, by have := HTL.out; simp; omega, hok2.out, K2.out⟩, by simp [intOf]; omega⟩
        · have ejn : j = n := by omega
          subst j
          have htt : textB false zs = t := by
            rw [HTX.out, List.drop_eq_nil_of_le (by omega)]
            simp [textB]
          have hrd := read_calls ⟨t.toArray⟩
          rw [← htt] at hrd
          have hrt : readB [] (linesOf (textB false zs)) = (zs, 0, 0) := by
            have := read_text false zs [] (fun y hy => ⟨(HF.out y hy).1, (HF.out y hy).2, HOK.out y (by rw [List.take_of_length_le (by omega)]; exact hy)⟩) (by simp; omega)
            simpa using this
          have HRD : Hid (∀ w', Gl w' → Calls Tryd.prog 16 #[S t] w' (ReadPost w' (zs, 0, 0))) := fun w' h => by
            have h2 := read_calls ⟨t.toArray⟩ w' h (by rw [Lib.size_mk]; omega)
            rw [show (⟨t.toArray⟩ : ByteArray).data.toList = t by simp, ← htt, hrt, htt] at h2
            exact h2
          clear hrd hrt htt HTX HOK htl hadd
          go_wp2_with fail
          refine (HRD.out _ (HG.out.on HK.out)).mono ?_
          rintro e w3 ⟨v, rfl, ov, hv, k3⟩
          have hrd := Own.rd encP_len ov
          obtain ⟨A3, b3, off3, cap3, rfl, hA3, hC3⟩ := hrd
          have HA3 := Lib.hid hA3
          have HC3 := Lib.hid hC3
          have K3 := Lib.hid (HK.out.trans k3 (fun _ _ e => e))
          clear hA3 hC3 k3 ov hv HRD HK
          rw [hzl]
          go_wp2_with fail
          go_loopw [12] (fun i wr => ∃ j : Nat, j ≤ n ∧ i = .int .i64 j ∧ Keeps NoBlock w3 wr) (fun i _ => n - (intOf i).toNat)
          case atStart => exact ⟨0, Nat.zero_le _, rfl, Keeps.refl _ _⟩
          case round =>
            obtain ⟨q, hq, rfl, hkq⟩ := hrel
            have HQ := Lib.hid hkq
            clear hkq
            have hwq : IntKind.i64.wrap ((q : Int) + 1) = (q : Int) + 1 := by rw [IntKind.wrap_i64]; omega
            by_cases hlq : q < n
            · obtain ⟨x, hx⟩ : ∃ x, zs[q]? = some x := ⟨_, List.getElem?_eq_getElem (by omega)⟩
              obtain ⟨rfl, hb⟩ := HA.out (by omega)
              obtain ⟨rfl, hb3⟩ := HA3.out (by omega)
              have kk := K3.out.trans HQ.out (fun _ _ e => e)
              have c0 : wr.cell? ⟨b, off + q * 3, none⟩ = some (.int .i64 x.kind) := (kk.cell hb (fun e => e)).trans (HC.out q x 0 _ hx rfl)
              have c1 : wr.cell? ⟨b, off + q * 3 + 1, none⟩ = some (.int .i64 x.a) := (kk.cell hb (fun e => e)).trans (HC.out q x 1 _ hx rfl)
              have c2 : wr.cell? ⟨b, off + q * 3 + 2, none⟩ = some (.int .i64 x.b) := (kk.cell hb (fun e => e)).trans (HC.out q x 2 _ hx rfl)
              have d0 : wr.cell? ⟨b3, off3 + q * 3, none⟩ = some (.int .i64 x.kind) := (HQ.out.cell hb3 (fun e => e)).trans (HC3.out q x 0 _ hx rfl)
              have d1 : wr.cell? ⟨b3, off3 + q * 3 + 1, none⟩ = some (.int .i64 x.a) := (HQ.out.cell hb3 (fun e => e)).trans (HC3.out q x 1 _ hx rfl)
              have d2 : wr.cell? ⟨b3, off3 + q * 3 + 2, none⟩ = some (.int .i64 x.b) := (HQ.out.cell hb3 (fun e => e)).trans (HC3.out q x 2 _ hx rfl)
              have hq0 : (0 : Int) ≤ (q : Int) := by omega
              have hqz : (q : Int) < (n : Int) := by omega
              obtain ⟨xk, xa, xb⟩ := x
              simp only [] at c0 c1 c2 d0 d1 d2
              clear hx hb hb3 kk
              go_wp2_with fail
              go_region
              all_goals
                go_wp2_with fail
                exact ⟨⟨q + 1, by omega, by simp, by first | exact HQ.out | exact HQ.out.drew⟩, by simp [intOf]; omega⟩
            · have eqn : q = n := by omega
              subst q
              have KQ := Lib.hid (K3.out.trans HQ.out (fun _ _ e => e))
              go_wp2_with fail
              refine (HAW.out _ (HG.out.on KQ.out)).mono ?_
              rintro e w5 ⟨rfl, k5⟩
              have K5 := Lib.hid (KQ.out.trans k5 (fun _ _ e => e))
              clear k5
              go_wp2_with fail
              go_ret
              exact ⟨rfl, K5.out⟩

end Tl
end Go.Proofs.YthjefffefomioaaDoor
