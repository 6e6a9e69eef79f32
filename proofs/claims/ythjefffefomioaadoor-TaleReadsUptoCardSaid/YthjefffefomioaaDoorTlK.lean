/- A line is read again; the law's fixed fact. -/
import Derived.Test.YthjefffefomioaaDoorTlH
import Derived.Test.YthjefffefomioaaDoorTlJ
namespace Go.Proofs.YthjefffefomioaaDoor
open Go.RowKit
namespace Tl

theorem formW_no (k : Nat) : (32 : UInt8) ∉ formW k := by
  unfold formW
  split <;> decide

theorem formW_inj {j k : Nat} (hj : j < 6) (hk : k < 6) (h : formW j = formW k) : j = k := by
  match j, hj with
  | 0, _ | 1, _ | 2, _ | 3, _ | 4, _ | 5, _ =>
    match k, hk with
    | 0, _ | 1, _ | 2, _ | 3, _ | 4, _ | 5, _ => first | rfl | (exact absurd h (by decide))

theorem cut_nums : ∀ (ns : List Int) (p : List UInt8), (32 : UInt8) ∉ p → cutAt 32 (p ++ numsB ns) = p :: ns.map Lib.itoa
  | [], p, h => by
    rw [show numsB [] = [] from rfl, List.append_nil]
    exact cutAt_none 32 p h
  | n :: ns, p, h => by
    rw [show numsB (n :: ns) = 32 :: (Lib.itoa n ++ numsB ns) from rfl, cutAt_hit 32 p _ h, cut_nums ns _ (itoa_no n 32 (by decide))]
    rfl

theorem cut_line (k : Nat) (ns : List Int) : cutAt 32 (lineOf k ns) = formW k :: ns.map Lib.itoa := cut_nums ns _ (formW_no k)

theorem tryK_other {k j : Nat} {ns : List Int} (hj : j < 6) (hk : k < 6) (h : j ≠ k) : tryK (lineOf k ns) j = none := by
  unfold tryK
  rw [cut_line, if_neg]
  rintro ⟨h1, -⟩
  exact h (formW_inj hj hk (by simpa using h1.symm))

theorem stepTo_none {k : Nat} {ns : List Int} (hk : k < 6) : ∀ j, j ≤ k → stepTo (lineOf k ns) j = none
  | 0, _ => rfl
  | j + 1, h => stepTo_next (stepTo_none hk j (by omega)) (tryK_other (by omega) hk (by omega))

/-- What a line is read as. -/
theorem line_step {x : Stp} {l : List UInt8} (ha : Fit x.a) (hb : Fit x.b) (h : lineB x = some l) : stepB l = some x := by
  obtain ⟨kind, a, b⟩ := x
  simp only [] at ha hb
  by_cases hk : 1 ≤ kind ∧ kind ≤ 6
  · obtain ⟨k, rfl⟩ : ∃ k : Nat, kind = (k : Int) + 1 := ⟨(kind - 1).toNat, by omega⟩
    have hk6 : k < 6 := by omega
    rw [line_at hk6] at h
    split at h
    · cases h
    · rename_i hz
      obtain rfl : lineOf k ([a, b].take (formS k)) = l := by simpa using h
      refine stepB_at hk6 (stepTo_none hk6 k (Nat.le_refl _)) ?_
      have hn2 := formS_le k
      have hout : outK k (([a, b].take (formS k)).map Lib.itoa) = ⟨(k : Int) + 1, a, b⟩ := by
        unfold outK
        rw [List.map_map]
        have e : ([a, b].take (formS k)).map (atoiVal ∘ Lib.itoa) = [a, b].take (formS k) := by
          rw [List.map_congr_left (g := id)]
          · simp
          · intro y hy
            have := List.mem_of_mem_take hy
            simp only [List.mem_cons, List.not_mem_nil, or_false] at this
            rcases this with rfl | rfl
            · exact atoiVal_itoa _ ha.1 ha.2
            · exact atoiVal_itoa _ hb.1 hb.2
        rw [e]
        obtain h0 | h0 | h0 : formS k = 0 ∨ formS k = 1 ∨ formS k = 2 := by omega
        · rw [h0] at hz ⊢
          simp at hz
          simp [hz]
        · rw [h0] at hz ⊢
          simp at hz
          simp [hz]
        · rw [h0]
          simp
      unfold tryK
      rw [cut_line]
      rw [if_pos ⟨rfl, by simp; omega⟩, List.drop_one, List.tail_cons, hout, line_at hk6, if_neg hz, if_pos rfl]
  · rw [line_bad hk] at h
    cases h

/-- What a line is that is an entry. -/
theorem stepTo_line {l : List UInt8} {x : Stp} : ∀ {j : Nat}, stepTo l j = some x → ∃ k, k < j ∧ tryK l k = some x
  | 0, h => by cases h
  | j + 1, h => by
    rw [stepTo] at h
    split at h
    · rename_i y hy
      obtain rfl := Option.some.inj h
      obtain ⟨k, hk, e⟩ := stepTo_line hy
      exact ⟨k, by omega, e⟩
    · exact ⟨j, by omega, h⟩
theorem step_line {l : List UInt8} {x : Stp} (h : stepB l = some x) : lineB x = some l := by
  obtain ⟨k, -, e⟩ := stepTo_line h
  exact (tryK_fit e).1

theorem itoa1 : Lib.itoa 1 = [49] := by rw [Lib.itoa, if_neg (by decide), show (1 : Int).toNat = 1 from rfl, Lib.decDigits_one (by decide)]; rfl
theorem itoa2 : Lib.itoa 2 = [50] := by rw [Lib.itoa, if_neg (by decide), show (2 : Int).toNat = 2 from rfl, Lib.decDigits_one (by decide)]; rfl
theorem itoam4 : Lib.itoa (-4) = [45, 52] := by rw [Lib.itoa, if_pos (by decide), show (-4 : Int).natAbs = 4 from rfl, Lib.decDigits_one (by decide)]; rfl

theorem aw_step : stepB [112, 114, 111, 99, 32, 49, 32, 45, 52] = some ⟨1, 1, -4⟩ :=
  line_step (x := ⟨1, 1, -4⟩) ⟨by decide, by decide⟩ ⟨by decide, by decide⟩ (by rw [lineB1, itoa1, itoam4]; rfl)
theorem aw_line : lineB ⟨6, 0, 0⟩ = some [115, 104, 97, 114, 101] := by rw [lineB6, if_pos ⟨rfl, rfl⟩]; rfl
theorem aw_tick : stepB [116, 105, 99, 107] = some ⟨2, 0, 0⟩ :=
  line_step (x := ⟨2, 0, 0⟩) ⟨by decide, by decide⟩ ⟨by decide, by decide⟩ (by rw [lineB2, if_pos ⟨rfl, rfl⟩]; rfl)
theorem aw_turn : stepB [116, 117, 114, 110, 32, 50] = some ⟨5, 2, 0⟩ :=
  line_step (x := ⟨5, 2, 0⟩) ⟨by decide, by decide⟩ ⟨by decide, by decide⟩ (by rw [lineB5, if_pos rfl, itoa2]; rfl)
theorem aw_read : readB [] (linesOf [116, 105, 99, 107, 10, 116, 117, 114, 110, 32, 50]) = ([⟨2, 0, 0⟩, ⟨5, 2, 0⟩], 0, 0) := by
  have e : linesOf [116, 105, 99, 107, 10, 116, 117, 114, 110, 32, 50] = [[116, 105, 99, 107, 10], [116, 117, 114, 110, 32, 50]] := by decide +kernel
  rw [e, readB_next (x := ⟨2, 0, 0⟩) (by decide) (by rw [show trimNl [116, 105, 99, 107, 10] = [116, 105, 99, 107] from trimNl_hit [116, 105, 99, 107]]; exact aw_tick),
    readB_next (x := ⟨5, 2, 0⟩) (by decide) (by rw [trimNl_none _ (by decide)]; exact aw_turn)]
  rfl

set_option maxRecDepth 100000 in
set_option maxHeartbeats 1000000 in
theorem awake_calls (w : World) (hg : Gl w) : Calls Tryd.prog 14 #[] w fun e w' => e = .returned (.bool true) ∧ Keeps NoBlock w w' := by
  have hst := step_list [112, 114, 111, 99, 32, 49, 32, 45, 52] w hg (by decide)
  rw [aw_step] at hst
  simp only [stepR] at hst
  have HST := Lib.hid hst
  have HLN : Hid (∀ w', Gl w' → Calls Tryd.prog 12 #[.agg #[.int .i64 6, .int .i64 0, .int .i64 0]] w' fun e w2 => e = .returned (.tuple #[S [115, 104, 97, 114, 101], .int .i64 0]) ∧ Keeps NoBlock w' w2) := fun w' h => by
    have := line_calls ⟨6, 0, 0⟩ ⟨by decide, by decide⟩ ⟨by decide, by decide⟩ w' h
    rw [aw_line] at this
    exact this
  have HRD : Hid (∀ w', Gl w' → Calls Tryd.prog 16 #[.string ⟨#[116, 105, 99, 107, 10, 116, 117, 114, 110, 32, 50]⟩] w' (ReadPost w' ([⟨2, 0, 0⟩, ⟨5, 2, 0⟩], 0, 0))) := fun w' h => by
    have := read_calls ⟨#[116, 105, 99, 107, 10, 116, 117, 114, 110, 32, 50]⟩ w' h (by decide)
    rw [show readB [] (linesOf (⟨#[116, 105, 99, 107, 10, 116, 117, 114, 110, 32, 50]⟩ : ByteArray).data.toList) = _ from aw_read] at this
    exact this
  have HG := Lib.hid hg
  have hst := 0
  clear hst hg
  go_enter Tryd.func14, Tryd.ntmps14
  go_wp2_with fail
  refine HST.out.mono ?_
  rintro e w1 ⟨rfl, k1⟩
  have K1 := Lib.hid (k1.alloc (.cells #[.int .i64 1, .int .i64 1, .int .i64 (-4)] 23))
  have B1 : Hid ((w1.alloc (.cells #[.int .i64 1, .int .i64 1, .int .i64 (-4)] 23)).heap[w1.heap.size]? = some (.cells #[.int .i64 1, .int .i64 1, .int .i64 (-4)] 23 (0, 0))) := block_alloc_new _ _
  clear k1 HST
  go_wp2_with fail
  refine (HLN.out _ (HG.out.on K1.out)).mono ?_
  rintro e w2 ⟨rfl, k2⟩
  have K2 := Lib.hid (K1.out.trans k2 (fun _ _ e => e))
  have B2 := Lib.hid ((k2.block _ (lt_of_block B1.out) (fun e => e)).trans B1.out)
  clear k2 K1 B1 HLN
  go_wp2_with fail
  refine (HRD.out _ (HG.out.on K2.out)).mono ?_
  rintro e w3 ⟨v, rfl, ov, hv, k3⟩
  obtain ⟨A, cap, rfl⟩ := ov.isSlice
  have K3 := Lib.hid (K2.out.trans k3 (fun _ _ e => e))
  have b3 := (k3.block _ (lt_of_block B2.out) (fun e => e)).trans B2.out
  have i0 : w3.cell? ⟨w1.heap.size, 0, none⟩ = some (.int .i64 1) := cell_of_block (o := 0) b3 rfl
  have i1 : w3.cell? ⟨w1.heap.size, 1, none⟩ = some (.int .i64 1) := cell_of_block (o := 1) b3 rfl
  have i2 : w3.cell? ⟨w1.heap.size, 2, none⟩ = some (.int .i64 (-4)) := cell_of_block (o := 2) b3 rfl
  clear k3 K2 B2 HRD ov hv b3
  go_wp2_with fail
  go_ret
  exact ⟨rfl, K3.out⟩

end Tl
end Go.Proofs.YthjefffefomioaaDoor
