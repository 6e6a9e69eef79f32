/- FramePlains: the small words: Has of the reference, reg of the law. -/
import Derived.Test.YtlnoejmckpimnaaFrQ
namespace Go.Proofs.Ytlnoejmckpimnaa
open Go.RowKit Ieee
namespace Fr

def str (l : List UInt8) : ByteArray := ⟨l.toArray⟩
def hasT : List (List UInt8) := [[], [65, 120], [65, 66, 110], [65, 66, 67, 110], [65, 66, 67, 110], [65, 66, 67, 110], [65, 66, 67, 110], [65, 66, 67, 110], [65, 66, 67, 110], [65, 66, 67, 110], [65, 66, 67, 110], [65, 66, 67, 110], [65, 66, 67, 110], [65, 66, 67, 110], [65, 66, 110], [65, 66, 110], [99], [65, 99], [65, 66, 110], [65, 66, 110], [65, 66, 102], [65, 66, 110], [65, 110], [65, 110], [110], [109], [109], [77, 107], [107], [107], [115], [115], [65, 110], [65, 66, 110], [65, 66, 110], [65, 112], [65, 112], [65, 110], [65, 110]]
def hasS (op : Int) : List UInt8 := if 0 ≤ op then hasT.getD op.toNat [] else []

set_option maxRecDepth 100000 in
set_option maxHeartbeats 2000000 in
theorem has_calls (op : Int) (w : World) : Calls Try.prog 16 #[.int .i64 op] w fun e w' => e = .returned (.string (str (hasS op))) ∧ Keeps NoBlock w w' := by
  by_cases h0 : 0 ≤ op
  · by_cases h1 : op < 39
    · obtain ⟨k, rfl⟩ := Int.eq_ofNat_of_zero_le h0
      obtain ⟨l, hl⟩ : ∃ l, hasT[k]? = some l := ⟨_, List.getElem?_eq_getElem (by show k < 39; omega)⟩
      have hL : ([Value.string { data := #[] }, Value.string { data := #[65, 120] }, Value.string { data := #[65, 66, 110] }, Value.string { data := #[65, 66, 67, 110] }, Value.string { data := #[65, 66, 67, 110] }, Value.string { data := #[65, 66, 67, 110] }, Value.string { data := #[65, 66, 67, 110] }, Value.string { data := #[65, 66, 67, 110] }, Value.string { data := #[65, 66, 67, 110] }, Value.string { data := #[65, 66, 67, 110] }, Value.string { data := #[65, 66, 67, 110] }, Value.string { data := #[65, 66, 67, 110] }, Value.string { data := #[65, 66, 67, 110] }, Value.string { data := #[65, 66, 67, 110] }, Value.string { data := #[65, 66, 110] }, Value.string { data := #[65, 66, 110] }, Value.string { data := #[99] }, Value.string { data := #[65, 99] }, Value.string { data := #[65, 66, 110] }, Value.string { data := #[65, 66, 110] }, Value.string { data := #[65, 66, 102] }, Value.string { data := #[65, 66, 110] }, Value.string { data := #[65, 110] }, Value.string { data := #[65, 110] }, Value.string { data := #[110] }, Value.string { data := #[109] }, Value.string { data := #[109] }, Value.string { data := #[77, 107] }, Value.string { data := #[107] }, Value.string { data := #[107] }, Value.string { data := #[115] }, Value.string { data := #[115] }, Value.string { data := #[65, 110] }, Value.string { data := #[65, 66, 110] }, Value.string { data := #[65, 66, 110] }, Value.string { data := #[65, 112] }, Value.string { data := #[65, 112] }, Value.string { data := #[65, 110] }, Value.string { data := #[65, 110] }] : List Value)[k]? = some (.string (str l)) := by
        have : (hasT.map (fun l => Value.string (str l)))[k]? = some (.string (str l)) := by rw [List.getElem?_map, hl]; rfl
        exact this
      have hf : Hid (hasS k = l) := by
        unfold Hid hasS
        rw [if_pos (by omega), Int.toNat_natCast, List.getD_eq_getElem?_getD, hl]; rfl
      clear hl
      go_enter Try.func16, Try.ntmps16
      go_wp2_with fail
      go_ret
      exact ⟨by rw [hf.out]; rfl, (Keeps.refl _ w).alloc _⟩
    · have h2 : 39 ≤ op := by omega
      go_enter Try.func16, Try.ntmps16
      go_wp2_with fail
      go_ret
      exact ⟨by rw [show hasS op = [] from by unfold hasS; rw [if_pos h0, List.getD_eq_getElem?_getD, List.getElem?_eq_none (by show 39 ≤ op.toNat; omega)]; rfl]; rfl, (Keeps.refl _ w).alloc _⟩
  · have h2 : op < 0 := by omega
    go_enter Try.func16, Try.ntmps16
    go_wp2_with fail
    go_ret
    exact ⟨by rw [show hasS op = [] from by unfold hasS; rw [if_neg (by omega)]]; rfl, (Keeps.refl _ w).alloc _⟩

/-- The law's own reg. -/
theorem lreg_calls (n : Int) (w : World) : Calls Try.prog 17 #[.int .i64 n] w fun e w' => e = .returned (.bool (okR n)) ∧ w = w' := by
  have h : n < 0 ∨ (0 ≤ n ∧ n < 8) ∨ 8 ≤ n := by omega
  rcases h with h | ⟨h, h'⟩ | h
  · rw [show okR n = false from by unfold okR; rw [decide_eq_false_iff_not]; omega]
    go_enter Try.func17, Try.ntmps17
    go_wp2
    go_ret
    exact ⟨rfl, rfl⟩
  · have h8 : decide (n < 8) = true := decide_eq_true h'
    rw [show okR n = true from by unfold okR; rw [decide_eq_true_iff]; omega]
    go_enter Try.func17, Try.ntmps17
    go_wp2
    go_ret
    exact ⟨rfl, rfl⟩
  · have h8 : decide (n < 8) = false := decide_eq_false (by omega)
    have h0 : (0 : Int) ≤ n := by omega
    rw [show okR n = false from by unfold okR; rw [decide_eq_false_iff_not]; omega]
    go_enter Try.func17, Try.ntmps17
    go_wp2
    go_ret
    exact ⟨rfl, rfl⟩
end Fr
end Go.Proofs.Ytlnoejmckpimnaa
