/- FramePlains: how many letters Has gives. -/
import Derived.Test.YtlnoejmckpimnaaFrU
namespace Go.Proofs.Ytlnoejmckpimnaa
open Go.RowKit Ieee
namespace Fr

/-- How many letters an instruction has. -/
def hasN (op : Int) : Nat := if op = 16 then 1 else if op = 1 ∨ op = 17 then 2 else if 3 ≤ op ∧ op ≤ 13 then 4 else 3

theorem has_lenN : ∀ k : Fin 20, 1 ≤ k.val → (hasS (k.val : Int)).length = hasN (k.val : Int) := by decide

theorem has_len {op : Int} (h1 : 1 ≤ op) (h2 : op ≤ 19) : (hasS op).length = hasN op := by
  obtain ⟨k, rfl⟩ := Int.eq_ofNat_of_zero_le (show 0 ≤ op by omega)
  exact has_lenN ⟨k, by omega⟩ (by show 1 ≤ k; omega)

/-- Not a plain instruction, or one that names a register that is not there. -/
def badI (i : In5) : Prop := ¬ (1 ≤ i.1 ∧ i.1 ≤ 19) ∨ (i.1 ≠ 16 ∧ okR i.2.1 = false) ∨ (2 < hasN i.1 ∧ okR i.2.2.1 = false) ∨ (3 < hasN i.1 ∧ okR i.2.2.2.1 = false)

theorem hasN_two {op : Int} (h : 2 < hasN op) : op ≠ 16 ∧ op ≠ 17 ∧ op ≠ 1 := by
  unfold hasN at h
  refine ⟨fun e => ?_, fun e => ?_, fun e => ?_⟩ <;> subst e <;> simp at h

theorem hasN_three {op : Int} (h : 3 < hasN op) : 3 ≤ op ∧ op ≤ 13 := by
  unfold hasN at h
  split at h
  · omega
  · split at h
    · omega
    · split at h
      · assumption
      · omega

theorem short_no {op : Int} (h : 3 ≤ op ∧ op ≤ 13) : shortB op = false := by
  unfold shortB
  rw [decide_eq_false_iff_not]; omega

theorem plain_of_bad {f : Frm} {i : In5} {ms : List Int} (h : badI i) : plainF f i ms = .error 8 := by
  unfold plainF
  by_cases ho : 1 ≤ i.1 ∧ i.1 ≤ 19
  · rw [if_pos ho]
    unfold doF
    rcases h with h | ⟨h, ha⟩ | ⟨h, hb⟩ | ⟨h, hc⟩
    · exact absurd ho h
    · rw [if_neg h, if_pos ha]
    · obtain ⟨h1, h2, h3⟩ := hasN_two h
      rw [if_neg h1]
      by_cases ha : okR i.2.1 = false
      · rw [if_pos ha]
      · rw [if_neg ha, if_neg h2, if_neg h3, if_pos hb]
    · have h3 := hasN_three h
      rw [if_neg (by omega : ¬ i.1 = 16)]
      by_cases ha : okR i.2.1 = false
      · rw [if_pos ha]
      · rw [if_neg ha, if_neg (by omega : ¬ i.1 = 17), if_neg (by omega : ¬ i.1 = 1)]
        by_cases hb : okR i.2.2.1 = false
        · rw [if_pos hb]
        · rw [if_neg hb, if_neg (by omega : ¬ i.1 = 18), if_neg (by omega : ¬ i.1 = 19), if_neg (by rw [short_no h3]; simp), if_pos hc]
  · rw [if_neg ho]

theorem str_size (l : List UInt8) : (str l).size = l.length := rfl
end Fr
end Go.Proofs.Ytlnoejmckpimnaa
