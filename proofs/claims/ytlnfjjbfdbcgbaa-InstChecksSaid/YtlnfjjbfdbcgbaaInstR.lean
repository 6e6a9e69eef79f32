/- The reference of inst: letters and fields. -/
import Derived.Test.YtlnfjjbfdbcgbaaInstH
namespace Go.Proofs.Ytlnfjjbfdbcgbaa
open Go.RowKit

theorem any_snoc {α : Type} (l : List α) (f : α → Bool) (k : Nat) (x : α) (h : l[k]? = some x) : (l.take (k + 1)).any f = ((l.take k).any f || f x) := by
  rw [List.take_add_one, h]
  simp

def inB (s : List UInt8) (c : Int) : Bool := s.any (fun b => (b.toNat : Int) == c)
theorem in_calls (s : List UInt8) (c : Int) (w : World) (hs : s.length ≤ 1000) : Calls Try.prog 36 #[.string (str s), .int .u8 c] w fun e w' => e = .returned (.bool (inB s c)) ∧ w' = w := by
  go_enter Try.func36, Try.ntmps36
  go_wp2_with fail
  go_loop [5] (fun i => ∃ k : Nat, k ≤ s.length ∧ i = .int .i64 k ∧ Hid ((s.take k).any (fun b => (b.toNat : Int) == c) = false)) (fun i => s.length - (intOf i).toNat)
  case atStart => exact ⟨0, Nat.zero_le _, rfl, rfl⟩
  case round =>
    obtain ⟨k, hk, rfl, hall⟩ := hrel
    by_cases hlt : k < s.length
    · have hn : Hid ((s.take (k + 1)).any (fun b => (b.toNat : Int) == c) = ((s.take k).any (fun b => (b.toNat : Int) == c) || ((s[k].toNat : Int) == c))) := any_snoc s _ k s[k] (List.getElem?_eq_getElem hlt)
      have hsz : k < (str s).size := hlt
      go_wp2_with fail
      · have hb : ((s[k].toNat : Int) == c) = true := by assumption
        go_ret
        refine ⟨ret_bool ?_, rfl⟩
        symm
        exact List.any_eq_true.2 ⟨s[k], List.getElem_mem hlt, hb⟩
      · have hb : ((s[k].toNat : Int) == c) = false := by assumption
        refine ⟨⟨k + 1, by omega, by go_num, ?_⟩, by simp [intOf]; omega⟩
        unfold Hid
        rw [hn.out, hall.out, Bool.false_or]; exact hb
    · obtain rfl : k = s.length := by omega
      have h1 : Hid (inB s c = false) := by
        unfold Hid inB
        have := hall.out
        rw [List.take_of_length_le (Nat.le_refl _)] at this
        exact this
      have hsz : (str s).size = s.length := rfl
      have hlt2 : ¬ (s.length < (str s).size) := by rw [hsz]; omega
      go_wp2_with fail
      go_ret
      exact ⟨ret_bool h1.out.symm, rfl⟩

def fieldB (n : Int) (is : Bool) (m : Int) : Bool := if is then decide (0 ≤ n) && decide (n < m) else decide (n = 0)
theorem field_calls (n : Int) (is : Bool) (m : Int) (w : World) : Calls Try.prog 35 #[.int .i64 n, .bool is, .int .i64 m] w fun e w' => e = .returned (.bool (fieldB n is m)) ∧ w' = w := by
  cases is with
  | false =>
    go_enter Try.func35, Try.ntmps35
    go_wp2
    go_ret
    exact ⟨ret_bool (by unfold fieldB; simp; rw [Bool.eq_iff_iff]; simp), rfl⟩
  | true =>
    have h : (n < 0) ∨ (0 ≤ n ∧ n < m) ∨ (0 ≤ n ∧ m ≤ n) := by omega
    rcases h with h | ⟨h, h'⟩ | ⟨h, h'⟩
    all_goals
      go_enter Try.func35, Try.ntmps35
      go_wp2
      go_ret
      exact ⟨ret_bool (by unfold fieldB; simp; try omega), rfl⟩
end Go.Proofs.Ytlnfjjbfdbcgbaa
