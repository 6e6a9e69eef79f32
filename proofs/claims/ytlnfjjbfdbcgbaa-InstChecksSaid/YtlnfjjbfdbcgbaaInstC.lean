/- Package inst: may an instruction be. -/
import Derived.Test.YtlnfjjbfdbcgbaaInstB
namespace Go.Proofs.Ytlnfjjbfdbcgbaa
open Go.RowKit

def soundF (f : Int × Bool × Int × Bool) (M a b c n : Int) : Bool :=
  regB a (decide (0 < f.1)) && regB b (decide (1 < f.1)) && (if f.2.1 then decide (0 ≤ c) && decide (c < M) else regB c (decide (2 < f.1))) && belowB f.2.2.1 f.2.2.2 n
def soundB (nf M C ns np op a b c n : Int) : Bool := decide (cls op ≠ 0) && soundF (ofs nf M C ns np op) M a b c n

def BoolPost (w : World) (b : Bool) (e : Ending) (w' : World) : Prop := e = .returned (.bool b) ∧ Keeps NoBlock w w'

theorem ite_p {α : Type} (Q : α → Prop) {c : Prop} [Decidable c] {a b : α} (ha : Q a) (hb : Q b) : Q (if c then a else b) := by split <;> assumption
def NLt (f : Int × Bool × Int × Bool) : Prop := f.2.2.1 < 9223372036854775808
theorem ofs_lt {nf M C ns np op : Int} (h1 : nf < 9223372036854775808) (h2 : M < 9223372036854775808) (h3 : C < 9223372036854775808) (h4 : ns < 9223372036854775808) (h5 : np < 9223372036854775808) : NLt (ofs nf M C ns np op) := by
  unfold ofs
  repeat (refine ite_p NLt ?_ ?_; (first | exact h1 | exact h2 | exact h3 | exact h4 | exact h5 | (show (_ : Int) < _; decide)))
  show (_ : Int) < _
  decide

set_option maxRecDepth 100000 in
theorem sound_calls (fa sa pa : Option Addr) (nf fc ns sc np pc : Nat) (W M C B R op a b c n : Int) (w : World) (hnf : nf < 9223372036854775808) (hns : ns < 9223372036854775808) (hnp : np < 9223372036854775808) (hM : M < 9223372036854775808) (hC : C < 9223372036854775808) (hn0 : 0 ≤ n) (hn1 : n < 18446744073709551616) :
    Calls Try.prog 17 #[.agg #[.slice fa nf fc, .int .i64 W, .int .i64 M, .int .i64 C, .slice sa ns sc, .slice pa np pc, .int .i64 B, .int .i64 R], .agg #[.int .i64 op, .int .i64 a, .int .i64 b, .int .i64 c, .int .u64 n]] w (BoolPost w (soundB nf M C ns np op a b c n)) := by
  by_cases h : 1 ≤ op ∧ op ≤ 38
  · obtain ⟨h1, h2⟩ := h
    have hc : Hid (cls op ≠ 0) := by unfold Hid cls; (repeat' split) <;> omega
    have hb : (cls op == 0) = false := by simpa using hc.out
    go_enter Try.func17, Try.ntmps17
    go_wp2_with fail
    refine (class_calls op _).mono ?_
    rintro e w1 ⟨rfl, rfl⟩
    go_wp2_with fail
    refine (of_calls fa sa pa nf fc ns sc np pc W M C B R op _ h1 h2).mono ?_
    rintro e w2 ⟨rfl, hk2⟩
    obtain ⟨⟨r, m, fn, any⟩, hf⟩ : ∃ f, Hid (f = ofs nf M C ns np op) := ⟨_, rfl⟩
    rw [← hf.out]
    have hfn : fn < 9223372036854775808 := by
      have := ofs_lt (op := op) (nf := nf) (M := M) (C := C) (ns := ns) (np := np) (by omega) hM hC (by omega) (by omega)
      rw [← hf.out] at this
      exact this
    have b34 : w2.heap[w.heap.size + 1]? = some (.cells #[.int .i64 op, .int .i64 a, .int .i64 b, .int .i64 c, .int .u64 n] 34 (0, 0)) := by
      rw [hk2.block _ (by simp) (fun h => h)]; exact blk_new (by simp)
    have b25 : w2.heap[w.heap.size]? = some (.cells #[.slice fa nf fc, .int .i64 W, .int .i64 M, .int .i64 C, .slice sa ns sc, .slice pa np pc, .int .i64 B, .int .i64 R] 25 (0, 0)) := by
      rw [hk2.block _ (by simp; omega) (fun h => h)]; exact block_alloc_old (block_alloc_new _ _)
    have c0 := cell_of_block (o := 0) b34 rfl
    have c1 := cell_of_block (o := 1) b34 rfl
    have c2 := cell_of_block (o := 2) b34 rfl
    have c3 := cell_of_block (o := 3) b34 rfl
    have c4 := cell_of_block (o := 4) b34 rfl
    have cM := cell_of_block (o := 2) b25 rfl
    have hkw : Keeps NoBlock w w2 := (((Keeps.refl _ w).alloc _).alloc _).trans hk2 (fun _ _ h => h)
    have hs2 := hkw.size
    have hz2 : w.heap.size + 1 < w2.heap.size := by have := hk2.size; simp at this; omega
    have hz3 : w.heap.size < w2.heap.size := by omega
    clear hb
    simp only [formV]
    go_wp2_with fail
    refine (reg_calls _ _ _).mono ?_
    rintro e w3 ⟨rfl, rfl⟩
    obtain ⟨rc, hrc⟩ : ∃ x, Hid (x = regB c (decide (2 < r))) := ⟨_, rfl⟩
    rw [← hrc.out]
    obtain ⟨cc, hcc⟩ : ∃ x, Hid (x = if m then decide (0 ≤ c) && decide (c < M) else rc) := ⟨_, rfl⟩
    go_upto_if 22 with fail
    go_cut [6] from 23 to 32 (fun v wx => v = .bool cc ∧ wx = w2.alloc (.cells #[.int .i64 r, .bool m, .int .i64 fn, .bool any] 52))
    case first =>
      cases m with
      | false =>
        go_wp2_with fail
        go_meet
        case rel => exact ⟨by rw [hcc.out]; rfl, rfl⟩
      | true =>
        have h3 : (c < 0) ∨ (0 ≤ c ∧ c < M) ∨ (0 ≤ c ∧ M ≤ c) := by omega
        rcases h3 with h3 | ⟨h3, h4⟩ | ⟨h3, h4⟩
        all_goals
          go_wp2_with fail
          go_meet
          case rel => exact ⟨by rw [hcc.out]; simp; omega, rfl⟩
    case rest =>
      obtain ⟨rfl, rfl⟩ := hcut
      have hfin : Hid (soundB nf M C ns np op a b c n = (regB a (decide (0 < r)) && regB b (decide (1 < r)) && cc && belowB fn any n)) := by
        unfold Hid soundB soundF
        rw [← hf.out, hcc.out, hrc.out, decide_eq_true hc.out]
        cases m <;> rfl
      go_wp2_with fail
      refine (reg_calls _ _ _).mono ?_
      rintro e w3 ⟨rfl, rfl⟩
      have hkz : Keeps NoBlock w (w2.alloc (.cells #[.int .i64 r, .bool m, .int .i64 fn, .bool any] 52)) := hkw.alloc _
      have Hk2 := Lib.hid hk2
      clear hk2
      cases hra : regB a (decide (0 < r)) with
      | false =>
        have Hra := Lib.hid hra
        clear hra
        go_wp2_with fail
        go_ret
        exact ⟨ret_bool (by rw [hfin.out, Hra.out]; rfl), hkz⟩
      | true =>
        have Hra := Lib.hid hra
        clear hra
        go_wp2_with fail
        refine (reg_calls _ _ _).mono ?_
        rintro e w3 ⟨rfl, rfl⟩
        cases hrb : regB b (decide (1 < r)) with
        | false =>
          have Hrb := Lib.hid hrb
          clear hrb
          go_wp2_with fail
          go_ret
          exact ⟨ret_bool (by rw [hfin.out, Hra.out, Hrb.out]; rfl), hkz⟩
        | true =>
          have Hrb := Lib.hid hrb
          clear hrb
          cases cc with
          | false =>
            go_wp2_with fail
            go_ret
            exact ⟨ret_bool (by rw [hfin.out, Hra.out, Hrb.out]; rfl), hkz⟩
          | true =>
            go_wp2_with fail
            refine (below_calls _ _ _ _ _ _ hfn hn0 hn1).mono ?_
            rintro e w4 ⟨rfl, hk4⟩
            have hkz4 := hkz.trans hk4 (fun _ _ h => h)
            obtain ⟨bl, hbl⟩ : ∃ x, Hid (x = belowB fn any n) := ⟨_, rfl⟩
            rw [← hbl.out]
            go_wp2_with fail
            go_ret
            exact ⟨ret_bool (by rw [hfin.out, Hra.out, Hrb.out, hbl.out]; rfl), hkz4⟩
  · have hc : cls op = 0 := by unfold cls; (repeat' split) <;> omega
    have Hc := Lib.hid hc
    clear hc
    go_enter Try.func17, Try.ntmps17
    go_wp2_with fail
    refine (class_calls op _).mono ?_
    rintro e w1 ⟨rfl, rfl⟩
    rw [Hc.out]
    go_wp2
    go_ret
    exact ⟨ret_bool (by simp [soundB, Hc.out]), ((Keeps.refl _ w).alloc _).alloc _⟩
end Go.Proofs.Ytlnfjjbfdbcgbaa
