/- The reference of inst: may an instruction be. -/
import Derived.Test.YtlnfjjbfdbcgbaaInstR
namespace Go.Proofs.Ytlnfjjbfdbcgbaa
open Go.RowKit

theorem quiet_add_same {P : Program} {f : FuncId} {args : Array Value} {w : World} {a n : Nat} {v : Value}
    (h : Calls P f args (w.drewN (a + n)) fun e w' => e = .returned v ∧ w' = w.drewN (a + n)) :
    Calls P f args (w.drewN (a + n)) fun e w'' => e = .returned v ∧ ∃ m, w'' = w.drewN (a + m) :=
  h.mono fun _ _ ⟨he, hm⟩ => ⟨he, n, hm⟩

/-- What stands last in a text. -/
def lastB (h : List UInt8) : Int := match h.getLast? with | some b => b.toNat | none => 0
def mostI (nf M C ns np lb : Int) : Int := if lb = 99 then 257 else if lb = 102 then nf else if lb = 109 then M else if lb = 107 then C else if lb = 115 then ns else if lb = 112 then np else 0
def tailB (nf M C ns np lb n : Int) : Bool := if lb = 120 then true else if lb = 110 then decide (n = 0) else decide (0 < mostI nf M C ns np lb) && decide (n < mostI nf M C ns np lb)
def refSound (h : List UInt8) (nf M C ns np a b c n : Int) : Bool :=
  !h.isEmpty && fieldB a (inB h 65) 8 && fieldB b (inB h 66) 8 && (if inB h 77 then fieldB c true M else fieldB c (inB h 67) 8) && tailB nf M C ns np (lastB h) n

theorem str_isEmpty (h : List UInt8) : (str h).toList.isEmpty = h.isEmpty := by cases h <;> simp [str]

set_option maxRecDepth 100000 in
set_option maxHeartbeats 1000000 in
theorem rSound_calls (fa sa pa : Option Addr) (nf fc ns sc np pc : Nat) (W M C B R op a b c n : Int) (w : World) (hnf : nf ≤ 1000000000000000) (hns : ns ≤ 1000000000000000) (hnp : np ≤ 1000000000000000) (hM : M < 9223372036854775808) (hC : C < 9223372036854775808) (hn0 : 0 ≤ n) (hn1 : n < 18446744073709551616) :
    Calls Try.prog 25 #[.agg #[.slice fa nf fc, .int .i64 W, .int .i64 M, .int .i64 C, .slice sa ns sc, .slice pa np pc, .int .i64 B, .int .i64 R], .agg #[.int .i64 op, .int .i64 a, .int .i64 b, .int .i64 c, .int .u64 n]] w (BoolPost w (refSound (hasS op) nf M C ns np a b c n)) := by
  obtain ⟨h, hh⟩ : ∃ h, Hid (h = hasS op) := ⟨_, rfl⟩
  have hl : h.length ≤ 1000 := by
    rw [hh.out]; unfold hasS
    split
    · have : ∀ k, (hasT.getD k []).length ≤ 1000 := by
        intro k
        by_cases hk : k < 39
        · exact (by decide : ∀ k, k < 39 → (hasT.getD k []).length ≤ 1000) k hk
        · rw [List.getD_eq_getElem?_getD, List.getElem?_eq_none (by show 39 ≤ k; omega)]; simp
      exact this _
    · simp
  rw [← hh.out]
  go_enter Try.func25, Try.ntmps25
  go_wp2_with fail
  refine (has_calls op _).mono ?_
  rintro e w2 ⟨rfl, hk2⟩
  rw [← hh.out]
  have b34 : w2.heap[w.heap.size + 1]? = some (.cells #[.int .i64 op, .int .i64 a, .int .i64 b, .int .i64 c, .int .u64 n] 34 (0, 0)) := by
    rw [hk2.block _ (by simp) (fun h => h)]; exact blk_new (by simp)
  have b25 : w2.heap[w.heap.size]? = some (.cells #[.slice fa nf fc, .int .i64 W, .int .i64 M, .int .i64 C, .slice sa ns sc, .slice pa np pc, .int .i64 B, .int .i64 R] 25 (0, 0)) := by
    rw [hk2.block _ (by simp; omega) (fun h => h)]; exact block_alloc_old (block_alloc_new _ _)
  have c1 : w2.cell? ⟨w.heap.size + 1, 1, none⟩ = some (.int .i64 a) := cell_of_block (o := 1) b34 rfl
  have c2 : w2.cell? ⟨w.heap.size + 1, 2, none⟩ = some (.int .i64 b) := cell_of_block (o := 2) b34 rfl
  have c3 : w2.cell? ⟨w.heap.size + 1, 3, none⟩ = some (.int .i64 c) := cell_of_block (o := 3) b34 rfl
  have c4 : w2.cell? ⟨w.heap.size + 1, 4, none⟩ = some (.int .u64 n) := cell_of_block (o := 4) b34 rfl
  have p0 : w2.cell? ⟨w.heap.size, 0, none⟩ = some (.slice fa nf fc) := cell_of_block (o := 0) b25 rfl
  have p2 : w2.cell? ⟨w.heap.size, 2, none⟩ = some (.int .i64 M) := cell_of_block (o := 2) b25 rfl
  have p3 : w2.cell? ⟨w.heap.size, 3, none⟩ = some (.int .i64 C) := cell_of_block (o := 3) b25 rfl
  have p4 : w2.cell? ⟨w.heap.size, 4, none⟩ = some (.slice sa ns sc) := cell_of_block (o := 4) b25 rfl
  have p5 : w2.cell? ⟨w.heap.size, 5, none⟩ = some (.slice pa np pc) := cell_of_block (o := 5) b25 rfl
  have hkw : Keeps NoBlock w w2 := (((Keeps.refl _ w).alloc _).alloc _).trans hk2 (fun _ _ h => h)
  clear b34 b25 hk2
  go_upto_region 2 with fail
  go_cut [27] from 10 to 26 (fun v wx => v = .bool (h.isEmpty || !fieldB a (inB h 65) 8 || !fieldB b (inB h 66) 8) ∧ ∃ nq, wx = w2.drewN nq)
  case first =>
    cases hh0 : h.isEmpty with
    | true =>
      have hse : (str h).toList.isEmpty = true := by rw [str_isEmpty, hh0]
      have Hh0 := Lib.hid hh0
      clear hh0
      go_quiet (fail)
      go_wp2_with fail
      go_meet
      case rel => exact ⟨by rw [Hh0.out]; rfl, _, rfl⟩
    | false =>
      have hse : (str h).toList.isEmpty = false := by rw [str_isEmpty, hh0]
      have Hh0 := Lib.hid hh0
      clear hh0
      cases hfa : fieldB a (inB h 65) 8 with
      | false =>
        go_quiet ((first | (go_at_call 36; exact Calls.quiet_of_same (in_calls _ _ _ hl)) | (go_at_call 35; exact Calls.quiet_of_same (field_calls _ _ _ _))))
        go_wp2_with fail
        go_meet
        case rel => exact ⟨by rw [hfa, Bool.not_false, Bool.or_true, Bool.true_or], _, rfl⟩
      | true =>
        cases hfb : fieldB b (inB h 66) 8
        all_goals
          go_quiet ((first | (go_at_call 36; exact Calls.quiet_of_same (in_calls _ _ _ hl)) | (go_at_call 35; exact Calls.quiet_of_same (field_calls _ _ _ _))))
          go_wp2_with fail
          go_meet
          case rel => exact ⟨by rw [Hh0.out, hfa, hfb]; rfl, _, rfl⟩
  case rest =>
    obtain ⟨rfl, nq, rfl⟩ := hcut
    have hkq : Keeps NoBlock w (w2.drewN nq) := hkw.drewN nq
    cases hbad : (h.isEmpty || !fieldB a (inB h 65) 8 || !fieldB b (inB h 66) 8) with
    | true =>
      have Hbad := Lib.hid hbad
      clear hbad
      go_wp2_with fail
      go_ret
      refine ⟨ret_bool ?_, hkq⟩
      have := Hbad.out
      simp only [Bool.or_eq_true, Bool.not_eq_true'] at this
      unfold refSound
      rcases this with (h1 | h1) | h1 <;> simp [h1]
    | false =>
      have hg : Hid (h.isEmpty = false ∧ fieldB a (inB h 65) 8 = true ∧ fieldB b (inB h 66) 8 = true) := by
        simp only [Bool.or_eq_false_iff, Bool.not_eq_false'] at hbad
        exact ⟨hbad.1.1, hbad.1.2, hbad.2⟩
      clear hbad
      go_wp2_with fail
      refine (in_calls _ _ _ hl).mono ?_
      rintro e w3 ⟨rfl, rfl⟩
      obtain ⟨cc, hcc⟩ : ∃ x, Hid (x = if inB h 77 then fieldB c true M else fieldB c (inB h 67) 8) := ⟨_, rfl⟩
      go_upto_if 29 with fail
      go_cut [] from 29 to 41 (fun wx => cc = true ∧ ∃ nq, wx = w2.drewN nq)
      case first =>
        cases hm : inB h 77 with
        | true =>
          go_wp2_with fail
          refine (field_calls _ _ _ _).mono ?_
          rintro e w4 ⟨rfl, rfl⟩
          cases hfc : fieldB c true M with
          | true =>
            go_wp2_with fail
            go_meet
            case rel => exact ⟨by rw [hcc.out, if_pos hm, hfc], _, rfl⟩
          | false =>
            have hR : Hid (refSound h nf M C ns np a b c n = false) := by unfold Hid refSound; rw [if_pos hm, hfc]; simp
            go_wp2_with fail
            go_ret
            exact ⟨ret_bool hR.out.symm, hkq⟩
        | false =>
          cases hfc : fieldB c (inB h 67) 8 with
          | true =>
            go_upto_region 7 with fail
            go_quiet ((first | (go_at_call 36; exact quiet_add_same (in_calls _ _ _ hl)) | (go_at_call 35; exact quiet_add_same (field_calls _ _ _ _))))
            go_wp2_with fail
            go_meet
            case rel => exact ⟨by rw [hcc.out, hm, hfc]; rfl, ⟨_, World.drewN_drewN w2 _ _⟩⟩
          | false =>
            have hR : Hid (refSound h nf M C ns np a b c n = false) := by unfold Hid refSound; rw [hm, hfc]; simp
            go_upto_region 7 with fail
            go_quiet ((first | (go_at_call 36; exact quiet_add_same (in_calls _ _ _ hl)) | (go_at_call 35; exact quiet_add_same (field_calls _ _ _ _))))
            go_wp2_with fail
            go_ret
            exact ⟨ret_bool hR.out.symm, (hkw.drewN _).drewN _⟩
      case rest =>
        obtain ⟨hcT, nq2, rfl⟩ := hcut
        have hkq2 : Keeps NoBlock w (w2.drewN nq2) := hkw.drewN nq2
        have hR : Hid (refSound h nf M C ns np a b c n = tailB nf M C ns np (lastB h) n) := by
          unfold Hid refSound
          rw [hg.out.1, hg.out.2.1, hg.out.2.2, ← hcc.out, hcT]; rfl
        clear hcT
        obtain ⟨l, x, rfl⟩ : ∃ l x, h = l ++ [x] := by
          rcases List.eq_nil_or_concat h with rfl | ⟨l, x, rfl⟩
          · exact absurd hg.out.1 (by simp)
          · exact ⟨l, x, by simp⟩
        have hsz : (str (l ++ [x])).size = l.length + 1 := by show (l ++ [x]).length = _; simp
        have hll : l.length ≤ 1000 := by simp at hl; omega
        have hlb : Hid (lastB (l ++ [x]) = x.toNat) := by unfold Hid lastB; simp
        rw [hlb.out] at hR
        have hx0 : x.toNat < 256 := x.toNat_lt
        go_upto_region 11 with fail
        have hidx : Hid ((str (l ++ [x]))[l.length]'(by rw [hsz]; omega) = x) := by unfold Hid; show (l ++ [x])[l.length] = x; simp
        rw [hidx.out]
        obtain ⟨lb, hlbd⟩ : ∃ lb : Int, (x.toNat : Int) = lb := ⟨_, rfl⟩
        rw [hlbd] at hR ⊢
        have hlb1 : 0 ≤ lb ∧ lb < 256 := by omega
        have hsz' := Lib.hid hsz
        clear hlbd hidx hsz hcc hg hh hkq hx0
        have hlt : (lb = 120) ∨ (lb = 110) ∨ (lb = 99 ∨ lb = 102 ∨ lb = 109 ∨ lb = 107 ∨ lb = 115 ∨ lb = 112 ∨ (lb ≠ 120 ∧ lb ≠ 110 ∧ lb ≠ 99 ∧ lb ≠ 102 ∧ lb ≠ 109 ∧ lb ≠ 107 ∧ lb ≠ 115 ∧ lb ≠ 112)) := by omega
        rcases hlt with rfl | rfl | hlt
        · go_wp2_with fail
          go_ret
          exact ⟨ret_bool (by rw [hR.out]; rfl), hkq2⟩
        · go_wp2_with fail
          go_ret
          exact ⟨ret_bool (by rw [hR.out]; unfold tailB; simp; rw [Bool.eq_iff_iff]; simp), hkq2⟩
        · obtain ⟨mi, hmi⟩ : ∃ mi, Hid (mi = mostI nf M C ns np lb) := ⟨_, rfl⟩
          have hRt : Hid (refSound (l ++ [x]) nf M C ns np a b c n = (decide (0 < mi) && decide (n < mi))) := by
            unfold Hid
            rw [hR.out, hmi.out]
            unfold tailB
            rw [if_neg (by omega), if_neg (by omega)]
          have Hlt := Lib.hid hlt
          rcases hlt with rfl | rfl | rfl | rfl | rfl | rfl | hlt
          · have HR : Hid (refSound (l ++ [x]) nf M C ns np a b c n = (decide (0 < (257 : Int)) && decide (n < 257))) := by unfold Hid; rw [hRt.out, show mi = 257 from hmi.out]
            clear hRt hmi hR
            have hx : (n < 257) ∨ (257 ≤ n) := by omega
            rcases hx with hx | hx
            all_goals
              go_wp2_with fail
              go_ret
              exact ⟨ret_bool (by rw [HR.out]; simp <;> omega), hkq2⟩
          · have HR : Hid (refSound (l ++ [x]) nf M C ns np a b c n = (decide (0 < (nf : Int)) && decide (n < (nf : Int)))) := by unfold Hid; rw [hRt.out, show mi = (nf : Int) from hmi.out]
            clear hRt hmi hR
            have hx : ((nf : Int) ≤ 0) ∨ (0 < (nf : Int) ∧ n < (nf : Int)) ∨ (0 < (nf : Int) ∧ (nf : Int) ≤ n) := by omega
            rcases hx with hx | ⟨hx, hx2⟩ | ⟨hx, hx2⟩
            all_goals
              go_wp2_with fail
              go_ret
              exact ⟨ret_bool (by rw [HR.out]; simp <;> omega), hkq2⟩
          · have HR : Hid (refSound (l ++ [x]) nf M C ns np a b c n = (decide (0 < M) && decide (n < M))) := by unfold Hid; rw [hRt.out, show mi = M from hmi.out]
            clear hRt hmi hR
            have hx : (M ≤ 0) ∨ (0 < M ∧ n < M) ∨ (0 < M ∧ M ≤ n) := by omega
            rcases hx with hx | ⟨hx, hx2⟩ | ⟨hx, hx2⟩
            all_goals
              go_wp2_with fail
              go_ret
              exact ⟨ret_bool (by rw [HR.out]; simp <;> omega), hkq2⟩
          · have HR : Hid (refSound (l ++ [x]) nf M C ns np a b c n = (decide (0 < C) && decide (n < C))) := by unfold Hid; rw [hRt.out, show mi = C from hmi.out]
            clear hRt hmi hR
            have hx : (C ≤ 0) ∨ (0 < C ∧ n < C) ∨ (0 < C ∧ C ≤ n) := by omega
            rcases hx with hx | ⟨hx, hx2⟩ | ⟨hx, hx2⟩
            all_goals
              go_wp2_with fail
              go_ret
              exact ⟨ret_bool (by rw [HR.out]; simp <;> omega), hkq2⟩
          · have HR : Hid (refSound (l ++ [x]) nf M C ns np a b c n = (decide (0 < (ns : Int)) && decide (n < (ns : Int)))) := by unfold Hid; rw [hRt.out, show mi = (ns : Int) from hmi.out]
            clear hRt hmi hR
            have hx : ((ns : Int) ≤ 0) ∨ (0 < (ns : Int) ∧ n < (ns : Int)) ∨ (0 < (ns : Int) ∧ (ns : Int) ≤ n) := by omega
            rcases hx with hx | ⟨hx, hx2⟩ | ⟨hx, hx2⟩
            all_goals
              go_wp2_with fail
              go_ret
              exact ⟨ret_bool (by rw [HR.out]; simp <;> omega), hkq2⟩
          · have HR : Hid (refSound (l ++ [x]) nf M C ns np a b c n = (decide (0 < (np : Int)) && decide (n < (np : Int)))) := by unfold Hid; rw [hRt.out, show mi = (np : Int) from hmi.out]
            clear hRt hmi hR
            have hx : ((np : Int) ≤ 0) ∨ (0 < (np : Int) ∧ n < (np : Int)) ∨ (0 < (np : Int) ∧ (np : Int) ≤ n) := by omega
            rcases hx with hx | ⟨hx, hx2⟩ | ⟨hx, hx2⟩
            all_goals
              go_wp2_with fail
              go_ret
              exact ⟨ret_bool (by rw [HR.out]; simp <;> omega), hkq2⟩
          · obtain rfl : mi = 0 := by rw [hmi.out]; unfold mostI; (repeat rw [if_neg (by omega)])
            have e120 : (lb == 120) = false := by simp; omega
            have e110 : (lb == 110) = false := by simp; omega
            have e99 : (lb == 99) = false := by simp; omega
            have e102 : (lb == 102) = false := by simp; omega
            have e109 : (lb == 109) = false := by simp; omega
            have e107 : (lb == 107) = false := by simp; omega
            have e115 : (lb == 115) = false := by simp; omega
            have e112 : (lb == 112) = false := by simp; omega
            clear hlt
            go_wp2_with fail
            go_ret
            exact ⟨ret_bool (by rw [hRt.out]; rfl), hkq2⟩
end Go.Proofs.Ytlnfjjbfdbcgbaa
