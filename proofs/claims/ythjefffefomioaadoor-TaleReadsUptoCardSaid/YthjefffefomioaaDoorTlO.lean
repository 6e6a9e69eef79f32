/- TaleReads. -/
import Derived.Test.YthjefffefomioaaDoorTlN
namespace Go.Proofs.YthjefffefomioaaDoor
open Go.RowKit
namespace Tl

/-- What is read begins with what was read. -/
theorem read_begin : ∀ (ls : List (List UInt8)) (out xs : List Stp) (n : Nat), readB out ls = (xs, n, 0) → n = 0 ∧ ∃ r, xs = out ++ r
  | [], out, xs, n, h => by
    rw [readB] at h
    cases h
    exact ⟨rfl, [], by simp⟩
  | l :: ls, out, xs, n, h => by
    by_cases hf : 65536 ≤ out.length
    · rw [readB_full hf] at h
      cases h
    · cases hs : stepB (trimNl l) with
      | none =>
        rw [readB_bad hf hs] at h
        cases h
      | some x =>
        rw [readB_next hf hs] at h
        obtain ⟨h1, r, h2⟩ := read_begin ls _ _ _ h
        exact ⟨h1, x :: r, by rw [h2]; simp⟩

/-- The part up to the next newline. -/
def upTo : List UInt8 → List UInt8
  | [] => []
  | b :: l => if b = 10 then [] else b :: upTo l

theorem upTo_no : ∀ (l : List UInt8), (10 : UInt8) ∉ upTo l
  | [] => by simp [upTo]
  | b :: l => by
    rw [upTo]
    split
    · simp
    · rename_i hb
      exact fun e => (List.mem_cons.1 e).elim (fun e => hb e.symm) (upTo_no l)

theorem upTo_split : ∀ (l : List UInt8), (l = upTo l) ∨ ∃ r, l = upTo l ++ 10 :: r
  | [] => .inl rfl
  | b :: l => by
    rw [upTo]
    split
    · rename_i hb
      subst hb
      exact .inr ⟨l, rfl⟩
    · rcases upTo_split l with h | ⟨r, h⟩
      · exact .inl (congrArg (b :: ·) h)
      · exact .inr ⟨r, congrArg (b :: ·) h⟩

theorem upTo_len (l : List UInt8) : (upTo l).length ≤ l.length := by
  rcases upTo_split l with h | ⟨r, h⟩
  · rw [← h]; exact Nat.le_refl _
  · have := congrArg List.length h
    rw [List.length_append] at this
    omega

theorem upTo_at (l : List UInt8) (j : Nat) (hj : j < (upTo l).length) : ∃ y, l[j]? = some y ∧ y ≠ 10 := by
  have hno := upTo_no l
  have hs := upTo_split l
  obtain ⟨p, hp⟩ : ∃ p, upTo l = p := ⟨_, rfl⟩
  rw [hp] at hj hno hs
  obtain ⟨y, hy⟩ : ∃ y, p[j]? = some y := ⟨_, List.getElem?_eq_getElem hj⟩
  refine ⟨y, ?_, fun e => hno (by rw [← e]; exact List.mem_of_getElem? hy)⟩
  rcases hs with h | ⟨r, h⟩
  · rw [h]; exact hy
  · rw [h, List.getElem?_append_left hj]; exact hy

theorem upTo_end (l : List UInt8) (hl : (upTo l).length < l.length) : l[(upTo l).length]? = some 10 := by
  rcases upTo_split l with h | ⟨r, h⟩
  · rw [← h] at hl; omega
  · obtain ⟨p, hp⟩ : ∃ p, upTo l = p := ⟨_, rfl⟩
    rw [hp] at h ⊢
    rw [h, List.getElem?_append_right (Nat.le_refl _)]
    simp

/-- A round: the next line. -/
theorem lines_next {l : List UInt8} (hl : l ≠ []) : ∃ m, linesOf l = m :: linesOf (l.drop ((upTo l).length + 1)) ∧ trimNl m = upTo l := by
  obtain ⟨p, hp⟩ : ∃ p, upTo l = p := ⟨_, rfl⟩
  have hno := upTo_no l
  rw [hp] at hno ⊢
  rcases upTo_split l with h | ⟨r, h⟩
  · rw [hp] at h
    subst h
    exact ⟨l, by rw [linesOf_none l hl hno, List.drop_eq_nil_of_le (by omega)]; rfl, trimNl_none l hno⟩
  · rw [hp] at h
    refine ⟨p ++ [10], ?_, trimNl_hit p⟩
    rw [h, linesOf_hit p r hno]
    congr 2
    rw [show p.length + 1 = (p ++ [10]).length by simp, show p ++ 10 :: r = (p ++ [10]) ++ r by simp, List.drop_left]

theorem cut_slice {T p : List UInt8} {a q : Nat} (haq : a ≤ q) (hq : q ≤ T.length) (hp : (T.drop a).take (q - a) = p) (w : World) : (Instr.slice 9 (S T) (some (.int .i64 (a : Int))) (some (.int .i64 (q : Int))) none).run Tryd.prog w = .ok (S p) w := by
  rw [run_slice_string w 9 ⟨T.toArray⟩ .i64 .i64 (a : Int) (q : Int) (by kernel_rfl) (by omega) (by omega) (by rw [Lib.size_mk]; omega)]
  rw [ByteArray.extract_mk]
  simp only [Int.toNat_natCast, hp]

theorem at_index {T : List UInt8} {j : Nat} {y : UInt8} (h : T[j]? = some y) (w : World) : (Instr.index 9 (S T) (.int .i64 (j : Int))).run Tryd.prog w = .ok (.int .u8 (y.toNat : Int)) w := by
  obtain ⟨hj, rfl⟩ := List.getElem?_eq_some_iff.1 h
  rw [run_index_string w 9 ⟨T.toArray⟩ .i64 (j : Int) (by kernel_rfl), dif_pos ⟨by omega, by rw [Lib.size_mk]; omega⟩]
  rfl

theorem upTo_take (l : List UInt8) : l.take (upTo l).length = upTo l := by
  obtain ⟨p, hp⟩ : ∃ p, upTo l = p := ⟨_, rfl⟩
  have hs := upTo_split l
  rw [hp] at hs ⊢
  rcases hs with h | ⟨r, h⟩
  · rw [h, List.take_length]
  · rw [h, List.take_left]

set_option maxRecDepth 100000 in
set_option maxHeartbeats 2000000 in
set_option maxHeartbeats 4000000 in
theorem taleReads_list (T : List UInt8) (w : World) (hg : Gl w) (hs : T.length ≤ 4000000000) : Calls Tryd.prog 5 #[S T] w fun e w' => e = .returned (.bool true) ∧ Keeps NoBlock w w' := by
  have HG := Lib.hid hg
  have HAW := Lib.hid awake_calls
  obtain ⟨⟨xs, n, e0⟩, hr⟩ : ∃ r, readB [] (linesOf T) = r := ⟨_, rfl⟩
  have HR := Lib.hid hr
  have HRD : Hid (Calls Tryd.prog 16 #[S T] w (ReadPost w (xs, n, e0))) := by
    have h2 := read_calls ⟨T.toArray⟩ w hg (by rw [Lib.size_mk]; omega)
    rw [show (⟨T.toArray⟩ : ByteArray).data.toList = T by simp, hr] at h2
    exact h2
  have HS := Lib.hid hs
  clear hg hr hs
  go_enter Tryd.func5, Tryd.ntmps5
  go_wp2_with fail
  refine HRD.out.mono ?_
  rintro e w1 ⟨v, rfl, ov, hv, k1⟩
  obtain ⟨A3, b3, off3, cap3, rfl, hA3, hC3⟩ := Own.rd encP_len ov
  have HA3 := Lib.hid hA3
  have HC3 := Lib.hid hC3
  have K1 := Lib.hid k1
  clear hA3 hC3 k1 ov hv HRD
  simp only []
  go_wp2_with fail
  go_loopw [6, 7] (fun kv av wr => ∃ (a : Nat) (out : List Stp), kv = .int .i64 out.length ∧ av = .int .i64 a ∧ a ≤ T.length + 1 ∧ out.length ≤ 65536 ∧ readB [] (linesOf T) = readB out (linesOf (T.drop a)) ∧ Keeps NoBlock w1 wr) (fun _ av _ => T.length + 1 - (intOf av).toNat)
  case atStart => exact ⟨0, [], rfl, rfl, by omega, by simp, rfl, Keeps.refl _ _⟩
  case round =>
    obtain ⟨a, out, rfl, rfl, ha, hol, hrd, hkw⟩ := hrel
    have HK := Lib.hid hkw
    rw [HR.out] at hrd
    have HRDB := Lib.hid hrd
    clear hkw hrd
    obtain ⟨k, hk⟩ : ∃ k, out.length = k := ⟨_, rfl⟩
    rw [hk] at hol ⊢
    have HKL := Lib.hid hk
    clear hk
    by_cases hlt : a < T.length
    · have hlz : (a : Int) < (T.length : Int) := by omega
      obtain ⟨p, hp⟩ : ∃ p, upTo (T.drop a) = p := ⟨_, rfl⟩
      obtain ⟨q, hq⟩ : ∃ q, a + p.length = q := ⟨_, rfl⟩
      have hne : T.drop a ≠ [] := fun e => by
        have := congrArg List.length e
        simp at this
        omega
      obtain ⟨m, hm1, hm2⟩ := lines_next hne
      rw [hp] at hm1 hm2
      rw [List.drop_drop, show a + (p.length + 1) = q + 1 by omega] at hm1
      have hpl := upTo_len (T.drop a)
      rw [hp, List.length_drop] at hpl
      have hqT : q ≤ T.length := by omega
      have haq : a ≤ q := by omega
      have HSL : Hid (∀ w', (Instr.slice 9 (S T) (some (.int .i64 (a : Int))) (some (.int .i64 (q : Int))) none).run Tryd.prog w' = .ok (S p) w') := fun w' => cut_slice haq hqT (by rw [show q - a = p.length by omega, ← hp, upTo_take]) w'
      have HIN : Hid (∀ j, a ≤ j → j < q → ∃ y, T[j]? = some y ∧ y ≠ 10) := fun j h1 h2 => by
        obtain ⟨y, hy, hne⟩ := upTo_at (T.drop a) (j - a) (by rw [hp]; omega)
        rw [List.getElem?_drop, show a + (j - a) = j by omega] at hy
        exact ⟨y, hy, hne⟩
      have HEN : Hid (q < T.length → T[q]? = some 10) := fun h => by
        have := upTo_end (T.drop a) (by rw [hp, List.length_drop]; omega)
        rw [hp, List.getElem?_drop, hq] at this
        exact this
      have HNX : Hid (linesOf (T.drop a) = m :: linesOf (T.drop (q + 1))) := hm1
      have HTR : Hid (trimNl m = p) := hm2
      have hplz : p.length ≤ 4000000000 := by have := HS.out; omega
      have hTz : T.length ≤ 4000000000 := HS.out
      clear hm1 hm2 hp hq hne hpl
      go_wp2_with fail
      go_loopw [8] (fun ev wr2 => ∃ j : Nat, a ≤ j ∧ j ≤ q ∧ ev = .int .i64 j ∧ Keeps NoBlock wr wr2) (fun ev _ => q - (intOf ev).toNat)
      case atStart => exact ⟨a, Nat.le_refl _, haq, rfl, Keeps.refl _ _⟩
      case round =>
        obtain ⟨j, hj1, hj2, rfl, hkj⟩ := hrel
        have HJ := Lib.hid hkj
        clear hkj
        have hwj : IntKind.i64.wrap ((j : Int) + 1) = (j : Int) + 1 := by rw [IntKind.wrap_i64]; omega
        by_cases hjq : j < q
        · obtain ⟨y, hy, hy10⟩ := HIN.out j hj1 hjq
          have hidx := at_index hy wr
          have hjz : (j : Int) < (T.length : Int) := by omega
          have hy9 : (y.toNat : Int) ≠ 10 := fun e => hy10 (UInt8.toNat_inj.1 (by rw [show (10 : UInt8).toNat = 10 from rfl]; omega))
          clear hy hy10
          go_wp2_with fail
          exact ⟨⟨j + 1, by omega, by omega, by simp, HJ.out⟩, by simp [intOf]; omega⟩
        · have ejq : j = q := by omega
          subst j
          have K2 := Lib.hid (HK.out.trans HJ.out (fun _ _ e => e))
          have K2w := Lib.hid (K1.out.trans K2.out (fun _ _ e => e))
          have hwk : IntKind.i64.wrap ((k : Int) + 1) = (k : Int) + 1 := by rw [IntKind.wrap_i64]; omega
          by_cases hqT2 : q < T.length
          · have hidx := at_index (HEN.out hqT2) wr
            have hqz : (q : Int) < (T.length : Int) := by omega
            by_cases hfull : 65536 ≤ k
            · have hk9 : decide ((65536 : Int) < (k : Int) + 1) = true := decide_eq_true (by omega)
              have hk8 : decide ((65536 : Int) ≤ (k : Int)) = true := decide_eq_true (by omega)
              have hk7 : decide (65536 ≤ k) = true := decide_eq_true hfull
              have hfin : (xs, n, e0) = ([], 0, 9) := by
                rw [HRDB.out, HNX.out, readB_full (by rw [HKL.out]; exact hfull)]
              obtain ⟨rfl, rfl, rfl⟩ : xs = [] ∧ n = 0 ∧ e0 = 9 := by simpa using hfin
              clear hfin hfull hol
              go_wp2_with fail
              refine (HAW.out _ (HG.out.on K2w.out)).mono ?_
              rintro e w5 ⟨rfl, k5⟩
              have K5 := Lib.hid (K2w.out.trans k5 (fun _ _ e => e))
              clear k5
              go_wp2_with fail
              go_ret
              exact ⟨rfl, K5.out⟩
            · have hk9 : decide ((65536 : Int) < (k : Int) + 1) = false := decide_eq_false (by omega)
              have hk8 : decide ((65536 : Int) ≤ (k : Int)) = false := decide_eq_false (by omega)
              have hk7 : decide (65536 ≤ k) = false := decide_eq_false hfull
              have HFL : Hid (¬ 65536 ≤ k) := hfull
              have hsl := HSL.out wr
              have HST := Lib.hid (step_list p wr (HG.out.on K2w.out) (by omega))
              cases hst : stepB p with
              | none =>
                rw [hst] at HST
                simp only [stepR] at HST
                have hfin : (xs, n, e0) = ([], k + 1, 7) := by
                  rw [HRDB.out, HNX.out, readB_bad (by rw [HKL.out]; exact hfull) (by rw [HTR.out]; exact hst), HKL.out]
                obtain ⟨rfl, rfl, rfl⟩ : xs = [] ∧ n = k + 1 ∧ e0 = 7 := by simpa using hfin
                clear hfin hst hfull hol
                go_wp2_with fail
                refine HST.out.mono ?_
                rintro e w4 ⟨rfl, k4⟩
                have K4 := Lib.hid (K2w.out.trans k4 (fun _ _ e => e))
                clear k4 HST hsl
                go_wp2_with fail
                generalize hW : World.alloc w4 _ = w5
                have K5 : Hid (Keeps NoBlock w w5) := by show Keeps _ _ _; rw [← hW]; exact K4.out.alloc _
                clear hW
                refine (HAW.out _ (HG.out.on K5.out)).mono ?_
                rintro e w6 ⟨rfl, k6⟩
                have K6 := Lib.hid (K5.out.trans k6 (fun _ _ e => e))
                clear k6
                go_wp2_with fail
                go_ret
                exact ⟨rfl, K6.out⟩
              | some x =>
                rw [hst] at HST
                have hnx : readB out (linesOf (T.drop a)) = readB (out ++ [x]) (linesOf (T.drop (q + 1))) := by
                  rw [HNX.out, readB_next (by rw [HKL.out]; exact hfull) (by rw [HTR.out]; exact hst)]
                have hrdn := HRDB.out.trans hnx
                have HRDN := Lib.hid hrdn
                have hwq : IntKind.i64.wrap ((q : Int) + 1) = (q : Int) + 1 := by rw [IntKind.wrap_i64]; omega
                have hwk0 : IntKind.i64.wrap (k : Int) = (k : Int) := by rw [IntKind.wrap_i64]; omega
                have hwk1 : IntKind.i64.wrap ((k : Int) + 1 - 1) = (k : Int) := by rw [IntKind.wrap_i64]; omega
                obtain ⟨xk, xa, xb⟩ := x
                simp only [stepR] at HST
                have HQT := Lib.hid hqT
                have hol2 : Hid (k + 1 ≤ 65536) := by show _ ≤ _; omega
                clear hst hnx hfull hol
                by_cases hez : e0 = 0
                · subst hez
                  obtain ⟨-, rr, hxr⟩ := read_begin _ _ _ _ hrdn.symm
                  have hkx : k < xs.length := by
                    have := congrArg List.length hxr
                    have h9 := HKL.out
                    simp at this
                    omega
                  have hxk : xs[k]? = some ⟨xk, xa, xb⟩ := by
                    rw [hxr, List.append_assoc, List.getElem?_append_right (by rw [HKL.out]; omega), HKL.out]
                    simp
                  obtain ⟨rfl, hb3⟩ := HA3.out (by omega)
                  have cc := fun (w' : World) (kk : Keeps NoBlock w1 w') (i : Nat) (u : Value) (hu : (encP ⟨xk, xa, xb⟩)[i]? = some u) => (kk.cell hb3 (fun e => e)).trans (HC3.out k _ i u hxk hu)
                  have CC := Lib.hid cc
                  have hkz : (k : Int) < (xs.length : Int) := by omega
                  have hkz2 : (k : Int) + 1 ≤ (xs.length : Int) := by omega
                  have hdk : decide ((xs.length : Int) < (k : Int) + 1) = false := decide_eq_false (by omega)
                  have hk0 : (0 : Int) ≤ (k : Int) := by omega
                  clear hxr hxk hb3 cc hrdn hkx
                  go_wp2_with fail
                  refine HST.out.mono ?_
                  rintro e w4 ⟨rfl, k4⟩
                  have K4 := Lib.hid (K2.out.trans k4 (fun _ _ e => e))
                  obtain ⟨w5, h5⟩ : ∃ w5, w4.alloc (.cells #[.int .i64 xk, .int .i64 xa, .int .i64 xb] 23) = w5 := ⟨_, rfl⟩
                  have K5 : Keeps NoBlock w1 w5 := by rw [← h5]; exact K4.out.alloc _
                  have C5 : w5.heap[w4.heap.size]? = some (.cells #[.int .i64 xk, .int .i64 xa, .int .i64 xb] 23 (0, 0)) := by rw [← h5]; exact block_alloc_new _ _
                  have j0 : w5.cell? ⟨w4.heap.size, 0, none⟩ = some (.int .i64 xk) := cell_of_block (o := 0) C5 rfl
                  have j1 : w5.cell? ⟨w4.heap.size, 1, none⟩ = some (.int .i64 xa) := cell_of_block (o := 1) C5 rfl
                  have j2 : w5.cell? ⟨w4.heap.size, 2, none⟩ = some (.int .i64 xb) := cell_of_block (o := 2) C5 rfl
                  have c0 : w5.cell? ⟨b3, off3 + k * 3, none⟩ = some (.int .i64 xk) := CC.out w5 K5 0 _ rfl
                  have c1 : w5.cell? ⟨b3, off3 + k * 3 + 1, none⟩ = some (.int .i64 xa) := CC.out w5 K5 1 _ rfl
                  have c2 : w5.cell? ⟨b3, off3 + k * 3 + 2, none⟩ = some (.int .i64 xb) := CC.out w5 K5 2 _ rfl
                  have K5' := Lib.hid K5
                  clear k4 HST C5 hsl K5
                  go_wp2_with fail
                  go_quiet (fail)
                  go_wp2_with fail
                  exact ⟨⟨q + 1, out ++ [⟨xk, xa, xb⟩], by simp [HKL.out], by simp, by have := HQT.out; omega, by rw [List.length_append, HKL.out]; exact hol2.out, by rw [HR.out]; exact HRDN.out, by first | exact K5'.out | exact K5'.out.drew | exact Keeps.drewN K5'.out _⟩, by simp [intOf]; omega⟩
                · have hed : decide (e0 = 0) = false := decide_eq_false hez
                  have hed2 : (e0 == 0) = false := by simpa using hez
                  clear hrdn
                  go_wp2_with fail
                  refine HST.out.mono ?_
                  rintro e w4 ⟨rfl, k4⟩
                  have K4 := Lib.hid (K2.out.trans k4 (fun _ _ e => e))
                  clear k4 HST hsl
                  go_wp2_with fail
                  generalize hW : World.alloc w4 _ = w5
                  have K5' : Hid (Keeps NoBlock w1 w5) := by show Keeps _ _ _; rw [← hW]; exact K4.out.alloc _
                  clear hW
                  go_quiet (fail)
                  go_wp2_with fail
                  exact ⟨⟨q + 1, out ++ [⟨xk, xa, xb⟩], by simp [HKL.out], by simp, by have := HQT.out; omega, by rw [List.length_append, HKL.out]; exact hol2.out, by rw [HR.out]; exact HRDN.out, by first | exact K5'.out | exact K5'.out.drew | exact Keeps.drewN K5'.out _⟩, by simp [intOf]; omega⟩
          · have hqz : (T.length : Int) ≤ (q : Int) := by omega
            by_cases hfull : 65536 ≤ k
            · have hk9 : decide ((65536 : Int) < (k : Int) + 1) = true := decide_eq_true (by omega)
              have hk8 : decide ((65536 : Int) ≤ (k : Int)) = true := decide_eq_true (by omega)
              have hk7 : decide (65536 ≤ k) = true := decide_eq_true hfull
              have hfin : (xs, n, e0) = ([], 0, 9) := by
                rw [HRDB.out, HNX.out, readB_full (by rw [HKL.out]; exact hfull)]
              obtain ⟨rfl, rfl, rfl⟩ : xs = [] ∧ n = 0 ∧ e0 = 9 := by simpa using hfin
              clear hfin hfull hol
              go_wp2_with fail
              refine (HAW.out _ (HG.out.on K2w.out)).mono ?_
              rintro e w5 ⟨rfl, k5⟩
              have K5 := Lib.hid (K2w.out.trans k5 (fun _ _ e => e))
              clear k5
              go_wp2_with fail
              go_ret
              exact ⟨rfl, K5.out⟩
            · have hk9 : decide ((65536 : Int) < (k : Int) + 1) = false := decide_eq_false (by omega)
              have hk8 : decide ((65536 : Int) ≤ (k : Int)) = false := decide_eq_false (by omega)
              have hk7 : decide (65536 ≤ k) = false := decide_eq_false hfull
              have HFL : Hid (¬ 65536 ≤ k) := hfull
              have hsl := HSL.out wr
              have HST := Lib.hid (step_list p wr (HG.out.on K2w.out) (by omega))
              cases hst : stepB p with
              | none =>
                rw [hst] at HST
                simp only [stepR] at HST
                have hfin : (xs, n, e0) = ([], k + 1, 7) := by
                  rw [HRDB.out, HNX.out, readB_bad (by rw [HKL.out]; exact hfull) (by rw [HTR.out]; exact hst), HKL.out]
                obtain ⟨rfl, rfl, rfl⟩ : xs = [] ∧ n = k + 1 ∧ e0 = 7 := by simpa using hfin
                clear hfin hst hfull hol
                go_wp2_with fail
                refine HST.out.mono ?_
                rintro e w4 ⟨rfl, k4⟩
                have K4 := Lib.hid (K2w.out.trans k4 (fun _ _ e => e))
                clear k4 HST hsl
                go_wp2_with fail
                generalize hW : World.alloc w4 _ = w5
                have K5 : Hid (Keeps NoBlock w w5) := by show Keeps _ _ _; rw [← hW]; exact K4.out.alloc _
                clear hW
                refine (HAW.out _ (HG.out.on K5.out)).mono ?_
                rintro e w6 ⟨rfl, k6⟩
                have K6 := Lib.hid (K5.out.trans k6 (fun _ _ e => e))
                clear k6
                go_wp2_with fail
                go_ret
                exact ⟨rfl, K6.out⟩
              | some x =>
                rw [hst] at HST
                have hnx : readB out (linesOf (T.drop a)) = readB (out ++ [x]) (linesOf (T.drop (q + 1))) := by
                  rw [HNX.out, readB_next (by rw [HKL.out]; exact hfull) (by rw [HTR.out]; exact hst)]
                have hrdn := HRDB.out.trans hnx
                have HRDN := Lib.hid hrdn
                have hwq : IntKind.i64.wrap ((q : Int) + 1) = (q : Int) + 1 := by rw [IntKind.wrap_i64]; omega
                have hwk0 : IntKind.i64.wrap (k : Int) = (k : Int) := by rw [IntKind.wrap_i64]; omega
                have hwk1 : IntKind.i64.wrap ((k : Int) + 1 - 1) = (k : Int) := by rw [IntKind.wrap_i64]; omega
                obtain ⟨xk, xa, xb⟩ := x
                simp only [stepR] at HST
                have HQT := Lib.hid hqT
                have hol2 : Hid (k + 1 ≤ 65536) := by show _ ≤ _; omega
                clear hst hnx hfull hol
                by_cases hez : e0 = 0
                · subst hez
                  obtain ⟨-, rr, hxr⟩ := read_begin _ _ _ _ hrdn.symm
                  have hkx : k < xs.length := by
                    have := congrArg List.length hxr
                    have h9 := HKL.out
                    simp at this
                    omega
                  have hxk : xs[k]? = some ⟨xk, xa, xb⟩ := by
                    rw [hxr, List.append_assoc, List.getElem?_append_right (by rw [HKL.out]; omega), HKL.out]
                    simp
                  obtain ⟨rfl, hb3⟩ := HA3.out (by omega)
                  have cc := fun (w' : World) (kk : Keeps NoBlock w1 w') (i : Nat) (u : Value) (hu : (encP ⟨xk, xa, xb⟩)[i]? = some u) => (kk.cell hb3 (fun e => e)).trans (HC3.out k _ i u hxk hu)
                  have CC := Lib.hid cc
                  have hkz : (k : Int) < (xs.length : Int) := by omega
                  have hkz2 : (k : Int) + 1 ≤ (xs.length : Int) := by omega
                  have hdk : decide ((xs.length : Int) < (k : Int) + 1) = false := decide_eq_false (by omega)
                  have hk0 : (0 : Int) ≤ (k : Int) := by omega
                  clear hxr hxk hb3 cc hrdn hkx
                  go_wp2_with fail
                  refine HST.out.mono ?_
                  rintro e w4 ⟨rfl, k4⟩
                  have K4 := Lib.hid (K2.out.trans k4 (fun _ _ e => e))
                  obtain ⟨w5, h5⟩ : ∃ w5, w4.alloc (.cells #[.int .i64 xk, .int .i64 xa, .int .i64 xb] 23) = w5 := ⟨_, rfl⟩
                  have K5 : Keeps NoBlock w1 w5 := by rw [← h5]; exact K4.out.alloc _
                  have C5 : w5.heap[w4.heap.size]? = some (.cells #[.int .i64 xk, .int .i64 xa, .int .i64 xb] 23 (0, 0)) := by rw [← h5]; exact block_alloc_new _ _
                  have j0 : w5.cell? ⟨w4.heap.size, 0, none⟩ = some (.int .i64 xk) := cell_of_block (o := 0) C5 rfl
                  have j1 : w5.cell? ⟨w4.heap.size, 1, none⟩ = some (.int .i64 xa) := cell_of_block (o := 1) C5 rfl
                  have j2 : w5.cell? ⟨w4.heap.size, 2, none⟩ = some (.int .i64 xb) := cell_of_block (o := 2) C5 rfl
                  have c0 : w5.cell? ⟨b3, off3 + k * 3, none⟩ = some (.int .i64 xk) := CC.out w5 K5 0 _ rfl
                  have c1 : w5.cell? ⟨b3, off3 + k * 3 + 1, none⟩ = some (.int .i64 xa) := CC.out w5 K5 1 _ rfl
                  have c2 : w5.cell? ⟨b3, off3 + k * 3 + 2, none⟩ = some (.int .i64 xb) := CC.out w5 K5 2 _ rfl
                  have K5' := Lib.hid K5
                  clear k4 HST C5 hsl K5
                  go_wp2_with fail
                  go_quiet (fail)
                  go_wp2_with fail
                  exact ⟨⟨q + 1, out ++ [⟨xk, xa, xb⟩], by simp [HKL.out], by simp, by have := HQT.out; omega, by rw [List.length_append, HKL.out]; exact hol2.out, by rw [HR.out]; exact HRDN.out, by first | exact K5'.out | exact K5'.out.drew | exact Keeps.drewN K5'.out _⟩, by simp [intOf]; omega⟩
                · have hed : decide (e0 = 0) = false := decide_eq_false hez
                  have hed2 : (e0 == 0) = false := by simpa using hez
                  clear hrdn
                  go_wp2_with fail
                  refine HST.out.mono ?_
                  rintro e w4 ⟨rfl, k4⟩
                  have K4 := Lib.hid (K2.out.trans k4 (fun _ _ e => e))
                  clear k4 HST hsl
                  go_wp2_with fail
                  generalize hW : World.alloc w4 _ = w5
                  have K5' : Hid (Keeps NoBlock w1 w5) := by show Keeps _ _ _; rw [← hW]; exact K4.out.alloc _
                  clear hW
                  go_quiet (fail)
                  go_wp2_with fail
                  exact ⟨⟨q + 1, out ++ [⟨xk, xa, xb⟩], by simp [HKL.out], by simp, by have := HQT.out; omega, by rw [List.length_append, HKL.out]; exact hol2.out, by rw [HR.out]; exact HRDN.out, by first | exact K5'.out | exact K5'.out.drew | exact Keeps.drewN K5'.out _⟩, by simp [intOf]; omega⟩
    · have hlz : (T.length : Int) ≤ (a : Int) := by omega
      have hfin : (xs, n, e0) = (out, 0, 0) := by
        rw [HRDB.out, List.drop_eq_nil_of_le (by omega)]
        rfl
      obtain ⟨rfl, rfl, rfl⟩ : xs = out ∧ n = 0 ∧ e0 = 0 := by simpa using hfin
      have K2w := Lib.hid (K1.out.trans HK.out (fun _ _ e => e))
      have hkl := HKL.out
      clear hfin
      rw [hkl]
      go_wp2_with fail
      refine (HAW.out _ (HG.out.on K2w.out)).mono ?_
      rintro e w5 ⟨rfl, k5⟩
      have K5 := Lib.hid (K2w.out.trans k5 (fun _ _ e => e))
      clear k5
      go_wp2_with fail
      go_ret
      exact ⟨rfl, K5.out⟩

theorem taleReads_calls (s : ByteArray) (w : World) (hg : Gl w) (hs : s.size ≤ 4000000000) : Calls Tryd.prog 5 #[.string s] w fun e w' => e = .returned (.bool true) ∧ Keeps NoBlock w w' := by
  have h := taleReads_list s.data.toList w hg (by rw [← Lib.size_eq]; exact hs)
  rw [show S s.data.toList = Value.string s from congrArg Value.string (Lib.mk_toList s)] at h
  exact h

end Tl
end Go.Proofs.YthjefffefomioaaDoor
