/- The law's digits. -/
import Derived.Test.YthjefffefomioaaDoorTlG
namespace Go.Proofs.YthjefffefomioaaDoor
open Go.RowKit
namespace Tl

theorem dec_step {v : Nat} (h : ¬ v < 10) : Lib.decDigits v = Lib.decDigits (v / 10) ++ [UInt8.ofNat (48 + v % 10)] := by
  rw [Lib.decDigits, dif_neg h]

set_option maxRecDepth 100000 in
set_option maxHeartbeats 1000000 in
theorem digits_calls (n : Int) (hf : Fit n) (w : World) : Calls Tryd.prog 31 #[.int .i64 n] w fun e w' => e = .returned (S (Lib.itoa n)) ∧ Keeps NoBlock w w' := by
  have hlen := Lib.itoa_length_le n hf.1 hf.2
  obtain ⟨u, hu⟩ : ∃ u : Nat, u = n.natAbs := ⟨_, rfl⟩
  obtain ⟨sg, hsg⟩ : ∃ sg : List UInt8, sg = if n < 0 then [45] else [] := ⟨_, rfl⟩
  have hit : Lib.itoa n = sg ++ Lib.decDigits u := by
    unfold Lib.itoa
    rw [hsg, hu]
    split
    · rfl
    · rw [List.nil_append, show n.toNat = n.natAbs by omega]
  have hul : u < 18446744073709551616 := by have := hf.1; have := hf.2; omega
  have hdl : Hid ((Lib.decDigits u).length ≤ 21) := by
    show _ ≤ _
    rw [hit, List.length_append] at hlen
    omega
  have hsl : Hid (sg.length ≤ 1) := by
    show _ ≤ _
    rw [hsg]
    split <;> decide
  have HIT := Lib.hid hit
  have hb1 := hf.1
  have hb2 := hf.2
  clear hlen hit hf
  by_cases hn : n < 0
  · rw [if_pos hn] at hsg
    have hw1 : IntKind.u64.wrap n = 18446744073709551616 + n := by simp [IntKind.wrap, IntKind.bits, IntKind.signed]; omega
    have hw2 : IntKind.u64.wrap (-(18446744073709551616 + n)) = (u : Int) := by simp [IntKind.wrap, IntKind.bits, IntKind.signed]; omega
    clear hu
    subst hsg
    go_enter Tryd.func31, Tryd.ntmps31
    go_wp2_with fail
    go_loopw [3, 5] (fun i o wr => ∃ (v : Nat) (l : List UInt8), i = .int .u64 v ∧ o = S l ∧ v < 18446744073709551616 ∧ Lib.decDigits u = Lib.decDigits v ++ l ∧ Keeps NoBlock w wr) (fun i _ _ => (intOf i).toNat)
    case atStart => exact ⟨u, [], rfl, rfl, hul, by simp, Keeps.refl _ _⟩
    case round =>
      obtain ⟨v, l, rfl, rfl, hvl, hdv, hkw⟩ := hrel
      have HDV := Lib.hid hdv
      have HK := Lib.hid (hkw.alloc (.cells #[.int .u8 (48 + (v : Int) % 10)] 5))
      have hwv1 : IntKind.u64.wrap ((v : Int) % 10) = (v : Int) % 10 := by simp [IntKind.wrap, IntKind.bits, IntKind.signed]; omega
      have hwv2 : IntKind.u64.wrap (48 + (v : Int) % 10) = 48 + (v : Int) % 10 := by simp [IntKind.wrap, IntKind.bits, IntKind.signed]; omega
      have hwv3 : IntKind.u8.wrap (48 + (v : Int) % 10) = 48 + (v : Int) % 10 := by simp [IntKind.wrap, IntKind.bits, IntKind.signed]; omega
      have hwv4 : IntKind.u64.wrap ((v : Int) / 10) = (v : Int) / 10 := by simp [IntKind.wrap, IntKind.bits, IntKind.signed]; omega
      have hll : l.length + 1 ≤ 21 := by
        have := hdl.out
        rw [hdv, List.length_append, Lib.decDigits_length] at this
        have := Lib.nDigits_pos v
        omega
      have hb21 : ¬ 9223372036854775807 < 1 + l.length := by omega
      have hb22 : ¬ 9223372036854775807 < l.length + 1 := by omega
      have hv0 : (0 : Int) ≤ (v : Int) := by omega
      have hcv : (convert 76 9 (.slice (some ⟨wr.heap.size, 0, none⟩) 1 1)).run Tryd.prog (wr.alloc (.cells #[.int .u8 (48 + (v : Int) % 10)] 5)) = .ok (S [UInt8.ofNat (48 + v % 10)]) (wr.alloc (.cells #[.int .u8 (48 + (v : Int) % 10)] 5)) := by
        refine run_convert_bytes_back (l := [UInt8.ofNat (48 + v % 10)]) _ _ _ 5 _ _ (by kernel_rfl) (by kernel_rfl) (by kernel_rfl) fun j hj => ?_
        obtain rfl : j = 0 := by simpa using hj
        refine cell_of_block (o := 0) (block_alloc_new wr _) ?_
        have : (UInt8.ofNat (48 + v % 10)).toNat = 48 + v % 10 := by rw [UInt8.toNat_ofNat']; omega
        simp; omega
      obtain ⟨dg, hdg⟩ : ∃ d, UInt8.ofNat (48 + v % 10) = d := ⟨_, rfl⟩
      rw [hdg] at hcv
      have HDG := Lib.hid hdg
      clear hdg
      have hadd := s_add
      clear hkw
      by_cases h10 : v < 10
      · have hq : (v : Int) / 10 = 0 := by omega
        have hfin : Hid ([45] ++ (dg :: l) = Lib.itoa n) := by
          show _ = _
          rw [HIT.out, HDV.out, Lib.decDigits_one h10, ← HDG.out, Nat.mod_eq_of_lt h10]
          rfl
        have hfl : ¬ 9223372036854775807 < 1 + (l.length + 1) := by omega
        clear hdv hdl hsl hul hb1 hb2
        go_wp2_with fail
        go_ret
        exact ⟨congrArg (fun z => Ending.returned (S z)) hfin.out, HK.out⟩
      · have hq : (v : Int) / 10 ≠ 0 := by omega
        have hqn : Hid ((v : Int) / 10 = ((v / 10 : Nat) : Int)) := by show _ = _; omega
        have hnx : Hid (Lib.decDigits u = Lib.decDigits (v / 10) ++ (dg :: l)) := by
          show _ = _
          rw [HDV.out, dec_step h10, List.append_assoc, HDG.out]
          rfl
        clear hdv hdl hsl hul hb1 hb2
        go_wp2_with fail
        exact ⟨⟨v / 10, _, by rw [hqn.out], rfl, by omega, hnx.out, HK.out⟩, by simp [intOf]; omega⟩
  · rw [if_neg hn] at hsg
    have hw1 : IntKind.u64.wrap n = (u : Int) := by simp [IntKind.wrap, IntKind.bits, IntKind.signed]; omega
    have hn0 : (0 : Int) ≤ n := by omega
    clear hu
    subst hsg
    go_enter Tryd.func31, Tryd.ntmps31
    go_wp2_with fail
    go_loopw [3, 5] (fun i o wr => ∃ (v : Nat) (l : List UInt8), i = .int .u64 v ∧ o = S l ∧ v < 18446744073709551616 ∧ Lib.decDigits u = Lib.decDigits v ++ l ∧ Keeps NoBlock w wr) (fun i _ _ => (intOf i).toNat)
    case atStart => exact ⟨u, [], rfl, rfl, hul, by simp, Keeps.refl _ _⟩
    case round =>
      obtain ⟨v, l, rfl, rfl, hvl, hdv, hkw⟩ := hrel
      have HDV := Lib.hid hdv
      have HK := Lib.hid (hkw.alloc (.cells #[.int .u8 (48 + (v : Int) % 10)] 5))
      have hwv1 : IntKind.u64.wrap ((v : Int) % 10) = (v : Int) % 10 := by simp [IntKind.wrap, IntKind.bits, IntKind.signed]; omega
      have hwv2 : IntKind.u64.wrap (48 + (v : Int) % 10) = 48 + (v : Int) % 10 := by simp [IntKind.wrap, IntKind.bits, IntKind.signed]; omega
      have hwv3 : IntKind.u8.wrap (48 + (v : Int) % 10) = 48 + (v : Int) % 10 := by simp [IntKind.wrap, IntKind.bits, IntKind.signed]; omega
      have hwv4 : IntKind.u64.wrap ((v : Int) / 10) = (v : Int) / 10 := by simp [IntKind.wrap, IntKind.bits, IntKind.signed]; omega
      have hll : l.length + 1 ≤ 21 := by
        have := hdl.out
        rw [hdv, List.length_append, Lib.decDigits_length] at this
        have := Lib.nDigits_pos v
        omega
      have hb21 : ¬ 9223372036854775807 < 1 + l.length := by omega
      have hb22 : ¬ 9223372036854775807 < l.length + 1 := by omega
      have hv0 : (0 : Int) ≤ (v : Int) := by omega
      have hcv : (convert 76 9 (.slice (some ⟨wr.heap.size, 0, none⟩) 1 1)).run Tryd.prog (wr.alloc (.cells #[.int .u8 (48 + (v : Int) % 10)] 5)) = .ok (S [UInt8.ofNat (48 + v % 10)]) (wr.alloc (.cells #[.int .u8 (48 + (v : Int) % 10)] 5)) := by
        refine run_convert_bytes_back (l := [UInt8.ofNat (48 + v % 10)]) _ _ _ 5 _ _ (by kernel_rfl) (by kernel_rfl) (by kernel_rfl) fun j hj => ?_
        obtain rfl : j = 0 := by simpa using hj
        refine cell_of_block (o := 0) (block_alloc_new wr _) ?_
        have : (UInt8.ofNat (48 + v % 10)).toNat = 48 + v % 10 := by rw [UInt8.toNat_ofNat']; omega
        simp; omega
      obtain ⟨dg, hdg⟩ : ∃ d, UInt8.ofNat (48 + v % 10) = d := ⟨_, rfl⟩
      rw [hdg] at hcv
      have HDG := Lib.hid hdg
      clear hdg
      have hadd := s_add
      clear hkw
      by_cases h10 : v < 10
      · have hq : (v : Int) / 10 = 0 := by omega
        have hfin : Hid ([] ++ (dg :: l) = Lib.itoa n) := by
          show _ = _
          rw [HIT.out, HDV.out, Lib.decDigits_one h10, ← HDG.out, Nat.mod_eq_of_lt h10]
          rfl
        have hfl : ¬ 9223372036854775807 < 1 + (l.length + 1) := by omega
        clear hdv hdl hsl hul hb1 hb2
        go_wp2_with fail
        go_ret
        exact ⟨congrArg (fun z => Ending.returned (S z)) hfin.out, HK.out⟩
      · have hq : (v : Int) / 10 ≠ 0 := by omega
        have hqn : Hid ((v : Int) / 10 = ((v / 10 : Nat) : Int)) := by show _ = _; omega
        have hnx : Hid (Lib.decDigits u = Lib.decDigits (v / 10) ++ (dg :: l)) := by
          show _ = _
          rw [HDV.out, dec_step h10, List.append_assoc, HDG.out]
          rfl
        clear hdv hdl hsl hul hb1 hb2
        go_wp2_with fail
        exact ⟨⟨v / 10, _, by rw [hqn.out], rfl, by omega, hnx.out, HK.out⟩, by simp [intOf]; omega⟩

end Tl
end Go.Proofs.YthjefffefomioaaDoor
