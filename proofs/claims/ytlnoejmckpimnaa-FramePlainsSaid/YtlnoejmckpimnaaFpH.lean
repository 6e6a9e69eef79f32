/- FramePlains: any plain instruction, with any frame and memory. -/
import Derived.Test.YtlnoejmckpimnaaFzA
import Derived.Test.YtlnoejmckpimnaaFzB
namespace Go.Proofs.Ytlnoejmckpimnaa
open Go.RowKit Ieee
namespace Fr

theorem wrap_is (x : Int) : IntKind.i64.wrap x = wrap64 x := by
  unfold wrap64
  rw [IntKind.wrap_i64]

theorem rari_out (op : Int) (x y : Nat) (hx : x < 18446744073709551616) (hy : y < 18446744073709551616) : ∃ q, ∀ W, Calls Try.prog 14 #[.int .i64 op, .int .u64 (x : Int), .int .u64 (y : Int)] W fun e w' => e = out2 ((ariI op x y).getD 0) q ∧ Keeps NoBlock W w' := by
  cases h : ariI op x y with
  | none => exact ⟨false, fun W => (rari_calls op x y hx hy W).mono fun e w' hh => ⟨by rw [hh.1, h]; rfl, hh.2⟩⟩
  | some v => exact ⟨true, fun W => (rari_calls op x y hx hy W).mono fun e w' hh => ⟨by rw [hh.1, h]; rfl, hh.2⟩⟩

theorem plainF_in {f : Frm} {i : In5} {ms : List Int} (h : 1 ≤ i.1 ∧ i.1 ≤ 19) : plainF f i ms = doF f i ms := by
  unfold plainF
  rw [if_pos h]

theorem hasN_short {op : Int} (h : shortB op = true) : hasN op = 3 := by
  unfold shortB at h
  rw [decide_eq_true_iff] at h
  unfold hasN
  rw [if_neg (by omega), if_neg (by omega), if_neg (by omega)]

theorem short_in {op : Int} (h : shortB op = true) : 2 ≤ op ∧ op ≤ 15 := by
  unfold shortB at h
  rw [decide_eq_true_iff] at h
  omega

theorem long_in {op : Int} (h1 : 1 ≤ op) (h2 : op ≤ 19) (h16 : ¬ op = 16) (h17 : ¬ op = 17) (e1 : ¬ op = 1) (e18 : ¬ op = 18) (e19 : ¬ op = 19) (es : ¬ shortB op = true) : 3 ≤ op ∧ op ≤ 13 := by
  unfold shortB at es
  rw [decide_eq_true_iff] at es
  omega

theorem hasN_long {op : Int} (h : 3 ≤ op ∧ op ≤ 13) : hasN op = 4 := by
  unfold hasN
  rw [if_neg (by omega), if_neg (by omega), if_pos h]

set_option maxRecDepth 100000 in
set_option maxHeartbeats 2000000 in
theorem plains_good (f : Frm) (i : In5) (A : Option Addr) (b off n c : Nat) (ms : List Int) (w : World) (hrl : f.rs.length = 8) (hrb : ∀ x ∈ f.rs, 0 ≤ x ∧ x < 18446744073709551616) (hbad : ¬ badI i) (hn : n ≤ 200) (hml : Hid (ms.length = n))
    (hA : Hid (0 < n → A = some ⟨b, off, none⟩)) (hm : Hid (∀ W, Keeps NoBlock w W → ∀ (j : Nat) (x : Int), ms[j]? = some x → W.cell? ⟨b, off + j, none⟩ = some (rv x)))
    (hpl : Hid (∀ W, Keeps NoBlock w W → n ≤ 200 → Calls Try.prog 15 #[frmV f, insV i, .slice A n c] W (PlainPost W (plainF f i ms)))) :
    Calls Try.prog 5 #[frmV f, insV i, .slice A n c] w fun e w' => e = .returned (.bool true) ∧ Below w.heap.size w w' := by
  unfold badI at hbad
  have ho : 1 ≤ i.1 ∧ i.1 ≤ 19 := Decidable.byContradiction fun h => hbad (.inl h)
  have ha : i.1 ≠ 16 → ∃ k : Nat, i.2.1 = k ∧ k < 8 := fun h => okR_yes (fun e => hbad (.inr (.inl ⟨h, e⟩)))
  have hb : 2 < hasN i.1 → ∃ k : Nat, i.2.2.1 = k ∧ k < 8 := fun h => okR_yes (fun e => hbad (.inr (.inr (.inl ⟨h, e⟩))))
  have hc : 3 < hasN i.1 → ∃ k : Nat, i.2.2.2.1 = k ∧ k < 8 := fun h => okR_yes (fun e => hbad (.inr (.inr (.inr ⟨h, e⟩))))
  have hp := plainF_in (f := f) (ms := ms) ho
  clear hbad
  have hat : ∀ k, k < 8 → f.rs[k]? = some (f.rs.getD k 0) := fun k hk => rs_at hrl hk
  have hbd : ∀ k, k < 8 → ∃ x : Nat, f.rs.getD k 0 = x ∧ x < 18446744073709551616 := fun k hk => rs_bd hrb hrl hk
  clear hrb
  obtain ⟨F, P, rs⟩ := f
  obtain ⟨op, a, b1, c0, N⟩ := i
  simp only [] at hrl ho ha hb hc hat hbd
  have hset : ∀ (k : Nat) (v : Int), ∃ q0 q1 q2 q3 q4 q5 q6 q7, rs.set k v = [q0, q1, q2, q3, q4, q5, q6, q7] := fun k v => list8P (by rw [List.length_set]; exact hrl)
  obtain ⟨r0, r1, r2, r3, r4, r5, r6, r7, rfl⟩ := list8P hrl
  clear hrl
  unfold doF at hp
  simp only [] at hp
  have hP : IntKind.i64.wrap (P + 1) = wrap64 (P + 1) := wrap_is _
  have hPN : IntKind.i64.wrap N = wrap64 N := wrap_is _
  by_cases e16 : op = 16
  · subst e16
    rw [if_pos rfl] at hp
    exact plains_jump F P r0 r1 r2 r3 r4 r5 r6 r7 N (wrap64 N) a b1 c0 A b off n c ms w (Lib.hid hp) hPN hn hml hA hm hpl
  rw [if_neg e16] at hp
  obtain ⟨k, rfl, hk⟩ := ha e16
  rw [if_neg (by rw [show okR (k : Int) = true from by unfold okR; rw [decide_eq_true_iff]; omega]; simp)] at hp
  simp only [Int.toNat_natCast] at hp
  by_cases e17 : op = 17
  · subst e17
    rw [if_pos rfl] at hp
    by_cases h0 : ([r0, r1, r2, r3, r4, r5, r6, r7] : List Int).getD k 0 = 0
    · rw [if_pos h0] at hp
      exact plains_zero F P r0 r1 r2 r3 r4 r5 r6 r7 N (wrap64 N) k b1 c0 A b off n c ms w (Lib.hid hp) hk (by rw [hat k hk, h0]) hPN hn hml hA hm hpl
    · rw [if_neg h0] at hp
      exact plains_on F P r0 r1 r2 r3 r4 r5 r6 r7 N (wrap64 (P + 1)) k _ b1 c0 A b off n c ms w (Lib.hid hp) hk (hat k hk) h0 hP hn hml hA hm hpl
  rw [if_neg e17] at hp
  by_cases e1 : op = 1
  · subst e1
    rw [if_pos rfl] at hp
    obtain ⟨q0, q1, q2, q3, q4, q5, q6, q7, hq⟩ := hset k N
    rw [hq] at hp
    exact plains_set F P r0 r1 r2 r3 r4 r5 r6 r7 k b1 c0 N (wrap64 (P + 1)) q0 q1 q2 q3 q4 q5 q6 q7 A b off n c ms w k hk rfl (Lib.hid hp) hP (Lib.hid hq) hn hml hA hm hpl
  rw [if_neg e1] at hp
  have hN2 : 2 < hasN op := by
    unfold hasN
    rw [if_neg e16, if_neg (by omega)]
    split <;> omega
  obtain ⟨l, rfl, hl⟩ := hb hN2
  rw [if_neg (by rw [show okR (l : Int) = true from by unfold okR; rw [decide_eq_true_iff]; omega]; simp)] at hp
  simp only [Int.toNat_natCast] at hp
  obtain ⟨x, hx, hxb⟩ := hbd l hl
  have hxl := hat l hl
  rw [hx] at hp hxl
  simp only [Int.toNat_natCast] at hp
  by_cases e18 : op = 18
  · subst e18
    rw [if_pos rfl] at hp
    by_cases hlt : ms.length ≤ x
    · rw [if_pos hlt] at hp
      exact plains_load_no F P r0 r1 r2 r3 r4 r5 r6 r7 N k l x c0 A b off n c ms w hp hk hl hxl (by have := hml.out; omega) hn hml hA hm hpl
    · rw [if_neg hlt] at hp
      have hv : ms[x]? = some (ms.getD x 0) := by rw [List.getD_eq_getElem?_getD, List.getElem?_eq_getElem (by omega)]; rfl
      obtain ⟨q0, q1, q2, q3, q4, q5, q6, q7, hq⟩ := hset k (ms.getD x 0)
      rw [hq] at hp
      exact plains_load F P r0 r1 r2 r3 r4 r5 r6 r7 N (wrap64 (P + 1)) q0 q1 q2 q3 q4 q5 q6 q7 k l x (ms.getD x 0) c0 A b off n c ms w (Lib.hid hp) hk hl hxl hv hP (Lib.hid hq) hn hml hA hm hpl
  rw [if_neg e18] at hp
  by_cases e19 : op = 19
  · subst e19
    rw [if_pos rfl] at hp
    obtain ⟨y, hy, hyb⟩ := hbd k hk
    have hyk := hat k hk
    rw [hy] at hp hyk
    simp only [Int.toNat_natCast] at hp
    by_cases hlt : ms.length ≤ y
    · rw [if_pos hlt] at hp
      exact plains_store_no F P r0 r1 r2 r3 r4 r5 r6 r7 N k l y c0 A b off n c ms w hp hk hl hyk (by have := hml.out; omega) hn hml hA hm hpl
    · rw [if_neg hlt] at hp
      exact plains_store F P r0 r1 r2 r3 r4 r5 r6 r7 N (wrap64 (P + 1)) k l y x c0 _ A b off n c ms w (Lib.hid hp) hk hl hyk hxl (by have := hml.out; omega) (Lib.hid rfl) hP hn hml hA hm hpl
  rw [if_neg e19] at hp
  by_cases es : shortB op = true
  · rw [if_pos es] at hp
    obtain ⟨q, hari⟩ := rari_out op x 0 hxb (by decide)
    obtain ⟨q0, q1, q2, q3, q4, q5, q6, q7, hq⟩ := hset k ((ariI op x 0).getD 0)
    rw [hq] at hp
    exact plains_two F P r0 r1 r2 r3 r4 r5 r6 r7 N (wrap64 (P + 1)) q0 q1 q2 q3 q4 q5 q6 q7 op k l x _ q c0 A b off n c ms w (Lib.hid hp) (short_in es) (hasN_short es) hk hl hxl (Lib.hid hari) hP (Lib.hid hq) hn hml hA hm hpl
  rw [if_neg es] at hp
  have h313 := long_in ho.1 ho.2 e16 e17 e1 e18 e19 es
  obtain ⟨m, rfl, hm8⟩ := hc (by rw [hasN_long h313]; decide)
  rw [if_neg (by rw [show okR (m : Int) = true from by unfold okR; rw [decide_eq_true_iff]; omega]; simp)] at hp
  simp only [Int.toNat_natCast] at hp
  obtain ⟨y, hy, hyb⟩ := hbd m hm8
  have hym := hat m hm8
  rw [hy] at hp hym
  simp only [Int.toNat_natCast] at hp
  obtain ⟨q, hari⟩ := rari_out op x y hxb hyb
  obtain ⟨q0, q1, q2, q3, q4, q5, q6, q7, hq⟩ := hset k ((ariI op x y).getD 0)
  rw [hq] at hp
  exact plains_three F P r0 r1 r2 r3 r4 r5 r6 r7 N (wrap64 (P + 1)) q0 q1 q2 q3 q4 q5 q6 q7 op k l x _ q m y A b off n c ms w (Lib.hid hp) ⟨Int.le_trans (by decide) h313.1, Int.le_trans h313.2 (by decide)⟩ (hasN_long h313) hk hl hm8 hym hxl (Lib.hid hari) hP (Lib.hid hq) hn hml hA hm hpl

theorem plains_calls (f : Frm) (i : In5) (A : Option Addr) (b off n c : Nat) (ms : List Int) (w : World) (hrl : f.rs.length = 8) (hrb : ∀ x ∈ f.rs, 0 ≤ x ∧ x < 18446744073709551616) (h : IntsAt .u64 w A b off n ms) :
    Calls Try.prog 5 #[frmV f, insV i, .slice A n c] w fun e w' => e = .returned (.bool true) ∧ Below w.heap.size w w' := by
  by_cases hn : n ≤ 200
  · have hpl := Lib.hid (fun W (k : Keeps NoBlock w W) (hn : n ≤ 200) => plain_calls f i A b off n c ms W hrl hrb h.addr (zs_at h k) h.length (by omega))
    by_cases hb : badI i
    · exact plains_bad f i A n c ms w hrl hb hn hpl
    · exact plains_good f i A b off n c ms w hrl hrb hb hn (Lib.hid h.length) (Lib.hid h.addr) (Lib.hid (fun W k => zs_at h k)) hpl
  · exact plains_big f i A n c w hrl hn

theorem plains_row (w : World) (v : Value) (f : Frm) (hf : FrmAt v f) (u : Value) (i : In5) (hi : InstrAt u i) (A : Option Addr) (b off len cap : Nat) (zs : List Int) (h : IntsAt .u64 w A b off len zs) (_hl : len * 8 ≤ 140737488351232) :
    Calls Try.prog 5 #[v, u, .slice A len cap] w fun e w' => e = .returned (.bool true) ∧ Below w.heap.size w w' := by
  obtain ⟨rfl, hrl, hrb⟩ := hf
  obtain ⟨rfl, _⟩ := hi
  exact plains_calls f i A b off len cap zs w hrl hrb h
end Fr
end Go.Proofs.Ytlnoejmckpimnaa
