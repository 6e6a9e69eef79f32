/- WheelOrder: who sleeps for fewer moments is due no later than who sleeps for more; all are due in the end, each once. -/
import Derived.Test.YtlnoejmckpimnaaWhE
import Derived.BigQuiet
import Derived.Deep.QuietTactic
namespace Go.Proofs.Ytlnoejmckpimnaa
open Go.RowKit Go.Maps
namespace Wh

/-- What is asked of the row. -/
def lenO (zs : List Int) (n : Nat) : List Nat := (zs.take n).map fun z => z.toNat + 1

set_option maxRecDepth 100000 in
set_option maxHeartbeats 2000000 in
theorem order_calls (w : World) (A : Option Addr) (b off len cap n : Nat) (zs : List Int) (h : IntsAt .u8 w A b off len zs) (hn : (len ≤ 30 ∧ n = len) ∨ (30 < len ∧ n = 30)) (l : List Nat) (hl : Hid (l = lenO zs n)) :
    Calls Try.prog 8 #[.slice A len cap] w fun e w' => e = .returned (.bool true) ∧ Below w.heap.size w w' := by
  have hll : Hid (l.length = n) := by show _ = n; rw [hl.out, lenO, List.length_map, List.length_take, h.length]; omega
  have hlz : Hid (∀ i, i < n → ∃ z : Nat, z ≤ 255 ∧ zs.getD i 0 = (z : Int) ∧ l[i]? = some (z + 1)) := fun i hi => by
    have hw := h.wf i (by omega)
    have hb : 0 ≤ zs.getD i 0 ∧ zs.getD i 0 ≤ 255 := by simpa [Lit.wf, IntKind.min, IntKind.max, IntKind.signed, IntKind.bits] using hw
    refine ⟨(zs.getD i 0).toNat, by omega, by omega, ?_⟩
    have hzl : i < zs.length := by have := h.length; omega
    rw [hl.out, lenO, List.getElem?_map, List.getElem?_take_of_lt hi, List.getElem?_eq_getElem hzl, List.getD_eq_getElem?_getD, List.getElem?_eq_getElem hzl]; rfl
  have hmk : ∀ w, (Instr.makeSlice 23 (.int .i64 (n : Int)) (.int .i64 (n : Int))).run Try.prog w = .ok (.slice (some ⟨w.heap.size, 0, none⟩) n n) (w.alloc (.cells (madeCells (Value.int .i64 0).cells (n * 1)) 3)) := run_mk eI n (by omega) (by decide)
  have Hh := Lib.hid h
  have hn30 : n ≤ 30 := by omega
  have hnl : n ≤ len := by omega
  clear h hl
  go_enter Try.func8, Try.ntmps8
  go_wp2_with fail
  refine (new_calls w).mono ?_
  rintro e w1 ⟨d, mb, rfl, h1, h2, hw1, k1⟩
  have I1 := Lib.hid (Wl.begin h1 h2 hw1 k1)
  clear h1 h2 hw1 k1
  go_upto_if 15 with fail
  go_cut [4] from 14 to 15 (fun v wx => v = .int .i64 n ∧ wx = w1)
  case first =>
    rcases hn with ⟨h1, h3⟩ | ⟨h1, h3⟩
    · have h2 : ¬ (30 : Int) < (len : Int) := by omega
      have H3 : Hid (n = len) := h3
      clear h3 hn30 hnl
      go_wp2_with fail
      go_meet
      case rel => exact ⟨by rw [H3.out], rfl⟩
    · have h2 : (30 : Int) < (len : Int) := by omega
      have H3 : Hid (n = 30) := h3
      clear h3 hn30 hnl
      go_wp2_with fail
      go_meet
      case rel => exact ⟨by rw [H3.out]; rfl, rfl⟩
  case rest =>
    obtain ⟨rfl, rfl⟩ := hcut
    clear hn
    go_wp2_with fail
    go_loopw [5] (fun i wr => ∃ k : Nat, k ≤ n ∧ i = .int .i64 k ∧ Wl w d mb k 0 (fO (l.take k) 0) wr) (fun i _ => n - (intOf i).toNat)
    case atStart => exact ⟨0, Nat.zero_le _, rfl, by rw [List.take_zero, fO_begin]; exact I1.out⟩
    case round =>
      obtain ⟨k, hk, rfl, I⟩ := hrel
      have HI := Lib.hid I
      clear I I1
      by_cases hlt : k < n
      · obtain ⟨z, hz, hgz, hlk⟩ := hlz.out k hlt
        have hzc : wr.cell? ⟨b, off + k, none⟩ = some (.int .u8 (z : Int)) := by
          rw [← hgz]
          exact (Hh.out.keeps HI.out.kp (fun e => e)).cell k (by omega)
        obtain rfl := Hh.out.addr (by omega)
        have hk0 : (0 : Int) ≤ (k : Int) := by omega
        have hkl : (k : Int) < (n : Int) := by omega
        have hkl2 : (k : Int) < (len : Int) := by omega
        have hcz : IntKind.i64.wrap (z : Int) = (z : Int) := by rw [IntKind.wrap_i64]; omega
        have hcz1 : IntKind.i64.wrap ((z : Int) + 1) = (z : Int) + 1 := by rw [IntKind.wrap_i64]; omega
        have hwk : IntKind.i64.wrap ((k : Int) + 1) = (k : Int) + 1 := by rw [IntKind.wrap_i64]; omega
        have Hlk := Lib.hid hlk
        clear hgz hlk
        go_wp2_with fail
        refine (sleep_ok HI.out.wh k (z + 1) (WalkArith.wf_i64 (by omega)) (by omega) (by omega) (fO_new l k) (by omega)).mono ?_
        rintro e w2 ⟨rfl, hw2, k2⟩
        have I2 : Hid (Wl w d mb (k + 1) 0 (fO (l.take (k + 1)) 0) w2) := by
          have := HI.out.step hw2 (k2.mono (fun _ _ e => .inr e))
          have e := fO_sleep Hlk.out (by omega) (by omega)
          rw [show ((z + 1 : Nat) : Int) = (z : Int) + 1 from by omega] at e
          rw [e] at this
          exact this
        clear hw2 k2
        go_wp2_with fail
        exact ⟨⟨k + 1, by omega, by go_num, I2.out⟩, by simp [intOf]; omega⟩
      · obtain rfl : k = n := by omega
        have HI0 : Hid (Wl w d mb k 0 (fO l 0) wr) := by
          have := HI.out
          rw [List.take_of_length_le (by rw [hll.out]; exact Nat.le_refl _)] at this
          exact this
        clear HI
        go_upto_region 11 with fail
        generalize hW : World.alloc wr _ = w2
        have I2 : Hid (Wl w d mb k 0 (fO l 0) w2) := by
          show Wl _ _ _ _ _ _ _
          rw [← hW]
          exact HI0.out.keeps ((Keeps.refl _ _).alloc _)
        have B2 : Hid (w2.heap[wr.heap.size]? = some (.cells (rowV (dueV l 0 []) k).toArray 3 (0, 0))) := by
          show _ = _
          rw [← hW, rowV_congr (fun i _ => dueV_begin l i), ← rowV_zero]
          exact block_alloc_new _ _
        obtain ⟨gd, hgd⟩ : ∃ gd, wr.heap.size = gd := ⟨_, rfl⟩
        have Gd : Hid (gd ≠ d ∧ gd ≠ mb ∧ w.heap.size ≤ gd) := by
          have := lt_of_block HI0.out.wh.head
          have := HI0.out.wh.lt
          have := HI0.out.kp.size
          exact ⟨by omega, by omega, by omega⟩
        rw [hgd] at B2 ⊢
        clear hW hgd HI0
        go_wp2_with fail
        go_loopw [7] (fun i wq => ∃ j : Nat, j ≤ 257 ∧ i = .int .i64 ((j : Int) + 1) ∧ Wl w d mb k j (fO l j) wq ∧ wq.heap[gd]? = some (.cells (rowV (dueV l j []) k).toArray 3 (0, 0))) (fun i _ => 259 - (intOf i).toNat)
        case atStart => exact ⟨0, by omega, rfl, I2.out, B2.out⟩
        case round =>
          obtain ⟨j, hj, rfl, I, Bq⟩ := hrel
          have HI := Lib.hid I
          have HB := Lib.hid Bq
          clear I Bq I2 B2
          by_cases hlt : j < 257
          · have hj1 : (j : Int) + 1 ≤ 257 := by omega
            have hwj : IntKind.i64.wrap ((j : Int) + 1 + 1) = (j : Int) + 1 + 1 := by rw [IntKind.wrap_i64]; omega
            go_wp2_with fail
            refine (tick_calls HI.out.wh (by omega) (lim := (j : Int) + 1) (by omega)).mono ?_
            rintro e w3 ⟨A3, c3, ks, rfl, ho3, hp3, hm3, hf3, hw3, k3, hl3⟩
            have I3 : Hid (Wl w d mb k ((j : Int) + 1) (fO l (j + 1)) w3) := by
              have := HI.out.step hw3 k3
              rw [fO_tick l j _ rfl] at this
              exact this
            have B3 : Hid (w3.heap[gd]? = some (.cells (rowV (dueV l j []) k).toArray 3 (0, 0))) := by
              show _ = _
              rw [k3.block _ (lt_of_block HB.out) (fun e => by
                rcases e with e | e
                · exact Gd.out.1 e
                · exact Gd.out.2.1 e)]
              exact HB.out
            have Hm : Hid (∀ x : Int, x ∈ ks ↔ aAt l x = (j : Int) + 1) := fun x => by rw [hm3, fO_due rfl]
            have Ho3 := Lib.hid ho3
            have Hp3 := Lib.hid hp3
            have Hne : Hid (∀ g, A3 = some ⟨g, 0, none⟩ → g ≠ gd) := fun g e e2 => by
              have := hf3 g (by rw [e]; rfl)
              have := lt_of_block HB.out
              omega
            clear ho3 hp3 hm3 hf3 hw3 k3 HI HB
            go_wp2_with fail
            go_loopw [9] (fun i wq => ∃ m : Nat, m ≤ ks.length ∧ i = .int .i64 m ∧ wq.heap[gd]? = some (.cells (rowV (dueV l j (ks.take m)) k).toArray 3 (0, 0)) ∧ Keeps (fun b => b = gd) w3 wq) (fun i _ => ks.length - (intOf i).toNat)
            case atStart => exact ⟨0, Nat.zero_le _, rfl, B3.out, Keeps.refl _ _⟩
            case round =>
              obtain ⟨m, hm, rfl, Bm, hkm⟩ := hrel
              by_cases hlm : m < ks.length
              · obtain ⟨x, hx⟩ : ∃ x, ks[m]? = some x := ⟨_, List.getElem?_eq_getElem hlm⟩
                have hax := (Hm.out x).1 (List.mem_of_getElem? hx)
                obtain ⟨i, hxi, hil⟩ := aAt_in (by omega : 0 < aAt l x)
                rw [hll.out] at hil
                subst hxi
                have hai : l.getD i 0 = j + 1 := by rw [aAt_nat] at hax; omega
                obtain ⟨gl, rfl⟩ := own_some Ho3.out (by omega)
                have hgl := Hne.out gl rfl
                have cl : ∀ q : Nat, ∀ y : Int, ks[q]? = some y → wr.cell? ⟨gl, q, none⟩ = some (.int .i64 y) := fun q y hy => by
                  have hq := (List.getElem?_eq_some_iff.1 hy).1
                  have : w3.cell? ⟨gl, q, none⟩ = some (.int .i64 y) := by rw [World.ownsRow.cellAt Ho3.out q (by omega), List.getElem?_map, hy]; rfl
                  exact (hkm.cell (World.block_lt_of_cell? w3 _ this) hgl).trans this
                have cx := cl m _ hx
                have cd : wr.cell? ⟨gd, i, none⟩ = some (.int .i64 0) := by
                  refine cell_of_block (o := i) Bm ?_
                  rw [List.getElem?_toArray, rowV_get _ hil, dueV_zero Hp3.out hx hai]
                have fd := frozen_of_block Bm (o := i)
                have hlow : Hid (∀ q y, q < m → ks[q]? = some y → y < (i : Int)) := fun q y hq hy => by
                  obtain ⟨h1, h2⟩ := List.getElem?_eq_some_iff.1 hy
                  obtain ⟨h3, h4⟩ := List.getElem?_eq_some_iff.1 hx
                  have := List.pairwise_iff_getElem.1 Hp3.out q m h1 h3 hq
                  rw [h2, h4] at this
                  exact this
                have hB' : Hid (∀ W : World, W.heap[gd]? = some (.cells (rowV (dueV l j (ks.take m)) k).toArray 3 (0, 0)) → (W.setCell ⟨gd, i, none⟩ (.int .i64 ((j : Int) + 1))).heap[gd]? = some (.cells (rowV (dueV l j (ks.take (m + 1))) k).toArray 3 (0, 0))) := fun W hW => by
                  have h5 := block_set (o := i) hW (.int .i64 ((j : Int) + 1))
                  rw [h5, List.setIfInBounds_toArray, rowV_set, rowV_congr (fun i' _ => (dueV_set hx hai i').symm)]
                have HBm := Lib.hid Bm
                have hi0 : (0 : Int) ≤ (i : Int) := by omega
                have hik : (i : Int) < (k : Int) := by omega
                have hm0 : (0 : Int) ≤ (m : Int) := by omega
                have hml : (m : Int) < (ks.length : Int) := by omega
                have hwm : IntKind.i64.wrap ((m : Int) + 1) = (m : Int) + 1 := by rw [IntKind.wrap_i64]; omega
                have g1 : decide ((i : Int) < 0) = false := by simp
                have g2 : decide ((k : Int) ≤ (i : Int)) = false := by simp; omega
                have g2' : decide (k ≤ i) = false := by simp; omega
                clear hx hax hai hll Bm hil
                by_cases h0 : m = 0
                · have g3 : decide ((0 : Int) < (m : Int)) = false := by simp; omega
                  have g3' : decide (0 < m) = false := by simp; omega
                  clear h0 cl
                  go_upto_region 18 with fail
                  go_quiet (fail)
                  go_wp2_with fail
                  exact ⟨⟨m + 1, by omega, by go_num, hB'.out _ HBm.out, (hkm.drewN _).set (.inl rfl) _⟩, by simp [intOf]; omega⟩
                · obtain ⟨q, hq⟩ : ∃ q, m = q + 1 := ⟨m - 1, by omega⟩
                  obtain ⟨y, hy⟩ : ∃ y, ks[q]? = some y := ⟨_, List.getElem?_eq_getElem (by omega)⟩
                  have hyx : y < (i : Int) := hlow.out q y (by omega) hy
                  have cy := cl q y hy
                  have g3 : decide ((0 : Int) < (m : Int)) = true := by simp; omega
                  have g3' : decide (0 < m) = true := by simp; omega
                  have g4 : decide ((i : Int) ≤ y) = false := by simp; omega
                  have hq0 : (0 : Int) ≤ (q : Int) := by omega
                  have hql : (q : Int) < (ks.length : Int) := by omega
                  have hwq : IntKind.i64.wrap ((m : Int) - 1) = (q : Int) := by rw [IntKind.wrap_i64]; omega
                  clear h0 cl hy hq hyx
                  go_upto_region 18 with fail
                  go_quiet (fail)
                  go_wp2_with fail
                  exact ⟨⟨m + 1, by omega, by go_num, hB'.out _ HBm.out, (hkm.drewN _).set (.inl rfl) _⟩, by simp [intOf]; omega⟩
              · obtain rfl : m = ks.length := by omega
                have Bn : Hid (wr.heap[gd]? = some (.cells (rowV (dueV l (j + 1) []) k).toArray 3 (0, 0))) := by
                  show _ = _
                  rw [Bm, List.take_length, rowV_congr (fun i _ => dueV_next Hm.out i)]
                have I4 : Hid (Wl w d mb k ((j : Int) + 1) (fO l (j + 1)) wr) := by
                  show Wl _ _ _ _ _ _ _
                  refine ⟨I3.out.wh.keeps hkm (fun e => Gd.out.1 e.symm) (fun e => Gd.out.2.1 e.symm), ?_, I3.out.ld, I3.out.lm⟩
                  exact (I3.out.kp.mono (S' := fun b => b = gd) (fun _ _ e => e.elim)).trans hkm (fun _ _ e => e) |>.mono (fun q hq e => by have := Gd.out.2.2; omega)
                clear Bm hkm
                go_wp2_with fail
                exact ⟨⟨j + 1, by omega, by go_num, by rw [show ((j + 1 : Nat) : Int) = (j : Int) + 1 from by omega]; exact I4.out, Bn.out⟩, by simp [intOf]; omega⟩
          · obtain rfl : j = 257 := by omega
            have Hk := Lib.hid HI.out.kp
            generalize wr = w5 at *
            have hd5 : Hid (∀ i z : Nat, i < k → z ≤ 255 → l[i]? = some (z + 1) → w5.cell? ⟨gd, i, none⟩ = some (.int .i64 ((z : Int) + 1))) := fun i z hi hz hlk => by
              have hg : l.getD i 0 = z + 1 := by rw [List.getD_eq_getElem?_getD, hlk]; rfl
              refine cell_of_block (o := i) HB.out ?_
              rw [List.getElem?_toArray, rowV_get _ hi, dueV_end (by omega), hg]
              rfl
            clear HI HB
            go_wp2_with fail
            go_loopw [10] (fun i wq => ∃ m : Nat, m ≤ k ∧ i = .int .i64 m ∧ Keeps NoBlock w5 wq) (fun i _ => k - (intOf i).toNat)
            case atStart => exact ⟨0, Nat.zero_le _, rfl, Keeps.refl _ _⟩
            case round =>
              obtain ⟨m, hm, rfl, hkm⟩ := hrel
              by_cases hlm : m < k
              · obtain ⟨z, hz, hgz, hlk⟩ := hlz.out m hlm
                have c5 := hd5.out m z hlm hz hlk
                have ca := (hkm.cell (World.block_lt_of_cell? w5 _ c5) (fun e => e)).trans c5
                have cz : wr.cell? ⟨b, off + m, none⟩ = some (.int .u8 (z : Int)) := by
                  rw [← hgz]
                  exact (Hh.out.keeps (Hk.out.trans hkm (fun _ _ e => e)) (fun e => e)).cell m (by omega)
                obtain rfl := Hh.out.addr (by omega)
                have hm0 : (0 : Int) ≤ (m : Int) := by omega
                have hml : (m : Int) < (k : Int) := by omega
                have hml2 : (m : Int) < (len : Int) := by omega
                have hcz : IntKind.i64.wrap (z : Int) = (z : Int) := by rw [IntKind.wrap_i64]; omega
                have hcz1 : IntKind.i64.wrap ((z : Int) + 1) = (z : Int) + 1 := by rw [IntKind.wrap_i64]; omega
                have hwm : IntKind.i64.wrap ((m : Int) + 1) = (m : Int) + 1 := by rw [IntKind.wrap_i64]; omega
                clear hgz hlk c5
                go_upto_region 24 with fail
                go_quiet (fail)
                go_wp2_with fail
                exact ⟨⟨m + 1, by omega, by go_num, hkm.drewN _⟩, by simp [intOf]; omega⟩
              · obtain rfl : m = k := by omega
                go_wp2_with fail
                refine (awake06_calls _).mono ?_
                rintro e w6 ⟨rfl, k6⟩
                go_wp2_with fail
                go_ret
                exact ⟨rfl, ((Hk.out.trans hkm (fun _ _ e => e)).trans k6 (fun _ _ e => e)).below (Nat.le_refl _) (fun _ e => e.elim)⟩

theorem order_row (w : World) (A : Option Addr) (b off len cap : Nat) (zs : List Int) (h : IntsAt .u8 w A b off len zs) (_hl : len * 1 ≤ 140737488351232) :
    Calls Try.prog 8 #[.slice A len cap] w fun e w' => e = .returned (.bool true) ∧ Below w.heap.size w w' := by
  by_cases hn : len ≤ 30
  · exact order_calls w A b off len cap len zs h (.inl ⟨hn, rfl⟩) _ (Lib.hid rfl)
  · exact order_calls w A b off len cap 30 zs h (.inr ⟨by omega, rfl⟩) _ (Lib.hid rfl)

end Wh
end Go.Proofs.Ytlnoejmckpimnaa
