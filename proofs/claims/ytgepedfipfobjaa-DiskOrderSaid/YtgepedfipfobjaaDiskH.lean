/- DiskOrder: requests come out in the order in which they came in, or turned. -/
import Derived.Test.YtgepedfipfobjaaDiskF
import Derived.Test.YtgepedfipfobjaaArg
import Derived.IntWalk
namespace Go.Proofs.Ytgepedfipfobjaa
open Go.RowKit

/-- n requests, whose they are told by place. -/
structure Whos (ws : List Req) (n : Nat) (f : Nat → Int) : Prop where
  len : ws.length = n
  who : ∀ (j : Nat) (r : Req), ws[j]? = some r → r.who = f j

theorem Whos.add {ws : List Req} {n : Nat} {f : Nat → Int} (h : Whos ws n f) (r : Req) (hr : r.who = f n) : Whos (ws ++ [r]) (n + 1) f := by
  refine ⟨by rw [List.length_append, h.len]; rfl, fun j q hq => ?_⟩
  by_cases hj : j < ws.length
  · rw [List.getElem?_append_left hj] at hq; exact h.who j q hq
  · rw [List.getElem?_append_right (by omega)] at hq
    have hl := (List.getElem?_eq_some_iff.1 hq).1
    simp at hl
    obtain rfl : j = n := by have := h.len; omega
    rw [h.len, Nat.sub_self] at hq
    simp at hq
    rw [← hq, hr]

theorem Whos.erase {ws : List Req} {n ix : Nat} {f g : Nat → Int} (h : Whos ws (n + 1) f) (hi : ix < n + 1) (h1 : ∀ j, j < ix → g j = f j) (h2 : ∀ j, ix ≤ j → j < n → g j = f (j + 1)) : Whos (ws.eraseIdx ix) n g := by
  refine ⟨by rw [List.length_eraseIdx, if_pos (by rw [h.len]; exact hi), h.len]; omega, fun j q hq => ?_⟩
  rw [List.getElem?_eraseIdx] at hq
  split at hq
  · rw [h1 j (by assumption)]; exact h.who j q hq
  · have hjl := (List.getElem?_eq_some_iff.1 hq).1
    rw [h2 j (by omega) (by have := h.len; omega)]; exact h.who (j + 1) q hq

def OrdInv (w : World) (d n : Nat) (f : Nat → Int) (wr : World) : Prop :=
  ∃ (F : Nat → Prop) (bs : List Int) (ws : List Req), DiskAt F wr d bs ws ∧ bs.length = 4 ∧ Whos ws n f ∧ (∀ j, F j → w.heap.size ≤ j) ∧ Keeps NoBlock w wr

def ordF (back : Bool) (i : Nat) (j : Nat) : Int := if back then j else (i + j : Nat)

set_option maxHeartbeats 4000000 in
set_option maxRecDepth 100000 in
theorem order_calls (A : Option Addr) (b off len cap : Nat) (zs : List Int) (back : Bool) (w : World) (hA : 0 < len → A = some ⟨b, off, none⟩)
    (hc : ∀ j, j < len → w.cell? ⟨b, off + j, none⟩ = some (.int .u8 (zs.getD j 0))) (hz : ∀ j, j < len → 0 ≤ zs.getD j 0 ∧ zs.getD j 0 < 256) (hl : len ≤ 1000000000000000) :
    Calls Try.prog 5 #[.slice A len cap, .bool back] w fun e w' => e = .returned (.bool true) ∧ Below w.heap.size w w' := by
  have Hc := Lib.hid hc
  have HA := Lib.hid hA
  have Hz := Lib.hid hz
  clear hc hA hz
  obtain ⟨n, hn⟩ : ∃ n, Hid (n = min len 40) := ⟨_, rfl⟩
  have hnl : n ≤ len ∧ n ≤ 40 := by have := hn.out; omega
  go_enter Try.func5, Try.ntmps5
  go_wp2_with fail
  refine (new_calls _ w).mono ?_
  rintro e w1 ⟨d, F1, rfl, D1, f1, k1⟩
  rw [show newLen 4 = 4 by decide] at D1
  have inv1 : OrdInv w d 0 (ordF back 0) w1 := ⟨F1, _, [], D1, rfl, ⟨rfl, fun j r h => by simp at h⟩, f1, k1⟩
  clear D1 f1 k1
  go_upto_if 18 with fail
  go_cut [6] from 18 to 18 (fun v wx => v = .int .i64 n ∧ wx = w1)
  case first =>
    by_cases h40 : 40 < len
    · have hd : decide ((40 : Int) < (len : Int)) = true := by simp; omega
      have hn40 : Hid (n = 40) := by have := hn.out; show n = 40; omega
      go_wp2_with fail
      go_meet
      case rel => exact ⟨by rw [hn40.out]; rfl, rfl⟩
    · have hd : decide ((40 : Int) < (len : Int)) = false := by simp; omega
      have hn40 : Hid (n = len) := by have := hn.out; show n = len; omega
      go_wp2_with fail
      go_meet
      case rel => exact ⟨by rw [hn40.out], rfl⟩
  case rest =>
    obtain ⟨rfl, rfl⟩ := hcut
    go_wp2_with fail
    go_loopw [7] (fun i wr => ∃ q : Nat, q ≤ n ∧ i = .int .i64 q ∧ OrdInv w d q (ordF back 0) wr) (fun i _ => n - (intOf i).toNat)
    case atStart => exact ⟨0, Nat.zero_le _, rfl, inv1⟩
    case round =>
      obtain ⟨q, hq, rfl, F, bs, ws, D, hbl, hw, hF, hkp⟩ := hrel
      clear inv1
      by_cases hlt : q < n
      · obtain rfl := HA.out (by omega)
        have hbw : b < w.heap.size := World.block_lt_of_cell? w ⟨b, off + q, none⟩ (Hc.out q (by omega))
        have hyb := Hz.out q (by omega)
        have hc0 := Hc.out q (by omega)
        obtain ⟨y, hy⟩ : ∃ y, zs.getD q 0 = y := ⟨_, rfl⟩
        rw [hy] at hc0 hyb
        have c1 : wr.cell? ⟨b, off + q, none⟩ = some (.int .u8 y) := by rw [hkp.cell hbw (fun h => h)]; exact hc0
        clear hy
        have Hbl := Lib.hid hbl
        have Hw := Lib.hid hw
        have HF := Lib.hid hF
        clear hbl hw hF
        have hm : y.tmod 4 = y % 4 := Int.tmod_eq_emod_of_nonneg hyb.1
        go_wp2_with fail
        have hb0 : (0 : Int) ≤ (q : Int) := by omega
        have hb1 : (q : Int) < len := by omega
        have hwr1 : IntKind.u8.wrap (y % 4) = y % 4 := by rw [IntKind.wrap_u8]; omega
        have hwr2 : IntKind.i64.wrap (y % 4) = y % 4 := IntWalk.i64_in _ (by omega)
        have hwr3 : IntKind.u64.wrap (q : Int) = q := by rw [IntKind.wrap_u64]; omega
        have hFb : ¬ F b := fun h => by have := HF.out b h; omega
        have hbwr : b < wr.heap.size := Nat.lt_of_lt_of_le hbw hkp.size
        have Dd := D.keeps (w' := wr.drew) ((Keeps.refl NoBlock wr).drew) (fun _ _ h => h)
        have hy0 : 0 ≤ y % 4 := by omega
        have hy4 : y % 4 < bs.length := by rw [Hbl.out]; omega
        have hany : (ws.any fun x => x.who == (q : Int)) = false := by
          rw [List.any_eq_false]
          intro x hx
          obtain ⟨j, hj, rfl⟩ := List.getElem_of_mem hx
          have h1 := Hw.out.who j _ (List.getElem?_eq_getElem hj)
          have h2 := Hw.out.len
          simp only [ordF] at h1
          rw [h1]
          split <;> simp <;> omega
        have hlw : ws.length < 1000 := by rw [Hw.out.len]; omega
        have HA1 := Lib.hid hany
        have HDd := Lib.hid Dd
        have Hlw := Lib.hid hlw
        have Hy4 := Lib.hid hy4
        clear hany Dd hlw hy4
        go_region_held3 (fun w' => w'.cell? ⟨b, off + q, none⟩ = some (.int .u8 y)) (first | go_keep | exact (k2.cell (w := wr.drew) hbwr hFb).trans c1)
          (first | (go_at_call 11; refine (ask_ok (F := F) d bs ws ⟨q, y % 4, decide (99 < y), q⟩ _ HDd.out hy0 Hy4.out HA1.out Hlw.out).mono ?_; rintro e w2 ⟨F2, rfl, D2, k2, g2⟩))
        have inv2 : OrdInv w d (q + 1) (ordF back 0) w2 := by
          refine ⟨F2, bs, _, D2, Hbl.out, Hw.out.add _ ?_, fun j hj => ?_, (hkp.drew).trans k2 (fun j hj h => by have := HF.out j h; omega)⟩
          · simp [ordF]
          · rcases g2 j hj with h | h
            · exact HF.out j h
            · have := hkp.size; simp at h; omega
        clear D2 k2 g2
        go_wp2_with fail
        exact ⟨⟨q + 1, by omega, by go_num, inv2⟩, by simp [intOf]; omega⟩
      · obtain rfl : q = n := by omega
        have inv2 : OrdInv w d q (ordF back 0) wr := ⟨F, bs, ws, D, hbl, hw, hF, hkp⟩
        clear D hbl hw hF hkp
        go_wp2_with fail
        go_loopw [8] (fun i wr => ∃ k : Nat, k ≤ q ∧ i = .int .i64 k ∧ OrdInv w d (q - k) (ordF back k) wr) (fun i _ => q - (intOf i).toNat)
        case atStart => exact ⟨0, Nat.zero_le _, rfl, inv2⟩
        case round =>
          obtain ⟨k, hk, rfl, F, bs, ws, D, hbl, hw, hF, hkp⟩ := hrel
          clear inv2
          have Hbl := Lib.hid hbl
          have Hw := Lib.hid hw
          have HF := Lib.hid hF
          clear hbl hw hF
          by_cases hlt : k < q
          · cases back with
            | false =>
              have hix : ((0 : Int)) % (ws.length : Int) = ((0 : Nat) : Int) := by
                have hl := Hw.out.len
                simp
              have hil : 0 < ws.length := by rw [Hw.out.len]; omega
              obtain ⟨r, hr⟩ : ∃ r, ws[0]? = some r := ⟨_, List.getElem?_eq_getElem hil⟩
              have hwho := Hw.out.who _ _ hr
              have hne : (r.who != (k : Int)) = false := by
                rw [hwho]; simp [ordF]
              have Hr := Lib.hid hr
              have Hne := Lib.hid hne
              have Hix := Lib.hid hix
              clear hr hwho hne hix hil
              go_wp2_with fail
              refine (done_calls (F := F) d bs ws (0) (0) r _ D Hix.out Hr.out).mono ?_
              rintro e w2 ⟨rfl, D2, k2⟩
              have hne := Hne.out
              have inv2 : ∀ o, OrdInv w d (q - (k + 1)) (ordF false (k + 1)) (w2.alloc o) := fun o => by
                refine ⟨F, _, _, D2.keeps (S := NoBlock) ((Keeps.refl _ _).alloc _) (fun _ _ h => h), ?_, Whos.erase (f := ordF false k) (by rw [show q - (k + 1) + 1 = q - k by omega]; exact Hw.out) (by omega) ?_ ?_, HF.out, (hkp.trans k2 (fun j hj h => by have := HF.out j h; omega)).alloc _⟩
                · unfold done1; split <;> simp [Hbl.out]
                · intro j hj; omega
                · intro j hj _; simp [ordF]; omega
              have Inv2 := Lib.hid inv2
              clear D2 k2 inv2
              go_wp2_with fail
              exact ⟨⟨k + 1, by omega, by go_num, Inv2.out _⟩, by simp [intOf]; omega⟩
            | true =>
              have hix : ((-1 : Int)) % (ws.length : Int) = ((q - k - 1 : Nat) : Int) := by
                have hl := Hw.out.len
                rw [hl]; rw [show ((q - k - 1 : Nat) : Int) = (-1) + ((q - k : Nat) : Int) by omega]; have h1 := Int.add_emod_right (-1) ((q - k : Nat) : Int); rw [← h1]; exact Int.emod_eq_of_lt (by omega) (by omega)
              have hil : q - k - 1 < ws.length := by rw [Hw.out.len]; omega
              obtain ⟨r, hr⟩ : ∃ r, ws[q - k - 1]? = some r := ⟨_, List.getElem?_eq_getElem hil⟩
              have hwho := Hw.out.who _ _ hr
              have hne : (r.who != ((q : Int) - 1 - k)) = false := by
                rw [hwho]; simp [ordF]; omega
              have Hr := Lib.hid hr
              have Hne := Lib.hid hne
              have Hix := Lib.hid hix
              clear hr hwho hne hix hil
              go_wp2_with fail
              refine (done_calls (F := F) d bs ws (-1) (q - k - 1) r _ D Hix.out Hr.out).mono ?_
              rintro e w2 ⟨rfl, D2, k2⟩
              have hne := Hne.out
              have inv2 : ∀ o, OrdInv w d (q - (k + 1)) (ordF true (k + 1)) (w2.alloc o) := fun o => by
                refine ⟨F, _, _, D2.keeps (S := NoBlock) ((Keeps.refl _ _).alloc _) (fun _ _ h => h), ?_, Whos.erase (f := ordF true k) (by rw [show q - (k + 1) + 1 = q - k by omega]; exact Hw.out) (by omega) ?_ ?_, HF.out, (hkp.trans k2 (fun j hj h => by have := HF.out j h; omega)).alloc _⟩
                · unfold done1; split <;> simp [Hbl.out]
                · intro j hj; simp [ordF]
                · intro j hj hj'; exfalso; omega
              have Inv2 := Lib.hid inv2
              clear D2 k2 inv2
              go_wp2_with fail
              exact ⟨⟨k + 1, by omega, by go_num, Inv2.out _⟩, by simp [intOf]; omega⟩
          · obtain rfl : k = q := by omega
            go_wp2_with fail
            refine (awake08_calls _).mono ?_
            rintro e w5 ⟨rfl, k5⟩
            have D5 := D.keeps k5 (fun _ _ h => h)
            have k05 := hkp.trans k5 (fun _ _ h => h)
            obtain rfl : ws = [] := List.eq_nil_of_length_eq_zero (by rw [Hw.out.len]; omega)
            clear D hkp k5
            go_wp2_with fail
            refine (wait_calls (F := F) d _ _ _ D5).mono ?_
            rintro e w9 ⟨v, rfl, hv, _, k9⟩
            obtain ⟨A9, b9, off9, cap9, rfl, _, _⟩ := hv
            have k09 := k05.trans k9 (fun _ _ h => h)
            go_wp2_with fail
            go_ret
            exact ⟨rfl, k09.below (Nat.le_refl _) (fun _ h => h.elim)⟩

theorem order_any (w : World) (A : Option Addr) (b off len cap : Nat) (zs : List Int) (h : IntsAt .u8 w A b off len zs) (hl : len * 1 ≤ 140737488351232) (back : Bool) :
    Calls Try.prog 5 #[.slice A len cap, .bool back] w fun e w' => e = .returned (.bool true) ∧ Below w.heap.size w w' :=
  order_calls A b off len cap zs back w h.addr h.cell (fun j hj => by have := bounds_u8 (h.wf j hj); omega) (by omega)
end Go.Proofs.Ytgepedfipfobjaa
