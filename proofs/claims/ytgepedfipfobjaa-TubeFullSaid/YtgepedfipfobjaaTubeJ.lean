/- TubeFull: never more words than room; who waits to put waits at a full pipe, who waits to get at an empty one. -/
import Derived.Test.YtgepedfipfobjaaTubeI
namespace Go.Proofs.Ytgepedfipfobjaa
open Go.RowKit
namespace Tb

structure Ok (room : Int) (s : St) (k : Nat) : Prop where
  a : (s.1.length : Int) ≤ room
  b : 0 < s.2.1.length → (s.1.length : Int) = room
  c : 0 < s.2.2.length → s.1.length = 0
  d : 0 < s.2.1.length → s.2.2.length = 0
  e : s.2.1.length ≤ k ∧ s.2.2.length ≤ k

theorem Ok.put {room : Int} {s : St} {k : Nat} (h : Ok room s k) (who x : Int) (_hr : 1 ≤ room) : Ok room (putS room s who x).2 (k + 1) := by
  obtain ⟨ws, ps, gs⟩ := s
  obtain ⟨a, b, c, d, e⟩ := h
  simp only [] at a b c d e
  unfold putS
  simp only []
  split
  · exact ⟨a, b, c, d, by simp only []; omega⟩
  · cases gs with
    | cons g gs => exact ⟨a, fun h => by have := d h; simp at this, fun _ => c (by simp), fun h => by have := d h; simp at this, by simp only [List.length_cons] at e ⊢; omega⟩
    | nil =>
      simp only []
      split
      · refine ⟨by simp; omega, fun h => ?_, fun h => by simp at h, fun _ => rfl, by simp only [List.length_nil]; omega⟩
        have := b h; omega
      · refine ⟨a, fun _ => by show (ws.length : Int) = room; omega, fun h => by simp at h, fun _ => rfl, by simp only [List.length_append, List.length_cons, List.length_nil]; omega⟩

theorem Ok.get {room : Int} {s : St} {k : Nat} (h : Ok room s k) (who : Int) (hr : 1 ≤ room) : Ok room (getS s who).2 (k + 1) := by
  obtain ⟨ws, ps, gs⟩ := s
  obtain ⟨a, b, c, d, e⟩ := h
  simp only [] at a b c d e
  unfold getS
  simp only []
  split
  · exact ⟨a, b, c, d, by simp only []; omega⟩
  · cases ws with
    | nil =>
      refine ⟨a, fun h => ?_, fun _ => rfl, fun h => ?_, by simp only [List.length_append, List.length_cons, List.length_nil]; omega⟩
      · have := b h; simp at this; omega
      · have := b h; simp at this; omega
    | cons y ws =>
      cases ps with
      | nil =>
        refine ⟨by simp only [List.length_cons] at a ⊢; omega, fun h => by simp at h, fun h => ?_, fun h => by simp at h, by simp only [List.length_nil]; omega⟩
        have := c h; simp at this
      | cons p ps =>
        have hb := b (by simp)
        refine ⟨by simp only [List.length_append, List.length_cons, List.length_nil] at hb ⊢; omega, fun _ => by simp only [List.length_append, List.length_cons, List.length_nil] at hb ⊢; omega, fun h => ?_, fun _ => d (by simp), by simp only [List.length_cons] at e ⊢; omega⟩
        have h' : 0 < gs.length := h
        have := d (by simp); omega

def FullInv (w : World) (t : Nat) (room : Int) (k : Nat) (wr : World) : Prop :=
  ∃ (col : Nat → Nat) (s : St), TubeS col wr t room s ∧ Ok room s k ∧ Fresh w.heap.size col ∧ Keeps NoBlock w wr


set_option maxHeartbeats 4000000 in
set_option maxRecDepth 100000 in
theorem full_calls (sz : Int) (v : Value) (l : List Act) (w : World) (hs0 : 0 ≤ sz) (hs1 : sz < 256) (hv : Rd encA 3 w v l) (hl : l.length ≤ 1000000000000000) :
    Calls Try.prog 8 #[.int .u8 sz, v] w fun e w' => e = .returned (.bool true) ∧ Below w.heap.size w w' := by
  obtain ⟨A0, b0, off, cap0, rfl, hA, hc⟩ := hv
  have HA := Lib.hid hA
  have Hc := Lib.hid hc
  obtain ⟨len, hlen⟩ : ∃ len, Hid (l.length = len) := ⟨_, rfl⟩
  rw [hlen.out] at hl HA
  clear hc hA
  obtain ⟨m, hm⟩ : ∃ m : Nat, sz % 8 = m := ⟨(sz % 8).toNat, by omega⟩
  have hm8 : m < 8 := by omega
  rw [show Value.slice A0 l.length cap0 = Value.slice A0 len cap0 by rw [hlen.out]]
  go_enter Try.func8, Try.ntmps8
  go_wp2_with fail
  refine (new_calls _ w).mono ?_
  rintro e w1 ⟨t, c1, rfl, T1, f1, k1⟩
  rw [show min (max ((m : Int) + 1) 1) 8 = (m : Int) + 1 by omega] at T1
  have inv1 : FullInv w t ((m : Int) + 1) 0 w1 := ⟨c1, ([], [], []), T1, ⟨by simp; omega, fun h => by simp at h, fun h => by simp at h, fun h => by simp at h, by simp⟩, f1, k1⟩
  clear hm T1 f1 k1
  go_wp2_with fail
  go_loopw [7] (fun i wr => ∃ k : Nat, k ≤ 80 ∧ k ≤ len ∧ i = .int .i64 k ∧ FullInv w t ((m : Int) + 1) k wr) (fun i _ => 80 - (intOf i).toNat)
  case atStart => exact ⟨0, by omega, by omega, rfl, inv1⟩
  case round =>
    obtain ⟨k, hk, hkl, rfl, col, s, T, hok, hfr, hkp⟩ := hrel
    clear inv1
    by_cases hlt : k < len ∧ k < 80
    · obtain ⟨hlt, hlt8⟩ := hlt
      obtain ⟨a, ha⟩ : ∃ a, l[k]? = some a := ⟨_, List.getElem?_eq_getElem (by rw [hlen.out]; exact hlt)⟩
      obtain ⟨rfl, hb0⟩ := HA.out (by omega)
      have hcs := act_cells Hc.out ha
      rw [← hkp.cell hb0 (fun h => h), ← hkp.cell hb0 (fun h => h), ← hkp.cell hb0 (fun h => h)] at hcs
      obtain ⟨c0, c1', c2'⟩ := hcs
      clear ha
      obtain ⟨g, who, x⟩ := a
      simp only [] at c0 c1' c2'
      have hokb := hok.e
      have hfr2 := Lib.hid hfr
      have hok' := Lib.hid hok
      have hkp2 := hkp
      have hbw : b0 < wr.heap.size := Nat.lt_of_lt_of_le hb0 hkp.size
      have hcb : ¬ col b0 ≠ 0 := fun h => by have := hfr b0 h; omega
      clear hok hfr
      cases g with
      | true =>
        obtain ⟨y, a, b, c, s2, hr⟩ : ∃ y a b c s2, getS s who = ((y, a, b, c), s2) := ⟨_, _, _, _, _, rfl⟩
        have hok2 : Ok ((m : Int) + 1) s2 (k + 1) := by have := hok'.out.get who (by omega); rw [hr] at this; exact this
        have Hget := Lib.hid (get_any (col := col) t ((m : Int) + 1) s s2 y a b c who wr T (by omega) hr)
        clear hr
        go_wp2_with fail
        refine Hget.out.mono ?_
        rintro e w2 ⟨c2, rfl, T2, n2⟩
        have I2 : FullInv w t ((m : Int) + 1) (k + 1) w2 := ⟨c2, _, T2, hok2, Fresh.next hfr2.out n2 hkp2.size, Fresh.keep hfr2.out n2 hkp2 rfl⟩
        obtain ⟨col3, s3, T3, hok3, hfr3, hkp3⟩ := I2
        have Ok3 := Lib.hid hok3
        have Fr3 := Lib.hid hfr3
        have hb3 := hok3.b
        have hc3 := hok3.c
        have hd3 := hok3.d
        have ha3 := hok3.a
        clear T2 n2 hok2 hok3 hfr3
        go_wp2_with fail
        refine (Words_calls (col := col3) t _ s3.1 s3.2.1 s3.2.2 _ T3).mono ?_
        rintro e w4 ⟨A4, b4, rfl, _, _, k4⟩
        have T4 : TubeS col3 w4 t ((m : Int) + 1) s3 := T3.keeps k4 (fun _ _ h => h)
        have k04 := hkp3.trans k4 (fun _ _ h => h)
        clear T3 k4
        go_wp2_with fail
        refine (putters_calls (col := col3) t _ s3.1 s3.2.1 s3.2.2 _ T4).mono ?_
        rintro e w5 ⟨A5, b5, rfl, _, _, k5⟩
        have T5 : TubeS col3 w5 t ((m : Int) + 1) s3 := T4.keeps k5 (fun _ _ h => h)
        have k05 := k04.trans k5 (fun _ _ h => h)
        clear T4 k5
        go_wp2_with fail
        refine (Getters_calls (col := col3) t _ s3.1 s3.2.1 s3.2.2 _ T5).mono ?_
        rintro e w6 ⟨A6, b6, rfl, _, _, k6⟩
        have T6 : TubeS col3 w6 t ((m : Int) + 1) s3 := T5.keeps k6 (fun _ _ h => h)
        have k06 := k05.trans k6 (fun _ _ h => h)
        have I6 : FullInv w t ((m : Int) + 1) (k + 1) w6 := ⟨col3, s3, T6, Ok3.out, Fr3.out, k06⟩
        clear T5 k6 T6 k06 k05
        obtain ⟨a, ea⟩ : ∃ a, Hid (s3.1.length = a) := ⟨_, rfl⟩
        obtain ⟨b, eb⟩ : ∃ b, Hid (s3.2.1.length = b) := ⟨_, rfl⟩
        obtain ⟨c, ec⟩ : ∃ c, Hid (s3.2.2.length = c) := ⟨_, rfl⟩
        rw [ea.out, eb.out, ec.out]
        rw [eb.out, ea.out] at hb3
        rw [ec.out, ea.out] at hc3
        rw [eb.out, ec.out] at hd3
        rw [ea.out] at ha3
        have h1 : decide ((m : Int) + 1 < (a : Int)) = false := by simp; omega
        by_cases hb0 : 0 < b
        · have e1 := hb3 hb0
          have e2 := hd3 hb0
          have h2 : decide (0 < (b : Int)) = true := by simp; omega
          have h3 : ((a : Int) != (m : Int) + 1) = false := by simp; omega
          have h4 : Hid (c = 0) := e2
          clear e1 e2 hb3 hc3 hd3
          rw [h4.out]
          go_wp2_with fail
          exact ⟨⟨k + 1, by omega, by omega, by go_num, I6⟩, by simp [intOf]; omega⟩
        · have h2 : Hid (b = 0) := by show b = 0; omega
          rw [h2.out]
          by_cases hc0 : 0 < c
          · have e1 := hc3 hc0
            have h4 : decide (0 < (c : Int)) = true := by simp; omega
            have h5 : Hid (a = 0) := e1
            clear e1 hb3 hc3 hd3 h1 hb0
            rw [h5.out]
            go_wp2_with fail
            exact ⟨⟨k + 1, by omega, by omega, by go_num, I6⟩, by simp [intOf]; omega⟩
          · have h4 : Hid (c = 0) := by show c = 0; omega
            rw [h4.out]
            clear hb3 hc3 hd3 hb0 hc0
            go_wp2_with fail
            exact ⟨⟨k + 1, by omega, by omega, by go_num, I6⟩, by simp [intOf]; omega⟩
      | false =>
        obtain ⟨a, b, c, s2, hr⟩ : ∃ a b c s2, putS ((m : Int) + 1) s who x = ((a, b, c), s2) := ⟨_, _, _, _, rfl⟩
        have hok2 : Ok ((m : Int) + 1) s2 (k + 1) := by have := hok'.out.put who x (by omega); rw [hr] at this; exact this
        have Td := T.keeps (w' := wr.drew) ((Keeps.refl NoBlock wr).drew) (fun _ _ h => h)
        have Hput := Lib.hid (put_any (col := col) t ((m : Int) + 1) s s2 a b c who x wr.drew Td (by omega) hr)
        clear hr Td
        have hbi0 : (0 : Int) ≤ (k : Int) := by omega
        have hbi1 : (k : Int) < (len : Int) := by omega
        have HT := Lib.hid T
        clear T
        go_wp2_with fail
        go_region_held3 (fun w' => w'.cell? ⟨b0, off + k * 3 + 1, none⟩ = some (.int .i64 who) ∧ w'.cell? ⟨b0, off + k * 3 + 2, none⟩ = some (.int .u64 x))
          (first | go_keep | (go_split_ands; refine ⟨?_, ?_⟩; exact (n2d.1.cell (w := wr.drew) hbw hcb).trans c1'; exact (n2d.1.cell (w := wr.drew) hbw hcb).trans c2'))
          (first | (go_at_call 20; refine Hput.out.mono ?_; rintro e w2 ⟨c2, rfl, T2, n2d⟩))
        have n2 : Next col c2 wr w2 := Next.behind (w1 := wr.drew) ((Keeps.refl _ _).drew) n2d
        have I2 : FullInv w t ((m : Int) + 1) (k + 1) w2 := ⟨c2, _, T2, hok2, Fresh.next hfr2.out n2 hkp2.size, Fresh.keep hfr2.out n2 hkp2 rfl⟩
        obtain ⟨col3, s3, T3, hok3, hfr3, hkp3⟩ := I2
        have Ok3 := Lib.hid hok3
        have Fr3 := Lib.hid hfr3
        have hb3 := hok3.b
        have hc3 := hok3.c
        have hd3 := hok3.d
        have ha3 := hok3.a
        clear T2 n2 hok2 hok3 hfr3
        go_wp2_with fail
        refine (Words_calls (col := col3) t _ s3.1 s3.2.1 s3.2.2 _ T3).mono ?_
        rintro e w4 ⟨A4, b4, rfl, _, _, k4⟩
        have T4 : TubeS col3 w4 t ((m : Int) + 1) s3 := T3.keeps k4 (fun _ _ h => h)
        have k04 := hkp3.trans k4 (fun _ _ h => h)
        clear T3 k4
        go_wp2_with fail
        refine (putters_calls (col := col3) t _ s3.1 s3.2.1 s3.2.2 _ T4).mono ?_
        rintro e w5 ⟨A5, b5, rfl, _, _, k5⟩
        have T5 : TubeS col3 w5 t ((m : Int) + 1) s3 := T4.keeps k5 (fun _ _ h => h)
        have k05 := k04.trans k5 (fun _ _ h => h)
        clear T4 k5
        go_wp2_with fail
        refine (Getters_calls (col := col3) t _ s3.1 s3.2.1 s3.2.2 _ T5).mono ?_
        rintro e w6 ⟨A6, b6, rfl, _, _, k6⟩
        have T6 : TubeS col3 w6 t ((m : Int) + 1) s3 := T5.keeps k6 (fun _ _ h => h)
        have k06 := k05.trans k6 (fun _ _ h => h)
        have I6 : FullInv w t ((m : Int) + 1) (k + 1) w6 := ⟨col3, s3, T6, Ok3.out, Fr3.out, k06⟩
        clear T5 k6 T6 k06 k05
        obtain ⟨a, ea⟩ : ∃ a, Hid (s3.1.length = a) := ⟨_, rfl⟩
        obtain ⟨b, eb⟩ : ∃ b, Hid (s3.2.1.length = b) := ⟨_, rfl⟩
        obtain ⟨c, ec⟩ : ∃ c, Hid (s3.2.2.length = c) := ⟨_, rfl⟩
        rw [ea.out, eb.out, ec.out]
        rw [eb.out, ea.out] at hb3
        rw [ec.out, ea.out] at hc3
        rw [eb.out, ec.out] at hd3
        rw [ea.out] at ha3
        have h1 : decide ((m : Int) + 1 < (a : Int)) = false := by simp; omega
        by_cases hb0 : 0 < b
        · have e1 := hb3 hb0
          have e2 := hd3 hb0
          have h2 : decide (0 < (b : Int)) = true := by simp; omega
          have h3 : ((a : Int) != (m : Int) + 1) = false := by simp; omega
          have h4 : Hid (c = 0) := e2
          clear e1 e2 hb3 hc3 hd3
          rw [h4.out]
          go_wp2_with fail
          exact ⟨⟨k + 1, by omega, by omega, by go_num, I6⟩, by simp [intOf]; omega⟩
        · have h2 : Hid (b = 0) := by show b = 0; omega
          rw [h2.out]
          by_cases hc0 : 0 < c
          · have e1 := hc3 hc0
            have h4 : decide (0 < (c : Int)) = true := by simp; omega
            have h5 : Hid (a = 0) := e1
            clear e1 hb3 hc3 hd3 h1 hb0
            rw [h5.out]
            go_wp2_with fail
            exact ⟨⟨k + 1, by omega, by omega, by go_num, I6⟩, by simp [intOf]; omega⟩
          · have h4 : Hid (c = 0) := by show c = 0; omega
            rw [h4.out]
            clear hb3 hc3 hd3 hb0 hc0
            go_wp2_with fail
            exact ⟨⟨k + 1, by omega, by omega, by go_num, I6⟩, by simp [intOf]; omega⟩
    · have hend : (k : Int) < len → (80 : Int) ≤ k := by omega
      have Hend := Lib.hid hend
      clear hend hlt T hok hfr
      by_cases h1 : k < len
      · have h2 : 80 ≤ (k : Int) := Hend.out (by omega)
        go_wp2_with fail
        refine (awake07_calls _).mono ?_
        rintro e w2 ⟨rfl, k2⟩
        go_wp2_with fail
        go_ret
        exact ⟨rfl, (hkp.trans k2 (fun _ _ h => h)).below (Nat.le_refl _) (fun _ h => h.elim)⟩
      · have h2 : (len : Int) ≤ k := by omega
        clear h1
        go_wp2_with fail
        refine (awake07_calls _).mono ?_
        rintro e w2 ⟨rfl, k2⟩
        go_wp2_with fail
        go_ret
        exact ⟨rfl, (hkp.trans k2 (fun _ _ h => h)).below (Nat.le_refl _) (fun _ h => h.elim)⟩

theorem full_row (w : World) (s : Int) (hs : (Lit.int .u8 s).wf = true) (v : Value) (l : List Act) (h : ActsAt w v l) :
    Calls Try.prog 8 #[.int .u8 s, v] w fun e w' => e = .returned (.bool true) ∧ Below w.heap.size w w' := by
  have hs' := bounds_u8 hs
  exact full_calls s v l w (by omega) (by omega) h.1 h.2
end Tb
end Go.Proofs.Ytgepedfipfobjaa
