/- TubeOrder: words come out as they came in, whoever waited for whom. -/
import Derived.Test.YtgepedfipfobjaaTubeG
import Derived.Test.YtgepedfipfobjaaArg
namespace Go.Proofs.Ytgepedfipfobjaa
open Go.RowKit
namespace Tb

structure Line (R : Int) (s : St) (c : List Int) (B : Int) : Prop where
  g : s.2.2 = []
  con : s.1 ++ s.2.1.map (·.2) = c
  who : ∀ p ∈ s.2.1, p.1 < B
  le : (s.1.length : Int) ≤ R
  full : s.2.1 ≠ [] → (s.1.length : Int) = R
  len : (s.2.1.length : Int) ≤ B

theorem Line.free {R : Int} {s : St} {c : List Int} {B : Int} (h : Line R s c B) {who : Int} (hw : B ≤ who) : waitsB s.2.1 s.2.2 who = false := by
  unfold waitsB
  rw [h.g]
  simp only [List.any_nil, Bool.false_or]
  rw [List.any_eq_false]
  intro p hp
  have := h.who p hp
  simp; omega

theorem Line.put {R : Int} {s : St} {c : List Int} {i : Int} (h : Line R s c i) (x : Int) : Line R (putS R s i x).2 (c ++ [x]) (i + 1) := by
  have hf := h.free (Int.le_refl i)
  obtain ⟨ws, ps, gs⟩ := s
  obtain ⟨g, con, who, le, full, len⟩ := h
  simp only [] at g con who le full len hf
  subst g
  unfold putS
  simp only []
  rw [if_neg (by rw [hf]; simp)]
  split
  · have hps : ps = [] := by
      cases ps with
      | nil => rfl
      | cons p ps => have := full (by simp); omega
    subst hps
    refine ⟨rfl, by simpa using con, fun p hp => by simp at hp, by simp; omega, fun h => absurd rfl h, by simp at len ⊢; omega⟩
  · refine ⟨rfl, by simp [← con], fun p hp => ?_, le, fun _ => by show (ws.length : Int) = R; omega, by simp; omega⟩
    simp only [List.mem_append, List.mem_singleton] at hp
    rcases hp with hp | rfl
    · have := who p hp; omega
    · simp only []; omega

theorem Line.get {R : Int} {s : St} {x : Int} {c : List Int} {B : Int} (h : Line R s (x :: c) B) (hB : B ≤ 1000) (hR : 1 ≤ R) : ∃ b d s', getS s 1000 = ((x, true, b, d), s') ∧ Line R s' c B := by
  have hf := h.free hB
  obtain ⟨ws, ps, gs⟩ := s
  obtain ⟨g, con, who, le, full, len⟩ := h
  simp only [] at g con who le full len hf
  subst g
  unfold getS
  simp only []
  rw [if_neg (by rw [hf]; simp)]
  cases ws with
  | nil =>
    exfalso
    cases ps with
    | nil => simp at con
    | cons p ps => have := full (by simp); simp at this; omega
  | cons y ws =>
    simp only [List.cons_append, List.cons.injEq] at con
    obtain ⟨rfl, con⟩ := con
    cases ps with
    | nil => exact ⟨_, _, _, rfl, rfl, con, fun p hp => by simp at hp, by simp only [List.length_cons] at le ⊢; omega, fun h => absurd rfl h, len⟩
    | cons p ps =>
      have hb := full (by simp)
      refine ⟨_, _, _, rfl, rfl, by simpa using con, fun q hq => who q (List.mem_cons_of_mem _ hq), by simp only [List.length_cons, List.length_append, List.length_nil] at le ⊢; omega, fun _ => by simp only [List.length_cons, List.length_append, List.length_nil] at hb ⊢; omega, by simp only [List.length_cons] at len ⊢; omega⟩

theorem Line.done {R : Int} {s : St} {B : Int} (h : Line R s [] B) : s = ([], [], []) := by
  obtain ⟨ws, ps, gs⟩ := s
  obtain ⟨g, con, _⟩ := h
  simp only [List.append_eq_nil_iff, List.map_eq_nil_iff] at g con
  obtain ⟨rfl, rfl⟩ := con
  rw [g]

def LineInv (w : World) (t : Nat) (R : Int) (c : List Int) (B : Int) (wr : World) : Prop :=
  ∃ (col : Nat → Nat) (s : St), TubeS col wr t R s ∧ Line R s c B ∧ Fresh w.heap.size col ∧ Keeps NoBlock w wr

set_option maxHeartbeats 4000000 in
set_option maxRecDepth 100000 in
theorem order_calls (sz : Int) (A : Option Addr) (b off len cap : Nat) (zs : List Int) (w : World) (hs0 : 0 ≤ sz) (hs1 : sz < 256) (hA : 0 < len → A = some ⟨b, off, none⟩)
    (hc : ∀ j, j < len → w.cell? ⟨b, off + j, none⟩ = some (.int .u64 (zs.getD j 0))) (hzl : zs.length = len) (hl : len ≤ 1000000000000000) :
    Calls Try.prog 7 #[.int .u8 sz, .slice A len cap] w fun e w' => e = .returned (.bool true) ∧ Below w.heap.size w w' := by
  have Hc := Lib.hid hc
  have HA := Lib.hid hA
  have Hzl := Lib.hid hzl
  clear hc hA hzl
  obtain ⟨n, hn⟩ : ∃ n, Hid (n = min len 40) := ⟨_, rfl⟩
  have hnl : n ≤ len ∧ n ≤ 40 := by have := hn.out; omega
  obtain ⟨m, hm⟩ : ∃ m : Nat, sz % 10 = m := ⟨(sz % 10).toNat, by omega⟩
  have hm10 : m < 10 := by omega
  obtain ⟨R, hR⟩ : ∃ R, Hid (min (max ((m : Int) + 1) 1) 8 = R) := ⟨_, rfl⟩
  have hR1 : 1 ≤ R ∧ R ≤ 8 := by have := hR.out; omega
  go_enter Try.func7, Try.ntmps7
  go_wp2_with fail
  refine (new_calls _ w).mono ?_
  rintro e w1 ⟨t, c1, rfl, T1, f1, k1⟩
  rw [hR.out] at T1
  have inv1 : LineInv w t R [] 0 w1 := ⟨c1, ([], [], []), T1, ⟨rfl, rfl, fun p hp => by simp at hp, by simp; omega, fun h => absurd rfl h, by simp⟩, f1, k1⟩
  clear hm T1 f1 k1
  go_upto_if 36 with fail
  go_cut [6] from 36 to 36 (fun v wx => v = .int .i64 n ∧ w1 = wx)
  case first =>
    by_cases h40 : 40 < len
    · have hd : decide ((40 : Int) < (len : Int)) = true := by simp; omega
      have hn40 : Hid (n = 40) := by have := hn.out; show n = 40; omega
      go_wp2_with fail
      go_meet
      case rel => exact ⟨by rw [hn40.out]; rfl, rfl⟩
    · have hd : decide ((40 : Int) < (len : Int)) = false := by simp; omega
      have hn40 : Hid (n = len) := by have := hn.out; show n = len; omega
      go_wp2_with fail
      go_meet
      case rel => exact ⟨by rw [hn40.out], rfl⟩
  case rest =>
    obtain ⟨rfl, rfl⟩ := hcut
    go_wp2_with fail
    go_loopw [7] (fun i wr => ∃ q : Nat, q ≤ n ∧ i = .int .i64 q ∧ LineInv w t R (zs.take q) q wr) (fun i _ => n - (intOf i).toNat)
    case atStart => exact ⟨0, Nat.zero_le _, rfl, inv1⟩
    case round =>
      obtain ⟨q, hq, rfl, col, s, T, hL, hfr, hkp⟩ := hrel
      clear inv1
      have HL := Lib.hid hL
      have HF := Lib.hid hfr
      have hlen := hL.len
      clear hL hfr
      by_cases hlt : q < n
      · obtain rfl := HA.out (by omega)
        have hbw : b < w.heap.size := World.block_lt_of_cell? w ⟨b, off + q, none⟩ (Hc.out q (by omega))
        have hc0 := Hc.out q (by omega)
        obtain ⟨y, hy⟩ : ∃ y, zs.getD q 0 = y := ⟨_, rfl⟩
        rw [hy] at hc0
        have hzq : zs[q]? = some y := get_of_getD (by rw [Hzl.out]; omega) hy
        have htk : Hid (zs.take (q + 1) = zs.take q ++ [y]) := by show zs.take (q + 1) = _; rw [List.take_add_one, hzq]; rfl
        have c1 : wr.cell? ⟨b, off + q, none⟩ = some (.int .u64 y) := by rw [hkp.cell hbw (fun h => h)]; exact hc0
        clear hy hzq
        obtain ⟨a, bb, c, s2, hr⟩ : ∃ a b c s2, putS R s q y = ((a, b, c), s2) := ⟨_, _, _, _, rfl⟩
        have hL2 : Line R s2 (zs.take q ++ [y]) ((q : Int) + 1) := by have := HL.out.put y; rw [hr] at this; exact this
        have Hput := Lib.hid (put_any (col := col) t R s s2 a bb c q y wr T (by omega) hr)
        have H2 := Lib.hid hL2
        have hle := hL2.le
        clear hr hL2 T
        go_wp2_with fail
        refine Hput.out.mono ?_
        rintro e w2 ⟨c2, rfl, T2, n2⟩
        go_wp2_with fail
        refine (Words_calls (col := c2) t R s2.1 s2.2.1 s2.2.2 _ T2).mono ?_
        rintro e w3 ⟨A3, b3, rfl, _, _, k3⟩
        have T3 : TubeS c2 w3 t R s2 := T2.keeps k3 (fun _ _ h => h)
        have n3 : Next col c2 wr w3 := Next.trans n2 ⟨k3.mono (fun _ _ h => h.elim), fun _ _ => rfl⟩
        have inv3 : LineInv w t R (zs.take (q + 1)) ((q + 1 : Nat) : Int) w3 := ⟨c2, s2, T3, by rw [htk.out]; exact H2.out, Fresh.next HF.out n3 hkp.size, Fresh.keep HF.out n3 hkp rfl⟩
        have h8 : decide ((8 : Int) < (s2.1.length : Int)) = false := by simp; omega
        clear T2 T3 n2 n3 k3
        go_wp2_with fail
        exact ⟨⟨q + 1, by omega, by go_num, inv3⟩, by simp [intOf]; omega⟩
      · obtain rfl : q = n := by omega
        have inv2 : LineInv w t R ((zs.take q).drop 0) 100 wr := ⟨col, s, T, by
          have h := HL.out
          exact ⟨h.g, by rw [List.drop_zero]; exact h.con, fun p hp => by have := h.who p hp; omega, h.le, h.full, by omega⟩, HF.out, hkp⟩
        have hzt : Hid ((zs.take q).length = q) := by show (zs.take q).length = q; rw [List.length_take, Hzl.out]; omega
        clear T hlen
        go_wp2_with fail
        go_loopw [8] (fun i wr => ∃ k : Nat, k ≤ q ∧ i = .int .i64 k ∧ LineInv w t R ((zs.take q).drop k) 100 wr) (fun i _ => q - (intOf i).toNat)
        case atStart => exact ⟨0, Nat.zero_le _, rfl, inv2⟩
        case round =>
          obtain ⟨k, hk, rfl, col, s, T, hL, hfr, hkp⟩ := hrel
          clear inv2
          have HF := Lib.hid hfr
          clear hfr
          by_cases hlt : k < q
          · obtain rfl := HA.out (by omega)
            have hbw : b < w.heap.size := World.block_lt_of_cell? w ⟨b, off + k, none⟩ (Hc.out k (by omega))
            have hc0 := Hc.out k (by omega)
            obtain ⟨y, hy⟩ : ∃ y, zs.getD k 0 = y := ⟨_, rfl⟩
            rw [hy] at hc0
            have hzq : (zs.take q)[k]? = some y := by rw [List.getElem?_take, if_pos hlt]; exact get_of_getD (by rw [Hzl.out]; omega) hy
            have hdr : (zs.take q).drop k = y :: (zs.take q).drop (k + 1) := by
              rw [List.drop_eq_getElem_cons (by rw [hzt.out]; exact hlt)]
              congr 1
              have := (List.getElem?_eq_some_iff.1 hzq).2
              exact this
            rw [hdr] at hL
            obtain ⟨bb, d, s2, hr, hL2⟩ := hL.get (by decide) hR1.1
            have hgs : s.2.2.length < 1000 := by rw [hL.g]; decide
            have Hget := Lib.hid (get_any (col := col) t R s s2 y true bb d 1000 wr T hgs hr)
            have H2 := Lib.hid hL2
            clear hy hzq hdr hL hr hL2 T hgs
            go_wp2_with fail
            refine Hget.out.mono ?_
            rintro e w2 ⟨c2, rfl, T2, n2⟩
            have kp2 := Fresh.keep HF.out n2 hkp rfl
            have c1 : w2.cell? ⟨b, off + k, none⟩ = some (.int .u64 y) := by rw [kp2.cell hbw (fun h => h)]; exact hc0
            have inv3 : LineInv w t R ((zs.take q).drop (k + 1)) 100 w2 := ⟨c2, s2, T2, H2.out, Fresh.next HF.out n2 hkp.size, kp2⟩
            have hyy : (y != y) = false := by simp
            clear T2 n2
            go_wp2_with fail
            exact ⟨⟨k + 1, by omega, by go_num, inv3⟩, by simp [intOf]; omega⟩
          · obtain rfl : k = q := by omega
            rw [List.drop_of_length_le (by rw [hzt.out]; omega)] at hL
            obtain rfl := hL.done
            clear hL
            go_wp2_with fail
            refine (get_any (col := col) t R ([], [], []) ([], [], [1000]) 0 false 0 false 1000 wr T (by decide) (by decide)).mono ?_
            rintro e w2 ⟨c2, rfl, T2, n2⟩
            have k02 := Fresh.keep HF.out n2 hkp rfl
            have f2 := Fresh.next HF.out n2 hkp.size
            clear T n2
            go_wp2_with fail
            refine (put_any (col := c2) t R ([], [], [1000]) ([], [], []) true 1000 true 5 7 w2 T2 (by decide) (by simp [putS, waitsB])).mono ?_
            rintro e w3 ⟨c3, rfl, T3, n3⟩
            have k03 := Fresh.keep f2 n3 k02 rfl
            clear T2 n3
            go_wp2_with fail
            refine (put_nil _ _ _).mono ?_
            rintro e w4 ⟨rfl, rfl⟩
            go_wp2_with fail
            refine (get_nil _ _).mono ?_
            rintro e w4 ⟨rfl, rfl⟩
            go_wp2_with fail
            refine (awake07_calls _).mono ?_
            rintro e w4 ⟨rfl, k4⟩
            have T4 : TubeS c3 w4 t R ([], [], []) := T3.keeps k4 (fun _ _ h => h)
            have k04 := k03.trans k4 (fun _ _ h => h)
            clear T3 k4
            go_wp2_with fail
            refine (Getters_calls (col := c3) t R [] [] [] _ T4).mono ?_
            rintro e w5 ⟨A5, b5, rfl, _, _, k5⟩
            have k05 := k04.trans k5 (fun _ _ h => h)
            go_wp2_with fail
            refine (Words_nil _).mono ?_
            rintro e w6 ⟨rfl, rfl⟩
            go_wp2_with fail
            refine (putters_nil _).mono ?_
            rintro e w6 ⟨rfl, rfl⟩
            go_wp2_with fail
            refine (Getters_nil _).mono ?_
            rintro e w6 ⟨rfl, rfl⟩
            go_wp2_with fail
            go_ret
            exact ⟨rfl, k05.below (Nat.le_refl _) (fun _ h => h.elim)⟩

theorem order_row (w : World) (s : Int) (hs : (Lit.int .u8 s).wf = true) (A : Option Addr) (b off len cap : Nat) (zs : List Int) (h : IntsAt .u64 w A b off len zs) (hl : len * 8 ≤ 140737488351232) :
    Calls Try.prog 7 #[.int .u8 s, .slice A len cap] w fun e w' => e = .returned (.bool true) ∧ Below w.heap.size w w' := by
  have hs' := bounds_u8 hs
  exact order_calls s A b off len cap zs w (by omega) (by omega) h.addr h.cell h.length (by omega)
end Tb
end Go.Proofs.Ytgepedfipfobjaa
