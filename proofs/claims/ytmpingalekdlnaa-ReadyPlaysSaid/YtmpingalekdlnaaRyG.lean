/- ReadyAll: whoever picks, all that came in come out, each once. -/
import Derived.Test.YtmpingalekdlnaaRyF
import Derived.Test.YtmpingalekdlnaaArg
import Derived.Deep.DeepCutAuto
import Derived.Deep.CutBlock
namespace Go.Proofs.Ytmpingalekdlnaa
open Go.RowKit
namespace Ry
open Dq

theorem elB : Elem Try.prog 39 4 (.bool false) 1 1 := Elem.mk' (by kernel_rfl) (by kernel_rfl) rfl (by decide)

/-- Just these numbers are in rows: 0, .. below k. -/
def Come (qs : List (List Int)) (k : Nat) : Prop := qs.flatten.Perm ((List.range k).map Int.ofNat)

theorem Come.nil (n : Nat) : Come (List.replicate n []) 0 := by unfold Come; simp

theorem Come.len {qs : List (List Int)} {k : Nat} (h : Come qs k) : qs.flatten.length = k := by have := List.Perm.length_eq h; simpa using this

theorem Come.lens {qs : List (List Int)} {k : Nat} (h : Come qs k) : ∀ q ∈ qs, q.length ≤ k := fun q hq => by have := len_flat hq; rw [h.len] at this; exact this

theorem Come.new {qs : List (List Int)} {k : Nat} (h : Come qs k) : (k : Int) ∉ qs.flatten := fun hm => by
  have := (List.Perm.mem_iff h).1 hm
  rw [List.mem_map] at this
  obtain ⟨a, ha, hb⟩ := this
  have := List.mem_range.1 ha
  have h2 : (a : Int) = k := hb
  omega

theorem Come.more {qs : List (List Int)} {k j : Nat} (h : Come qs k) (hj : j < qs.length) : addB qs j k = true ∧ Come (addQ qs j k) (k + 1) := by
  refine ⟨addB_new hj h.new, ?_⟩
  obtain ⟨q, hq, e⟩ := addQ_new hj h.new
  rw [e]
  unfold Come
  rw [List.range_succ, List.map_append]
  exact ((come_perm hq).trans ((List.Perm.cons _ h))).trans (List.perm_append_singleton _ _).symm

/-- What is still in rows has not come out. -/
structure Still (qs : List (List Int)) (l : List Bool) (m i : Nat) : Prop where
  nd : qs.flatten.Nodup
  len : qs.flatten.length + i = m
  ll : l.length = m
  inn : ∀ t ∈ qs.flatten, ∃ k : Nat, t = k ∧ l[k]? = some false

theorem Come.still {qs : List (List Int)} {m : Nat} (h : Come qs m) : Still qs (List.replicate m false) m 0 := by
  refine ⟨(List.Perm.nodup_iff h).2 ?_, h.len, by simp, fun t ht => ?_⟩
  · rw [List.nodup_iff_pairwise_ne, List.pairwise_map]
    exact (List.nodup_range (n := m)).imp (fun hne e => hne (Int.ofNat.inj e))
  · have := (List.Perm.mem_iff h).1 ht
    rw [List.mem_map] at this
    obtain ⟨k, hk, rfl⟩ := this
    exact ⟨k, rfl, by rw [List.getElem?_replicate, if_pos (List.mem_range.1 hk)]⟩

theorem Still.pick {qs : List (List Int)} {l : List Bool} {m i : Nat} (h : Still qs l m i) {k ix : Nat} {q : List Int} {t : Int} (hq : qs[k]? = some q) (ht : q[ix]? = some t) :
    ∃ j : Nat, t = j ∧ l[j]? = some false ∧ Still (qs.set k (q.eraseIdx ix)) (l.set j true) m (i + 1) := by
  have hp := gone_perm hq ht
  obtain ⟨j, rfl, hj⟩ := h.inn t ((List.Perm.mem_iff hp).2 (by simp))
  have hnd := (List.Perm.nodup_iff hp).1 h.nd
  rw [List.nodup_cons] at hnd
  refine ⟨j, rfl, hj, hnd.2, ?_, by rw [List.length_set]; exact h.ll, fun t ht => ?_⟩
  · have := h.len
    rw [List.Perm.length_eq hp, List.length_cons] at this
    omega
  · obtain ⟨k', rfl, hk'⟩ := h.inn t ((List.Perm.mem_iff hp).2 (List.mem_cons_of_mem _ ht))
    refine ⟨k', rfl, ?_⟩
    rw [List.getElem?_set_ne (fun e => hnd.1 (by rw [e]; exact ht))]
    exact hk'

theorem Still.end {qs : List (List Int)} {l : List Bool} {m : Nat} (h : Still qs l m m) : (qs.all fun q => decide (q = [])) = true :=
  empty_flat (List.eq_nil_of_length_eq_zero (by have := h.len; omega))

theorem Still.more {qs : List (List Int)} {l : List Bool} {m i : Nat} (h : Still qs l m i) (hi : i < m) {p : Nat} (hp : p < qs.length) : pickR qs p ≠ none :=
  pickR_some hp (fun e => by have := h.len; rw [e] at this; simp at this; omega)

theorem made_rep (z : Value) (hz : z.cells = #[z]) (n : Nat) : madeCells z.cells n = (List.replicate n z).toArray := by
  apply Array.toList_inj.1
  rw [hz, toList_madeCells_one]

def bools (l : List Bool) : Array Value := (l.map Value.bool).toArray

theorem bools_set (l : List Bool) (j : Nat) (b : Bool) : (bools l).setIfInBounds j (.bool b) = bools (l.set j b) := by
  unfold bools
  simp [List.map_set]

theorem bools_at {l : List Bool} {j : Nat} {b : Bool} (h : l[j]? = some b) : (bools l)[j]? = some (.bool b) := by
  unfold bools
  simp [h]

set_option maxHeartbeats 4000000 in
set_option maxRecDepth 100000 in
theorem all_law_calls (s : Int) (A : Option Addr) (b off len cap : Nat) (zs : List Int) (A2 : Option Addr) (b2 off2 len2 cap2 : Nat) (zs2 : List Int) (w : World) (hs0 : 0 ≤ s) (hs1 : s < 256)
    (hA : 0 < len → A = some ⟨b, off, none⟩) (hc : ∀ j, j < len → w.cell? ⟨b, off + j, none⟩ = some (.int .u8 (zs.getD j 0))) (hz : ∀ j, j < len → 0 ≤ zs.getD j 0 ∧ zs.getD j 0 < 256) (hl : len ≤ 1000000000000000)
    (hA2 : 0 < len2 → A2 = some ⟨b2, off2, none⟩) (hc2 : ∀ j, j < len2 → w.cell? ⟨b2, off2 + j, none⟩ = some (.int .u8 (zs2.getD j 0))) (hz2 : ∀ j, j < len2 → 0 ≤ zs2.getD j 0 ∧ zs2.getD j 0 < 256) (hl2 : len2 ≤ 1000000000000000) :
    Calls Try.prog 4 #[.int .u8 s, .slice A len cap, .slice A2 len2 cap2] w fun e w' => e = .returned (.bool true) ∧ Below w.heap.size w w' := by
  have Hc := Lib.hid hc
  have HA := Lib.hid hA
  have Hz := Lib.hid hz
  have Hc2 := Lib.hid hc2
  have HA2 := Lib.hid hA2
  have Hz2 := Lib.hid hz2
  clear hc hA hz hc2 hA2 hz2
  obtain ⟨n, hn⟩ : ∃ n : Nat, Hid (s % 8 + 1 = n) := ⟨(s % 8 + 1).toNat, by show _ = _; omega⟩
  have hn1 : 1 ≤ n ∧ n ≤ 8 := by have := hn.out; omega
  obtain ⟨r, hr⟩ : ∃ r, r = w.heap.size := ⟨_, rfl⟩
  go_enter Try.func4, Try.ntmps4
  go_wp2_with fail
  rw [hn.out]
  refine (new_calls n n (by omega) w).mono ?_
  rintro e w1 ⟨rfl, I1⟩
  rw [← hr] at I1 ⊢
  clear hr
  obtain ⟨m, hm⟩ : ∃ m, Hid (m = min len 40) := ⟨_, rfl⟩
  have hml : m ≤ len ∧ m ≤ 40 := by have := hm.out; omega
  have HI1 := Lib.hid I1
  clear I1
  go_upto_if 30 with fail
  go_cut [9] from 30 to 30 (fun v wx => v = .int .i64 m ∧ wx = w1)
  case first =>
    by_cases h40 : 40 < len
    · have hd : decide ((40 : Int) < (len : Int)) = true := by simp; omega
      have hn40 : Hid (m = 40) := by have := hm.out; show m = 40; omega
      go_wp2_with fail
      go_meet
      case rel => exact ⟨by rw [hn40.out]; rfl, rfl⟩
    · have hd : decide ((40 : Int) < (len : Int)) = false := by simp; omega
      have hn40 : Hid (m = len) := by have := hm.out; show m = len; omega
      go_wp2_with fail
      go_meet
      case rel => exact ⟨by rw [hn40.out], rfl⟩
  case rest =>
    obtain ⟨rfl, rfl⟩ := hcut
    have I1 := HI1.out
    go_wp2_with fail
    go_loopw [10] (fun i wr => ∃ (k : Nat) (qs : List (List Int)), k ≤ m ∧ i = .int .i64 k ∧ RyS w r n qs (fun _ => False) wr ∧ Come qs k) (fun i _ => m - (intOf i).toNat)
    case atStart => exact ⟨0, _, Nat.zero_le _, rfl, I1, Come.nil n⟩
    case round =>
      obtain ⟨k, qs, hk, rfl, S, hcome⟩ := hrel
      clear I1 HI1
      have HS := Lib.hid S
      have Hcome := Lib.hid hcome
      have hkp := S.kp
      clear S hcome
      by_cases hlt : k < m
      · obtain rfl := HA.out (by omega)
        have hbw : b < w.heap.size := World.block_lt_of_cell? w ⟨b, off + k, none⟩ (Hc.out k (by omega))
        have hyb := Hz.out k (by omega)
        have hc0 := Hc.out k (by omega)
        obtain ⟨y, hy⟩ : ∃ y, zs.getD k 0 = y := ⟨_, rfl⟩
        rw [hy] at hc0 hyb
        have c1 : wr.cell? ⟨b, off + k, none⟩ = some (.int .u8 y) := by rw [hkp.cell hbw (fun h => h)]; exact hc0
        obtain ⟨j, hj⟩ : ∃ j : Nat, y.tmod n = j := ⟨(y.tmod n).toNat, by have := Int.tmod_nonneg (n : Int) hyb.1; omega⟩
        have hjn : j < n := by have := Int.tmod_lt_of_pos y (b := (n : Int)) (by omega); omega
        clear hy hc0
        have hadd := Lib.hid (add_calls j k HS.out (by omega) (fun q hq => by have := Hcome.out.lens q hq; omega))
        have hmore := Lib.hid (Hcome.out.more (j := j) (by rw [HS.out.ql]; exact hjn))
        go_wp2_with fail
        refine hadd.out.mono ?_
        rintro e w2 ⟨rfl, S2, _⟩
        rw [hmore.out.1]
        go_wp2_with fail
        exact ⟨⟨k + 1, _, by omega, by go_num, S2, hmore.out.2⟩, by simp [intOf]; omega⟩
      · obtain rfl : k = m := by omega
        have hmk := run_mk elB k (by omega) (by decide)
        have HS' := Lib.hid (HS.out.keeps ((Keeps.refl _ wr).alloc (.cells (madeCells #[Value.bool false] k) 4)))
        obtain ⟨ob, hob⟩ : ∃ ob, Hid (ob = wr.heap.size) := ⟨_, rfl⟩
        have S0 : Hid (RyS w r n qs (fun x => x = ob) (wr.alloc (.cells (madeCells #[Value.bool false] k) 4))) := HS.out.change ((Keeps.refl _ wr).alloc _) (fun x hx => by
          have := hob.out
          exact ⟨.inr (by omega), by simp; omega⟩)
        have B0 : Hid ((wr.alloc (.cells (madeCells #[Value.bool false] k) 4)).heap[ob]? = some (.cells (bools (List.replicate k false)) 4 (0, 0))) := by
          show _ = _
          rw [blk_new hob.out, show madeCells #[Value.bool false] k = (List.replicate k (Value.bool false)).toArray from made_rep (.bool false) rfl k]
          unfold bools
          simp
        go_wp2_with fail
        rw [← hob.out]
        clear hmk HS'
        have hstart : ∃ l : List Bool, RyS w r n qs (fun x => x = ob) (wr.alloc (.cells (madeCells #[Value.bool false] k) 4)) ∧ (wr.alloc (.cells (madeCells #[Value.bool false] k) 4)).heap[ob]? = some (.cells (bools l) 4 (0, 0)) ∧ Still qs l k 0 := ⟨_, S0.out, B0.out, Hcome.out.still⟩
        have Hstart := Lib.hid hstart
        clear hstart S0 B0 hob HS Hcome hkp
        generalize World.alloc wr _ = w9 at Hstart ⊢
        go_loopw [12] (fun i wr => ∃ (x : Nat) (qs : List (List Int)) (l : List Bool), x ≤ k ∧ i = .int .i64 x ∧ RyS w r n qs (fun x => x = ob) wr ∧ wr.heap[ob]? = some (.cells (bools l) 4 (0, 0)) ∧ Still qs l k x) (fun i _ => k - (intOf i).toNat)
        case atStart =>
          obtain ⟨l, h1, h2, h3⟩ := Hstart.out
          exact ⟨0, _, l, Nat.zero_le _, rfl, h1, h2, h3⟩
        case round =>
          clear Hstart
          obtain ⟨x, qs, l, hx, rfl, S, hB, hst⟩ := hrel
          have HS := Lib.hid S
          have HB := Lib.hid hB
          have Hst := Lib.hid hst
          have hkp := S.kp
          clear S hB hst
          by_cases hlt : x < k
          · go_upto_if 56 with fail
            go_cut [13] from 56 to 66 (fun v wx => ∃ j : Nat, j < n ∧ v = .int .i64 j ∧ wx = wr)
            case first =>
              by_cases h0 : 0 < len2
              · obtain rfl := HA2.out h0
                obtain ⟨ix, hix⟩ : ∃ ix : Nat, (x : Int) % (len2 : Int) = ix := ⟨((x : Int) % (len2 : Int)).toNat, by have := Int.emod_nonneg (x : Int) (b := (len2 : Int)) (by omega); omega⟩
                have hixl : ix < len2 := by have := Int.emod_lt_of_pos (x : Int) (b := (len2 : Int)) (by omega); omega
                have hbw : b2 < w.heap.size := World.block_lt_of_cell? w ⟨b2, off2 + ix, none⟩ (Hc2.out ix hixl)
                have hyb := Hz2.out ix hixl
                have hc0 := Hc2.out ix hixl
                obtain ⟨y, hy⟩ : ∃ y, zs2.getD ix 0 = y := ⟨_, rfl⟩
                rw [hy] at hc0 hyb
                have c1 : wr.cell? ⟨b2, off2 + ix, none⟩ = some (.int .u8 y) := by rw [hkp.cell hbw (fun h => h)]; exact hc0
                obtain ⟨j, hj⟩ : ∃ j : Nat, y.tmod n = j := ⟨(y.tmod n).toNat, by have := Int.tmod_nonneg (n : Int) hyb.1; omega⟩
                have hjn : j < n := by have := Int.tmod_lt_of_pos y (b := (n : Int)) (by omega); omega
                have hg : decide ((0 : Int) < (len2 : Int)) = true := by simp; omega
                clear hy hc0
                go_wp2_with fail
                go_meet
                case rel => exact ⟨j, hjn, rfl, rfl⟩
              · have hg : decide ((0 : Int) < (len2 : Int)) = false := by simp; omega
                go_wp2_with fail
                go_meet
                case rel => exact ⟨0, by omega, rfl, rfl⟩
            case rest =>
              obtain ⟨j, hjn, rfl, rfl⟩ := hcut
              have hp := Lib.hid (pick_calls j HS.out (by omega))
              have hne := Lib.hid (Hst.out.more hlt (p := j) (by rw [HS.out.ql]; exact hjn))
              go_wp2_with fail
              refine hp.out.mono ?_
              rintro e w2 (⟨h, _⟩ | ⟨kk, ix, q, t, _, hq, ht, rfl, S2, k2⟩)
              · exact absurd h hne.out
              obtain ⟨y, rfl, hy, hst2⟩ := Hst.out.pick hq ht
              have hb2 : w2.heap[ob]? = some (.cells (bools l) 4 (0, 0)) := by rw [k2.block ob (lt_of_block HB.out) (fun h => h rfl)]; exact HB.out
              have cy := cell_of_block hb2 (bools_at hy)
              have fy := frozen_of_block (o := y) hb2
              have hyk : y < k := by have := (List.getElem?_eq_some_iff.1 hy).1; have := Hst.out.ll; omega
              have B3 := Lib.hid ((block_set hb2 (o := y) (.bool true)).trans (by rw [bools_set]))
              have S3 := Lib.hid (S2.change ((Keeps.refl (fun x => x = ob) w2).set (o := y) (.inl rfl) (.bool true)) (fun x hx => ⟨.inl hx, by have := lt_of_block hb2; simp [World.setCell]; omega⟩))
              have St3 := Lib.hid hst2
              clear hq ht S2 k2 hst2 hy hb2
              go_wp2_with fail
              exact ⟨⟨x + 1, _, _, by omega, by go_num, S3.out, B3.out, St3.out⟩, by simp [intOf]; omega⟩
          · obtain rfl : x = k := by omega
            go_wp2_with fail
            refine (pick_nil _ _).mono ?_
            rintro e w2 ⟨rfl, rfl⟩
            go_wp2_with fail
            refine (where_nil _ _).mono ?_
            rintro e w2 ⟨rfl, rfl⟩
            go_wp2_with fail
            refine (awake13_calls _).mono ?_
            rintro e w2 ⟨rfl, k2⟩
            have S2 := Lib.hid (HS.out.keeps k2)
            clear k2
            go_wp2_with fail
            refine (rEmpty_calls S2.out (by omega)).mono ?_
            rintro e w3 ⟨rfl, k3⟩
            rw [Hst.out.end]
            have K3 := Lib.hid (S2.out.keeps k3).kp
            clear k3
            go_wp2_with fail
            refine (empty_nil _).mono ?_
            rintro e w4 ⟨rfl, rfl⟩
            go_wp2_with fail
            refine (add_nil _ _ _).mono ?_
            rintro e w4 ⟨rfl, rfl⟩
            go_wp2_with fail
            refine (Row_nil _ _).mono ?_
            rintro e w4 ⟨rfl, rfl⟩
            go_wp2_with fail
            go_ret
            exact ⟨rfl, K3.out.below (Nat.le_refl _) (fun _ h => h.elim)⟩

theorem allL_row (w : World) (s : Int) (hs : (Lit.int .u8 s).wf = true) (A : Option Addr) (b off len cap : Nat) (zs : List Int) (h : IntsAt .u8 w A b off len zs) (hl : len * 1 ≤ 140737488351232) (A2 : Option Addr) (b2 off2 len2 cap2 : Nat) (zs2 : List Int) (h2 : IntsAt .u8 w A2 b2 off2 len2 zs2) (hl2 : len2 * 1 ≤ 140737488351232) :
    Calls Try.prog 4 #[.int .u8 s, .slice A len cap, .slice A2 len2 cap2] w fun e w' => e = .returned (.bool true) ∧ Below w.heap.size w w' := by
  have hb := bounds_u8 hs
  exact all_law_calls s A b off len cap zs A2 b2 off2 len2 cap2 zs2 w (by omega) (by omega) h.addr h.cell (fun j hj => by have := bounds_u8 (h.wf j hj); omega) (by omega) h2.addr h2.cell (fun j hj => by have := bounds_u8 (h2.wf j hj); omega) (by omega)
end Ry
end Go.Proofs.Ytmpingalekdlnaa
