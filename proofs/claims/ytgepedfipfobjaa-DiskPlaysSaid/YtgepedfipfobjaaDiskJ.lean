/- DiskPlays, its acts: what is done of requests. -/
import Derived.Test.YtgepedfipfobjaaDiskF
import Derived.Test.YtgepedfipfobjaaDiskI
import Derived.IntWalk
namespace Go.Proofs.Ytgepedfipfobjaa
open Go.RowKit

/-- Behind k acts: the disk, and the law's own blocks (bb) and requests (v). -/
structure DPIn (w : World) (d n bb k : Nat) (F : Nat → Prop) (bs : List Int) (ws : List Req) (A : Option Addr) (cap : Nat) (wr : World) : Prop where
  disk : DiskAt F wr d bs ws
  own1 : Own wr 27 1 (.slice (some ⟨bb, 0, none⟩) n n) n (bs.map (.int .u64))
  own2 : Own wr 29 4 (.slice A ws.length cap) ws.length (ws.flatMap encR)
  len : bs.length = n
  apart : ∀ j, (Value.slice A ws.length cap).ownBlock = some j → j ≠ bb ∧ ¬ F j ∧ w.heap.size ≤ j
  bbF : ¬ F bb ∧ w.heap.size ≤ bb
  fresh : ∀ j, F j → w.heap.size ≤ j
  keep : Keeps NoBlock w wr
  many : ws.length ≤ k

def DPInv (w : World) (d n bb k : Nat) (v : Value) (wr : World) : Prop :=
  ∃ (F : Nat → Prop) (bs : List Int) (ws : List Req) (A : Option Addr) (cap : Nat), v = .slice A ws.length cap ∧ DPIn w d n bb k F bs ws A cap wr

theorem DPIn.keeps {w : World} {d n bb k : Nat} {F : Nat → Prop} {bs : List Int} {ws : List Req} {A : Option Addr} {cap : Nat} {wr w' : World} (h : DPIn w d n bb k F bs ws A cap wr) (kp : Keeps NoBlock wr w') : DPIn w d n bb k F bs ws A cap w' :=
  ⟨h.disk.keeps kp (fun _ _ h => h), h.own1.keeps kp (fun _ _ h => h), h.own2.keeps kp (fun _ _ h => h), h.len, h.apart, h.bbF, h.fresh, h.keep.trans kp (fun _ _ h => h), h.many⟩

theorem DPIn.next {w : World} {d n bb k : Nat} {F : Nat → Prop} {bs : List Int} {ws : List Req} {A : Option Addr} {cap : Nat} {wr : World} (h : DPIn w d n bb k F bs ws A cap wr) : DPIn w d n bb (k + 1) F bs ws A cap wr :=
  ⟨h.disk, h.own1, h.own2, h.len, h.apart, h.bbF, h.fresh, h.keep, by have := h.many; omega⟩

/-- The cells of an act. -/
theorem dact_cells {w : World} {b off : Nat} {l : List DAct} (h : ∀ (j : Nat) (x : DAct) (i : Nat) (u : Value), l[j]? = some x → (encDA x)[i]? = some u → w.cell? ⟨b, off + j * 6 + i, none⟩ = some u) {k : Nat} {x : DAct} (hx : l[k]? = some x) :
    w.cell? ⟨b, off + k * 6, none⟩ = some (.bool x.done) ∧ w.cell? ⟨b, off + k * 6 + 1, none⟩ = some (.int .i64 x.k) ∧ w.cell? ⟨b, off + k * 6 + 2, none⟩ = some (.int .i64 x.r.who) ∧ w.cell? ⟨b, off + k * 6 + 3, none⟩ = some (.int .i64 x.r.block) ∧
    w.cell? ⟨b, off + k * 6 + 4, none⟩ = some (.bool x.r.write) ∧ w.cell? ⟨b, off + k * 6 + 5, none⟩ = some (.int .u64 x.r.x) :=
  ⟨h k x 0 _ hx rfl, h k x 1 _ hx rfl, h k x 2 _ hx rfl, h k x 3 _ hx rfl, h k x 4 _ hx rfl, h k x 5 _ hx rfl⟩

theorem newLen_of (s : Int) : (newLen s : Int) = min (max s 0) 64 := by unfold newLen; omega

set_option maxHeartbeats 4000000 in
set_option maxRecDepth 100000 in
theorem plays_calls (s : Int) (v : Value) (l : List DAct) (w : World) (hv : Rd encDA 6 w v l) (hl : l.length ≤ 1000000000000000) :
    Calls Try.prog 3 #[.int .i64 s, v] w fun e w' => e = .returned (.bool true) ∧ Below w.heap.size w w' := by
  obtain ⟨A0, b0, off, cap0, rfl, hA, hc⟩ := hv
  have HA := Lib.hid hA
  have Hc := Lib.hid hc
  obtain ⟨len, hlen⟩ : ∃ len, Hid (l.length = len) := ⟨_, rfl⟩
  rw [hlen.out] at hl HA
  clear hc hA
  obtain ⟨n, hn⟩ : ∃ n, Hid (newLen s = n) := ⟨_, rfl⟩
  have hn64 : n ≤ 64 := by rw [← hn.out]; unfold newLen; omega
  have hni := newLen_of s
  rw [hn.out] at hni
  have Hni := Lib.hid hni
  clear hni
  rw [show Value.slice A0 l.length cap0 = Value.slice A0 len cap0 by rw [hlen.out]]
  go_enter Try.func3, Try.ntmps3
  go_wp2_with fail
  refine (new_calls _ w).mono ?_
  rintro e w1 ⟨d, F, rfl, D1, f1, k1⟩
  rw [hn.out] at D1
  obtain ⟨m, hm⟩ : ∃ m : Nat, max s 0 = m := ⟨(max s 0).toNat, by omega⟩
  go_upto_if 27 with fail
  go_cut [6] from 27 to 27 (fun v wx => v = .int .i64 m ∧ w1 = wx)
  case first =>
    by_cases h0 : s < 0
    · have hz : Hid (m = 0) := by show m = 0; omega
      clear hm
      go_wp2_with fail
      go_meet
      case rel => exact ⟨by rw [hz.out]; rfl, rfl⟩
    · have hz : Hid ((m : Int) = s) := by show (m : Int) = s; omega
      clear hm
      go_wp2_with fail
      go_meet
      case rel => exact ⟨by rw [hz.out], rfl⟩
  case rest =>
    obtain ⟨rfl, rfl⟩ := hcut
    have hmn : Hid ((n : Int) = min (m : Int) 64) := by rw [← hm]; exact Hni.out
    clear hm
    go_upto_if 29 with fail
    go_cut [6] from 29 to 29 (fun v wx => v = .int .i64 n ∧ w1 = wx)
    case first =>
      by_cases h1 : 64 < m
      · have hz : Hid (n = 64) := by have := hmn.out; show n = 64; omega
        go_wp2_with fail
        go_meet
        case rel => exact ⟨by rw [hz.out]; rfl, rfl⟩
      · have hz : Hid (n = m) := by have := hmn.out; show n = m; omega
        go_wp2_with fail
        go_meet
        case rel => exact ⟨by rw [hz.out], rfl⟩
    case rest =>
      obtain ⟨rfl, rfl⟩ := hcut
      have hmk := run_mk elWords n (by omega) (by decide)
      go_wp2_with fail
      have inv0 : DPInv w d n w1.heap.size 0 (.slice (some ⟨w1.heap.size + 1, 0, none⟩) 0 0) ((w1.alloc (.cells (madeCells #[.int .u64 0] n) 27)).alloc (.cells #[] 29)) := by
        have kk : Keeps NoBlock w1 ((w1.alloc (.cells (madeCells #[.int .u64 0] n) 27)).alloc (.cells #[] 29)) := ((Keeps.refl _ _).alloc _).alloc _
        have hFlt := D1.flt
        have hw1 := k1.size
        refine ⟨F, List.replicate n 0, [], some ⟨w1.heap.size + 1, 0, none⟩, 0, rfl, D1.keeps kk (fun _ _ h => h), ?_, ?_, by simp, fun j hj => ?_, ?_, f1, k1.trans kk (fun _ _ h => h), Nat.le_refl _⟩
        · have ho := own_made (w := w1) (e := 27) (.int .u64 0) n (by omega) rfl
          rw [List.map_replicate]
          exact World.ownsRow.alloc ho _
        · have ho := World.ownsRow_lit (base := 0) (e := 29) (size := 4) (w1.alloc (.cells (madeCells #[.int .u64 0] n) 27)) #[] 0 (Nat.zero_le _) (by simp [maxLen]) (by simp)
          rw [show (w1.alloc (.cells (madeCells #[.int .u64 0] n) 27)).heap.size = w1.heap.size + 1 by simp] at ho
          exact ho
        · simp [Value.ownBlock] at hj
          subst hj
          exact ⟨by omega, (fun h => by have := hFlt _ h; omega), by omega⟩
        · exact ⟨(fun h => by have := hFlt _ h; omega), hw1⟩
      clear hmk D1 f1 k1
      generalize hbb : w1.heap.size = bb at inv0 ⊢
      clear hbb
      go_loopw [8, 9] (fun v i wr => ∃ k : Nat, k ≤ 80 ∧ k ≤ len ∧ i = .int .i64 k ∧ DPInv w d n bb k v wr) (fun _ i _ => 80 - (intOf i).toNat)
      case atStart => exact ⟨0, by omega, by omega, rfl, inv0⟩
      case round =>
        obtain ⟨k, hk, hkl, rfl, F, bs, ws, A, cap, rfl, I⟩ := hrel
        clear inv0
        have HI := Lib.hid I
        have hkp := Lib.hid I.keep
        have hmany := I.many
        obtain ⟨m, hm⟩ : ∃ m, Hid (ws.length = m) := ⟨_, rfl⟩
        rw [hm.out] at hmany
        clear I
        by_cases hlt : k < len ∧ k < 80
        · obtain ⟨hlt, hlt8⟩ := hlt
          obtain ⟨a, ha⟩ : ∃ a, l[k]? = some a := ⟨_, List.getElem?_eq_getElem (by rw [hlen.out]; exact hlt)⟩
          obtain ⟨rfl, hb0⟩ := HA.out (by omega)
          have hcs := dact_cells Hc.out ha
          rw [← hkp.out.cell hb0 (fun h => h), ← hkp.out.cell hb0 (fun h => h), ← hkp.out.cell hb0 (fun h => h), ← hkp.out.cell hb0 (fun h => h), ← hkp.out.cell hb0 (fun h => h), ← hkp.out.cell hb0 (fun h => h)] at hcs
          obtain ⟨c0, c1, c2, c3, c4, c5⟩ := hcs
          clear ha
          obtain ⟨done, K, r⟩ := a
          simp only [] at c0 c1 c2 c3 c4 c5
          cases done with
          | true =>
            clear c2 c3 c4 c5
            by_cases hm0 : m = 0
            · subst hm0
              obtain rfl : ws = [] := List.eq_nil_of_length_eq_zero hm.out
              go_wp2_with fail
              refine (done_none (F := F) d bs K _ HI.out.disk).mono ?_
              rintro e w2 ⟨rfl, k2⟩
              have hq := equalReq ⟨0, 0, false, 0⟩ ⟨0, 0, false, 0⟩
              rw [decide_eq_true rfl] at hq
              have hgu := guardReq
              have I2 := Lib.hid (HI.out.keeps k2)
              have inv2 : ∀ o, DPInv w d n bb (k + 1) (.slice A 0 cap) (w2.alloc o) := fun o => ⟨F, bs, [], A, cap, rfl, (I2.out.keeps ((Keeps.refl _ _).alloc o)).next⟩
              have Inv2 := Lib.hid inv2
              clear inv2 k2
              go_wp2_with fail
              exact ⟨⟨k + 1, by omega, by omega, by go_num, Inv2.out _⟩, by simp [intOf]; omega⟩
            · obtain ⟨ix, hix⟩ : ∃ ix : Nat, K % (m : Int) = ix := ⟨(K % (m : Int)).toNat, by have := Int.emod_nonneg K (b := (m : Int)) (by omega); omega⟩
              have hil : ix < m := by have := Int.emod_lt_of_pos K (b := (m : Int)) (by omega); omega
              obtain ⟨q, hq⟩ : ∃ q, ws[ix]? = some q := ⟨_, List.getElem?_eq_getElem (by rw [hm.out]; exact hil)⟩
              obtain ⟨g, rfl, hg, hmc, hcm⟩ : ∃ g, A = some ⟨g, 0, none⟩ ∧ g < wr.heap.size ∧ m ≤ cap ∧ cap ≤ maxLen := by
                rcases HI.out.own2.form with ⟨_, h0⟩ | ⟨g, c, h1, h2, h3, h4⟩
                · have := hm.out; omega
                · cases h1; exact ⟨g, rfl, h2, by rw [← hm.out]; exact h3, h4⟩
              have Hix := Lib.hid hix
              have Hq := Lib.hid hq
              have hm1 : ((m : Int) == 0) = false := beq_eq_false_iff_ne.2 (by omega)
              rw [hm.out]
              clear hix hq
              go_wp2_with fail
              refine (done_calls (F := F) d bs ws K ix q _ HI.out.disk (by rw [hm.out]; exact Hix.out) Hq.out).mono ?_
              rintro e w2 ⟨rfl, D2, k2⟩
              have hD2 := Lib.hid D2
              have hk2 := Lib.hid k2
              have hbw : b0 < wr.heap.size := Nat.lt_of_lt_of_le hb0 hkp.out.size
              have hFb0 : ¬ F b0 := fun h => by have := HI.out.fresh b0 h; omega
              have c1' : w2.cell? ⟨b0, off + k * 6 + 1, none⟩ = some (.int .i64 K) := by rw [k2.cell hbw hFb0]; exact c1
              have hbw2 : b0 < w2.heap.size := Nat.lt_of_lt_of_le hbw k2.size
              clear D2 k2
              obtain ⟨qq, hqq⟩ : ∃ qq, K.tmod (m : Int) = qq := ⟨_, rfl⟩
              have hqb : -(m : Int) < qq ∧ qq < m ∧ (if qq < 0 then qq + m else qq) = ix := by
                have h1 := Int.tmod_lt_of_pos K (b := (m : Int)) (by omega)
                have h2 := Int.lt_tmod_of_pos K (b := (m : Int)) (by omega)
                have h3 : qq % (m : Int) = ix := by
                  rw [← hqq, ← Hix.out, Int.tmod_eq_emod]
                  split
                  · simp
                  · rw [Int.sub_emod]; simp
                rw [hqq] at h1 h2
                refine ⟨by omega, h1, ?_⟩
                split
                · rw [← h3, ← Int.add_emod_right, Int.emod_eq_of_lt (by omega) (by omega)]
                · rw [← h3, Int.emod_eq_of_lt (by omega) h1]
              have Hqb := Lib.hid hqb.2.2
              have hqb1 := hqb.1
              have hqb2 := hqb.2.1
              clear hqb
              go_upto_if 81 with fail
              go_cut [13] from 81 to 85 (fun v wx => v = .int .i64 ix ∧ w2.alloc (.cells #[.int .i64 q.who, .int .i64 q.block, .bool q.write, .int .u64 q.x] 29) = wx)
              case first =>
                by_cases h0 : qq < 0
                · have hz : Hid (qq + m = ix) := by have := Hqb.out; rw [if_pos h0] at this; exact this
                  go_wp2_with fail
                  go_meet
                  case rel => exact ⟨by rw [hz.out], rfl⟩
                · have hz : Hid (qq = ix) := by have := Hqb.out; rw [if_neg h0] at this; exact this
                  have h0' : 0 ≤ qq := by omega
                  clear h0
                  go_wp2_with fail
                  go_meet
                  case rel => exact ⟨by rw [hz.out], rfl⟩
              case rest =>
                obtain ⟨rfl, rfl⟩ := hcut
                obtain ⟨W3, hW3⟩ : ∃ W3, Hid (w2.alloc (.cells #[.int .i64 q.who, .int .i64 q.block, .bool q.write, .int .u64 q.x] 29) = W3) := ⟨_, rfl⟩
                rw [hW3.out]
                have k23 : Keeps NoBlock w2 W3 := by rw [← hW3.out]; exact (Keeps.refl _ _).alloc _
                have D3 := hD2.out.keeps k23 (fun _ _ h => h)
                have b3 : W3.heap[w2.heap.size]? = some (.cells #[.int .i64 q.who, .int .i64 q.block, .bool q.write, .int .u64 q.x] 29 (0, 0)) := by rw [← hW3.out]; exact block_alloc_new _ _
                have hap := HI.out.apart g rfl
                have o1 := (HI.out.own1.keeps hk2.out (fun b hb => by simp [Value.ownBlock] at hb; subst hb; exact HI.out.bbF.1)).keeps k23 (fun _ _ h => h)
                have o2 := (HI.out.own2.keeps hk2.out (fun b hb => by simp [Value.ownBlock] at hb; subst hb; exact hap.2.1)).keeps k23 (fun _ _ h => h)
                have k3 : Keeps NoBlock w W3 := (hkp.out.trans hk2.out (fun j hj h => by have := HI.out.fresh j h; omega)).trans k23 (fun _ _ h => h)
                rw [hm.out] at o2
                have ql := ownR_cells hm.out o2 Hq.out
                have hg3 := o2.lt g rfl
                have hbb3 := o1.lt bb rfl
                have hqb3 := lt_of_block b3
                have e0 := cell_of_block b3 (o := 0) rfl
                have e1 := cell_of_block b3 (o := 1) rfl
                have e2 := cell_of_block b3 (o := 2) rfl
                have e3 := cell_of_block b3 (o := 3) rfl
                have HD3 := Lib.hid D3
                have Ho1 := Lib.hid o1
                have Ho2 := Lib.hid o2
                have Hk3 := Lib.hid k3
                clear D3 o1 o2 k3 k23 b3
                go_wp2_with fail
                obtain ⟨W4, hW4⟩ : ∃ W4, Hid (W3.alloc (.cells #[.int .i64 q.who, .int .i64 q.block, .bool q.write, .int .u64 q.x] 29) = W4) := ⟨_, rfl⟩
                rw [hW4.out]
                have k34 : Keeps NoBlock W3 W4 := by rw [← hW4.out]; exact (Keeps.refl _ _).alloc _
                have b4 : W4.heap[W3.heap.size]? = some (.cells #[.int .i64 q.who, .int .i64 q.block, .bool q.write, .int .u64 q.x] 29 (0, 0)) := by rw [← hW4.out]; exact block_alloc_new _ _
                have b4' : W4.heap[w2.heap.size]? = some (.cells #[.int .i64 q.who, .int .i64 q.block, .bool q.write, .int .u64 q.x] 29 (0, 0)) := by
                  rw [← hW4.out, ← hW3.out]; exact block_alloc_old (block_alloc_new _ _)
                have o2 := Ho2.out.keeps k34 (fun _ _ h => h)
                have o2s : Hid (((W4.alloc (.cells #[] 29)).drew).ownsRow 0 29 4 (.slice (some ⟨g, 0, none⟩) m cap) m (ws.flatMap encR)) := World.ownsRow.drew (World.ownsRow.alloc o2 _)
                have ne0 : Hid (((W4.alloc (.cells #[] 29)).drew).ownsRow 0 29 4 (.slice (some ⟨W4.heap.size, 0, none⟩) 0 0) 0 []) :=
                  World.ownsRow.drew (World.ownsRow_lit (base := 0) (e := 29) (size := 4) W4 #[] 0 (Nat.zero_le _) (by simp [maxLen]) (by simp))
                obtain ⟨T, hT⟩ : ∃ T, Hid (T = (ws.flatMap encR).take (ix * 4)) := ⟨_, rfl⟩
                obtain ⟨U, hU⟩ : ∃ U, Hid (U = (ws.flatMap encR).drop ((ix + 1) * 4)) := ⟨_, rfl⟩
                have hfl : (ws.flatMap encR).length = m * 4 := by rw [flat_len encR 4 encR_len, hm.out]
                have tl : Hid (T.length = ix * 4) := by show T.length = _; rw [hT.out, List.length_take, hfl]; omega
                have ul : Hid (U.length = (m - (ix + 1)) * 4) := by show U.length = _; rw [hU.out, List.length_drop, hfl]; omega
                have t1 : Hid (∀ u ∈ T, u.oneCell' = true) := fun u hu => encR_one ws u (by rw [hT.out] at hu; exact List.mem_of_mem_take hu)
                have u1 : Hid (∀ u ∈ U, u.oneCell' = true) := fun u hu => encR_one ws u (by rw [hU.out] at hu; exact List.mem_of_mem_drop hu)
                have tc : Hid (∀ j u, T[j]? = some u → ((W4.alloc (.cells #[] 29)).drew).cell? ((⟨g, 0, none⟩ : Addr).add j) = some u) := by
                  intro j u hj
                  rw [Addr.add_lit, Nat.zero_add]
                  have hjl : j < m * 4 := by have := (List.getElem?_eq_some_iff.1 hj).1; rw [tl.out] at this; omega
                  rw [World.ownsRow.cellAt o2s.out j hjl]
                  rw [hT.out, List.getElem?_take] at hj
                  split at hj
                  · exact hj
                  · cases hj
                obtain ⟨Ad, hAd, uc⟩ : ∃ Ad : Addr, (if cap = ix + 1 then some (⟨g, 0, none⟩ : Addr) else some ⟨g, (ix + 1) * 4, none⟩) = some Ad ∧
                    Hid (∀ w5, World.grownBy (W4.alloc (.cells #[] 29)).drew w5 (Value.slice (some ⟨W4.heap.size, 0, none⟩) 0 0).ownBlock → ∀ j u, U[j]? = some u → w5.cell? (Ad.add j) = some u) := by
                  have hg4 := o2.lt g rfl
                  by_cases hh : cap = ix + 1
                  · refine ⟨⟨g, 0, none⟩, by simp [hh], fun w5 hg5 j u hj => ?_⟩
                    have h0 : U.length = 0 := by rw [ul.out]; omega
                    rw [List.length_eq_zero_iff.1 h0] at hj
                    simp at hj
                  · refine ⟨⟨g, (ix + 1) * 4, none⟩, by simp [hh], fun w5 hg5 j u hj => ?_⟩
                    have hjl : (ix + 1) * 4 + j < m * 4 := by have := (List.getElem?_eq_some_iff.1 hj).1; rw [ul.out] at this; omega
                    rw [Addr.add_lit]
                    refine World.grownBy.cell hg5 ?_ (by simp [Value.ownBlock]; omega)
                    rw [World.ownsRow.cellAt o2s.out _ hjl]
                    rw [hU.out, List.getElem?_drop] at hj
                    exact hj
                have hbi0 : (0 : Int) ≤ (ix : Int) := by omega
                have hbi1 : (ix : Int) < (m : Int) := by omega
                have hbi2 : (ix : Int) ≤ (cap : Int) := by omega
                have hbi3 : (ix : Int) + 1 ≤ (m : Int) := by omega
                have hbi4 : (0 : Int) ≤ (ix : Int) + 1 := by omega
                have hicap : ix ≤ cap := by omega
                have hi1cap : ix + 1 ≤ cap := by omega
                have hwp : IntKind.i64.wrap ((ix : Int) + 1) = (ix : Int) + 1 := IntWalk.i64_in _ (by simp only [maxLen] at hcm; omega)
                have htn : ((ix : Int) + 1).toNat = ix + 1 := by omega
                have hmul : (cap - (ix + 1)) * 4 = cap * 4 - (ix + 1) * 4 := by omega
                have hg4 := o2.lt g rfl
                have Hk34 := Lib.hid k34
                have Hb4 := Lib.hid b4
                have Hb4' := Lib.hid b4'
                clear o2 k34 b4 b4' hfl ql e0 e1 e2 e3
                go_region_held3 (fun w' => True) (trivial)
                  (first
                  | (refine step_app (P := Try.prog) reqE ?_ (.tmp 90) (.tmp 93) ?_ (.slice (some ⟨W4.heap.size, 0, none⟩) 0 0) 0 [] ?_ ?_ ⟨g, 0, none⟩ ix cap T ?_ ?_ tc.out t1.out ?_ ?_ ?_
                     · rfl
                     · rfl
                     · rfl
                     · exact ne0.out
                     · rfl
                     · exact tl.out
                     · simp only [maxLen]; omega
                     · omega
                     intro v5 w5 ho5 hg5 hf5 hs5
                     obtain ⟨A5, cap5, rfl⟩ := Own.isSlice ho5
                     clear hs5)
                  | (refine step_app (P := Try.prog) reqE ?_ (.tmp 94) (.tmp 98) ?_ (.slice A5 (0 + ix) cap5) (0 + ix) ([] ++ T) ?_ ?_ Ad (m - (ix + 1)) (cap - (ix + 1)) U ?_ ?_ (uc.out w5 hg5) u1.out ?_ ?_ ?_
                     · rfl
                     · rfl
                     · simp [Act.eval]
                     · exact ho5
                     · simp [Act.eval]
                     · exact ul.out
                     · simp only [maxLen]; omega
                     · omega
                     intro v6 w6 ho6 hg6 hf6 hs6
                     obtain ⟨A6, cap6, rfl⟩ := Own.isSlice ho6
                     clear hs6)
                  | fail)
                have hsz5 := hg5.size
                have hsz6 := hg6.size
                simp only [World.size_alloc, World.size_drew] at hsz5
                have fr5 : ∀ j, (Value.slice A5 (0 + ix) cap5).ownBlock = some j → W4.heap.size ≤ j := fun j hj => by
                  rcases hf5 j hj with h | h
                  · simp only [Value.ownBlock, Option.some.injEq] at h; omega
                  · simp only [World.size_alloc, World.size_drew] at h; omega
                have fr6 : ∀ j, (Value.slice A6 (m - 1) cap6).ownBlock = some j → W4.heap.size ≤ j := fun j hj => by
                  have hj' : (Value.slice A6 (0 + ix + (m - (ix + 1))) cap6).ownBlock = some j := by cases A6 <;> exact hj
                  rcases hf6 j hj' with h | h
                  · exact fr5 j h
                  · omega
                have k45 : Keeps NoBlock W4 w5 := (((Keeps.refl NoBlock W4).alloc _).drew).grown hg5 (fun j hj => .inr (by simp only [Value.ownBlock, Option.some.injEq] at hj; omega))
                have k46 : Keeps NoBlock W4 w6 := k45.grown hg6 (fun j hj => .inr (fr5 j hj))
                have k36 := Hk34.out.trans k46 (fun _ _ h => h)
                have o6 : Own w6 29 4 (.slice A6 (m - 1) cap6) (m - 1) ((ws.eraseIdx ix).flatMap encR) := by
                  rw [← flat_erase encR 4 encR_len, ← hT.out, ← hU.out]
                  rw [show 0 + ix + (m - (ix + 1)) = m - 1 by omega, List.nil_append] at ho6
                  exact ho6
                have D6 := HD3.out.keeps k36 (fun _ _ h => h)
                have p6 := Ho1.out.keeps k36 (fun _ _ h => h)
                have k06 := Hk3.out.trans k36 (fun _ _ h => h)
                have b6 : w6.heap[W3.heap.size]? = some (.cells #[.int .i64 q.who, .int .i64 q.block, .bool q.write, .int .u64 q.x] 29 (0, 0)) := by
                  rw [k46.block _ (lt_of_block Hb4.out) (fun h => h)]; exact Hb4.out
                have b6' : w6.heap[w2.heap.size]? = some (.cells #[.int .i64 q.who, .int .i64 q.block, .bool q.write, .int .u64 q.x] 29 (0, 0)) := by
                  rw [k46.block _ (lt_of_block Hb4'.out) (fun h => h)]; exact Hb4'.out
                have hel : (ws.eraseIdx ix).length = m - 1 := by rw [List.length_eraseIdx, if_pos (by rw [hm.out]; exact hil), hm.out]
                have hsz46 := k46.size
                have hsz34 := Hk34.out.size
                have hsz03 := Hk3.out.size
                have hF3 := Lib.hid HD3.out.flt
                have inv6 : ∀ (bs' : List Int) (W' : World), bs'.length = n → Own W' 27 1 (.slice (some ⟨bb, 0, none⟩) n n) n (bs'.map (.int .u64)) → Keeps (fun j => j = bb) w6 W' → done1 bs q = bs' → DPInv w d n bb (k + 1) (.slice A6 (m - 1) cap6) W' := by
                  intro bs' W' hl ho kp hd
                  refine ⟨F, bs', ws.eraseIdx ix, A6, cap6, by rw [hel], by rw [← hd]; exact D6.keeps kp (fun j hj e => by subst e; exact HI.out.bbF.1 hj), ho, ?_, hl, ?_, HI.out.bbF, HI.out.fresh, k06.trans kp (fun j hj e => by have := HI.out.bbF.2; omega), by rw [hel]; omega⟩
                  · rw [hel]
                    exact o6.keeps kp (fun b hb e => by have := fr6 b hb; omega)
                  · intro j hj
                    rw [hel] at hj
                    have h4 := fr6 j hj
                    exact ⟨by omega, fun h => by have := hF3.out j h; omega, by omega⟩
                have Inv6 := Lib.hid inv6
                have hqr : 0 ≤ q.block ∧ q.block < n := by
                  obtain ⟨_, _, _, hd⟩ := HI.out.disk
                  have := hd.ok q (List.mem_of_getElem? Hq.out)
                  rw [HI.out.len] at this
                  exact this
                obtain ⟨bl, hbl⟩ : ∃ bl : Nat, q.block = bl := ⟨q.block.toNat, by omega⟩
                have hbln : bl < n := by omega
                obtain ⟨y, hy⟩ : ∃ y, bs[bl]? = some y := ⟨_, List.getElem?_eq_getElem (by rw [HI.out.len]; exact hbln)⟩
                have hdl : (done1 bs q).length = n := by unfold done1; split <;> simp [HI.out.len]
                have Hdl := Lib.hid hdl
                have Hy := Lib.hid hy
                have hbb6 := p6.lt bb rfl
                have z0 := cell_of_block b6 (o := 0) rfl
                have z1 := cell_of_block b6 (o := 1) rfl
                have z2 := cell_of_block b6 (o := 2) rfl
                have z3 := cell_of_block b6 (o := 3) rfl
                have y0 := cell_of_block b6' (o := 0) rfl
                have y1 := cell_of_block b6' (o := 1) rfl
                have y2 := cell_of_block b6' (o := 2) rfl
                have y3 := cell_of_block b6' (o := 3) rfl
                have pb : w6.cell? ⟨bb, bl, none⟩ = some (.int .u64 y) := by
                  rw [World.ownsRow.cellAt p6 bl (by omega), List.getElem?_map, Hy.out]; rfl
                have pf : w6.frozen? ⟨bb, bl, none⟩ = false := World.ownsRow.frozenAt p6 bl
                have hbb2 : bb < w2.heap.size := Nat.lt_of_lt_of_le (HI.out.own1.lt bb rfl) hk2.out.size
                have hnb1 : bb ≠ w2.heap.size := by omega
                have hnb2 : bb ≠ W3.heap.size := by omega
                have Hp6 := Lib.hid p6
                have hgu := guardReq
                have heq := equalReq q q
                rw [decide_eq_true rfl] at heq
                rw [show ix + (m - (ix + 1)) = m - 1 by omega]
                clear p6 D6 k06 o6 k36 k46 k45 hf5 hf6 ho5 ho6 hg5 hg6 b6 b6' inv6 hdl hy fr5 fr6
                by_cases hw : q.write = true
                · have hgot : Hid (got1 bs q = 0) := by show got1 bs q = 0; unfold got1; rw [if_pos hw]
                  have hdn : Hid (done1 bs q = bs.set bl q.x) := by show done1 bs q = _; unfold done1; rw [if_pos hw, hbl]; rfl
                  rw [hgot.out]
                  rw [hw] at z2 y2 heq ⊢
                  have hos : Own (w6.setCell ⟨bb, bl, none⟩ (.int .u64 q.x)) 27 1 (.slice (some ⟨bb, 0, none⟩) n n) n ((bs.set bl q.x).map (.int .u64)) := by
                    rw [List.map_set]
                    exact (World.ownsRow.stored Hp6.out bl (.int .u64 q.x)).1
                  have Hos := Lib.hid hos
                  clear hos
                  go_wp2_with fail
                  exact ⟨⟨k + 1, by omega, by omega, by go_num, Inv6.out _ _ (by simp [HI.out.len]) Hos.out ((Keeps.refl (fun j => j = bb) w6).set (.inl rfl) _) hdn.out⟩, by simp [intOf]; omega⟩
                · have hw' : q.write = false := by simpa using hw
                  have hgot : Hid (got1 bs q = y) := by
                    show got1 bs q = y
                    unfold got1
                    rw [if_neg (by simp [hw']), hbl, Int.toNat_natCast, List.getD_eq_getElem?_getD, Hy.out]; rfl
                  have hdn : Hid (done1 bs q = bs) := by show done1 bs q = _; unfold done1; rw [if_neg (by simp [hw'])]
                  have hyy : (y != y) = false := by simp
                  rw [hgot.out]
                  rw [hw'] at z2 y2 heq ⊢
                  clear hw
                  go_wp2_with fail
                  exact ⟨⟨k + 1, by omega, by omega, by go_num, Inv6.out _ _ HI.out.len Hp6.out (Keeps.refl (fun j => j = bb) w6) hdn.out⟩, by simp [intOf]; omega⟩
          | false =>
            go_wp2_with fail
            obtain ⟨W1, hW1⟩ : ∃ W1, Hid (wr.alloc (.cells #[.int .i64 r.who, .int .i64 r.block, .bool r.write, .int .u64 r.x] 29) = W1) := ⟨_, rfl⟩
            rw [hW1.out, hm.out]
            have k1w : Keeps NoBlock wr W1 := by rw [← hW1.out]; exact (Keeps.refl _ _).alloc _
            have b1 : W1.heap[wr.heap.size]? = some (.cells #[.int .i64 r.who, .int .i64 r.block, .bool r.write, .int .u64 r.x] 29 (0, 0)) := by rw [← hW1.out]; exact block_alloc_new _ _
            have I1 := Lib.hid (HI.out.keeps k1w)
            have B1 := Lib.hid b1
            have K1 := Lib.hid k1w
            clear k1w b1 c0 c1 c2 c3 c4 c5
            obtain ⟨wo, rfl⟩ : ∃ wo : World, wo = wr := ⟨_, rfl⟩
            go_loopw [17, 18] (fun v i wx => ∃ q : Nat, q ≤ m ∧ i = .int .i64 q ∧ v = .int .i64 (if (ws.take q).any (fun x => x.who == r.who) then 4 else 0) ∧ Keeps NoBlock W1 wx) (fun _ i _ => m - (intOf i).toNat)
            case atStart => exact ⟨0, Nat.zero_le _, rfl, by simp, Keeps.refl _ _⟩
            case round =>
              obtain ⟨q, hq, rfl, hv17, kx⟩ := hrel
              have hb1x : wo.heap.size < wr.heap.size := Nat.lt_of_lt_of_le (lt_of_block B1.out) kx.size
              have Ix := Lib.hid (I1.out.keeps kx)
              have bx : wr.heap[wo.heap.size]? = some (.cells #[.int .i64 r.who, .int .i64 r.block, .bool r.write, .int .u64 r.x] 29 (0, 0)) := by
                rw [kx.block _ (lt_of_block B1.out) (fun h => h)]; exact B1.out
              have Bx := Lib.hid bx
              have x0 := cell_of_block bx (o := 0) rfl
              have x1 := cell_of_block bx (o := 1) rfl
              have x2 := cell_of_block bx (o := 2) rfl
              have x3 := cell_of_block bx (o := 3) rfl
              clear bx
              by_cases hqm : q < m
              · obtain ⟨x, hx⟩ : ∃ x, ws[q]? = some x := ⟨_, List.getElem?_eq_getElem (by rw [hm.out]; exact hqm)⟩
                obtain ⟨g, rfl⟩ : ∃ g, A = some ⟨g, 0, none⟩ := by
                  rcases Ix.out.own2.form with ⟨_, h0⟩ | ⟨g, c, h1, h2, h3, h4⟩
                  · have := hm.out; omega
                  · cases h1; exact ⟨g, rfl⟩
                have ho := Ix.out.own2
                rw [hm.out] at ho
                have cx := (ownR_cells hm.out ho hx).1
                have htk : (ws.take (q + 1)).any (fun x => x.who == r.who) = ((ws.take q).any (fun x => x.who == r.who) || (x.who == r.who)) := by
                  rw [List.take_add_one, hx]; simp
                have Htk := Lib.hid htk
                have kxd := fun n => Lib.hid (kx.drewN n)
                clear hx ho htk
                by_cases hwx : x.who = r.who
                · have hwb : (x.who == r.who) = true := by simp [hwx]
                  have Hwb := Lib.hid hwb
                  rw [hwx] at cx
                  clear hwx hwb
                  go_wp2_with fail
                  go_quiet (fail)
                  go_wp2_with fail
                  exact ⟨⟨q + 1, by omega, by go_num, by rw [Htk.out, Hwb.out]; simp, (kxd _).out⟩, by simp [intOf]; omega⟩
                · have hwb : (x.who == r.who) = false := by simp [hwx]
                  have Hwb := Lib.hid hwb
                  obtain ⟨c17, hc17⟩ : ∃ c17, Hid (c17 = (if ((ws.take q).any fun x => x.who == r.who) = true then (4 : Int) else 0)) := ⟨_, rfl⟩
                  rw [← hc17.out] at hv17
                  subst hv17
                  clear hwx
                  go_wp2_with fail
                  go_quiet (fail)
                  go_wp2_with fail
                  exact ⟨⟨q + 1, by omega, by go_num, by rw [Htk.out, Hwb.out, Bool.or_false, hc17.out], (kxd _).out⟩, by simp [intOf]; omega⟩
              · obtain rfl : q = m := by omega
                rw [show ws.take q = ws by rw [← hm.out]; exact List.take_length] at hv17
                have hap := Ix.out.apart
                have hln := Ix.out.len
                have hx5 : Hid (Keeps NoBlock w wr) := Ix.out.keep
                by_cases hout : r.block < 0 ∨ (n : Int) ≤ r.block
                · have hask := Lib.hid (ask_out (F := F) d bs ws r wr Ix.out.disk (by rw [hln]; exact hout))
                  have inv2 : ∀ w3, Keeps NoBlock wr w3 → DPInv w d n bb (k + 1) (.slice A q cap) w3 := fun w3 k3 => ⟨F, bs, ws, A, cap, by rw [hm.out], (Ix.out.keeps k3).next⟩
                  have Inv2 := Lib.hid inv2
                  obtain ⟨c17, hc17⟩ : ∃ c17, Hid (c17 = (if (ws.any fun x => x.who == r.who) = true then (4 : Int) else 0)) := ⟨_, rfl⟩
                  rw [← hc17.out] at hv17
                  subst hv17
                  clear inv2 hap hln
                  rcases hout with hout | hout
                  · have h1 : decide (r.block < 0) = true := by simpa using hout
                    go_wp2_with fail
                    refine hask.out.mono ?_
                    rintro e w3 ⟨rfl, k3⟩
                    go_wp2_with fail
                    exact ⟨⟨k + 1, by omega, by omega, by go_num, Inv2.out _ k3⟩, by simp [intOf]; omega⟩
                  · have h1 : decide (r.block < 0) = false := by simp; omega
                    have h2 : decide ((n : Int) ≤ r.block) = true := by simpa using hout
                    have h3 : 0 ≤ r.block := by omega
                    go_wp2_with fail
                    refine hask.out.mono ?_
                    rintro e w3 ⟨rfl, k3⟩
                    go_wp2_with fail
                    exact ⟨⟨k + 1, by omega, by omega, by go_num, Inv2.out _ k3⟩, by simp [intOf]; omega⟩
                · have h0 : 0 ≤ r.block := by omega
                  have h4 : r.block < n := by omega
                  have h1 : decide (r.block < 0) = false := by simp; omega
                  have h2 : decide ((n : Int) ≤ r.block) = false := by simp; omega
                  clear hout
                  cases hany : ws.any fun x => x.who == r.who with
                  | true =>
                    have hask := Lib.hid (ask_busy (F := F) d bs ws r wr Ix.out.disk h0 (by rw [hln]; exact h4) hany)
                    rw [hany] at hv17
                    simp only [if_true] at hv17
                    subst hv17
                    have inv2 : ∀ w3, Keeps NoBlock wr w3 → DPInv w d n bb (k + 1) (.slice A q cap) w3 := fun w3 k3 => ⟨F, bs, ws, A, cap, by rw [hm.out], (Ix.out.keeps k3).next⟩
                    have Inv2 := Lib.hid inv2
                    clear inv2 hap hln hany
                    go_wp2_with fail
                    refine hask.out.mono ?_
                    rintro e w3 ⟨rfl, k3⟩
                    go_wp2_with fail
                    exact ⟨⟨k + 1, by omega, by omega, by go_num, Inv2.out _ k3⟩, by simp [intOf]; omega⟩
                  | false =>
                    have hask := Lib.hid (ask_ok (F := F) d bs ws r wr Ix.out.disk h0 (by rw [hln]; exact h4) hany (by rw [hm.out]; omega))
                    rw [hany] at hv17
                    simp only [Bool.false_eq_true, if_false] at hv17
                    subst hv17
                    clear hln hany
                    go_wp2_with fail
                    refine hask.out.mono ?_
                    rintro e w3 ⟨F3, rfl, D3, k3, g3⟩
                    have D3' := Lib.hid D3
                    have K3 := Lib.hid k3
                    have G3 := Lib.hid g3
                    have hFw : ¬ F wo.heap.size := fun h => by have := HI.out.disk.flt _ h; omega
                    have b3 : w3.heap[wo.heap.size]? = some (.cells #[.int .i64 r.who, .int .i64 r.block, .bool r.write, .int .u64 r.x] 29 (0, 0)) := by
                      rw [k3.block _ hb1x hFw]; exact Bx.out
                    have o3 := Ix.out.own2.keeps k3 (fun b hb => (hap b hb).2.1)
                    rw [hm.out] at o3
                    have O3 := Lib.hid o3
                    have z0 := cell_of_block b3 (o := 0) rfl
                    have z1 := cell_of_block b3 (o := 1) rfl
                    have z2 := cell_of_block b3 (o := 2) rfl
                    have z3 := cell_of_block b3 (o := 3) rfl
                    clear b3 D3 k3 g3 o3
                    go_wp2_with (at_builtin; refine wpList_appN reqE _ rfl _ _ rfl (.slice A q cap) q (ws.flatMap encR) rfl (World.ownsRow.alloc O3.out _) ⟨w3.heap.size, 0, none⟩ 1 1 (encR r) rfl rfl (newsB (e := 29) (block_alloc_new w3 _)) ?_ ?_ ?_ ?_)
                    · intro u hu
                      exact encR_one [r] u (by simpa using hu)
                    · simp only [maxLen]; omega
                    · omega
                    · rintro v4 w4 ho4 hg4 hf4 g4 c4 rfl
                      have hz := hg4.size
                      have f4 := hf4 g4 rfl
                      simp only [World.size_alloc] at hz f4
                      have hz3 := K3.out.size
                      have hwz := hx5.out.size
                      have ka : Keeps (fun j => (Value.slice A q cap).ownBlock = some j) w3 w4 := ((Keeps.refl _ w3).alloc _).grown hg4 (fun j hj => .inl hj)
                      have hql : Value.slice A q cap = Value.slice A ws.length cap := by rw [hm.out]
                      have hap' : ∀ j, (Value.slice A q cap).ownBlock = some j → j ≠ bb ∧ ¬ F j ∧ w.heap.size ≤ j ∧ j < wr.heap.size := fun j hj => by
                        rw [hql] at hj
                        exact ⟨(hap j hj).1, (hap j hj).2.1, (hap j hj).2.2, Ix.out.own2.lt j hj⟩
                      have hnF : ∀ j, (Value.slice A q cap).ownBlock = some j → ¬ F3 j := fun j hj => G3.out.apart (hap' j hj).2.2.2 (hap' j hj).2.1
                      have hnF4 : g4 ≠ bb ∧ ¬ F3 g4 ∧ w.heap.size ≤ g4 := by
                        have hbl := Nat.lt_of_lt_of_le (Ix.out.own1.lt bb rfl) hz3
                        rcases f4 with h | h
                        · exact ⟨(hap' _ h).1, hnF _ h, (hap' _ h).2.2.1⟩
                        · exact ⟨by omega, (fun hh => by have := D3'.out.flt _ hh; omega), by omega⟩
                      have inv2 : DPInv w d n bb (k + 1) (.slice (some ⟨g4, 0, none⟩) (q + 1) c4) w4 := by
                        have hlen1 : (ws ++ [r]).length = q + 1 := by simp [hm.out]
                        refine ⟨F3, bs, ws ++ [r], _, c4, by rw [hlen1], D3'.out.keeps ka (fun j hj e => hnF j e hj), ?_, ?_, Ix.out.len, ?_, ⟨?_, Ix.out.bbF.2⟩, ?_, ?_, by rw [hlen1]; omega⟩
                        · refine (Ix.out.own1.keeps K3.out (fun b hb => by simp [Value.ownBlock] at hb; subst hb; exact Ix.out.bbF.1)).keeps ka (fun b hb e => ?_)
                          simp [Value.ownBlock] at hb; subst hb; exact (hap' _ e).1 rfl
                        · rw [hlen1, List.flatMap_append, List.flatMap_singleton]; exact ho4
                        · intro j hj
                          simp [Value.ownBlock] at hj; subst hj; exact hnF4
                        · exact G3.out.apart (Ix.out.own1.lt bb rfl) Ix.out.bbF.1
                        · intro j hj
                          rcases G3.out j hj with h | h
                          · exact Ix.out.fresh j h
                          · omega
                        · exact (hx5.out.trans K3.out (fun j hj h => by have := Ix.out.fresh j h; omega)).trans ka (fun j hj h => by have := (hap' j h).2.2.1; omega)
                      clear ho4 hg4 hf4 ka
                      go_wp2_with fail
                      exact ⟨⟨k + 1, by omega, by omega, by go_num, inv2⟩, by simp [intOf]; omega⟩
        · have hend : (k : Int) < len → (80 : Int) ≤ k := by omega
          have Hend := Lib.hid hend
          clear hend hlt
          go_upto_region 10 with fail
          go_cut [40] from 33 to 39 (fun v wx => v = .bool false ∧ wr = wx)
          case first =>
            by_cases h1 : k < len
            · have h2 : 80 ≤ (k : Int) := Hend.out (by omega)
              go_wp2_with fail
              go_meet
              case rel => exact ⟨by rw [decide_eq_false (by omega)], rfl⟩
            · have h2 : (len : Int) ≤ k := by omega
              clear h1
              go_wp2_with fail
              go_meet
              case rel => exact ⟨rfl, rfl⟩
          case rest =>
            obtain ⟨rfl, rfl⟩ := hcut
            go_wp2_with fail
            obtain ⟨wo, rfl⟩ : ∃ wo : World, wo = wr := ⟨_, rfl⟩
            go_loopw [19] (fun i wx => ∃ q : Nat, q ≤ n + 2 ∧ i = .int .i64 ((q : Int) - 1) ∧ Keeps NoBlock wo wx) (fun i _ => (n + 2 - (intOf i + 1)).toNat)
            case atStart => exact ⟨0, Nat.zero_le _, rfl, Keeps.refl _ _⟩
            case round =>
              obtain ⟨q, hq, rfl, kx⟩ := hrel
              have Ix := Lib.hid (HI.out.keeps kx)
              by_cases hq2 : q < n + 2
              · by_cases hin : 1 ≤ q ∧ q ≤ n
                · obtain ⟨j, rfl⟩ : ∃ j, q = j + 1 := ⟨q - 1, by omega⟩
                  have hjn : j < n := by omega
                  obtain ⟨x, hx⟩ : ∃ x, bs[j]? = some x := ⟨_, List.getElem?_eq_getElem (by rw [Ix.out.len]; exact hjn)⟩
                  have Hx := Lib.hid hx
                  rw [show ((j + 1 : Nat) : Int) - 1 = (j : Int) by omega]
                  clear hx hin hq2 hq
                  go_wp2_with fail
                  refine (block_in (F := F) d bs ws j x _ Ix.out.disk Hx.out).mono ?_
                  rintro e w2 ⟨rfl, k2⟩
                  have cx : w2.cell? ⟨bb, j, none⟩ = some (.int .u64 x) := by
                    rw [k2.cell (Ix.out.own1.lt bb rfl) (fun h => h), World.ownsRow.cellAt Ix.out.own1 j (by omega), List.getElem?_map, Hx.out]; rfl
                  have k02 := kx.trans k2 (fun _ _ h => h)
                  have hxx : (x != x) = false := by simp
                  go_wp2_with fail
                  exact ⟨⟨j + 2, by omega, by rw [show ((j + 2 : Nat) : Int) - 1 = (j : Int) + 1 by omega], k02⟩, by simp [intOf]; omega⟩
                · rcases (show q = 0 ∨ q = n + 1 by omega) with rfl | rfl
                  · rw [show ((0 : Nat) : Int) - 1 = -1 by omega]
                    clear hin hq2 hq
                    go_wp2_with fail
                    refine (block_out (F := F) d bs ws (-1) _ Ix.out.disk (.inl (by omega))).mono ?_
                    rintro e w2 ⟨rfl, k2⟩
                    have k02 := kx.trans k2 (fun _ _ h => h)
                    go_wp2_with fail
                    exact ⟨⟨1, by omega, rfl, k02⟩, by simp [intOf]; omega⟩
                  · rw [show ((n + 1 : Nat) : Int) - 1 = (n : Int) by omega]
                    clear hin hq2 hq
                    go_wp2_with fail
                    refine (block_out (F := F) d bs ws (n : Int) _ Ix.out.disk (.inr (by rw [Ix.out.len]; omega))).mono ?_
                    rintro e w2 ⟨rfl, k2⟩
                    have k02 := kx.trans k2 (fun _ _ h => h)
                    go_wp2_with fail
                    exact ⟨⟨n + 2, by omega, by rw [show ((n + 2 : Nat) : Int) - 1 = (n : Int) + 1 by omega], k02⟩, by simp [intOf]; omega⟩
              · obtain rfl : q = n + 2 := by omega
                rw [show ((n + 2 : Nat) : Int) - 1 = (n : Int) + 1 by omega]
                have k0x := hkp.out.trans kx (fun _ _ h => h)
                clear hq hq2
                go_wp2_with fail
                refine (awake08_calls _).mono ?_
                rintro e w2 ⟨rfl, k2⟩
                have I2 := Lib.hid (Ix.out.keeps k2)
                go_wp2_with fail
                refine (wait_calls (F := F) d bs ws _ I2.out.disk).mono ?_
                rintro e w3 ⟨v3, rfl, hv3, _, k3⟩
                have I3 := Lib.hid (I2.out.keeps k3)
                have HV3 := Lib.hid hv3
                have k03 := (k0x.trans k2 (fun _ _ h => h)).trans k3 (fun _ _ h => h)
                clear hv3 k2 k3
                go_wp2_with fail
                refine (same_calls _ _ ws ws _ HV3.out (Own.rd encR_len I3.out.own2) (by rw [hm.out]; omega) (by rw [hm.out]; omega)).mono ?_
                rintro e w4 ⟨rfl, k4⟩
                have k04 := k03.trans k4 (fun _ _ h => h)
                rw [decide_eq_true rfl]
                go_wp2_with fail
                go_ret
                exact ⟨rfl, k04.below (Nat.le_refl _) (fun _ h => h.elim)⟩

theorem dplays_row (w : World) (s : Int) (_hs : (Lit.int .i64 s).wf = true) (v : Value) (l : List DAct) (h : DActsAt w v l) :
    Calls Try.prog 3 #[.int .i64 s, v] w fun e w' => e = .returned (.bool true) ∧ Below w.heap.size w w' := plays_calls s v l w h.1 h.2
end Go.Proofs.Ytgepedfipfobjaa
