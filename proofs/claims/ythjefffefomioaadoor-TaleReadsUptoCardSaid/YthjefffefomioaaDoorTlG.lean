/- Package tale: Step. -/
import Derived.Test.YthjefffefomioaaDoorTlF
import Derived.Deep.DeepCutAuto
import Derived.Deep.CutBlock
namespace Go.Proofs.YthjefffefomioaaDoor
open Go.RowKit
namespace Tl

theorem Lib.mk_toList (t : ByteArray) : (⟨t.data.toList.toArray⟩ : ByteArray) = t := by
  cases t
  simp

def outK (k : Nat) (ps : List (List UInt8)) : Stp := ⟨(k : Int) + 1, (ps.map atoiVal).getD 0 0, (ps.map atoiVal).getD 1 0⟩

/-- The entry of a line, by its k-th form. -/
def tryK (l : List UInt8) (k : Nat) : Option Stp :=
  if (cutAt 32 l).head? = some (formW k) ∧ (cutAt 32 l).length = formS k + 1 then
    (if lineB (outK k ((cutAt 32 l).drop 1)) = some l then some (outK k ((cutAt 32 l).drop 1)) else none)
  else none

def stepTo (l : List UInt8) : Nat → Option Stp
  | 0 => none
  | k + 1 => match stepTo l k with
    | some x => some x
    | none => tryK l k

/-- The entry that a line is. -/
def stepB (l : List UInt8) : Option Stp := stepTo l 6

theorem stepTo_some {l : List UInt8} {x : Stp} {j : Nat} (h : stepTo l j = some x) : ∀ m, stepTo l (j + m) = some x
  | 0 => h
  | m + 1 => by
    show stepTo l (j + m + 1) = _
    rw [stepTo, stepTo_some h m]

theorem stepB_at {l : List UInt8} {x : Stp} {j : Nat} (hj : j < 6) (h0 : stepTo l j = none) (h : tryK l j = some x) : stepB l = some x := by
  have h1 : stepTo l (j + 1) = some x := by rw [stepTo, h0]; exact h
  have := stepTo_some h1 (5 - j)
  rw [show j + 1 + (5 - j) = 6 by omega] at this
  exact this

theorem stepTo_next {l : List UInt8} {j : Nat} (h0 : stepTo l j = none) (h : tryK l j = none) : stepTo l (j + 1) = none := by
  rw [stepTo, h0]; exact h

theorem tryK_fit {l : List UInt8} {k : Nat} {x : Stp} (h : tryK l k = some x) : lineB x = some l ∧ x = outK k ((cutAt 32 l).drop 1) := by
  unfold tryK at h
  split at h
  · split at h
    · simp only [Option.some.injEq] at h
      subst h
      exact ⟨by assumption, rfl⟩
    · cases h
  · cases h

def stepR : Option Stp → Ending
  | some x => .returned (.tuple #[.agg #[.int .i64 x.kind, .int .i64 x.a, .int .i64 x.b], .int .i64 0])
  | none => .returned (.tuple #[.agg #[.int .i64 0, .int .i64 0, .int .i64 0], .int .i64 7])

theorem eS : Elem Tryd.prog 65 9 (.string ByteArray.empty) 1 16 := Elem.mk' (by kernel_rfl) (by kernel_rfl) rfl (by decide)

theorem cutAt_le (c : UInt8) : ∀ (l p : List UInt8), p ∈ cutAt c l → p.length ≤ l.length
  | [], p, h => by simp [cutAt] at h; simp [h]
  | b :: l, p, h => by
    unfold cutAt at h
    split at h
    · rcases List.mem_cons.1 h with rfl | h1
      · simp
      · have := cutAt_le c l p h1
        simp only [List.length_cons]; omega
    · split at h
      · simp only [List.mem_singleton] at h
        subst h
        simp
      · rename_i q qs hq
        rcases List.mem_cons.1 h with rfl | h1
        · have := cutAt_le c l q (by rw [hq]; exact List.mem_cons_self ..)
          simp only [List.length_cons]; omega
        · have := cutAt_le c l p (by rw [hq]; exact List.mem_cons_of_mem _ h1)
          simp only [List.length_cons]; omega

theorem formW_ne (k : Nat) : formW k ≠ [] := by
  unfold formW
  split <;> simp

theorem getD_fit {ps : List (List UInt8)} {vs : List Int} (h : ps.map atoiVal = vs) (k : Nat) : Fit (vs.getD k 0) := by
  subst h
  rw [List.getD_eq_getElem?_getD, List.getElem?_map]
  cases ps[k]? with
  | none => exact ⟨by simp, by simp⟩
  | some p => exact atoiVal_bounds p

/-- The two numbers, of which q are read. -/
def arrC (vs : List Int) (q : Nat) : Array Value := #[.int .i64 ((vs.take q).getD 0 0), .int .i64 ((vs.take q).getD 1 0)]

theorem arrC_set {vs : List Int} {q : Nat} {v : Int} (hq : q < 2) (hv : vs[q]? = some v) : (arrC vs q).setIfInBounds q (.int .i64 v) = arrC vs (q + 1) := by
  match q, hq with
  | 0, _ =>
    cases vs with
    | nil => simp at hv
    | cons a l => simp at hv; subst hv; simp [arrC]
  | 1, _ =>
    match vs, hv with
    | [], hv => simp at hv
    | [a], hv => simp at hv
    | a :: b :: l, hv => simp at hv; subst hv; simp [arrC]

set_option maxRecDepth 100000 in
set_option maxHeartbeats 1000000 in
theorem step_list (sl : List UInt8) (w : World) (hg : Gl w) (hs : sl.length < 4294967281) : Calls Tryd.prog 15 #[S sl] w fun e w' => e = stepR (stepB sl) ∧ Keeps NoBlock w w' := by
  obtain ⟨ps, hps⟩ : ∃ ps, cutAt 32 sl = ps := ⟨_, rfl⟩
  obtain ⟨r, hr⟩ : ∃ r, stepB sl = r := ⟨_, rfl⟩
  rw [hr]
  have HR := Lib.hid hr
  have HPS := Lib.hid hps
  have HG := Lib.hid hg
  have hsp := Lib.hid (fun w1 (k1 : Keeps NoBlock w w1) => split_calls ⟨sl.toArray⟩ 32 w1 (hg.on k1) (by rw [Lib.size_mk]; exact hs))
  rw [show (⟨sl.toArray⟩ : ByteArray).data.toList = sl from rfl] at hsp
  rw [hps] at hsp
  have hpl : 0 < ps.length := by
    have := cutAt_ne 32 sl
    rw [hps] at this
    exact List.length_pos_iff.2 this
  have hpm : ps.length ≤ 4294967281 := by
    have h1 := cut_len 32 ⟨sl.toArray⟩
    rw [show (⟨sl.toArray⟩ : ByteArray).data.toList = sl from rfl, hps] at h1
    have := Lib.countB_le ⟨#[32]⟩ (Nat.le_refl 1) _ ⟨sl.toArray⟩ (Nat.le_refl _)
    rw [Lib.size_mk] at this
    omega
  clear hr hps hg
  go_enter Tryd.func15, Tryd.ntmps15
  go_wp2_with fail
  generalize hW : World.alloc w _ = w1
  have k1 : Keeps NoBlock w w1 := by rw [← hW]; exact (Keeps.refl _ _).alloc _
  have b1 : w1.heap[w.heap.size]? = some (.cells #[.int .i64 0, .int .i64 0, .int .i64 0] 23 (0, 0)) := by rw [← hW]; exact block_alloc_new _ _
  clear hW
  refine (hsp.out w1 k1).mono ?_
  rintro e w2 ⟨rfl, hw2⟩
  have k2 : Keeps NoBlock w w2 := by rw [hw2]; exact k1.alloc _
  have b2 : w2.heap[w.heap.size]? = some (.cells #[.int .i64 0, .int .i64 0, .int .i64 0] 23 (0, 0)) := by rw [hw2]; exact block_alloc_old b1
  have p2 : w2.heap[w1.heap.size]? = some (.cells (ps.map S).toArray 9 (0, 0)) := by rw [hw2]; exact block_alloc_new _ _
  clear hw2
  go_wp2_with fail
  refine (forms_calls w2).mono ?_
  rintro e w3 ⟨rfl, hw3⟩
  have K3 : Hid (Keeps NoBlock w w3) := by show Keeps _ _ _; rw [hw3]; exact k2.alloc _
  have B3 : Hid (w3.heap[w.heap.size]? = some (.cells #[.int .i64 0, .int .i64 0, .int .i64 0] 23 (0, 0))) := by show _ = _; rw [hw3]; exact block_alloc_old b2
  have P3 : Hid (w3.heap[w1.heap.size]? = some (.cells (ps.map S).toArray 9 (0, 0))) := by show _ = _; rw [hw3]; exact block_alloc_old p2
  have F3 : Hid (w3.heap[w2.heap.size]? = some (.cells formCells 61 (0, 0))) := by show _ = _; rw [hw3]; exact block_alloc_new _ _
  have hlt1 : w.heap.size < w1.heap.size := lt_of_block b1
  have hlt2 : w1.heap.size < w2.heap.size := lt_of_block p2
  clear hw3 k1 k2 b1 b2 p2 hsp
  go_wp2_with fail
  go_loopw [17] (fun i wr => ∃ j : Nat, j ≤ 6 ∧ i = .int .i64 j ∧ stepTo sl j = none ∧ Keeps NoBlock w3 wr) (fun i _ => 6 - (intOf i).toNat)
  case atStart => exact ⟨0, by omega, rfl, rfl, Keeps.refl _ _⟩
  case round =>
    obtain ⟨j, hj, rfl, hst, hkj⟩ := hrel
    have HST := Lib.hid hst
    have HK := Lib.hid hkj
    clear hst hkj
    have hwj : IntKind.i64.wrap ((j : Int) + 1) = (j : Int) + 1 := by rw [IntKind.wrap_i64]; omega
    by_cases hlt : j < 6
    · have pr := (HK.out.block _ (lt_of_block P3.out) (fun e => e)).trans P3.out
      have fr := (HK.out.block _ (lt_of_block F3.out) (fun e => e)).trans F3.out
      obtain ⟨z0, z1⟩ := form_at fr j hlt
      obtain ⟨p0, hp0⟩ : ∃ p, ps[0]? = some p := ⟨_, List.getElem?_eq_getElem hpl⟩
      have cp0 : wr.cell? ⟨w1.heap.size, 0, none⟩ = some (S p0) := cell_of_block (o := 0) pr (by simp [hp0])
      obtain ⟨n, hn⟩ : ∃ n, formS j = n := ⟨_, rfl⟩
      obtain ⟨wd, hwd⟩ : ∃ wd, formW j = wd := ⟨_, rfl⟩
      rw [hn] at z1
      rw [hwd] at z0
      have hn2 : n ≤ 2 := by rw [← hn]; exact formS_le j
      have hj0 : (0 : Int) ≤ (j : Int) := by omega
      have hj6 : (j : Int) < 6 := by omega
      have hp0z : (0 : Int) < (ps.length : Int) := by omega
      have HN := Lib.hid hn
      have HWD := Lib.hid hwd
      have HP0 := Lib.hid hp0
      have l1 := lt_of_block pr
      clear hn hwd hp0
      go_upto_region 5 with fail
      generalize hW : World.alloc wr _ = w5
      have k5 : Keeps NoBlock wr w5 := by rw [← hW]; exact (Keeps.refl _ _).alloc _
      have f5 : w5.heap[wr.heap.size]? = some (.cells #[S wd, .int .i64 (n : Nat)] 61 (0, 0)) := by rw [← hW]; exact block_alloc_new _ _
      have p5 := (k5.block _ l1 (fun e => e)).trans pr
      have y0 : w5.cell? ⟨wr.heap.size, 0, none⟩ = some (S wd) := cell_of_block (o := 0) f5 rfl
      have y1 : w5.cell? ⟨wr.heap.size, 1, none⟩ = some (.int .i64 (n : Nat)) := cell_of_block (o := 1) f5 rfl
      have c5 := (k5.cell (o := 0) l1 (fun e => e)).trans cp0
      have HK5 := Lib.hid (HK.out.trans k5 (fun _ _ e => e))
      have F5 := Lib.hid f5
      have P5 := Lib.hid p5
      have hwn : IntKind.i64.wrap ((n : Int) + 1) = (n : Int) + 1 := by rw [IntKind.wrap_i64]; omega
      clear hW k5 f5 p5 pr fr z0 z1 cp0 l1
      by_cases hpw : p0 = wd
      · subst hpw
        by_cases hpn : ps.length = n + 1
        · have hlz : ((ps.length : Int) != (n : Int) + 1) = false := by simp; omega
          have hl1 : ps.length - 1 = n := by omega
          have HPN := Lib.hid hpn
          have hfin : Hid (tryK sl j = if lineB (outK j (ps.drop 1)) = some sl then some (outK j (ps.drop 1)) else none) := by
            show _ = _
            unfold tryK
            rw [HPS.out, HN.out, HWD.out, if_pos ⟨by rw [← HP0.out]; cases ps <;> rfl, HPN.out⟩]
          clear hpn
          go_upto_region 7 with (go_quiet (fail))
          generalize hW : World.alloc (World.drewN w5 _) _ = w7
          have k7 : Keeps NoBlock w5 w7 := by rw [← hW]; exact ((Keeps.refl NoBlock w5).drewN _).alloc _
          have a7 : w7.heap[w5.heap.size]? = some (.cells #[.int .i64 0, .int .i64 0] 67 (0, 0)) := by rw [← hW]; exact blk_new rfl
          have p7 := (k7.block _ (lt_of_block P5.out) (fun e => e)).trans P5.out
          have HK7 := Lib.hid (HK5.out.trans k7 (fun _ _ e => e))
          have A7 := Lib.hid a7
          have P7 := Lib.hid p7
          have hl5 : w1.heap.size < w5.heap.size := lt_of_block P5.out
          obtain ⟨A2, hs2, hA2⟩ := run_slice_from (P := Tryd.prog) eS (some ⟨w1.heap.size, 0, none⟩) ps.length ps.length 1 w1.heap.size 0 hpl (Nat.le_refl _) (fun _ => rfl)
          rw [hl1] at hs2 hA2
          have hs2' : ∀ w, (Instr.slice 65 (.slice (some ⟨w1.heap.size, 0, none⟩) ps.length ps.length) (some (.int .i64 1)) none none).run Tryd.prog w = .ok (.slice A2 n n) w := hs2
          clear hs2
          have HA2 := Lib.hid hA2
          obtain ⟨vs, hvs⟩ : ∃ vs, (ps.drop 1).map atoiVal = vs := ⟨_, rfl⟩
          have hvl : vs.length = n := by rw [← hvs, List.length_map, List.length_drop]; omega
          have HVS := Lib.hid hvs
          clear hW k7 a7 p7 hA2 hvs y0 y1 c5 F5 P5
          go_wp2_with fail
          go_loopw [39] (fun i wq => ∃ q : Nat, q ≤ n ∧ i = .int .i64 q ∧ Keeps (fun b => b = w5.heap.size) w7 wq ∧ wq.heap[w5.heap.size]? = some (.cells (arrC vs q) 67 (0, 0))) (fun i _ => n - (intOf i).toNat)
          case atStart => exact ⟨0, by omega, rfl, Keeps.refl _ _, A7.out⟩
          case round =>
            obtain ⟨q, hq, rfl, hkq, haq⟩ := hrel
            have HKQ := Lib.hid hkq
            have HAQ := Lib.hid haq
            clear hkq haq
            have hwq : IntKind.i64.wrap ((q : Int) + 1) = (q : Int) + 1 := by rw [IntKind.wrap_i64]; omega
            by_cases hqn : q < n
            · obtain rfl : A2 = some ⟨w1.heap.size, 1, none⟩ := HA2.out (by omega)
              obtain ⟨t, ht⟩ : ∃ t, ps[1 + q]? = some t := ⟨_, List.getElem?_eq_getElem (by omega)⟩
              have pq : wr.heap[w1.heap.size]? = some (.cells (ps.map S).toArray 9 (0, 0)) := (HKQ.out.block _ (lt_of_block P7.out) (by omega)).trans P7.out
              have ct : wr.cell? ⟨w1.heap.size, 1 + q, none⟩ = some (S t) := cell_of_block (o := 1 + q) pq (by simp [ht])
              have htl : t.length ≤ 4294967281 := by
                have h1 : t ∈ ps := List.mem_of_getElem? ht
                rw [← HPS.out] at h1
                have := cutAt_le 32 _ _ h1
                omega
              have hvq : vs[q]? = some (atoiVal t) := by rw [← HVS.out, List.getElem?_map, List.getElem?_drop, ht]; rfl
              have hat := Lib.hid (atoi_calls ⟨t.toArray⟩ wr (HG.out.on ((K3.out.trans HK7.out (fun _ _ e => e)).trans (HKQ.out.mono (S' := fun b => b = w5.heap.size) (fun _ _ e => e)) (fun j hj e => by have := HK5.out.size; have := K3.out.size; omega))) (by rw [Lib.size_mk]; omega))
              have hval : atoiVal (⟨t.toArray⟩ : ByteArray).data.toList = atoiVal t := rfl
              rw [hval] at hat
              obtain ⟨v, hv⟩ : ∃ v, atoiVal t = v := ⟨_, rfl⟩
              rw [hv] at hat hvq
              have hset := Lib.hid (arrC_set (show q < 2 by omega) hvq)
              have hq0 : (0 : Int) ≤ (q : Int) := by omega
              have hqn' : (q : Int) < (n : Int) := by omega
              have hq2 : (q : Int) < 2 := by omega
              clear ht pq htl hvq hval hv
              go_wp2_with fail
              refine hat.out.mono ?_
              rintro e w8 ⟨ev, rfl, k8⟩
              have a8 := (k8.block _ (lt_of_block HAQ.out) (fun e => e)).trans HAQ.out
              have hc8 : w8.cell? ⟨w5.heap.size, q, none⟩ = some ((arrC vs q)[q]'(by simp [arrC]; omega)) := cell_of_block (o := q) a8 (by rw [Array.getElem?_eq_getElem])
              have hf8 := frozen_of_block a8 (o := q)
              have K8 := Lib.hid k8
              have A8 := Lib.hid a8
              clear k8 a8
              go_wp2_with fail
              refine ⟨⟨q + 1, by omega, by simp, ?_, ?_⟩, by simp [intOf]; omega⟩
              · exact (HKQ.out.trans K8.out (fun _ _ e => e.elim)).setCell (p := ⟨w5.heap.size, q, none⟩) (.inl rfl) _
              · rw [← hset.out]
                exact block_set A8.out _
            · obtain rfl : q = n := by omega
              have e0 : vs.take q = vs := List.take_of_length_le (by omega)
              obtain ⟨va, hva⟩ : ∃ va, vs.getD 0 0 = va := ⟨_, rfl⟩
              obtain ⟨vb, hvb⟩ : ∃ vb, vs.getD 1 0 = vb := ⟨_, rfl⟩
              have haq : wr.heap[w5.heap.size]? = some (.cells #[.int .i64 va, .int .i64 vb] 67 (0, 0)) := by rw [HAQ.out, arrC, e0, hva, hvb]
              have ca : wr.cell? ⟨w5.heap.size, 0, none⟩ = some (.int .i64 va) := cell_of_block (o := 0) haq rfl
              have cb : wr.cell? ⟨w5.heap.size, 1, none⟩ = some (.int .i64 vb) := cell_of_block (o := 1) haq rfl
              have hout : outK j (ps.drop 1) = ⟨(j : Int) + 1, va, vb⟩ := by unfold outK; rw [HVS.out, hva, hvb]
              rw [hout] at hfin
              have hfa : Fit va := by rw [← hva]; exact getD_fit HVS.out 0
              have hfb : Fit vb := by rw [← hvb]; exact getD_fit HVS.out 1
              have hkq3 : Hid (Keeps NoBlock w wr) := (K3.out.trans HK7.out (fun _ _ e => e)).trans (HKQ.out.mono (S' := fun b => b = w5.heap.size) (fun _ _ e => e)) (fun j hj e => by have := HK5.out.size; have := K3.out.size; omega)
              have bq : wr.heap[w.heap.size]? = some (.cells #[.int .i64 0, .int .i64 0, .int .i64 0] 23 (0, 0)) := (HKQ.out.block _ (by have := lt_of_block B3.out; have := HK7.out.size; omega) (by have := HK5.out.size; have := lt_of_block B3.out; omega)).trans ((HK7.out.block _ (lt_of_block B3.out) (fun e => e)).trans B3.out)
              have BQ := Lib.hid bq
              have HFA := Lib.hid hfa
              have HFB := Lib.hid hfb
              clear e0 hva hvb haq hout hfa hfb bq
              go_upto_region 13 with fail
              generalize hW : World.alloc wr _ = w9
              have k9 : Keeps NoBlock wr w9 := by rw [← hW]; exact (Keeps.refl _ _).alloc _
              have b9 : w9.heap[wr.heap.size]? = some (.cells #[.int .i64 ((j : Int) + 1), .int .i64 va, .int .i64 vb] 23 (0, 0)) := by rw [← hW]; exact block_alloc_new _ _
              have bq9 := (k9.block _ (lt_of_block BQ.out) (fun e => e)).trans BQ.out
              have hkq9 := Lib.hid (hkq3.out.trans k9 (fun _ _ e => e))
              have hk39 : Hid (Keeps NoBlock w3 w9) := (HK7.out.trans ((HKQ.out.mono (S' := fun b => b = w5.heap.size) (fun _ _ e => e)).trans k9 (fun _ _ e => e.elim)) (fun i hi e => by have := HK5.out.size; omega))
              have o0 : w9.cell? ⟨wr.heap.size, 0, none⟩ = some (.int .i64 ((j : Int) + 1)) := cell_of_block (o := 0) b9 rfl
              have o1 : w9.cell? ⟨wr.heap.size, 1, none⟩ = some (.int .i64 va) := cell_of_block (o := 1) b9 rfl
              have o2 : w9.cell? ⟨wr.heap.size, 2, none⟩ = some (.int .i64 vb) := cell_of_block (o := 2) b9 rfl
              have hln := Lib.hid (line_calls ⟨(j : Int) + 1, va, vb⟩ HFA.out HFB.out w9 (HG.out.on hkq9.out))
              have B9 := Lib.hid b9
              have BQ9 := Lib.hid bq9
              have hlt0 : w.heap.size < wr.heap.size := lt_of_block BQ.out
              clear hW k9 b9 bq9 ca cb
              go_wp2_with fail
              refine hln.out.mono ?_
              rintro e w10 ⟨rfl, k10⟩
              have b10 := (k10.block _ (lt_of_block B9.out) (fun e => e)).trans B9.out
              have q10 := (k10.block _ (lt_of_block BQ9.out) (fun e => e)).trans BQ9.out
              have HK10 := Lib.hid (hkq9.out.trans k10 (fun _ _ e => e))
              have HK310 := Lib.hid (hk39.out.trans k10 (fun _ _ e => e))
              have Q10 := Lib.hid q10
              have B10 := Lib.hid b10
              clear o0 o1 o2 k10 b10 q10 hln
              cases hlb : lineB ⟨(j : Int) + 1, va, vb⟩ with
              | none =>
                rw [hlb, if_neg (by simp)] at hfin
                have hne : ¬ sl = [] := fun e => by
                  have h1 := HPS.out
                  rw [e] at h1
                  have h2 := HP0.out
                  rw [← h1] at h2
                  have h3 := HWD.out
                  simp [cutAt] at h2
                  exact formW_ne j (h3.trans h2)
                have hne' : sl.isEmpty = false := by simpa using hne
                simp only [retLine]
                clear hlb
                go_wp2_with fail
                exact ⟨⟨j + 1, by omega, by simp, stepTo_next HST.out hfin.out, HK310.out⟩, by simp [intOf]; omega⟩
              | some l' =>
                rw [hlb] at hfin
                simp only [retLine]
                by_cases he : l' = sl
                · rw [he, if_pos rfl] at hfin
                  have hrs : some ⟨(j : Int) + 1, va, vb⟩ = r := (stepB_at hlt HST.out hfin.out).symm.trans HR.out
                  subst hrs
                  clear hlb
                  have c0 : w10.cell? ⟨w.heap.size, 0, none⟩ = some (.int .i64 0) := cell_of_block (o := 0) Q10.out rfl
                  have c1 : w10.cell? ⟨w.heap.size, 1, none⟩ = some (.int .i64 0) := cell_of_block (o := 1) Q10.out rfl
                  have c2 : w10.cell? ⟨w.heap.size, 2, none⟩ = some (.int .i64 0) := cell_of_block (o := 2) Q10.out rfl
                  have f0 := frozen_of_block Q10.out (o := 0)
                  have f1 := frozen_of_block Q10.out (o := 1)
                  have f2 := frozen_of_block Q10.out (o := 2)
                  have o0 : w10.cell? ⟨wr.heap.size, 0, none⟩ = some (.int .i64 ((j : Int) + 1)) := cell_of_block (o := 0) B10.out rfl
                  have o1 : w10.cell? ⟨wr.heap.size, 1, none⟩ = some (.int .i64 va) := cell_of_block (o := 1) B10.out rfl
                  have o2 : w10.cell? ⟨wr.heap.size, 2, none⟩ = some (.int .i64 vb) := cell_of_block (o := 2) B10.out rfl
                  go_wp2_with fail
                  have hk9 : Keeps NoBlock w (((w10.setCell ⟨w.heap.size, 0, none⟩ (.int .i64 ((j : Int) + 1))).setCell ⟨w.heap.size, 1, none⟩ (.int .i64 va)).setCell ⟨w.heap.size, 2, none⟩ (.int .i64 vb)) := ((HK10.out.setCell (p := ⟨w.heap.size, 0, none⟩) (.inr (Nat.le_refl _)) _).setCell (p := ⟨w.heap.size, 1, none⟩) (.inr (Nat.le_refl _)) _).setCell (p := ⟨w.heap.size, 2, none⟩) (.inr (Nat.le_refl _)) _
                  have hb9 : (((w10.setCell ⟨w.heap.size, 0, none⟩ (.int .i64 ((j : Int) + 1))).setCell ⟨w.heap.size, 1, none⟩ (.int .i64 va)).setCell ⟨w.heap.size, 2, none⟩ (.int .i64 vb)).heap[w.heap.size]? = some (.cells #[.int .i64 ((j : Int) + 1), .int .i64 va, .int .i64 vb] 23 (0, 0)) := block_set (block_set (block_set Q10.out _) _) _
                  generalize ((w10.setCell ⟨w.heap.size, 0, none⟩ (.int .i64 ((j : Int) + 1))).setCell ⟨w.heap.size, 1, none⟩ (.int .i64 va)).setCell ⟨w.heap.size, 2, none⟩ (.int .i64 vb) = W9 at hk9 hb9 ⊢
                  have z0 : W9.cell? ⟨w.heap.size, 0, none⟩ = some (.int .i64 ((j : Int) + 1)) := cell_of_block (o := 0) hb9 rfl
                  have z1 : W9.cell? ⟨w.heap.size, 1, none⟩ = some (.int .i64 va) := cell_of_block (o := 1) hb9 rfl
                  have z2 : W9.cell? ⟨w.heap.size, 2, none⟩ = some (.int .i64 vb) := cell_of_block (o := 2) hb9 rfl
                  refine bodyPost_ret (v := .tuple #[.agg #[.int .i64 ((j : Int) + 1), .int .i64 va, .int .i64 vb], .int .i64 0]) ?_ rfl ⟨rfl, hk9⟩
                  simp [results, Tryd.results15, go_sem, z0, z1, z2]
                · rw [if_neg (fun e => he (by simpa using e))] at hfin
                  have hne' : (l' == sl) = false := by rw [beq_eq_false_iff_ne]; exact he
                  clear hlb
                  go_wp2_with fail
                  exact ⟨⟨j + 1, by omega, by simp, stepTo_next HST.out hfin.out, HK310.out⟩, by simp [intOf]; omega⟩
        · have hlz : ((ps.length : Int) != (n : Int) + 1) = true := by simp; omega
          have hno : tryK sl j = none := by
            unfold tryK
            rw [HPS.out, HN.out, if_neg (fun h => hpn h.2)]
          have HNO := Lib.hid hno
          clear hpn hno
          go_quiet (fail)
          go_wp2_with fail
          exact ⟨⟨j + 1, by omega, by simp, stepTo_next HST.out HNO.out, HK5.out.drewN _⟩, by simp [intOf]; omega⟩
      · have hno : tryK sl j = none := by
          unfold tryK
          rw [HPS.out, HWD.out, if_neg]
          rintro ⟨h, _⟩
          have := HP0.out
          cases ps with
          | nil => simp at this
          | cons a l => simp at this h; exact hpw (by rw [← this, h])
        have HNO := Lib.hid hno
        clear hno
        go_quiet (fail)
        go_wp2_with fail
        exact ⟨⟨j + 1, by omega, by simp, stepTo_next HST.out HNO.out, HK5.out.drewN _⟩, by simp [intOf]; omega⟩
    · obtain rfl : j = 6 := by omega
      have hrn : none = r := HST.out.symm.trans HR.out
      subst hrn
      have br := (HK.out.block _ (lt_of_block B3.out) (fun e => e)).trans B3.out
      have BR := Lib.hid br
      have f0 := frozen_of_block br (o := 0)
      have f1 := frozen_of_block br (o := 1)
      have f2 := frozen_of_block br (o := 2)
      have c0 : wr.cell? ⟨w.heap.size, 0, none⟩ = some (.int .i64 0) := cell_of_block (o := 0) br rfl
      have c1 : wr.cell? ⟨w.heap.size, 1, none⟩ = some (.int .i64 0) := cell_of_block (o := 1) br rfl
      have c2 : wr.cell? ⟨w.heap.size, 2, none⟩ = some (.int .i64 0) := cell_of_block (o := 2) br rfl
      have hkw : Hid (Keeps NoBlock w wr) := K3.out.trans HK.out (fun _ _ e => e)
      clear br
      go_wp2_with fail
      have hk9 : Keeps NoBlock w (((wr.setCell ⟨w.heap.size, 0, none⟩ (.int .i64 0)).setCell ⟨w.heap.size, 1, none⟩ (.int .i64 0)).setCell ⟨w.heap.size, 2, none⟩ (.int .i64 0)) := ((hkw.out.setCell (p := ⟨w.heap.size, 0, none⟩) (.inr (Nat.le_refl _)) _).setCell (p := ⟨w.heap.size, 1, none⟩) (.inr (Nat.le_refl _)) _).setCell (p := ⟨w.heap.size, 2, none⟩) (.inr (Nat.le_refl _)) _
      have hb9 : (((wr.setCell ⟨w.heap.size, 0, none⟩ (.int .i64 0)).setCell ⟨w.heap.size, 1, none⟩ (.int .i64 0)).setCell ⟨w.heap.size, 2, none⟩ (.int .i64 0)).heap[w.heap.size]? = some (.cells #[.int .i64 0, .int .i64 0, .int .i64 0] 23 (0, 0)) := block_set (block_set (block_set BR.out _) _) _
      generalize ((wr.setCell ⟨w.heap.size, 0, none⟩ (.int .i64 0)).setCell ⟨w.heap.size, 1, none⟩ (.int .i64 0)).setCell ⟨w.heap.size, 2, none⟩ (.int .i64 0) = W9 at hk9 hb9 ⊢
      have z0 : W9.cell? ⟨w.heap.size, 0, none⟩ = some (.int .i64 0) := cell_of_block (o := 0) hb9 rfl
      have z1 : W9.cell? ⟨w.heap.size, 1, none⟩ = some (.int .i64 0) := cell_of_block (o := 1) hb9 rfl
      have z2 : W9.cell? ⟨w.heap.size, 2, none⟩ = some (.int .i64 0) := cell_of_block (o := 2) hb9 rfl
      refine bodyPost_ret (v := .tuple #[.agg #[.int .i64 0, .int .i64 0, .int .i64 0], .int .i64 7]) ?_ rfl ⟨rfl, hk9⟩
      simp [results, Tryd.results15, go_sem, z0, z1, z2]

theorem step_calls (s : ByteArray) (w : World) (hg : Gl w) (hs : s.size < 4294967281) : Calls Tryd.prog 15 #[.string s] w fun e w' => e = stepR (stepB s.data.toList) ∧ Keeps NoBlock w w' := by
  have h := step_list s.data.toList w hg (by rw [← Lib.size_eq]; exact hs)
  rw [show S s.data.toList = Value.string s from congrArg Value.string (Lib.mk_toList s)] at h
  exact h

end Tl
end Go.Proofs.YthjefffefomioaaDoor
