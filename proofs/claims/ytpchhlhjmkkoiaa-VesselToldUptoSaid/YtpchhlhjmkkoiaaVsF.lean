/- VesselKeeps: a thread that may run by a vessel's events, or runs in it, may do so by what is left of it, just as often. -/
import Derived.Test.YtpchhlhjmkkoiaaVsD
namespace Go.Proofs.Ytpchhlhjmkkoiaa
open Go.RowKit

def hitB (q : Int) (x : Ev) : Bool := (runsB x && x.thread == q) || (decide (0 < x.mode) && x.thread == q)
def cntB (q : Int) (xs : List Ev) : Nat := (xs.filter (hitB q)).length

theorem cnt_take (q : Int) (xs : List Ev) (k : Nat) (x : Ev) (hx : xs[k]? = some x) : cntB q (xs.take (k + 1)) = cntB q (xs.take k) + (if hitB q x then 1 else 0) := by
  unfold cntB
  rw [filter_take _ xs k x hx, List.length_append]
  split <;> rfl

theorem hit_keep (q : Int) (x : Ev) (h : hitB q x = true) : keepB x = true := by
  unfold hitB at h
  unfold keepB
  cases hr : runsB x with
  | true => rfl
  | false =>
    rw [hr] at h
    simp only [Bool.false_and, Bool.false_or, Bool.and_eq_true] at h
    rw [h.1]; rfl

theorem cnt_keep (q : Int) (xs : List Ev) : cntB q (xs.filterMap fKeep) = cntB q xs := by
  unfold cntB
  induction xs with
  | nil => rfl
  | cons x l ih =>
    by_cases hk : keepB x = true
    · rw [List.filterMap_cons_some (b := x) (by simp [fKeep, hk])]
      by_cases hh : hitB q x = true
      · rw [List.filter_cons_of_pos hh, List.filter_cons_of_pos hh, List.length_cons, List.length_cons, ih]
      · rw [List.filter_cons_of_neg hh, List.filter_cons_of_neg hh, ih]
    · rw [List.filterMap_cons_none (by simp [fKeep, hk])]
      have hh : ¬ hitB q x = true := fun h => hk (hit_keep q x h)
      rw [List.filter_cons_of_neg hh, ih]

def own1 (q mode thread : Int) : Nat := if vrunsB mode thread && thread == q then 1 else 0

theorem mode_pos {mode : Int} (h : holdsB mode = true) : 0 < mode := by
  unfold holdsB at h
  simp only [Bool.or_eq_true, beq_iff_eq] at h
  omega

theorem vruns_nonneg {mode thread : Int} (h : vrunsB mode thread = true) : 0 ≤ thread := by
  unfold vrunsB at h
  simp only [Bool.and_eq_true, decide_eq_true_eq] at h
  exact h.2

theorem cnt_pre (q mode thread : Int) (hq : 0 ≤ q) : cntB q (preL mode thread) = own1 q mode thread := by
  unfold preL own1 cntB
  cases hh : holdsB mode with
  | true =>
    have hm := mode_pos hh
    have hm2 : ¬ mode ≤ 0 := by omega
    cases hr : vrunsB mode thread with
    | true =>
      by_cases ht : thread = q
      · simp [hitB, hm, ht]
      · simp [hitB, ht]
    | false =>
      have h1 : ((-1 : Int) == q) = false := by rw [beq_eq_false_iff_ne]; omega
      simp [hitB, h1]
  | false =>
    cases hr : vrunsB mode thread with
    | true =>
      have h0 := vruns_nonneg hr
      by_cases ht : thread = q
      · simp [hitB, runsB, ht, hq]
      · simp [hitB, ht]
    | false => simp

theorem pre_keep (mode thread : Int) : ∀ x ∈ preL mode thread, keepB x = true := by
  intro x hx
  unfold preL at hx
  cases hh : holdsB mode with
  | true =>
    have hm := mode_pos hh
    rw [hh] at hx
    simp only [if_true, List.mem_singleton] at hx
    subst hx
    simp [keepB, hm]
  | false =>
    rw [hh] at hx
    cases hr : vrunsB mode thread with
    | true =>
      have h0 := vruns_nonneg hr
      rw [hr] at hx
      simp at hx
      subst hx
      simp [keepB, runsB, h0]
    | false =>
      rw [hr] at hx
      simp at hx

theorem strip_keep (mode thread : Int) (xs : List Ev) : ∀ x ∈ preL mode thread ++ xs.filterMap fKeep, keepB x = true := by
  intro x hx
  rcases List.mem_append.1 hx with h | h
  · exact pre_keep mode thread x h
  · obtain ⟨y, _, hy⟩ := List.mem_filterMap.1 h
    unfold fKeep at hy
    split at hy
    · cases hy; assumption
    · cases hy

theorem cnt_strip (q mode thread : Int) (hq : 0 ≤ q) (xs : List Ev) : cntB q (preL mode thread ++ xs.filterMap fKeep) = own1 q mode thread + cntB q xs := by
  rw [← cnt_pre q mode thread hq, ← cnt_keep q xs]
  unfold cntB
  rw [List.filter_append, List.length_append]

theorem hit_cases (q : Int) (x : Ev) : (hitB q x = true ∧ runsB x = true ∧ (x.thread == q) = true) ∨ (hitB q x = false ∧ runsB x = true ∧ (x.thread == q) = false ∧ x.mode ≤ 0) ∨ (hitB q x = true ∧ runsB x = false ∧ 0 < x.mode ∧ (x.thread == q) = true) ∨
    (hitB q x = false ∧ runsB x = false ∧ 0 < x.mode ∧ (x.thread == q) = false) ∨ (hitB q x = false ∧ runsB x = false ∧ x.mode ≤ 0) := by
  unfold hitB
  cases hr : runsB x with
  | true =>
    have hm : x.mode ≤ 0 := by
      rcases runsB_cases x with h | h | h | h | h
      · rw [h.1] at hr; cases hr
      · rw [h.1] at hr; cases hr
      · exact h.2.2.1
      · exact h.2.2.1
      · exact h.2.2.1
    cases ht : x.thread == q with
    | true => left; simp
    | false => right; left; exact ⟨by simp, rfl, rfl, hm⟩
  | false =>
    right; right
    by_cases hm : 0 < x.mode
    · cases ht : x.thread == q with
      | true => left; simp [hm]
      | false => right; left; simp [hm]
    · right; right
      have hm' : x.mode ≤ 0 := by omega
      simp [hm']
      intro h; omega

def KeepsRel (wB : World) (q : Int) (b0 n : Nat) (xs : List Ev) (b i : Value) (wr : World) : Prop :=
  ∃ (k c : Nat), k ≤ n ∧ i = .int .i64 k ∧ b = .int .i64 c ∧ c ≤ 1 + k ∧ Hid (c = b0 + cntB q (xs.take k)) ∧ Hid (Keeps NoBlock wB wr)

set_option maxHeartbeats 4000000 in
set_option maxRecDepth 100000 in
theorem keepsL_row (w : World) (v : Value) (x : Ves) (h : VesAt w v x) (sl : Int) (hsl : (Lit.int .u8 sl).wf = true) : Calls Try.prog 6 #[v, .int .u8 sl] w fun e w' => e = .returned (.bool true) ∧ Below w.heap.size w w' := by
  obtain ⟨A, c, rfl, hr, hl, _⟩ := h
  obtain ⟨mode, thread, xs⟩ := x
  dsimp only at hr hl ⊢
  have hs0 : 0 ≤ sl ∧ sl ≤ 255 := by simpa [Lit.wf, IntKind.min, IntKind.max, IntKind.signed, IntKind.bits] using hsl
  have hq0 : 0 ≤ sl % 8 ∧ sl % 8 ≤ 7 := by omega
  clear hsl
  obtain ⟨hs1, hs2⟩ := hs0
  have HR := Lib.hid hr
  obtain ⟨A', b, off, c', hv, hA, hc⟩ := hr
  cases hv
  obtain ⟨n, hn⟩ : ∃ n, Hid (xs.length = n) := ⟨_, rfl⟩
  have HA := Lib.hid hA
  have Hc := Lib.hid hc
  have Hl := Lib.hid hl
  rw [hn.out] at hl HA HR ⊢
  clear hA hc
  go_enter Try.func6, Try.ntmps6
  go_upto_region 2 with fail
  generalize sl % 8 = q at hq0 ⊢
  obtain ⟨hq1, hq2⟩ := hq0
  go_wp2_with fail
  refine (vruns_calls mode thread A n c _ _ rfl).mono ?_
  rintro e w1 ⟨rfl, k1⟩
  have k1' := ((Keeps.refl NoBlock w).alloc (.cells (vesC mode thread A n c) 24)).trans k1 (fun _ _ h => h)
  have b1 : Hid (w1.heap[w.heap.size]? = some (.cells (vesC mode thread A n c) 24 (0, 0))) := (k1.block _ (by simp) (fun h => h)).trans (block_alloc_new _ _)
  have K1 := Lib.hid k1'
  have z1 := lt_of_block b1.out
  clear k1 k1'
  obtain ⟨rb, hrb⟩ : ∃ rb, rb = vrunsB mode thread := ⟨_, rfl⟩
  rw [← hrb]
  have Hrb := Lib.hid hrb
  obtain ⟨tt, htt⟩ : ∃ tt, tt = (if rb = true then thread else 0) := ⟨_, rfl⟩
  rw [← htt]
  have Htt := Lib.hid htt
  clear hrb htt
  go_upto_region 4 with fail
  go_cut [7, 8, 30] from 25 to 29 (fun v7 v8 v wx => v = .bool (rb && thread == q) ∧ w1 = wx)
  case first =>
    cases rb with
    | true =>
      have ht : (tt == q) = (thread == q) := by rw [Htt.out]; rfl
      cases hx : thread == q with
      | true =>
        rw [hx] at ht
        have Hx := Lib.hid hx
        clear hx
        go_wp2_with fail
        go_meet
        case rel => exact ⟨by rw [Hx.out]; rfl, rfl⟩
      | false =>
        rw [hx] at ht
        have Hx := Lib.hid hx
        clear hx
        go_wp2_with fail
        go_meet
        case rel => exact ⟨by rw [Hx.out]; rfl, rfl⟩
    | false =>
      go_wp2_with fail
      go_meet
      case rel => exact ⟨rfl, rfl⟩
  case rest =>
    obtain ⟨rfl, rfl⟩ := hcut
    have ho1 : own1 q mode thread = if (rb && thread == q) = true then 1 else 0 := by rw [Hrb.out]; rfl
    generalize (rb && thread == q) = bb at ho1 ⊢
    have Ho1 := Lib.hid ho1
    clear ho1
    go_upto_if 30 with fail
    go_cut [6, 30] from 30 to 32 (fun v v30 wx => v = .int .i64 (own1 q mode thread) ∧ w1 = wx)
    case first =>
      cases bb with
      | true =>
        go_wp2_with fail
        go_meet
        case rel => exact ⟨by rw [Ho1.out]; rfl, rfl⟩
      | false =>
        go_wp2_with fail
        go_meet
        case rel => exact ⟨by rw [Ho1.out]; rfl, rfl⟩
    case rest =>
      obtain ⟨rfl, rfl⟩ := hcut
      obtain ⟨b0, hb0⟩ : ∃ b0, Hid (b0 = own1 q mode thread) := ⟨_, rfl⟩
      have hb1' : b0 ≤ 1 := by rw [hb0.out]; unfold own1; split <;> omega
      rw [← hb0.out]
      go_wp2_with fail
      go_loopw [6, 9] (fun b i wr => KeepsRel w1 q b0 n xs b i wr) (fun _ i _ => n - (intOf i).toNat)
      case atStart => exact ⟨0, b0, Nat.zero_le _, rfl, rfl, by omega, by show _ = _; simp [cntB], Keeps.refl _ _⟩
      case round =>
        obtain ⟨k, cb, hk, rfl, rfl, hcb, hcc, HK⟩ := hrel
        have b2 : Hid (wr.heap[w.heap.size]? = some (.cells (vesC mode thread A n c) 24 (0, 0))) := (HK.out.block _ z1 (fun h => h)).trans b1.out
        have p0 : wr.cell? ⟨w.heap.size, 0, none⟩ = some (.int .i64 mode) := cell_of_block b2.out rfl
        have p1 : wr.cell? ⟨w.heap.size, 1, none⟩ = some (.int .i64 thread) := cell_of_block b2.out rfl
        have p2 : wr.cell? ⟨w.heap.size, 2, none⟩ = some (.slice A n c) := cell_of_block b2.out rfl
        have KW := Lib.hid (K1.out.trans HK.out (fun _ _ h => h))
        by_cases hlt : k < n
        · obtain ⟨x, hx⟩ : ∃ x, xs[k]? = some x := ⟨_, List.getElem?_eq_getElem (by rw [hn.out]; exact hlt)⟩
          obtain ⟨rfl, hb1⟩ := HA.out (by omega)
          have hcx := cells3 Hc.out hx
          rw [← KW.out.cell hb1 (fun h => h), ← KW.out.cell hb1 (fun h => h), ← KW.out.cell hb1 (fun h => h)] at hcx
          have hct := cnt_take q xs k x hx
          have hbr : b < wr.heap.size := Nat.lt_of_lt_of_le hb1 KW.out.size
          have hcs := hit_cases q x
          clear hx
          obtain ⟨kind, th, mo⟩ := x
          dsimp only at hcx hcs
          have zr := lt_of_block b2.out
          rcases hcs with ⟨h1, h2, h3⟩ | ⟨h1, h2, h3, h4⟩ | ⟨h1, h2, h3, h4⟩ | ⟨h1, h2, h3, h4⟩ | ⟨h1, h2, h3⟩
          · have hfin : Hid (cb + 1 = b0 + cntB q (xs.take (k + 1))) := by show _ = _; rw [hct, h1, hcc.out]; rfl
            have hcall := Lib.hid (fun W => runsR_calls ⟨kind, th, mo⟩ W true h2)
            clear h1 h2 hct
            go_wp2_with fail
            refine (hcall.out _).mono ?_
            rintro e w2 ⟨rfl, k2⟩
            have q0 : w2.cell? ⟨b, off + k * 3, none⟩ = some (.int .i64 kind) := (k2.cell hbr (fun h => h)).trans hcx.1
            have q1 : w2.cell? ⟨b, off + k * 3 + 1, none⟩ = some (.int .i64 th) := (k2.cell hbr (fun h => h)).trans hcx.2.1
            have q2 : w2.cell? ⟨b, off + k * 3 + 2, none⟩ = some (.int .i64 mo) := (k2.cell hbr (fun h => h)).trans hcx.2.2
            have r2 : w2.cell? ⟨w.heap.size, 2, none⟩ = some (.slice (some ⟨b, off, none⟩) n c) := (k2.cell zr (fun h => h)).trans p2
            have K2 := Lib.hid (HK.out.trans k2 (fun _ _ h => h))
            clear k2 hcall hcx p0 p1 p2
            go_wp2_with fail
            exact ⟨⟨k + 1, cb + 1, by omega, by go_num, by go_num, by omega, hfin.out, K2.out⟩, by simp [intOf]; omega⟩
          · have hfin : Hid (cb = b0 + cntB q (xs.take (k + 1))) := by show _ = _; rw [hct, h1, hcc.out]; rfl
            have hcall := Lib.hid (fun W => runsR_calls ⟨kind, th, mo⟩ W true h2)
            clear h1 h2 hct
            go_wp2_with fail
            refine (hcall.out _).mono ?_
            rintro e w2 ⟨rfl, k2⟩
            have q0 : w2.cell? ⟨b, off + k * 3, none⟩ = some (.int .i64 kind) := (k2.cell hbr (fun h => h)).trans hcx.1
            have q1 : w2.cell? ⟨b, off + k * 3 + 1, none⟩ = some (.int .i64 th) := (k2.cell hbr (fun h => h)).trans hcx.2.1
            have q2 : w2.cell? ⟨b, off + k * 3 + 2, none⟩ = some (.int .i64 mo) := (k2.cell hbr (fun h => h)).trans hcx.2.2
            have r2 : w2.cell? ⟨w.heap.size, 2, none⟩ = some (.slice (some ⟨b, off, none⟩) n c) := (k2.cell zr (fun h => h)).trans p2
            have K2 := Lib.hid (HK.out.trans k2 (fun _ _ h => h))
            clear k2 hcall hcx p0 p1 p2
            go_wp2_with fail
            exact ⟨⟨k + 1, cb, by omega, by go_num, rfl, by omega, hfin.out, K2.out⟩, by simp [intOf]; omega⟩
          · have hfin : Hid (cb + 1 = b0 + cntB q (xs.take (k + 1))) := by show _ = _; rw [hct, h1, hcc.out]; rfl
            have hcall := Lib.hid (fun W => runsR_calls ⟨kind, th, mo⟩ W false h2)
            clear h1 h2 hct
            go_wp2_with fail
            refine (hcall.out _).mono ?_
            rintro e w2 ⟨rfl, k2⟩
            have q0 : w2.cell? ⟨b, off + k * 3, none⟩ = some (.int .i64 kind) := (k2.cell hbr (fun h => h)).trans hcx.1
            have q1 : w2.cell? ⟨b, off + k * 3 + 1, none⟩ = some (.int .i64 th) := (k2.cell hbr (fun h => h)).trans hcx.2.1
            have q2 : w2.cell? ⟨b, off + k * 3 + 2, none⟩ = some (.int .i64 mo) := (k2.cell hbr (fun h => h)).trans hcx.2.2
            have r2 : w2.cell? ⟨w.heap.size, 2, none⟩ = some (.slice (some ⟨b, off, none⟩) n c) := (k2.cell zr (fun h => h)).trans p2
            have K2 := Lib.hid (HK.out.trans k2 (fun _ _ h => h))
            clear k2 hcall hcx p0 p1 p2
            go_wp2_with fail
            exact ⟨⟨k + 1, cb + 1, by omega, by go_num, by go_num, by omega, hfin.out, K2.out⟩, by simp [intOf]; omega⟩
          · have hfin : Hid (cb = b0 + cntB q (xs.take (k + 1))) := by show _ = _; rw [hct, h1, hcc.out]; rfl
            have hcall := Lib.hid (fun W => runsR_calls ⟨kind, th, mo⟩ W false h2)
            clear h1 h2 hct
            go_wp2_with fail
            refine (hcall.out _).mono ?_
            rintro e w2 ⟨rfl, k2⟩
            have q0 : w2.cell? ⟨b, off + k * 3, none⟩ = some (.int .i64 kind) := (k2.cell hbr (fun h => h)).trans hcx.1
            have q1 : w2.cell? ⟨b, off + k * 3 + 1, none⟩ = some (.int .i64 th) := (k2.cell hbr (fun h => h)).trans hcx.2.1
            have q2 : w2.cell? ⟨b, off + k * 3 + 2, none⟩ = some (.int .i64 mo) := (k2.cell hbr (fun h => h)).trans hcx.2.2
            have r2 : w2.cell? ⟨w.heap.size, 2, none⟩ = some (.slice (some ⟨b, off, none⟩) n c) := (k2.cell zr (fun h => h)).trans p2
            have K2 := Lib.hid (HK.out.trans k2 (fun _ _ h => h))
            clear k2 hcall hcx p0 p1 p2
            go_wp2_with fail
            exact ⟨⟨k + 1, cb, by omega, by go_num, rfl, by omega, hfin.out, K2.out⟩, by simp [intOf]; omega⟩
          · have hfin : Hid (cb = b0 + cntB q (xs.take (k + 1))) := by show _ = _; rw [hct, h1, hcc.out]; rfl
            have hcall := Lib.hid (fun W => runsR_calls ⟨kind, th, mo⟩ W false h2)
            clear h1 h2 hct
            go_wp2_with fail
            refine (hcall.out _).mono ?_
            rintro e w2 ⟨rfl, k2⟩
            have q0 : w2.cell? ⟨b, off + k * 3, none⟩ = some (.int .i64 kind) := (k2.cell hbr (fun h => h)).trans hcx.1
            have q1 : w2.cell? ⟨b, off + k * 3 + 1, none⟩ = some (.int .i64 th) := (k2.cell hbr (fun h => h)).trans hcx.2.1
            have q2 : w2.cell? ⟨b, off + k * 3 + 2, none⟩ = some (.int .i64 mo) := (k2.cell hbr (fun h => h)).trans hcx.2.2
            have r2 : w2.cell? ⟨w.heap.size, 2, none⟩ = some (.slice (some ⟨b, off, none⟩) n c) := (k2.cell zr (fun h => h)).trans p2
            have K2 := Lib.hid (HK.out.trans k2 (fun _ _ h => h))
            clear k2 hcall hcx p0 p1 p2
            go_wp2_with fail
            exact ⟨⟨k + 1, cb, by omega, by go_num, rfl, by omega, hfin.out, K2.out⟩, by simp [intOf]; omega⟩
        · obtain rfl : k = n := by omega
          have hbf : Hid (cb = b0 + cntB q xs) := by show _ = _; rw [hcc.out, List.take_of_length_le (by rw [hn.out]; omega)]
          obtain ⟨SL, hSL⟩ : ∃ SL, Hid (SL = preL mode thread ++ xs.filterMap fKeep) := ⟨_, rfl⟩
          have hsl : SL.length ≤ 1 + k := by
            rw [hSL.out, List.length_append]
            have h1 := preL_len mode thread
            have h2 := len_fm fKeep xs
            rw [hn.out] at h2
            omega
          have hkeep : Hid (∀ (j : Nat) (y : Ev), SL[j]? = some y → keepB y = true) := fun j y hj => by
            have h := List.mem_of_getElem? hj
            rw [hSL.out] at h
            exact strip_keep mode thread xs y h
          have hs : Calls Try.prog 13 #[vesV mode thread A k c] wr (NewEvs wr SL) := by
            have h := strip_calls mode thread A c xs wr (by rw [hn.out]; exact HR.out.keeps KW.out (fun _ _ h => h)) Hl.out
            rw [hn.out] at h
            rw [hSL.out]; exact h
          have Hs := Lib.hid hs
          have hend : Hid (cntB q SL = cb) := by show _ = _; rw [hSL.out, cnt_strip q mode thread hq1, hbf.out, hb0.out]
          clear hs hlt
          go_wp2_with fail
          refine Hs.out.mono ?_
          rintro e w2 ⟨A2, c2, rfl, M2⟩
          have K2 := Lib.hid (KW.out.trans M2.kp (fun _ _ h => h))
          have RS := Lib.hid (Own.rd encE_len M2.own)
          obtain ⟨m, hm⟩ : ∃ m, Hid (SL.length = m) := ⟨_, rfl⟩
          obtain ⟨A3, b3, o3, c3, hv3, hA3, hc3⟩ := RS.out
          have HA3 : Hid (0 < m → A2 = some ⟨b3, o3, none⟩ ∧ b3 < w2.heap.size) := fun h0 => by
            simp only [Value.slice.injEq] at hv3
            rw [hv3.1]; exact hA3 (by rw [hm.out]; exact h0)
          have Hc3 := Lib.hid hc3
          rw [hm.out] at hsl ⊢
          clear M2 hv3 hA3 hc3 A3 c3 p0 p1 p2 hcc HK
          go_wp2_with fail
          go_loopw [12, 14] (fun b i wr => KeepsRel w2 q 0 m SL b i wr) (fun _ i _ => m - (intOf i).toNat)
          case atStart => exact ⟨0, 0, Nat.zero_le _, rfl, rfl, by omega, by show _ = _; simp [cntB], Keeps.refl _ _⟩
          case round =>
            obtain ⟨j, ca, hj, rfl, rfl, hca, hcc, HK⟩ := hrel
            by_cases hlt : j < m
            · obtain ⟨x, hx⟩ : ∃ x, SL[j]? = some x := ⟨_, List.getElem?_eq_getElem (by rw [hm.out]; exact hlt)⟩
              obtain ⟨rfl, hb1⟩ := HA3.out (by omega)
              have hcx := cells3 Hc3.out hx
              rw [← HK.out.cell hb1 (fun h => h), ← HK.out.cell hb1 (fun h => h), ← HK.out.cell hb1 (fun h => h)] at hcx
              have hct := cnt_take q SL j x hx
              have hbr : b3 < wr.heap.size := Nat.lt_of_lt_of_le hb1 HK.out.size
              have hcs := hit_cases q x
              have hkb := hkeep.out j x hx
              clear hx
              obtain ⟨kind, th, mo⟩ := x
              dsimp only at hcx hcs
              rcases hcs with ⟨h1, h2, h3⟩ | ⟨h1, h2, h3, h4⟩ | ⟨h1, h2, h3, h4⟩ | ⟨h1, h2, h3, h4⟩ | ⟨h1, h2, h3⟩
              · have hfin : Hid (ca + 1 = 0 + cntB q (SL.take (j + 1))) := by show _ = _; rw [hct, h1, hcc.out]; rfl
                have hcall := Lib.hid (fun W => runsR_calls ⟨kind, th, mo⟩ W true h2)
                clear h1 h2 hct hkb
                go_wp2_with fail
                refine (hcall.out _).mono ?_
                rintro e w4 ⟨rfl, k4⟩
                have q0 : w4.cell? ⟨b3, o3 + j * 3, none⟩ = some (.int .i64 kind) := (k4.cell hbr (fun h => h)).trans hcx.1
                have q1 : w4.cell? ⟨b3, o3 + j * 3 + 1, none⟩ = some (.int .i64 th) := (k4.cell hbr (fun h => h)).trans hcx.2.1
                have q2 : w4.cell? ⟨b3, o3 + j * 3 + 2, none⟩ = some (.int .i64 mo) := (k4.cell hbr (fun h => h)).trans hcx.2.2
                have K4 := Lib.hid (HK.out.trans k4 (fun _ _ h => h))
                clear k4 hcall hcx
                go_wp2_with fail
                exact ⟨⟨j + 1, ca + 1, by omega, by go_num, by go_num, by omega, hfin.out, K4.out⟩, by simp [intOf]; omega⟩
              · have hfin : Hid (ca = 0 + cntB q (SL.take (j + 1))) := by show _ = _; rw [hct, h1, hcc.out]; rfl
                have hcall := Lib.hid (fun W => runsR_calls ⟨kind, th, mo⟩ W true h2)
                clear h1 h2 hct hkb
                go_wp2_with fail
                refine (hcall.out _).mono ?_
                rintro e w4 ⟨rfl, k4⟩
                have q0 : w4.cell? ⟨b3, o3 + j * 3, none⟩ = some (.int .i64 kind) := (k4.cell hbr (fun h => h)).trans hcx.1
                have q1 : w4.cell? ⟨b3, o3 + j * 3 + 1, none⟩ = some (.int .i64 th) := (k4.cell hbr (fun h => h)).trans hcx.2.1
                have q2 : w4.cell? ⟨b3, o3 + j * 3 + 2, none⟩ = some (.int .i64 mo) := (k4.cell hbr (fun h => h)).trans hcx.2.2
                have K4 := Lib.hid (HK.out.trans k4 (fun _ _ h => h))
                clear k4 hcall hcx
                go_wp2_with fail
                exact ⟨⟨j + 1, ca, by omega, by go_num, rfl, by omega, hfin.out, K4.out⟩, by simp [intOf]; omega⟩
              · have hfin : Hid (ca + 1 = 0 + cntB q (SL.take (j + 1))) := by show _ = _; rw [hct, h1, hcc.out]; rfl
                have hcall := Lib.hid (fun W => runsR_calls ⟨kind, th, mo⟩ W false h2)
                clear h1 h2 hct hkb
                go_wp2_with fail
                refine (hcall.out _).mono ?_
                rintro e w4 ⟨rfl, k4⟩
                have q0 : w4.cell? ⟨b3, o3 + j * 3, none⟩ = some (.int .i64 kind) := (k4.cell hbr (fun h => h)).trans hcx.1
                have q1 : w4.cell? ⟨b3, o3 + j * 3 + 1, none⟩ = some (.int .i64 th) := (k4.cell hbr (fun h => h)).trans hcx.2.1
                have q2 : w4.cell? ⟨b3, o3 + j * 3 + 2, none⟩ = some (.int .i64 mo) := (k4.cell hbr (fun h => h)).trans hcx.2.2
                have K4 := Lib.hid (HK.out.trans k4 (fun _ _ h => h))
                clear k4 hcall hcx
                go_wp2_with fail
                exact ⟨⟨j + 1, ca + 1, by omega, by go_num, by go_num, by omega, hfin.out, K4.out⟩, by simp [intOf]; omega⟩
              · have hfin : Hid (ca = 0 + cntB q (SL.take (j + 1))) := by show _ = _; rw [hct, h1, hcc.out]; rfl
                have hcall := Lib.hid (fun W => runsR_calls ⟨kind, th, mo⟩ W false h2)
                clear h1 h2 hct hkb
                go_wp2_with fail
                refine (hcall.out _).mono ?_
                rintro e w4 ⟨rfl, k4⟩
                have q0 : w4.cell? ⟨b3, o3 + j * 3, none⟩ = some (.int .i64 kind) := (k4.cell hbr (fun h => h)).trans hcx.1
                have q1 : w4.cell? ⟨b3, o3 + j * 3 + 1, none⟩ = some (.int .i64 th) := (k4.cell hbr (fun h => h)).trans hcx.2.1
                have q2 : w4.cell? ⟨b3, o3 + j * 3 + 2, none⟩ = some (.int .i64 mo) := (k4.cell hbr (fun h => h)).trans hcx.2.2
                have K4 := Lib.hid (HK.out.trans k4 (fun _ _ h => h))
                clear k4 hcall hcx
                go_wp2_with fail
                exact ⟨⟨j + 1, ca, by omega, by go_num, rfl, by omega, hfin.out, K4.out⟩, by simp [intOf]; omega⟩
              · exfalso
                simp [keepB, h2] at hkb
                omega
            · obtain rfl : j = m := by omega
              have hca' : ca = cb := by rw [hcc.out, List.take_of_length_le (by rw [hm.out]; omega), hend.out, Nat.zero_add]
              subst hca'
              have K3 := Lib.hid (K2.out.trans HK.out (fun _ _ h => h))
              clear hlt
              go_wp2_with fail
              refine (awake15_calls _).mono ?_
              rintro e w5 ⟨rfl, k5⟩
              have K5 := Lib.hid (K3.out.trans k5 (fun _ _ h => h))
              clear k5
              go_wp2_with fail
              go_ret
              exact ⟨rfl, K5.out.below (Nat.le_refl _) (fun _ h => h.elim)⟩
end Go.Proofs.Ytpchhlhjmkkoiaa
