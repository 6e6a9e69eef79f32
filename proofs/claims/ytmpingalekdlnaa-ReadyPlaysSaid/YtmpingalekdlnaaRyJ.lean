/- ReadyPlays: rows, by whatever comes, and whoever picks. -/
import Derived.Test.YtmpingalekdlnaaRyI
namespace Go.Proofs.Ytmpingalekdlnaa
open Go.RowKit
namespace Ry
open Dq

theorem addB_true {qs : List (List Int)} {p t : Int} (h : addB qs p t = true) : ∃ (k : Nat) (q : List Int), p = k ∧ k < qs.length ∧ qs[k]? = some q ∧ t ∉ qs.flatten ∧ addQ qs p t = qs.set k (q ++ [t]) := by
  have h' := h
  unfold addB at h
  rw [Bool.and_eq_true] at h
  have hp := of_decide_eq_true h.1
  obtain ⟨k, rfl⟩ : ∃ k : Nat, p = k := ⟨p.toNat, by omega⟩
  have hk : k < qs.length := by omega
  refine ⟨k, _, rfl, hk, List.getElem?_eq_getElem hk, fun hm => ?_, ?_⟩
  · obtain ⟨q, hq, ht⟩ := List.mem_flatten.1 hm
    have h2 := h.2
    rw [Bool.not_eq_true', List.any_eq_false] at h2
    refine h2 q hq ?_
    rw [List.any_eq_true]
    exact ⟨t, ht, by simp⟩
  · unfold addQ
    rw [if_pos h', Int.toNat_natCast, List.getD_eq_getElem?_getD, List.getElem?_eq_getElem hk]; rfl

theorem addQ_false {qs : List (List Int)} {p t : Int} (h : addB qs p t = false) : addQ qs p t = qs := by
  unfold addQ
  rw [if_neg (by rw [h]; simp)]

theorem elI13 : Elem Try.prog 30 3 (.int .i64 0) 1 8 := Elem.mk' (by kernel_rfl) (by kernel_rfl) rfl (by decide)

/-- A row, or none. -/
def rowOf (qs : List (List Int)) (i : Int) : List Int := if 0 ≤ i ∧ i < qs.length then qs.getD i.toNat [] else []

theorem rowOf_in {qs : List (List Int)} {k : Nat} {q : List Int} (h : qs[k]? = some q) : rowOf qs k = q := by
  have hk := (List.getElem?_eq_some_iff.1 h).1
  unfold rowOf
  rw [if_pos (by omega), Int.toNat_natCast, List.getD_eq_getElem?_getD, h]; rfl

theorem rowOf_out {qs : List (List Int)} {i : Int} (h : ¬ (0 ≤ i ∧ i < qs.length)) : rowOf qs i = [] := by
  unfold rowOf
  rw [if_neg h]

theorem readsNil (w : World) : ReadsI .i64 w (.slice none 0 0) [] := ⟨none, 0, 0, 0, rfl, fun h => by simp at h, fun j x hx => by simp at hx⟩

theorem rowAny {w wr : World} {r n : Nat} {qs : List (List Int)} {B : Nat → Prop} (i : Int) (I : RyS w r n qs B wr) : Calls Try.prog 16 #[ptr r, .int .i64 i] wr (RAll w r n qs B (rowOf qs i) wr) := by
  by_cases h : 0 ≤ i ∧ i < qs.length
  · obtain ⟨k, rfl⟩ : ∃ k : Nat, i = k := ⟨i.toNat, by omega⟩
    have hq : qs[k]? = some qs[k] := List.getElem?_eq_getElem (by omega)
    rw [rowOf_in hq]
    exact rows_calls k _ I hq
  · rw [rowOf_out h]
    refine (rowsOut_calls i I (by rw [← I.ql]; omega)).mono ?_
    rintro e w' ⟨rfl, rfl⟩
    exact ⟨none, 0, rfl, readsNil _, fun b hb => by simp [Value.ownBlock] at hb, Keeps.refl _ _, I⟩

theorem all_take {qs : List (List Int)} (kk : Nat) : ((qs.take kk).all fun q => decide (q = [])) = (((qs.take (kk - 1)).all fun q => decide (q = [])) && decide (rowOf qs ((kk : Int) - 1) = [])) := by
  cases kk with
  | zero =>
    have : rowOf qs (((0 : Nat) : Int) - 1) = [] := rowOf_out (by omega)
    rw [this]; simp
  | succ m =>
    rw [show (((m + 1 : Nat)) : Int) - 1 = (m : Int) by omega, Nat.add_sub_cancel]
    by_cases hm : m < qs.length
    · have hq : qs[m]? = some qs[m] := List.getElem?_eq_getElem hm
      rw [rowOf_in hq, List.take_add_one, hq, List.all_append]
      simp
    · rw [rowOf_out (by omega), List.take_of_length_le (by omega), List.take_of_length_le (by omega)]
      simp

/-- What stands behind k acts. -/
structure PlRel (w : World) (r n o len k : Nat) (qs : List (List Int)) (vs : List Value) (wr : World) : Prop where
  k1 : k ≤ 100
  k2 : k ≤ len
  s : LawR w r n qs o vs wr
  nd : qs.flatten.Nodup
  fl : qs.flatten.length ≤ k

theorem PlRel.same {w wr w' : World} {r n o len k : Nat} {qs : List (List Int)} {vs : List Value} (h : PlRel w r n o len k qs vs wr) (h1 : k < 100) (h2 : k < len) (kk : Keeps NoBlock wr w') : PlRel w r n o len (k + 1) qs vs w' :=
  ⟨by omega, by omega, h.s.keeps kk, h.nd, by have := h.fl; omega⟩

theorem pact_cells {w : World} {b off : Nat} {l : List PAct} (h : ∀ (j : Nat) (x : PAct) (i : Nat) (u : Value), l[j]? = some x → (encP x)[i]? = some u → w.cell? ⟨b, off + j * 3 + i, none⟩ = some u) {k : Nat} {x : PAct} (hx : l[k]? = some x) :
    w.cell? ⟨b, off + k * 3, none⟩ = some (.bool x.pick) ∧ w.cell? ⟨b, off + k * 3 + 1, none⟩ = some (.int .i64 x.proc) ∧ w.cell? ⟨b, off + k * 3 + 2, none⟩ = some (.int .i64 x.thread) :=
  ⟨h k x 0 _ hx rfl, h k x 1 _ hx rfl, h k x 2 _ hx rfl⟩

/-- What a pick comes to, before it is known whether there is one. -/
theorem PickPost.gen {w wr w' : World} {r n : Nat} {qs : List (List Int)} {p : Int} {B : Nat → Prop} {e : Ending} (h : PickPost w r n qs p B wr e w') : ∃ (t : Int) (ok : Bool) (qs' : List (List Int)), e = out2 t ok ∧ RyS w r n qs' B w' ∧ Keeps (fun b => ¬ B b) wr w' ∧
    ((pickR qs p = none ∧ ok = false ∧ t = 0 ∧ qs' = qs) ∨ ∃ (k ix : Nat) (q : List Int), pickR qs p = some (k, ix) ∧ qs[k]? = some q ∧ q[ix]? = some t ∧ ok = true ∧ qs' = qs.set k (q.eraseIdx ix)) := by
  rcases h with ⟨h, he, hs, hk⟩ | ⟨k, ix, q, t, h, hq, ht, he, hs, hk⟩
  · exact ⟨0, false, qs, he, hs, hk, .inl ⟨h, rfl, rfl, rfl⟩⟩
  · exact ⟨t, true, _, he, hs, hk, .inr ⟨k, ix, q, h, hq, ht, rfl, rfl⟩⟩

def encF : Option (Nat × Nat) → Int
  | none => -1
  | some x => x.1
def encA : Option (Nat × Nat) → Int
  | none => 0
  | some x => x.2

/-- How far the law has looked for somebody to pick. -/
structure Looked (qs : List (List Int)) (n : Nat) (p : Int) (inb : Bool) (j : Nat) (fa : Option (Nat × Nat)) : Prop where
  no : fa = none → inb = true → (∀ (k : Nat) (q : List Int), p = k → qs[k]? = some q → q = []) ∧ ∀ (i : Nat) (q : List Int), i < j → qs[i]? = some q → q = []
  yes : ∀ x, fa = some x → pickR qs p = some x ∧ inb = true

theorem Looked.end {qs : List (List Int)} {n : Nat} {p : Int} {inb : Bool} {j : Nat} {fa : Option (Nat × Nat)} (h : Looked qs n p inb j fa) (hql : qs.length = n) (hin : inb = decide (0 ≤ p ∧ p < n)) (he : ¬ (j < n ∧ inb = true ∧ fa = none)) : fa = pickR qs p := by
  cases fa with
  | some x => exact (h.yes x rfl).1.symm
  | none =>
    cases inb with
    | false =>
      have := of_decide_eq_false hin.symm
      exact (pickR_out (by omega)).symm
    | true =>
      have hp := of_decide_eq_true hin.symm
      have hj : ¬ j < n := fun hj => he ⟨hj, rfl, rfl⟩
      obtain ⟨k, rfl⟩ : ∃ k : Nat, p = k := ⟨p.toNat, by omega⟩
      refine (pickR_none (by omega) (fun i q hi => (h.no rfl rfl).2 i q ?_ hi)).symm
      have := (List.getElem?_eq_some_iff.1 hi).1
      omega

theorem Looked.start {qs : List (List Int)} {n : Nat} {p : Int} {inb : Bool} (hin : inb = decide (0 ≤ p ∧ p < n)) : ∃ fa, Looked qs n p inb 0 fa ∧ (fa = none ∨ ∃ (k : Nat), p = k ∧ inb = true ∧ fa = some (k, 0)) ∧ (∀ (k : Nat) (q : List Int), p = k → inb = true → qs[k]? = some q → (fa = none ↔ q = [])) := by
  cases inb with
  | false => exact ⟨none, ⟨fun _ h => (by cases h), fun x h => (by cases h)⟩, .inl rfl, fun _ _ _ h => (by cases h)⟩
  | true =>
    have hp := of_decide_eq_true hin.symm
    obtain ⟨k, rfl⟩ : ∃ k : Nat, p = k := ⟨p.toNat, by omega⟩
    by_cases h : ∃ q, qs[k]? = some q ∧ q ≠ []
    · obtain ⟨q, hq, hne⟩ := h
      refine ⟨some (k, 0), ⟨fun h => (by cases h), fun x hx => (by cases hx; exact ⟨pickR_own hq hne, rfl⟩)⟩, .inr ⟨k, rfl, rfl, rfl⟩, fun k' q' hk _ hq' => ?_⟩
      obtain rfl : k = k' := by omega
      rw [hq] at hq'
      cases hq'
      exact ⟨fun h => (by cases h), fun h => absurd h hne⟩
    · refine ⟨none, ⟨fun _ _ => ⟨fun k' q hk hq => ?_, fun i q hi => by omega⟩, fun x hx => by cases hx⟩, .inl rfl, fun k' q hk _ hq => ⟨fun _ => ?_, fun _ => rfl⟩⟩
      · obtain rfl : k = k' := by omega
        exact Classical.byContradiction fun hne => h ⟨q, hq, hne⟩
      · obtain rfl : k = k' := by omega
        exact Classical.byContradiction fun hne => h ⟨q, hq, hne⟩

theorem Looked.step {qs : List (List Int)} {n : Nat} {p : Int} {j : Nat} {q : List Int} (h : Looked qs n p true j none) (hin : (true : Bool) = decide (0 ≤ p ∧ p < n)) (hql : qs.length = n) (hq : qs[j]? = some q) : Looked qs n p true (j + 1) (if q = [] then none else some (j, q.length - 1)) := by
  have hp := of_decide_eq_true hin.symm
  obtain ⟨k, rfl⟩ : ∃ k : Nat, p = k := ⟨p.toNat, by omega⟩
  have hno := h.no rfl rfl
  by_cases hq0 : q = []
  · rw [if_pos hq0]
    refine ⟨fun _ _ => ⟨hno.1, fun i q' hi hq' => ?_⟩, fun x hx => by cases hx⟩
    by_cases e : i = j
    · subst e; rw [hq] at hq'; cases hq'; exact hq0
    · exact hno.2 i q' (by omega) hq'
  · rw [if_neg hq0]
    refine ⟨fun h => (by cases h), fun x hx => ?_⟩
    cases hx
    obtain ⟨q1, hq1⟩ : ∃ q1, qs[k]? = some q1 := ⟨_, List.getElem?_eq_getElem (by omega)⟩
    have := hno.1 k q1 rfl hq1
    subst this
    exact ⟨pickR_other hq1 hq hq0 hno.2, rfl⟩

set_option maxHeartbeats 8000000 in
set_option maxRecDepth 100000 in
theorem plays13_calls (procs : Int) (A : Option Addr) (b off len cap : Nat) (zs : List PAct) (hzl : zs.length = len) (w : World) (hA : 0 < len → A = some ⟨b, off, none⟩ ∧ b < w.heap.size)
    (hc : ∀ (j : Nat) (x : PAct) (i : Nat) (u : Value), zs[j]? = some x → (encP x)[i]? = some u → w.cell? ⟨b, off + j * 3 + i, none⟩ = some u) (hl : len ≤ 1000000000000000) :
    Calls Try.prog 3 #[.int .i64 procs, .slice A len cap] w fun e w' => e = .returned (.bool true) ∧ Below w.heap.size w w' := by
  have Hc := Lib.hid hc
  have HA := Lib.hid hA
  have Hzl := Lib.hid hzl
  clear hc hA hzl
  obtain ⟨n, hn⟩ : ∃ n : Nat, (n : Int) = min (max procs 0) 64 := ⟨(min (max procs 0) 64).toNat, by omega⟩
  have hn64 : n ≤ 64 := by omega
  obtain ⟨m0, hm0⟩ : ∃ m0, max procs 0 = m0 := ⟨_, rfl⟩
  have hnm : Hid ((n : Int) = min m0 64) := by show _ = _; rw [← hm0]; exact hn
  have hmp : Hid (procs < 0 → m0 = 0) := fun h => by omega
  have hmp2 : Hid (0 ≤ procs → m0 = procs) := fun h => by omega
  have Hn := Lib.hid hn
  clear hn hm0
  obtain ⟨r, hr⟩ : ∃ r, r = w.heap.size := ⟨_, rfl⟩
  go_enter Try.func3, Try.ntmps3
  go_wp2_with fail
  refine (new_calls procs n Hn.out w).mono ?_
  rintro e w1 ⟨rfl, I1⟩
  rw [← hr] at I1 ⊢
  clear hr
  have HI1 := Lib.hid I1
  clear I1
  go_upto_if 28 with fail
  go_cut [6] from 28 to 28 (fun v wx => v = .int .i64 m0 ∧ w1 = wx)
  case first =>
    by_cases h : procs < 0
    · have hm := Lib.hid (hmp.out h)
      have hd : decide (procs < 0) = true := decide_eq_true h
      go_wp2_with fail
      go_meet
      case rel => exact ⟨by rw [hm.out], rfl⟩
    · have hm := Lib.hid (hmp2.out (by omega))
      have hd : decide (procs < 0) = false := decide_eq_false h
      go_wp2_with fail
      go_meet
      case rel => exact ⟨by rw [hm.out], rfl⟩
  case rest =>
    obtain ⟨rfl, rfl⟩ := hcut
    go_upto_if 30 with fail
    go_cut [6] from 30 to 30 (fun v wx => v = .int .i64 n ∧ w1 = wx)
    case first =>
      by_cases h : 64 < m0
      · have hm : Hid ((n : Int) = 64) := by have := hnm.out; show _ = _; omega
        have hd : decide (64 < m0) = true := decide_eq_true h
        go_wp2_with fail
        go_meet
        case rel => exact ⟨by rw [hm.out], rfl⟩
      · have hm : Hid ((n : Int) = m0) := by have := hnm.out; show _ = _; omega
        have hd : decide (64 < m0) = false := decide_eq_false h
        go_wp2_with fail
        go_meet
        case rel => exact ⟨by rw [hm.out], rfl⟩
    case rest =>
      obtain ⟨rfl, rfl⟩ := hcut
      have hmk := run_mk elR n (by omega) (by decide)
      obtain ⟨o, ho⟩ : ∃ o, Hid (o = w1.heap.size) := ⟨_, rfl⟩
      have L0 : Hid (LawR w r n (List.replicate n []) o (List.replicate n (.slice none 0 0)) (w1.alloc (.cells (madeCells #[Value.slice none 0 0] n) 30))) := by
        show LawR _ _ _ _ _ _ _
        rw [ho.out]
        exact lawR_start HI1.out rfl
      go_wp2_with fail
      rw [← ho.out]
      clear hmk
      have Hst : Hid (∃ qs vs, PlRel w r n o len 0 qs vs (w1.alloc (.cells (madeCells #[Value.slice none 0 0] n) 30))) := ⟨_, _, by omega, by omega, L0.out, by simp, by simp⟩
      clear L0 ho HI1 hmp hmp2 hnm Hn
      generalize World.alloc w1 _ = w9 at Hst ⊢
      go_loopw [8] (fun i wr => ∃ (k : Nat) (qs : List (List Int)) (vs : List Value), i = .int .i64 k ∧ PlRel w r n o len k qs vs wr) (fun i _ => 100 - (intOf i).toNat)
      case atStart =>
        obtain ⟨qs, vs, h⟩ := Hst.out
        exact ⟨0, qs, vs, rfl, h⟩
      case round =>
        obtain ⟨k, qs, vs, rfl, R⟩ := hrel
        clear Hst
        have HR := Lib.hid R
        have hk1 := R.k1
        have hk2 := R.k2
        have hkp := Lib.hid R.s.s.kp
        clear R
        by_cases hlt : k < len ∧ k < 100
        · obtain ⟨hlt, hlt6⟩ := hlt
          obtain ⟨rfl, hbw⟩ := HA.out (by omega)
          obtain ⟨x, hx⟩ : ∃ x, zs[k]? = some x := ⟨_, List.getElem?_eq_getElem (by rw [Hzl.out]; exact hlt)⟩
          obtain ⟨q0, q1, q2⟩ := pact_cells Hc.out hx
          obtain ⟨pk, p, t⟩ := x
          dsimp only at q0 q1 q2
          have c0 : wr.cell? ⟨b, off + k * 3, none⟩ = some (.bool pk) := by rw [hkp.out.cell hbw (fun h => h)]; exact q0
          have c1 : wr.cell? ⟨b, off + k * 3 + 1, none⟩ = some (.int .i64 p) := by rw [hkp.out.cell hbw (fun h => h)]; exact q1
          have c2 : wr.cell? ⟨b, off + k * 3 + 2, none⟩ = some (.int .i64 t) := by rw [hkp.out.cell hbw (fun h => h)]; exact q2
          have Q2 := Lib.hid q2
          clear hx q0 q1 q2
          obtain ⟨inb, hinb⟩ : ∃ inb, Hid (inb = decide (0 ≤ p ∧ p < (n : Int))) := ⟨_, rfl⟩
          go_upto_region 12 with fail
          go_cut [10] from 36 to 54 (fun v wx => v = .bool inb ∧ wr = wx)
          case first =>
            by_cases h1 : 0 ≤ p
            · by_cases h2 : p < n
              · have hi : Hid (inb = true) := by have := hinb.out; show _ = _; rw [this]; exact decide_eq_true ⟨h1, h2⟩
                go_wp2_with fail
                go_meet
                case rel => exact ⟨by rw [hi.out], rfl⟩
              · have hi : Hid (inb = false) := by have := hinb.out; show _ = _; rw [this]; exact decide_eq_false (by omega)
                have hd : decide (p < (n : Int)) = false := decide_eq_false h2
                go_wp2_with fail
                go_meet
                case rel => exact ⟨by rw [hi.out], rfl⟩
            · have hi : Hid (inb = false) := by have := hinb.out; show _ = _; rw [this]; exact decide_eq_false (by omega)
              have hd : decide (0 ≤ p) = false := decide_eq_false h1
              go_wp2_with fail
              go_meet
              case rel => exact ⟨by rw [hi.out], rfl⟩
          case rest =>
            obtain ⟨rfl, rfl⟩ := hcut
            cases pk with
            | true =>
              have hp := Lib.hid (pick_calls p HR.out.s.s hn64)
              go_wp2_with fail
              refine hp.out.mono ?_
              intro e w2 hpost
              obtain ⟨tt, okk, qs2, rfl, S2, k2, hcase⟩ := hpost.gen
              have HS2 := Lib.hid S2
              have HL2 := Lib.hid (HR.out.s.l.keeps k2 (fun b hb hn => hn hb))
              have Hcase := Lib.hid hcase
              have hbw2 := Lib.hid (Nat.lt_of_lt_of_le hbw (HS2.out.kp).size)
              clear hpost S2 k2 hcase hp
              obtain ⟨fa, hfa, hfa1, hfa2⟩ := Looked.start (qs := qs) hinb.out
              have Hfa := Lib.hid hfa
              have Hfa1 := Lib.hid hfa1
              have Hfa2 := Lib.hid hfa2
              clear hfa hfa1 hfa2
              obtain ⟨gb, hgb⟩ : ∃ gb, Hid (gb = fa.isSome) := ⟨_, rfl⟩
              go_upto_region 16 with fail
              go_cut [74] from 66 to 73 (fun v wx => v = .bool gb ∧ w2 = wx)
              case first =>
                cases inb with
                | false =>
                  have hf : Hid (fa = none) := by
                    rcases Hfa1.out with h | ⟨_, _, h, _⟩
                    · exact h
                    · cases h
                  go_wp2_with fail
                  go_meet
                  case rel => exact ⟨by rw [hgb.out, hf.out]; rfl, rfl⟩
                | true =>
                  have hpb := of_decide_eq_true hinb.out.symm
                  obtain ⟨kp, rfl⟩ : ∃ kp : Nat, p = kp := ⟨p.toNat, by omega⟩
                  obtain ⟨q, hq⟩ : ∃ q, qs[kp]? = some q := ⟨_, List.getElem?_eq_getElem (by rw [HL2.out.ql]; omega)⟩
                  obtain ⟨A1, c1', _, hcell, _⟩ := HL2.out.at hq
                  have hif := Lib.hid (Hfa2.out kp q rfl rfl hq)
                  have hb0 : (0 : Int) ≤ (kp : Int) := by omega
                  have hb1 : (kp : Int) < (n : Int) := by omega
                  obtain ⟨L, hL⟩ : ∃ L, Hid (q.length = L) := ⟨_, rfl⟩
                  rw [hL.out] at hcell
                  clear hq hpb
                  by_cases hL0 : 0 < L
                  · have hg : decide ((0 : Int) < (L : Int)) = true := by simp; omega
                    have hfs : Hid (fa = some (kp, 0)) := by
                      rcases Hfa1.out with h | ⟨k', hk', _, h⟩
                      · have := hif.out.1 h
                        have h2 := hL.out
                        rw [this] at h2
                        simp at h2; omega
                      · obtain rfl : kp = k' := by omega
                        exact h
                    go_wp2_with fail
                    go_meet
                    case rel => exact ⟨by rw [hgb.out, hfs.out]; rfl, rfl⟩
                  · have hg : decide ((0 : Int) < (L : Int)) = false := by simp; omega
                    have hfs : Hid (fa = none) := hif.out.2 (List.eq_nil_of_length_eq_zero (by have := hL.out; omega))
                    go_wp2_with fail
                    go_meet
                    case rel => exact ⟨by rw [hgb.out, hfs.out]; rfl, rfl⟩
              case rest =>
                obtain ⟨rfl, rfl⟩ := hcut
                go_upto_if 74 with fail
                go_cut [13] from 74 to 75 (fun v wx => v = .int .i64 (encF fa) ∧ w2 = wx)
                case first =>
                  rcases Hfa1.out with h | ⟨kp, hkp, _, h⟩
                  · have hf := Lib.hid h
                    obtain rfl : false = gb := by rw [hgb.out, h]; rfl
                    clear h
                    go_wp2_with fail
                    go_meet
                    case rel => exact ⟨by rw [hf.out]; rfl, rfl⟩
                  · have hf := Lib.hid hkp
                    have hh := Lib.hid h
                    obtain rfl : true = gb := by rw [hgb.out, h]; rfl
                    clear h hkp
                    go_wp2_with fail
                    go_meet
                    case rel => exact ⟨by rw [hh.out, hf.out]; rfl, rfl⟩
                case rest =>
                 obtain ⟨rfl, rfl⟩ := hcut
                 have hA0 : Hid ((0 : Int) = encA fa) := by
                   rcases Hfa1.out with h | ⟨_, _, _, h⟩ <;> rw [h] <;> rfl
                 go_wp2_with fail
                 go_loopw [13, 14, 15] (fun v13 v14 v15 wx => ∃ (j : Nat) (fb : Option (Nat × Nat)), j ≤ n ∧ v15 = .int .i64 j ∧ v13 = .int .i64 (encF fb) ∧ v14 = .int .i64 (encA fb) ∧ Looked qs n p inb j fb ∧ Keeps NoBlock w2 wx) (fun _ _ i _ => n - (intOf i).toNat)
                 case atStart => exact ⟨0, fa, Nat.zero_le _, rfl, rfl, by rw [← hA0.out], Hfa.out, Keeps.refl _ _⟩
                 case round =>
                   obtain ⟨j, fb, hjn, rfl, rfl, rfl, hlk, kx⟩ := hrel
                   clear hA0 Hfa Hfa1 Hfa2
                   have Hlk := Lib.hid hlk
                   have KX := Lib.hid kx
                   clear hlk kx
                   by_cases hgo : j < n ∧ inb = true ∧ fb = none
                   · obtain ⟨hj, rfl, rfl⟩ := hgo
                     obtain ⟨q, hq⟩ : ∃ q, qs[j]? = some q := ⟨_, List.getElem?_eq_getElem (by rw [HL2.out.ql]; omega)⟩
                     have hstep := Lib.hid (Hlk.out.step hinb.out HL2.out.ql hq)
                     obtain ⟨A1, c1', _, hcell, _⟩ := (HL2.out.keeps KX.out (fun _ _ h => h)).at hq
                     obtain ⟨L, hL⟩ : ∃ L, Hid (q.length = L) := ⟨_, rfl⟩
                     rw [hL.out] at hcell
                     have hb1 : (j : Int) < (n : Int) := by omega
                     have Hlf := Lib.hid (len_flat (List.mem_of_getElem? hq))
                     have hF : encF none = -1 := rfl
                     have hA : encA none = 0 := rfl
                     rw [hF, hA]
                     clear hq hF hA
                     by_cases hL0 : 0 < L
                     · have hg : decide ((0 : Int) < (L : Int)) = true := by simp; omega
                       have hs2 : Hid (Looked qs n p true (j + 1) (some (j, L - 1))) := by
                         have := hstep.out
                         rw [if_neg (by intro e; have h2 := hL.out; rw [e] at h2; simp at h2; omega), hL.out] at this
                         exact this
                       have hsub : Hid ((L : Int) - 1 = ((L - 1 : Nat) : Int)) := by show _ = _; omega
                       have hLb : L ≤ 1000 := by have h1 := hL.out; have h2 := HR.out.fl; have h3 := Hlf.out; omega
                       go_wp2_with fail
                       go_quiet (fail)
                       go_wp2_with fail
                       exact ⟨⟨j + 1, some (j, L - 1), by omega, by go_num, rfl, by rw [hsub.out]; rfl, hs2.out, KX.out.drewN _⟩, by simp [intOf]; omega⟩
                     · have hg : decide ((0 : Int) < (L : Int)) = false := by simp; omega
                       have hs2 : Hid (Looked qs n p true (j + 1) none) := by
                         have := hstep.out
                         rw [if_pos (List.eq_nil_of_length_eq_zero (by have := hL.out; omega))] at this
                         exact this
                       go_wp2_with fail
                       exact ⟨⟨j + 1, none, by omega, by go_num, rfl, rfl, hs2.out, KX.out⟩, by simp [intOf]; omega⟩
                   · have hend := Lib.hid (Hlk.out.end HL2.out.ql hinb.out hgo)
                     have Hgo := Lib.hid hgo
                     clear hgo
                     go_upto_region 19 with fail
                     go_cut [85] from 76 to 84 (fun v wx => v = .bool false ∧ wr = wx)
                     case first =>
                       by_cases h1 : j < n
                       · have h1' : (j : Int) < (n : Int) := by omega
                         cases inb with
                         | false =>
                           go_wp2_with fail
                           go_meet
                           case rel => exact ⟨rfl, rfl⟩
                         | true =>
                           obtain ⟨x, hx⟩ : ∃ x, Hid (fb = some x) := by
                             cases fb with
                             | none => exact absurd ⟨h1, rfl, rfl⟩ Hgo.out
                             | some x => exact ⟨x, rfl⟩
                           have hd : decide (encF fb < 0) = false := by rw [hx.out]; exact decide_eq_false (by show ¬ ((x.1 : Nat) : Int) < 0; omega)
                           go_wp2_with fail
                           go_meet
                           case rel => exact ⟨rfl, rfl⟩
                       · have h2 : (n : Int) ≤ j := by omega
                         clear h1
                         go_wp2_with fail
                         go_meet
                         case rel => exact ⟨rfl, rfl⟩
                     case rest =>
                       obtain ⟨rfl, rfl⟩ := hcut
                       rw [hend.out]
                       have HL3 := Lib.hid (HL2.out.keeps KX.out (fun _ _ h => h))
                       have HS3 := Lib.hid (HS2.out.keeps KX.out)
                       rcases Hcase.out with ⟨hno, rfl, rfl, rfl⟩ | ⟨kk, ix, q, hpk, hq, ht, rfl, rfl⟩
                       · rw [hno]
                         have R2 : Hid (PlRel w r n o len (k + 1) qs2 vs wr) := ⟨by omega, by omega, ⟨HS3.out, HL3.out⟩, HR.out.nd, by have := HR.out.fl; omega⟩
                         have hF : encF none = -1 := rfl
                         have hA : encA none = 0 := rfl
                         rw [hF, hA]
                         clear hF hA hno
                         go_wp2_with fail
                         exact ⟨⟨k + 1, qs2, vs, by go_num, R2.out⟩, by simp [intOf]; omega⟩
                       · rw [hpk]
                         have hF : encF (some (kk, ix)) = (kk : Int) := rfl
                         have hA : encA (some (kk, ix)) = (ix : Int) := rfl
                         rw [hF, hA]
                         obtain ⟨A1, cc, hv1, hcell, ho1⟩ := HL3.out.at hq
                         have hixl := (List.getElem?_eq_some_iff.1 ht).1
                         have hkn : kk < n := by have := (List.getElem?_eq_some_iff.1 hq).1; have := HL3.out.ql; omega
                         obtain ⟨g, rfl⟩ : ∃ g, A1 = some ⟨g, 0, none⟩ := by
                           rcases Own.form ho1 with ⟨h0, h1⟩ | ⟨g, c', h, _⟩
                           · omega
                           · cases h; exact ⟨g, rfl⟩
                         have hct : wr.cell? ⟨g, ix, none⟩ = some (.int .i64 tt) := by rw [World.ownsRow.cellAt ho1 ix (by omega), List.getElem?_map, ht]; rfl
                         have hlq : q.length ≤ 100 := by have := len_flat (List.mem_of_getElem? hq); have := HR.out.fl; omega
                         have hw := Lib.hid (without_calls g q.length cc ix q wr rfl ho1 hixl (by omega))
                         have hgp := gone_perm hq ht
                         have hnd2 : Hid ((qs.set kk (q.eraseIdx ix)).flatten.Nodup) := by have := (List.Perm.nodup_iff hgp).1 HR.out.nd; exact (List.nodup_cons.1 this).2
                         have hfl2 : Hid ((qs.set kk (q.eraseIdx ix)).flatten.length ≤ k) := by have := List.Perm.length_eq hgp; have := HR.out.fl; show _ ≤ _; simp at *; omega
                         have hel : Hid ((q.eraseIdx ix).length = q.length - 1) := List.length_eraseIdx_of_lt hixl
                         have Hv1 := Lib.hid hv1
                         have hbk0 : (0 : Int) ≤ (kk : Int) := by omega
                         have hbk1 : (kk : Int) < (n : Int) := by omega
                         have hbi0 : (0 : Int) ≤ (ix : Int) := by omega
                         have hbi1 : (ix : Int) < (q.length : Int) := by omega
                         have htt : (tt != tt) = false := by simp
                         clear hF hA hpk hq ht ho1 hgp hv1 hixl
                         go_wp2_with fail
                         refine hw.out.mono ?_
                         rintro e w3 ⟨A4, c4, rfl, ho4, hf4, k4⟩
                         have hln : (q.eraseIdx ix).length = q.length - 1 := hel.out
                         have hput := LawR.put (w := w) (q' := q.eraseIdx ix) HL3.out HS3.out (Keeps.refl _ _) Hv1.out (by rw [hln]; exact ho4) (k4.mono (fun _ _ h => h.elim)) (fun b hb => .inr (hf4 b hb))
                         have b3 := (k4.block o (lt_of_block HL3.out.head) (fun h => h)).trans HL3.out.head
                         have cy : w3.cell? ⟨o, kk, none⟩ = some (.slice (some ⟨g, 0, none⟩) q.length cc) := cell_of_block b3 (by simpa using Hv1.out)
                         have fy := frozen_of_block (o := kk) b3
                         have Hput : Hid (PlRel w r n o len (k + 1) (qs.set kk (q.eraseIdx ix)) (vs.set kk (.slice A4 (q.length - 1) c4)) (w3.setCell ⟨o, kk, none⟩ (.slice A4 (q.length - 1) c4))) := ⟨by omega, by omega, hput, hnd2.out, by have := hfl2.out; omega⟩
                         clear hput ho4 hf4 k4 b3 hln
                         go_wp2_with fail
                         exact ⟨⟨k + 1, _, _, by go_num, Hput.out⟩, by simp [intOf]; omega⟩
            | false =>
              go_wp2_with fail
              go_loopw [16, 17] (fun v16 v17 wx => ∃ (j : Nat) (tb : Bool), j ≤ n ∧ v17 = .int .i64 j ∧ v16 = .bool tb ∧ Hid (tb = (qs.take j).any fun q => q.any fun y => y == t) ∧ Keeps NoBlock wr wx) (fun _ i _ => n - (intOf i).toNat)
              case atStart => exact ⟨0, false, Nat.zero_le _, rfl, rfl, rfl, Keeps.refl _ _⟩
              case round =>
                obtain ⟨j, tb, hjn, rfl, rfl, htb, kx⟩ := hrel
                have KX := Lib.hid kx
                have c2' := (KX.out.cell (Nat.lt_of_lt_of_le hbw hkp.out.size) (fun h => h)).trans c2
                clear kx
                by_cases hj : j < n
                · obtain ⟨q, hq⟩ : ∃ q, qs[j]? = some q := ⟨_, List.getElem?_eq_getElem (by rw [HR.out.s.l.ql]; omega)⟩
                  have htk : Hid ((qs.take (j + 1)).any (fun q => q.any fun y => y == t) = (tb || q.any fun y => y == t)) := by
                    have := htb.out
                    show _ = _
                    rw [this, List.take_add_one, hq, List.any_append]
                    simp
                  have hj1 : (j : Int) < (n : Int) := by omega
                  cases tb with
                  | true =>
                    clear hq
                    go_wp2_with fail
                    go_quiet (fail)
                    go_wp2_with fail
                    exact ⟨⟨j + 1, true, by omega, by go_num, rfl, by have := htk.out; show _ = _; rw [this]; rfl, KX.out.drewN _⟩, by simp [intOf]; omega⟩
                  | false =>
                    obtain ⟨A1, cc, _, hcell, ho1⟩ := (HR.out.s.l.keeps KX.out (fun _ _ h => h)).at hq
                    have hlq : q.length ≤ 100 := by have := len_flat (List.mem_of_getElem? hq); have := HR.out.fl; omega
                    have hin := Lib.hid (fun m => (in_calls _ q t (wr.drewN m) ((Own.readsI ho1).keeps ((Keeps.refl NoBlock wr).drewN m) (fun _ _ h => h)) (by omega)).mono (fun e w' h => (⟨h.1, h.2.symm⟩ : _ ∧ w' = wr.drewN m)))
                    obtain ⟨L, hL⟩ : ∃ L, Hid (q.length = L) := ⟨_, rfl⟩
                    rw [hL.out] at hcell hin
                    clear hq ho1
                    go_wp2_with fail
                    go_quiet ((go_at_call 13; exact Calls.quiet_of_same (hin.out _)))
                    go_wp2_with fail
                    exact ⟨⟨j + 1, _, by omega, by go_num, rfl, by have := htk.out; show _ = _; rw [this]; rfl, KX.out.drewN _⟩, by simp [intOf]; omega⟩
                · obtain rfl : j = n := by omega
                  have hadd := Lib.hid (add_calls p t (HR.out.s.s.keeps KX.out) hn64 (fun q hq => by have := len_flat hq; have := HR.out.fl; omega))
                  have hB : Hid (addB qs p t = (inb && !tb)) := by
                    have h1 := htb.out
                    have h2 := hinb.out
                    show _ = _
                    unfold addB
                    rw [h1, h2, HR.out.s.l.ql, List.take_of_length_le (by rw [HR.out.s.l.ql]; exact Nat.le_refl _)]
                  have HL0 := Lib.hid (HR.out.s.l.keeps KX.out (fun _ _ h => h))
                  go_wp2_with fail
                  refine hadd.out.mono ?_
                  rintro e w3 ⟨rfl, S3, k3⟩
                  rw [hB.out]
                  have HS3 := Lib.hid S3
                  have K3 := Lib.hid k3
                  have HL3 := Lib.hid (HL0.out.keeps k3 (fun b hb hn => hn hb))
                  have c3 := (HS3.out.kp.cell hbw (fun h => h)).trans Q2.out
                  clear S3 k3 hadd
                  by_cases hyes : inb = true ∧ tb = false
                  · obtain ⟨rfl, rfl⟩ := hyes
                    obtain ⟨kp, q, rfl, hkq, hq, hnt, hQ⟩ := addB_true hB.out
                    rw [hQ] at HS3
                    obtain ⟨A1, cc, hv1, hcell, ho1⟩ := HL3.out.at hq
                    have hob := lt_of_block HL3.out.head
                    obtain ⟨L, hL⟩ : ∃ L, Hid (q.length = L) := ⟨_, rfl⟩
                    have hlq : q.length ≤ 100 := by have := len_flat (List.mem_of_getElem? hq); have := HR.out.fl; omega
                    have hcp := come_perm (t := t) hq
                    have hnd2 : Hid ((qs.set kp (q ++ [t])).flatten.Nodup) := (List.Perm.nodup_iff hcp).2 (List.nodup_cons.2 ⟨hnt, HR.out.nd⟩)
                    have hfl2 : Hid ((qs.set kp (q ++ [t])).flatten.length ≤ k + 1) := by have := List.Perm.length_eq hcp; have := HR.out.fl; show _ ≤ _; simp at *; omega
                    have hno : (Value.slice A1 q.length cc).ownBlock ≠ some o := fun e => HL3.out.ne kp _ o hv1 e rfl
                    rw [hL.out] at hcell ho1 hno hlq
                    have hv1' : Hid (vs[kp]? = some (.slice A1 L cc)) := by rw [← hL.out]; exact hv1
                    have HO1 := Lib.hid ho1
                    have hap : Hid (∀ w5 g5 c5, Own w5 3 1 (.slice (some ⟨g5, 0, none⟩) (L + 1) c5) (L + 1) (q.map (Value.int .i64) ++ [.int .i64 t]) → World.grownBy (w3.drew.alloc (.cells #[.int .i64 t] 3)) w5 (Value.slice A1 L cc).ownBlock → ((Value.slice A1 L cc).ownBlock = some g5 ∨ (w3.drew.alloc (.cells #[.int .i64 t] 3)).heap.size ≤ g5) →
                        w5.frozen? ⟨o, kp, none⟩ = false ∧ w5.cell? ⟨o, kp, none⟩ = some (.slice A1 L cc) ∧ PlRel w r j o len (k + 1) (qs.set kp (q ++ [t])) (vs.set kp (.slice (some ⟨g5, 0, none⟩) (L + 1) c5)) (w5.setCell ⟨o, kp, none⟩ (.slice (some ⟨g5, 0, none⟩) (L + 1) c5))) := by
                      intro w5 g5 c5 ho5 hg5 hf5
                      have hb5 : w5.heap[o]? = some (.cells vs.toArray 30 (0, 0)) := blk_grown hg5 hno (block_alloc_old (blk_drew HL3.out.head))
                      have hln : (q ++ [t]).length = L + 1 := by simp [hL.out]
                      refine ⟨frozen_of_block hb5, cell_of_block hb5 (by simpa using hv1'.out), by omega, by omega, ?_, hnd2.out, hfl2.out⟩
                      refine LawR.put (w := w) (q' := q ++ [t]) HL3.out HS3.out (Keeps.refl _ _) hv1'.out (by rw [hln, List.map_append]; exact ho5) (((Keeps.refl (fun b => (Value.slice A1 L cc).ownBlock = some b) w3).drew.alloc _).grown hg5 (fun b hb => .inl hb)) (fun b hb => ?_)
                      simp only [Value.ownBlock, Option.some.injEq] at hb
                      subst hb
                      rcases hf5 with h1 | h1
                      · exact .inl h1
                      · simp only [World.size_alloc, World.size_drew] at h1
                        exact .inr (by omega)
                    have hbk0 : (0 : Int) ≤ (kp : Int) := by omega
                    have hbk1 : (kp : Int) < (j : Int) := by have := HL3.out.ql; omega
                    clear hq hv1 ho1 hnt hQ hcp hB hinb htb
                    go_wp2_with fail
                    go_region_law
                      (first
                        | (refine step_app (P := Try.prog) elI13 ?_ (.tmp 175) (.tmp 181) ?_ (.slice A1 L cc) L (q.map (Value.int .i64)) ?_ ?_ ⟨w3.heap.size, 0, none⟩ 1 1 [.int .i64 t] ?_ ?_ (newsB (e := 3) ?_) ?_ ?_ ?_ ?_
                           · rfl
                           · rfl
                           · rfl
                           · repeat (first | exact HO1.out | with_reducible refine World.ownsRow.alloc ?_ _ | with_reducible refine World.ownsRow.drew ?_)
                           · rfl
                           · rfl
                           · repeat (first | (refine blk_new ?_; (simp; done)) | with_reducible refine block_alloc_old ?_ | with_reducible refine blk_drew ?_)
                           · simp [Value.oneCell']
                           · simp only [maxLen]; omega
                           · omega
                           intro v5 w5 ho5 hg5 hf5 hs5
                           obtain ⟨g5, c5, rfl⟩ := hs5 (by decide)
                           obtain ⟨z1, z2, hst⟩ := hap.out w5 g5 c5 ho5 hg5 (hf5 g5 rfl)
                           have Hst := Lib.hid hst
                           clear hs5 hf5 ho5 hg5 hst)
                        | fail)
                    all_goals
                      go_wp2_with fail
                      exact ⟨⟨k + 1, _, _, by go_num, Hst.out⟩, by simp [intOf]; omega⟩
                  · have hB2 : Hid (addB qs p t = false) := by
                      have := hB.out
                      show _ = _
                      rw [this]
                      cases inb <;> cases tb <;> first | rfl | exact absurd ⟨rfl, rfl⟩ hyes
                    have R3 : Hid (PlRel w r j o len (k + 1) qs vs w3) := ⟨by omega, by omega, ⟨by have := HS3.out; rw [addQ_false hB2.out] at this; exact this, HL3.out⟩, HR.out.nd, by have := HR.out.fl; omega⟩
                    clear hB hB2 hinb htb
                    cases inb with
                    | false =>
                      go_wp2_with fail
                      exact ⟨⟨k + 1, _, _, by go_num, R3.out⟩, by simp [intOf]; omega⟩
                    | true =>
                      obtain rfl : tb = true := by cases tb; exact absurd ⟨rfl, rfl⟩ hyes; rfl
                      go_wp2_with fail
                      exact ⟨⟨k + 1, _, _, by go_num, R3.out⟩, by simp [intOf]; omega⟩
        · have hend : (k : Int) < len → (100 : Int) ≤ k := by omega
          have Hend := Lib.hid hend
          clear hend hlt
          go_upto_region 9 with fail
          go_cut [40] from 33 to 39 (fun v wx => v = .bool false ∧ wr = wx)
          case first =>
            by_cases h1 : k < len
            · have h2 : 100 ≤ (k : Int) := Hend.out (by omega)
              go_wp2_with fail
              go_meet
              case rel => exact ⟨by rw [decide_eq_false (by omega)], rfl⟩
            · have h2 : (len : Int) ≤ k := by omega
              clear h1
              go_wp2_with fail
              go_meet
              case rel => exact ⟨rfl, rfl⟩
          case rest =>
            obtain ⟨rfl, rfl⟩ := hcut
            have hql := HR.out.s.l.ql
            have Hql := Lib.hid hql
            clear hql
            go_wp2_with fail
            go_loopw [18, 19] (fun v18 v19 wx => ∃ (kk : Nat) (em : Bool), kk ≤ n + 2 ∧ v19 = .int .i64 ((kk : Int) - 1) ∧ v18 = .bool em ∧ Hid (em = (qs.take (kk - 1)).all fun q => decide (q = [])) ∧ LawR w r n qs o vs wx) (fun _ i _ => n + 2 - ((intOf i) + 1).toNat)
            case atStart => exact ⟨0, true, by omega, by rfl, rfl, by show _ = _; simp, HR.out.s⟩
            case round =>
              obtain ⟨kk, em, hkk, rfl, rfl, hem, L⟩ := hrel
              have HL := Lib.hid L
              clear L
              obtain ⟨i, hi⟩ : ∃ i : Int, Hid (i = (kk : Int) - 1) := ⟨_, rfl⟩
              rw [← hi.out]
              by_cases hin : i ≤ n
              · obtain ⟨wq, hwq⟩ : ∃ wq, Hid (wq = rowOf qs i) := ⟨_, rfl⟩
                have hwl : wq.length ≤ 100 := by
                  have h1 := hwq.out
                  by_cases h : 0 ≤ i ∧ i < qs.length
                  · obtain ⟨k', hk'⟩ : ∃ k' : Nat, i = k' := ⟨i.toNat, by omega⟩
                    have hq : qs[k']? = some qs[k'] := List.getElem?_eq_getElem (by omega)
                    rw [h1, hk', rowOf_in hq]
                    have := len_flat (List.mem_of_getElem? hq); have := HR.out.fl; omega
                  · rw [h1, rowOf_out h]; simp
                have hrow := Lib.hid (fun W (k : Keeps NoBlock wr W) => rowAny i (HL.out.s.keeps k))
                obtain ⟨ib, hib⟩ : ∃ ib, Hid (ib = decide (0 ≤ i ∧ i < (n : Int))) := ⟨_, rfl⟩
                go_upto_region 43 with fail
                generalize hW : World.alloc wr _ = W
                have KW : Hid (Keeps NoBlock wr W) := by show Keeps _ _ _; rw [← hW]; exact (Keeps.refl _ _).alloc _
                have hW2 : W.heap[wr.heap.size]? = some (.cells #[] 3 (0, 0)) := by rw [← hW]; exact block_alloc_new _ _
                have RE : Hid (ReadsI .i64 W (.slice (some ⟨wr.heap.size, 0, none⟩) 0 0) []) := ⟨_, wr.heap.size, 0, 0, rfl, fun h => by simp at h, fun j x hx => by simp at hx⟩
                clear hW hW2
                go_cut [196] from 184 to 195 (fun v wx => v = .bool ib ∧ W = wx)
                case first =>
                  by_cases h1 : 0 ≤ i
                  · by_cases h2 : i < n
                    · have hb : Hid (ib = true) := by have := hib.out; show _ = _; rw [this]; exact decide_eq_true ⟨h1, h2⟩
                      go_wp2_with fail
                      go_meet
                      case rel => exact ⟨by rw [hb.out], rfl⟩
                    · have hb : Hid (ib = false) := by have := hib.out; show _ = _; rw [this]; exact decide_eq_false (by omega)
                      have hd : decide (i < (n : Int)) = false := decide_eq_false h2
                      go_wp2_with fail
                      go_meet
                      case rel => exact ⟨by rw [hb.out], rfl⟩
                  · have hb : Hid (ib = false) := by have := hib.out; show _ = _; rw [this]; exact decide_eq_false (by omega)
                    have hd : decide (0 ≤ i) = false := decide_eq_false h1
                    go_wp2_with fail
                    go_meet
                    case rel => exact ⟨by rw [hb.out], rfl⟩
                case rest =>
                  obtain ⟨rfl, rfl⟩ := hcut
                  go_upto_if 196 with fail
                  go_cut [20] from 196 to 200 (fun v wx => (∃ A1 c1, v = .slice A1 wq.length c1 ∧ ReadsI .i64 W (.slice A1 wq.length c1) wq) ∧ W = wx)
                  case first =>
                    cases ib with
                    | true =>
                      have hpb := of_decide_eq_true hib.out.symm
                      obtain ⟨k', rfl⟩ : ∃ k' : Nat, i = k' := ⟨i.toNat, by omega⟩
                      obtain ⟨q, hq⟩ : ∃ q, qs[k']? = some q := ⟨_, List.getElem?_eq_getElem (by rw [Hql.out]; omega)⟩
                      have hwe : Hid (wq = q) := by have := hwq.out; show _ = _; rw [this, rowOf_in hq]
                      obtain ⟨A1, cc, _, hcell, ho1⟩ := (HL.out.l.keeps KW.out (fun _ _ h => h)).at hq
                      have hrd := Lib.hid (Own.readsI ho1)
                      obtain ⟨Lq, hLq⟩ : ∃ Lq, Hid (q.length = Lq) := ⟨_, rfl⟩
                      rw [hLq.out] at hcell
                      have hb0 : (0 : Int) ≤ (k' : Int) := by omega
                      have hb1 : (k' : Int) < (n : Int) := by omega
                      clear hq ho1 hpb
                      go_wp2_with fail
                      go_meet
                      case rel => exact ⟨⟨A1, cc, by rw [hwe.out, hLq.out], by rw [hwe.out]; exact hrd.out⟩, rfl⟩
                    | false =>
                      have hpb := of_decide_eq_false hib.out.symm
                      have hwe : Hid (wq = []) := by have := hwq.out; show _ = _; rw [this]; exact rowOf_out (by rw [Hql.out]; exact hpb)
                      clear hpb
                      go_wp2_with fail
                      go_meet
                      case rel => exact ⟨⟨some ⟨wr.heap.size, 0, none⟩, 0, by rw [hwe.out]; rfl, by rw [hwe.out]; exact RE.out⟩, rfl⟩
                  case rest =>
                    obtain ⟨⟨A1, cc, rfl, hrd⟩, rfl⟩ := hcut
                    have Hrd := Lib.hid hrd
                    clear hrd
                    obtain ⟨em2, hem2⟩ : ∃ em2, Hid (em2 = (em && decide (wq = []))) := ⟨_, rfl⟩
                    obtain ⟨Lw, hLw⟩ : ∃ Lw, Hid (wq.length = Lw) := ⟨_, rfl⟩
                    rw [hLw.out]
                    rw [hLw.out] at hwl Hrd
                    go_upto_region 45 with fail
                    go_cut [18] from 201 to 206 (fun v wx => v = .bool em2 ∧ W = wx)
                    case first =>
                      cases em with
                      | false =>
                        go_wp2_with fail
                        go_meet
                        case rel => exact ⟨by rw [hem2.out]; rfl, rfl⟩
                      | true =>
                        have hb : Hid (em2 = decide (Lw = 0)) := by
                          have h1 := hem2.out
                          have h2 := hLw.out
                          show _ = _
                          rw [h1, Bool.true_and, ← h2]
                          congr 1
                          rw [List.length_eq_zero_iff]
                        by_cases h0 : Lw = 0
                        · have hb2 : Hid (em2 = true) := by have := hb.out; show _ = _; rw [this, decide_eq_true h0]
                          have hz : ((Lw : Int) == 0) = true := by simp; omega
                          clear h0 hb
                          go_wp2_with fail
                          go_meet
                          case rel => exact ⟨by rw [hb2.out], rfl⟩
                        · have hb2 : Hid (em2 = false) := by have := hb.out; show _ = _; rw [this, decide_eq_false h0]
                          have hz : ((Lw : Int) == 0) = false := beq_eq_false_iff_ne.2 (by omega)
                          clear h0 hb
                          go_wp2_with fail
                          go_meet
                          case rel => exact ⟨by rw [hb2.out], rfl⟩
                    case rest =>
                      obtain ⟨rfl, rfl⟩ := hcut
                      go_wp2_with fail
                      refine (hrow.out W KW.out).mono ?_
                      rintro e w3 ⟨A3, c3, rfl, r3, f3, k3, _⟩
                      rw [← hwq.out] at r3 ⊢
                      have K3 := Lib.hid (KW.out.trans k3 (fun _ _ h => h))
                      have R3 := Lib.hid r3
                      have R4 := Lib.hid (Hrd.out.keeps k3 (fun _ _ h => h))
                      clear r3 f3 k3
                      rw [hLw.out] at R3 ⊢
                      go_wp2_with fail
                      refine (ints_calls _ _ wq wq _ R3.out R4.out (by rw [hLw.out]; omega) (by rw [hLw.out]; omega)).mono ?_
                      rintro e w4 ⟨rfl, k4⟩
                      rw [decide_eq_true rfl]
                      have K4 := Lib.hid (K3.out.trans k4 (fun _ _ h => h))
                      have R5 := Lib.hid (R4.out.keeps k4 (fun _ _ h => h))
                      clear k4 R3
                      go_wp2_with fail
                      go_loopw [21] (fun v21 wx => ∃ j : Nat, j ≤ Lw ∧ v21 = .int .i64 j ∧ Keeps NoBlock w4 wx) (fun v _ => Lw - (intOf v).toNat)
                      case atStart => exact ⟨0, Nat.zero_le _, rfl, Keeps.refl _ _⟩
                      case round =>
                        obtain ⟨j, hj, rfl, kx⟩ := hrel
                        have KX := Lib.hid kx
                        clear kx
                        by_cases hjl : j < Lw
                        · obtain ⟨tj, htj⟩ : ∃ tj, wq[j]? = some tj := ⟨_, List.getElem?_eq_getElem (by rw [hLw.out]; exact hjl)⟩
                          obtain ⟨A6, b6, off6, cap6, e6, hA6, hc6⟩ := R5.out
                          simp only [Value.slice.injEq] at e6
                          obtain ⟨rfl, hxx, rfl⟩ := e6
                          clear hxx
                          obtain ⟨rfl, hb6⟩ := hA6 (by rw [hLw.out]; omega)
                          have hcj := (KX.out.cell hb6 (fun h => h)).trans (hc6 j tj htj)
                          have hir : 0 ≤ i ∧ i < qs.length := Classical.byContradiction fun hn => by
                            have h1 := hwq.out
                            rw [rowOf_out hn] at h1
                            have h2 := hLw.out
                            rw [h1] at h2
                            simp at h2; omega
                          obtain ⟨ik, hik⟩ : ∃ ik : Nat, i = ik := ⟨i.toNat, by omega⟩
                          have hqi : qs[ik]? = some wq := by
                            have hq : qs[ik]? = some qs[ik] := List.getElem?_eq_getElem (by omega)
                            have h1 := hwq.out
                            rw [hik, rowOf_in hq] at h1
                            rw [hq, h1]
                          have Hik := Lib.hid hik
                          have hwh := Lib.hid (rWhere_calls tj (HL.out.s.keeps (K4.out.trans KX.out (fun _ _ h => h))) hn64)
                          have hsame : Hid (∀ (k' : Nat) (q' : List Int), qs[k']? = some q' → tj ∈ q' → k' = ik) := fun k' q' hq' ht' => two_rows HR.out.nd hq' hqi ht' (List.mem_of_getElem? htj)
                          have hthere := Lib.hid (List.mem_of_getElem? htj)
                          have Hqi := Lib.hid hqi
                          have hii : ((ik : Int) != i) = false := by rw [hik]; simp
                          clear hc6 hA6 htj hir hik hqi
                          go_wp2_with fail
                          refine hwh.out.mono ?_
                          rintro e w5 ⟨hwi, k5⟩
                          rcases hwi with ⟨k', q', hq', ht', _, rfl⟩ | ⟨hnone, _⟩
                          · obtain rfl := hsame.out k' q' hq' ht'
                            have K5 := Lib.hid (KX.out.trans k5 (fun _ _ h => h))
                            clear k5 hq' ht'
                            go_wp2_with fail
                            exact ⟨⟨j + 1, by omega, by go_num, K5.out⟩, by simp [intOf]; omega⟩
                          · exact absurd hthere.out (hnone _ _ Hqi.out)
                        · obtain rfl : j = Lw := by omega
                          have HLf := Lib.hid (HL.out.keeps (K4.out.trans KX.out (fun _ _ h => h)))
                          have hemf : Hid (em2 = (qs.take (kk + 1 - 1)).all fun q => decide (q = [])) := by
                            have h1 := hem2.out
                            show _ = _
                            rw [h1, hem.out, hwq.out, hi.out, Nat.add_sub_cancel]
                            exact (all_take kk).symm
                          have hnx : Hid (i + 1 = ((kk + 1 : Nat) : Int) - 1) := by have := hi.out; show _ = _; omega
                          have hkk2 : kk + 1 ≤ n + 2 := by have := hi.out; omega
                          have hms : Hid (i = (kk : Int) - 1) := hi
                          have hwr : Hid (wrap64 (i + 1) = i + 1) := by have := hi.out; have := hn64; show _ = _; unfold wrap64; omega
                          go_wp2_with fail
                          rw [hwr.out]
                          refine ⟨⟨kk + 1, em2, hkk2, by rw [hnx.out], rfl, hemf, HLf.out⟩, ?_⟩
                          have := hi.out
                          simp only [intOf]
                          omega
              · have hem3 : Hid (em = (qs.all fun q => decide (q = []))) := by
                  have h1 := hem.out
                  have := hi.out
                  show _ = _
                  rw [h1, List.take_of_length_le (by rw [Hql.out]; omega)]
                have hnin : (n : Int) < i := by omega
                go_wp2_with fail
                refine (awake13_calls _).mono ?_
                rintro e w3 ⟨rfl, k3⟩
                have HL3 := Lib.hid (HL.out.keeps k3)
                clear k3
                go_wp2_with fail
                refine (rEmpty_calls HL3.out.s hn64).mono ?_
                rintro e w4 ⟨rfl, k4⟩
                rw [← hem3.out]
                have K4 := Lib.hid (HL3.out.s.keeps k4).kp
                have hee : (em == em) = true := by simp
                clear k4
                go_wp2_with fail
                go_ret
                exact ⟨rfl, K4.out.below (Nat.le_refl _) (fun _ h => h.elim)⟩

theorem plays_row13 (w : World) (procs : Int) (_hp : (Lit.int .i64 procs).wf = true) (v : Value) (l : List PAct) (h : PActsAt w v l) : Calls Try.prog 3 #[.int .i64 procs, v] w fun e w' => e = .returned (.bool true) ∧ Below w.heap.size w w' := by
  obtain ⟨⟨A, b, off, cap, rfl, hA, hc⟩, hl⟩ := h
  exact plays13_calls procs A b off l.length cap l rfl w hA hc hl
end Ry
end Go.Proofs.Ytmpingalekdlnaa
