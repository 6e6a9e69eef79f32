/- Package ready: a thread comes; a thread is picked. -/
import Derived.Test.YtmpingalekdlnaaRyD
namespace Go.Proofs.Ytmpingalekdlnaa
open Go.RowKit
namespace Ry
open Dq

/-- Does a thread that comes come in? -/
def addB (qs : List (List Int)) (p t : Int) : Bool := decide (0 ≤ p ∧ p < qs.length) && !(qs.any fun q => q.any fun y => y == t)
def addQ (qs : List (List Int)) (p t : Int) : List (List Int) := if addB qs p t then qs.set p.toNat (qs.getD p.toNat [] ++ [t]) else qs

theorem addB_there {qs : List (List Int)} {p t : Int} {k : Nat} {q : List Int} (hq : qs[k]? = some q) (ht : t ∈ q) : addB qs p t = false := by
  unfold addB
  have : (qs.any fun q => q.any fun y => y == t) = true := by
    rw [List.any_eq_true]
    exact ⟨q, List.mem_of_getElem? hq, by rw [List.any_eq_true]; exact ⟨t, ht, by simp⟩⟩
  rw [this]; simp

theorem addB_out {qs : List (List Int)} {p t : Int} (h : p < 0 ∨ (qs.length : Int) ≤ p) : addB qs p t = false := by
  unfold addB
  rw [decide_eq_false (by omega)]; simp

theorem addB_in {qs : List (List Int)} {k : Nat} {t : Int} (hk : k < qs.length) (h : ∀ (j : Nat) (q : List Int), qs[j]? = some q → t ∉ q) : addB qs k t = true := by
  unfold addB
  rw [decide_eq_true (by omega), Bool.true_and]
  have : (qs.any fun q => q.any fun y => y == t) = false := by
    rw [List.any_eq_false]
    intro q hq
    obtain ⟨j, hj⟩ := List.mem_iff_getElem?.1 hq
    have := h j q hj
    simp only [List.any_eq_true, beq_iff_eq, not_exists, not_and]
    intro x hx e
    exact this (e ▸ hx)
  rw [this]; rfl

theorem where_nil (t : Int) (w : World) : Calls Try.prog 17 #[.pointer none, .int .i64 t] w fun e w' => e = out2 0 false ∧ w = w' := by
  go_enter Try.func17, Try.ntmps17
  go_wp2
  go_ret2
  exact ⟨rfl, rfl⟩

theorem empty_nil (w : World) : Calls Try.prog 19 #[.pointer none] w fun e w' => e = .returned (.bool true) ∧ w = w' := by
  go_enter Try.func19, Try.ntmps19
  go_wp2
  go_ret
  exact ⟨rfl, rfl⟩

theorem Row_nil (p : Int) (w : World) : Calls Try.prog 16 #[.pointer none, .int .i64 p] w fun e w' => e = .returned (.slice none 0 0) ∧ w = w' := by
  go_enter Try.func16, Try.ntmps16
  go_wp2_with fail
  refine (row_nil _ _).mono ?_
  rintro e w' ⟨rfl, rfl⟩
  go_wp2_with fail
  refine (all_nil _).mono ?_
  rintro e w' ⟨rfl, rfl⟩
  go_wp2_with fail
  go_ret
  exact ⟨rfl, rfl⟩

def AddPost (w : World) (r n : Nat) (qs : List (List Int)) (p t : Int) (B : Nat → Prop) (wr : World) (e : Ending) (w' : World) : Prop :=
  e = .returned (.bool (addB qs p t)) ∧ RyS w r n (addQ qs p t) B w' ∧ Keeps (fun b => ¬ B b) wr w'

theorem not_any {q : List Int} {t : Int} (h : t ∉ q) : (q.any fun y => y == t) = false := by
  rw [List.any_eq_false]
  intro x hx e
  simp at e
  exact h (e ▸ hx)

set_option maxHeartbeats 1000000 in
theorem add_calls {w wr : World} {r n : Nat} {qs : List (List Int)} {B : Nat → Prop} (p t : Int) (I : RyS w r n qs B wr) (hn : n ≤ 64) (hl : ∀ q ∈ qs, q.length < 1000) : Calls Try.prog 14 #[ptr r, .int .i64 p, .int .i64 t] wr (AddPost w r n qs p t B wr) := by
  have hql := I.ql
  obtain ⟨col, A, c, ds, h1, h2, h3, h4⟩ := I
  have hw := Lib.hid (where_calls t h1 hn)
  have I := Lib.hid (show RyS w r n qs B wr from ⟨col, A, c, ds, h1, h2, h3, h4⟩)
  have H1 := Lib.hid h1
  have H2 := Lib.hid h2
  have H3 := Lib.hid h3
  have H4 := Lib.hid h4
  have Hl := Lib.hid hl
  clear h1 h2 h3 h4 hl
  go_enter Try.func14, Try.ntmps14
  go_wp2_with fail
  refine hw.out.mono ?_
  rintro e w1 ⟨he, k1⟩
  rcases he with ⟨k, q, hq, ht, _, rfl⟩ | ⟨hno, rfl⟩
  · have hB := Lib.hid (addB_there (p := p) hq ht)
    have K1 := Lib.hid k1
    clear hq ht k1
    go_wp2_with fail
    go_ret
    refine ⟨by rw [hB.out]; rfl, ?_, K1.out.mono (fun _ _ h => h.elim)⟩
    unfold addQ
    rw [if_neg (by rw [hB.out]; simp)]
    exact I.out.keeps K1.out
  · have K1 := Lib.hid k1
    have Hno := Lib.hid hno
    have H1' := Lib.hid (H1.out.keeps k1)
    clear hno k1
    by_cases hp : p < 0 ∨ (n : Int) ≤ p
    · have hB := Lib.hid (addB_out (t := t) (p := p) (qs := qs) (by rw [hql]; exact hp))
      have hr := Lib.hid (row_out p H1'.out hp)
      clear hp
      go_wp2_with fail
      refine hr.out.mono ?_
      rintro e w2 ⟨rfl, rfl⟩
      go_wp2_with fail
      refine (push_nil t _).mono ?_
      rintro e w2 ⟨rfl, rfl⟩
      go_wp2_with fail
      go_ret
      refine ⟨by rw [hB.out]; rfl, ?_, K1.out.mono (fun _ _ h => h.elim)⟩
      unfold addQ
      rw [if_neg (by rw [hB.out]; simp)]
      exact I.out.keeps K1.out
    · obtain ⟨k, rfl⟩ : ∃ k : Nat, p = k := ⟨p.toNat, by omega⟩
      have hk : k < n := by omega
      obtain ⟨g, d, q, _, _, _, hd, hq, hdq⟩ := H1'.out.at hk
      have hB := Lib.hid (addB_in (qs := qs) (k := k) (t := t) (by omega) Hno.out)
      have hr := Lib.hid (row_in k d H1'.out hk hd)
      have hpu := Lib.hid (push_new d q t w1 hdq (not_any (Hno.out k q hq)) (Hl.out q (List.mem_of_getElem? hq)))
      have Hd := Lib.hid hd
      have hQ : Hid (addQ qs k t = qs.set k (q ++ [t])) := by
        show addQ qs k t = _
        unfold addQ
        rw [if_pos hB.out, Int.toNat_natCast, List.getD_eq_getElem?_getD, hq]; rfl
      clear hp hd hq hdq
      go_wp2_with fail
      refine hr.out.mono ?_
      rintro e w2 ⟨rfl, rfl⟩
      go_wp2_with fail
      refine hpu.out.mono ?_
      rintro e w2 ⟨col', rfl, hD, hN⟩
      have hs := K1.out.size
      have hst := RyS.step (w := w) (B := B) H1'.out (fun x hx => by have := H2.out x hx; omega) (H3.out.trans K1.out (fun _ _ h => h)) (fun b hb => by have := H4.out b hb; omega) Hd.out hD hN
      have Hst := Lib.hid hst
      clear hst hD hN
      go_wp2_with fail
      go_ret
      exact ⟨by rw [hB.out]; rfl, by rw [hQ.out]; exact Hst.out.1, (K1.out.mono (fun _ _ h => h.elim)).trans Hst.out.2 (fun _ _ h => h)⟩

/-- Whom a processor picks: in whose row, at which place. -/
def pickR (qs : List (List Int)) (p : Int) : Option (Nat × Nat) :=
  if 0 ≤ p ∧ p < qs.length then
    (if qs.getD p.toNat [] = [] then (qs.findIdx? fun q => decide (q ≠ [])).map fun k => (k, (qs.getD k []).length - 1) else some (p.toNat, 0))
  else none

def PickPost (w : World) (r n : Nat) (qs : List (List Int)) (p : Int) (B : Nat → Prop) (wr : World) (e : Ending) (w' : World) : Prop :=
  (pickR qs p = none ∧ e = out2 0 false ∧ RyS w r n qs B w' ∧ Keeps (fun b => ¬ B b) wr w') ∨
  ∃ (k ix : Nat) (q : List Int) (t : Int), pickR qs p = some (k, ix) ∧ qs[k]? = some q ∧ q[ix]? = some t ∧ e = out2 t true ∧ RyS w r n (qs.set k (q.eraseIdx ix)) B w' ∧ Keeps (fun b => ¬ B b) wr w'

theorem pickR_out {qs : List (List Int)} {p : Int} (h : p < 0 ∨ (qs.length : Int) ≤ p) : pickR qs p = none := by
  unfold pickR; rw [if_neg (by omega)]

theorem pickR_own {qs : List (List Int)} {k : Nat} {q : List Int} (hq : qs[k]? = some q) (h : q ≠ []) : pickR qs k = some (k, 0) := by
  have hk := (List.getElem?_eq_some_iff.1 hq).1
  unfold pickR
  rw [if_pos (by omega), Int.toNat_natCast, List.getD_eq_getElem?_getD, hq, if_neg (by simpa using h)]

theorem pickR_other {qs : List (List Int)} {k j : Nat} {q : List Int} (hq : qs[k]? = some []) (hj : qs[j]? = some q) (h : q ≠ []) (hb : ∀ (i : Nat) (p : List Int), i < j → qs[i]? = some p → p = []) : pickR qs k = some (j, q.length - 1) := by
  have hk := (List.getElem?_eq_some_iff.1 hq).1
  have hjl := (List.getElem?_eq_some_iff.1 hj).1
  unfold pickR
  rw [if_pos (by omega), Int.toNat_natCast, List.getD_eq_getElem?_getD, hq, if_pos (by rfl)]
  have : (qs.findIdx? fun q => decide (q ≠ [])) = some j := by
    rw [List.findIdx?_eq_some_iff_getElem]
    refine ⟨hjl, ?_, fun i hi => ?_⟩
    · rw [(List.getElem?_eq_some_iff.1 hj).2]; exact decide_eq_true h
    · have := hb i _ hi (List.getElem?_eq_getElem (by omega))
      simp [this]
  rw [this, Option.map_some, List.getD_eq_getElem?_getD, hj]; rfl

theorem pickR_none {qs : List (List Int)} {k : Nat} (hk : k < qs.length) (hb : ∀ (i : Nat) (p : List Int), qs[i]? = some p → p = []) : pickR qs k = none := by
  unfold pickR
  rw [if_pos (by omega), Int.toNat_natCast]
  have h0 : qs.getD k [] = [] := by rw [List.getD_eq_getElem?_getD, List.getElem?_eq_getElem hk]; exact hb k _ (List.getElem?_eq_getElem hk)
  rw [if_pos h0]
  have : (qs.findIdx? fun q => decide (q ≠ [])) = none := by
    rw [List.findIdx?_eq_none_iff]
    intro x hx
    obtain ⟨j, hj⟩ := List.mem_iff_getElem?.1 hx
    simp [hb j x hj]
  rw [this]; rfl

theorem pick_nil (p : Int) (w : World) : Calls Try.prog 11 #[.pointer none, .int .i64 p] w fun e w' => e = out2 0 false ∧ w = w' := by
  go_enter Try.func11, Try.ntmps11
  go_wp2_with fail
  refine (row_nil _ _).mono ?_
  rintro e w' ⟨rfl, rfl⟩
  go_wp2_with fail
  go_ret2
  exact ⟨rfl, rfl⟩

set_option maxHeartbeats 2000000 in
theorem pick_calls {w wr : World} {r n : Nat} {qs : List (List Int)} {B : Nat → Prop} (p : Int) (I : RyS w r n qs B wr) (hn : n ≤ 64) : Calls Try.prog 11 #[ptr r, .int .i64 p] wr (PickPost w r n qs p B wr) := by
  have hql := I.ql
  obtain ⟨col, A, c, ds, h1, h2, h3, h4⟩ := I
  have I := Lib.hid (show RyS w r n qs B wr from ⟨col, A, c, ds, h1, h2, h3, h4⟩)
  have H1 := Lib.hid h1
  have H2 := Lib.hid h2
  have H3 := Lib.hid h3
  have H4 := Lib.hid h4
  have Hql := Lib.hid hql
  clear h1 h2 h3 h4 hql
  by_cases hp : p < 0 ∨ (n : Int) ≤ p
  · have hr := Lib.hid (row_out p H1.out hp)
    have hR := Lib.hid (pickR_out (qs := qs) (p := p) (by rw [Hql.out]; exact hp))
    clear hp
    go_enter Try.func11, Try.ntmps11
    go_wp2_with fail
    refine hr.out.mono ?_
    rintro e w2 ⟨rfl, rfl⟩
    go_wp2_with fail
    go_ret2
    exact .inl ⟨hR.out, rfl, I.out, Keeps.refl _ _⟩
  · obtain ⟨k, rfl⟩ : ∃ k : Nat, p = k := ⟨p.toNat, by omega⟩
    have hk : k < n := by omega
    obtain ⟨g, d, q, rfl, hg, hcell, hd, hq, hdq⟩ := H1.out.at hk
    have hr := Lib.hid (row_in k d H1.out hk hd)
    cases q with
    | cons t q' =>
      have hR := Lib.hid (pickR_own hq (by simp))
      have hpop := Lib.hid (pop_calls d (t :: q') t wr hdq rfl)
      have Hd := Lib.hid hd
      have Hq := Lib.hid hq
      clear hp hd hq hdq hcell
      go_enter Try.func11, Try.ntmps11
      go_wp2_with fail
      refine hr.out.mono ?_
      rintro e w2 ⟨rfl, rfl⟩
      go_wp2_with fail
      refine hpop.out.mono ?_
      rintro e w2 ⟨col', rfl, hD, hN⟩
      have hst := RyS.step (w := w) (B := B) H1.out H2.out H3.out H4.out Hd.out hD hN
      have Hst := Lib.hid hst
      clear hst hD hN
      go_wp2_with fail
      go_ret2
      exact .inr ⟨k, 0, _, t, hR.out, Hq.out, rfl, rfl, Hst.out.1, Hst.out.2⟩
    | nil =>
      have hpop := Lib.hid (pop_empty d wr hdq)
      have Hq := Lib.hid hq
      have c0 := cell_of_block H1.out.head (o := 0) rfl
      have z0 := lt_of_block H1.out.head
      clear hp hd hq hdq hcell
      go_enter Try.func11, Try.ntmps11
      go_wp2_with fail
      refine hr.out.mono ?_
      rintro e w2 ⟨rfl, rfl⟩
      go_wp2_with fail
      refine hpop.out.mono ?_
      rintro e w2 ⟨rfl, rfl⟩
      go_wp2_with fail
      go_loopw [31] (fun i wx => ∃ j : Nat, j ≤ n ∧ i = .int .i64 j ∧ wr = wx ∧ Hid (∀ (x : Nat) (p : List Int), x < j → qs[x]? = some p → p = [])) (fun i _ => n - (intOf i).toNat)
      case atStart => exact ⟨0, Nat.zero_le _, rfl, rfl, fun x p hx => by omega⟩
      case round =>
        obtain ⟨j, hj, rfl, rfl, Hall⟩ := hrel
        by_cases hjn : j < n
        · obtain ⟨g', d', q, hA, hg', hcell, hd, hq, hdq⟩ := H1.out.at hjn
          cases hA
          by_cases hq0 : q = []
          · subst hq0
            have hpb := Lib.hid (popB_empty d' wr hdq)
            have hfin : Hid (∀ (x : Nat) (p : List Int), x < j + 1 → qs[x]? = some p → p = []) := fun x p hx hp => by
              by_cases e : x = j
              · subst e; rw [hq] at hp; cases hp; rfl
              · exact Hall.out x p (by omega) hp
            clear hd hq hdq
            go_wp2_with fail
            refine hpb.out.mono ?_
            rintro e w2 ⟨rfl, rfl⟩
            go_wp2_with fail
            exact ⟨⟨j + 1, by omega, by go_num, trivial, hfin.out⟩, by simp [intOf]; omega⟩
          · have hlen := List.length_pos_iff.2 hq0
            obtain ⟨t, ht⟩ : ∃ t, q[q.length - 1]? = some t := ⟨_, List.getElem?_eq_getElem (by omega)⟩
            have hpb := Lib.hid (popB_calls d' q t wr hdq ht)
            have hR := Lib.hid (pickR_other Hq.out hq hq0 Hall.out)
            have Hd := Lib.hid hd
            have Hq' := Lib.hid hq
            have Ht := Lib.hid ht
            clear hd hq hdq ht hq0 hlen
            go_wp2_with fail
            refine hpb.out.mono ?_
            rintro e w2 ⟨col', rfl, hD, hN⟩
            have hst := RyS.step (w := w) (B := B) H1.out H2.out H3.out H4.out Hd.out hD hN
            have Hst := Lib.hid hst
            clear hst hD hN
            go_wp2_with fail
            go_ret2
            exact .inr ⟨j, q.length - 1, q, t, hR.out, Hq'.out, Ht.out, rfl, Hst.out.1, Hst.out.2⟩
        · obtain rfl : j = n := by omega
          have hR := Lib.hid (pickR_none (qs := qs) (k := k) (by rw [Hql.out]; exact hk) (fun i p hi => Hall.out i p (by rw [← Hql.out]; exact (List.getElem?_eq_some_iff.1 hi).1) hi))
          go_wp2_with fail
          go_ret2
          exact .inl ⟨hR.out, rfl, I.out, Keeps.refl _ _⟩

theorem add_nil (p t : Int) (w : World) : Calls Try.prog 14 #[.pointer none, .int .i64 p, .int .i64 t] w fun e w' => e = .returned (.bool false) ∧ w = w' := by
  have hw := Lib.hid (where_nil t w)
  go_enter Try.func14, Try.ntmps14
  go_wp2_with fail
  refine hw.out.mono ?_
  rintro e w' ⟨rfl, rfl⟩
  go_wp2_with fail
  refine (row_nil _ _).mono ?_
  rintro e w' ⟨rfl, rfl⟩
  go_wp2_with fail
  refine (push_nil _ _).mono ?_
  rintro e w' ⟨rfl, rfl⟩
  go_wp2_with fail
  go_ret
  exact ⟨rfl, rfl⟩
end Ry
end Go.Proofs.Ytmpingalekdlnaa
