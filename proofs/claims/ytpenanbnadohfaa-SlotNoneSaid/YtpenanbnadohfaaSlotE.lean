/- The walks of SlotNone and SlotBack. -/
import Derived.Test.YtpenanbnadohfaaSlotC
import Derived.Test.YtpenanbnadohfaaArg
import Derived.Deep.DeepCutAuto
import Derived.Deep.CutBlock
namespace Go.Proofs.Ytpenanbnadohfaa
open Go.RowKit

theorem take_nil (w : World) : Calls Try.prog 12 #[.pointer none] w fun e w' => e = .returned (.tuple #[.int .i64 0, .int .u64 0, .int .i64 3]) ∧ w' = w := by
  go_enter Try.func12, Try.ntmps12
  go_wp2
  go_ret3
  exact ⟨rfl, rfl⟩

set_option maxRecDepth 100000 in
theorem none_any (w : World) (h : Int) (_hh : (Lit.int .u64 h).wf = true) (n : Int) (_hn : (Lit.int .i64 n).wf = true) :
    Calls Try.prog 5 #[.int .u64 h, .int .i64 n] w fun e w' => e = .returned (.bool true) ∧ Below w.heap.size w w' := by
  go_enter Try.func5, Try.ntmps5
  go_wp2_with fail
  refine (take_nil w).mono ?_
  rintro e w1 ⟨rfl, rfl⟩
  go_wp2_with fail
  refine (find_nil h _).mono ?_
  rintro e w2 ⟨rfl, rfl⟩
  go_wp2_with fail
  refine (handleOf_nil n _).mono ?_
  rintro e w3 ⟨rfl, rfl⟩
  go_wp2_with fail
  refine (awake_calls _).mono ?_
  rintro e w4 ⟨rfl, hk⟩
  go_wp2_with fail
  refine (free_nil h _).mono ?_
  rintro e w5 ⟨rfl, rfl⟩
  go_wp2_with fail
  refine (used_nil _).mono ?_
  rintro e w6 ⟨rfl, rfl⟩
  go_wp2
  go_ret
  exact ⟨rfl, hk.below (Nat.le_refl _) (fun _ h => h.elim)⟩

def BackInv (w : World) (tb tg n k : Nat) (wr : World) : Prop :=
  ∃ l : Slots, l.length = n ∧ Table wr tb tg l ∧ Keeps NoBlock w wr ∧ ∀ (j : Nat) x, l[j]? = some x → 0 ≤ x.2 ∧ x.2 ≤ k

theorem BackInv.step {w : World} {tb tg n k : Nat} {wr w' : World} {l l' : Slots} (hn : l.length = n) (hlen : l'.length = l.length) (hT : Table w' tb tg l') (hk : Keeps NoBlock w wr) (hk' : Keeps (Foot tb tg) wr w') (hb : w.heap.size ≤ tb) (hg : w.heap.size ≤ tg)
    (hs : ∀ (j : Nat) x, l'[j]? = some x → 0 ≤ x.2 ∧ x.2 ≤ k) : BackInv w tb tg n k w' :=
  ⟨l', hlen.trans hn, hT, hk.trans hk' (by rintro j hj (rfl | rfl) <;> omega), hs⟩

theorem small_set {l : Slots} {k : Nat} {j : Nat} {y : Bool × Int} (hs : ∀ (j : Nat) x, l[j]? = some x → 0 ≤ x.2 ∧ x.2 ≤ (k : Int)) (hj : j < l.length) (hy : 0 ≤ y.2 ∧ y.2 ≤ ((k + 1 : Nat) : Int)) : ∀ (i : Nat) x, (l.set j y)[i]? = some x → 0 ≤ x.2 ∧ x.2 ≤ ((k + 1 : Nat) : Int) := by
  intro i x hx
  by_cases e : j = i
  · subst e
    rw [List.getElem?_set_self hj] at hx
    simp only [Option.some.injEq] at hx
    subst hx
    exact hy
  · rw [List.getElem?_set_ne e] at hx
    have := hs i x hx
    omega

/-- What Used tells: numbers of slots that are used. -/
theorem mem_usedTo {l : Slots} {x : Int} (h : x ∈ usedTo l l.length) : ∃ (k : Nat) (t : Int), x = k ∧ l[k]? = some (true, t) := by
  unfold usedTo at h
  obtain ⟨j, hj, he⟩ := List.mem_filterMap.1 h
  have hjl : j < l.length := by simpa using hj
  split at he
  · rename_i hu
    simp only [Option.some.injEq] at he
    refine ⟨j, (l[j]).2, he.symm, ?_⟩
    rw [List.getElem?_eq_getElem hjl]
    simp only [List.getD_eq_getElem?_getD, List.getElem?_eq_getElem hjl, Option.getD_some] at hu
    rw [← hu]
  · cases he

set_option maxRecDepth 100000 in
theorem back_calls (s : Int) (A : Option Addr) (b off len cap : Nat) (zs : List Int) (w : World) (hs0 : 0 ≤ s) (hs1 : s < 256) (hA : 0 < len → A = some ⟨b, off, none⟩)
    (hc : ∀ j, j < len → w.cell? ⟨b, off + j, none⟩ = some (.int .u8 (zs.getD j 0))) (hz : ∀ j, j < len → 0 ≤ zs.getD j 0 ∧ zs.getD j 0 < 256) (hl : len ≤ 1000000000000000) :
    Calls Try.prog 6 #[.int .u8 s, .slice A len cap] w fun e w' => e = .returned (.bool true) ∧ Below w.heap.size w w' := by
  have Hc := Lib.hid hc
  have Hz := Lib.hid hz
  have HA := Lib.hid hA
  clear hc hz hA
  obtain ⟨n, hn⟩ : ∃ n : Nat, s % 9 + 1 = n := ⟨(s % 9 + 1).toNat, by omega⟩
  have hn1 : 1 ≤ n ∧ n ≤ 9 := by omega
  go_enter Try.func6, Try.ntmps6
  go_wp2_with fail
  refine (new_calls _ w).mono ?_
  rintro e w1 ⟨tb, tg, rfl, T1, hk1, hb, hg⟩
  have hnl : newLen n = n := by unfold newLen; omega
  rw [hnl] at T1
  have Hn := Lib.hid hn
  clear hn hnl
  go_wp2_with fail
  go_loopw [7] (fun i wr => ∃ k : Nat, k ≤ 60 ∧ k ≤ len ∧ i = .int .i64 k ∧ BackInv w tb tg n k wr) (fun i _ => 60 - (intOf i).toNat)
  case atStart =>
    refine ⟨0, by omega, by omega, rfl, _, by simp, T1, hk1, fun j x hx => ?_⟩
    rw [List.getElem?_replicate] at hx
    split at hx <;> simp at hx
    subst hx
    exact ⟨Int.le_refl _, Int.le_refl _⟩
  case round =>
    obtain ⟨k, hk, hkl, rfl, l, hln, T, hkp, hsm⟩ := hrel
    by_cases hlt : k < len ∧ k < 60
    · obtain ⟨hlt, hlt6⟩ := hlt
      obtain rfl := HA.out (by omega)
      have hbw : b < w.heap.size := World.block_lt_of_cell? w ⟨b, off + k, none⟩ (Hc.out k hlt)
      have hzk := Hz.out k hlt
      obtain ⟨m, hm⟩ : ∃ m : Nat, zs.getD k 0 = m := ⟨(zs.getD k 0).toNat, by omega⟩
      have hcA : wr.cell? ⟨b, off + k, none⟩ = some (.int .u8 (m : Int)) := by rw [hkp.cell hbw (fun h => h), Hc.out k hlt, hm]
      rw [hm] at hzk
      clear hm
      obtain ⟨ix, hix⟩ : ∃ ix : Nat, (m : Int) % (n : Int) = ix := ⟨((m : Int) % (n : Int)).toNat, by have := Int.emod_nonneg (m : Int) (b := (n : Int)) (by omega); omega⟩
      have hml : ix < n := by have := Int.emod_lt_of_pos (m : Int) (b := (n : Int)) (by omega); omega
      have Hln := Lib.hid hln
      clear hln
      have hsmall : Small l := fun j x hx => by have := hsm j x hx; omega
      have Hsmall := Lib.hid hsmall
      have Hsm := Lib.hid hsm
      clear hsmall hsm
      go_wp2_with fail
      refine (handleOf_calls tb tg l wr ix T Hsmall.out).mono ?_
      rintro e w2 ⟨hsays, hk2⟩
      have T2 := T.keeps hk2 (fun h => h) (fun h => h)
      have hc2 : w2.cell? ⟨b, off + k, none⟩ = some (.int .u8 (m : Int)) := by rw [hk2.cell (by have := hkp.size; omega) (fun h => h), hcA]
      have Hsays := Lib.hid hsays
      clear hsays
      obtain ⟨hv, ok, he⟩ : ∃ hv ok, e = .returned (.tuple #[.int .u64 hv, .bool ok]) := by
        rcases Hsays.out with ⟨_, _, _, _, h⟩ | ⟨_, h⟩
        · exact ⟨_, _, h⟩
        · exact ⟨_, _, h⟩
      have Hsays' : Hid ((∃ (t : Int), hv = t * 65536 + ix + 1 ∧ l[ix]? = some (true, t) ∧ ok = true) ∨ ok = false) := by
        rcases Hsays.out with ⟨k', t, h1, h2, h⟩ | ⟨_, h⟩
        · rw [he] at h
          obtain rfl : ix = k' := by omega
          simp at h
          exact .inl ⟨t, h.1, h2, h.2⟩
        · rw [he] at h
          simp at h
          exact .inr h.2
      clear Hsays
      subst he
      go_upto_region 8 with fail
      go_cut [55] (fun v wx => ∃ c : Bool, v = .bool c ∧ (c = true → ok = true) ∧ w2 = wx)
      case first =>
        cases ok with
        | false =>
          go_wp2_with fail
          go_meet
          case rel => exact ⟨false, rfl, fun h => h, rfl⟩
        | true =>
          go_wp2_with fail
          go_meet
          case rel => exact ⟨_, rfl, fun _ => trivial, rfl⟩
      case rest =>
        obtain ⟨c, rfl, hc, rfl⟩ := hcut
        go_upto_if 55 with fail
        go_cut [] (fun wx => BackInv w tb tg n (k + 1) wx)
        case first =>
          have hTl := T.len
          have hkp2 : Keeps NoBlock w w2 := hkp.trans hk2 (fun _ _ h => h)
          cases c with
          | true =>
            obtain ⟨t, hht, hlt', hok⟩ : ∃ t, hv = t * 65536 + ix + 1 ∧ l[ix]? = some (true, t) ∧ ok = true := by
              rcases Hsays'.out with h | h
              · exact h
              · rw [hc rfl] at h; cases h
            have hst := Hsm.out ix _ hlt'
            have hil : ix < l.length := (List.getElem?_eq_some_iff.1 hlt').1
            simp only [] at hst
            have hvb : 0 ≤ hv ∧ hv < 18446744073709551616 := by omega
            have Hht := Lib.hid hht
            clear Hsays' hc hok hht
            have HL := Lib.hid hlt'
            clear hlt'
            go_wp2_with fail
            refine (free_calls tb tg l w2 _ T2 Hsmall.out hvb.1 hvb.2).mono ?_
            rintro e w3 ⟨l3, hfs, T3, hk3⟩
            obtain ⟨rfl, rfl⟩ := free_det hfs hTl Hsmall.out ix t HL.out Hht.out
            clear hfs
            have hsm3 := small_set (k := k) (y := (false, t)) Hsm.out hil (by simp only []; omega)
            go_wp2_with fail
            refine (handleOf_calls tb tg _ w3 ix T3 (fun j x hx => by have := hsm3 j x hx; omega)).mono ?_
            rintro e w4 ⟨hs4, hk4⟩
            obtain rfl : e = .returned (.tuple #[.int .u64 0, .bool false]) := by
              rcases hs4 with ⟨k', t', h1, h2, _⟩ | ⟨_, h⟩
              · obtain rfl : ix = k' := by omega
                rw [List.getElem?_set_self hil] at h2
                simp at h2
              · exact h
            clear hs4
            have T4 := T3.keeps hk4 (fun h => h) (fun h => h)
            have hkk := hk3.trans hk4 (fun _ _ h => h.elim)
            have hinv : BackInv w tb tg n (k + 1) w4 := BackInv.step Hln.out (by simp) T4 hkp2 hkk hb hg hsm3
            clear hsm3
            go_wp2_with fail
            go_meet
            case rel => exact hinv
          | false =>
            go_wp2_with fail
            refine (take_calls tb tg l w2 T2 Hsmall.out).mono ?_
            rintro e w3 ⟨l3, hsays, T3, hk3⟩
            have hinv : BackInv w tb tg n (k + 1) w3 := by
              rcases hsays with ⟨j, t, hj, _, rfl, _⟩ | ⟨_, rfl, _⟩
              · have hjl := (List.getElem?_eq_some_iff.1 hj).1
                have hst := Hsm.out j _ hj
                exact BackInv.step Hln.out (by simp) T3 hkp2 hk3 hb hg (small_set (k := k) Hsm.out hjl (by simp only [] at hst ⊢; omega))
              · exact BackInv.step Hln.out rfl T3 hkp2 hk3 hb hg (fun j x hx => by have := Hsm.out j x hx; omega)
            obtain ⟨v3, rfl⟩ : ∃ v3, e = .returned v3 := by
              rcases hsays with ⟨_, _, _, _, _, h⟩ | ⟨_, _, h⟩ <;> exact ⟨_, h⟩
            clear hsays
            go_wp2_with fail
            go_meet
            case rel => exact hinv
        case rest =>
          obtain ⟨l3, hln3, T3, hkp3, hsm3⟩ := hcut
          go_wp2_with fail
          refine (used_calls tb tg _ _ T3).mono ?_
          rintro e w4 ⟨v, rfl, ⟨hown, hnew⟩, hk4⟩
          have T4 := T3.keeps hk4 (fun h => h) (fun h => h)
          have hkp4 := hkp3.trans hk4 (fun _ _ h => h)
          obtain ⟨us, hus⟩ : ∃ us, Hid (us = usedTo l3 l3.length) := ⟨_, rfl⟩
          rw [← hus.out] at hown
          have Hl3 := Lib.hid hln3
          have hulen : us.length ≤ 9 := by rw [hus.out]; have := usedTo_len l3 l3.length; omega
          obtain ⟨ug, ucap, hv4⟩ : ∃ ug ucap, v = .slice ug us.length ucap := by
            rcases hown.2 with ⟨h1, h2⟩ | ⟨g, cap, _, h, _⟩
            · exact ⟨none, 0, by rw [h1, h2]⟩
            · exact ⟨_, _, h⟩
          subst hv4
          have Hsm3 := Lib.hid hsm3
          have Hnew := Lib.hid hnew
          have Hown := Lib.hid hown
          clear hsm3 hnew hln3 hown
          go_wp2_with fail
          go_loopw [14] (fun i wx => ∃ q : Nat, q ≤ us.length ∧ i = .int .i64 q ∧ Keeps NoBlock w4 wx) (fun i _ => us.length - (intOf i).toNat)
          case atStart => exact ⟨0, Nat.zero_le _, rfl, Keeps.refl _ _⟩
          case round =>
            obtain ⟨q, hq, rfl, hkx⟩ := hrel
            by_cases hql : q < us.length
            · obtain ⟨x, hx⟩ : ∃ x, us[q]? = some x := ⟨_, List.getElem?_eq_getElem hql⟩
              obtain ⟨kk, t, hxk, hkt⟩ := mem_usedTo (l := l3) (x := x) (by rw [← hus.out]; exact List.mem_of_getElem? hx)
              subst hxk
              obtain ⟨ub, rfl⟩ : ∃ ub, ug = some ⟨ub, 0, none⟩ := by
                rcases Hown.out.2 with ⟨h1, h2⟩ | ⟨g, cap, _, h, _⟩
                · omega
                · injection h with h; exact ⟨g, h⟩
              have own5 := Hown.out.keeps hkx (fun _ _ h => h)
              have T5 := T4.keeps hkx (fun h => h) (fun h => h)
              have hst := Hsm3.out kk _ hkt
              simp only [] at hst
              have hkl3 : kk < l3.length := (List.getElem?_eq_some_iff.1 hkt).1
              have hl3n : l3.length ≤ 9 := by rw [Hl3.out]; exact hn1.2
              have hcq : wr.cell? ⟨ub, q, none⟩ = some (.int .i64 (kk : Int)) := by
                rw [World.ownsRow.cellAt own5 _ (by omega)]
                simp [ints, hx]
              have Hk := Lib.hid hkt
              have hsm5 : Hid (Small l3) := fun j x hx => by have := Hsm3.out j x hx; omega
              clear hkt hx
              go_wp2_with fail
              refine (handleOf_calls tb tg l3 wr kk T5 hsm5.out).mono ?_
              rintro e w6 ⟨hs6, hk6⟩
              obtain rfl : e = .returned (.tuple #[.int .u64 (t * 65536 + kk + 1), .bool true]) := by
                rcases hs6 with ⟨k', t', h1, h2, h⟩ | ⟨h, _⟩
                · obtain rfl : kk = k' := by omega
                  rw [Hk.out] at h2
                  simp only [Option.some.injEq, Prod.mk.injEq, true_and] at h2
                  subst h2
                  exact h
                · exact absurd Hk.out (h kk t rfl)
              clear hs6
              have T6 := T5.keeps hk6 (fun h => h) (fun h => h)
              go_wp2_with fail
              refine (find_calls tb tg l3 w6 _ T6 hsm5.out (by omega) (by omega)).mono ?_
              rintro e w7 ⟨hs7, hk7⟩
              obtain rfl : e = .returned (.tuple #[.int .i64 kk, .bool true]) := by
                rcases hs7 with ⟨k', h1, h⟩ | ⟨h, _⟩
                · obtain rfl := found_unique (by omega) ⟨t, Hk.out, rfl⟩ h1
                  exact h
                · exact absurd ⟨t, Hk.out, rfl⟩ (h kk)
              clear hs7
              have hk67 := hk6.trans hk7 (fun _ _ h => h)
              have hcq' : w7.cell? ⟨ub, q, none⟩ = some (.int .i64 (kk : Int)) := by rw [hk67.cell (World.block_lt_of_cell? wr _ hcq) (fun h => h), hcq]
              have hkx7 := hkx.trans hk67 (fun _ _ h => h)
              go_wp2_with fail
              exact ⟨⟨q + 1, by omega, by go_num, hkx7⟩, by simp [intOf]; omega⟩
            · have T5 := T4.keeps hkx (fun h => h) (fun h => h)
              have hkp5 := hkp4.trans hkx (fun _ _ h => h)
              have hinv : BackInv w tb tg n (k + 1) wr := ⟨l3, Hl3.out, T5, hkp5, Hsm3.out⟩
              go_wp2_with fail
              exact ⟨⟨k + 1, by omega, by omega, by go_num, hinv⟩, by simp [intOf]; omega⟩
    · go_wp2_with fail
      all_goals
        refine (awake_calls _).mono ?_
        rintro e w9 ⟨rfl, hk9⟩
        go_wp2
        go_ret
        exact ⟨rfl, (hkp.trans hk9 (fun _ _ h => h)).below (Nat.le_refl _) (fun _ h => h.elim)⟩

theorem back_any (w : World) (s : Int) (hs : (Lit.int .u8 s).wf = true) (A : Option Addr) (b off len cap : Nat) (zs : List Int) (h : IntsAt .u8 w A b off len zs) (hl : len * 1 ≤ 140737488351232) :
    Calls Try.prog 6 #[.int .u8 s, .slice A len cap] w fun e w' => e = .returned (.bool true) ∧ Below w.heap.size w w' := by
  have hs' := bounds_u8 hs
  refine back_calls s A b off len cap zs w (by omega) (by omega) h.addr h.cell (fun j hj => ?_) (by omega)
  have := bounds_u8 (h.wf j hj)
  omega
end Go.Proofs.Ytpenanbnadohfaa
