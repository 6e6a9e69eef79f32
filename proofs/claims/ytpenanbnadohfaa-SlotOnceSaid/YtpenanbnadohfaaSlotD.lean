/- SlotOnce's walk. -/
import Derived.Test.YtpenanbnadohfaaSlotC
import Derived.Test.YtpenanbnadohfaaArg
import Derived.Deep.DeepCutAuto
import Derived.Deep.CutBlock
namespace Go.Proofs.Ytpenanbnadohfaa
open Go.RowKit

theorem elWords : Elem Try.prog 25 26 (.int .u64 0) 1 8 := .mk' Try.underlying25 (by kernel_rfl) rfl (by decide)

/-- Handles told so far, and the table, behind k rounds. -/
structure OnceGood (l : Slots) (hs : List Int) (k : Nat) : Prop where
  len : hs.length ≤ k
  small : ∀ (j : Nat) x, l[j]? = some x → 0 ≤ x.2 ∧ x.2 ≤ k
  told : ∀ h ∈ hs, ∃ (j : Nat) (t : Int) (x : Bool × Int), l[j]? = some x ∧ h = t * 65536 + j + 1 ∧ 1 ≤ t ∧ t ≤ x.2

theorem OnceGood.small' {l : Slots} {hs : List Int} {k : Nat} (h : OnceGood l hs k) (hk : k ≤ 100) : Small l := fun j x hx => by have := h.small j x hx; omega

/-- One slot has been given its next number. -/
theorem OnceGood.take {l : Slots} {hs : List Int} {k j : Nat} {t : Int} (h : OnceGood l hs k) (hj : l[j]? = some (false, t)) :
    OnceGood (l.set j (true, t + 1)) hs (k + 1) ∧ OnceGood (l.set j (true, t + 1)) (hs ++ [(t + 1) * 65536 + j + 1]) (k + 1) := by
  have hlt : j < l.length := (List.getElem?_eq_some_iff.1 hj).1
  have hs0 := h.small j _ hj
  simp only [] at hs0
  have hsm : ∀ (i : Nat) x, (l.set j (true, t + 1))[i]? = some x → 0 ≤ x.2 ∧ x.2 ≤ ((k + 1 : Nat) : Int) := by
    intro i x hx
    by_cases e : j = i
    · subst e
      rw [List.getElem?_set_self hlt] at hx
      simp only [Option.some.injEq] at hx
      subst hx
      simp only []
      omega
    · rw [List.getElem?_set_ne e] at hx
      have := h.small i x hx
      omega
  have htold : ∀ a ∈ hs, ∃ (i : Nat) (t' : Int) (x : Bool × Int), (l.set j (true, t + 1))[i]? = some x ∧ a = t' * 65536 + i + 1 ∧ 1 ≤ t' ∧ t' ≤ x.2 := by
    intro a ha
    obtain ⟨i, t', x, h1, h2, h3, h4⟩ := h.told a ha
    by_cases e : j = i
    · subst e
      rw [hj] at h1
      simp only [Option.some.injEq] at h1
      subst h1
      exact ⟨j, t', (true, t + 1), List.getElem?_set_self hlt, h2, h3, by simp only [] at h4 ⊢; omega⟩
    · exact ⟨i, t', x, by rw [List.getElem?_set_ne e]; exact h1, h2, h3, h4⟩
  refine ⟨⟨by have := h.len; omega, hsm, htold⟩, ⟨by have := h.len; simp; omega, hsm, ?_⟩⟩
  intro a ha
  rcases List.mem_append.1 ha with ha | ha
  · exact htold a ha
  · simp only [List.mem_singleton] at ha
    subst ha
    exact ⟨j, t + 1, (true, t + 1), List.getElem?_set_self hlt, rfl, by omega, Int.le_refl _⟩

theorem OnceGood.next {l : Slots} {hs : List Int} {k : Nat} (h : OnceGood l hs k) : OnceGood l hs (k + 1) :=
  ⟨by have := h.len; omega, fun j x hx => by have := h.small j x hx; omega, h.told⟩

/-- The new handle is none of those told. -/
theorem OnceGood.new {l : Slots} {hs : List Int} {k j : Nat} {t : Int} (h : OnceGood l hs k) (hl : l.length ≤ 1024) (hj : l[j]? = some (false, t)) : ∀ a ∈ hs, a ≠ (t + 1) * 65536 + j + 1 := by
  intro a ha e
  obtain ⟨i, t', x, h1, h2, h3, h4⟩ := h.told a ha
  have hlt := (List.getElem?_eq_some_iff.1 hj).1
  have hlt' := (List.getElem?_eq_some_iff.1 h1).1
  have : i = j := by omega
  subst this
  rw [hj] at h1
  simp only [Option.some.injEq] at h1
  subst h1
  simp only [] at h4
  omega

theorem OnceGood.free {l : Slots} {hs : List Int} {k j : Nat} {t : Int} (h : OnceGood l hs k) (hj : l[j]? = some (true, t)) : OnceGood (l.set j (false, t)) hs k := by
  have hlt : j < l.length := (List.getElem?_eq_some_iff.1 hj).1
  refine ⟨h.len, fun i x hx => ?_, fun a ha => ?_⟩
  · by_cases e : j = i
    · subst e
      rw [List.getElem?_set_self hlt] at hx
      simp only [Option.some.injEq] at hx
      subst hx
      have := h.small j _ hj
      exact this
    · rw [List.getElem?_set_ne e] at hx
      exact h.small i x hx
  · obtain ⟨i, t', x, h1, h2, h3, h4⟩ := h.told a ha
    by_cases e : j = i
    · subst e
      rw [hj] at h1
      simp only [Option.some.injEq] at h1
      subst h1
      exact ⟨j, t', (false, t), List.getElem?_set_self hlt, h2, h3, h4⟩
    · exact ⟨i, t', x, by rw [List.getElem?_set_ne e]; exact h1, h2, h3, h4⟩

/-- What is freed is nobody's. -/
theorem freed_none {l : Slots} {x : Int} (hl : l.length ≤ 1024) {j : Nat} {t : Int} (_hj : l[j]? = some (true, t)) (hx : x = t * 65536 + (j : Int) + 1) : ∀ i, ¬ Found (l.set j (false, t)) x i := by
  rintro i ⟨t', h1, h2⟩
  have hlt := (List.getElem?_eq_some_iff.1 h1).1
  have hlt' := (List.getElem?_eq_some_iff.1 _hj).1
  simp at hlt
  have : i = j := by omega
  subst this
  rw [List.getElem?_set_self hlt'] at h1
  simp at h1

def OnceInv (w : World) (tb tg k : Nat) (v : Value) (wr : World) : Prop :=
  ∃ (l : Slots) (hs : List Int) (g cap : Nat), v = .slice (some ⟨g, 0, none⟩) hs.length cap ∧ Table wr tb tg l ∧ Keeps NoBlock w wr ∧ Own wr 26 1 v hs.length (hs.map (Value.int .u64)) ∧
    (w.heap.size ≤ g ∧ g ≠ tb ∧ g ≠ tg) ∧ OnceGood l hs k

set_option maxRecDepth 100000 in
theorem once_calls (s : Int) (A : Option Addr) (b off len cap : Nat) (zs : List Int) (w : World) (hs0 : 0 ≤ s) (hs1 : s < 256) (hA : 0 < len → A = some ⟨b, off, none⟩)
    (hc : ∀ j, j < len → w.cell? ⟨b, off + j, none⟩ = some (.int .u8 (zs.getD j 0))) (hz : ∀ j, j < len → 0 ≤ zs.getD j 0 ∧ zs.getD j 0 < 256) (hl : len ≤ 1000000000000000) :
    Calls Try.prog 3 #[.int .u8 s, .slice A len cap] w fun e w' => e = .returned (.bool true) ∧ Below w.heap.size w w' := by
  have Hc := Lib.hid hc
  have Hz := Lib.hid hz
  have HA := Lib.hid hA
  clear hc hz hA
  go_enter Try.func3, Try.ntmps3
  go_wp2_with fail
  refine (new_calls _ w).mono ?_
  rintro e w1 ⟨tb, tg, rfl, T1, hk1, hb, hg⟩
  go_wp2_with fail
  go_loopw [6, 7] (fun v i wr => ∃ k : Nat, k ≤ 60 ∧ k ≤ len ∧ i = .int .i64 k ∧ OnceInv w tb tg k v wr) (fun _ i _ => 60 - (intOf i).toNat)
  case atStart =>
    refine ⟨0, by omega, by omega, rfl, _, [], _, _, rfl, T1.keeps (S := NoBlock) ((Keeps.refl _ _).alloc _) (fun h => h) (fun h => h), hk1.alloc _, World.ownsRow_lit w1 #[] 0 (Nat.zero_le _) (by simp [maxLen]) rfl, ?_, ?_⟩
    · have := hk1.size; have := T1.ltb; have := T1.ltg; omega
    · refine ⟨Nat.zero_le _, fun j x hx => ?_, fun h hh => by simp at hh⟩
      rw [List.getElem?_replicate] at hx
      split at hx <;> simp at hx
      subst hx
      exact ⟨Int.le_refl _, Int.le_refl _⟩
  case round =>
    obtain ⟨k, hk, hkl, rfl, l, hs, g, cap', rfl, T, hkp, hown, ⟨hg1, hg2, hg3⟩, hgood⟩ := hrel
    by_cases hlt : k < len ∧ k < 60
    · obtain ⟨hlt, hlt6⟩ := hlt
      have hsm := Lib.hid (hgood.small' (by omega))
      go_wp2_with fail
      refine (take_calls tb tg l wr T hsm.out).mono ?_
      rintro e w2 ⟨l2, hsays, T2, hk2⟩
      have hgl : g < wr.heap.size := hown.lt g rfl
      have hF : ∀ j, j < w.heap.size → Foot tb tg j → NoBlock j := by rintro j hj (rfl | rfl) <;> omega
      have hkp2 : Keeps NoBlock w w2 := hkp.trans hk2 hF
      have hown2 := hown.keeps hk2 (fun b hb => by simp [Value.ownBlock] at hb; subst hb; rintro (h | h); exact hg2 h; exact hg3 h)
      rcases hsays with ⟨j, t, hj, hbef, rfl, rfl⟩ | ⟨hfull, rfl, rfl⟩
      · have hG := Lib.hid (hgood.take hj)
        have hnew := Lib.hid (hgood.new T.len hj)
        have ht := hgood.small j _ hj
        have hjl : j < l.length := (List.getElem?_eq_some_iff.1 hj).1
        have hll := T.len
        simp only [] at ht
        clear hj hbef
        go_wp2_with fail
        go_loop [11] (fun i => ∃ q : Nat, q ≤ hs.length ∧ i = .int .i64 q) (fun i => hs.length - (intOf i).toNat)
        case atStart => exact ⟨0, Nat.zero_le _, rfl⟩
        case round =>
          obtain ⟨q, hq, rfl⟩ := hrel
          have hlen := hgood.len
          by_cases hql : q < hs.length
          · obtain ⟨x, hx⟩ : ∃ x, hs[q]? = some x := ⟨_, List.getElem?_eq_getElem hql⟩
            have hcell : w2.cell? ⟨g, q, none⟩ = some (.int .u64 x) := by
              rw [World.ownsRow.cellAt hown2 q (by omega)]
              simp [hx]
            have hne : (x == (t + 1) * 65536 + j + 1) = false := by
              have := hnew.out x (List.mem_of_getElem? hx)
              simpa using this
            clear hx
            go_wp2_with fail
            exact ⟨⟨q + 1, by omega, by go_num⟩, by simp [intOf]; omega⟩
          · obtain rfl : q = hs.length := by omega
            have hbt : 0 ≤ (t + 1) * 65536 + (j : Int) + 1 := by omega
            go_wp2_with (at_builtin; refine wpList_app1 elWords _ rfl _ _ rfl (.slice (some ⟨g, 0, none⟩) hs.length cap') _ _ rfl hown2 [.int .u64 ((t + 1) * 65536 + j + 1)] 26 _ rfl (by simp) rfl (by simp [Value.oneCell']) (by omega) (by decide) ?_; intro g3 cap3 w3 hown3 hk3 hfr3)
            obtain ⟨hs3, hs3e⟩ : ∃ hs3, Hid (hs3 = hs ++ [(t + 1) * 65536 + (j : Int) + 1]) := ⟨_, rfl⟩
            have own3 : Own w3 26 1 (.slice (some ⟨g3, 0, none⟩) (hs.length + 1) cap3) (hs.length + 1) (hs3.map (Value.int .u64)) := by rw [hs3e.out]; simpa using hown3
            have len3 : hs3.length ≤ hs.length + 1 ∧ hs.length + 1 ≤ hs3.length := by rw [hs3e.out]; simp
            have T3 := T2.keeps hk3 (fun h => by simp [Value.ownBlock] at h; exact hg2 h) (fun h => by simp [Value.ownBlock] at h; exact hg3 h)
            have hkp3 := hkp2.trans hk3 (fun q hq h => by simp [Value.ownBlock] at h; omega)
            have good3 : OnceGood (l.set j (true, t + 1)) hs3 (k + 1) := by rw [hs3e.out]; exact hG.out.2
            have gg3 : w.heap.size ≤ g3 ∧ g3 ≠ tb ∧ g3 ≠ tg := by
              have := T2.ltb; have := T2.ltg; have := hkp2.size
              rcases hfr3 with h | h
              · simp [Value.ownBlock] at h; subst h; exact ⟨hg1, hg2, hg3⟩
              · omega
            clear hown3 hfr3 hk3
            have hn0 : hs.length + 1 = hs3.length := by omega
            have inv : ∀ (l6 : Slots) (w6 : World), Table w6 tb tg l6 → Keeps NoBlock w w6 → Own w6 26 1 (.slice (some ⟨g3, 0, none⟩) (hs.length + 1) cap3) (hs.length + 1) (hs3.map (Value.int .u64)) → OnceGood l6 hs3 (k + 1) → OnceInv w tb tg (k + 1) (.slice (some ⟨g3, 0, none⟩) (hs.length + 1) cap3) w6 := by
              intro l6 w6 h1 h2 h3 h4
              rw [hn0] at h3 ⊢
              exact ⟨l6, hs3, _, _, rfl, h1, h2, h3, gg3, h4⟩
            have Inv := Lib.hid inv
            clear inv hn0
            by_cases hpos : 0 < hs.length + 1
            · obtain rfl := HA.out (by omega)
              have hbw : b < w.heap.size := World.block_lt_of_cell? w ⟨b, off + k, none⟩ (Hc.out k hlt)
              have hzk := Hz.out k hlt
              obtain ⟨m, hm⟩ : ∃ m : Nat, zs.getD k 0 = m := ⟨(zs.getD k 0).toNat, by omega⟩
              have hcA : w3.cell? ⟨b, off + k, none⟩ = some (.int .u8 (m : Int)) := by rw [hkp3.cell hbw (fun h => h), Hc.out k hlt, hm]
              rw [hm] at hzk
              clear hm
              obtain ⟨ix, hix⟩ : ∃ ix : Nat, (m : Int) % ((hs.length : Int) + 1) = ix := ⟨((m : Int) % ((hs.length : Int) + 1)).toNat, by have := Int.emod_nonneg (m : Int) (b := (hs.length : Int) + 1) (by omega); omega⟩
              have hml : ix < hs.length + 1 := by have := Int.emod_lt_of_pos (m : Int) (b := (hs.length : Int) + 1) (by omega); omega
              obtain ⟨x, hx⟩ : ∃ x, hs3[ix]? = some x := ⟨_, List.getElem?_eq_getElem (by omega)⟩
              have hcell : w3.cell? ⟨g3, ix, none⟩ = some (.int .u64 x) := by
                rw [World.ownsRow.cellAt own3 _ (by omega)]
                simp [hx]
              have hT3l := T3.len
              have hxb : 0 ≤ x ∧ x < 18446744073709551616 := by
                obtain ⟨i, t', y, h1, rfl, h3, h4⟩ := good3.told x (List.mem_of_getElem? hx)
                have := good3.small i y h1
                have := (List.getElem?_eq_some_iff.1 h1).1
                omega
              clear hx
              go_wp2_with fail
              refine (free_calls tb tg _ _ x T3 (good3.small' (by omega)) hxb.1 hxb.2).mono ?_
              rintro e w4 ⟨l4, hfs, T4, hk4⟩
              obtain ⟨c, rfl, hnone, good4⟩ : ∃ c, e = .returned (.int .i64 c) ∧ (∀ i, ¬ Found l4 x i) ∧ OnceGood l4 hs3 (k + 1) := by
                rcases hfs with ⟨j4, t4, hj4, hx4, rfl, rfl⟩ | ⟨hn4, rfl, rfl⟩
                · exact ⟨_, rfl, freed_none hT3l hj4 hx4, good3.free hj4⟩
                · exact ⟨_, rfl, hn4, good3⟩
              clear hfs
              have Hnone := Lib.hid hnone
              clear hnone
              go_wp2_with fail
              refine (find_calls tb tg _ _ x T4 (good4.small' (by omega)) hxb.1 hxb.2).mono ?_
              rintro e w5 ⟨hfs5, hk5⟩
              obtain rfl := find_none hfs5 Hnone.out
              clear hfs5
              have T5 := T4.keeps hk5 (fun h => h) (fun h => h)
              go_wp2_with fail
              refine (free_calls tb tg _ _ x T5 (good4.small' (by omega)) hxb.1 hxb.2).mono ?_
              rintro e w6 ⟨l6, hfs6, T6, hk6⟩
              obtain ⟨rfl, rfl⟩ : l6 = l4 ∧ e = .returned (.int .i64 3) := by
                rcases hfs6 with ⟨j6, t6, hj6, hx6, _, _⟩ | ⟨_, h1, h2⟩
                · exact absurd ⟨t6, hj6, hx6⟩ (Hnone.out j6)
                · exact ⟨h1, h2⟩
              clear hfs6
              have kk : Keeps (Foot tb tg) w3 w6 := (hk4.trans hk5 (fun _ _ h => h.elim)).trans hk6 (fun _ _ h => h)
              have own6 := own3.keeps kk (fun b hb => by simp [Value.ownBlock] at hb; subst hb; rintro (h | h); exact gg3.2.1 h; exact gg3.2.2 h)
              have hkp6 : Keeps NoBlock w w6 := hkp3.trans kk hF
              go_wp2_with fail
              exact ⟨⟨k + 1, by omega, by omega, by go_num, Inv.out _ _ T6 hkp6 own6 good4⟩, by simp [intOf]; omega⟩
            · first
                | (exfalso; omega)
                | (go_wp2_with fail
                   exact ⟨⟨k + 1, by omega, by omega, by go_num, Inv.out _ _ T3 hkp3 own3 good3⟩, by simp [intOf]; omega⟩)
      · have own3 := hown2
        obtain ⟨hs3, hs3e⟩ : ∃ hs3, Hid (hs3 = hs) := ⟨_, rfl⟩
        have len3 : hs3.length ≤ hs.length ∧ hs.length ≤ hs3.length := by rw [hs3e.out]; simp
        have good3 : OnceGood l2 hs3 (k + 1) := by rw [hs3e.out]; exact hgood.next
        have T3 := T2
        have hkp3 := hkp2
        have gg3 : w.heap.size ≤ g ∧ g ≠ tb ∧ g ≠ tg := ⟨hg1, hg2, hg3⟩
        have own3 : Own w2 26 1 (.slice (some ⟨g, 0, none⟩) hs.length cap') hs.length (hs3.map (Value.int .u64)) := by rw [hs3e.out]; exact hown2
        have hn0 : hs.length = hs3.length := by omega
        have inv : ∀ (l6 : Slots) (w6 : World), Table w6 tb tg l6 → Keeps NoBlock w w6 → Own w6 26 1 (.slice (some ⟨g, 0, none⟩) (hs.length) cap') (hs.length) (hs3.map (Value.int .u64)) → OnceGood l6 hs3 (k + 1) → OnceInv w tb tg (k + 1) (.slice (some ⟨g, 0, none⟩) (hs.length) cap') w6 := by
          intro l6 w6 h1 h2 h3 h4
          rw [hn0] at h3 ⊢
          exact ⟨l6, hs3, _, _, rfl, h1, h2, h3, gg3, h4⟩
        have Inv := Lib.hid inv
        clear inv hn0
        by_cases hpos : 0 < hs.length
        · obtain rfl := HA.out (by omega)
          have hbw : b < w.heap.size := World.block_lt_of_cell? w ⟨b, off + k, none⟩ (Hc.out k hlt)
          have hzk := Hz.out k hlt
          obtain ⟨m, hm⟩ : ∃ m : Nat, zs.getD k 0 = m := ⟨(zs.getD k 0).toNat, by omega⟩
          have hcA : w2.cell? ⟨b, off + k, none⟩ = some (.int .u8 (m : Int)) := by rw [hkp3.cell hbw (fun h => h), Hc.out k hlt, hm]
          rw [hm] at hzk
          clear hm
          obtain ⟨ix, hix⟩ : ∃ ix : Nat, (m : Int) % ((hs.length : Int)) = ix := ⟨((m : Int) % ((hs.length : Int))).toNat, by have := Int.emod_nonneg (m : Int) (b := (hs.length : Int)) (by omega); omega⟩
          have hml : ix < hs.length := by have := Int.emod_lt_of_pos (m : Int) (b := (hs.length : Int)) (by omega); omega
          obtain ⟨x, hx⟩ : ∃ x, hs3[ix]? = some x := ⟨_, List.getElem?_eq_getElem (by omega)⟩
          have hcell : w2.cell? ⟨g, ix, none⟩ = some (.int .u64 x) := by
            rw [World.ownsRow.cellAt own3 _ (by omega)]
            simp [hx]
          have hT3l := T3.len
          have hxb : 0 ≤ x ∧ x < 18446744073709551616 := by
            obtain ⟨i, t', y, h1, rfl, h3, h4⟩ := good3.told x (List.mem_of_getElem? hx)
            have := good3.small i y h1
            have := (List.getElem?_eq_some_iff.1 h1).1
            omega
          clear hx
          go_wp2_with fail
          refine (free_calls tb tg _ _ x T3 (good3.small' (by omega)) hxb.1 hxb.2).mono ?_
          rintro e w4 ⟨l4, hfs, T4, hk4⟩
          obtain ⟨c, rfl, hnone, good4⟩ : ∃ c, e = .returned (.int .i64 c) ∧ (∀ i, ¬ Found l4 x i) ∧ OnceGood l4 hs3 (k + 1) := by
            rcases hfs with ⟨j4, t4, hj4, hx4, rfl, rfl⟩ | ⟨hn4, rfl, rfl⟩
            · exact ⟨_, rfl, freed_none hT3l hj4 hx4, good3.free hj4⟩
            · exact ⟨_, rfl, hn4, good3⟩
          clear hfs
          have Hnone := Lib.hid hnone
          clear hnone
          go_wp2_with fail
          refine (find_calls tb tg _ _ x T4 (good4.small' (by omega)) hxb.1 hxb.2).mono ?_
          rintro e w5 ⟨hfs5, hk5⟩
          obtain rfl := find_none hfs5 Hnone.out
          clear hfs5
          have T5 := T4.keeps hk5 (fun h => h) (fun h => h)
          go_wp2_with fail
          refine (free_calls tb tg _ _ x T5 (good4.small' (by omega)) hxb.1 hxb.2).mono ?_
          rintro e w6 ⟨l6, hfs6, T6, hk6⟩
          obtain ⟨rfl, rfl⟩ : l6 = l4 ∧ e = .returned (.int .i64 3) := by
            rcases hfs6 with ⟨j6, t6, hj6, hx6, _, _⟩ | ⟨_, h1, h2⟩
            · exact absurd ⟨t6, hj6, hx6⟩ (Hnone.out j6)
            · exact ⟨h1, h2⟩
          clear hfs6
          have kk : Keeps (Foot tb tg) w2 w6 := (hk4.trans hk5 (fun _ _ h => h.elim)).trans hk6 (fun _ _ h => h)
          have own6 := own3.keeps kk (fun b hb => by simp [Value.ownBlock] at hb; subst hb; rintro (h | h); exact gg3.2.1 h; exact gg3.2.2 h)
          have hkp6 : Keeps NoBlock w w6 := hkp3.trans kk hF
          go_wp2_with fail
          exact ⟨⟨k + 1, by omega, by omega, by go_num, Inv.out _ _ T6 hkp6 own6 good4⟩, by simp [intOf]; omega⟩
        · first
            | (exfalso; omega)
            | (go_wp2_with fail
               exact ⟨⟨k + 1, by omega, by omega, by go_num, Inv.out _ _ T3 hkp3 own3 good3⟩, by simp [intOf]; omega⟩)
    · go_wp2_with fail
      all_goals
        refine (awake_calls _).mono ?_
        rintro e w9 ⟨rfl, hk9⟩
        go_wp2
        go_ret
        exact ⟨rfl, (hkp.trans hk9 (fun _ _ h => h)).below (Nat.le_refl _) (fun _ h => h.elim)⟩

/-- The law, of whatever came in. -/
theorem once_any (w : World) (s : Int) (hs : (Lit.int .u8 s).wf = true) (A : Option Addr) (b off len cap : Nat) (zs : List Int) (h : IntsAt .u8 w A b off len zs) (hl : len * 1 ≤ 140737488351232) :
    Calls Try.prog 3 #[.int .u8 s, .slice A len cap] w fun e w' => e = .returned (.bool true) ∧ Below w.heap.size w w' := by
  have hs' := bounds_u8 hs
  refine once_calls s A b off len cap zs w (by omega) (by omega) h.addr h.cell (fun j hj => ?_) (by omega)
  have := bounds_u8 (h.wf j hj)
  omega
end Go.Proofs.Ytpenanbnadohfaa
