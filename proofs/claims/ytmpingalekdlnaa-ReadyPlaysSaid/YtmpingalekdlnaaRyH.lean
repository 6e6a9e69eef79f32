/- ReadyOwn: who has threads in its own row picks the first of them, and no other row changes. -/
import Derived.Test.YtmpingalekdlnaaRyG
import Derived.Test.YtmpingalekdlnaaApp
namespace Go.Proofs.Ytmpingalekdlnaa
open Go.RowKit
namespace Ry
open Dq

theorem elR : Elem Try.prog 25 30 (.slice none 0 0) 1 24 := Elem.mk' (by kernel_rfl) (by kernel_rfl) rfl (by decide)

/-- All, with what the slice has room for. -/
def All2 (w : World) (l : List Int) (e : Ending) (w' : World) : Prop := ∃ A c, l.length ≤ c ∧ e = .returned (.slice A l.length c) ∧ ReadsI .i64 w' (.slice A l.length c) l ∧ (∀ b, (Value.slice A l.length c).ownBlock = some b → w.heap.size ≤ b ∧ b < w'.heap.size) ∧ Keeps NoBlock w w'

theorem all2_calls {col : Nat → Nat} {i : Nat} (d : Nat) (l : List Int) (w : World) (h : DequeAt col i w d l) : Calls Try.prog 27 #[.pointer (some ⟨d, 0, none⟩)] w (All2 w l) := by
  obtain ⟨A, c, h⟩ := h
  have hc := cell_of_block h.head (o := 0) rfl
  have hl := h.len
  have Hh := Lib.hid h
  clear h
  go_enter Try.func27, Try.ntmps27
  go_wp2_with fail
  refine (cloneI_calls _ _ _ _ Hh.out.own (ints_one .i64 _) (by omega)).mono ?_
  rintro e w1 ⟨v, rfl, ho, hf, hk⟩
  obtain ⟨A, n, c, rfl, hn1, hA1, hn⟩ : ∃ A n c, v = .slice A n c ∧ n ≤ c ∧ (A = none → n = 0 ∧ c = 0) ∧ n = l.length := by
    rcases Own.form ho with ⟨rfl, h0⟩ | ⟨g, c, rfl, _, h2, _⟩
    · exact ⟨none, 0, 0, rfl, Nat.le_refl _, (fun _ => ⟨rfl, rfl⟩), h0.symm⟩
    · exact ⟨_, _, _, rfl, h2, (fun h => by simp at h), rfl⟩
  have Hr := Lib.hid (Own.readsI ho)
  have Hf := Lib.hid hf
  have Hlt := Lib.hid ho.lt
  have Hk := Lib.hid hk
  have Hn := Lib.hid hn
  clear ho hf hk hn
  go_wp2_with fail
  refine (clipI_calls _ _ _ hn1 hA1 _).mono ?_
  rintro e w2 ⟨rfl, rfl⟩
  go_wp2_with fail
  go_ret
  have hR : ReadsI .i64 w1 (.slice A l.length n) l := by rw [← Hn.out]; exact ReadsI.clip Hr.out
  exact ⟨A, n, by rw [← Hn.out]; exact Nat.le_refl _, by rw [← Hn.out]; rfl, hR, fun k hk => ⟨Hf.out k (by cases A <;> exact hk), Hlt.out k (by cases A <;> exact hk)⟩, Hk.out⟩

theorem Row2_calls {w wr : World} {r n : Nat} {qs : List (List Int)} {B : Nat → Prop} (k : Nat) (q : List Int) (I : RyS w r n qs B wr) (hq : qs[k]? = some q) : Calls Try.prog 16 #[ptr r, .int .i64 k] wr (All2 wr q) := by
  have hk : k < n := by rw [← I.ql]; exact (List.getElem?_eq_some_iff.1 hq).1
  obtain ⟨col, A, c, ds, h, _⟩ := I
  obtain ⟨g, d, q', _, _, _, hd, hq', hdq⟩ := h.at hk
  rw [hq] at hq'
  cases hq'
  have hr := Lib.hid (row_in k d h hk hd)
  have ha := Lib.hid (all2_calls d q wr hdq)
  clear h hd hq hdq
  go_enter Try.func16, Try.ntmps16
  go_wp2_with fail
  refine hr.out.mono ?_
  rintro e w1 ⟨rfl, rfl⟩
  go_wp2_with fail
  refine ha.out.mono ?_
  rintro e w1 ⟨A1, c1, hc1, rfl, h1, h2, h3⟩
  go_wp2_with fail
  go_ret
  exact ⟨A1, c1, hc1, rfl, h1, h2, h3⟩

/-- The first k of what a list of slices holds read as these rows; they lie in blocks that were made behind world w. -/
structure Held (w wr : World) (o n k : Nat) (vs : List Value) (qs : List (List Int)) : Prop where
  head : wr.heap[o]? = some (.cells vs.toArray 30 (0, 0))
  vl : vs.length = n
  each : ∀ (j : Nat) (q : List Int), j < k → qs[j]? = some q → ∃ A c, q.length ≤ c ∧ vs[j]? = some (.slice A q.length c) ∧ ReadsI .i64 wr (.slice A q.length c) q ∧ ∀ b, (Value.slice A q.length c).ownBlock = some b → w.heap.size ≤ b ∧ b < wr.heap.size ∧ b ≠ o

theorem Held.keeps {S : Nat → Prop} {w wr w' : World} {o n k : Nat} {vs : List Value} {qs : List (List Int)} (h : Held w wr o n k vs qs) (kk : Keeps S wr w') (ho : ¬ S o) (hS : ∀ (j : Nat) (q : List Int) A c, j < k → qs[j]? = some q → vs[j]? = some (.slice A q.length c) → ∀ b, (Value.slice A q.length c).ownBlock = some b → ¬ S b) : Held w w' o n k vs qs :=
  ⟨by rw [kk.block o (lt_of_block h.head) ho]; exact h.head, h.vl, fun j q hj hq => by
    obtain ⟨A, c, h0, h1, h2, h3⟩ := h.each j q hj hq
    exact ⟨A, c, h0, h1, h2.keeps kk (hS j q A c hj hq h1), fun b hb => ⟨(h3 b hb).1, Nat.lt_of_lt_of_le (h3 b hb).2.1 kk.size, (h3 b hb).2.2⟩⟩⟩

/-- The law's own blocks. -/
def OB (o : Nat) (vs : List Value) : Nat → Prop := fun b => b = o ∨ ∃ (j : Nat) (v : Value), vs[j]? = some v ∧ v.ownBlock = some b

/-- Rows of package ready beside what the law holds of them. -/
structure Beside (w : World) (r n : Nat) (now qs : List (List Int)) (o k : Nat) (vs : List Value) (wr : World) : Prop where
  s : RyS w r n now (OB o vs) wr
  h : Held w wr o n k vs qs
  z : ∀ (j : Nat) (v : Value), k ≤ j → vs[j]? = some v → v = .slice none 0 0

theorem Beside.keeps {w wr w' : World} {r n o k : Nat} {now qs : List (List Int)} {vs : List Value} (h : Beside w r n now qs o k vs wr) (kk : Keeps NoBlock wr w') : Beside w r n now qs o k vs w' :=
  ⟨h.s.keeps kk, h.h.keeps kk (fun h => h) (fun _ _ _ _ _ _ _ _ _ h => h), h.z⟩

/-- One row more is held. -/
theorem Beside.more {w wr w' : World} {r n o k : Nat} {now qs : List (List Int)} {vs : List Value} {q : List Int} {A : Option Addr} {c : Nat} (h : Beside w r n now qs o k vs wr) (hk : k < n) (hq : qs[k]? = some q) (hcap : q.length ≤ c) (hr : ReadsI .i64 w' (.slice A q.length c) q)
    (kk : Keeps NoBlock wr w') (hf : ∀ b, (Value.slice A q.length c).ownBlock = some b → wr.heap.size ≤ b ∧ b < w'.heap.size) :
    Beside w r n now qs o (k + 1) (vs.set k (.slice A q.length c)) (w'.setCell ⟨o, k, none⟩ (.slice A q.length c)) := by
  have h' := h.keeps kk
  have hob := lt_of_block h.h.head
  have hkv : k < vs.length := by rw [h.h.vl]; exact hk
  have k2 : Keeps (fun b => b = o) w' (w'.setCell ⟨o, k, none⟩ (.slice A q.length c)) := (Keeps.refl (fun b => b = o) w').set (.inl rfl) _
  have hsz : (w'.setCell ⟨o, k, none⟩ (.slice A q.length c)).heap.size = w'.heap.size := by simp [World.setCell]
  refine ⟨h.s.change ((kk.mono (fun _ _ h => h.elim)).trans k2 (fun b _ hb => .inl hb)) (fun b hb => ?_), ⟨?_, by rw [List.length_set]; exact h.h.vl, fun j p hj hp => ?_⟩, fun j v hj hv => ?_⟩
  · rw [hsz]
    have hs := kk.size
    rcases hb with rfl | ⟨j, v, hv, hb⟩
    · exact ⟨.inl (.inl rfl), by omega⟩
    · by_cases e : j = k
      · subst e
        rw [List.getElem?_set_self hkv] at hv
        cases hv
        exact ⟨.inr (hf b hb).1, (hf b hb).2⟩
      · rw [List.getElem?_set_ne (Ne.symm e)] at hv
        have hB := h.s
        obtain ⟨_, _, _, _, _, _, _, h4⟩ := hB
        have := (h4 b (.inr ⟨j, v, hv, hb⟩)).2.1
        exact ⟨.inl (.inr ⟨j, v, hv, hb⟩), by omega⟩
  · rw [block_set h'.h.head]
    simp
  · by_cases e : j = k
    · subst e
      rw [hq] at hp
      cases hp
      exact ⟨A, c, hcap, List.getElem?_set_self hkv, hr.keeps k2 (fun b hb hbo => by have := (hf b hb).1; omega), fun b hb => by
        have h1 := hf b hb
        have h2 := h.s.kp.size
        rw [hsz]
        exact ⟨by omega, h1.2, by omega⟩⟩
    · obtain ⟨A', c', h0, h1, h2, h3⟩ := h'.h.each j p (by omega) hp
      exact ⟨A', c', h0, by rw [List.getElem?_set_ne (Ne.symm e)]; exact h1, h2.keeps k2 (fun b hb => (h3 b hb).2.2), fun b hb => by rw [hsz]; exact h3 b hb⟩
  · rw [List.getElem?_set_ne (by omega)] at hv
    exact h.z j v (by omega) hv

/-- A pick turns no row that the law holds. -/
theorem Beside.turn {w wr w' : World} {r n o k : Nat} {now now' qs : List (List Int)} {vs : List Value} (h : Beside w r n now qs o k vs wr) (s : RyS w r n now' (OB o vs) w') (kk : Keeps (fun b => ¬ OB o vs b) wr w') : Beside w r n now' qs o k vs w' :=
  ⟨s, h.h.keeps kk (fun hn => hn (.inl rfl)) (fun j _ _ _ _ _ hv _ hb hn => hn (.inr ⟨j, _, hv, hb⟩)), h.z⟩

/-- What is picked out of the first place, and that it is then nowhere. -/
theorem pick_own {qs : List (List Int)} {p k ix : Nat} {q q0 : List Int} {t : Int} (h : pickR qs p = some (k, ix)) (hp : qs[p]? = some q0) (h0 : q0 ≠ []) (hq : qs[k]? = some q) (ht : q[ix]? = some t) : k = p ∧ q = q0 ∧ q0[0]? = some t ∧ q.eraseIdx ix = q0.drop 1 := by
  rw [pickR_own hp h0] at h
  simp only [Option.some.injEq, Prod.mk.injEq] at h
  obtain ⟨rfl, rfl⟩ := h
  rw [hp] at hq
  cases hq
  exact ⟨rfl, rfl, ht, by rw [List.eraseIdx_zero, List.drop_one]⟩

theorem gone_away {qs : List (List Int)} (h : qs.flatten.Nodup) {k ix : Nat} {q : List Int} {t : Int} (hq : qs[k]? = some q) (ht : q[ix]? = some t) : ∀ (j : Nat) (p : List Int), (qs.set k (q.eraseIdx ix))[j]? = some p → t ∉ p := by
  have hp := gone_perm hq ht
  have hnd := (List.Perm.nodup_iff hp).1 h
  rw [List.nodup_cons] at hnd
  exact fun j p hj hm => hnd.1 (mem_flat hj hm)

theorem Come.nd {qs : List (List Int)} {k : Nat} (h : Come qs k) : qs.flatten.Nodup := h.still.nd

set_option maxHeartbeats 4000000 in
set_option maxRecDepth 100000 in
theorem own_law_calls (s : Int) (A : Option Addr) (b off len cap : Nat) (zs : List Int) (t0 : Int) (w : World) (hs0 : 0 ≤ s) (hs1 : s < 256) (ht0 : 0 ≤ t0) (ht1 : t0 < 256)
    (hA : 0 < len → A = some ⟨b, off, none⟩) (hc : ∀ j, j < len → w.cell? ⟨b, off + j, none⟩ = some (.int .u8 (zs.getD j 0))) (hz : ∀ j, j < len → 0 ≤ zs.getD j 0 ∧ zs.getD j 0 < 256) (hl : len ≤ 1000000000000000) :
    Calls Try.prog 5 #[.int .u8 s, .slice A len cap, .int .u8 t0] w fun e w' => e = .returned (.bool true) ∧ Below w.heap.size w w' := by
  have Hc := Lib.hid hc
  have HA := Lib.hid hA
  have Hz := Lib.hid hz
  clear hc hA hz
  obtain ⟨n, hn⟩ : ∃ n : Nat, Hid (s % 6 + 1 = n) := ⟨(s % 6 + 1).toNat, by show _ = _; omega⟩
  have hn1 : 1 ≤ n ∧ n ≤ 6 := by have := hn.out; omega
  obtain ⟨p, hp⟩ : ∃ p : Nat, t0.tmod n = p := ⟨(t0.tmod n).toNat, by have := Int.tmod_nonneg (n : Int) ht0; omega⟩
  have hpn : p < n := by have := Int.tmod_lt_of_pos t0 (b := (n : Int)) (by omega); omega
  obtain ⟨r, hr⟩ : ∃ r, r = w.heap.size := ⟨_, rfl⟩
  go_enter Try.func5, Try.ntmps5
  go_upto_region 2 with fail
  rw [hn.out]
  go_wp2_with fail
  refine (new_calls n n (by omega) w).mono ?_
  rintro e w1 ⟨rfl, I1⟩
  rw [← hr] at I1 ⊢
  clear hr hp
  go_wp2_with fail
  go_loopw [10] (fun i wr => ∃ (k : Nat) (qs : List (List Int)), k ≤ len ∧ k ≤ 40 ∧ i = .int .i64 k ∧ RyS w r n qs (fun _ => False) wr ∧ Come qs k) (fun i _ => 40 - (intOf i).toNat)
  case atStart => exact ⟨0, _, Nat.zero_le _, Nat.zero_le _, rfl, I1, Come.nil n⟩
  case round =>
    obtain ⟨k, qs, hk, hk4, rfl, S, hcome⟩ := hrel
    clear I1
    have HS := Lib.hid S
    have Hcome := Lib.hid hcome
    have hkp := S.kp
    clear S hcome
    by_cases hlt : k < len ∧ k < 40
    · obtain ⟨hlt, hlt4⟩ := hlt
      obtain rfl := HA.out (by omega)
      have hbw : b < w.heap.size := World.block_lt_of_cell? w ⟨b, off + k, none⟩ (Hc.out k (by omega))
      have hyb := Hz.out k (by omega)
      have hc0 := Hc.out k (by omega)
      obtain ⟨y, hy⟩ : ∃ y, zs.getD k 0 = y := ⟨_, rfl⟩
      rw [hy] at hc0 hyb
      have c1 : wr.cell? ⟨b, off + k, none⟩ = some (.int .u8 y) := by rw [hkp.cell hbw (fun h => h)]; exact hc0
      obtain ⟨j, hj⟩ : ∃ j : Nat, y.tmod n = j := ⟨(y.tmod n).toNat, by have := Int.tmod_nonneg (n : Int) hyb.1; omega⟩
      have hjn : j < n := by have := Int.tmod_lt_of_pos y (b := (n : Int)) (by omega); omega
      clear hy hc0
      have hadd := Lib.hid (add_calls j k HS.out (by omega) (fun q hq => by have := Hcome.out.lens q hq; omega))
      have hmore := Lib.hid (Hcome.out.more (j := j) (by rw [HS.out.ql]; exact hjn))
      go_wp2_with fail
      refine hadd.out.mono ?_
      rintro e w2 ⟨rfl, S2, _⟩
      go_wp2_with fail
      exact ⟨⟨k + 1, _, by omega, by omega, by go_num, S2, hmore.out.2⟩, by simp [intOf]; omega⟩
    · have hend : (k : Int) < len → (40 : Int) ≤ k := by omega
      have Hend := Lib.hid hend
      have Hlt := Lib.hid hlt
      clear hend hlt
      go_upto_region 5 with fail
      go_cut [35] from 28 to 34 (fun v wx => v = .bool false ∧ wr = wx)
      case first =>
        by_cases h1 : k < len
        · have h2 : 40 ≤ (k : Int) := Hend.out (by omega)
          go_wp2_with fail
          go_meet
          case rel => exact ⟨by rw [decide_eq_false (by omega)], rfl⟩
        · have h2 : (len : Int) ≤ k := by omega
          clear h1
          go_wp2_with fail
          go_meet
          case rel => exact ⟨rfl, rfl⟩
      case rest =>
        obtain ⟨rfl, rfl⟩ := hcut
        have hmk := run_mk elR n (by omega) (by decide)
        obtain ⟨o, ho⟩ : ∃ o, Hid (o = wr.heap.size) := ⟨_, rfl⟩
        have B0 : Hid (Beside w r n qs qs o 0 (List.replicate n (.slice none 0 0)) (wr.alloc (.cells (madeCells #[Value.slice none 0 0] n) 30))) := by
          have ho' := ho.out
          refine ⟨HS.out.change ((Keeps.refl _ wr).alloc _) (fun x hx => ?_), ⟨?_, by simp, fun j q hj => by omega⟩, fun j v _ hv => ?_⟩
          · rcases hx with rfl | ⟨j, v, hv, hb⟩
            · exact ⟨.inr (by omega), by simp; omega⟩
            · rw [List.getElem?_replicate] at hv
              split at hv
              · cases hv; simp [Value.ownBlock] at hb
              · cases hv
          · rw [blk_new ho', show madeCells #[Value.slice none 0 0] n = (List.replicate n (Value.slice none 0 0)).toArray from made_rep (.slice none 0 0) rfl n]
          · rw [List.getElem?_replicate] at hv
            split at hv
            · cases hv; rfl
            · cases hv
        go_wp2_with fail
        rw [← ho.out]
        clear hmk
        have Hst : Hid (∃ vs, Beside w r n qs qs o 0 vs (wr.alloc (.cells (madeCells #[Value.slice none 0 0] n) 30))) := ⟨_, B0.out⟩
        clear B0 ho HS hkp
        generalize World.alloc wr _ = w9 at Hst ⊢
        go_loopw [12] (fun i wr => ∃ (x : Nat) (vs : List Value), x ≤ n ∧ i = .int .i64 x ∧ Beside w r n qs qs o x vs wr) (fun i _ => n - (intOf i).toNat)
        case atStart =>
          obtain ⟨vs, h⟩ := Hst.out
          exact ⟨0, vs, Nat.zero_le _, rfl, h⟩
        case round =>
          clear Hst
          obtain ⟨x, vs, hx, rfl, hB⟩ := hrel
          have HB := Lib.hid hB
          clear hB
          by_cases hlt : x < n
          · obtain ⟨q, hq⟩ : ∃ q, qs[x]? = some q := ⟨_, List.getElem?_eq_getElem (by rw [HB.out.s.ql]; exact hlt)⟩
            have hrow := Lib.hid (Row2_calls x q HB.out.s hq)
            have Hq := Lib.hid hq
            clear hq
            go_wp2_with fail
            refine hrow.out.mono ?_
            rintro e w2 ⟨A2, c2, hc2, rfl, r2, f2, k2⟩
            have hm := Lib.hid (HB.out.more hlt Hq.out hc2 r2 k2 f2)
            have hb2 := (HB.out.h.keeps k2 (fun h => h) (fun _ _ _ _ _ _ _ _ _ h => h)).head
            obtain ⟨v0, hv0⟩ : ∃ v0, vs[x]? = some v0 := ⟨_, List.getElem?_eq_getElem (by rw [HB.out.h.vl]; exact hlt)⟩
            have cy : w2.cell? ⟨o, x, none⟩ = some v0 := cell_of_block hb2 (by simpa using hv0)
            have fy := frozen_of_block (o := x) hb2
            clear r2 f2 k2 hb2 hv0 hc2
            go_wp2_with fail
            exact ⟨⟨x + 1, _, by omega, by go_num, hm.out⟩, by simp [intOf]; omega⟩
          · obtain rfl : x = n := by omega
            have hp := Lib.hid (pick_calls p HB.out.s (by omega))
            obtain ⟨q0, hq0⟩ : ∃ q, qs[p]? = some q := ⟨_, List.getElem?_eq_getElem (by rw [HB.out.s.ql]; exact hpn)⟩
            obtain ⟨Ap, cp, hcp, hvp, hrp, hfp⟩ := HB.out.h.each p q0 hpn hq0
            have Hvp := Lib.hid hvp
            have Hrp := Lib.hid hrp
            have Hq0 := Lib.hid hq0
            have Hcp := Lib.hid hcp
            clear hvp hrp hq0 hfp hcp
            go_wp2_with fail
            refine hp.out.mono ?_
            rintro e w2 (⟨hno, rfl, S2, k2⟩ | ⟨kk, ix, q, t, hpk, hq, ht, rfl, S2, k2⟩)
            · have hfl : qs.flatten = [] := Classical.byContradiction fun hn => pickR_some (by rw [HB.out.s.ql]; exact hpn) hn hno
              have hq00 : q0 = [] := List.eq_nil_of_length_eq_zero (by have := len_flat (List.mem_of_getElem? Hq0.out); rw [hfl] at this; simpa using this)
              subst hq00
              have hk0 : k = 0 := by have := Hcome.out.len; rw [hfl] at this; simpa using this.symm
              have hlen0 : ((len : Int) == 0) = true := by have := Hlt.out; simp; omega
              have h2 := HB.out.turn S2 k2
              have cz : w2.cell? ⟨o, p, none⟩ = some (.slice Ap 0 cp) := cell_of_block h2.h.head (by simpa using Hvp.out)
              have K2 := Lib.hid h2.s.kp
              clear hno S2 k2 hfl h2 hk0
              go_wp2_with fail
              refine (awake13_calls _).mono ?_
              rintro e w3 ⟨rfl, k3⟩
              go_wp2_with fail
              go_ret
              exact ⟨rfl, (K2.out.trans k3 (fun _ _ h => h)).below (Nat.le_refl _) (fun _ h => h.elim)⟩
            · have h2 := Lib.hid (HB.out.turn S2 k2)
              have cz : w2.cell? ⟨o, p, none⟩ = some (.slice Ap q0.length cp) := cell_of_block h2.out.h.head (by simpa using Hvp.out)
              by_cases hq00 : q0 = []
              · subst hq00
                have K2 := Lib.hid h2.out.s.kp
                clear S2 k2
                go_wp2_with fail
                refine (awake13_calls _).mono ?_
                rintro e w3 ⟨rfl, k3⟩
                go_wp2_with fail
                go_ret
                exact ⟨rfl, (K2.out.trans k3 (fun _ _ h => h)).below (Nat.le_refl _) (fun _ h => h.elim)⟩
              · have hgone := Lib.hid (gone_away Hcome.out.nd hq ht)
                obtain ⟨rfl, rfl, ht0, herase⟩ := pick_own hpk Hq0.out hq00 hq ht
                obtain ⟨m, hm⟩ : ∃ m, Hid (q.length = m) := ⟨_, rfl⟩
                have hm0 : ((m : Int) == 0) = false := by have := List.length_pos_iff.2 hq00; have := hm.out; rw [beq_eq_false_iff_ne]; omega
                have hm1 : 0 < m ∧ m ≤ 40 := by have := List.length_pos_iff.2 hq00; have := hm.out; have := Hcome.out.lens q (List.mem_of_getElem? Hq0.out); omega
                rw [hm.out] at cz
                have Ht0 := Lib.hid ht0
                rw [herase] at h2 hgone
                have hnow : Hid (∀ (y : Nat) (q' : List Int), qs[y]? = some q' → y ≠ kk → (qs.set kk (q.drop 1))[y]? = some q') := fun y q' hy hne => by rw [List.getElem?_set_ne (Ne.symm hne)]; exact hy
                have hnowp : Hid ((qs.set kk (q.drop 1))[kk]? = some (q.drop 1)) := List.getElem?_set_self (List.getElem?_eq_some_iff.1 Hq0.out).1
                clear S2 k2 hq ht herase hpk hq00
                go_wp2_with fail
                clear cz
                go_loopw [15] (fun i wr => ∃ y : Nat, y ≤ x ∧ i = .int .i64 y ∧ Beside w r x (qs.set kk (q.drop 1)) qs o x vs wr) (fun i _ => x - (intOf i).toNat)
                case atStart => exact ⟨0, Nat.zero_le _, rfl, h2.out⟩
                case round =>
                  clear h2
                  obtain ⟨y, hy, rfl, hB3⟩ := hrel
                  have HB3 := Lib.hid hB3
                  clear hB3
                  by_cases hyx : y < x
                  · by_cases hyk : y = kk
                    · subst hyk
                      have hg : ((y : Int) != (y : Int)) = false := by simp
                      go_wp2_with fail
                      go_quiet (fail)
                      go_wp2_with fail
                      exact ⟨⟨y + 1, by omega, by go_num, HB3.out.keeps ((Keeps.refl _ _).drewN _)⟩, by simp [intOf]; omega⟩
                    · have hg : ((y : Int) != (kk : Int)) = true := by simp; omega
                      obtain ⟨q', hq'⟩ : ∃ q, qs[y]? = some q := ⟨_, List.getElem?_eq_getElem (by rw [HB.out.s.ql]; exact hyx)⟩
                      obtain ⟨Ay, cy, _, hvy, hry, hfy⟩ := HB3.out.h.each y q' hyx hq'
                      have hob := lt_of_block HB3.out.h.head
                      have hly := Hcome.out.lens q' (List.mem_of_getElem? hq')
                      have cz : wr.cell? ⟨o, y, none⟩ = some (.slice Ay q'.length cy) := cell_of_block HB3.out.h.head (by simpa using hvy)
                      have Hrow := Lib.hid (fun W (k : Keeps NoBlock wr W) => rows_calls y q' (HB3.out.s.keeps k) (hnow.out y q' hq' hyk))
                      have Hry := Lib.hid hry
                      clear hq' hvy hry hfy hyk
                      go_wp2_with fail
                      go_region_held3 (fun w' => w'.cell? ⟨o, y, none⟩ = some (.slice Ay q'.length cy)) (first | go_keep | exact (K3.out.cell (o := y) hob (fun h => h)).trans cz | exact (K4.out.cell (o := y) hob (fun h => h)).trans cz)
                        (first
                        | (go_at_call 16
                           refine Calls.mono (Hrow.out _ (Keeps.refl _ _).drew) ?_
                           rintro e w3 ⟨A3, c3, rfl, r3, f3, k3, _⟩
                           have K3 := Lib.hid (((Keeps.refl NoBlock wr).drew).trans k3 (fun _ _ h => h))
                           have R3 := Lib.hid r3
                           have R4 := Lib.hid (Hry.out.keeps K3.out (fun _ _ h => h))
                           clear r3 f3 k3)
                        | (go_at_call 15
                           refine Calls.mono (ints_calls _ _ q' q' _ R3.out R4.out ?_ ?_) ?_
                           · omega
                           · omega
                           rintro e w4 ⟨rfl, k4⟩
                           rw [decide_eq_true rfl]
                           have K4 := Lib.hid (K3.out.trans k4 (fun _ _ h => h))))
                      go_wp2_with fail
                      exact ⟨⟨y + 1, by omega, by go_num, HB3.out.keeps K4.out⟩, by simp [intOf]; omega⟩
                  · obtain rfl : y = x := by omega
                    have hwh := Lib.hid (rWhere_calls t HB3.out.s (by omega))
                    go_wp2_with fail
                    refine hwh.out.mono ?_
                    rintro e w3 ⟨hwi, k3⟩
                    rcases hwi with ⟨j, p', hj, hin, _⟩ | ⟨_, rfl⟩
                    · exact absurd hin (hgone.out j p' hj)
                    have HB4 := Lib.hid (HB3.out.keeps k3)
                    clear k3
                    go_wp2_with fail
                    obtain ⟨Az, cz, hcz, hvz, hrz, hfz⟩ := HB4.out.h.each kk q hpn Hq0.out
                    have hob := lt_of_block HB4.out.h.head
                    have z0 : w3.cell? ⟨o, kk, none⟩ = some (.slice Az m cz) := by
                      have := cell_of_block (o := kk) HB4.out.h.head (by simpa using hvz)
                      rw [hm.out] at this
                      exact this
                    have HR := Lib.hid hrz
                    rw [hm.out] at hcz HR
                    have HR' := HR.out
                    obtain ⟨A2, b2, off2, cap2, e2, hA2, hc2⟩ := HR'
                    simp only [Value.slice.injEq] at e2
                    obtain ⟨rfl, hmm, rfl⟩ := e2
                    clear hmm
                    obtain ⟨rfl, hb2⟩ := hA2 (by rw [hm.out]; omega)
                    have z1 : w3.cell? ⟨b2, off2, none⟩ = some (.int .i64 t) := by have := hc2 0 t Ht0.out; simpa using this
                    obtain ⟨A5, hAd⟩ : ∃ A5, (if cz = 1 then (some ⟨b2, off2, none⟩ : Option Addr) else some ⟨b2, off2 + 1, none⟩) = A5 := ⟨_, rfl⟩
                    have hA5 : 0 < m - 1 → A5 = some ⟨b2, off2 + 1, none⟩ := fun h0 => by rw [← hAd, if_neg (by omega)]
                    have hi0 : (0 : Int) < (m : Int) := by omega
                    have hi1 : (1 : Int) ≤ (m : Int) := by omega
                    have hi2 : (0 : Int) ≤ (kk : Int) := by omega
                    have hi3 : (kk : Int) < (y : Int) := by omega
                    have hi4 : 0 < m := by omega
                    have hi5 : 1 ≤ m := by omega
                    have hi6 : m ≠ 0 := by omega
                    obtain ⟨q1, hq1⟩ : ∃ q1, Hid (q1 = q.drop 1) := ⟨_, rfl⟩
                    have hdl : q1.length = m - 1 := by rw [hq1.out, List.length_drop, hm.out]
                    have Hrow := Lib.hid (fun W (k : Keeps NoBlock w3 W) => rows_calls kk q1 (HB4.out.s.keeps k) (by rw [hq1.out]; exact hnowp.out))
                    have HR5 : Hid (ReadsI .i64 w3 (.slice A5 (m - 1) (cz - 1)) q1) := by
                      refine ⟨A5, b2, off2 + 1, cz - 1, by rw [hdl], fun h0 => ⟨?_, hb2⟩, fun j y hj => ?_⟩
                      · exact hA5 (by omega)
                      · rw [hq1.out, List.getElem?_drop] at hj
                        have := hc2 (1 + j) y hj
                        rw [show off2 + 1 + j = off2 + (1 + j) by omega]
                        exact this
                    have htt : (t == t) = true := by simp
                    have K03 := Lib.hid HB4.out.s.kp
                    have Hdl := Lib.hid hdl
                    clear hvz hrz hfz hc2 hA2 hA5 hdl hcz
                    go_wp2_with fail
                    go_region_held3 (fun w' => w'.cell? ⟨o, kk, none⟩ = some (.slice (some ⟨b2, off2, none⟩) m cz) ∧ w'.cell? ⟨b2, off2, none⟩ = some (.int .i64 t)) (first | exact ⟨(K7.out.cell (o := kk) hob (fun h => h)).trans z0, (K7.out.cell (o := off2) hb2 (fun h => h)).trans z1⟩ | exact ⟨(K6.out.cell (o := kk) hob (fun h => h)).trans z0, (K6.out.cell (o := off2) hb2 (fun h => h)).trans z1⟩ | exact ⟨(K5.out.cell (o := kk) hob (fun h => h)).trans z0, (K5.out.cell (o := off2) hb2 (fun h => h)).trans z1⟩ | go_keep)
                      (first
                        | (go_at_call 18
                           refine Calls.mono (awake13_calls _) ?_
                           rintro e w5 ⟨rfl, k5⟩
                           have K5 := Lib.hid (((Keeps.refl NoBlock w3).drew).trans k5 (fun _ _ h => h))
                           clear k5)
                        | (go_at_call 16
                           refine Calls.mono (Hrow.out _ K5.out) ?_
                           rintro e w6 ⟨A6, c6, rfl, r6, f6, k6, _⟩
                           have K6 := Lib.hid (K5.out.trans k6 (fun _ _ h => h))
                           have R6 := Lib.hid r6
                           have R7 := Lib.hid (HR5.out.keeps K6.out (fun _ _ h => h))
                           clear r6 f6 k6)
                        | (go_at_call 15
                           refine Calls.mono (ints_calls _ _ q1 q1 _ R6.out R7.out ?_ ?_) ?_
                           · rw [Hdl.out]; omega
                           · rw [Hdl.out]; omega
                           rintro e w7 ⟨rfl, k7⟩
                           rw [decide_eq_true rfl]
                           have K7 := Lib.hid (K6.out.trans k7 (fun _ _ h => h))
                           clear k7))
                    all_goals
                      go_wp2_with fail
                      go_ret
                      exact ⟨rfl, (K03.out.trans K7.out (fun _ _ h => h)).below (Nat.le_refl _) (fun _ h => h.elim)⟩

theorem ownL_row (w : World) (s : Int) (hs : (Lit.int .u8 s).wf = true) (A : Option Addr) (b off len cap : Nat) (zs : List Int) (h : IntsAt .u8 w A b off len zs) (hl : len * 1 ≤ 140737488351232) (t : Int) (ht : (Lit.int .u8 t).wf = true) :
    Calls Try.prog 5 #[.int .u8 s, .slice A len cap, .int .u8 t] w fun e w' => e = .returned (.bool true) ∧ Below w.heap.size w w' := by
  have hb := bounds_u8 hs
  have hb2 := bounds_u8 ht
  exact own_law_calls s A b off len cap zs t w (by omega) (by omega) (by omega) (by omega) h.addr h.cell (fun j hj => by have := bounds_u8 (h.wf j hj); omega) (by omega)
end Ry
end Go.Proofs.Ytmpingalekdlnaa
