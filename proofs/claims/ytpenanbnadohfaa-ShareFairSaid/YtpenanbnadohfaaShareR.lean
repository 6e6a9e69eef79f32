/- The reference's Fair: one processor after the other, to the best candidate. -/
import Derived.Test.YtpenanbnadohfaaShareB
namespace Go.Proofs.Ytpenanbnadohfaa
open Go.RowKit Sh

def RFairPost (procs : Int) (d pr : List Int) (turn : Int) (w : World) (e : Ending) (w' : World) : Prop :=
  ∃ v o ok, e = .returned (.tuple #[v, .bool ok]) ∧ NewList w w' v o ∧ Keeps NoBlock w w' ∧ ((ok = true ∧ ShValid procs d pr ∧ Sh.Spec procs d pr d.length (firstOf turn d.length) o) ∨ (ok = false ∧ ¬ ShValid procs d pr ∧ o = []))

theorem RFairPost.none {procs : Int} {d pr : List Int} {turn : Int} {w w' : World} (h : ¬ ShValid procs d pr) (k : Keeps NoBlock w w') : RFairPost procs d pr turn w (.returned (.tuple #[.slice none 0 0, .bool false])) w' :=
  ⟨_, [], false, rfl, ⟨World.ownsRow_nil _ _ _ _, fun k hk => by simp [Value.ownBlock] at hk⟩, k, .inr ⟨rfl, h, rfl⟩⟩

theorem tmod_fix (turn : Int) (n : Nat) (hn : 0 < n) : (turn.tmod n < 0 → turn.tmod n + n = (firstOf turn n : Int)) ∧ (0 ≤ turn.tmod n → turn.tmod n = (firstOf turn n : Int)) := by
  have h0 := Int.emod_nonneg turn (b := (n : Int)) (by omega)
  have h1 := Int.emod_lt_of_pos turn (b := (n : Int)) (by omega)
  have e : ((firstOf turn n : Nat) : Int) = turn % (n : Int) := by unfold firstOf; omega
  have h2 := Int.tmod_eq_emod (a := turn) (b := (n : Int))
  rw [e]
  split at h2
  · constructor <;> intro h <;> simp at h2 <;> omega
  · simp at h2
    constructor <;> intro h <;> omega

set_option maxRecDepth 100000 in
set_option maxHeartbeats 4000000 in
theorem rfair_calls (w : World) (va vb : Value) (d pr : List Int) (procs turn : Int) (ha : ReadsI .i64 w va d) (hb : ReadsI .i64 w vb pr) (hdl : d.length < 1000000000000000) (hpl : pr.length < 1000000000000000)
    (hdb : ∀ x ∈ d, x ≤ 9223372036854775807) (_ht : -9223372036854775808 ≤ turn ∧ turn ≤ 9223372036854775807) :
    Calls Try.prog 20 #[.int .i64 procs, va, vb, .int .i64 turn] w (RFairPost procs d pr turn w) := by
  obtain ⟨A, db, doff, dcap, rfl, hA, hcd⟩ := ha
  obtain ⟨A', pb, poff, pcap, rfl, hA', hcp⟩ := hb
  have Hcd := Lib.hid hcd
  have Hcp := Lib.hid hcp
  have Hdb := Lib.hid hdb
  clear hcd hcp hdb
  by_cases hlen : d.length = pr.length
  case neg =>
    have hno : Hid (¬ ShValid procs d pr) := fun h => hlen h.1
    have hne : ((pr.length : Int) != d.length) = true := by simp; omega
    clear hlen hA hA'
    go_enter Try.func20, Try.ntmps20
    go_wp2_with fail
    go_ret2
    exact RFairPost.none hno.out (Keeps.refl _ _)
  case pos =>
    obtain ⟨n, hn⟩ : ∃ n, Hid (n = d.length) := ⟨_, rfl⟩
    have hn' : Hid (n = pr.length) := hn.out.trans hlen
    rw [← hn.out] at hA hdl
    rw [← hn'.out] at hA' hpl
    rw [← hn.out, ← hn'.out]
    have HA := Lib.hid hA
    have HA' := Lib.hid hA'
    clear hlen hA hA'
    have hne : ((n : Int) != n) = false := by simp
    by_cases hg : n ≤ 8 ∧ 0 ≤ procs ∧ procs ≤ 64
    case neg =>
      have hno : Hid (¬ ShValid procs d pr) := fun h => hg ⟨by rw [hn.out]; exact h.2.1, h.2.2.1, h.2.2.2.1⟩
      by_cases h8 : n ≤ 8
      · by_cases h0 : 0 ≤ procs
        · have h1 : 64 < procs := by omega
          clear hg
          go_enter Try.func20, Try.ntmps20
          go_wp2_with fail
          go_ret2
          exact RFairPost.none hno.out (Keeps.refl _ _)
        · have h1 : procs < 0 := by omega
          clear hg h0
          go_enter Try.func20, Try.ntmps20
          go_wp2_with fail
          go_ret2
          exact RFairPost.none hno.out (Keeps.refl _ _)
      · have h1 : 8 < (n : Int) := by omega
        clear hg h8
        go_enter Try.func20, Try.ntmps20
        go_wp2_with fail
        go_ret2
        exact RFairPost.none hno.out (Keeps.refl _ _)
    case pos =>
      obtain ⟨h8, hp0, hp64⟩ := hg
      go_enter Try.func20, Try.ntmps20
      go_wp2_with fail
      go_loop [11] (fun i => ∃ k : Nat, k ≤ n ∧ i = .int .i64 k ∧ Hid (∀ j, j < k → 0 ≤ at0 pr j ∧ at0 pr j ≤ 7)) (fun i => n - (intOf i).toNat)
      case atStart => exact ⟨0, Nat.zero_le _, rfl, fun j hj => by omega⟩
      case round =>
        obtain ⟨k, hk, rfl, hall⟩ := hrel
        by_cases hlt : k < n
        · obtain ⟨x, hx⟩ : ∃ x, pr[k]? = some x := ⟨_, List.getElem?_eq_getElem (by rw [← hn'.out]; exact hlt)⟩
          obtain ⟨rfl, hpb⟩ := HA'.out (by omega)
          have hcx := Hcp.out k x hx
          have hx0 : Hid (at0 pr k = x) := by show at0 pr k = x; simp [at0, List.getD, hx]
          clear hx
          by_cases hx1 : 0 ≤ x
          · by_cases hx7 : x ≤ 7
            · go_wp2_with fail
              refine ⟨⟨k + 1, by omega, by go_num, fun j hj => ?_⟩, by simp [intOf]; omega⟩
              by_cases e : j = k
              · subst e; rw [hx0.out]; exact ⟨hx1, hx7⟩
              · exact hall.out j (by omega)
            · have hx8 : 7 < x := by omega
              have hno : Hid (¬ ShValid procs d pr) := fun h => by have h2 := h.2.2.2.2 k (by rw [← hn'.out]; exact hlt); rw [hx0.out] at h2; omega
              clear hx7
              go_wp2_with fail
              go_ret2
              exact RFairPost.none hno.out (Keeps.refl _ _)
          · have hx8 : x < 0 := by omega
            have hno : Hid (¬ ShValid procs d pr) := fun h => by have h2 := h.2.2.2.2 k (by rw [← hn'.out]; exact hlt); rw [hx0.out] at h2; omega
            clear hx1
            go_wp2_with fail
            go_ret2
            exact RFairPost.none hno.out (Keeps.refl _ _)
        · obtain rfl : k = n := by omega
          have hval : Hid (ShValid procs d pr) := ⟨by rw [← hn.out, hn'.out], by rw [← hn.out]; exact h8, hp0, hp64, by rw [← hn'.out]; exact hall.out⟩
          by_cases h0 : 0 < k
          · obtain ⟨rfl, hdb⟩ := HA.out h0
            obtain ⟨rfl, hpb⟩ := HA'.out h0
            have hz : ((k : Int) == 0) = false := by simp; omega
            have htb := tmod_bd turn k h0
            have hfix := tmod_fix turn k h0
            have hfl := firstOf_lt turn h0
            obtain ⟨f, hf⟩ : ∃ f, Hid (firstOf turn k = f) := ⟨_, rfl⟩
            rw [hf.out] at hfix hfl
            have Hfix := Lib.hid hfix
            clear hfix
            go_upto_if 62 with (refine wpList_make elInts' _ rfl _ _ rfl _ _ k rfl rfl (by omega) (by decide) ?_; intro w1 ho hs hk1)
            go_cut [13] from 61 to 65 (fun v wx => v = .int .i64 f ∧ w1 = wx)
            case first =>
              by_cases hneg : turn.tmod k < 0
              · go_wp2_with fail
                go_meet
                case rel => exact ⟨by rw [Hfix.out.1 hneg], rfl⟩
              · have hpos : 0 ≤ turn.tmod k := by omega
                clear hneg
                go_wp2_with fail
                go_meet
                case rel => exact ⟨by rw [Hfix.out.2 hpos], rfl⟩
            case rest =>
              obtain ⟨rfl, rfl⟩ := hcut
              have hso : Own w1 3 1 (.slice (some ⟨w.heap.size, 0, none⟩) k k) k ((List.replicate k (0 : Int)).map (Value.int .i64)) := by
                have e : (madeCells (Value.int .i64 0).cells (k * 1)).toList = (List.replicate k (0 : Int)).map (Value.int .i64) := by
                  rw [show (Value.int .i64 0).cells = #[.int .i64 0] from rfl, toList_madeCells_one, Nat.mul_one, List.map_replicate]
                rw [← e]; exact ho
              have L0 : Deal procs d pr k f (List.replicate k 0) procs := Deal.start hp0
              have hdj : Hid (∀ j, j < k → at0 d j ≤ 9223372036854775807) := fun j hj => Hdb.out _ (by rw [at0, List.getD_eq_getElem?_getD, List.getElem?_eq_getElem (by rw [← hn.out]; exact hj)]; exact List.getElem_mem _)
              have CD : Hid (∀ w', Keeps NoBlock w w' → ∀ j, j < k → w'.cell? ⟨db, doff + j, none⟩ = some (.int .i64 (at0 d j))) := Lib.hid (fun w' hk j hj => by
                rw [hk.cell hdb (fun h => h)]
                exact Hcd.out j _ (by rw [at0, List.getD_eq_getElem?_getD, List.getElem?_eq_getElem (by rw [← hn.out]; exact hj)]; rfl))
              have CP : Hid (∀ w', Keeps NoBlock w w' → ∀ j, j < k → w'.cell? ⟨pb, poff + j, none⟩ = some (.int .i64 (at0 pr j))) := Lib.hid (fun w' hk j hj => by
                rw [hk.cell hpb (fun h => h)]
                exact Hcp.out j _ (by rw [at0, List.getD_eq_getElem?_getD, List.getElem?_eq_getElem (by rw [← hn'.out]; exact hj)]; rfl))
              have fin : ∀ (o : List Int) (w9 : World), Own w9 3 1 (.slice (some ⟨w.heap.size, 0, none⟩) k k) k (o.map (Value.int .i64)) → o.length = k → Keeps NoBlock w w9 → Sh.Spec procs d pr k f o → RFairPost procs d pr turn w (.returned (.tuple #[.slice (some ⟨w.heap.size, 0, none⟩) k k, .bool true])) w9 := fun o w9 h1 h2 h3 h4 =>
                ⟨_, o, true, rfl, ⟨by rw [h2]; exact h1, fun q hq => by simp [Value.ownBlock] at hq; omega⟩, h3, .inl ⟨rfl, hval.out, by rw [← hn.out, hf.out]; exact h4⟩⟩
              have Fin := Lib.hid fin
              clear ho hall fin htb
              go_wp2_with fail
              go_loopw [14] (fun v wr => ∃ (left : Int) (o : List Int), left ≤ 64 ∧ v = .int .i64 left ∧ Own wr 3 1 (.slice (some ⟨w.heap.size, 0, none⟩) k k) k (o.map (Value.int .i64)) ∧ Keeps NoBlock w wr ∧ Deal procs d pr k f o left) (fun v _ => (intOf v).toNat)
              case atStart => exact ⟨procs, _, hp64, rfl, hso, hk1, L0⟩
              case round =>
                obtain ⟨left, o, hl64, rfl, hown, hkw, L⟩ := hrel
                have hl0 := L.left0
                have hol := Lib.hid L.len
                by_cases hlp : 0 < left
                · obtain ⟨wo, rfl⟩ : ∃ wo : World, wo = wr := ⟨_, rfl⟩
                  have hgl := hown.lt w.heap.size rfl
                  have CO : Hid (∀ w', Keeps NoBlock wo w' → ∀ j, j < k → w'.cell? ⟨w.heap.size, j, none⟩ = some (.int .i64 (at0 o j))) := Lib.hid (fun w' hk j hj => by
                    rw [World.ownsRow.cellAt (hown.keeps hk (fun _ _ h => h)) j (by omega), List.getElem?_map]
                    have : j < o.length := by rw [hol.out]; exact hj
                    simp [at0, this])
                  go_wp2_with fail
                  go_loopw [15, 16] (fun v i wx => ∃ (q : Nat) (best : Int), q ≤ k ∧ i = .int .i64 q ∧ v = .int .i64 best ∧ Keeps NoBlock wo wx ∧ BestInv d pr o k f q best) (fun _ i _ => k - (intOf i).toNat)
                  case atStart => exact ⟨0, -1, Nat.zero_le _, rfl, rfl, Keeps.refl _ _, BestInv.start _ _ _ _ _⟩
                  case round =>
                    obtain ⟨q, best, hq, rfl, rfl, hkx, B⟩ := hrel
                    have hkwx := hkw.trans hkx (fun _ _ h => h)
                    by_cases hql : q < k
                    · obtain ⟨ix, hix⟩ : ∃ ix : Nat, ((f : Int) + q) % k = ix := ⟨(f + q) % k, by simp⟩
                      have hixn : ix = (f + q) % k := by have : (((f + q) % k : Nat) : Int) = ix := by rw [← hix]; simp
                                                         omega
                      have hil : ix < k := by rw [hixn]; exact Nat.mod_lt _ h0
                      have hr : Hid (rank k f ix = q) := rank_of hfl hql hixn
                      clear hixn
                      have hfq : ((f : Int) + q) < 100 := by omega
                      have cy := CO.out _ hkx ix hil
                      have cz := CD.out _ hkwx ix hil
                      have cu := CP.out _ hkwx ix hil
                      obtain ⟨y, hy⟩ : ∃ y, Hid (at0 o ix = y) := ⟨_, Lib.hid rfl⟩
                      obtain ⟨z, hz⟩ : ∃ z, Hid (at0 d ix = z) := ⟨_, Lib.hid rfl⟩
                      obtain ⟨u, hu⟩ : ∃ u, Hid (at0 pr ix = u) := ⟨_, Lib.hid rfl⟩
                      rw [hy.out] at cy
                      rw [hz.out] at cz
                      rw [hu.out] at cu
                      have HB := Lib.hid B
                      clear B
                      by_cases hyz : z ≤ y
                      · have B2 := Lib.hid (HB.out.skip hfl hil hr.out (by rw [hy.out, hz.out]; exact hyz))
                        have hyb : decide (z ≤ y) = true := decide_eq_true hyz
                        go_wp2_with fail
                        go_quiet (fail)
                        go_wp2_with fail
                        exact ⟨⟨q + 1, best, by omega, by go_num, rfl, hkx.drewN _, B2.out⟩, by simp [intOf]; omega⟩
                      · have hyb : decide (z ≤ y) = false := decide_eq_false hyz
                        have hw : at0 o ix < at0 d ix := by rw [hy.out, hz.out]; omega
                        have Hw := Lib.hid hw
                        clear hw
                        go_upto_region 23 with fail
                        go_quiet (fail)
                        go_upto_region 24 with fail
                        -- is it better than the best so far?
                        rcases HB.out with ⟨hb1, hb2⟩ | ⟨bb, hb1, hb2, hb3, hb4, hb5⟩
                        · obtain rfl := hb1
                          have B2 := Lib.hid (HB.out.first' hfl hil hr.out Hw.out)
                          clear hb2
                          go_quiet (fail)
                          go_wp2_with fail
                          exact ⟨⟨q + 1, ix, by omega, by go_num, by first | rfl | rw [hix], hkx.drewN _, B2.out⟩, by simp [intOf]; omega⟩
                        · obtain rfl := hb1
                          have cv := CP.out _ hkwx bb hb2
                          have cx := CO.out _ hkx bb hb2
                          obtain ⟨v, hv⟩ : ∃ v, Hid (at0 pr bb = v) := ⟨_, Lib.hid rfl⟩
                          obtain ⟨x, hx⟩ : ∃ x, Hid (at0 o bb = x) := ⟨_, Lib.hid rfl⟩
                          rw [hv.out] at cv
                          rw [hx.out] at cx
                          have hbn : decide ((bb : Int) < 0) = false := decide_eq_false (by omega)
                          clear hb3 hb4 hb5
                          by_cases huv : v < u
                          · have B2 := Lib.hid (HB.out.better hfl hil hr.out Hw.out (.inl (by rw [hu.out, hv.out]; exact huv)))
                            have b1 : decide (v < u) = true := decide_eq_true huv
                            go_quiet (fail)
                            go_wp2_with fail
                            exact ⟨⟨q + 1, ix, by omega, by go_num, by first | rfl | rw [hix], hkx.drewN _, B2.out⟩, by simp [intOf]; omega⟩
                          · have b1 : decide (v < u) = false := decide_eq_false huv
                            by_cases hue : u = v
                            · have b2 : (u == v) = true := by simp [hue]
                              by_cases hyx : y < x
                              · have B2 := Lib.hid (HB.out.better hfl hil hr.out Hw.out (.inr (by rw [hu.out, hv.out, hy.out, hx.out]; exact ⟨hue, hyx⟩)))
                                clear hue huv
                                go_quiet (fail)
                                go_wp2_with fail
                                exact ⟨⟨q + 1, ix, by omega, by go_num, by first | rfl | rw [hix], hkx.drewN _, B2.out⟩, by simp [intOf]; omega⟩
                              · have B2 := Lib.hid (HB.out.keep hfl hil hr.out (by rw [hu.out, hv.out, hy.out, hx.out]; omega))
                                have b3 : decide (y < x) = false := decide_eq_false hyx
                                clear hue huv hyx
                                go_quiet (fail)
                                go_wp2_with fail
                                exact ⟨⟨q + 1, bb, by omega, by go_num, by first | rfl | rw [hix], hkx.drewN _, B2.out⟩, by simp [intOf]; omega⟩
                            · have b2 : (u == v) = false := by simp [hue]
                              have B2 := Lib.hid (HB.out.keep hfl hil hr.out (by rw [hu.out, hv.out, hy.out, hx.out]; omega))
                              clear hue huv
                              go_quiet (fail)
                              go_wp2_with fail
                              exact ⟨⟨q + 1, bb, by omega, by go_num, by first | rfl | rw [hix], hkx.drewN _, B2.out⟩, by simp [intOf]; omega⟩
                    · obtain rfl : k = q := by omega
                      have HB := Lib.hid B
                      clear B
                      rcases HB.out with ⟨hb1, hb2⟩ | ⟨bb, hb1, hb2, hb3, hb4, hb5⟩
                      · obtain rfl := hb1
                        have S := Lib.hid (Fin.out o wr (hown.keeps hkx (fun _ _ h => h)) hol.out hkwx (L.spec (fun _ i hi => hb2 i hi (rank_lt h0))))
                        clear hb2
                        go_wp2_with fail
                        go_ret2
                        exact S.out
                      · obtain rfl := hb1
                        obtain ⟨x, hx⟩ : ∃ x, Hid (at0 o bb = x) := ⟨_, Lib.hid rfl⟩
                        have cx := CO.out _ hkx bb hb2
                        have hdx := hdj.out bb hb2
                        have L2 := L.give hlp hb2 hb4 (fun j hj hjb hwj => hb5 j hj (rank_lt h0) hjb hwj)
                        have hlo := L.lo bb hb2
                        have own2 := hown.keeps hkx (fun _ _ h => h)
                        have fx := World.ownsRow.frozenAt own2 bb
                        have own3 := (World.ownsRow.stored own2 bb (.int .i64 (x + 1))).1
                        rw [hx.out] at cx L2 hb4 hlo
                        rw [← List.map_set] at own3
                        have hkw3 : Keeps NoBlock w (wr.setCell ⟨w.heap.size, bb, none⟩ (.int .i64 (x + 1))) := hkwx.setCell (.inr (Nat.le_refl _)) _
                        have hxm : x < 9223372036854775807 := by omega
                        clear hb5 hb3
                        go_wp2_with fail
                        exact ⟨⟨left - 1, _, by omega, by go_num, own3, hkw3, L2⟩, by simp [intOf]; omega⟩
                · have hle : left ≤ 0 := by omega
                  have S := Lib.hid (Fin.out o wr hown hol.out hkw (L.spec (fun h => by omega)))
                  clear hlp
                  go_wp2_with fail
                  go_ret2
                  exact S.out
          · obtain rfl : k = 0 := by omega
            have hd0 : d = [] := List.eq_nil_of_length_eq_zero hn.out.symm
            have e : (madeCells (Value.int .i64 0).cells (0 * 1)).toList = ([] : List Int).map (Value.int .i64) := by
              rw [show (Value.int .i64 0).cells = #[.int .i64 0] from rfl, toList_madeCells_one]; rfl
            have fin : ∀ w1, Own w1 3 1 (.slice (some ⟨w.heap.size, 0, none⟩) 0 0) 0 (madeCells (Value.int .i64 0).cells (0 * 1)).toList → Keeps NoBlock w w1 → RFairPost procs d pr turn w (.returned (.tuple #[.slice (some ⟨w.heap.size, 0, none⟩) 0 0, .bool true])) w1 := fun w1 ho hk1 =>
              ⟨_, [], true, rfl, ⟨by rw [e] at ho; exact ho, fun q hq => by simp [Value.ownBlock] at hq; omega⟩, hk1, .inl ⟨rfl, hval.out, by rw [hd0]; exact spec_nil procs pr _ hp0⟩⟩
            have Fin := Lib.hid fin
            clear fin e hd0
            go_wp2_with (refine wpList_make elInts' _ rfl _ _ rfl _ _ 0 rfl rfl (by omega) (by decide) ?_; intro w1 ho hs hk1)
            go_ret2
            exact Fin.out w1 ho hk1
end Go.Proofs.Ytpenanbnadohfaa
