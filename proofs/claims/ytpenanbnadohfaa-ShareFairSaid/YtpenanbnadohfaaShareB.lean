/- Fair: how many processors each space gets. -/
import Derived.Test.YtpenanbnadohfaaShare
import Derived.Deep.LoopGhost
namespace Go.Proofs.Ytpenanbnadohfaa
open Go.RowKit Sh

def ShValid (procs : Int) (d pr : List Int) : Prop := d.length = pr.length ∧ d.length ≤ 8 ∧ 0 ≤ procs ∧ procs ≤ 64 ∧ ∀ j, j < pr.length → 0 ≤ at0 pr j ∧ at0 pr j ≤ 7

/-- The first space's number. -/
def firstOf (turn : Int) (n : Nat) : Nat := (turn % (n : Int)).toNat

theorem firstOf_lt (turn : Int) {n : Nat} (hn : 0 < n) : firstOf turn n < n := by
  unfold firstOf
  have := Int.emod_nonneg turn (b := (n : Int)) (by omega)
  have := Int.emod_lt_of_pos turn (b := (n : Int)) (by omega)
  omega

theorem tmod_bd (turn : Int) (n : Nat) (hn : 0 < n) : -(n : Int) < turn.tmod n ∧ turn.tmod n < n := by
  have h0 := Int.emod_nonneg turn (b := (n : Int)) (by omega)
  have h1 := Int.emod_lt_of_pos turn (b := (n : Int)) (by omega)
  rw [Int.tmod_eq_emod]
  split
  · simp; omega
  · rename_i h
    have : turn % (n : Int) ≠ 0 := fun e => h (.inr (Int.dvd_of_emod_eq_zero e))
    omega

theorem first_walk (turn : Int) (n : Nat) (hn : 0 < n) : (turn.tmod n + n) % n = (firstOf turn n : Int) := by
  have h0 := Int.emod_nonneg turn (b := (n : Int)) (by omega)
  have h1 := Int.emod_lt_of_pos turn (b := (n : Int)) (by omega)
  have e : ((firstOf turn n : Nat) : Int) = turn % (n : Int) := by unfold firstOf; omega
  rw [e, Int.add_emod_right, Int.tmod_eq_emod]
  split
  · simp
  · rw [Int.sub_emod]; simp

def NewList (w w' : World) (v : Value) (l : List Int) : Prop := Own w' 3 1 v l.length (l.map (Value.int .i64)) ∧ ∀ k, v.ownBlock = some k → w.heap.size ≤ k

def FairPost (procs : Int) (d pr : List Int) (turn : Int) (w : World) (e : Ending) (w' : World) : Prop :=
  ∃ v o, e = .returned v ∧ NewList w w' v o ∧ Keeps NoBlock w w' ∧ ((ShValid procs d pr ∧ Sh.Spec procs d pr d.length (firstOf turn d.length) o) ∨ (¬ ShValid procs d pr ∧ o = []))

theorem FairPost.none {procs : Int} {d pr : List Int} {turn : Int} {w w' : World} (h : ¬ ShValid procs d pr) (k : Keeps NoBlock w w') : FairPost procs d pr turn w (.returned (.slice none 0 0)) w' :=
  ⟨_, [], rfl, ⟨World.ownsRow_nil _ _ _ _, fun k hk => by simp [Value.ownBlock] at hk⟩, k, .inr ⟨h, rfl⟩⟩

theorem spec_nil (procs : Int) (pr : List Int) (first : Nat) (h : 0 ≤ procs) : Sh.Spec procs [] pr 0 first [] :=
  ⟨rfl, fun i hi => by omega, fun i hi => by omega, by simpa using h, .inr (fun i hi => by omega), fun i j hi => by omega⟩

set_option maxRecDepth 100000 in
set_option maxHeartbeats 1000000 in
theorem fair_calls (w : World) (va vb : Value) (d pr : List Int) (procs turn : Int) (ha : ReadsI .i64 w va d) (hb : ReadsI .i64 w vb pr) (hdl : d.length < 1000000000000000) (hpl : pr.length < 1000000000000000)
    (hdb : ∀ x ∈ d, x ≤ 9223372036854775807) (_ht : -9223372036854775808 ≤ turn ∧ turn ≤ 9223372036854775807) :
    Calls Try.prog 19 #[.int .i64 procs, va, vb, .int .i64 turn] w (FairPost procs d pr turn w) := by
  obtain ⟨A, db, doff, dcap, rfl, hA, hcd⟩ := ha
  obtain ⟨A', pb, poff, pcap, rfl, hA', hcp⟩ := hb
  have Hcd := Lib.hid hcd
  have Hcp := Lib.hid hcp
  have Hdb := Lib.hid hdb
  clear hcd hcp hdb
  by_cases hlen : d.length = pr.length
  case neg =>
    have hno : Hid (¬ ShValid procs d pr) := fun h => hlen h.1
    have hne : ((d.length : Int) != pr.length) = true := by simp; omega
    clear hlen hA hA'
    go_enter Try.func19, Try.ntmps19
    go_wp2_with fail
    go_ret
    exact FairPost.none hno.out (Keeps.refl _ _)
  case pos =>
    obtain ⟨n, hn⟩ : ∃ n, Hid (n = d.length) := ⟨_, rfl⟩
    have hn' : Hid (n = pr.length) := hn.out.trans hlen
    rw [← hn.out] at hA hdl
    rw [← hn'.out] at hA' hpl
    rw [← hn.out, ← hn'.out]
    have HA := Lib.hid hA
    have HA' := Lib.hid hA'
    clear hlen hA hA'
    have hne : ((n : Int) != n) = false := by simp
    by_cases h8 : n ≤ 8
    case neg =>
      have hno : Hid (¬ ShValid procs d pr) := fun h => by have h2 := h.2.1; rw [← hn.out] at h2; exact h8 h2
      have h9 : 8 < (n : Int) := by omega
      clear h8
      go_enter Try.func19, Try.ntmps19
      go_wp2_with fail
      go_ret
      exact FairPost.none hno.out (Keeps.refl _ _)
    case pos =>
      by_cases hp : 0 ≤ procs ∧ procs ≤ 64
      case neg =>
        have hno : Hid (¬ ShValid procs d pr) := fun h => hp ⟨h.2.2.1, h.2.2.2.1⟩
        have hd : Hid (decide (0 ≤ procs ∧ procs ≤ 64) = false) := decide_eq_false hp
        clear hp
        go_enter Try.func19, Try.ntmps19
        go_wp2_with fail
        refine (within_calls _ _ _).mono ?_
        rintro e w' ⟨rfl, rfl⟩
        rw [hd.out]
        go_wp2_with fail
        go_ret
        exact FairPost.none hno.out (Keeps.refl _ _)
      case pos =>
        have hd : Hid (decide (0 ≤ procs ∧ procs ≤ 64) = true) := decide_eq_true hp
        go_enter Try.func19, Try.ntmps19
        go_wp2_with fail
        refine (within_calls _ _ _).mono ?_
        rintro e w' ⟨rfl, rfl⟩
        rw [hd.out]
        go_wp2_with fail
        go_loop [31] (fun i => ∃ k : Nat, k ≤ n ∧ i = .int .i64 k ∧ Hid (∀ j, j < k → 0 ≤ at0 pr j ∧ at0 pr j ≤ 7)) (fun i => n - (intOf i).toNat)
        case atStart => exact ⟨0, Nat.zero_le _, rfl, fun j hj => by omega⟩
        case round =>
          obtain ⟨k, hk, rfl, hall⟩ := hrel
          by_cases hlt : k < n
          · obtain ⟨x, hx⟩ : ∃ x, pr[k]? = some x := ⟨_, List.getElem?_eq_getElem (by rw [← hn'.out]; exact hlt)⟩
            obtain ⟨rfl, hpb⟩ := HA'.out (by omega)
            have hcx := Hcp.out k x hx
            have hx0 : Hid (at0 pr k = x) := by show at0 pr k = x; simp [at0, List.getD, hx]
            clear hx
            by_cases hxb : 0 ≤ x ∧ x ≤ 7
            · have hdx : Hid (decide (0 ≤ x ∧ x ≤ 7) = true) := decide_eq_true hxb
              go_wp2_with fail
              refine (within_calls _ _ _).mono ?_
              rintro e w' ⟨rfl, rfl⟩
              rw [hdx.out]
              go_wp2_with fail
              refine ⟨⟨k + 1, by omega, by go_num, fun j hj => ?_⟩, by simp [intOf]; omega⟩
              by_cases e : j = k
              · subst e; rw [hx0.out]; exact hxb
              · exact hall.out j (by omega)
            · have hdx : Hid (decide (0 ≤ x ∧ x ≤ 7) = false) := decide_eq_false hxb
              have hno : Hid (¬ ShValid procs d pr) := fun h => hxb (by have h2 := h.2.2.2.2 k (by rw [← hn'.out]; exact hlt); rw [hx0.out] at h2; exact h2)
              clear hxb
              go_wp2_with fail
              refine (within_calls _ _ _).mono ?_
              rintro e w' ⟨rfl, rfl⟩
              rw [hdx.out]
              go_wp2_with fail
              go_ret
              exact FairPost.none hno.out (Keeps.refl _ _)
          · obtain rfl : k = n := by omega
            have hval : Hid (ShValid procs d pr) := ⟨by rw [← hn.out, hn'.out], by rw [← hn.out]; exact h8, hp.1, hp.2, by rw [← hn'.out]; exact hall.out⟩
            by_cases h0 : 0 < k
            · obtain ⟨rfl, hdb⟩ := HA.out h0
              obtain ⟨rfl, hpb⟩ := HA'.out h0
              have hz : ((k : Int) == 0) = false := by simp; omega
              go_wp2_with (refine wpList_make elInts' _ rfl _ _ rfl _ _ k rfl rfl (by omega) (by decide) ?_; intro w1 ho hs hk1)
              have hrl : ∀ j, j < k → at0 pr j ≤ 7 := fun j hj => (hall.out j hj).2
              have hr0 : Hid (∀ j, j < k → 0 ≤ at0 pr j) := fun j hj => (hall.out j hj).1
              have hfl := firstOf_lt turn h0
              have hfw := first_walk turn k h0
              have htb := tmod_bd turn k h0
              obtain ⟨f, hf⟩ : ∃ f, Hid (firstOf turn k = f) := ⟨_, rfl⟩
              rw [hf.out] at hfl hfw
              have hso : Own w1 3 1 (.slice (some ⟨w.heap.size, 0, none⟩) k k) k ((List.replicate k (0 : Int)).map (Value.int .i64)) := by
                have e : (madeCells (Value.int .i64 0).cells (k * 1)).toList = (List.replicate k (0 : Int)).map (Value.int .i64) := by
                  rw [show (Value.int .i64 0).cells = #[.int .i64 0] from rfl, toList_madeCells_one, Nat.mul_one, List.map_replicate]
                rw [← e]; exact ho
              have D0 : Dealer (w1.alloc (.cells #[.int .i64 procs, .slice (some ⟨db, doff, none⟩) k dcap, .slice (some ⟨pb, poff, none⟩) k pcap, .slice (some ⟨w.heap.size, 0, none⟩) k k] 65)) w1.heap.size w.heap.size db doff dcap pb poff pcap k d pr (List.replicate k 0) procs := by
                have ka : Keeps NoBlock w1 (w1.alloc (.cells #[.int .i64 procs, .slice (some ⟨db, doff, none⟩) k dcap, .slice (some ⟨pb, poff, none⟩) k pcap, .slice (some ⟨w.heap.size, 0, none⟩) k k] 65)) := (Keeps.refl _ _).alloc _
                have kb := hk1.trans ka (fun _ _ h => h)
                refine ⟨block_alloc_new _ _, hso.keeps ka (fun _ _ h => h), ⟨hn.out.symm, fun j hj => ?_⟩, ⟨hn'.out.symm, fun j hj => ?_⟩, ⟨by omega, by omega, by omega, by omega, by omega⟩, by simp⟩
                · rw [kb.cell hdb (fun h => h)]
                  exact Hcd.out j _ (by rw [at0, List.getD_eq_getElem?_getD, List.getElem?_eq_getElem (by rw [← hn.out]; exact hj)]; rfl)
                · rw [kb.cell hpb (fun h => h)]
                  exact Hcp.out j _ (by rw [at0, List.getD_eq_getElem?_getD, List.getElem?_eq_getElem (by rw [← hn'.out]; exact hj)]; rfl)
              have L0 : Deal procs d pr k f (List.replicate k 0) procs := Deal.start hp.1
              have P0 : Phase d pr k f (List.replicate k 0) procs 7 0 0 := Phase.start hrl
              have hdj : Hid (∀ j, j < k → at0 d j ≤ 9223372036854775807) := fun j hj => Hdb.out _ (by rw [at0, List.getD_eq_getElem?_getD, List.getElem?_eq_getElem (by rw [← hn.out]; exact hj)]; exact List.getElem_mem _)
              have hp64 := hp.2
              clear hrl hall
              obtain ⟨w2, hw2⟩ : ∃ w2, Hid (w2 = w1.alloc (.cells #[.int .i64 procs, .slice (some ⟨db, doff, none⟩) k dcap, .slice (some ⟨pb, poff, none⟩) k pcap, .slice (some ⟨w.heap.size, 0, none⟩) k k] 65)) := ⟨_, rfl⟩
              have hk2 : Keeps NoBlock w w2 := by rw [hw2.out]; exact hk1.alloc _
              rw [← hw2.out] at D0 ⊢
              clear ho hso
              go_loopw [13] (fun v wr => ∃ (p : Int) (o : List Int) (left : Int), -1 ≤ p ∧ p ≤ 7 ∧ v = .int .i64 p ∧ Dealer wr w1.heap.size w.heap.size db doff dcap pb poff pcap k d pr o left ∧ Keeps (FootD w1.heap.size w.heap.size) w2 wr ∧ Deal procs d pr k f o left ∧ Phase d pr k f o left p 0 0) (fun v _ => (intOf v + 1).toNat)
              case atStart => exact ⟨7, _, _, by omega, by omega, rfl, D0, Keeps.refl _ _, L0, P0⟩
              case round =>
                obtain ⟨p, o, left, hp0, hp1, rfl, D, hkr, L, P⟩ := hrel
                by_cases hpp : 0 ≤ p
                · obtain ⟨wo, rfl⟩ : ∃ wo : World, wo = wr := ⟨_, rfl⟩
                  go_wp2_with fail
                  go_loopg [] left.toNat (fun m wx => ∃ (c : Int) (o' : List Int) (left' : Int), 0 ≤ c ∧ m = left'.toNat ∧ Dealer wx w1.heap.size w.heap.size db doff dcap pb poff pcap k d pr o' left' ∧ Keeps (FootD w1.heap.size w.heap.size) w2 wx ∧ Deal procs d pr k f o' left' ∧ Phase d pr k f o' left' p c 0)
                  case atStart => exact ⟨0, o, left, Int.le_refl _, rfl, D, hkr, L, P⟩
                  case round =>
                    obtain ⟨c, o', left', hc, hm, D', hkx, L', P'⟩ := hrel
                    have Hm := Lib.hid hm
                    clear hm
                    go_wp2_with fail
                    refine (round_calls _ _ _ db doff dcap pb poff pcap k d pr o' procs left' p c f D' h8 h0 hfl L' P' hc hp64 hdj.out).mono ?_
                    rintro e w3 ⟨any, o2, left2, rfl, D2, hk3, L2, hany, hnone⟩
                    have hl0 := L2.left0
                    cases any with
                    | true =>
                      obtain ⟨P2, hlt2⟩ := hany rfl
                      clear hany hnone
                      go_wp2_with fail
                      have hl9 := L'.left0
                      go_roundg left2.toNat
                      case measure => have := Hm.out; omega
                      case rel => exact ⟨c + 1, o2, left2, by omega, rfl, D2, hkx.trans hk3 (fun _ _ h => h), L2, P2⟩
                    | false =>
                      obtain ⟨rfl, rfl, hdone⟩ := hnone rfl
                      have P2 := P'.next L' (fun h j hj hpj => hdone j hj h hpj)
                      clear hany hnone hdone
                      go_wp2_with fail
                      exact ⟨⟨p - 1, _, _, by omega, by omega, rfl, D2, hkx.trans hk3 (fun _ _ h => h), L2, P2⟩, by simp [intOf]; omega⟩
                · have hpe : p < 0 := by omega
                  obtain rfl : p = -1 := by omega
                  have S := P.last L hr0.out
                  have c3 := D.c3
                  have hol := D.olen
                  have hrow := D.row
                  have hkw : Keeps NoBlock w wr := hk2.trans hkr (by rintro j hj (h | h) <;> omega)
                  have hfin : FairPost procs d pr turn w (.returned (.slice (some ⟨w.heap.size, 0, none⟩) k k)) wr :=
                    ⟨_, o, rfl, ⟨by rw [hol]; exact hrow, fun q hq => by simp [Value.ownBlock] at hq; omega⟩, hkw, .inl ⟨hval.out, by rw [← hn.out, hf.out]; exact S⟩⟩
                  clear S
                  go_wp2_with fail
                  go_ret
                  exact hfin
            · obtain rfl : k = 0 := by omega
              have hd0 : d = [] := List.eq_nil_of_length_eq_zero hn.out.symm
              have e : (madeCells (Value.int .i64 0).cells (0 * 1)).toList = ([] : List Int).map (Value.int .i64) := by
                rw [show (Value.int .i64 0).cells = #[.int .i64 0] from rfl, toList_madeCells_one]; rfl
              have fin : ∀ w1, Own w1 3 1 (.slice (some ⟨w.heap.size, 0, none⟩) 0 0) 0 (madeCells (Value.int .i64 0).cells (0 * 1)).toList → Keeps NoBlock w w1 → ∀ o, FairPost procs d pr turn w (.returned (.slice (some ⟨w.heap.size, 0, none⟩) 0 0)) (w1.alloc o) := fun w1 ho hk1 o =>
                ⟨_, [], rfl, ⟨by rw [e] at ho; exact World.ownsRow.alloc ho _, fun q hq => by simp [Value.ownBlock] at hq; omega⟩, hk1.alloc _, .inl ⟨hval.out, by rw [hd0]; exact spec_nil procs pr _ hp.1⟩⟩
              have Fin := Lib.hid fin
              clear fin e hd0
              go_wp2_with (refine wpList_make elInts' _ rfl _ _ rfl _ _ 0 rfl rfl (by omega) (by decide) ?_; intro w1 ho hs hk1)
              go_ret
              exact Fin.out w1 ho hk1 _
end Go.Proofs.Ytpenanbnadohfaa
