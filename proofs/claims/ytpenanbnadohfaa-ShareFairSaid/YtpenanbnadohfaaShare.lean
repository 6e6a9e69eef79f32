/- Sharing processors out: what each call of package share comes to. -/
import Derived.Test.YtpenanbnadohfaaProg
import Derived.Test.YtpenanbnadohfaaMem
import Derived.Test.YtpenanbnadohfaaShareP
import Derived.KernelRfl
import Derived.Handy
import Derived.Outline
import Derived.Deep.QuietTactic
import Derived.BigQuiet
import Derived.Deep.DeepCutAuto
import Derived.Deep.CutBlock
namespace Go.Proofs.Ytpenanbnadohfaa
open Go.RowKit Sh

theorem elInts' : Elem Try.prog 39 3 (.int .i64 0) 1 8 := .mk' Try.underlying39 (by kernel_rfl) rfl (by decide)

theorem within_calls (x m : Int) (w : World) : Calls Try.prog 23 #[.int .i64 x, .int .i64 m] w fun e w' => e = .returned (.bool (decide (0 ≤ x ∧ x ≤ m))) ∧ w = w' := by
  by_cases h : 0 ≤ x
  · by_cases h2 : x ≤ m
    · go_enter Try.func23, Try.ntmps23
      go_wp2
      go_ret
      exact ⟨by simp [h, h2], rfl⟩
    · have h3 : m < x := by omega
      clear h2
      go_enter Try.func23, Try.ntmps23
      go_wp2
      go_ret
      exact ⟨by simp; omega, rfl⟩
  · have h3 : x < 0 := by omega
    clear h
    go_enter Try.func23, Try.ntmps23
    go_wp2
    go_ret
    exact ⟨by simp; omega, rfl⟩

/-- A slice argument that reads as n numbers, n above 0. -/
structure Rd (w : World) (b off : Nat) (l : List Int) (n : Nat) : Prop where
  len : l.length = n
  cell : ∀ j, j < n → w.cell? ⟨b, off + j, none⟩ = some (.int .i64 (at0 l j))

theorem Rd.keeps {w w' : World} {S : Nat → Prop} {b off n : Nat} {l : List Int} (h : Rd w b off l n) (k : Keeps S w w') (hn : ¬ S b) : Rd w' b off l n :=
  ⟨h.len, fun j hj => by
    have := h.cell j hj
    rw [k.cell (World.block_lt_of_cell? w _ this) hn, this]⟩

/-- The dealer: its block, its row of answers, and what it reads. -/
structure Dealer (w : World) (b g db doff dcap pb poff pcap n : Nat) (d pr o : List Int) (left : Int) : Prop where
  head : w.heap[b]? = some (.cells #[.int .i64 left, .slice (some ⟨db, doff, none⟩) n dcap, .slice (some ⟨pb, poff, none⟩) n pcap, .slice (some ⟨g, 0, none⟩) n n] 65 (0, 0))
  row : Own w 3 1 (.slice (some ⟨g, 0, none⟩) n n) n (o.map (Value.int .i64))
  dem : Rd w db doff d n
  pri : Rd w pb poff pr n
  ne : b ≠ g ∧ db ≠ b ∧ db ≠ g ∧ pb ≠ b ∧ pb ≠ g
  olen : o.length = n

section
variable {w w' : World} {b g db doff dcap pb poff pcap n : Nat} {d pr o : List Int} {left : Int}
theorem Dealer.c0 (h : Dealer w b g db doff dcap pb poff pcap n d pr o left) : w.cell? ⟨b, 0, none⟩ = some (.int .i64 left) := cell_of_block h.head rfl
theorem Dealer.c1 (h : Dealer w b g db doff dcap pb poff pcap n d pr o left) : w.cell? ⟨b, 1, none⟩ = some (.slice (some ⟨db, doff, none⟩) n dcap) := cell_of_block h.head rfl
theorem Dealer.c2 (h : Dealer w b g db doff dcap pb poff pcap n d pr o left) : w.cell? ⟨b, 2, none⟩ = some (.slice (some ⟨pb, poff, none⟩) n pcap) := cell_of_block h.head rfl
theorem Dealer.c3 (h : Dealer w b g db doff dcap pb poff pcap n d pr o left) : w.cell? ⟨b, 3, none⟩ = some (.slice (some ⟨g, 0, none⟩) n n) := cell_of_block h.head rfl
theorem Dealer.co (h : Dealer w b g db doff dcap pb poff pcap n d pr o left) {j : Nat} (hj : j < n) : w.cell? ⟨g, j, none⟩ = some (.int .i64 (at0 o j)) := by
  rw [World.ownsRow.cellAt h.row j (by omega), List.getElem?_map]
  have hj' : j < o.length := by rw [h.olen]; exact hj
  simp [at0, hj']
theorem Dealer.fz0 (h : Dealer w b g db doff dcap pb poff pcap n d pr o left) : w.frozen? ⟨b, 0, none⟩ = false := frozen_of_block h.head
theorem Dealer.fzo (h : Dealer w b g db doff dcap pb poff pcap n d pr o left) (j : Nat) : w.frozen? ⟨g, j, none⟩ = false := World.ownsRow.frozenAt h.row j
theorem Dealer.keeps {S : Nat → Prop} (h : Dealer w b g db doff dcap pb poff pcap n d pr o left) (k : Keeps S w w') (h1 : ¬ S b) (h2 : ¬ S g) (h3 : ¬ S db) (h4 : ¬ S pb) : Dealer w' b g db doff dcap pb poff pcap n d pr o left :=
  ⟨by rw [k.block b (lt_of_block h.head) h1]; exact h.head, h.row.keeps k (fun x hx => by simp [Value.ownBlock] at hx; subst hx; exact h2), h.dem.keeps k h3, h.pri.keeps k h4, h.ne, h.olen⟩
theorem Dealer.give (h : Dealer w b g db doff dcap pb poff pcap n d pr o left) {i : Nat} (_hi : i < n) (x y : Int) :
    Dealer ((w.setCell ⟨g, i, none⟩ (.int .i64 x)).setCell ⟨b, 0, none⟩ (.int .i64 y)) b g db doff dcap pb poff pcap n d pr (o.set i x) y := by
  obtain ⟨n1, n2, n3, n4, n5⟩ := h.ne
  have k1 : Keeps (fun k => k = g) w (w.setCell ⟨g, i, none⟩ (.int .i64 x)) := (Keeps.refl (fun k => k = g) w).setCell (.inl rfl) _
  have k2 : Keeps (fun k => k = b) (w.setCell ⟨g, i, none⟩ (.int .i64 x)) ((w.setCell ⟨g, i, none⟩ (.int .i64 x)).setCell ⟨b, 0, none⟩ (.int .i64 y)) := (Keeps.refl (fun k => k = b) _).setCell (.inl rfl) _
  have hh : (w.setCell ⟨g, i, none⟩ (.int .i64 x)).heap[b]? = _ := (block_set_ne (p := ⟨g, i, none⟩) n1 _).trans h.head
  refine ⟨?_, ?_, (h.dem.keeps k1 n3).keeps k2 n2, (h.pri.keeps k1 n5).keeps k2 n4, h.ne, by simp [h.olen]⟩
  · rw [block_set hh]; rfl
  · have := (World.ownsRow.stored h.row i (.int .i64 x)).1
    rw [List.map_set]
    exact Own.keeps this k2 (fun q hq => by simp [Value.ownBlock] at hq; subst hq; exact fun e => n1 e.symm)
end

def FootD (b g : Nat) : Nat → Prop := fun k => k = b ∨ k = g

set_option maxRecDepth 100000 in
theorem wants_calls (w : World) (b g db doff dcap pb poff pcap n : Nat) (d pr o : List Int) (left : Int) (D : Dealer w b g db doff dcap pb poff pcap n d pr o left) (i : Nat) (hi : i < n) (_hn : n ≤ 8) (p : Int) :
    Calls Try.prog 25 #[.pointer (some ⟨b, 0, none⟩), .int .i64 i, .int .i64 p] w fun e w' => e = .returned (.bool (decide (at0 pr i = p ∧ at0 o i < at0 d i))) ∧ Keeps NoBlock w w' := by
  have c1 := D.c1
  have c2 := D.c2
  have c3 := D.c3
  obtain ⟨x, hx⟩ : ∃ x, Hid (at0 pr i = x) := ⟨_, rfl⟩
  obtain ⟨y, hy⟩ : ∃ y, Hid (at0 o i = y) := ⟨_, rfl⟩
  obtain ⟨z, hz⟩ : ∃ z, Hid (at0 d i = z) := ⟨_, rfl⟩
  have cx := D.pri.cell i hi
  have cy := D.co hi
  have cz := D.dem.cell i hi
  rw [hx.out] at cx ⊢
  rw [hy.out] at cy ⊢
  rw [hz.out] at cz ⊢
  by_cases hp : x = p
  · have hb : (x == p) = true := by simp [hp]
    have Hp := Lib.hid hp
    clear hp
    go_enter Try.func25, Try.ntmps25
    go_wp2_with fail
    go_quiet (fail)
    go_wp2_with fail
    go_ret
    exact ⟨by simp [Hp.out], (Keeps.refl _ _).drewN _⟩
  · have hb : (x == p) = false := by simp [hp]
    have Hp := Lib.hid hp
    clear hp
    go_enter Try.func25, Try.ntmps25
    go_wp2_with fail
    go_quiet (fail)
    go_wp2_with fail
    go_ret
    exact ⟨by simp [Hp.out], (Keeps.refl _ _).drewN _⟩

/-- Behind a round: did anybody get one, and how it stands. -/
def RoundPost (w : World) (b g db doff dcap pb poff pcap n : Nat) (d pr o : List Int) (procs left p c : Int) (first : Nat) (e : Ending) (w' : World) : Prop :=
  ∃ (any : Bool) (o' : List Int) (left' : Int), e = .returned (.bool any) ∧ Dealer w' b g db doff dcap pb poff pcap n d pr o' left' ∧ Keeps (FootD b g) w w' ∧ Deal procs d pr n first o' left' ∧
    (any = true → Phase d pr n first o' left' p (c + 1) 0 ∧ left' < left) ∧ (any = false → o' = o ∧ left' = left ∧ ∀ j, j < n → 0 < left → at0 pr j = p → at0 d j ≤ at0 o j)

/-- In the middle of one. -/
def RoundRel (w : World) (b g db doff dcap pb poff pcap n : Nat) (d pr o : List Int) (procs left p c : Int) (first k : Nat) (v : Value) (wr : World) : Prop :=
  ∃ (any : Bool) (o1 : List Int) (l1 : Int), v = .bool any ∧ Dealer wr b g db doff dcap pb poff pcap n d pr o1 l1 ∧ Keeps (FootD b g) w wr ∧ Deal procs d pr n first o1 l1 ∧ Phase d pr n first o1 l1 p c k ∧
    (any = true → l1 < left) ∧ (any = false → o1 = o ∧ l1 = left ∧ ∀ j, j < n → rank n first j < k → 0 < left → at0 pr j = p → at0 d j ≤ at0 o j)

set_option maxRecDepth 100000 in
theorem round_calls (w : World) (b g db doff dcap pb poff pcap n : Nat) (d pr o : List Int) (procs left p c : Int) (first : Nat) (D : Dealer w b g db doff dcap pb poff pcap n d pr o left) (hn : n ≤ 8) (hn0 : 0 < n) (hf : first < n)
    (L : Deal procs d pr n first o left) (P : Phase d pr n first o left p c 0) (hc : 0 ≤ c) (hpr : procs ≤ 64) (hdb : ∀ j, j < n → at0 d j ≤ 9223372036854775807) :
    Calls Try.prog 24 #[.pointer (some ⟨b, 0, none⟩), .int .i64 p, .int .i64 first] w (RoundPost w b g db doff dcap pb poff pcap n d pr o procs left p c first) := by
  have Hdb := Lib.hid hdb
  clear hdb
  have c1 := D.c1
  go_enter Try.func24, Try.ntmps24
  go_wp2_with fail
  clear c1
  go_loopw [7, 15] (fun v i wr => ∃ k : Nat, k ≤ n ∧ i = .int .i64 k ∧ RoundRel w b g db doff dcap pb poff pcap n d pr o procs left p c first k v wr) (fun _ i _ => n - (intOf i).toNat)
  case atStart => exact ⟨0, Nat.zero_le _, rfl, false, o, left, rfl, D, Keeps.refl _ _, L, P, (fun h => nomatch h), fun _ => ⟨rfl, rfl, fun j _ h => by omega⟩⟩
  case round =>
    obtain ⟨k, hk, rfl, any, o1, l1, rfl, D1, hk1, L1, P1, hany, hnone⟩ := hrel
    by_cases hlt : k < n
    · obtain ⟨ix, hix⟩ : ∃ ix : Nat, ((first : Int) + k) % n = ix := ⟨(first + k) % n, by simp⟩
      have hixn : Hid (ix = (first + k) % n) := Lib.hid (by have : (((first + k) % n : Nat) : Int) = ix := by rw [← hix]; simp
                                                            omega)
      have hil : ix < n := by rw [hixn.out]; exact Nat.mod_lt _ hn0
      have hr : Hid (rank n first ix = k) := rank_of hf hlt hixn.out
      have hd1 := Hdb.out ix hil
      have ho1 := L1.lo ix hil
      have hl0 := L1.left0
      have hls : l1 ≤ 64 := by
        have h1 := L1.sum
        have : (List.replicate n (0 : Int)).sum ≤ o1.sum := sum_le_of_all (by simp [L1.len]) (fun i hi => by rw [at0_zero]; exact L1.lo i (by simpa using hi))
        rw [sum_zero] at this
        omega
      have cc0 := D1.c0
      have cc1 := D1.c1
      have cc3 := D1.c3
      have hnz : ((first : Int) + k) < 100 := by omega
      by_cases hl : 0 < l1
      · by_cases hw : at0 pr ix = p ∧ at0 o1 ix < at0 d ix
        · obtain ⟨hwp, hwd⟩ := hw
          have Hwp := Lib.hid hwp
          have co1 := D1.co hil
          obtain ⟨L2, P2⟩ := P1.give L1 hc hl hf hil hr.out hwp hwd
          have hany2 : l1 - 1 < left := by
            cases any with
            | true => have := hany rfl; omega
            | false => have := (hnone rfl).2.1; omega
          clear hwp hany hnone
          go_wp2_with fail
          refine (wants_calls _ b g db doff dcap pb poff pcap n d pr o1 l1 D1 ix hil hn p).mono ?_
          rintro e w2 ⟨rfl, hk2⟩
          rw [decide_eq_true ⟨Hwp.out, hwd⟩]
          obtain ⟨y, hy⟩ : ∃ y, Hid (at0 o1 ix = y) := ⟨_, rfl⟩
          have hyd : y < 9223372036854775807 := by have := hy.out; omega
          have hy0 : 0 ≤ y := by have := hy.out; omega
          rw [hy.out] at L2 P2
          have D3 := D1.keeps hk2 (fun h => h) (fun h => h) (fun h => h) (fun h => h)
          have k2 := hk1.trans hk2 (fun _ _ h => h.elim)
          have D4 := D3.give hil (y + 1) (l1 - 1)
          have k3 := (k2.setCell (S := FootD b g) (p := ⟨g, ix, none⟩) (.inl (.inr rfl)) (.int .i64 (y + 1))).setCell (p := ⟨b, 0, none⟩) (.inl (.inl rfl)) (.int .i64 (l1 - 1))
          have co2 := D3.co hil
          rw [hy.out] at co2
          have fo2 := D3.fzo ix
          have cb0 := D3.c0
          have cb3 := D3.c3
          have fb0 := D3.fz0
          have hne := D3.ne
          clear cc0 cc1 cc3 co1
          go_wp2_with fail
          exact ⟨⟨k + 1, by omega, by go_num, true, _, _, rfl, D4, k3, L2, P2, fun _ => hany2, fun h => nomatch h⟩, by simp [intOf]; omega⟩
        · have hdec : Hid (decide (at0 pr ix = p ∧ at0 o1 ix < at0 d ix) = false) := decide_eq_false hw
          have P2 := P1.skip hc hf hil hr.out (fun _ h => by
            apply Classical.byContradiction
            intro hcn
            exact hw ⟨h, by omega⟩)
          have hnone2 : Hid (any = false → o1 = o ∧ l1 = left ∧ ∀ j, j < n → rank n first j < k + 1 → 0 < left → at0 pr j = p → at0 d j ≤ at0 o j) := fun h => by
            obtain ⟨rfl, rfl, h3⟩ := hnone h
            refine ⟨rfl, rfl, fun j hj hrj hlj hpj => ?_⟩
            by_cases e : rank n first j < k
            · exact h3 j hj e hlj hpj
            · have : j = ix := rank_inj hf hj hil (by rw [hr.out]; omega)
              subst this
              apply Classical.byContradiction
              intro hcn
              exact hw ⟨hpj, by omega⟩
          have Hany := Lib.hid hany
          clear hw hany hnone
          go_wp2_with fail
          refine (wants_calls _ b g db doff dcap pb poff pcap n d pr o1 l1 D1 ix hil hn p).mono ?_
          rintro e w2 ⟨rfl, hk2⟩
          rw [hdec.out]
          have D3 := D1.keeps hk2 (fun h => h) (fun h => h) (fun h => h) (fun h => h)
          have k2 := hk1.trans hk2 (fun _ _ h => h.elim)
          clear cc0 cc1 cc3
          go_wp2_with fail
          exact ⟨⟨k + 1, by omega, by go_num, any, o1, l1, rfl, D3, k2, L1, P2, Hany.out, hnone2.out⟩, by simp [intOf]; omega⟩
      · have hl2 : l1 ≤ 0 := by omega
        have P2 := P1.skip hc hf hil hr.out (fun h _ => by omega)
        have hnone2 : Hid (any = false → o1 = o ∧ l1 = left ∧ ∀ j, j < n → rank n first j < k + 1 → 0 < left → at0 pr j = p → at0 d j ≤ at0 o j) := fun h => by
          obtain ⟨rfl, rfl, h3⟩ := hnone h
          exact ⟨rfl, rfl, fun j hj hrj hlj hpj => by omega⟩
        have Hany := Lib.hid hany
        clear hl hany hnone
        go_wp2_with fail
        exact ⟨⟨k + 1, by omega, by go_num, any, o1, l1, rfl, D1, hk1, L1, P2, Hany.out, hnone2.out⟩, by simp [intOf]; omega⟩
    · obtain rfl : k = n := by omega
      have P2 := P1.round hn0
      have Hany := Lib.hid hany
      have Hnone := Lib.hid hnone
      clear hany hnone
      go_wp2_with fail
      go_ret
      exact ⟨any, o1, l1, rfl, D1, hk1, L1, fun h => ⟨P2, Hany.out h⟩, fun h => ⟨(Hnone.out h).1, (Hnone.out h).2.1, fun j hj => (Hnone.out h).2.2 j hj (rank_lt hn0)⟩⟩
end Go.Proofs.Ytpenanbnadohfaa
