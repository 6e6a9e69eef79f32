/- ShareFair's walk. -/
import Derived.Test.YtpenanbnadohfaaShareW
import Derived.Test.YtpenanbnadohfaaShareR
namespace Go.Proofs.Ytpenanbnadohfaa
open Go.RowKit Sh

theorem IntsAt.readsI {k : IntKind} {w : World} {A : Option Addr} {b off len cap : Nat} {zs : List Int} (h : IntsAt k w A b off len zs) : ReadsI k w (.slice A len cap) zs := by
  have hl := h.length
  refine ⟨A, b, off, cap, by rw [hl], fun h0 => ⟨h.addr (by omega), World.block_lt_of_cell? w _ (h.cell 0 (by omega))⟩, fun j x hx => ?_⟩
  have hj : j < zs.length := (List.getElem?_eq_some_iff.1 hx).1
  rw [h.cell j (by omega)]
  simp [List.getD, hx]

theorem IntsAt.below {w : World} {A : Option Addr} {b off len : Nat} {zs : List Int} (h : IntsAt .i64 w A b off len zs) : ∀ x ∈ zs, x ≤ 9223372036854775807 := by
  intro x hx
  obtain ⟨j, hj, rfl⟩ := List.getElem_of_mem hx
  have hl := h.length
  have := bounds_i64 (h.wf j (by omega))
  simp [List.getD, hj] at this
  exact this.2

set_option maxRecDepth 100000 in
set_option maxHeartbeats 4000000 in
theorem fairlaw_calls (w : World) (va vb : Value) (d pr : List Int) (procs turn : Int) (ha : ReadsI .i64 w va d) (hb : ReadsI .i64 w vb pr) (hdl : d.length < 1000000000000000) (hpl : pr.length < 1000000000000000)
    (hdb : ∀ x ∈ d, x ≤ 9223372036854775807) (ht : -9223372036854775808 ≤ turn ∧ turn ≤ 9223372036854775807) :
    Calls Try.prog 7 #[.int .i64 procs, va, vb, .int .i64 turn] w fun e w' => e = .returned (.bool true) ∧ Keeps NoBlock w w' := by
  have Ha := Lib.hid ha
  have Hb := Lib.hid hb
  have Hdb := Lib.hid hdb
  clear ha hb hdb
  go_enter Try.func7, Try.ntmps7
  go_wp2_with fail
  refine (fair_calls w va vb d pr procs turn Ha.out Hb.out hdl hpl Hdb.out ht).mono ?_
  rintro e w1 ⟨v1, o1, rfl, ⟨hn1, hf1⟩, hk1, h1⟩
  have q1 := Lib.hid (Own.readsI hn1)
  clear hn1 hf1
  have H1 := Lib.hid h1
  clear h1
  go_wp2_with fail
  refine (rfair_calls w1 va vb d pr procs turn (Ha.out.keeps hk1 (fun _ _ h => h)) (Hb.out.keeps hk1 (fun _ _ h => h)) hdl hpl Hdb.out ht).mono ?_
  rintro e w2 ⟨v2, o2, ok, rfl, ⟨hn2, hf2⟩, hk2, h2⟩
  have q2 := Lib.hid (Own.readsI hn2)
  clear hn2 hf2
  have H2 := Lib.hid h2
  clear h2
  have k12 : Keeps NoBlock w w2 := hk1.trans hk2 (fun _ _ h => h)
  go_wp2_with fail
  refine (awake12_calls _).mono ?_
  rintro e w3 ⟨rfl, hk3⟩
  have k13 : Keeps NoBlock w w3 := k12.trans hk3 (fun _ _ h => h)
  have r1 := Lib.hid (q1.out.keeps (hk2.trans hk3 (fun _ _ h => h)) (fun _ _ h => h))
  have r2 := Lib.hid (q2.out.keeps hk3 (fun _ _ h => h))
  clear q1 q2 hk1 hk2 hk3 k12
  rcases H2.out with ⟨rfl, hv, S2⟩ | ⟨rfl, hv, rfl⟩
  · obtain rfl : o1 = o2 := by
      rcases H1.out with ⟨_, S1⟩ | ⟨h, _⟩
      · exact S1.unique S2
      · exact absurd hv h
    have l1 : o1.length < 1000000000000000 := by have := S2.len; omega
    clear H1 H2 S2 hv
    go_wp2_with fail
    refine (ints_calls _ _ o1 o1 w3 r1.out r2.out l1 l1).mono ?_
    rintro e w4 ⟨rfl, hk4⟩
    rw [decide_eq_true rfl]
    go_wp2_with fail
    go_ret
    exact ⟨rfl, k13.trans hk4 (fun _ _ h => h)⟩
  · obtain rfl : o1 = [] := by
      rcases H1.out with ⟨h, _⟩ | ⟨_, h⟩
      · exact absurd h hv
      · exact h
    obtain ⟨A, b, off, cap, rfl, _, _⟩ := r1.out
    clear H1 H2 hv r1 r2
    go_wp2_with fail
    go_ret
    exact ⟨rfl, k13⟩

theorem fairlaw_any (w : World) (procs : Int) (_hs : (Lit.int .i64 procs).wf = true) (A : Option Addr) (b off len cap : Nat) (zs : List Int) (hd : IntsAt .i64 w A b off len zs) (hl : len * 8 ≤ 140737488351232)
    (A' : Option Addr) (b' off' len' cap' : Nat) (zs' : List Int) (hp : IntsAt .i64 w A' b' off' len' zs') (hl' : len' * 8 ≤ 140737488351232) (turn : Int) (ht : (Lit.int .i64 turn).wf = true) :
    Calls Try.prog 7 #[.int .i64 procs, .slice A len cap, .slice A' len' cap', .int .i64 turn] w fun e w' => e = .returned (.bool true) ∧ Below w.heap.size w w' := by
  have h2 := bounds_i64 ht
  have z1 := hd.length
  have z2 := hp.length
  exact (fairlaw_calls w _ _ zs zs' procs turn hd.readsI hp.readsI (by omega) (by omega) hd.below (by omega)).mono fun e w' ⟨he, hk⟩ => ⟨he, hk.below (Nat.le_refl _) (fun _ h => h.elim)⟩
end Go.Proofs.Ytpenanbnadohfaa
