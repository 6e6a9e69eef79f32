/- Package gate: Lock, Unlock, Owner, Count. -/
import Derived.Test.YtlgolofcpokndaaGtG
namespace Go.Proofs.Ytlgolofcpokndaa
open Go.RowKit

namespace Gt

abbrev ret2 (b : Bool) (e : Int) : Ending := .returned (.tuple #[.bool b, .int .i64 e])
abbrev ret3 (n : Int) (b : Bool) (e : Int) : Ending := .returned (.tuple #[.int .i64 n, .bool b, .int .i64 e])

theorem vm_slice {w0 : Base} {w : World} {G : Nat} {vm vc vs : Value} {ms : List Mx} {cs : List Rw} {ss : List Sm} (h : GAt w0 G vm vc vs ms cs ss w) : ∃ A cap, vm = .slice A ms.length cap := by
  obtain ⟨A, cap, e, _⟩ := own_len h.om
  exact ⟨A, cap, e⟩
theorem vc_slice {w0 : Base} {w : World} {G : Nat} {vm vc vs : Value} {ms : List Mx} {cs : List Rw} {ss : List Sm} (h : GAt w0 G vm vc vs ms cs ss w) : ∃ A cap, vc = .slice A cs.length cap := by
  obtain ⟨A, cap, e, _⟩ := own_len h.oc
  exact ⟨A, cap, e⟩
theorem vs_slice {w0 : Base} {w : World} {G : Nat} {vm vc vs : Value} {ms : List Mx} {cs : List Rw} {ss : List Sm} (h : GAt w0 G vm vc vs ms cs ss w) : ∃ A cap, vs = .slice A ss.length cap := by
  obtain ⟨A, cap, e, _⟩ := own_len h.os
  exact ⟨A, cap, e⟩


theorem Lock_out {w0 : Base} {w : World} {G : Nat} {vm vc vs : Value} {ms : List Mx} {cs : List Rw} {ss : List Sm} (who m : Int) (h : GAt w0 G vm vc vs ms cs ss w) (hm : m < 0 ∨ (ms.length : Int) ≤ m) :
    Calls Try.prog 10 #[.pointer (some ⟨G, 0, none⟩), .int .i64 who, .int .i64 m] w fun e w' => e = ret2 false 1 ∧ w = w' := by
  have hget := Lib.hid (getM_out m (cell_of_block h.head (o := 0) rfl) (vm_slice h) hm)
  clear h hm
  go_enter Try.func10, Try.ntmps10
  go_wp2_with fail
  refine hget.out.mono ?_
  rintro e w1 ⟨rfl, rfl⟩
  go_wp2_with fail
  go_ret2
  exact ⟨rfl, rfl⟩

theorem Lock_busy {w0 : Base} {w : World} {G m : Nat} {vm vc vs : Value} {ms : List Mx} {cs : List Rw} {ss : List Sm} {x : Mx} (who : Int) (h : GAt w0 G vm vc vs ms cs ss w) (hs : Short 1000000 ms cs ss) (hx : ms[m]? = some x) (hb : waitsG ms cs ss who = true ∨ (waitsG ms cs ss who = false ∧ (x.held && (x.own == who)) = true)) :
    Calls Try.prog 10 #[.pointer (some ⟨G, 0, none⟩), .int .i64 who, .int .i64 m] w fun e w' => e = ret2 false 4 ∧ Keeps NoBlock w w' := by
  have hml := (List.getElem?_eq_some_iff.1 hx).1
  obtain ⟨A, cap, rfl, hA⟩ := own_len h.om
  obtain ⟨M, rfl⟩ := hA (by omega)
  have c0 : w.cell? ⟨G, 0, none⟩ = some (.slice (some ⟨M, 0, none⟩) ms.length cap) := cell_of_block h.head (o := 0) rfl
  have hget := Lib.hid (getM_in m c0 hml)
  have H := Lib.hid h
  have Hx := Lib.hid hx
  have HW := Lib.hid (fun W (k : Keeps NoBlock w W) => mx_cells rfl (h.keeps k).om hx)
  have hwt := Lib.hid (waits_calls h hs who)
  rcases hb with hb | ⟨hb, hb2⟩
  · rw [hb] at hwt
    clear h hx c0 hs hb
    go_enter Try.func10, Try.ntmps10
    go_wp2_with fail
    refine hget.out.mono ?_
    rintro e w1 ⟨rfl, rfl⟩
    go_wp2_with fail
    refine hwt.out.mono ?_
    rintro e w2 ⟨rfl, k2⟩
    go_wp2_with fail
    go_ret2
    exact ⟨rfl, k2⟩
  · rw [hb] at hwt
    have Hb2 := Lib.hid hb2
    clear h hx c0 hs hb hb2
    go_enter Try.func10, Try.ntmps10
    go_wp2_with fail
    refine hget.out.mono ?_
    rintro e w1 ⟨rfl, rfl⟩
    go_wp2_with fail
    refine hwt.out.mono ?_
    rintro e w2 ⟨rfl, k2⟩
    go_wp2_with fail
    refine (is_calls who (HW.out _ k2).2.1 (HW.out _ k2).2.2).mono ?_
    rintro e w5 ⟨rfl, rfl⟩
    rw [Hb2.out]
    go_wp2_with fail
    go_ret2
    exact ⟨rfl, k2⟩

theorem Lock_wait {w0 : Base} {w : World} {G m : Nat} {vm vc vs : Value} {ms : List Mx} {cs : List Rw} {ss : List Sm} {x : Mx} (who : Int) (h : GAt w0 G vm vc vs ms cs ss w) (hs : Short 1000000 ms cs ss) (hx : ms[m]? = some x) (hb : waitsG ms cs ss who = false) (hb2 : (x.held && (x.own == who)) = false) (hh : x.held = true) :
    Calls Try.prog 10 #[.pointer (some ⟨G, 0, none⟩), .int .i64 who, .int .i64 m] w fun e w' => e = ret2 false 0 ∧ ∃ v', GAt w0 G vm vc vs (ms.set m { x with v := v', q := x.q ++ [(who, 0)] }) cs ss w' := by
  have hml := (List.getElem?_eq_some_iff.1 hx).1
  obtain ⟨A, cap, rfl, hA⟩ := own_len h.om
  obtain ⟨M, rfl⟩ := hA (by omega)
  have c0 : w.cell? ⟨G, 0, none⟩ = some (.slice (some ⟨M, 0, none⟩) ms.length cap) := cell_of_block h.head (o := 0) rfl
  have hget := Lib.hid (getM_in m c0 hml)
  have H := Lib.hid h
  have Hx := Lib.hid hx
  have HW := Lib.hid (fun W (k : Keeps NoBlock w W) => mx_cells rfl (h.keeps k).om hx)
  have hwt := Lib.hid (waits_calls h hs who)
  have hq := hs.1 x (List.mem_of_getElem? hx)
  rw [hb] at hwt
  have Hb2 := Lib.hid hb2
  have Hh := Lib.hid hh
  clear h hx c0 hs hb hb2 hh
  go_enter Try.func10, Try.ntmps10
  go_wp2_with fail
  refine hget.out.mono ?_
  rintro e w1 ⟨rfl, rfl⟩
  go_wp2_with fail
  refine hwt.out.mono ?_
  rintro e w2 ⟨rfl, k2⟩
  go_wp2_with fail
  refine (is_calls who (HW.out _ k2).2.1 (HW.out _ k2).2.2).mono ?_
  rintro e w5 ⟨rfl, rfl⟩
  rw [Hb2.out]
  obtain ⟨M', ⟨cap', hM'⟩, hlk⟩ := lock_held who (H.out.keeps k2) Hx.out Hh.out hq
  cases hM'
  have Hlk := Lib.hid hlk
  clear hlk k2
  go_wp2_with fail
  refine Hlk.out.mono ?_
  rintro e w6 ⟨rfl, hg⟩
  go_wp2_with fail
  go_ret2
  exact ⟨rfl, hg⟩

theorem Lock_take {w0 : Base} {w : World} {G m : Nat} {vm vc vs : Value} {ms : List Mx} {cs : List Rw} {ss : List Sm} {x : Mx} (who : Int) (h : GAt w0 G vm vc vs ms cs ss w) (hs : Short 1000000 ms cs ss) (hx : ms[m]? = some x) (hb : waitsG ms cs ss who = false) (hh : x.held = false) :
    Calls Try.prog 10 #[.pointer (some ⟨G, 0, none⟩), .int .i64 who, .int .i64 m] w fun e w' => e = ret2 true 0 ∧ GAt w0 G vm vc vs (ms.set m { x with held := true, own := who }) cs ss w' := by
  have hml := (List.getElem?_eq_some_iff.1 hx).1
  obtain ⟨A, cap, rfl, hA⟩ := own_len h.om
  obtain ⟨M, rfl⟩ := hA (by omega)
  have c0 : w.cell? ⟨G, 0, none⟩ = some (.slice (some ⟨M, 0, none⟩) ms.length cap) := cell_of_block h.head (o := 0) rfl
  have hget := Lib.hid (getM_in m c0 hml)
  have H := Lib.hid h
  have Hx := Lib.hid hx
  have HW := Lib.hid (fun W (k : Keeps NoBlock w W) => mx_cells rfl (h.keeps k).om hx)
  have hwt := Lib.hid (waits_calls h hs who)
  rw [hb] at hwt
  have Hb2 : Hid ((x.held && (x.own == who)) = false) := by show _ = _; rw [hh]; rfl
  have Hh := Lib.hid hh
  clear h hx c0 hs hb hh
  go_enter Try.func10, Try.ntmps10
  go_wp2_with fail
  refine hget.out.mono ?_
  rintro e w1 ⟨rfl, rfl⟩
  go_wp2_with fail
  refine hwt.out.mono ?_
  rintro e w2 ⟨rfl, k2⟩
  go_wp2_with fail
  refine (is_calls who (HW.out _ k2).2.1 (HW.out _ k2).2.2).mono ?_
  rintro e w5 ⟨rfl, rfl⟩
  rw [Hb2.out]
  obtain ⟨M', ⟨cap', hM'⟩, hlk⟩ := lock_free who (H.out.keeps k2) Hx.out Hh.out
  cases hM'
  have Hlk := Lib.hid hlk
  clear hlk k2
  go_wp2_with fail
  refine Hlk.out.mono ?_
  rintro e w6 ⟨rfl, hg⟩
  go_wp2_with fail
  go_ret2
  exact ⟨rfl, hg⟩

theorem Unlock_out {w0 : Base} {w : World} {G : Nat} {vm vc vs : Value} {ms : List Mx} {cs : List Rw} {ss : List Sm} (who m c : Int) (h : GAt w0 G vm vc vs ms cs ss w) (hm : m < 0 ∨ (ms.length : Int) ≤ m) :
    Calls Try.prog 11 #[.pointer (some ⟨G, 0, none⟩), .int .i64 who, .int .i64 m, .int .i64 c] w fun e w' => e = ret3 0 false 1 ∧ w = w' := by
  have hget := Lib.hid (getM_out m (cell_of_block h.head (o := 0) rfl) (vm_slice h) hm)
  clear h hm
  go_enter Try.func11, Try.ntmps11
  go_wp2_with fail
  refine hget.out.mono ?_
  rintro e w1 ⟨rfl, rfl⟩
  go_wp2_with fail
  refine bodyPost_ret (v := .tuple #[.int .i64 0, .bool false, .int .i64 1]) ?_ rfl ⟨rfl, rfl⟩
  simp [results, Try.results11, go_sem]

theorem Unlock_no {w0 : Base} {w : World} {G m : Nat} {vm vc vs : Value} {ms : List Mx} {cs : List Rw} {ss : List Sm} {x : Mx} (who c : Int) (h : GAt w0 G vm vc vs ms cs ss w) (hx : ms[m]? = some x) (hb2 : (x.held && (x.own == who)) = false) :
    Calls Try.prog 11 #[.pointer (some ⟨G, 0, none⟩), .int .i64 who, .int .i64 m, .int .i64 c] w fun e w' => e = ret3 0 false 5 ∧ w = w' := by
  have hml := (List.getElem?_eq_some_iff.1 hx).1
  obtain ⟨A, cap, rfl, hA⟩ := own_len h.om
  obtain ⟨M, rfl⟩ := hA (by omega)
  have c0 : w.cell? ⟨G, 0, none⟩ = some (.slice (some ⟨M, 0, none⟩) ms.length cap) := cell_of_block h.head (o := 0) rfl
  have hget := Lib.hid (getM_in m c0 hml)
  have H := Lib.hid h
  have Hx := Lib.hid hx
  have HW := Lib.hid (fun W (k : Keeps NoBlock w W) => mx_cells rfl (h.keeps k).om hx)
  have Hb2 := Lib.hid hb2
  clear h hx c0 hb2
  go_enter Try.func11, Try.ntmps11
  go_wp2_with fail
  refine hget.out.mono ?_
  rintro e w1 ⟨rfl, rfl⟩
  go_wp2_with fail
  refine (is_calls who (HW.out _ (Keeps.refl _ _)).2.1 (HW.out _ (Keeps.refl _ _)).2.2).mono ?_
  rintro e w5 ⟨rfl, rfl⟩
  rw [Hb2.out]
  go_wp2_with fail
  refine bodyPost_ret (v := .tuple #[.int .i64 0, .bool false, .int .i64 5]) ?_ rfl ⟨rfl, rfl⟩
  simp [results, Try.results11, go_sem]

theorem Unlock_none {w0 : Base} {w : World} {G m : Nat} {vm vc vs : Value} {ms : List Mx} {cs : List Rw} {ss : List Sm} {x : Mx} (who c : Int) (h : GAt w0 G vm vc vs ms cs ss w) (hx : ms[m]? = some x) (hb2 : (x.held && (x.own == who)) = true) (hq : x.q = []) :
    Calls Try.prog 11 #[.pointer (some ⟨G, 0, none⟩), .int .i64 who, .int .i64 m, .int .i64 c] w fun e w' => e = ret3 0 false 0 ∧ GAt w0 G vm vc vs (ms.set m { x with held := false, own := 0 }) cs ss w' := by
  have hml := (List.getElem?_eq_some_iff.1 hx).1
  obtain ⟨A, cap, rfl, hA⟩ := own_len h.om
  obtain ⟨M, rfl⟩ := hA (by omega)
  have c0 : w.cell? ⟨G, 0, none⟩ = some (.slice (some ⟨M, 0, none⟩) ms.length cap) := cell_of_block h.head (o := 0) rfl
  have hget := Lib.hid (getM_in m c0 hml)
  have H := Lib.hid h
  have Hx := Lib.hid hx
  have HW := Lib.hid (fun W (k : Keeps NoBlock w W) => mx_cells rfl (h.keeps k).om hx)
  have Hb2 := Lib.hid hb2
  obtain ⟨M', ⟨cap', hM'⟩, hlk⟩ := unlock_none c h hx hq
  cases hM'
  have Hlk := Lib.hid hlk
  clear h hx c0 hb2 hlk hq
  go_enter Try.func11, Try.ntmps11
  go_wp2_with fail
  refine hget.out.mono ?_
  rintro e w1 ⟨rfl, rfl⟩
  go_wp2_with fail
  refine (is_calls who (HW.out _ (Keeps.refl _ _)).2.1 (HW.out _ (Keeps.refl _ _)).2.2).mono ?_
  rintro e w5 ⟨rfl, rfl⟩
  rw [Hb2.out]
  go_wp2_with fail
  refine Hlk.out.mono ?_
  rintro e w6 ⟨rfl, hg⟩
  go_wp2_with fail
  refine bodyPost_ret (v := .tuple #[.int .i64 (0), .bool false, .int .i64 0]) ?_ rfl ?_
  · simp [results, Try.results11, go_sem]
  exact ⟨rfl, hg⟩

theorem Unlock_some {w0 : Base} {w : World} {G m : Nat} {vm vc vs : Value} {ms : List Mx} {cs : List Rw} {ss : List Sm} {x : Mx} {y : Wt} (who c : Int) (h : GAt w0 G vm vc vs ms cs ss w) (hx : ms[m]? = some x) (hb2 : (x.held && (x.own == who)) = true) (hq : 0 < x.q.length) (hy : x.q[at_ c x.q.length]? = some y) (hl : x.q.length ≤ 1000000) :
    Calls Try.prog 11 #[.pointer (some ⟨G, 0, none⟩), .int .i64 who, .int .i64 m, .int .i64 c] w fun e w' => e = ret3 y.1 true 0 ∧ ∃ v', GAt w0 G vm vc vs (ms.set m { v := v', q := x.q.eraseIdx (at_ c x.q.length), held := true, own := y.1 }) cs ss w' := by
  have hml := (List.getElem?_eq_some_iff.1 hx).1
  obtain ⟨A, cap, rfl, hA⟩ := own_len h.om
  obtain ⟨M, rfl⟩ := hA (by omega)
  have c0 : w.cell? ⟨G, 0, none⟩ = some (.slice (some ⟨M, 0, none⟩) ms.length cap) := cell_of_block h.head (o := 0) rfl
  have hget := Lib.hid (getM_in m c0 hml)
  have H := Lib.hid h
  have Hx := Lib.hid hx
  have HW := Lib.hid (fun W (k : Keeps NoBlock w W) => mx_cells rfl (h.keeps k).om hx)
  have Hb2 := Lib.hid hb2
  obtain ⟨M', ⟨cap', hM'⟩, hlk⟩ := unlock_some c h hx hq hy hl
  cases hM'
  obtain ⟨q', hq'⟩ : ∃ q', x.q.eraseIdx (at_ c x.q.length) = q' := ⟨_, rfl⟩
  rw [hq'] at hlk ⊢
  have Hlk := Lib.hid hlk
  clear h hx c0 hb2 hlk hq hy hq' hl
  go_enter Try.func11, Try.ntmps11
  go_wp2_with fail
  refine hget.out.mono ?_
  rintro e w1 ⟨rfl, rfl⟩
  go_wp2_with fail
  refine (is_calls who (HW.out _ (Keeps.refl _ _)).2.1 (HW.out _ (Keeps.refl _ _)).2.2).mono ?_
  rintro e w5 ⟨rfl, rfl⟩
  rw [Hb2.out]
  go_wp2_with fail
  refine Hlk.out.mono ?_
  rintro e w6 ⟨rfl, hg⟩
  go_wp2_with fail
  refine bodyPost_ret (v := .tuple #[.int .i64 (y.1), .bool true, .int .i64 0]) ?_ rfl ?_
  · simp [results, Try.results11, go_sem]
  exact ⟨rfl, hg⟩

theorem Owner_out {w0 : Base} {w : World} {G : Nat} {vm vc vs : Value} {ms : List Mx} {cs : List Rw} {ss : List Sm} (m : Int) (h : GAt w0 G vm vc vs ms cs ss w) (hm : m < 0 ∨ (ms.length : Int) ≤ m) :
    Calls Try.prog 19 #[.pointer (some ⟨G, 0, none⟩), .int .i64 m] w fun e w' => e = .returned (.tuple #[.int .i64 0, .bool false]) ∧ w = w' := by
  have hget := Lib.hid (getM_out m (cell_of_block h.head (o := 0) rfl) (vm_slice h) hm)
  clear h hm
  go_enter Try.func19, Try.ntmps19
  go_wp2_with fail
  refine hget.out.mono ?_
  rintro e w1 ⟨rfl, rfl⟩
  go_wp2_with fail
  go_ret2
  exact ⟨rfl, rfl⟩

theorem Owner_in {w0 : Base} {w : World} {G m : Nat} {vm vc vs : Value} {ms : List Mx} {cs : List Rw} {ss : List Sm} {x : Mx} (h : GAt w0 G vm vc vs ms cs ss w) (hx : ms[m]? = some x) :
    Calls Try.prog 19 #[.pointer (some ⟨G, 0, none⟩), .int .i64 m] w fun e w' => e = .returned (.tuple #[.int .i64 (if x.held then x.own else 0), .bool x.held]) ∧ w = w' := by
  have hml := (List.getElem?_eq_some_iff.1 hx).1
  obtain ⟨A, cap, rfl, hA⟩ := own_len h.om
  obtain ⟨M, rfl⟩ := hA (by omega)
  have c0 : w.cell? ⟨G, 0, none⟩ = some (.slice (some ⟨M, 0, none⟩) ms.length cap) := cell_of_block h.head (o := 0) rfl
  have hget := Lib.hid (getM_in m c0 hml)
  have H := Lib.hid h
  have Hx := Lib.hid hx
  have HW := Lib.hid (fun W (k : Keeps NoBlock w W) => mx_cells rfl (h.keeps k).om hx)
  obtain ⟨_, z1, z2⟩ := HW.out w (Keeps.refl _ _)
  clear h hx c0
  cases hh : x.held with
  | true =>
    rw [hh] at z1
    clear hh
    go_enter Try.func19, Try.ntmps19
    go_wp2_with fail
    refine hget.out.mono ?_
    rintro e w1 ⟨rfl, rfl⟩
    go_wp2_with fail
    go_ret2
    exact ⟨rfl, rfl⟩
  | false =>
    rw [hh] at z1
    clear hh
    go_enter Try.func19, Try.ntmps19
    go_wp2_with fail
    refine hget.out.mono ?_
    rintro e w1 ⟨rfl, rfl⟩
    go_wp2_with fail
    go_ret2
    exact ⟨rfl, rfl⟩

end Gt
end Go.Proofs.Ytlgolofcpokndaa
