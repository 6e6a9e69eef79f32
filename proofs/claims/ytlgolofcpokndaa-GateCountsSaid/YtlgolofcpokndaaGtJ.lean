/- Package gate: row, Waiters, Wait. -/
import Derived.Test.YtlgolofcpokndaaGtK
namespace Go.Proofs.Ytlgolofcpokndaa
open Go.RowKit

namespace Gt

theorem row_else (p : Value) (k n : Int) (w : World) (h1 : (k == 1) = false) (h2 : (k == 2) = false) (h3 : (k == 3) = false) : Calls Try.prog 33 #[p, .int .i64 k, .int .i64 n] w fun e w' => e = .returned (.pointer none) ∧ w = w' := by
  go_enter Try.func33, Try.ntmps33
  go_wp2_with fail
  go_ret
  exact ⟨rfl, rfl⟩

theorem row1_none {p : Value} {n : Int} {w : World} (h : Calls Try.prog 24 #[p, .int .i64 n] w fun e w' => e = .returned (.pointer none) ∧ w = w') : Calls Try.prog 33 #[p, .int .i64 1, .int .i64 n] w fun e w' => e = .returned (.pointer none) ∧ w = w' := by
  have H := Lib.hid h
  clear h
  go_enter Try.func33, Try.ntmps33
  go_wp2_with fail
  refine H.out.mono ?_
  rintro e w1 ⟨rfl, rfl⟩
  go_wp2_with fail
  go_ret
  exact ⟨rfl, rfl⟩

theorem row1_some {p : Value} {n : Int} {b o : Nat} {w : World} (h : Calls Try.prog 24 #[p, .int .i64 n] w fun e w' => e = .returned (.pointer (some ⟨b, o, none⟩)) ∧ w = w') : Calls Try.prog 33 #[p, .int .i64 1, .int .i64 n] w fun e w' => e = .returned (.pointer (some ⟨b, o, none⟩)) ∧ w = w' := by
  have H := Lib.hid h
  clear h
  go_enter Try.func33, Try.ntmps33
  go_wp2_with fail
  refine H.out.mono ?_
  rintro e w1 ⟨rfl, rfl⟩
  go_wp2_with fail
  go_ret
  exact ⟨rfl, rfl⟩
theorem row2_none {p : Value} {n : Int} {w : World} (h : Calls Try.prog 29 #[p, .int .i64 n] w fun e w' => e = .returned (.pointer none) ∧ w = w') : Calls Try.prog 33 #[p, .int .i64 2, .int .i64 n] w fun e w' => e = .returned (.pointer none) ∧ w = w' := by
  have H := Lib.hid h
  clear h
  go_enter Try.func33, Try.ntmps33
  go_wp2_with fail
  refine H.out.mono ?_
  rintro e w1 ⟨rfl, rfl⟩
  go_wp2_with fail
  go_ret
  exact ⟨rfl, rfl⟩

theorem row2_some {p : Value} {n : Int} {b o : Nat} {w : World} (h : Calls Try.prog 29 #[p, .int .i64 n] w fun e w' => e = .returned (.pointer (some ⟨b, o, none⟩)) ∧ w = w') : Calls Try.prog 33 #[p, .int .i64 2, .int .i64 n] w fun e w' => e = .returned (.pointer (some ⟨b, o, none⟩)) ∧ w = w' := by
  have H := Lib.hid h
  clear h
  go_enter Try.func33, Try.ntmps33
  go_wp2_with fail
  refine H.out.mono ?_
  rintro e w1 ⟨rfl, rfl⟩
  go_wp2_with fail
  go_ret
  exact ⟨rfl, rfl⟩
theorem row3_none {p : Value} {n : Int} {w : World} (h : Calls Try.prog 32 #[p, .int .i64 n] w fun e w' => e = .returned (.pointer none) ∧ w = w') : Calls Try.prog 33 #[p, .int .i64 3, .int .i64 n] w fun e w' => e = .returned (.pointer none) ∧ w = w' := by
  have H := Lib.hid h
  clear h
  go_enter Try.func33, Try.ntmps33
  go_wp2_with fail
  refine H.out.mono ?_
  rintro e w1 ⟨rfl, rfl⟩
  go_wp2_with fail
  go_ret
  exact ⟨rfl, rfl⟩

theorem row3_some {p : Value} {n : Int} {b o : Nat} {w : World} (h : Calls Try.prog 32 #[p, .int .i64 n] w fun e w' => e = .returned (.pointer (some ⟨b, o, none⟩)) ∧ w = w') : Calls Try.prog 33 #[p, .int .i64 3, .int .i64 n] w fun e w' => e = .returned (.pointer (some ⟨b, o, none⟩)) ∧ w = w' := by
  have H := Lib.hid h
  clear h
  go_enter Try.func33, Try.ntmps33
  go_wp2_with fail
  refine H.out.mono ?_
  rintro e w1 ⟨rfl, rfl⟩
  go_wp2_with fail
  go_ret
  exact ⟨rfl, rfl⟩

theorem waiters_nil {p : Value} {k n : Int} {w : World} (h : Calls Try.prog 33 #[p, .int .i64 k, .int .i64 n] w fun e w' => e = .returned (.pointer none) ∧ w = w') : Calls Try.prog 16 #[p, .int .i64 k, .int .i64 n] w fun e w' => e = .returned (.slice none 0 0) ∧ w = w' := by
  have H := Lib.hid h
  clear h
  go_enter Try.func16, Try.ntmps16
  go_wp2_with fail
  refine H.out.mono ?_
  rintro e w1 ⟨rfl, rfl⟩
  go_wp2_with fail
  go_ret
  exact ⟨rfl, rfl⟩

def encI (y : Int) : Value := .int .i64 y

theorem eIone (l : List Int) : ∀ u ∈ l.map encI, u.oneCell' = true := by
  intro u hu
  obtain ⟨y, _, rfl⟩ := List.mem_map.1 hu
  rfl

set_option maxRecDepth 100000 in
set_option maxHeartbeats 1000000 in
theorem waiters_row {p : Value} {k n : Int} {b o : Nat} {w : World} {v : Value} {q : List Wt} (h : Calls Try.prog 33 #[p, .int .i64 k, .int .i64 n] w fun e w' => e = .returned (.pointer (some ⟨b, o, none⟩)) ∧ w = w')
    (hc : w.cell? ⟨b, o, none⟩ = some v) (ho : Own w 76 2 v q.length (q.flatMap encW)) (hl : q.length ≤ 10000) :
    Calls Try.prog 16 #[p, .int .i64 k, .int .i64 n] w fun e w' => ∃ u, e = .returned u ∧ Mine w w' 3 1 u q.length ((q.map Prod.fst).map encI) := by
  have H := Lib.hid h
  obtain ⟨L, hL⟩ : ∃ L, q.length = L := ⟨_, rfl⟩
  rw [hL] at ho hl ⊢
  obtain ⟨A, cap, rfl, hA⟩ := own_len ho
  have Ho := Lib.hid ho
  have HL := Lib.hid hL
  have HA := Lib.hid hA
  clear h ho hL hA
  go_enter Try.func16, Try.ntmps16
  go_wp2_with fail
  refine H.out.mono ?_
  rintro e w1 ⟨rfl, rfl⟩
  go_wp2_with fail
  go_loopw [8, 22] (fun u i wr => ∃ (k : Nat), k ≤ L ∧ i = .int .i64 k ∧ Mine w wr 3 1 u k (((q.take k).map Prod.fst).map encI)) (fun _ i _ => L - (intOf i).toNat)
  case atStart => exact ⟨0, Nat.zero_le _, rfl, Mine.nil _ _ _⟩
  case round =>
    obtain ⟨k, hk, rfl, hm⟩ := hrel
    have HM := Lib.hid hm
    obtain ⟨A5, c5, rfl⟩ := Own.isSlice hm.own
    clear hm
    by_cases hlt : k < L
    · obtain ⟨x, hx⟩ : ∃ x, q[k]? = some x := ⟨_, List.getElem?_eq_getElem (by rw [HL.out]; exact hlt)⟩
      obtain ⟨g, rfl⟩ := HA.out (by omega)
      obtain ⟨y0, y1⟩ := wt_cells HL.out (Ho.out.keeps HM.out.kp (fun _ _ e => e)) hx
      have hnext : Hid (((q.take (k + 1)).map Prod.fst).map encI = ((q.take k).map Prod.fst).map encI ++ [.int .i64 x.1]) := by
        show _ = _
        rw [List.take_add_one, hx, Option.toList_some, List.map_append, List.map_append]; rfl
      have hk0 : (0 : Int) ≤ (k : Int) := by omega
      have hkL : (k : Int) < (L : Int) := by omega
      have hwk : IntKind.i64.wrap ((k : Int) + 1) = (k : Int) + 1 := by rw [IntKind.wrap_i64]; omega
      clear hx
      go_wp2_with (first
        | (at_builtin; refine wpList_app1 eI _ rfl _ _ rfl (.slice A5 k c5) _ _ rfl (World.ownsRow.alloc HM.out.own _) [.int .i64 x.1] 3 _ rfl (by simp) rfl (by simp [Value.oneCell']) (by omega) (by decide) ?_; intro g1 cap1 w3 hown1 hk1 hfr1))
      refine ⟨⟨k + 1, by omega, by simp, ?_⟩, by simp [intOf]; omega⟩
      rw [hnext.out]
      refine ⟨hown1, fun j hj => ?_, ?_⟩
      · simp only [Value.ownBlock, Option.some.injEq] at hj
        subst hj
        rcases hfr1 with h1 | h1
        · exact HM.out.fresh _ h1
        · have := HM.out.kp.size
          simp only [World.size_alloc] at h1
          omega
      · exact ((HM.out.kp.alloc _).mono (S' := fun j => (Value.slice A5 k c5).ownBlock = some j) (fun _ _ e => e.elim)).trans hk1 (fun j _ e => e) |>.mono (fun j hj e => by have := HM.out.fresh j e; omega)
    · obtain rfl : k = L := by omega
      go_wp2_with fail
      go_ret
      refine ⟨_, rfl, ?_⟩
      have h2 := HM.out
      rw [show q.take k = q from List.take_of_length_le (by rw [HL.out]; exact Nat.le_refl _)] at h2
      exact h2

theorem Wait_out {p : Value} {w : World} (who c m ch : Int) (a b : Option Addr) (hM : Calls Try.prog 24 #[p, .int .i64 m] w fun e w' => e = .returned (.pointer a) ∧ w = w') (hC : Calls Try.prog 29 #[p, .int .i64 c] w fun e w' => e = .returned (.pointer b) ∧ w = w')
    (h : a = none ∨ (∃ A, a = some A ∧ b = none)) : Calls Try.prog 12 #[p, .int .i64 who, .int .i64 c, .int .i64 m, .int .i64 ch] w fun e w' => e = ret3 0 false 1 ∧ w = w' := by
  have HM := Lib.hid hM
  have HC := Lib.hid hC
  clear hM hC
  rcases h with rfl | ⟨A, rfl, rfl⟩
  · go_enter Try.func12, Try.ntmps12
    go_wp2_with fail
    refine HM.out.mono ?_
    rintro e w1 ⟨rfl, rfl⟩
    go_wp2_with fail
    refine HC.out.mono ?_
    rintro e w1 ⟨rfl, rfl⟩
    go_wp2_with fail
    refine bodyPost_ret (v := .tuple #[.int .i64 (0), .bool false, .int .i64 1]) ?_ rfl ?_
    · simp [results, Try.results12, go_sem]
    exact ⟨rfl, rfl⟩
  · go_enter Try.func12, Try.ntmps12
    go_wp2_with fail
    refine HM.out.mono ?_
    rintro e w1 ⟨rfl, rfl⟩
    go_wp2_with fail
    refine HC.out.mono ?_
    rintro e w1 ⟨rfl, rfl⟩
    go_wp2_with fail
    refine bodyPost_ret (v := .tuple #[.int .i64 (0), .bool false, .int .i64 1]) ?_ rfl ?_
    · simp [results, Try.results12, go_sem]
    exact ⟨rfl, rfl⟩

theorem Wait_busy {w0 : Base} {w : World} {G m c : Nat} {vm vc vs : Value} {ms : List Mx} {cs : List Rw} {ss : List Sm} {x : Mx} {r : Rw} (who ch : Int) (h : GAt w0 G vm vc vs ms cs ss w) (hs : Short 1000000 ms cs ss) (hx : ms[m]? = some x) (hr : cs[c]? = some r) (hb : waitsG ms cs ss who = true) :
    Calls Try.prog 12 #[.pointer (some ⟨G, 0, none⟩), .int .i64 who, .int .i64 c, .int .i64 m, .int .i64 ch] w fun e w' => e = ret3 0 false 4 ∧ Keeps NoBlock w w' := by
  have hml := (List.getElem?_eq_some_iff.1 hx).1
  have hcl := (List.getElem?_eq_some_iff.1 hr).1
  obtain ⟨A, cap, rfl, hA⟩ := own_len h.om
  obtain ⟨M, rfl⟩ := hA (by omega)
  obtain ⟨B, capc, rfl, hB⟩ := own_len h.oc
  obtain ⟨C, rfl⟩ := hB (by omega)
  have hget := Lib.hid (getM_in m (cell_of_block h.head (o := 0) rfl) hml)
  have hgec := Lib.hid (getC_in c (cell_of_block h.head (o := 1) rfl) hcl)
  have H := Lib.hid h
  have Hx := Lib.hid hx
  have Hr := Lib.hid hr
  have HW := Lib.hid (fun W (k : Keeps NoBlock w W) => mx_cells rfl (h.keeps k).om hx)
  have hwt := Lib.hid (waits_calls h hs who)
  rw [hb] at hwt
  clear h hx hr hs hb
  go_enter Try.func12, Try.ntmps12
  go_wp2_with fail
  refine hget.out.mono ?_
  rintro e w1 ⟨rfl, rfl⟩
  go_wp2_with fail
  refine hgec.out.mono ?_
  rintro e w1 ⟨rfl, rfl⟩
  go_wp2_with fail
  refine hwt.out.mono ?_
  rintro e w2 ⟨rfl, k2⟩
  have K2 := Lib.hid k2
  clear k2
  go_wp2_with fail
  refine bodyPost_ret (v := .tuple #[.int .i64 (0), .bool false, .int .i64 4]) ?_ rfl ?_
  · simp [results, Try.results12, go_sem]
  exact ⟨rfl, K2.out⟩

theorem Wait_no {w0 : Base} {w : World} {G m c : Nat} {vm vc vs : Value} {ms : List Mx} {cs : List Rw} {ss : List Sm} {x : Mx} {r : Rw} (who ch : Int) (h : GAt w0 G vm vc vs ms cs ss w) (hs : Short 1000000 ms cs ss) (hx : ms[m]? = some x) (hr : cs[c]? = some r) (hb : waitsG ms cs ss who = false) (hb2 : (x.held && (x.own == who)) = false) :
    Calls Try.prog 12 #[.pointer (some ⟨G, 0, none⟩), .int .i64 who, .int .i64 c, .int .i64 m, .int .i64 ch] w fun e w' => e = ret3 0 false 5 ∧ Keeps NoBlock w w' := by
  have hml := (List.getElem?_eq_some_iff.1 hx).1
  have hcl := (List.getElem?_eq_some_iff.1 hr).1
  obtain ⟨A, cap, rfl, hA⟩ := own_len h.om
  obtain ⟨M, rfl⟩ := hA (by omega)
  obtain ⟨B, capc, rfl, hB⟩ := own_len h.oc
  obtain ⟨C, rfl⟩ := hB (by omega)
  have hget := Lib.hid (getM_in m (cell_of_block h.head (o := 0) rfl) hml)
  have hgec := Lib.hid (getC_in c (cell_of_block h.head (o := 1) rfl) hcl)
  have H := Lib.hid h
  have Hx := Lib.hid hx
  have Hr := Lib.hid hr
  have HW := Lib.hid (fun W (k : Keeps NoBlock w W) => mx_cells rfl (h.keeps k).om hx)
  have hwt := Lib.hid (waits_calls h hs who)
  rw [hb] at hwt
  have Hb2 := Lib.hid hb2
  clear h hx hr hs hb hb2
  go_enter Try.func12, Try.ntmps12
  go_wp2_with fail
  refine hget.out.mono ?_
  rintro e w1 ⟨rfl, rfl⟩
  go_wp2_with fail
  refine hgec.out.mono ?_
  rintro e w1 ⟨rfl, rfl⟩
  go_wp2_with fail
  refine hwt.out.mono ?_
  rintro e w2 ⟨rfl, k2⟩
  have K2 := Lib.hid k2
  clear k2
  go_wp2_with fail
  refine (is_calls who (HW.out _ K2.out).2.1 (HW.out _ K2.out).2.2).mono ?_
  rintro e w5 ⟨rfl, rfl⟩
  rw [Hb2.out]
  go_wp2_with fail
  refine bodyPost_ret (v := .tuple #[.int .i64 (0), .bool false, .int .i64 5]) ?_ rfl ?_
  · simp [results, Try.results12, go_sem]
  exact ⟨rfl, K2.out⟩

theorem Wait_none {w0 : Base} {w : World} {G m c : Nat} {vm vc vs : Value} {ms : List Mx} {cs : List Rw} {ss : List Sm} {x : Mx} {r : Rw} (who ch : Int) (h : GAt w0 G vm vc vs ms cs ss w) (hs : Short 1000000 ms cs ss) (hx : ms[m]? = some x) (hr : cs[c]? = some r) (hb : waitsG ms cs ss who = false) (hb2 : (x.held && (x.own == who)) = true) (hq : x.q = []) :
    Calls Try.prog 12 #[.pointer (some ⟨G, 0, none⟩), .int .i64 who, .int .i64 c, .int .i64 m, .int .i64 ch] w fun e w' => e = ret3 0 false 0 ∧ ∃ v', GAt w0 G vm vc vs (ms.set m { x with held := false, own := 0 }) (cs.set c { v := v', q := r.q ++ [(who, (m : Int))] }) ss w' := by
  have hql := Lib.hid (hs.2.1 r (List.mem_of_getElem? hr))
  have hml := (List.getElem?_eq_some_iff.1 hx).1
  have hcl := (List.getElem?_eq_some_iff.1 hr).1
  obtain ⟨A, cap, rfl, hA⟩ := own_len h.om
  obtain ⟨M, rfl⟩ := hA (by omega)
  obtain ⟨B, capc, rfl, hB⟩ := own_len h.oc
  obtain ⟨C, rfl⟩ := hB (by omega)
  have hget := Lib.hid (getM_in m (cell_of_block h.head (o := 0) rfl) hml)
  have hgec := Lib.hid (getC_in c (cell_of_block h.head (o := 1) rfl) hcl)
  have H := Lib.hid h
  have Hx := Lib.hid hx
  have Hr := Lib.hid hr
  have HW := Lib.hid (fun W (k : Keeps NoBlock w W) => mx_cells rfl (h.keeps k).om hx)
  have hwt := Lib.hid (waits_calls h hs who)
  rw [hb] at hwt
  have Hb2 := Lib.hid hb2
  have Hq := Lib.hid hq
  clear h hx hr hs hb hb2 hq
  go_enter Try.func12, Try.ntmps12
  go_wp2_with fail
  refine hget.out.mono ?_
  rintro e w1 ⟨rfl, rfl⟩
  go_wp2_with fail
  refine hgec.out.mono ?_
  rintro e w1 ⟨rfl, rfl⟩
  go_wp2_with fail
  refine hwt.out.mono ?_
  rintro e w2 ⟨rfl, k2⟩
  have K2 := Lib.hid k2
  have H2 := Lib.hid (H.out.keeps k2)
  clear k2
  go_wp2_with fail
  refine (is_calls who (HW.out _ K2.out).2.1 (HW.out _ K2.out).2.2).mono ?_
  rintro e w5 ⟨rfl, rfl⟩
  rw [Hb2.out]
  go_wp2_with fail
  obtain ⟨M', ⟨cap', hM'⟩, hlk⟩ := unlock_none ch H2.out Hx.out Hq.out
  cases hM'
  refine hlk.mono ?_
  clear hlk
  rintro e w3 ⟨rfl, h3⟩
  have H3 := Lib.hid h3
  clear h3
  have hrow := H3.out.rc Hr.out
  have hcell := rw_cells rfl H3.out.oc Hr.out
  have hfz := World.ownsRow.frozenAt H3.out.oc c
  have hne : r.v.ownBlock ≠ some C := fun e => absurd (H3.out.env.sep (2, c) (0, 1) _ _ C (show gateE _ _ _ _ cs ss (2, c) = some (rowE r.v r.q) by show (cs[c]?).map _ = _; rw [Hr.out]; rfl) rfl e rfl) (by simp)
  have hadd := Lib.hid (add_calls (who, (m : Int)) hcell hfz hrow hne hql.out)
  clear hrow hcell hfz hne
  go_wp2_with fail
  refine hadd.out.mono ?_
  rintro e w4 ⟨rfl, hp⟩
  have hp2 : RowPost w3 C (c * 1 + 0) r.v (r.q ++ [(who, (m : Int))]) w4 := by rw [Nat.mul_one, Nat.add_zero]; exact hp
  have hfin := Lib.hid (H3.out.rowC Hr.out rfl hp2)
  clear hp hp2
  go_wp2_with fail
  refine bodyPost_ret (v := .tuple #[.int .i64 (0), .bool false, .int .i64 0]) ?_ rfl ?_
  · simp [results, Try.results12, go_sem]
  exact ⟨rfl, hfin.out⟩

theorem Wait_some {w0 : Base} {w : World} {G m c : Nat} {vm vc vs : Value} {ms : List Mx} {cs : List Rw} {ss : List Sm} {x : Mx} {r : Rw} {y : Wt} (who ch : Int) (h : GAt w0 G vm vc vs ms cs ss w) (hs : Short 1000000 ms cs ss) (hx : ms[m]? = some x) (hr : cs[c]? = some r) (hb : waitsG ms cs ss who = false) (hb2 : (x.held && (x.own == who)) = true) (hq : 0 < x.q.length) (hy : x.q[at_ ch x.q.length]? = some y) :
    Calls Try.prog 12 #[.pointer (some ⟨G, 0, none⟩), .int .i64 who, .int .i64 c, .int .i64 m, .int .i64 ch] w fun e w' => e = ret3 y.1 true 0 ∧ ∃ v' v'', GAt w0 G vm vc vs (ms.set m { v := v'', q := x.q.eraseIdx (at_ ch x.q.length), held := true, own := y.1 }) (cs.set c { v := v', q := r.q ++ [(who, (m : Int))] }) ss w' := by
  have hql := Lib.hid (hs.2.1 r (List.mem_of_getElem? hr))
  have hxl := Lib.hid (hs.1 x (List.mem_of_getElem? hx))
  have hml := (List.getElem?_eq_some_iff.1 hx).1
  have hcl := (List.getElem?_eq_some_iff.1 hr).1
  obtain ⟨A, cap, rfl, hA⟩ := own_len h.om
  obtain ⟨M, rfl⟩ := hA (by omega)
  obtain ⟨B, capc, rfl, hB⟩ := own_len h.oc
  obtain ⟨C, rfl⟩ := hB (by omega)
  have hget := Lib.hid (getM_in m (cell_of_block h.head (o := 0) rfl) hml)
  have hgec := Lib.hid (getC_in c (cell_of_block h.head (o := 1) rfl) hcl)
  have H := Lib.hid h
  have Hx := Lib.hid hx
  have Hr := Lib.hid hr
  have HW := Lib.hid (fun W (k : Keeps NoBlock w W) => mx_cells rfl (h.keeps k).om hx)
  have hwt := Lib.hid (waits_calls h hs who)
  rw [hb] at hwt
  have Hb2 := Lib.hid hb2
  have Hq := Lib.hid hq
  have Hy := Lib.hid hy
  clear h hx hr hs hb hb2 hq hy
  go_enter Try.func12, Try.ntmps12
  go_wp2_with fail
  refine hget.out.mono ?_
  rintro e w1 ⟨rfl, rfl⟩
  go_wp2_with fail
  refine hgec.out.mono ?_
  rintro e w1 ⟨rfl, rfl⟩
  go_wp2_with fail
  refine hwt.out.mono ?_
  rintro e w2 ⟨rfl, k2⟩
  have K2 := Lib.hid k2
  have H2 := Lib.hid (H.out.keeps k2)
  clear k2
  go_wp2_with fail
  refine (is_calls who (HW.out _ K2.out).2.1 (HW.out _ K2.out).2.2).mono ?_
  rintro e w5 ⟨rfl, rfl⟩
  rw [Hb2.out]
  go_wp2_with fail
  obtain ⟨M', ⟨cap', hM'⟩, hlk⟩ := unlock_some ch H2.out Hx.out Hq.out Hy.out hxl.out
  cases hM'
  refine hlk.mono ?_
  clear hlk
  obtain ⟨q', hq'⟩ : ∃ q', x.q.eraseIdx (at_ ch x.q.length) = q' := ⟨_, rfl⟩
  rw [hq']
  have Hq' := Lib.hid hq'
  clear hq'
  rintro e w3 ⟨rfl, v'', h3⟩
  have H3 := Lib.hid h3
  clear h3
  have hrow := H3.out.rc Hr.out
  have hcell := rw_cells rfl H3.out.oc Hr.out
  have hfz := World.ownsRow.frozenAt H3.out.oc c
  have hne : r.v.ownBlock ≠ some C := fun e => absurd (H3.out.env.sep (2, c) (0, 1) _ _ C (show gateE _ _ _ _ cs ss (2, c) = some (rowE r.v r.q) by show (cs[c]?).map _ = _; rw [Hr.out]; rfl) rfl e rfl) (by simp)
  have hadd := Lib.hid (add_calls (who, (m : Int)) hcell hfz hrow hne hql.out)
  clear hrow hcell hfz hne
  go_wp2_with fail
  refine hadd.out.mono ?_
  rintro e w4 ⟨rfl, hp⟩
  have hp2 : RowPost w3 C (c * 1 + 0) r.v (r.q ++ [(who, (m : Int))]) w4 := by rw [Nat.mul_one, Nat.add_zero]; exact hp
  have hfin := Lib.hid (H3.out.rowC Hr.out rfl hp2)
  clear hp hp2
  go_wp2_with fail
  refine bodyPost_ret (v := .tuple #[.int .i64 (y.1), .bool true, .int .i64 0]) ?_ rfl ?_
  · simp [results, Try.results12, go_sem]
  obtain ⟨v', hf⟩ := hfin.out
  rw [Hq'.out]
  exact ⟨rfl, v', v'', hf⟩

end Gt
end Go.Proofs.Ytlgolofcpokndaa
