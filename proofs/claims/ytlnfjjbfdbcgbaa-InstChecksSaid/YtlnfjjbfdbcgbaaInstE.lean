/- Package inst: may a program be: the whole check. -/
import Derived.Test.YtlnfjjbfdbcgbaaInstD
namespace Go.Proofs.Ytlnfjjbfdbcgbaa
open Go.RowKit

def soundP (p : Pg) (x : In5) : Bool := soundB p.funcs.length p.mutexes p.conds p.sems.length p.pipes.length x.1 x.2.1 x.2.2.1 x.2.2.2.1 x.2.2.2.2
def allP (p : Pg) (l : List (List In5)) : Bool := l.all (fun f => f.all (soundP p))
def checkI (p : Pg) : Int := if capsB p then (if allP p p.funcs then 0 else 8) else 9

def IntPost (w : World) (n : Int) (e : Ending) (w' : World) : Prop := e = .returned (.int .i64 n) ∧ Keeps NoBlock w w'

theorem sound_at (v : Value) (p : Pg) (x : In5) (w0 w : World) (h : ProgAt w0 v p) (hx : ok5 x) : Calls Try.prog 17 #[v, .agg #[.int .i64 x.1, .int .i64 x.2.1, .int .i64 x.2.2.1, .int .i64 x.2.2.2.1, .int .u64 x.2.2.2.2]] w (BoolPost w (soundP p x)) := by
  obtain ⟨⟨fa, sa, pa, nf, fc, ns, sc, np, pc, fb, fo, sb, so, pb, po, rfl, hF, hS, hP, hb1, hb2, hb3⟩, hM, hC⟩ := h
  have h1 := hF.length
  have h2 := hS.length
  have h3 := hP.length
  unfold soundP
  rw [h1, h2, h3]
  exact sound_calls fa sa pa nf fc ns sc np pc _ _ _ _ _ _ _ _ _ _ w (by omega) (by omega) (by omega) hM hC hx.1 hx.2

def ROk (p : Pg) (l : List (List In5)) : Prop := allP p l = true
theorem allP_snoc {p : Pg} {l : List (List In5)} {k : Nat} {f : List In5} (hk : l[k]? = some f) (h : allP p (l.take k) = true) (hf : f.all (soundP p) = true) : allP p (l.take (k + 1)) = true := by
  unfold allP
  rw [all_snoc l _ k f hk]
  unfold allP at h
  rw [h, hf]; rfl
theorem allP_not {p : Pg} {l : List (List In5)} {k : Nat} {f : List In5} (hk : l[k]? = some f) {j : Nat} {x : In5} (hj : f[j]? = some x) (hx : soundP p x = false) : allP p l = false := by
  unfold allP
  rw [List.all_eq_false]
  refine ⟨f, List.mem_of_getElem? hk, ?_⟩
  rw [Bool.not_eq_true, List.all_eq_false]
  exact ⟨x, List.mem_of_getElem? hj, by rw [hx]; simp⟩

set_option maxRecDepth 100000 in
set_option maxHeartbeats 1000000 in
theorem check_calls (v : Value) (p : Pg) (w : World) (h : ProgAt w v p) : Calls Try.prog 13 #[v] w (IntPost w (checkI p)) := by
  have HA := Lib.hid h
  obtain ⟨⟨fa, sa, pa, nf, fc, ns, sc, np, pc, fb, fo, sb, so, pb, po, rfl, hF, hS, hP, hb1, hb2, hb3⟩, hM, hC⟩ := h
  have HF := Lib.hid hF
  clear hF hS hP hM hC
  obtain ⟨va, hva⟩ : ∃ va : Array Value, va = #[.slice fa nf fc, .int .i64 p.words, .int .i64 p.mutexes, .int .i64 p.conds, .slice sa ns sc, .slice pa np pc, .int .i64 p.blocks, .int .i64 p.prio] := ⟨_, rfl⟩
  go_enter Try.func13, Try.ntmps13
  go_wp2_with fail
  refine (caps_calls _ p _ (HA.out.keeps ((Keeps.refl _ w).alloc _))).mono ?_
  rintro e w1 ⟨rfl, hk1⟩
  have bx : w1.heap[w.heap.size]? = some (.cells va 25 (0, 0)) := by
    rw [hk1.block _ (by simp) (fun h => h), hva]; exact blk_new rfl
  have c0 : w1.cell? ⟨w.heap.size, 0, none⟩ = some (.slice fa nf fc) := cell_of_block bx (by rw [hva]; rfl)
  have hkw : Keeps NoBlock w w1 := ((Keeps.refl _ w).alloc _).trans hk1 (fun _ _ h => h)
  have Hk1 := Lib.hid hk1
  have Bx := Lib.hid bx
  have Hva := Lib.hid hva
  clear hk1 bx hva
  cases hcb : capsB p with
  | false =>
    go_wp2_with fail
    go_ret
    exact ⟨ret_int (by simp [checkI, hcb]), hkw⟩
  | true =>
    have Hcb := Lib.hid hcb
    clear hcb
    go_wp2_with fail
    clear c0
    go_loopw [13] (fun i wr => ∃ k : Nat, k ≤ nf ∧ i = .int .i64 k ∧ Hid (allP p (p.funcs.take k) = true) ∧ Keeps NoBlock w1 wr) (fun i _ => nf - (intOf i).toNat)
    case atStart => exact ⟨0, Nat.zero_le _, rfl, rfl, Keeps.refl _ _⟩
    case round =>
      obtain ⟨k, hk, rfl, hall, hkr⟩ := hrel
      have hs1 := hkr.size
      have hsz := hkw.size
      by_cases hlt : k < nf
      · obtain ⟨l, hl⟩ : ∃ l, p.funcs[k]? = some l := ⟨_, List.getElem?_eq_getElem (by rw [HF.out.length]; exact hlt)⟩
        obtain ⟨a, b', off', c, hcl, hfl, hll⟩ := HF.out.cell k l hl
        have hfb : fb < w.heap.size := World.block_lt_of_cell? w _ hcl
        have hadr := HF.out.addr (by omega)
        subst hadr
        have hcl' : wr.cell? ⟨fb, fo + k, none⟩ = some (.slice a l.length c) := by rw [(hkw.trans hkr (fun _ _ h => h)).cell hfb (fun h => h), hcl]
        have Hl := Lib.hid hl
        have Hfl := Lib.hid hfl
        clear hl hfl hcl
        go_wp2_with fail
        obtain ⟨wo, rfl⟩ : ∃ wo : World, wo = wr := ⟨_, rfl⟩
        go_loopw [19] (fun i wr => ∃ q : Nat, q ≤ l.length ∧ i = .int .i64 q ∧ Hid ((l.take q).all (soundP p) = true) ∧ Keeps NoBlock wo wr) (fun i _ => l.length - (intOf i).toNat)
        case atStart => exact ⟨0, Nat.zero_le _, rfl, rfl, Keeps.refl _ _⟩
        case round =>
          obtain ⟨q, hq, rfl, hal, hkq⟩ := hrel
          have hs2 := hkq.size
          have hk1r : Keeps NoBlock w1 wr := hkr.trans hkq (fun _ _ h => h)
          have hkwr : Keeps NoBlock w wr := hkw.trans hk1r (fun _ _ h => h)
          by_cases hql : q < l.length
          · obtain ⟨x, hx⟩ : ∃ x, l[q]? = some x := ⟨_, List.getElem?_eq_getElem hql⟩
            have fl := Hfl.out.keeps hkwr (fun h => h)
            have hbx : wr.heap[w.heap.size]? = some (.cells va 25 (0, 0)) := by
              rw [hk1r.block _ (lt_of_block Bx.out) (fun h => h)]; exact Bx.out
            have hszb := lt_of_block Bx.out
            have hszr : w.heap.size < wr.heap.size := by omega
            have c0 : wr.cell? ⟨w.heap.size, 0, none⟩ = some (.slice (some ⟨fb, fo, none⟩) nf fc) := cell_of_block (o := 0) hbx (by rw [Hva.out]; rfl)
            have c1 : wr.cell? ⟨w.heap.size, 1, none⟩ = some (.int .i64 p.words) := cell_of_block (o := 1) hbx (by rw [Hva.out]; rfl)
            have c2 : wr.cell? ⟨w.heap.size, 2, none⟩ = some (.int .i64 p.mutexes) := cell_of_block (o := 2) hbx (by rw [Hva.out]; rfl)
            have c3 : wr.cell? ⟨w.heap.size, 3, none⟩ = some (.int .i64 p.conds) := cell_of_block (o := 3) hbx (by rw [Hva.out]; rfl)
            have c4 : wr.cell? ⟨w.heap.size, 4, none⟩ = some (.slice sa ns sc) := cell_of_block (o := 4) hbx (by rw [Hva.out]; rfl)
            have c5 : wr.cell? ⟨w.heap.size, 5, none⟩ = some (.slice pa np pc) := cell_of_block (o := 5) hbx (by rw [Hva.out]; rfl)
            have c6 : wr.cell? ⟨w.heap.size, 6, none⟩ = some (.int .i64 p.blocks) := cell_of_block (o := 6) hbx (by rw [Hva.out]; rfl)
            have c7 : wr.cell? ⟨w.heap.size, 7, none⟩ = some (.int .i64 p.prio) := cell_of_block (o := 7) hbx (by rw [Hva.out]; rfl)
            have f0 := fl.cell q x 0 _ hx rfl
            have f1 := fl.cell q x 1 _ hx rfl
            have f2 := fl.cell q x 2 _ hx rfl
            have f3 := fl.cell q x 3 _ hx rfl
            have f4 := fl.cell q x 4 _ hx rfl
            rw [Nat.add_zero] at f0
            have hb'' : b' < wr.heap.size := World.block_lt_of_cell? wr _ f0
            have hadr := fl.addr (by omega)
            subst hadr
            have hxo := fl.ok x (List.mem_of_getElem? hx)
            have Hx := Lib.hid hx
            have Hxo := Lib.hid hxo
            have Hbx := Lib.hid hbx
            have Hfl2 := Lib.hid fl
            clear hx hxo hbx fl
            go_wp2_with fail
            refine (sound_at _ p x w _ HA.out Hxo.out).mono ?_
            rintro e w5 ⟨rfl, hk5⟩
            have hk6 := (hkq.alloc _).trans hk5 (fun _ _ h => h)
            have Hk5 := Lib.hid hk5
            clear hk5
            cases hso : soundP p x with
            | false =>
              have Hso := Lib.hid hso
              clear hso
              go_wp2_with fail
              go_ret
              exact ⟨ret_int (by unfold checkI; rw [Hcb.out, allP_not Hl.out Hx.out Hso.out]; rfl), (hkw.trans hkr (fun _ _ h => h)).trans hk6 (fun _ _ h => h)⟩
            | true =>
              have hn : Hid ((l.take (q + 1)).all (soundP p) = true) := by
                unfold Hid
                rw [all_snoc l _ q x Hx.out, hal.out, hso]; rfl
              clear hso
              go_wp2_with fail
              exact ⟨⟨q + 1, by omega, by go_num, hn, hk6⟩, by simp [intOf]; omega⟩
          · obtain rfl : q = l.length := by omega
            have hal2 : l.all (soundP p) = true := by rw [← hal.out, List.take_of_length_le (Nat.le_refl _)]
            have hn : Hid (allP p (p.funcs.take (k + 1)) = true) := allP_snoc Hl.out hall.out hal2
            clear hal2
            go_wp2_with fail
            exact ⟨⟨k + 1, by omega, by go_num, hn, hk1r⟩, by simp [intOf]; omega⟩
      · obtain rfl : k = nf := by omega
        have hlen := HF.out.length
        have hfin : Hid (allP p p.funcs = true) := by
          have := hall.out
          rw [List.take_of_length_le (by omega)] at this
          exact this
        clear hlen
        go_wp2_with fail
        go_ret
        exact ⟨ret_int (by unfold checkI; rw [Hcb.out, hfin.out]; rfl), hkw.trans hkr (fun _ _ h => h)⟩
end Go.Proofs.Ytlnfjjbfdbcgbaa
