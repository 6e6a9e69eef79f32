/- The statement InstParts: its plain law and its walk. -/
import Derived.Test.YtlnfjjbfdbcgbaaInstA
import Derived.Test.YtlnfjjbfdbcgbaaInstO
import Derived.RegionTactic
namespace Go.Proofs.Ytlnfjjbfdbcgbaa
open Go.RowKit

/-- A program with one of its functions alone. -/
def part (p : Pg) (k : Nat) (l : List In5) : Pg := { p with funcs := (List.replicate p.funcs.length []).set k l }
/-- A program with more of everything. -/
def moreOf (p : Pg) : Pg := { p with mutexes := 4, conds := 4, sems := [1, 1, 1, 1], pipes := [1, 1, 1, 1] }

theorem part_sound (p : Pg) (k : Nat) (l : List In5) : soundP (part p k l) = soundP p := by
  funext x
  unfold soundP part
  simp

theorem part_check {p : Pg} {k : Nat} {l : List In5} (hk : p.funcs[k]? = some l) (hc : capsB p = true) : checkI (part p k l) = if l.all (soundP p) then 0 else 8 := by
  have hlt : k < p.funcs.length := (List.getElem?_eq_some_iff.1 hk).1
  have h1 : capsB (part p k l) = true := by
    unfold capsB at hc ⊢
    simp only [Bool.and_eq_true] at hc ⊢
    obtain ⟨⟨⟨h1, h2⟩, h3⟩, h4⟩ := hc
    refine ⟨⟨⟨by simpa [part] using h1, ?_⟩, h3⟩, h4⟩
    rw [List.all_eq_true]
    intro y hy
    rcases List.mem_or_eq_of_mem_set hy with h | h
    · rw [List.eq_of_mem_replicate h]; rfl
    · rw [h]; exact List.all_eq_true.1 h2 l (List.mem_of_getElem? hk)
  unfold checkI
  rw [h1]
  have h2 : allP (part p k l) (part p k l).funcs = l.all (soundP p) := by
    unfold allP
    rw [part_sound, Bool.eq_iff_iff, List.all_eq_true]
    constructor
    · intro h
      exact h l (List.mem_iff_getElem?.2 ⟨k, by simp [part, hlt]⟩)
    · intro h y hy
      rcases List.mem_or_eq_of_mem_set hy with g | g
      · rw [List.eq_of_mem_replicate g]; rfl
      · rw [g]; exact h
  rw [h2]
  rfl

theorem below_eq' {m n : Int} (h : 0 ≤ m) : belowB m false n = (decide (0 < m) && decide (n < m)) := by
  unfold belowB
  rw [if_neg (by omega)]
  rfl

theorem below_more {m m' n : Int} (h : 0 ≤ m) (h' : m ≤ m') (hb : belowB m false n = true) : belowB m' false n = true := by
  rw [below_eq' h] at hb
  rw [below_eq' (by omega)]
  simp at hb ⊢
  omega

/-- The same form, but with as much or more. -/
def Wide (f g : Int × Bool × Int × Bool) : Prop := g.1 = f.1 ∧ g.2.1 = f.2.1 ∧ g.2.2.2 = f.2.2.2 ∧ (g.2.2.1 = f.2.2.1 ∨ (f.2.2.2 = false ∧ 0 ≤ f.2.2.1 ∧ f.2.2.1 ≤ g.2.2.1))
theorem ite_rel {α : Type} (R : α → α → Prop) {c : Prop} [Decidable c] {a a' b b' : α} (h1 : R a a') (h2 : R b b') : R (if c then a else b) (if c then a' else b') := by split <;> assumption
theorem wide_refl (f : Int × Bool × Int × Bool) : Wide f f := ⟨rfl, rfl, rfl, .inl rfl⟩
theorem wide_n {r : Int} {m : Bool} {x y : Int} (h : 0 ≤ x) (h' : x ≤ y) : Wide (r, m, x, false) (r, m, y, false) := ⟨rfl, rfl, rfl, .inr ⟨rfl, h, h'⟩⟩

theorem ofs_wide {nf M C ns np : Int} (op : Int) (h1 : 0 ≤ M ∧ M ≤ 4) (h2 : 0 ≤ C ∧ C ≤ 4) (h3 : 0 ≤ ns ∧ ns ≤ 4) (h4 : 0 ≤ np ∧ np ≤ 4) : Wide (ofs nf M C ns np op) (ofs nf 4 4 4 4 op) := by
  unfold ofs
  repeat' (first | exact wide_refl _ | exact wide_n (by omega) (by omega) | apply ite_rel Wide)

theorem soundF_wide {f g : Int × Bool × Int × Bool} {M M' a b c n : Int} (hw : Wide f g) (hM : M ≤ M') (h : soundF f M a b c n = true) : soundF g M' a b c n = true := by
  obtain ⟨r, m, x, any⟩ := f
  obtain ⟨r', m', x', any'⟩ := g
  obtain ⟨e1, e2, e3, e4⟩ := hw
  simp only [] at e1 e2 e3 e4
  subst e1 e2 e3
  unfold soundF at h ⊢
  simp only [Bool.and_eq_true] at h ⊢
  obtain ⟨⟨⟨g1, g2⟩, g3⟩, g4⟩ := h
  refine ⟨⟨⟨g1, g2⟩, ?_⟩, ?_⟩
  · split at g3
    · rename_i hm
      rw [if_pos hm]
      simp at g3 ⊢
      omega
    · rename_i hm
      rw [if_neg hm]
      exact g3
  · rcases e4 with rfl | ⟨rfl, h0, h1⟩
    · exact g4
    · exact below_more h0 h1 g4

theorem more_sound {p : Pg} {x : In5} (hc : capsB p = true) (h : soundP p x = true) : soundP (moreOf p) x = true := by
  have hb : (0 ≤ p.mutexes ∧ p.mutexes ≤ 4) ∧ (0 ≤ p.conds ∧ p.conds ≤ 4) ∧ p.sems.length ≤ 4 ∧ p.pipes.length ≤ 4 := by
    unfold capsB capsH wiB at hc
    simp at hc
    omega
  unfold soundP soundB at h ⊢
  rw [Bool.and_eq_true] at h ⊢
  refine ⟨h.1, ?_⟩
  exact soundF_wide (ofs_wide x.1 hb.1 hb.2.1 (by omega) (by omega)) (by simp only [moreOf]; omega) h.2

/-- What the loop counts up: whether the parts so far may be. -/
def partsTo (p : Pg) (k : Nat) : Bool := (p.funcs.take k).all (fun l => l.all (soundP p))

theorem elFuncs : Elem Try.prog 22 35 (.slice none 0 0) 1 24 := .mk' Try.underlying22 (by kernel_rfl) rfl (by decide)

theorem blk_ne' {w : World} {b b' o : Nat} {v : Value} (h : b ≠ b') : (w.setCell ⟨b', o, none⟩ v).heap[b]? = w.heap[b]? := block_set_ne (p := ⟨b', o, none⟩) h v
theorem ones_at {w : World} {g : Nat} {e : TypeId} (h : w.heap[g]? = some (.cells #[.int .i64 1, .int .i64 1, .int .i64 1, .int .i64 1] e (0, 0))) : IntsAt .i64 w (some ⟨g, 0, none⟩) g 0 4 [1, 1, 1, 1] :=
  ⟨fun _ => rfl, fun j hj => by
    refine cell_of_block (o := 0 + j) h ?_
    match j, hj with
    | 0, _ => rfl
    | 1, _ => rfl
    | 2, _ => rfl
    | 3, _ => rfl, fun j hj => by
    match j, hj with
    | 0, _ => rfl
    | 1, _ => rfl
    | 2, _ => rfl
    | 3, _ => rfl, rfl⟩
def PYes (w : World) (e : Ending) (w' : World) : Prop := e = .returned (.bool true) ∧ Below w.heap.size w w'
theorem pyes_of {w w' : World} {b : Bool} (hb : b = true) (hk : Keeps NoBlock w w') : PYes w (.returned (.bool b)) w' := ⟨by rw [hb], hk.below (Nat.le_refl _) (fun _ h => h.elim)⟩

set_option maxRecDepth 100000 in
set_option maxHeartbeats 1000000 in
theorem parts_any (w : World) (v : Value) (p : Pg) (h : ProgAt w v p) (x : In5) (hx : ok5 x) : Calls Try.prog 5 #[v, .agg #[.int .i64 x.1, .int .i64 x.2.1, .int .i64 x.2.2.1, .int .i64 x.2.2.2.1, .int .u64 x.2.2.2.2]] w (PYes w) := by
  have HA := Lib.hid h
  obtain ⟨⟨fa, sa, pa, nf, fc, ns, sc, np, pc, fb, fo, sb, so, pb, po, rfl, hF, hS, hP, hb1, hb2, hb3⟩, hM, hC⟩ := h
  obtain ⟨funcs, W, M, C, sems, pipes, B, R⟩ := p
  obtain ⟨op, xa, xb, xc, xn⟩ := x
  simp only [] at HA hF hS hP ⊢
  have Hx := Lib.hid hx
  have HF := Lib.hid hF
  have HS := Lib.hid hS
  have HP := Lib.hid hP
  clear hx hF hS hP hM hC
  obtain ⟨ci, hci⟩ : ∃ ci, Hid (ci = checkI ⟨funcs, W, M, C, sems, pipes, B, R⟩) := ⟨_, rfl⟩
  have hc3 : (ci = 9) ∨ (ci = 0 ∨ ci = 8) := by
    rw [hci.out]; unfold checkI
    split
    · split
      · exact .inr (.inl rfl)
      · exact .inr (.inr rfl)
    · exact .inl rfl
  go_enter Try.func5, Try.ntmps5
  go_wp2_with fail
  generalize hW : World.alloc _ (Obj.cells #[.int .i64 op, .int .i64 xa, .int .i64 xb, .int .i64 xc, .int .u64 xn] 34) = w0
  have hk0 : Keeps NoBlock w w0 := by rw [← hW]; exact ((Keeps.refl _ w).alloc _).alloc _
  have q0 : w0.heap[w.heap.size]? = some (.cells #[.slice fa nf fc, .int .i64 W, .int .i64 M, .int .i64 C, .slice sa ns sc, .slice pa np pc, .int .i64 B, .int .i64 R] 25 (0, 0)) := by rw [← hW]; exact block_alloc_old (blk_new rfl)
  have q1 : w0.heap[w.heap.size + 1]? = some (.cells #[.int .i64 op, .int .i64 xa, .int .i64 xb, .int .i64 xc, .int .u64 xn] 34 (0, 0)) := by rw [← hW]; exact blk_new (by simp)
  clear hW
  have Q0 := Lib.hid q0
  have Q1 := Lib.hid q1
  clear q0 q1
  refine (check_calls _ _ _ (HA.out.keeps hk0)).mono ?_
  rintro e w1 ⟨rfl, hk1⟩
  rw [← hci.out]
  have hk01 := hk0.trans hk1 (fun _ _ h => h)
  rcases hc3 with rfl | hc3
  · go_wp2_with fail
    refine (awake_calls _).mono ?_
    rintro e w2 ⟨rfl, hk2⟩
    go_wp2_with fail
    go_ret
    exact pyes_of rfl (hk01.trans hk2 (fun _ _ h => h))
  · have hn9 : (ci == 9) = false := by rcases hc3 with rfl | rfl <;> rfl
    have hcaps : Hid (capsB ⟨funcs, W, M, C, sems, pipes, B, R⟩ = true) := by
      have h := hci.out
      unfold Hid
      cases hcb : capsB ⟨funcs, W, M, C, sems, pipes, B, R⟩ with
      | true => rfl
      | false =>
        unfold checkI at h
        rw [hcb] at h
        rcases hc3 with h1 | h1 <;> rw [h1] at h <;> simp at h
    have hc0 : Hid (decide (ci = 0) = allP ⟨funcs, W, M, C, sems, pipes, B, R⟩ funcs) := by
      have h := hci.out
      unfold checkI at h
      rw [hcaps.out] at h
      unfold Hid
      cases hap : allP ⟨funcs, W, M, C, sems, pipes, B, R⟩ funcs with
      | true => simp [hap] at h; simp [h]
      | false => simp [hap] at h; simp [h]
    have hnf8 : nf ≤ 8 := by
      have h := hcaps.out
      unfold capsB capsH at h
      simp at h
      have := HF.out.length
      omega
    have Hc3 := Lib.hid hc3
    clear hc3
    have q0 := (hk1.block _ (lt_of_block Q0.out) (fun h => h)).trans Q0.out
    have cf : w1.cell? ⟨w.heap.size, 0, none⟩ = some (.slice fa nf fc) := cell_of_block (o := 0) q0 rfl
    have R0 := Lib.hid q0
    clear q0
    go_wp2_with fail
    clear cf
    go_loopw [5, 6] (fun v i wr => ∃ k : Nat, k ≤ nf ∧ i = .int .i64 k ∧ v = .bool (partsTo ⟨funcs, W, M, C, sems, pipes, B, R⟩ k) ∧ Keeps NoBlock w1 wr) (fun _ i _ => nf - (intOf i).toNat)
    case atStart => exact ⟨0, Nat.zero_le _, rfl, rfl, Keeps.refl _ _⟩
    case round =>
      obtain ⟨k, hk, rfl, rfl, hkr⟩ := hrel
      obtain ⟨all, hall⟩ : ∃ b, Hid (b = partsTo ⟨funcs, W, M, C, sems, pipes, B, R⟩ k) := ⟨_, rfl⟩
      rw [← hall.out]
      have q0 := (hkr.block _ (lt_of_block R0.out) (fun h => h)).trans R0.out
      have lq := lt_of_block q0
      have p0 : wr.cell? ⟨w.heap.size, 0, none⟩ = some (.slice fa nf fc) := cell_of_block (o := 0) q0 rfl
      have p1 : wr.cell? ⟨w.heap.size, 1, none⟩ = some (.int .i64 W) := cell_of_block (o := 1) q0 rfl
      have p2 : wr.cell? ⟨w.heap.size, 2, none⟩ = some (.int .i64 M) := cell_of_block (o := 2) q0 rfl
      have p3 : wr.cell? ⟨w.heap.size, 3, none⟩ = some (.int .i64 C) := cell_of_block (o := 3) q0 rfl
      have p4 : wr.cell? ⟨w.heap.size, 4, none⟩ = some (.slice sa ns sc) := cell_of_block (o := 4) q0 rfl
      have p5 : wr.cell? ⟨w.heap.size, 5, none⟩ = some (.slice pa np pc) := cell_of_block (o := 5) q0 rfl
      have p6 : wr.cell? ⟨w.heap.size, 6, none⟩ = some (.int .i64 B) := cell_of_block (o := 6) q0 rfl
      have p7 : wr.cell? ⟨w.heap.size, 7, none⟩ = some (.int .i64 R) := cell_of_block (o := 7) q0 rfl
      have S0 := Lib.hid q0
      clear q0
      by_cases hlt : k < nf
      · obtain ⟨l, hl⟩ : ∃ l, funcs[k]? = some l := ⟨_, List.getElem?_eq_getElem (by rw [HF.out.length]; exact hlt)⟩
        obtain ⟨a, b', off', c, hcl, hfl, hll⟩ := HF.out.cell k l hl
        have hfb : fb < w.heap.size := World.block_lt_of_cell? w _ hcl
        have hkwr : Keeps NoBlock w wr := hk01.trans hkr (fun _ _ h => h)
        have hcl' : wr.cell? ⟨fb, fo + k, none⟩ = some (.slice a l.length c) := hkwr.cell hfb (fun h => h) ▸ hcl
        have hadr := HF.out.addr (by omega)
        subst hadr
        have hsw := hkwr.size
        have Hl := Lib.hid hl
        have Hfl := Lib.hid hfl
        clear hl hfl hcl
        have hmk : ∀ w, (Instr.makeSlice 22 (.int .i64 (nf : Int)) (.int .i64 (nf : Int))).run Try.prog w = .ok (.slice (some ⟨w.heap.size, 0, none⟩) nf nf) (w.alloc (.cells (madeCells (Value.slice none 0 0).cells (nf * 1)) 35)) := run_mk elFuncs nf (by omega) (by decide)
        rw [Nat.mul_one] at hmk
        go_upto_region 9 with fail
        generalize hW : World.alloc _ (Obj.cells (madeCells #[Value.slice none 0 0] nf) 35) = wz
        have hkz : Keeps NoBlock wr wz := by rw [← hW]; exact ((Keeps.refl _ wr).alloc _).alloc _
        have g7 : wz.heap[wr.heap.size]? = some (.cells #[.slice (some ⟨wr.heap.size + 1, 0, none⟩) nf nf, .int .i64 W, .int .i64 M, .int .i64 C, .slice sa ns sc, .slice pa np pc, .int .i64 B, .int .i64 R] 25 (0, 0)) := by rw [← hW]; exact block_alloc_old (blk_new rfl)
        have g8 : wz.heap[wr.heap.size + 1]? = some (.cells (madeCells #[Value.slice none 0 0] nf) 35 (0, 0)) := by rw [← hW]; exact blk_new (by simp)
        clear hW
        have e1 : wz.cell? ⟨wr.heap.size, 0, none⟩ = some (.slice (some ⟨wr.heap.size + 1, 0, none⟩) nf nf) := cell_of_block (o := 0) g7 rfl
        have e2 : wz.cell? ⟨w.heap.size, 0, none⟩ = some (.slice (some ⟨fb, fo, none⟩) nf fc) := by rw [hkz.cell lq (fun h => h)]; exact p0
        have e3 : wz.cell? ⟨fb, fo + k, none⟩ = some (.slice a l.length c) := by rw [hkz.cell (by omega) (fun h => h)]; exact hcl'
        have e4 : wz.cell? ⟨wr.heap.size + 1, k, none⟩ = some (.slice none 0 0) := cell_of_block (o := k) g8 (by rw [← Array.getElem?_toList, toList_madeCells_one]; simp [hlt])
        have e5 : wz.frozen? ⟨wr.heap.size + 1, k, none⟩ = false := frozen_of_block g8
        have G7 := Lib.hid g7
        have G8 := Lib.hid g8
        have Hcl2 := Lib.hid hcl'
        clear g7 g8 hmk p0 p1 p2 p3 p4 p5 p6 p7 hcl'
        have hk0' : (0 : Int) ≤ k := by omega
        have hkn : (k : Int) < nf := by omega
        go_region
        generalize hW : World.drew (World.setCell wz ⟨wr.heap.size + 1, k, none⟩ (.slice a l.length c)) = wy
        have hsz := hkz.size
        have hky : Keeps NoBlock wr wy := by rw [← hW]; exact (hkz.setCell (.inr (by simp only []; omega)) _).drew
        have hkwy : Keeps NoBlock w wy := hkwr.trans hky (fun _ _ h => h)
        have g7 : wy.heap[wr.heap.size]? = some (.cells #[.slice (some ⟨wr.heap.size + 1, 0, none⟩) nf nf, .int .i64 W, .int .i64 M, .int .i64 C, .slice sa ns sc, .slice pa np pc, .int .i64 B, .int .i64 R] 25 (0, 0)) := by rw [← hW]; exact (blk_ne' (by omega)).trans G7.out
        have g8 : wy.heap[wr.heap.size + 1]? = some (.cells ((madeCells #[Value.slice none 0 0] nf).setIfInBounds k (.slice a l.length c)) 35 (0, 0)) := by rw [← hW]; exact block_set G8.out _
        clear hW e1 e2 e3 e4 e5
        have hprog : Hid (ProgAt wy (.agg #[.slice (some ⟨wr.heap.size + 1, 0, none⟩) nf nf, .int .i64 W, .int .i64 M, .int .i64 C, .slice sa ns sc, .slice pa np pc, .int .i64 B, .int .i64 R]) (part ⟨funcs, W, M, C, sems, pipes, B, R⟩ k l)) := by
          obtain ⟨_, hM, hC⟩ := HA.out
          refine ⟨⟨_, _, _, _, _, _, _, _, _, wr.heap.size + 1, 0, sb, so, pb, po, rfl, ⟨fun _ => rfl, ?_, ?_⟩, HS.out.keeps hkwy (fun h => h), HP.out.keeps hkwy (fun h => h), hb1, hb2, hb3⟩, hM, hC⟩
          · intro j y hj
            have hjn : j < nf := by
              have := (List.getElem?_eq_some_iff.1 hj).1
              have h2 := HF.out.length
              simp [part] at this
              omega
            by_cases hjk : j = k
            · subst hjk
              have hy : y = l := by
                simp only [part] at hj
                rw [List.getElem?_set_self (by rw [List.length_replicate, HF.out.length]; exact hjn)] at hj
                exact (Option.some.inj hj).symm
              subst hy
              refine ⟨a, b', off', c, cell_of_block (o := 0 + j) g8 ?_, Hfl.out.keeps hkwy (fun h => h), hll⟩
              rw [Nat.zero_add, ← Array.getElem?_toList, Array.toList_setIfInBounds, toList_madeCells_one, List.getElem?_set_self (by simpa using hjn)]
            · have hy : y = [] := by
                simp only [part] at hj
                rw [List.getElem?_set_ne (by omega), List.getElem?_replicate] at hj
                split at hj
                · exact (Option.some.inj hj).symm
                · cases hj
              subst hy
              refine ⟨none, 0, 0, 0, cell_of_block (o := 0 + j) g8 ?_, ⟨fun h => by simp at h, fun j x i v hj => by simp at hj, fun x hx => by simp at hx, rfl⟩, by simp⟩
              rw [Nat.zero_add, ← Array.getElem?_toList, Array.toList_setIfInBounds, toList_madeCells_one, List.getElem?_set_ne (by omega)]
              simp [hjn]
          · simp [part, HF.out.length]
        have hstep : Hid (partsTo ⟨funcs, W, M, C, sems, pipes, B, R⟩ (k + 1) = (all && l.all (soundP ⟨funcs, W, M, C, sems, pipes, B, R⟩))) := by
          unfold Hid
          rw [hall.out]
          exact all_snoc funcs _ k l Hl.out
        cases all with
        | false =>
          go_wp2_with fail
          exact ⟨⟨k + 1, by omega, by go_num, by rw [hstep.out]; rfl, hkr.trans hky (fun _ _ h => h)⟩, by simp [intOf]; omega⟩
        | true =>
          have e0 : wy.cell? ⟨wr.heap.size, 0, none⟩ = some (.slice (some ⟨wr.heap.size + 1, 0, none⟩) nf nf) := cell_of_block (o := 0) g7 rfl
          have e1 : wy.cell? ⟨wr.heap.size, 1, none⟩ = some (.int .i64 W) := cell_of_block (o := 1) g7 rfl
          have e2 : wy.cell? ⟨wr.heap.size, 2, none⟩ = some (.int .i64 M) := cell_of_block (o := 2) g7 rfl
          have e3 : wy.cell? ⟨wr.heap.size, 3, none⟩ = some (.int .i64 C) := cell_of_block (o := 3) g7 rfl
          have e4 : wy.cell? ⟨wr.heap.size, 4, none⟩ = some (.slice sa ns sc) := cell_of_block (o := 4) g7 rfl
          have e5 : wy.cell? ⟨wr.heap.size, 5, none⟩ = some (.slice pa np pc) := cell_of_block (o := 5) g7 rfl
          have e6 : wy.cell? ⟨wr.heap.size, 6, none⟩ = some (.int .i64 B) := cell_of_block (o := 6) g7 rfl
          have e7 : wy.cell? ⟨wr.heap.size, 7, none⟩ = some (.int .i64 R) := cell_of_block (o := 7) g7 rfl
          have H7 := Lib.hid g7
          clear g7 g8
          go_wp2_with fail
          refine (check_calls _ _ wy hprog.out).mono ?_
          rintro e w5 ⟨rfl, hk5⟩
          have hpc : Hid (checkI (part ⟨funcs, W, M, C, sems, pipes, B, R⟩ k l) = if l.all (soundP ⟨funcs, W, M, C, sems, pipes, B, R⟩) then 0 else 8) := part_check Hl.out hcaps.out
          rw [hpc.out]
          have hkr5 := (hkr.trans hky (fun _ _ h => h)).trans hk5 (fun _ _ h => h)
          cases hla : l.all (soundP ⟨funcs, W, M, C, sems, pipes, B, R⟩)
          all_goals
            have Hla := Lib.hid hla
            clear hla
            go_wp2_with fail
            exact ⟨⟨k + 1, by omega, by go_num, by rw [hstep.out, Hla.out]; rfl, hkr5⟩, by simp [intOf]; omega⟩
      · obtain rfl : k = nf := by omega
        have hfin : Hid (all = decide (ci = 0)) := by
          unfold Hid
          rw [hall.out, hc0.out]
          unfold partsTo allP
          rw [List.take_of_length_le (by have := HF.out.length; simp only []; omega)]
        have hkwr : Keeps NoBlock w wr := hk01.trans hkr (fun _ _ h => h)
        have q1 := (hk1.block _ (lt_of_block Q1.out) (fun h => h)).trans Q1.out
        have q1' := (hkr.block _ (lt_of_block q1) (fun h => h)).trans q1
        have T1 := Lib.hid q1'
        have lq1 := lt_of_block q1'
        clear q1 q1'
        go_upto_region 13 with fail
        generalize hW : World.alloc _ (Obj.cells #[.int .i64 1, .int .i64 1, .int .i64 1, .int .i64 1] 3) = w3
        have hk3 : Keeps NoBlock wr w3 := by rw [← hW]; exact (((Keeps.refl _ wr).alloc _).alloc _).alloc _
        have g0 : w3.heap[wr.heap.size]? = some (.cells #[.slice fa k fc, .int .i64 W, .int .i64 4, .int .i64 4, .slice (some ⟨wr.heap.size + 1, 0, none⟩) 4 4, .slice (some ⟨wr.heap.size + 1 + 1, 0, none⟩) 4 4, .int .i64 B, .int .i64 R] 25 (0, 0)) := by rw [← hW]; exact block_alloc_old (block_alloc_old (blk_new rfl))
        have g1 : w3.heap[wr.heap.size + 1]? = some (.cells #[.int .i64 1, .int .i64 1, .int .i64 1, .int .i64 1] 3 (0, 0)) := by rw [← hW]; exact block_alloc_old (blk_new (by simp))
        have g2 : w3.heap[wr.heap.size + 1 + 1]? = some (.cells #[.int .i64 1, .int .i64 1, .int .i64 1, .int .i64 1] 3 (0, 0)) := by rw [← hW]; exact blk_new (by simp)
        clear hW p0 p1 p2 p3 p4 p5 p6 p7
        have hmore : Hid (ProgAt w3 (.agg #[.slice fa k fc, .int .i64 W, .int .i64 4, .int .i64 4, .slice (some ⟨wr.heap.size + 1, 0, none⟩) 4 4, .slice (some ⟨wr.heap.size + 1 + 1, 0, none⟩) 4 4, .int .i64 B, .int .i64 R]) (moreOf ⟨funcs, W, M, C, sems, pipes, B, R⟩)) :=
          ⟨⟨_, _, _, _, _, _, _, _, _, fb, fo, wr.heap.size + 1, 0, wr.heap.size + 1 + 1, 0, rfl, HF.out.keeps (hkwr.trans hk3 (fun _ _ h => h)), ones_at g1, ones_at g2, by omega, by omega, by omega⟩, by show (4 : Int) < _; decide, by show (4 : Int) < _; decide⟩
        have M0 := Lib.hid g0
        clear g0 g1 g2
        have hk03 := hkwr.trans hk3 (fun _ _ h => h)
        go_wp2_with fail
        refine (awake_calls _).mono ?_
        rintro e w4 ⟨rfl, hk4⟩
        have hk34 := hk3.trans hk4 (fun _ _ h => h)
        have hk04 := hkwr.trans hk34 (fun _ _ h => h)
        have q0 := (hk34.block _ (lt_of_block S0.out) (fun h => h)).trans S0.out
        have p0 : w4.cell? ⟨w.heap.size, 0, none⟩ = some (.slice fa k fc) := cell_of_block (o := 0) q0 rfl
        have p1 : w4.cell? ⟨w.heap.size, 1, none⟩ = some (.int .i64 W) := cell_of_block (o := 1) q0 rfl
        have p2 : w4.cell? ⟨w.heap.size, 2, none⟩ = some (.int .i64 M) := cell_of_block (o := 2) q0 rfl
        have p3 : w4.cell? ⟨w.heap.size, 3, none⟩ = some (.int .i64 C) := cell_of_block (o := 3) q0 rfl
        have p4 : w4.cell? ⟨w.heap.size, 4, none⟩ = some (.slice sa ns sc) := cell_of_block (o := 4) q0 rfl
        have p5 : w4.cell? ⟨w.heap.size, 5, none⟩ = some (.slice pa np pc) := cell_of_block (o := 5) q0 rfl
        have p6 : w4.cell? ⟨w.heap.size, 6, none⟩ = some (.int .i64 B) := cell_of_block (o := 6) q0 rfl
        have p7 : w4.cell? ⟨w.heap.size, 7, none⟩ = some (.int .i64 R) := cell_of_block (o := 7) q0 rfl
        clear q0
        go_wp2_with fail
        refine (check_calls _ _ w4 (HA.out.keeps hk04)).mono ?_
        rintro e w5 ⟨rfl, hk5⟩
        rw [← hci.out]
        have hk35 := hk34.trans hk5 (fun _ _ h => h)
        have hk05 := hkwr.trans hk35 (fun _ _ h => h)
        clear p0 p1 p2 p3 p4 p5 p6 p7
        have q0 := (hk35.block _ (lt_of_block S0.out) (fun h => h)).trans S0.out
        have q1 := (hk35.block _ (lt_of_block T1.out) (fun h => h)).trans T1.out
        have p0 : w5.cell? ⟨w.heap.size, 0, none⟩ = some (.slice fa k fc) := cell_of_block (o := 0) q0 rfl
        have p1 : w5.cell? ⟨w.heap.size, 1, none⟩ = some (.int .i64 W) := cell_of_block (o := 1) q0 rfl
        have p2 : w5.cell? ⟨w.heap.size, 2, none⟩ = some (.int .i64 M) := cell_of_block (o := 2) q0 rfl
        have p3 : w5.cell? ⟨w.heap.size, 3, none⟩ = some (.int .i64 C) := cell_of_block (o := 3) q0 rfl
        have p4 : w5.cell? ⟨w.heap.size, 4, none⟩ = some (.slice sa ns sc) := cell_of_block (o := 4) q0 rfl
        have p5 : w5.cell? ⟨w.heap.size, 5, none⟩ = some (.slice pa np pc) := cell_of_block (o := 5) q0 rfl
        have p6 : w5.cell? ⟨w.heap.size, 6, none⟩ = some (.int .i64 B) := cell_of_block (o := 6) q0 rfl
        have p7 : w5.cell? ⟨w.heap.size, 7, none⟩ = some (.int .i64 R) := cell_of_block (o := 7) q0 rfl
        have i0 : w5.cell? ⟨w.heap.size + 1, 0, none⟩ = some (.int .i64 op) := cell_of_block (o := 0) q1 rfl
        have i1 : w5.cell? ⟨w.heap.size + 1, 1, none⟩ = some (.int .i64 xa) := cell_of_block (o := 1) q1 rfl
        have i2 : w5.cell? ⟨w.heap.size + 1, 2, none⟩ = some (.int .i64 xb) := cell_of_block (o := 2) q1 rfl
        have i3 : w5.cell? ⟨w.heap.size + 1, 3, none⟩ = some (.int .i64 xc) := cell_of_block (o := 3) q1 rfl
        have i4 : w5.cell? ⟨w.heap.size + 1, 4, none⟩ = some (.int .u64 xn) := cell_of_block (o := 4) q1 rfl
        have T5 := Lib.hid q1
        clear q0 q1
        have hall0 : (ci = 0 ∧ all = true) ∨ (ci = 8 ∧ all = false) := by
          rcases Hc3.out with h | h
          · exact .inl ⟨h, by rw [hfin.out, h]; rfl⟩
          · exact .inr ⟨h, by rw [hfin.out, h]; rfl⟩
        clear hci hc0 hfin hall
        rcases hall0 with ⟨rfl, rfl⟩ | ⟨rfl, rfl⟩
        all_goals
          go_wp2_with fail
          refine (sound_at _ _ (op, xa, xb, xc, xn) w _ HA.out Hx.out).mono ?_
          rintro e w6 ⟨rfl, hk6⟩
          have hk06 := hk05.trans hk6 (fun _ _ h => h)
          clear p0 p1 p2 p3 p4 p5 p6 p7 i0 i1 i2 i3 i4
          cases hso : soundP ⟨funcs, W, M, C, sems, pipes, B, R⟩ (op, xa, xb, xc, xn) with
          | false =>
            go_wp2_with fail
            go_ret
            exact pyes_of rfl hk06
          | true =>
            have hmo : Hid (soundP (moreOf ⟨funcs, W, M, C, sems, pipes, B, R⟩) (op, xa, xb, xc, xn) = true) := more_sound hcaps.out hso
            clear hso
            have hk46 := hk4.trans (hk5.trans hk6 (fun _ _ h => h)) (fun _ _ h => h)
            have q0 := (hk46.block _ (lt_of_block M0.out) (fun h => h)).trans M0.out
            have q1 := (hk6.block _ (lt_of_block T5.out) (fun h => h)).trans T5.out
            have m0 : w6.cell? ⟨wr.heap.size, 0, none⟩ = some (.slice fa k fc) := cell_of_block (o := 0) q0 rfl
            have m1 : w6.cell? ⟨wr.heap.size, 1, none⟩ = some (.int .i64 W) := cell_of_block (o := 1) q0 rfl
            have m2 : w6.cell? ⟨wr.heap.size, 2, none⟩ = some (.int .i64 4) := cell_of_block (o := 2) q0 rfl
            have m3 : w6.cell? ⟨wr.heap.size, 3, none⟩ = some (.int .i64 4) := cell_of_block (o := 3) q0 rfl
            have m4 : w6.cell? ⟨wr.heap.size, 4, none⟩ = some (.slice (some ⟨wr.heap.size + 1, 0, none⟩) 4 4) := cell_of_block (o := 4) q0 rfl
            have m5 : w6.cell? ⟨wr.heap.size, 5, none⟩ = some (.slice (some ⟨wr.heap.size + 1 + 1, 0, none⟩) 4 4) := cell_of_block (o := 5) q0 rfl
            have m6 : w6.cell? ⟨wr.heap.size, 6, none⟩ = some (.int .i64 B) := cell_of_block (o := 6) q0 rfl
            have m7 : w6.cell? ⟨wr.heap.size, 7, none⟩ = some (.int .i64 R) := cell_of_block (o := 7) q0 rfl
            have i0 : w6.cell? ⟨w.heap.size + 1, 0, none⟩ = some (.int .i64 op) := cell_of_block (o := 0) q1 rfl
            have i1 : w6.cell? ⟨w.heap.size + 1, 1, none⟩ = some (.int .i64 xa) := cell_of_block (o := 1) q1 rfl
            have i2 : w6.cell? ⟨w.heap.size + 1, 2, none⟩ = some (.int .i64 xb) := cell_of_block (o := 2) q1 rfl
            have i3 : w6.cell? ⟨w.heap.size + 1, 3, none⟩ = some (.int .i64 xc) := cell_of_block (o := 3) q1 rfl
            have i4 : w6.cell? ⟨w.heap.size + 1, 4, none⟩ = some (.int .u64 xn) := cell_of_block (o := 4) q1 rfl
            clear q0 q1
            go_wp2_with fail
            refine (sound_at _ _ (op, xa, xb, xc, xn) w3 _ hmore.out Hx.out).mono ?_
            rintro e w7 ⟨rfl, hk7⟩
            rw [hmo.out]
            have hk07 := hk06.trans hk7 (fun _ _ h => h)
            go_wp2_with fail
            go_ret
            exact pyes_of rfl hk07

theorem parts_row (w : World) (v0 : Value) (p : Pg) (h0 : ProgAt w v0 p) (v1 : Value) (x : In5) (h1 : InstrAt v1 x) : Calls Try.prog 5 #[v0, v1] w fun e w' => e = .returned (.bool true) ∧ Below w.heap.size w w' := by
  obtain ⟨rfl, hx⟩ := h1
  exact parts_any w v0 p h0 x hx
end Go.Proofs.Ytlnfjjbfdbcgbaa
