/- Package frame: Plain. -/
import Derived.Test.YtlnoejmckpimnaaFrI
import Derived.Test.YtlnoejmckpimnaaFrH
import Derived.Laws.CopyOwn
namespace Go.Proofs.Ytlnoejmckpimnaa
open Go.RowKit Ieee
namespace Fr

theorem elW : Elem Try.prog 40 26 (.int .u64 0) 1 8 := Elem.mk' (by kernel_rfl) (by kernel_rfl) rfl (by decide)

def clsI (op : Int) : Int := if 1 ≤ op ∧ op ≤ 19 then 1 else if 20 ≤ op ∧ op ≤ 32 then 2 else if 33 ≤ op ∧ op ≤ 38 then 3 else 0

theorem class_calls (op : Int) (w : World) : Calls Try.prog 43 #[.int .i64 op] w fun e w' => e = .returned (.int .i64 (clsI op)) ∧ w = w' := by
  have h : (op < 1) ∨ (1 ≤ op ∧ op ≤ 19) ∨ (20 ≤ op ∧ op ≤ 32) ∨ (33 ≤ op ∧ op ≤ 38) ∨ (38 < op) := by omega
  rcases h with h | ⟨h, h'⟩ | ⟨h, h'⟩ | ⟨h, h'⟩ | h
  all_goals
    go_enter Try.func43, Try.ntmps43
    go_wp2
    go_ret
    refine ⟨?_, rfl⟩
    have hv : ∀ a b : Int, a = b → Ending.returned (.int .i64 a) = .returned (.int .i64 b) := fun a b h => by rw [h]
    exact hv _ _ (by unfold clsI; (repeat' split) <;> omega)

def frmV (f : Frm) : Value := .agg (.int .i64 f.F :: .int .i64 f.P :: f.rs.map rv).toArray
def zeroF : Frm := ⟨0, 0, [0, 0, 0, 0, 0, 0, 0, 0]⟩
abbrev ret3 (f : Frm) (v : Value) (n : Int) : Ending := .returned (.tuple #[frmV f, v, .int .i64 n])

/-- What Plain says. -/
def plainF (f : Frm) (i : In5) (ms : List Int) : Except Int (Frm × List Int) := if 1 ≤ i.1 ∧ i.1 ≤ 19 then doF f i ms else .error 8

def PlainPost (w : World) (r : Except Int (Frm × List Int)) (e : Ending) (w' : World) : Prop := Keeps NoBlock w w' ∧ match r with
  | .error k => e = ret3 zeroF (.slice none 0 0) k
  | .ok x => ∃ g, e = ret3 x.1 (.slice (some ⟨g, 0, none⟩) x.2.length x.2.length) 0 ∧ w.heap.size ≤ g ∧ w'.heap[g]? = some (.cells (mC x.2) 26 (0, 0))

/-- copy over a whole row of the call's own. -/
theorem wpList_copyK {P : Program} {w : World} {ops : Array Oper} {rest : List Oper} {o : Oper} {a : Go.Act} {Q : Exit → Go.Act → World → Prop} (hgd : o.guard = none) (d s : Operand) (dT sT : TypeId)
    (ho : o.op = .call { callee := .builtin .copy, args := #[d, s], argTypes := #[dT, sT] }) (elem : TypeId) (hu : P.underlying dT = some (.slice elem)) (hsz : (P.info? elem).map (·.size) = some 1)
    (g n c cap : Nat) (A : Option Addr) (b off : Nat) (hd : a.eval d = .slice (some ⟨g, 0, none⟩) n c) (hs : a.eval s = .slice A n cap) (cur : Array Value) (t : TypeId) (hg : w.heap[g]? = some (.cells cur t (0, 0))) (hcur : cur.size = n)
    (cs : List Value) (hn : cs.length = n) (hA : 0 < n → A = some ⟨b, off, none⟩) (hsrc : ∀ j v, cs[j]? = some v → w.cell? ⟨b, off + j, none⟩ = some v) (h1 : ∀ v ∈ cs, v.oneCell' = true)
    (h : ∀ w', w'.heap[g]? = some (.cells cs.toArray t (0, 0)) → Keeps (fun k => k = g) w w' → wpList P ops Q rest (a.put o.dst (goInt n)) w') :
    wpList P ops Q (o :: rest) a w := by
  by_cases h0 : n = 0
  · obtain rfl : cs = [] := List.eq_nil_of_length_eq_zero (by omega)
    subst h0
    refine wpList_copy_nothing hgd d s dT sT ho elem hu hsz _ _ 0 c 0 cap hd hs rfl ?_
    have : cur = #[] := Array.eq_empty_of_size_eq_zero hcur
    exact h w (by rw [hg, this]) (Keeps.refl _ _)
  · obtain rfl := hA (by omega)
    refine wpList_copy_own hgd d s dT sT ho elem hu hsz g 0 n c ⟨b, off, none⟩ n cap hd hs cur t hg cs (by rw [hn]; exact (Nat.min_self n).symm) (fun j v hj => by rw [Addr.add_lit]; exact hsrc j v hj) (by omega) h1 ?_
    have e : (cur.toList.take 0 ++ (cs ++ cur.toList.drop (0 + cs.length))).toArray = cs.toArray := by
      rw [List.take_zero, List.nil_append, List.drop_eq_nil_of_le (by simp; omega), List.append_nil]
    rw [e, hn]
    exact h _ (setRow_heap w g _ _ t _ hg) ⟨rfl, rfl, rfl, by simp [World.setRow], fun k hk hne => setRow_other w g k _ hne⟩

set_option maxRecDepth 100000 in
set_option maxHeartbeats 4000000 in
theorem plain_bad (f : Frm) (i : In5) (A : Option Addr) (n c : Nat) (ms : List Int) (w : World) (hrl : f.rs.length = 8) (ho : ¬ (1 ≤ i.1 ∧ i.1 ≤ 19)) : Calls Try.prog 15 #[frmV f, insV i, .slice A n c] w (PlainPost w (plainF f i ms)) := by
  have hp : Hid (plainF f i ms = .error 8) := by show _ = _; unfold plainF; rw [if_neg ho]
  obtain ⟨F, P, rs⟩ := f
  simp only [] at hrl
  match rs, hrl with
  | [r0, r1, r2, r3, r4, r5, r6, r7], _ =>
    obtain ⟨op, a, b, c0, N⟩ := i
    simp only [] at ho
    have hcl : Hid (clsI op ≠ 1) := by show _ ≠ _; unfold clsI; rw [if_neg ho]; split; omega; split <;> omega
    have hc := Lib.hid (class_calls op)
    clear ho
    unfold insV frmV rv
    simp only [List.map_cons, List.map_nil]
    go_enter_defers Try.func15, Try.ntmps15
    go_wp2_with fail
    refine (hc.out _).mono ?_
    rintro e w1 ⟨rfl, rfl⟩
    have hne : (clsI op != 1) = true := by have := hcl.out; simp [this]
    go_wp2_with fail
    refine ⟨.tuple #[frmV zeroF, .slice none 0 0, .int .i64 8], ?_, ?_⟩
    · simp [results, Try.results15, go_sem, frmV, zeroF, rv]
    · refine ⟨?_, ?_⟩
      · repeat refine Keeps.alloc ?_ _
        exact Keeps.refl _ _
      · rw [hp.out]

def OutFin (po pw pe : Nat) (zs : List Value) (v u : Value) (w w' : World) : Prop := w'.heap[po]? = some (.cells zs.toArray 29 (0, 0)) ∧ w'.heap[pw]? = some (.cells #[v] 40 (0, 0)) ∧ w'.heap[pe]? = some (.cells #[u] 41 (0, 0)) ∧ Keeps (fun b => b = po ∨ b = pw ∨ b = pe) w w'

theorem out_fin {po pw pe : Nat} {w : World} {c0 : Array Value} {v0 u0 v u : Value} (zs : List Value) (hz : zs.length = c0.size) (h0 : w.heap[po]? = some (.cells c0 29 (0, 0))) (h1 : w.heap[pw]? = some (.cells #[v0] 40 (0, 0))) (h2 : w.heap[pe]? = some (.cells #[u0] 41 (0, 0))) (n1 : po ≠ pw) (n2 : po ≠ pe) (n3 : pw ≠ pe) :
    OutFin po pw pe zs v u w (((w.setCells po 0 zs).setCell ⟨pw, 0, none⟩ v).setCell ⟨pe, 0, none⟩ u).drew := by
  have k : Keeps (fun b => b = po ∨ b = pw ∨ b = pe) w (w.setCells po 0 zs) := Keeps.setCells (.inl (.inl rfl)) zs 0 w (Keeps.refl _ w)
  have a0 := lay_all h0 zs hz
  have a1 := (setCells_ne n1.symm zs 0 w).trans h1
  have a2 := (setCells_ne n2.symm zs 0 w).trans h2
  generalize w.setCells po 0 zs = W at k a0 a1 a2
  exact ⟨(block_set_ne (by exact n2) _).trans ((block_set_ne (by exact n1) _).trans a0), (block_set_ne (by exact n3) _).trans (block_set a1 _), block_set ((block_set_ne (by exact n3.symm) _).trans a2) _, ((k.set (.inl (.inr (.inl rfl))) _).set (.inl (.inr (.inr rfl))) _).drew⟩

/-- The blocks that Plain lays behind world w: frame, instruction, results. -/
structure Laid (w W : World) (f : Frm) (i : In5) : Prop where
  kp : Keeps NoBlock w W
  b0 : W.heap[w.heap.size]? = some (.cells (.int .i64 f.F :: .int .i64 f.P :: f.rs.map rv).toArray 29 (0, 0))
  b1 : W.heap[w.heap.size + 1]? = some (.cells #[.int .i64 i.1, .int .i64 i.2.1, .int .i64 i.2.2.1, .int .i64 i.2.2.2.1, .int .u64 i.2.2.2.2] 31 (0, 0))
  b2 : W.heap[w.heap.size + 2]? = some (.cells outC 29 (0, 0))
  b3 : W.heap[w.heap.size + 3]? = some (.cells #[.slice none 0 0] 40 (0, 0))
  b4 : W.heap[w.heap.size + 4]? = some (.cells #[.int .i64 0] 41 (0, 0))
  sz : W.heap.size = w.heap.size + 5

set_option maxRecDepth 100000 in
set_option maxHeartbeats 4000000 in
theorem plain_good (f : Frm) (i : In5) (A : Option Addr) (b off n c : Nat) (ms : List Int) (w : World) (hrl : f.rs.length = 8) (ho : 1 ≤ i.1 ∧ i.1 ≤ 19) (hrb : ∀ x ∈ f.rs, 0 ≤ x ∧ x < 18446744073709551616)
    (hA : 0 < n → A = some ⟨b, off, none⟩) (hm : ∀ (j : Nat) (x : Int), ms[j]? = some x → w.cell? ⟨b, off + j, none⟩ = some (rv x)) (hn : ms.length = n) (hn6 : n ≤ 1000000) : Calls Try.prog 15 #[frmV f, insV i, .slice A n c] w (PlainPost w (plainF f i ms)) := by
  have hp : Hid (plainF f i ms = doF f i ms) := by show _ = _; unfold plainF; rw [if_pos ho]
  have hdo := Lib.hid (fun W d g (h : DoAt W d g f ms) => do_calls i h hrb ho)
  have Hm := Lib.hid hm
  have HA := Lib.hid hA
  have Hn := Lib.hid hn
  clear hm hA hn
  obtain ⟨F, P, rs⟩ := f
  simp only [] at hrl hrb
  match rs, hrl with
  | [r0, r1, r2, r3, r4, r5, r6, r7], _ =>
    obtain ⟨op, a, b1, c0, N⟩ := i
    simp only [] at ho
    have hcl : Hid (clsI op = 1) := by show _ = _; unfold clsI; rw [if_pos ho]
    have hc := Lib.hid (class_calls op)
    have hmf : ∀ (fn : Fn) (first cap : Array Value) (w : World), (Instr.makeFunc fn first cap).run Try.prog w = .ok (.func fn first cap) w := fun _ _ _ _ => rfl
    clear ho hrb
    unfold insV frmV
    simp only [List.map_cons, List.map_nil]
    go_enter_defers Try.func15, Try.ntmps15
    go_wp2_with fail
    refine (hc.out _).mono ?_
    rintro e w1 ⟨rfl, rfl⟩
    rw [hcl.out]
    generalize hW : World.alloc (World.alloc (World.alloc (World.alloc (World.alloc w _) _) _) _) _ = W
    have HL : Hid (Laid w W ⟨F, P, [r0, r1, r2, r3, r4, r5, r6, r7]⟩ (op, a, b1, c0, N)) := by
      rw [← hW]
      refine ⟨?_, ?_, ?_, ?_, ?_, ?_, ?_⟩
      · repeat refine Keeps.alloc ?_ _
        exact Keeps.refl _ _
      · exact block_alloc_old (block_alloc_old (block_alloc_old (block_alloc_old (block_alloc_new _ _))))
      · exact block_alloc_old (block_alloc_old (block_alloc_old (blk_new (by simp))))
      · exact block_alloc_old (block_alloc_old (blk_new (by simp)))
      · exact block_alloc_old (blk_new (by simp))
      · exact blk_new (by simp)
      · simp
    clear hW
    have q0 : W.cell? ⟨w.heap.size, 0, none⟩ = some (.int .i64 F) := cell_of_block (o := 0) HL.out.b0 rfl
    have q1 : W.cell? ⟨w.heap.size, 1, none⟩ = some (.int .i64 P) := cell_of_block (o := 1) HL.out.b0 rfl
    have q2 : W.cell? ⟨w.heap.size, 2, none⟩ = some (rv r0) := cell_of_block (o := 2) HL.out.b0 rfl
    have q3 : W.cell? ⟨w.heap.size, 3, none⟩ = some (rv r1) := cell_of_block (o := 3) HL.out.b0 rfl
    have q4 : W.cell? ⟨w.heap.size, 4, none⟩ = some (rv r2) := cell_of_block (o := 4) HL.out.b0 rfl
    have q5 : W.cell? ⟨w.heap.size, 5, none⟩ = some (rv r3) := cell_of_block (o := 5) HL.out.b0 rfl
    have q6 : W.cell? ⟨w.heap.size, 6, none⟩ = some (rv r4) := cell_of_block (o := 6) HL.out.b0 rfl
    have q7 : W.cell? ⟨w.heap.size, 7, none⟩ = some (rv r5) := cell_of_block (o := 7) HL.out.b0 rfl
    have q8 : W.cell? ⟨w.heap.size, 8, none⟩ = some (rv r6) := cell_of_block (o := 8) HL.out.b0 rfl
    have q9 : W.cell? ⟨w.heap.size, 9, none⟩ = some (rv r7) := cell_of_block (o := 9) HL.out.b0 rfl
    have s0 : w.heap.size < W.heap.size := by rw [HL.out.sz]; omega
    have s1 : w.heap.size + 1 < W.heap.size := by rw [HL.out.sz]; omega
    have hmk := run_mk elW n hn6 (by decide)
    have hsz : (Try.prog.info? 26).map (·.size) = some 1 := by kernel_rfl
    have hsrc : Hid (∀ w', Keeps NoBlock w w' → ∀ (j : Nat) v, (ms.map rv)[j]? = some v → w'.cell? ⟨b, off + j, none⟩ = some v) := fun w' k j v hj => by
      rw [List.getElem?_map] at hj
      cases hx : ms[j]? with
      | none => rw [hx] at hj; cases hj
      | some x =>
        rw [hx] at hj
        simp only [Option.map_some, Option.some.injEq] at hj
        have hc := Hm.out j x hx
        rw [k.cell (World.block_lt_of_cell? w _ hc) (fun h => h), hc, hj]
    have hone : Hid (∀ v ∈ ms.map rv, v.oneCell' = true) := fun v hv => by
      obtain ⟨x, _, rfl⟩ := List.mem_map.1 hv; rfl
    have hln : Hid ((ms.map rv).length = n) := by show _ = _; rw [List.length_map, Hn.out]
    have KW := Lib.hid HL.out.kp
    go_wp2_with fail
    go_region
    go_wp2_with (refine wpList_copyK rfl _ _ _ _ rfl 26 Try.underlying40 hsz W.heap.size n n c A b off rfl rfl (madeCells #[Value.int .u64 0] n) 26 ?_ ?_ (ms.map rv) hln.out HA.out ?_ hone.out ?_)
    · exact block_alloc_old (block_alloc_new W _)
    · rw [show madeCells #[Value.int .u64 0] n = (List.replicate n (Value.int .u64 0)).toArray from by apply Array.toList_inj.1; rw [toList_madeCells_one]]; simp
    · exact hsrc.out _ (((KW.out.alloc _).alloc _).drew)
    intro w3 hg3 k3
    have K3 : Hid (Keeps NoBlock W w3) := (((Keeps.refl NoBlock W).alloc _).alloc _).drew.trans k3 (fun j hj e => by omega)
    have hd3 : w3.heap[W.heap.size + 1]? = some (.cells #[.int .i64 F, .int .i64 P, rv r0, rv r1, rv r2, rv r3, rv r4, rv r5, rv r6, rv r7, .slice (some ⟨W.heap.size, 0, none⟩) n n] 74 (0, 0)) := by
      rw [k3.block _ (by simp) (by omega)]
      exact blk_new (by simp)
    have HD : Hid (DoAt w3 (W.heap.size + 1) W.heap.size ⟨F, P, [r0, r1, r2, r3, r4, r5, r6, r7]⟩ ms) := ⟨by rw [Hn.out]; exact hd3, hg3, by show W.heap.size + 1 ≠ W.heap.size; omega, rfl, by rw [Hn.out]; exact hn6⟩
    have B1 : w3.heap[w.heap.size + 1]? = some (.cells #[.int .i64 op, .int .i64 a, .int .i64 b1, .int .i64 c0, .int .u64 N] 31 (0, 0)) := by rw [K3.out.block _ s1 (fun h => h)]; exact HL.out.b1
    have p0 : w3.cell? ⟨w.heap.size + 1, 0, none⟩ = some (.int .i64 op) := cell_of_block (o := 0) B1 rfl
    have p1 : w3.cell? ⟨w.heap.size + 1, 1, none⟩ = some (.int .i64 a) := cell_of_block (o := 1) B1 rfl
    have p2 : w3.cell? ⟨w.heap.size + 1, 2, none⟩ = some (.int .i64 b1) := cell_of_block (o := 2) B1 rfl
    have p3 : w3.cell? ⟨w.heap.size + 1, 3, none⟩ = some (.int .i64 c0) := cell_of_block (o := 3) B1 rfl
    have p4 : w3.cell? ⟨w.heap.size + 1, 4, none⟩ = some (.int .u64 N) := cell_of_block (o := 4) B1 rfl
    clear k3 hg3 hd3 hmk B1
    go_wp2_with fail
    refine (hdo.out w3 _ _ HD.out).mono ?_
    intro e w4 hpost
    obtain ⟨res, hres⟩ : ∃ res, Hid (doF ⟨F, P, [r0, r1, r2, r3, r4, r5, r6, r7]⟩ (op, a, b1, c0, N) ms = res) := ⟨_, rfl⟩
    rw [hres.out] at hpost
    have hP : Hid (plainF ⟨F, P, [r0, r1, r2, r3, r4, r5, r6, r7]⟩ (op, a, b1, c0, N) ms = res) := hp.out.trans hres.out
    have B2 := HL.out.b2
    have B3 := HL.out.b3
    have B4 := HL.out.b4
    have t2 := lt_of_block B2
    have t3 := lt_of_block B3
    have t4 := lt_of_block B4
    have sz := HL.out.sz
    clear hdo hres hp HL
    cases res with
    | error k =>
      obtain ⟨rfl, k4⟩ := hpost
      have K4 := Lib.hid (K3.out.trans k4 (fun _ _ h => h))
      clear k4
      refine leaves_cons (f := 44) (args := #[.pointer (some ⟨w.heap.size + 2, 0, none⟩), .pointer (some ⟨w.heap.size + 3, 0, none⟩), .pointer (some ⟨w.heap.size + 4, 0, none⟩)]) (by simp) (by simp [go_sem]) ?_
      refine (catch_stop _ _ _ k [] w4 ((K4.out.block _ t2 (fun h => h)).trans B2) ((K4.out.block _ t3 (fun h => h)).trans B3) ((K4.out.block _ t4 (fun h => h)).trans B4) (by omega) (by omega) (by omega)).mono ?_
      rintro e u' w5 ⟨rfl, rfl, h5⟩
      obtain ⟨a2, a3, a4, k5⟩ := h5
      have KK : Keeps NoBlock w w5 := (KW.out.trans K4.out (fun _ _ h => h)).trans k5 (fun j hj hb => by omega)
      refine ⟨.tuple #[frmV zeroF, .slice none 0 0, .int .i64 k], ?_, ?_⟩
      · have x0 : w5.cell? ⟨w.heap.size + 1 + 1, 0, none⟩ = some (.int .i64 0) := cell_of_block (o := 0) a2 rfl
        have x1 : w5.cell? ⟨w.heap.size + 1 + 1, 1, none⟩ = some (.int .i64 0) := cell_of_block (o := 1) a2 rfl
        have x2 : w5.cell? ⟨w.heap.size + 1 + 1, 2, none⟩ = some (.int .u64 0) := cell_of_block (o := 2) a2 rfl
        have x3 : w5.cell? ⟨w.heap.size + 1 + 1, 3, none⟩ = some (.int .u64 0) := cell_of_block (o := 3) a2 rfl
        have x4 : w5.cell? ⟨w.heap.size + 1 + 1, 4, none⟩ = some (.int .u64 0) := cell_of_block (o := 4) a2 rfl
        have x5 : w5.cell? ⟨w.heap.size + 1 + 1, 5, none⟩ = some (.int .u64 0) := cell_of_block (o := 5) a2 rfl
        have x6 : w5.cell? ⟨w.heap.size + 1 + 1, 6, none⟩ = some (.int .u64 0) := cell_of_block (o := 6) a2 rfl
        have x7 : w5.cell? ⟨w.heap.size + 1 + 1, 7, none⟩ = some (.int .u64 0) := cell_of_block (o := 7) a2 rfl
        have x8 : w5.cell? ⟨w.heap.size + 1 + 1, 8, none⟩ = some (.int .u64 0) := cell_of_block (o := 8) a2 rfl
        have x9 : w5.cell? ⟨w.heap.size + 1 + 1, 9, none⟩ = some (.int .u64 0) := cell_of_block (o := 9) a2 rfl
        have y0 : w5.cell? ⟨w.heap.size + 1 + 1 + 1, 0, none⟩ = some (.slice none 0 0) := cell_of_block (o := 0) a3 rfl
        have y1 : w5.cell? ⟨w.heap.size + 1 + 1 + 1 + 1, 0, none⟩ = some (.int .i64 k) := cell_of_block (o := 0) a4 rfl
        simp [results, Try.results15, go_sem, x0, x1, x2, x3, x4, x5, x6, x7, x8, x9, y0, y1, frmV, zeroF, rv]
      · refine ⟨KK, ?_⟩
        rw [hP.out]
    | ok x =>
      obtain ⟨⟨F2, P2, rs2⟩, ms2⟩ := x
      obtain ⟨rfl, hD4, k4⟩ := hpost
      have hrl2 := hD4.rl
      simp only [] at hrl2 hD4
      match rs2, hrl2 with
      | [u0, u1, u2, u3, u4, u5, u6, u7], _ =>
        have K4 : Hid (Keeps (fun b => b = W.heap.size + 1 ∨ b = W.heap.size) W w4) := (K3.out.mono (fun _ _ h => h.elim)).trans k4 (fun _ _ h => h)
        have C2 : w4.heap[w.heap.size + 1 + 1]? = some (.cells outC 29 (0, 0)) := (K4.out.block _ t2 (by omega)).trans B2
        have C3 : w4.heap[w.heap.size + 1 + 1 + 1]? = some (.cells #[.slice none 0 0] 40 (0, 0)) := (K4.out.block _ t3 (by omega)).trans B3
        have C4 : w4.heap[w.heap.size + 1 + 1 + 1 + 1]? = some (.cells #[.int .i64 0] 41 (0, 0)) := (K4.out.block _ t4 (by omega)).trans B4
        obtain ⟨m2, hm2⟩ : ∃ m2, Hid (ms2.length = m2) := ⟨_, rfl⟩
        have d0 : w4.cell? ⟨W.heap.size + 1, 0, none⟩ = some (.int .i64 F2) := cell_of_block (o := 0) hD4.head rfl
        have d1 : w4.cell? ⟨W.heap.size + 1, 1, none⟩ = some (.int .i64 P2) := cell_of_block (o := 1) hD4.head rfl
        have d2 : w4.cell? ⟨W.heap.size + 1, 2, none⟩ = some (.int .u64 u0) := cell_of_block (o := 2) hD4.head rfl
        have d3 : w4.cell? ⟨W.heap.size + 1, 3, none⟩ = some (.int .u64 u1) := cell_of_block (o := 3) hD4.head rfl
        have d4 : w4.cell? ⟨W.heap.size + 1, 4, none⟩ = some (.int .u64 u2) := cell_of_block (o := 4) hD4.head rfl
        have d5 : w4.cell? ⟨W.heap.size + 1, 5, none⟩ = some (.int .u64 u3) := cell_of_block (o := 5) hD4.head rfl
        have d6 : w4.cell? ⟨W.heap.size + 1, 6, none⟩ = some (.int .u64 u4) := cell_of_block (o := 6) hD4.head rfl
        have d7 : w4.cell? ⟨W.heap.size + 1, 7, none⟩ = some (.int .u64 u5) := cell_of_block (o := 7) hD4.head rfl
        have d8 : w4.cell? ⟨W.heap.size + 1, 8, none⟩ = some (.int .u64 u6) := cell_of_block (o := 8) hD4.head rfl
        have d9 : w4.cell? ⟨W.heap.size + 1, 9, none⟩ = some (.int .u64 u7) := cell_of_block (o := 9) hD4.head rfl
        have d10 : w4.cell? ⟨W.heap.size + 1, 10, none⟩ = some (.slice (some ⟨W.heap.size, 0, none⟩) m2 m2) := by rw [← hm2.out]; exact cell_of_block (o := 10) hD4.head rfl
        have o0 : w4.cell? ⟨w.heap.size + 1 + 1, 0, none⟩ = some (.int .i64 0) := cell_of_block (o := 0) C2 rfl
        have o1 : w4.cell? ⟨w.heap.size + 1 + 1, 1, none⟩ = some (.int .i64 0) := cell_of_block (o := 1) C2 rfl
        have o2 : w4.cell? ⟨w.heap.size + 1 + 1, 2, none⟩ = some (.int .u64 0) := cell_of_block (o := 2) C2 rfl
        have o3 : w4.cell? ⟨w.heap.size + 1 + 1, 3, none⟩ = some (.int .u64 0) := cell_of_block (o := 3) C2 rfl
        have o4 : w4.cell? ⟨w.heap.size + 1 + 1, 4, none⟩ = some (.int .u64 0) := cell_of_block (o := 4) C2 rfl
        have o5 : w4.cell? ⟨w.heap.size + 1 + 1, 5, none⟩ = some (.int .u64 0) := cell_of_block (o := 5) C2 rfl
        have o6 : w4.cell? ⟨w.heap.size + 1 + 1, 6, none⟩ = some (.int .u64 0) := cell_of_block (o := 6) C2 rfl
        have o7 : w4.cell? ⟨w.heap.size + 1 + 1, 7, none⟩ = some (.int .u64 0) := cell_of_block (o := 7) C2 rfl
        have o8 : w4.cell? ⟨w.heap.size + 1 + 1, 8, none⟩ = some (.int .u64 0) := cell_of_block (o := 8) C2 rfl
        have o9 : w4.cell? ⟨w.heap.size + 1 + 1, 9, none⟩ = some (.int .u64 0) := cell_of_block (o := 9) C2 rfl
        have f0 := frozen_of_block (o := 0) C2
        have f1 := frozen_of_block (o := 1) C2
        have f2 := frozen_of_block (o := 2) C2
        have f3 := frozen_of_block (o := 3) C2
        have f4 := frozen_of_block (o := 4) C2
        have f5 := frozen_of_block (o := 5) C2
        have f6 := frozen_of_block (o := 6) C2
        have f7 := frozen_of_block (o := 7) C2
        have f8 := frozen_of_block (o := 8) C2
        have f9 := frozen_of_block (o := 9) C2
        have y0 : w4.cell? ⟨w.heap.size + 1 + 1 + 1, 0, none⟩ = some (.slice none 0 0) := cell_of_block (o := 0) C3 rfl
        have y1 : w4.cell? ⟨w.heap.size + 1 + 1 + 1 + 1, 0, none⟩ = some (.int .i64 0) := cell_of_block (o := 0) C4 rfl
        have g0 := frozen_of_block (o := 0) C3
        have g1 := frozen_of_block (o := 0) C4
        have HD4 := Lib.hid hD4
        have H2 := Lib.hid C2
        have H3 := Lib.hid C3
        have H4 := Lib.hid C4
        clear hD4 k4 C2 C3 C4 B2 B3 B4
        clear q0 q1 q2 q3 q4 q5 q6 q7 q8 q9 p0 p1 p2 p3 p4
        have Sz := Lib.hid sz
        clear sz
        go_wp2_with fail
        go_region
        all_goals
          go_wp2_with fail
          generalize hW5 : World.drew _ = W5
          have hf5 : OutFin (w.heap.size + 1 + 1) (w.heap.size + 1 + 1 + 1) (w.heap.size + 1 + 1 + 1 + 1) [.int .i64 F2, .int .i64 P2, .int .u64 u0, .int .u64 u1, .int .u64 u2, .int .u64 u3, .int .u64 u4, .int .u64 u5, .int .u64 u6, .int .u64 u7] (.slice (some ⟨W.heap.size, 0, none⟩) m2 m2) (.int .i64 0) w4 W5 := by
            rw [← hW5]
            exact out_fin (c0 := outC) (v0 := .slice none 0 0) (u0 := .int .i64 0) [.int .i64 F2, .int .i64 P2, .int .u64 u0, .int .u64 u1, .int .u64 u2, .int .u64 u3, .int .u64 u4, .int .u64 u5, .int .u64 u6, .int .u64 u7] rfl H2.out H3.out H4.out (by omega) (by omega) (by omega)
          clear hW5
          obtain ⟨a2, a3, a4, k5⟩ := hf5
          refine leaves_cons (f := 44) (args := #[.pointer (some ⟨w.heap.size + 1 + 1, 0, none⟩), .pointer (some ⟨w.heap.size + 1 + 1 + 1, 0, none⟩), .pointer (some ⟨w.heap.size + 1 + 1 + 1 + 1, 0, none⟩)]) (by simp) (by simp [go_sem]) ?_
          refine (catch_idle _ _ _ W5).mono ?_
          rintro e u' w6 ⟨rfl, rfl, rfl⟩
          have sz := Sz.out
          have KK : Keeps NoBlock w w6 := (KW.out.trans K4.out (fun j hj hb => by omega)).trans k5 (fun j hj hb => by omega)
          refine ⟨.tuple #[frmV ⟨F2, P2, [u0, u1, u2, u3, u4, u5, u6, u7]⟩, .slice (some ⟨W.heap.size, 0, none⟩) m2 m2, .int .i64 0], ?_, ?_⟩
          · have x0 : w6.cell? ⟨w.heap.size + 1 + 1, 0, none⟩ = some (.int .i64 F2) := cell_of_block (o := 0) a2 rfl
            have x1 : w6.cell? ⟨w.heap.size + 1 + 1, 1, none⟩ = some (.int .i64 P2) := cell_of_block (o := 1) a2 rfl
            have x2 : w6.cell? ⟨w.heap.size + 1 + 1, 2, none⟩ = some (.int .u64 u0) := cell_of_block (o := 2) a2 rfl
            have x3 : w6.cell? ⟨w.heap.size + 1 + 1, 3, none⟩ = some (.int .u64 u1) := cell_of_block (o := 3) a2 rfl
            have x4 : w6.cell? ⟨w.heap.size + 1 + 1, 4, none⟩ = some (.int .u64 u2) := cell_of_block (o := 4) a2 rfl
            have x5 : w6.cell? ⟨w.heap.size + 1 + 1, 5, none⟩ = some (.int .u64 u3) := cell_of_block (o := 5) a2 rfl
            have x6 : w6.cell? ⟨w.heap.size + 1 + 1, 6, none⟩ = some (.int .u64 u4) := cell_of_block (o := 6) a2 rfl
            have x7 : w6.cell? ⟨w.heap.size + 1 + 1, 7, none⟩ = some (.int .u64 u5) := cell_of_block (o := 7) a2 rfl
            have x8 : w6.cell? ⟨w.heap.size + 1 + 1, 8, none⟩ = some (.int .u64 u6) := cell_of_block (o := 8) a2 rfl
            have x9 : w6.cell? ⟨w.heap.size + 1 + 1, 9, none⟩ = some (.int .u64 u7) := cell_of_block (o := 9) a2 rfl
            have y0 : w6.cell? ⟨w.heap.size + 1 + 1 + 1, 0, none⟩ = some (.slice (some ⟨W.heap.size, 0, none⟩) m2 m2) := cell_of_block (o := 0) a3 rfl
            have y1 : w6.cell? ⟨w.heap.size + 1 + 1 + 1 + 1, 0, none⟩ = some (.int .i64 0) := cell_of_block (o := 0) a4 rfl
            clear sz
            simp [results, Try.results15, go_sem, x0, x1, x2, x3, x4, x5, x6, x7, x8, x9, y0, y1, frmV, rv]
          · refine ⟨KK, ?_⟩
            rw [hP.out]
            refine ⟨W.heap.size, by rw [hm2.out], by omega, ?_⟩
            rw [k5.block _ (lt_of_block HD4.out.mem) (by omega)]
            exact HD4.out.mem
end Fr
end Go.Proofs.Ytlnoejmckpimnaa
