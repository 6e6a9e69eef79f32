/- Package frame: what Plain's own closure does behind a panic, and behind none. -/
import Derived.Test.YtlnoejmckpimnaaFrB
namespace Go.Proofs.Ytlnoejmckpimnaa
open Go.RowKit Ieee
namespace Fr

def outC : Array Value := #[.int .i64 0, .int .i64 0, .int .u64 0, .int .u64 0, .int .u64 0, .int .u64 0, .int .u64 0, .int .u64 0, .int .u64 0, .int .u64 0]

theorem setCells_ne {b k : Nat} (h : k ≠ b) : ∀ (zs : List Value) (o : Nat) (w : World), (w.setCells b o zs).heap[k]? = w.heap[k]?
  | [], _, _ => rfl
  | v :: r, o, w => (setCells_ne h r (o + 1) (w.setCell ⟨b, o, none⟩ v)).trans (block_set_ne (by exact h) v)

theorem lay_all {w : World} {b : Nat} {T : TypeId} {cur : Array Value} (h : w.heap[b]? = some (.cells cur T (0, 0))) (zs : List Value) (hl : zs.length = cur.size) : (w.setCells b 0 zs).heap[b]? = some (.cells zs.toArray T (0, 0)) := by
  obtain ⟨cur', h1, h2, _, h4⟩ := cells_laid (e := T) zs 0 w cur h (by omega)
  rw [h1]
  have : cur' = zs.toArray := by
    apply Array.ext_getElem?
    intro j
    by_cases hj : j < zs.length
    · have := h4 j hj
      rw [Nat.zero_add] at this
      rw [this]; simp
    · rw [Array.getElem?_eq_none (by omega), Array.getElem?_eq_none (by simp; omega)]
  rw [this]

def StopFin (po pw pe : Nat) (n : Int) (w w' : World) : Prop := w'.heap[po]? = some (.cells outC 29 (0, 0)) ∧ w'.heap[pw]? = some (.cells #[.slice none 0 0] 40 (0, 0)) ∧ w'.heap[pe]? = some (.cells #[.int .i64 n] 41 (0, 0)) ∧ Keeps (fun b => b = po ∨ b = pw ∨ b = pe) w w'

theorem stop_fin {po pw pe : Nat} {n : Int} {w : World} {c0 : Array Value} (zs : List Value) (hz : zs.length = c0.size) (h0 : w.heap[po]? = some (.cells c0 29 (0, 0))) (h1 : w.heap[pw]? = some (.cells #[.slice none 0 0] 40 (0, 0))) (h2 : w.heap[pe]? = some (.cells #[.int .i64 0] 41 (0, 0))) (n1 : po ≠ pw) (n2 : po ≠ pe) (n3 : pw ≠ pe) (hzc : zs.toArray = outC) (o : Obj) :
    StopFin po pw pe n w ((((w.setCells po 0 zs).setCell ⟨pw, 0, none⟩ (.slice none 0 0)).setCell ⟨pe, 0, none⟩ (.int .i64 n)).alloc o).drew := by
  have k : Keeps (fun b => b = po ∨ b = pw ∨ b = pe) w (w.setCells po 0 zs) := Keeps.setCells (.inl (.inl rfl)) zs 0 w (Keeps.refl _ w)
  have a0 := lay_all h0 zs hz
  rw [hzc] at a0
  have a1 := (setCells_ne n1.symm zs 0 w).trans h1
  have a2 := (setCells_ne n2.symm zs 0 w).trans h2
  generalize w.setCells po 0 zs = W at k a0 a1 a2
  exact ⟨block_alloc_old ((block_set_ne (by exact n2) _).trans ((block_set_ne (by exact n1) _).trans a0)), block_alloc_old ((block_set_ne (by exact n3) _).trans (block_set a1 _)), block_alloc_old (block_set ((block_set_ne (by exact n3.symm) _).trans a2) _), (((k.set (.inl (.inr (.inl rfl))) _).set (.inl (.inr (.inr rfl))) _).alloc _).drew⟩

theorem catch_idle (po pw pe : Nat) (w : World) :
    CallsD Try.prog 44 #[.pointer (some ⟨po, 0, none⟩), .pointer (some ⟨pw, 0, none⟩), .pointer (some ⟨pe, 0, none⟩)] .returning w fun e u' w' => e = .returned (.tuple #[]) ∧ u' = .returning ∧ w' = w := by
  refine callsD_of_wpS Try.func44 rfl fun c₀ cs hu => ?_
  apply wpS_seq
  apply wpS_region
  simp [wpOpsS, go_sem, recoverD, hu, Try.ntmps44, Exit.thenS]
  refine wpS_of_wp ?_
  go_wp2
  exact ⟨rfl, _, rfl, .tuple #[], by simp [results, Try.results44, go_sem], rfl, hu, rfl⟩


set_option maxRecDepth 100000 in
set_option maxHeartbeats 2000000 in
theorem catch_stop (po pw pe : Nat) (n : Int) (older : List PanicEntry) (w : World) (h0 : w.heap[po]? = some (.cells outC 29 (0, 0))) (h1 : w.heap[pw]? = some (.cells #[.slice none 0 0] 40 (0, 0))) (h2 : w.heap[pe]? = some (.cells #[.int .i64 0] 41 (0, 0))) (n1 : po ≠ pw) (n2 : po ≠ pe) (n3 : pw ≠ pe) :
    CallsD Try.prog 44 #[.pointer (some ⟨po, 0, none⟩), .pointer (some ⟨pw, 0, none⟩), .pointer (some ⟨pe, 0, none⟩)] (.panicking ({ v := .iface 71 (.agg #[.int .i64 n]), recovered := false } :: older)) w fun e u' w' => e = .returned (.tuple #[]) ∧ u' = .panicking ({ v := .iface 71 (.agg #[.int .i64 n]), recovered := true } :: older) ∧
      StopFin po pw pe n w w' := by
  have l0 := lt_of_block h0
  have l1 := lt_of_block h1
  have l2 := lt_of_block h2
  have c0 : w.cell? ⟨po, 0, none⟩ = some (.int .i64 0) := cell_of_block (o := 0) h0 rfl
  have c1 : w.cell? ⟨po, 1, none⟩ = some (.int .i64 0) := cell_of_block (o := 1) h0 rfl
  have c2 : w.cell? ⟨po, 2, none⟩ = some (.int .u64 0) := cell_of_block (o := 2) h0 rfl
  have c3 : w.cell? ⟨po, 3, none⟩ = some (.int .u64 0) := cell_of_block (o := 3) h0 rfl
  have c4 : w.cell? ⟨po, 4, none⟩ = some (.int .u64 0) := cell_of_block (o := 4) h0 rfl
  have c5 : w.cell? ⟨po, 5, none⟩ = some (.int .u64 0) := cell_of_block (o := 5) h0 rfl
  have c6 : w.cell? ⟨po, 6, none⟩ = some (.int .u64 0) := cell_of_block (o := 6) h0 rfl
  have c7 : w.cell? ⟨po, 7, none⟩ = some (.int .u64 0) := cell_of_block (o := 7) h0 rfl
  have c8 : w.cell? ⟨po, 8, none⟩ = some (.int .u64 0) := cell_of_block (o := 8) h0 rfl
  have c9 : w.cell? ⟨po, 9, none⟩ = some (.int .u64 0) := cell_of_block (o := 9) h0 rfl
  have f0 := frozen_of_block (o := 0) h0
  have f1 := frozen_of_block (o := 1) h0
  have f2 := frozen_of_block (o := 2) h0
  have f3 := frozen_of_block (o := 3) h0
  have f4 := frozen_of_block (o := 4) h0
  have f5 := frozen_of_block (o := 5) h0
  have f6 := frozen_of_block (o := 6) h0
  have f7 := frozen_of_block (o := 7) h0
  have f8 := frozen_of_block (o := 8) h0
  have f9 := frozen_of_block (o := 9) h0
  have cw : w.cell? ⟨pw, 0, none⟩ = some (.slice none 0 0) := cell_of_block (o := 0) h1 rfl
  have fw := frozen_of_block (o := 0) h1
  have ce : w.cell? ⟨pe, 0, none⟩ = some (.int .i64 0) := cell_of_block (o := 0) h2 rfl
  have fe := frozen_of_block (o := 0) h2
  have H0 := Lib.hid h0
  have H1 := Lib.hid h1
  have H2 := Lib.hid h2
  clear h0 h1 h2
  have hta : ∀ W, (Instr.typeAssert (.iface 71 (.agg #[.int .i64 n])) 20 71 true).run Try.prog W = .ok (.tuple #[.agg #[.int .i64 n], .bool true]) W := fun W => by kernel_rfl
  refine callsD_of_wpS Try.func44 rfl fun c₀ cs hu => ?_
  apply wpS_seq
  apply wpS_region
  simp [wpOpsS, go_sem, recoverD, hu, Try.ntmps44, Exit.thenS]
  refine wpS_of_wp ?_
  change Code.wp _ _ _ { tmps := #[.pointer (some ⟨po, 0, none⟩), .pointer (some ⟨pw, 0, none⟩), .pointer (some ⟨pe, 0, none⟩), undef, undef, undef, .iface 71 (.agg #[.int .i64 n]), undef, undef, undef, undef, undef, undef, undef, undef], defers := [] } _
  go_wp2
  go_region
  all_goals
    go_wp2
    refine ⟨rfl, _, rfl, .tuple #[], by simp [results, Try.results44, go_sem], rfl, rfl, ?_⟩
    exact stop_fin [.int .i64 0, .int .i64 0, .int .u64 0, .int .u64 0, .int .u64 0, .int .u64 0, .int .u64 0, .int .u64 0, .int .u64 0, .int .u64 0] rfl H0.out H1.out H2.out n1 n2 n3 rfl _
end Fr
end Go.Proofs.Ytlnoejmckpimnaa
