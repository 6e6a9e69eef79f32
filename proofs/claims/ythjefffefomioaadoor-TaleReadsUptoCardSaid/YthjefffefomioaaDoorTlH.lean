/- Package tale: Read. -/
import Derived.Test.YthjefffefomioaaDoorTlD
import Derived.Test.YthjefffefomioaaDoorTlG
namespace Go.Proofs.YthjefffefomioaaDoor
open Go.RowKit Go.Shelf
namespace Tl
attribute [local go_sem] Oper.semAt_some

/-- append(xs, ys..) within a fence. -/
theorem wpListIn_appN {F : Fence} {m' : Nat} {P : Program} {t e : TypeId} {z : Value} {size bytes : Nat} (E : Elem P t e z size bytes) (w : World) {ops : Array Oper} {rest : List Oper} {o : Oper} {a : Act} {Q : Exit → Act → World → Prop} (hgd : o.guard = none) (s x : Operand)
    (ho : o.op = .call { callee := .builtin .append, args := #[s, x], argTypes := #[t, t] })
    (v : Value) (n : Nat) (xs : List Value) (hs : a.eval s = v) (hown : Own w e size v n xs) (ad : Addr) (m c : Nat) (news : List Value)
    (hx : a.eval x = .slice (some ad) m c) (hl : news.length = m * size) (hnews : ∀ j u, news[j]? = some u → w.cell? (ad.add j) = some u) (h1 : ∀ u ∈ news, u.oneCell' = true)
    (h63 : n + m ≤ maxLen) (hbytes : (n + m) * bytes ≤ 140737488355328)
    (h : ∀ v' w', Own w' e size v' (n + m) (xs ++ news) → w.grownBy w' v.ownBlock → (∀ k, v'.ownBlock = some k → v.ownBlock = some k ∨ w.heap.size ≤ k) → (0 < m → ∃ g cap, v' = .slice (some ⟨g, 0, none⟩) (n + m) cap) → wpListIn F m' P ops Q rest (a.put o.dst v') w') :
    wpListIn F m' P ops Q (o :: rest) a w := by
  refine wpListIn_plain hgd fun K hK => ?_
  obtain ⟨v', w', hr, h2, h3, h4, h5⟩ := run_app (P := P) (ty := o.type) E w v n xs hown ad m c news hl hnews h1 h63 hbytes
  unfold Oper.wpIn
  refine ⟨?_, ?_⟩
  · simp [Oper.about, ho, resolve, Target.leads, Sem.run_pure]
  · rw [Oper.semAt_plain F _ _ (by rw [ho]; intro c hc'; cases hc')]
    simp [execOp, ho, resolve, invoke, builtin, hs, hx, hr, Result.andThen]
    exact hK _ _ (h v' w' h2 h3 h4 h5)

def encP (x : Stp) : List Value := [.int .i64 x.kind, .int .i64 x.a, .int .i64 x.b]
theorem encP_len (x : Stp) : (encP x).length = 3 := rfl
theorem eP : Elem Tryd.prog 34 23 (.agg #[.int .i64 0, .int .i64 0, .int .i64 0]) 3 24 := Elem.mk' (by kernel_rfl) (by kernel_rfl) rfl (by decide)

/-- What Read answers of these lines, some entries being read. -/
def readB (out : List Stp) : List (List UInt8) → List Stp × Nat × Int
  | [] => (out, 0, 0)
  | l :: ls => if 65536 ≤ out.length then ([], 0, 9) else match stepB (trimNl l) with
    | none => ([], out.length + 1, 7)
    | some x => readB (out ++ [x]) ls

theorem readB_full {out : List Stp} {l : List UInt8} {ls : List (List UInt8)} (h : 65536 ≤ out.length) : readB out (l :: ls) = ([], 0, 9) := by
  rw [readB, if_pos h]
theorem readB_bad {out : List Stp} {l : List UInt8} {ls : List (List UInt8)} (h : ¬ 65536 ≤ out.length) (hb : stepB (trimNl l) = none) : readB out (l :: ls) = ([], out.length + 1, 7) := by
  rw [readB, if_neg h, hb]
theorem readB_next {out : List Stp} {l : List UInt8} {ls : List (List UInt8)} {x : Stp} (h : ¬ 65536 ≤ out.length) (hb : stepB (trimNl l) = some x) : readB out (l :: ls) = readB (out ++ [x]) ls := by
  rw [readB, if_neg h, hb]

/-- Between two lines. -/
structure RI (w w0 : World) (r2 r3 r4 o5 : Nat) (ls : List (List UInt8)) (pre : List (List UInt8)) (W : World) : Prop where
  ok : ∃ A c xs, W.heap[o5]? = some (.cells #[.slice A xs.length c] 34 (0, 0)) ∧ Own W 23 3 (.slice A xs.length c) xs.length (xs.flatMap encP) ∧ (∀ b, (Value.slice A xs.length c).ownBlock = some b → w0.heap.size + 2 ≤ b) ∧ (∀ rest, ls = pre ++ rest → readB [] ls = readB xs rest) ∧ xs.length ≤ 65536
  b2 : W.heap[r2]? = some (.cells #[.slice none 0 0] 34 (0, 0))
  b3 : W.heap[r3]? = some (.cells #[.int .i64 0] 3 (0, 0))
  b4 : W.heap[r4]? = some (.cells #[.int .i64 0] 24 (0, 0))
  kp : Keeps NoBlock w W

/-- Behind a line with which it ends. -/
structure RX (w : World) (r2 r3 r4 : Nat) (ls : List (List UInt8)) (c : Code) (W : World) : Prop where
  c : c = .ret
  ok : ∃ (n : Nat) (e : Int), readB [] ls = ([], n, e) ∧ W.heap[r2]? = some (.cells #[.slice none 0 0] 34 (0, 0)) ∧ W.heap[r3]? = some (.cells #[.int .i64 n] 3 (0, 0)) ∧ W.heap[r4]? = some (.cells #[.int .i64 e] 24 (0, 0))
  kp : Keeps NoBlock w W

theorem RI.keeps {w w0 A A' : World} {r2 r3 r4 o5 : Nat} {ls pre : List (List UInt8)} {K : Nat → Prop} (h : RI w w0 r2 r3 r4 o5 ls pre A) (k : Keeps K A A') (hw : ∀ b, K b → w.heap.size ≤ b) (h2 : ¬ K r2) (h3 : ¬ K r3) (h4 : ¬ K r4) (h5 : ¬ K o5) (hv : ∀ b, w0.heap.size + 2 ≤ b → ¬ K b) : RI w w0 r2 r3 r4 o5 ls pre A' := by
  obtain ⟨⟨V, c, xs, a1, a2, a3, a4, a5⟩, b2, b3, b4, kp⟩ := h
  exact ⟨⟨V, c, xs, (k.block _ (lt_of_block a1) h5).trans a1, a2.keeps k (fun b hb => hv b (a3 b hb)), a3, a4, a5⟩, (k.block _ (lt_of_block b2) h2).trans b2, (k.block _ (lt_of_block b3) h3).trans b3, (k.block _ (lt_of_block b4) h4).trans b4, kp.trans k (fun i hi e => by have := hw i e; omega)⟩

theorem RX.keeps {w A A' : World} {r2 r3 r4 : Nat} {ls : List (List UInt8)} {c : Code} {K : Nat → Prop} (h : RX w r2 r3 r4 ls c A) (k : Keeps K A A') (hw : ∀ b, K b → w.heap.size ≤ b) (h2 : ¬ K r2) (h3 : ¬ K r3) (h4 : ¬ K r4) : RX w r2 r3 r4 ls c A' := by
  obtain ⟨rfl, ⟨n, e, a1, b2, b3, b4⟩, kp⟩ := h
  exact ⟨rfl, ⟨n, e, a1, (k.block _ (lt_of_block b2) h2).trans b2, (k.block _ (lt_of_block b3) h3).trans b3, (k.block _ (lt_of_block b4) h4).trans b4⟩, kp.trans k (fun i hi e => by have := hw i e; omega)⟩

theorem lines_len : ∀ (l x : List UInt8), x ∈ linesOf l → x.length ≤ l.length
  | [], x, h => by simp [linesOf] at h
  | b :: l, x, h => by
    unfold linesOf at h
    split at h
    · rcases List.mem_cons.1 h with rfl | h1
      · simp
      · have := lines_len l x h1
        simp only [List.length_cons]; omega
    · split at h
      · simp only [List.mem_singleton] at h
        subst h
        simp
      · rename_i q qs hq
        rcases List.mem_cons.1 h with rfl | h1
        · have := lines_len l q (by rw [hq]; exact List.mem_cons_self ..)
          simp only [List.length_cons]; omega
        · have := lines_len l x (by rw [hq]; exact List.mem_cons_of_mem _ h1)
          simp only [List.length_cons]; omega

theorem trimNl_len (x : List UInt8) : (trimNl x).length ≤ x.length := by
  unfold trimNl Lib.trimSuffix
  split
  · rw [List.length_take]; omega
  · exact Nat.le_refl _

/-- What Read leaves. -/
def ReadPost (w : World) (r : List Stp × Nat × Int) (e : Ending) (w' : World) : Prop :=
  ∃ v, e = .returned (.tuple #[v, .int .i64 (r.2.1 : Nat), .int .i64 r.2.2]) ∧ Own w' 23 3 v r.1.length (r.1.flatMap encP) ∧ (∀ b, v.ownBlock = some b → w.heap.size ≤ b) ∧ Keeps NoBlock w w'

theorem stores3 {W : World} {r2 r3 r4 : Nat} {t2 t3 t4 : TypeId} {x2 x3 x4 : Value} (n23 : r2 ≠ r3) (n24 : r2 ≠ r4) (n34 : r3 ≠ r4) (h2 : W.heap[r2]? = some (.cells #[x2] t2 (0, 0))) (h3 : W.heap[r3]? = some (.cells #[x3] t3 (0, 0))) (h4 : W.heap[r4]? = some (.cells #[x4] t4 (0, 0))) (u2 u3 u4 : Value) :
    Keeps (fun b => b = r2 ∨ b = r3 ∨ b = r4) W (((W.setCell ⟨r2, 0, none⟩ u2).setCell ⟨r3, 0, none⟩ u3).setCell ⟨r4, 0, none⟩ u4) ∧ (((W.setCell ⟨r2, 0, none⟩ u2).setCell ⟨r3, 0, none⟩ u3).setCell ⟨r4, 0, none⟩ u4).heap[r2]? = some (.cells #[u2] t2 (0, 0)) ∧
    (((W.setCell ⟨r2, 0, none⟩ u2).setCell ⟨r3, 0, none⟩ u3).setCell ⟨r4, 0, none⟩ u4).heap[r3]? = some (.cells #[u3] t3 (0, 0)) ∧ (((W.setCell ⟨r2, 0, none⟩ u2).setCell ⟨r3, 0, none⟩ u3).setCell ⟨r4, 0, none⟩ u4).heap[r4]? = some (.cells #[u4] t4 (0, 0)) := by
  have a2 : (W.setCell ⟨r2, 0, none⟩ u2).heap[r2]? = some (.cells #[u2] t2 (0, 0)) := block_set h2 u2
  have a3 : (W.setCell ⟨r2, 0, none⟩ u2).heap[r3]? = some (.cells #[x3] t3 (0, 0)) := (block_set_ne (p := ⟨r2, 0, none⟩) (Ne.symm n23) u2).trans h3
  have a4 : (W.setCell ⟨r2, 0, none⟩ u2).heap[r4]? = some (.cells #[x4] t4 (0, 0)) := (block_set_ne (p := ⟨r2, 0, none⟩) (Ne.symm n24) u2).trans h4
  have b2 := (block_set_ne (w := W.setCell ⟨r2, 0, none⟩ u2) (p := ⟨r3, 0, none⟩) n23 u3).trans a2
  have b3 : ((W.setCell ⟨r2, 0, none⟩ u2).setCell ⟨r3, 0, none⟩ u3).heap[r3]? = some (.cells #[u3] t3 (0, 0)) := block_set a3 u3
  have b4 := (block_set_ne (w := W.setCell ⟨r2, 0, none⟩ u2) (p := ⟨r3, 0, none⟩) (Ne.symm n34) u3).trans a4
  refine ⟨?_, (block_set_ne (p := ⟨r4, 0, none⟩) n24 u4).trans b2, (block_set_ne (p := ⟨r4, 0, none⟩) n34 u4).trans b3, block_set b4 u4⟩
  exact (((Keeps.refl _ W).setCell (p := ⟨r2, 0, none⟩) (.inl (.inl rfl)) u2).setCell (p := ⟨r3, 0, none⟩) (.inl (.inr (.inl rfl))) u3).setCell (p := ⟨r4, 0, none⟩) (.inl (.inr (.inr rfl))) u4

set_option maxRecDepth 100000 in
set_option maxHeartbeats 2000000 in
theorem read_calls (s : ByteArray) (w : World) (hg : Gl w) (hs : s.size ≤ 4000000000) : Calls Tryd.prog 16 #[.string s] w (ReadPost w (readB [] (linesOf s.data.toList))) := by
  refine (callsIn_wide (n := 9)).1 ?_
  refine callsIn_of_wp_marks Tryd.func16 rfl trivial ?_ rfl
  simp only [Tryd.ntmps16, List.size_toArray, List.length_cons, List.length_nil, Nat.reduceAdd, Nat.reduceSub, Array.replicate_succ, Array.replicate_zero, List.push_toArray, List.append_toArray, List.nil_append, List.cons_append]
  gi_wp2_with (refine ⟨trivial, ?_⟩; gi_at_call 34; refine (callsIn_wide.2 (lines_calls s _)).mono ?_; rintro e w1 ⟨rfl, rfl⟩)
  obtain ⟨W0, hW0⟩ : ∃ W0, ((((w.alloc (.cells #[.slice none 0 0] 34 (0, 0))).alloc (.cells #[.int .i64 0] 3 (0, 0))).alloc (.cells #[.int .i64 0] 24 (0, 0))).alloc (.cells #[.slice none 0 0] 34 (0, 0))).alloc (.cells #[.string s] 9 (0, 0)) = W0 := ⟨_, rfl⟩
  have k0 : Keeps NoBlock w W0 := by rw [← hW0]; exact (((((Keeps.refl NoBlock w).alloc _).alloc _).alloc _).alloc _).alloc _
  have a2 : W0.heap[w.heap.size]? = some (.cells #[.slice none 0 0] 34 (0, 0)) := by rw [← hW0]; exact block_alloc_old (block_alloc_old (block_alloc_old (block_alloc_old (blk_new rfl))))
  have a3 : W0.heap[w.heap.size + 1]? = some (.cells #[.int .i64 0] 3 (0, 0)) := by rw [← hW0]; exact block_alloc_old (block_alloc_old (block_alloc_old (blk_new (by simp))))
  have a4 : W0.heap[w.heap.size + 1 + 1]? = some (.cells #[.int .i64 0] 24 (0, 0)) := by rw [← hW0]; exact block_alloc_old (block_alloc_old (blk_new (by simp)))
  have a5 : W0.heap[w.heap.size + 1 + 1 + 1]? = some (.cells #[.slice none 0 0] 34 (0, 0)) := by rw [← hW0]; exact block_alloc_old (blk_new (by simp))
  have aB : W0.heap[w.heap.size + 1 + 1 + 1 + 1]? = some (.cells #[.string s] 9 (0, 0)) := by rw [← hW0]; exact blk_new (by simp)
  have hz0 : W0.heap.size = w.heap.size + 5 := by rw [← hW0]; simp
  rw [hW0]
  obtain ⟨r2, hr2⟩ : ∃ r2, w.heap.size = r2 := ⟨_, rfl⟩
  rw [hr2] at a2 a3 a4 a5 aB ⊢
  obtain ⟨r3, hr3⟩ : ∃ r3, r2 + 1 = r3 := ⟨_, rfl⟩
  rw [hr3] at a3 a4 a5 aB ⊢
  obtain ⟨r4, hr4⟩ : ∃ r4, r3 + 1 = r4 := ⟨_, rfl⟩
  rw [hr4] at a4 a5 aB ⊢
  obtain ⟨o5, hr5⟩ : ∃ o5, r4 + 1 = o5 := ⟨_, rfl⟩
  rw [hr5] at a5 aB ⊢
  obtain ⟨B, hrB⟩ : ∃ B, o5 + 1 = B := ⟨_, rfl⟩
  rw [hrB] at aB ⊢
  obtain ⟨ls, hls⟩ : ∃ ls, linesOf s.data.toList = ls := ⟨_, rfl⟩
  have hKB : ∀ b, KB B W0 b → b = B ∨ b = W0.heap.size ∨ b = W0.heap.size + 1 := fun b h => h
  have hxl : ∀ x ∈ ls, x.length ≤ 4000000000 := fun x hx => by
    rw [← hls] at hx
    have := lines_len _ _ hx
    rw [← Lib.size_eq] at this
    omega
  refine wpIn_rangeB rfl (by decide) (gf := 59) (lb := #[.pointer (some ⟨B, 0, none⟩)]) rfl trivial (enters_of Tryd.func59 (by kernel_rfl) rfl) (encs := fun x : List UInt8 => #[S x]) (B := B) (xs := ls) (by omega)
    (fun W k => by rw [← hls]; exact lines_gives _ (by decide) s B W (by omega) ((k.block _ (lt_of_block aB) (fun e => e)).trans aB)) (fun _ => rfl)
    (RI w W0 r2 r3 r4 o5 ls) (fun c _ W => RX w r2 r3 r4 ls c W)
    (fun pre A A' h k => h.keeps k (fun b hb => by have := hKB b hb; omega) (fun hb => by have := hKB _ hb; omega) (fun hb => by have := hKB _ hb; omega) (fun hb => by have := hKB _ hb; omega) (fun hb => by have := hKB _ hb; omega) (fun b hb hb2 => by have := hKB _ hb2; omega))
    (fun c pre A A' h k => h.keeps k (fun b hb => by have := hKB b hb; omega) (fun hb => by have := hKB _ hb; omega) (fun hb => by have := hKB _ hb; omega) (fun hb => by have := hKB _ hb; omega))
    (fun W k => ⟨⟨none, 0, [], (k.block _ (lt_of_block a5) (fun e => e)).trans a5, World.ownsRow_nil _ _ _ _, (fun b hb => by simp [Value.ownBlock] at hb), (fun rest h => by rw [h]; rfl), by simp⟩, (k.block _ (lt_of_block a2) (fun e => e)).trans a2, (k.block _ (lt_of_block a3) (fun e => e)).trans a3, (k.block _ (lt_of_block a4) (fun e => e)).trans a4, k0.trans k (fun _ _ e => e)⟩)
    (fun x => { tmps := #[.string s, undef, .pointer (some ⟨r2, 0, none⟩), .pointer (some ⟨r3, 0, none⟩), .pointer (some ⟨r4, 0, none⟩), .pointer (some ⟨o5, 0, none⟩), S x, undef, undef, .string s, .func (.func 59) #[] #[.pointer (some ⟨B, 0, none⟩)], S x, undef, undef, undef, undef, undef, undef, undef, undef, undef, undef, undef, undef, undef, undef, undef, undef, undef, undef, undef, undef], defers := [] }) ?assign ?body ?done ?stop
  case assign =>
    intro l x W K hK
    gi_wp2
    exact hK
  case body =>
    intro l pre x rest W hxs hri hsz
    obtain ⟨⟨A, c, xs, q5, qo, qf, qr, ql⟩, q2, q3, q4, qk⟩ := hri
    have hrd := Lib.hid (qr (x :: rest) hxs)
    have hxm : x.length ≤ 4000000000 := hxl x (by rw [hxs]; simp)
    have c5 : W.cell? ⟨o5, 0, none⟩ = some (.slice A xs.length c) := cell_of_block (o := 0) q5 rfl
    have f5 := frozen_of_block q5 (o := 0)
    have c2 : W.cell? ⟨r2, 0, none⟩ = some (.slice none 0 0) := cell_of_block (o := 0) q2 rfl
    have c3 : W.cell? ⟨r3, 0, none⟩ = some (.int .i64 0) := cell_of_block (o := 0) q3 rfl
    have c4 : W.cell? ⟨r4, 0, none⟩ = some (.int .i64 0) := cell_of_block (o := 0) q4 rfl
    have f2 := frozen_of_block q2 (o := 0)
    have f3 := frozen_of_block q3 (o := 0)
    have f4 := frozen_of_block q4 (o := 0)
    have Q5 := Lib.hid q5
    have Q2 := Lib.hid q2
    have Q3 := Lib.hid q3
    have Q4 := Lib.hid q4
    have QO := Lib.hid qo
    have QF := Lib.hid qf
    have QK := Lib.hid qk
    have hn23 : r2 ≠ r3 := by omega
    have hn24 : r2 ≠ r4 := by omega
    have hn32 : r3 ≠ r2 := by omega
    have hn34 : r3 ≠ r4 := by omega
    have hn42 : r4 ≠ r2 := by omega
    have hn43 : r4 ≠ r3 := by omega
    have HLS := Lib.hid hls
    have HW0 := Lib.hid hW0
    have hnk : Hid (∀ b, b = r2 ∨ b = r3 ∨ b = r4 ∨ b = o5 → ¬ KB B W0 b ∧ w.heap.size ≤ b) := fun b hb => ⟨fun e => by have := hKB b e; omega, by omega⟩
    have hsts : Hid (∀ n e W', Keeps (fun b => b = r2 ∨ b = r3 ∨ b = r4) W W' → readB [] ls = ([], n, e) → W'.heap[r2]? = some (.cells #[.slice none 0 0] 34 (0, 0)) → W'.heap[r3]? = some (.cells #[.int .i64 (n : Nat)] 3 (0, 0)) → W'.heap[r4]? = some (.cells #[.int .i64 e] 24 (0, 0)) → Keeps (fun b => ¬ KB B W0 b) W W' ∧ RX w r2 r3 r4 ls .ret W') := fun n e W' k hr h2 h3 h4 =>
      ⟨k.mono (fun b _ hb => (hnk.out b (by omega)).1), rfl, ⟨n, e, hr, h2, h3, h4⟩, QK.out.trans k (fun b hb hh => by have := (hnk.out b (by omega)).2; omega)⟩
    clear q5 q2 q3 q4 qo qf qr qk hls hW0 a2 a3 a4 a5 aB k0
    by_cases hfull : 65536 ≤ xs.length
    · have hfz : (65536 : Int) ≤ (xs.length : Int) := by omega
      have hr9 : Hid (readB [] ls = ([], 0, 9)) := by show _ = _; rw [hrd.out, readB_full hfull]
      clear hrd
      gi_wp2
      obtain ⟨e1, e2, e3, e4⟩ := stores3 hn23 hn24 hn34 Q2.out Q3.out Q4.out (.slice none 0 0) (.int .i64 0) (.int .i64 9)
      exact hsts.out 0 9 _ e1 hr9.out e2 e3 e4
    · have hfz : (xs.length : Int) < 65536 := by omega
      have htr : Hid (∀ w, Calls Tryd.prog 35 #[S x, .string { data := #[10] }] w fun e w' => e = .returned (S (trimNl x)) ∧ w = w') := fun w => trim_calls ⟨x.toArray⟩ ⟨#[10]⟩ w (by rw [Lib.size_mk]; omega)
      have hst := Lib.hid (step_list (trimNl x) W (hg.on QK.out) (by have := trimNl_len x; omega))
      have hwl : IntKind.i64.wrap ((xs.length : Int) + 1) = (xs.length : Int) + 1 := by rw [IntKind.wrap_i64]; omega
      cases hsb : stepB (trimNl x) with
      | none =>
        rw [hsb] at hst
        simp only [stepR] at hst
        have hr7 : Hid (readB [] ls = ([], xs.length + 1, 7)) := by show _ = _; rw [hrd.out, readB_bad hfull hsb]
        have hfd : decide ((65536 : Int) ≤ (xs.length : Int)) = false := decide_eq_false (by omega)
        have hfd2 : decide (65536 ≤ xs.length) = false := decide_eq_false (by omega)
        clear hrd hsb hfull ql hxm hfz
        gi_wp2_with (refine ⟨trivial, ?_⟩; gi_at_call 35; refine (CallsIn.inRound l (callsIn_wide.2 (htr.out _))).mono ?_; rintro e w2 ⟨rfl, rfl⟩)
        refine ⟨trivial, ?_⟩
        gi_at_call 15
        refine (CallsIn.inRound l (callsIn_wide.2 hst.out)).mono ?_
        rintro e w2 ⟨rfl, k2⟩
        obtain ⟨w3, hW⟩ : ∃ w3, World.alloc w2 (.cells #[.int .i64 0, .int .i64 0, .int .i64 0] 23) = w3 := ⟨_, rfl⟩
        have hb3 : w3.heap[w2.heap.size]? = some (.cells #[.int .i64 0, .int .i64 0, .int .i64 0] 23 (0, 0)) := by rw [← hW]; exact block_alloc_new _ _
        have k3 : Keeps NoBlock W w3 := by rw [← hW]; exact k2.alloc _
        obtain ⟨q, hq⟩ : ∃ q, w2.heap.size = q := ⟨_, rfl⟩
        have hqW : W.heap.size ≤ q := by rw [← hq]; exact k2.size
        rw [hq] at hb3
        have e0 : w3.cell? ⟨q, 0, none⟩ = some (.int .i64 0) := cell_of_block (o := 0) hb3 rfl
        have e1 : w3.cell? ⟨q, 1, none⟩ = some (.int .i64 0) := cell_of_block (o := 1) hb3 rfl
        have e2 : w3.cell? ⟨q, 2, none⟩ = some (.int .i64 0) := cell_of_block (o := 2) hb3 rfl
        have g0 := frozen_of_block hb3 (o := 0)
        have g1 := frozen_of_block hb3 (o := 1)
        have g2' := frozen_of_block hb3 (o := 2)
        obtain ⟨w4, hW4⟩ : ∃ w4, ((w3.setCell ⟨q, 0, none⟩ (.int .i64 (0))).setCell ⟨q, 1, none⟩ (.int .i64 (0))).setCell ⟨q, 2, none⟩ (.int .i64 (0)) = w4 := ⟨_, rfl⟩
        have k4 : Keeps NoBlock W w4 := by rw [← hW4]; exact ((k3.setCell (p := ⟨q, 0, none⟩) (.inr hqW) _).setCell (p := ⟨q, 1, none⟩) (.inr hqW) _).setCell (p := ⟨q, 2, none⟩) (.inr hqW) _
        have x4 : w4.heap[q]? = some (.cells #[.int .i64 (0), .int .i64 (0), .int .i64 (0)] 23 (0, 0)) := by rw [← hW4]; exact block_set (block_set (block_set hb3 _) _) _
        have p5 := (k4.block _ (lt_of_block Q5.out) (fun e => e)).trans Q5.out
        have p2 := (k4.block _ (lt_of_block Q2.out) (fun e => e)).trans Q2.out
        have p3 := (k4.block _ (lt_of_block Q3.out) (fun e => e)).trans Q3.out
        have p4 := (k4.block _ (lt_of_block Q4.out) (fun e => e)).trans Q4.out
        have d5 : w4.cell? ⟨o5, 0, none⟩ = some (.slice A xs.length c) := cell_of_block (o := 0) p5 rfl
        have d2 : w4.cell? ⟨r2, 0, none⟩ = some (.slice none 0 0) := cell_of_block (o := 0) p2 rfl
        have d3 : w4.cell? ⟨r3, 0, none⟩ = some (.int .i64 0) := cell_of_block (o := 0) p3 rfl
        have d4 : w4.cell? ⟨r4, 0, none⟩ = some (.int .i64 0) := cell_of_block (o := 0) p4 rfl
        have g5 := frozen_of_block p5 (o := 0)
        have g2 := frozen_of_block p2 (o := 0)
        have g3 := frozen_of_block p3 (o := 0)
        have g4 := frozen_of_block p4 (o := 0)
        have d6 : w4.cell? ⟨q, 0, none⟩ = some (.int .i64 (0)) := cell_of_block (o := 0) x4 rfl
        have d7 : w4.cell? ⟨q, 1, none⟩ = some (.int .i64 (0)) := cell_of_block (o := 1) x4 rfl
        have d8 : w4.cell? ⟨q, 2, none⟩ = some (.int .i64 (0)) := cell_of_block (o := 2) x4 rfl
        have P5 := Lib.hid p5
        have P2 := Lib.hid p2
        have P3 := Lib.hid p3
        have P4 := Lib.hid p4
        have K4 := Lib.hid k4
        have HQ := Lib.hid hqW
        clear c5 f5 c2 c3 c4 f2 f3 f4 k2 k3 k4 p5 p2 p3 p4 x4 hb3 hqW
        gi_wp2
        obtain ⟨s1, s2, s3, s4⟩ := stores3 hn23 hn24 hn34 P2.out P3.out P4.out (.slice none 0 0) (.int .i64 ((xs.length : Int) + 1)) (.int .i64 7)
        have hfin : Hid (Keeps (fun b => ¬ KB B W0 b) W (((w4.setCell ⟨r2, 0, none⟩ (.slice none 0 0)).setCell ⟨r3, 0, none⟩ (.int .i64 ((xs.length : Int) + 1))).setCell ⟨r4, 0, none⟩ (.int .i64 7)).drew ∧ RX w r2 r3 r4 ls .ret (((w4.setCell ⟨r2, 0, none⟩ (.slice none 0 0)).setCell ⟨r3, 0, none⟩ (.int .i64 ((xs.length : Int) + 1))).setCell ⟨r4, 0, none⟩ (.int .i64 7)).drew) := by
          refine hsts.out (xs.length + 1) 7 _ ((K4.out.mono (S' := fun b => b = r2 ∨ b = r3 ∨ b = r4) (fun _ _ e => e.elim)).trans s1 (fun _ _ e => e)).drew hr7.out s2 (by rw [show (((xs.length + 1 : Nat)) : Int) = (xs.length : Int) + 1 by omega]; exact s3) s4
        clear s1 s2 s3 s4
        gi_region
        all_goals
          gi_wp2
          exact hfin.out
      | some y =>
        rw [hsb] at hst
        simp only [stepR] at hst
        have hrn : Hid (∀ rest', ls = (pre ++ [x]) ++ rest' → readB [] ls = readB (xs ++ [y]) rest') := fun rest' e => by
          have hr' : rest' = rest := by
            rw [hxs] at e
            simpa using e.symm
          subst hr'
          rw [hrd.out, readB_next hfull hsb]
        have hxl5 : Hid (xs.length + 1 ≤ 65536) := by show _ ≤ _; omega
        obtain ⟨yk, ya, yb⟩ := y
        have hfd : decide ((65536 : Int) ≤ (xs.length : Int)) = false := decide_eq_false (by omega)
        have hfd2 : decide (65536 ≤ xs.length) = false := decide_eq_false (by omega)
        have hxsm : Hid (xs.length < 65536) := by show _ < _; omega
        clear hrd hsb hfull ql hxm hfz
        gi_wp2_with (refine ⟨trivial, ?_⟩; gi_at_call 35; refine (CallsIn.inRound l (callsIn_wide.2 (htr.out _))).mono ?_; rintro e w2 ⟨rfl, rfl⟩)
        refine ⟨trivial, ?_⟩
        gi_at_call 15
        refine (CallsIn.inRound l (callsIn_wide.2 hst.out)).mono ?_
        rintro e w2 ⟨rfl, k2⟩
        obtain ⟨w3, hW⟩ : ∃ w3, World.alloc w2 (.cells #[.int .i64 0, .int .i64 0, .int .i64 0] 23) = w3 := ⟨_, rfl⟩
        have hb3 : w3.heap[w2.heap.size]? = some (.cells #[.int .i64 0, .int .i64 0, .int .i64 0] 23 (0, 0)) := by rw [← hW]; exact block_alloc_new _ _
        have k3 : Keeps NoBlock W w3 := by rw [← hW]; exact k2.alloc _
        obtain ⟨q, hq⟩ : ∃ q, w2.heap.size = q := ⟨_, rfl⟩
        have hqW : W.heap.size ≤ q := by rw [← hq]; exact k2.size
        rw [hq] at hb3
        have e0 : w3.cell? ⟨q, 0, none⟩ = some (.int .i64 0) := cell_of_block (o := 0) hb3 rfl
        have e1 : w3.cell? ⟨q, 1, none⟩ = some (.int .i64 0) := cell_of_block (o := 1) hb3 rfl
        have e2 : w3.cell? ⟨q, 2, none⟩ = some (.int .i64 0) := cell_of_block (o := 2) hb3 rfl
        have g0 := frozen_of_block hb3 (o := 0)
        have g1 := frozen_of_block hb3 (o := 1)
        have g2' := frozen_of_block hb3 (o := 2)
        obtain ⟨w4, hW4⟩ : ∃ w4, ((w3.setCell ⟨q, 0, none⟩ (.int .i64 (yk))).setCell ⟨q, 1, none⟩ (.int .i64 (ya))).setCell ⟨q, 2, none⟩ (.int .i64 (yb)) = w4 := ⟨_, rfl⟩
        have k4 : Keeps NoBlock W w4 := by rw [← hW4]; exact ((k3.setCell (p := ⟨q, 0, none⟩) (.inr hqW) _).setCell (p := ⟨q, 1, none⟩) (.inr hqW) _).setCell (p := ⟨q, 2, none⟩) (.inr hqW) _
        have x4 : w4.heap[q]? = some (.cells #[.int .i64 (yk), .int .i64 (ya), .int .i64 (yb)] 23 (0, 0)) := by rw [← hW4]; exact block_set (block_set (block_set hb3 _) _) _
        have p5 := (k4.block _ (lt_of_block Q5.out) (fun e => e)).trans Q5.out
        have p2 := (k4.block _ (lt_of_block Q2.out) (fun e => e)).trans Q2.out
        have p3 := (k4.block _ (lt_of_block Q3.out) (fun e => e)).trans Q3.out
        have p4 := (k4.block _ (lt_of_block Q4.out) (fun e => e)).trans Q4.out
        have d5 : w4.cell? ⟨o5, 0, none⟩ = some (.slice A xs.length c) := cell_of_block (o := 0) p5 rfl
        have d2 : w4.cell? ⟨r2, 0, none⟩ = some (.slice none 0 0) := cell_of_block (o := 0) p2 rfl
        have d3 : w4.cell? ⟨r3, 0, none⟩ = some (.int .i64 0) := cell_of_block (o := 0) p3 rfl
        have d4 : w4.cell? ⟨r4, 0, none⟩ = some (.int .i64 0) := cell_of_block (o := 0) p4 rfl
        have g5 := frozen_of_block p5 (o := 0)
        have g2 := frozen_of_block p2 (o := 0)
        have g3 := frozen_of_block p3 (o := 0)
        have g4 := frozen_of_block p4 (o := 0)
        have d6 : w4.cell? ⟨q, 0, none⟩ = some (.int .i64 (yk)) := cell_of_block (o := 0) x4 rfl
        have d7 : w4.cell? ⟨q, 1, none⟩ = some (.int .i64 (ya)) := cell_of_block (o := 1) x4 rfl
        have d8 : w4.cell? ⟨q, 2, none⟩ = some (.int .i64 (yb)) := cell_of_block (o := 2) x4 rfl
        have P5 := Lib.hid p5
        have P2 := Lib.hid p2
        have P3 := Lib.hid p3
        have P4 := Lib.hid p4
        have K4 := Lib.hid k4
        have HQ := Lib.hid hqW
        clear c5 f5 c2 c3 c4 f2 f3 f4 k2 k3 k4 p5 p2 p3 p4 x4 hb3 hqW
        have hqo : Hid (Own w4 23 3 (.slice A xs.length c) xs.length (xs.flatMap encP)) := QO.out.keeps K4.out (fun _ _ e => e)
        have hq5 : Hid (∀ k, (Value.slice A xs.length c).ownBlock = some k → k ≠ o5 ∧ k < W.heap.size) := fun k hk => ⟨by have := QF.out k hk; have := HW0.out; omega, QO.out.lt k hk⟩
        have hlt5 : o5 < w4.heap.size := lt_of_block P5.out
        gi_wp2_with (gi_at_builtin; refine wpListIn_appN eP _ rfl _ _ rfl (.slice A xs.length c) xs.length (xs.flatMap encP) rfl (World.ownsRow.alloc hqo.out _) ⟨w4.heap.size, 0, none⟩ 1 1 [.int .i64 yk, .int .i64 ya, .int .i64 yb] rfl rfl (newsB (e := 23) (block_alloc_new w4 _)) ?_ ?_ ?_ ?_)
        · simp [Value.oneCell']
        · have := hxsm.out; simp only [maxLen]; omega
        · have := hxsm.out; omega
        rintro v5 w5 ho5 hg5 hf5 g c9 rfl
        have k5 : Keeps (fun k => (Value.slice A xs.length c).ownBlock = some k) w4 w5 := Keeps.grown ((Keeps.refl _ w4).alloc _) hg5 (fun k hk => .inl hk)
        have b5 := (k5.block _ hlt5 (fun e => (hq5.out _ e).1 rfl)).trans P5.out
        have m5 : w5.cell? ⟨o5, 0, none⟩ = some (.slice A xs.length c) := cell_of_block (o := 0) b5 rfl
        have n5 := frozen_of_block b5 (o := 0)
        have hgo : ∀ b, (Value.slice (some ⟨g, 0, none⟩) (xs.length + 1) c9).ownBlock = some b → W0.heap.size + 2 ≤ b ∧ b ≠ o5 := fun b hb => by
          rcases hf5 b hb with h | h
          · exact ⟨QF.out b h, (hq5.out b h).1⟩
          · have := K4.out.size
            exact ⟨by omega, by omega⟩
        have hfin : Hid (Keeps (fun b => ¬ KB B W0 b) W (w5.setCell ⟨o5, 0, none⟩ (.slice (some ⟨g, 0, none⟩) (xs.length + 1) c9)) ∧ RI w W0 r2 r3 r4 o5 ls (pre ++ [x]) (w5.setCell ⟨o5, 0, none⟩ (.slice (some ⟨g, 0, none⟩) (xs.length + 1) c9))) := by
          have kk : Keeps (fun b => (Value.slice A xs.length c).ownBlock = some b ∨ b = o5) W (w5.setCell ⟨o5, 0, none⟩ (.slice (some ⟨g, 0, none⟩) (xs.length + 1) c9)) := ((K4.out.mono (S' := fun b => (Value.slice A xs.length c).ownBlock = some b ∨ b = o5) (fun _ _ e => e.elim)).trans k5 (fun _ _ e => .inl e)).setCell (p := ⟨o5, 0, none⟩) (.inl (.inr rfl)) _
          have nb : ∀ b, ((Value.slice A xs.length c).ownBlock = some b ∨ b = o5) → ¬ KB B W0 b ∧ w.heap.size ≤ b ∧ b ≠ r2 ∧ b ≠ r3 ∧ b ≠ r4 := fun b hb => by
            rcases hb with hb | rfl
            · have := QF.out b hb
              have := HW0.out
              exact ⟨fun e => by have := hKB b e; omega, by omega, by omega, by omega, by omega⟩
            · exact ⟨(hnk.out b (by omega)).1, (hnk.out b (by omega)).2, by omega, by omega, by omega⟩
          refine ⟨kk.mono (fun b _ hb => (nb b hb).1), ⟨⟨some ⟨g, 0, none⟩, c9, xs ++ [⟨yk, ya, yb⟩], ?_, ?_, ?_, hrn.out, ?_⟩, ?_, ?_, ?_, QK.out.trans kk (fun b hb hh => by have := (nb b hh).2.1; omega)⟩⟩
          · rw [List.length_append, List.length_singleton]
            exact block_set b5 _
          · rw [List.length_append, List.length_singleton, List.flatMap_append]
            exact (ho5.keeps ((Keeps.refl (fun b => b = o5) w5).setCell (p := ⟨o5, 0, none⟩) (.inl rfl) _) (fun b hb e => (hgo b hb).2 e))
          · rw [List.length_append, List.length_singleton]
            exact fun b hb => (hgo b hb).1
          · rw [List.length_append, List.length_singleton]
            exact hxl5.out
          · exact (kk.block _ (lt_of_block Q2.out) (fun e => (nb _ e).2.2.1 rfl)).trans Q2.out
          · exact (kk.block _ (lt_of_block Q3.out) (fun e => (nb _ e).2.2.2.1 rfl)).trans Q3.out
          · exact (kk.block _ (lt_of_block Q4.out) (fun e => (nb _ e).2.2.2.2 rfl)).trans Q4.out
        clear ho5 hg5 hf5 k5 b5 hgo
        gi_wp2
        exact hfin.out
  case done =>
    intro W hri hD hDl
    obtain ⟨⟨A, c, xs, q5, qo, qf, qr, ql⟩, q2, q3, q4, qk⟩ := hri
    have hrd := Lib.hid (qr [] (by simp))
    have c5 : W.cell? ⟨o5, 0, none⟩ = some (.slice A xs.length c) := cell_of_block (o := 0) q5 rfl
    have c2 : W.cell? ⟨r2, 0, none⟩ = some (.slice none 0 0) := cell_of_block (o := 0) q2 rfl
    have c3 : W.cell? ⟨r3, 0, none⟩ = some (.int .i64 0) := cell_of_block (o := 0) q3 rfl
    have c4 : W.cell? ⟨r4, 0, none⟩ = some (.int .i64 0) := cell_of_block (o := 0) q4 rfl
    have f2 := frozen_of_block q2 (o := 0)
    have f3 := frozen_of_block q3 (o := 0)
    have f4 := frozen_of_block q4 (o := 0)
    have hn23 : r2 ≠ r3 := by omega
    have hn24 : r2 ≠ r4 := by omega
    have hn34 : r3 ≠ r4 := by omega
    have hn32 : r3 ≠ r2 := by omega
    have hn42 : r4 ≠ r2 := by omega
    have hn43 : r4 ≠ r3 := by omega
    obtain ⟨s1, s2, s3, s4⟩ := stores3 hn23 hn24 hn34 q2 q3 q4 (.slice A xs.length c) (.int .i64 0) (.int .i64 0)
    obtain ⟨W9, hW9⟩ : ∃ W9, ((W.setCell ⟨r2, 0, none⟩ (.slice A xs.length c)).setCell ⟨r3, 0, none⟩ (.int .i64 0)).setCell ⟨r4, 0, none⟩ (.int .i64 0) = W9 := ⟨_, rfl⟩
    rw [hW9] at s1 s2 s3 s4
    have hD9 := (s1.block _ hDl (by omega)).trans hD
    have HS2 := Lib.hid s2
    have HS3 := Lib.hid s3
    have HS4 := Lib.hid s4
    have HS1 := Lib.hid s1
    have HD9 := Lib.hid hD9
    have QO := Lib.hid qo
    have QF := Lib.hid qf
    have QK := Lib.hid qk
    clear q5 q2 q3 q4 qo qf qr ql qk s1 s2 s3 s4 hD hD9 a2 a3 a4 a5 aB k0 hW0
    gi_wp2
    refine ⟨by simp, .inl ⟨_, _, rfl, run_takeDeferred HD9.out, ?_⟩⟩
    have kk : Keeps (fun b => b = r2 ∨ b = r3 ∨ b = r4 ∨ b = W0.heap.size) W (W9.putObj W0.heap.size (.deferred none)) := Keeps.putObj (HS1.out.mono (fun b _ h => by omega)) (.inl (.inr (.inr (.inr rfl)))) _
    have z2 : (W9.putObj W0.heap.size (.deferred none)).cell? ⟨r2, 0, none⟩ = some (.slice A xs.length c) := cell_of_block (o := 0) ((World.putObj_heap_other (k := r2) (by omega)).trans HS2.out) rfl
    have z3 : (W9.putObj W0.heap.size (.deferred none)).cell? ⟨r3, 0, none⟩ = some (.int .i64 0) := cell_of_block (o := 0) ((World.putObj_heap_other (k := r3) (by omega)).trans HS3.out) rfl
    have z4 : (W9.putObj W0.heap.size (.deferred none)).cell? ⟨r4, 0, none⟩ = some (.int .i64 0) := cell_of_block (o := 0) ((World.putObj_heap_other (k := r4) (by omega)).trans HS4.out) rfl
    have hr : readB [] (linesOf s.data.toList) = (xs, 0, 0) := by rw [hls, hrd.out]; rfl
    rw [hr]
    refine ⟨.tuple #[.slice A xs.length c, .int .i64 0, .int .i64 0], ?_, ⟨_, rfl, QO.out.keeps kk (fun b hb h => by have := QF.out b hb; omega), fun b hb => by have := QF.out b hb; omega, QK.out.trans kk (fun b hb h => by omega)⟩⟩
    simp [results, Tryd.f16, go_sem, z2, z3, z4]
  case stop =>
    intro c pre W hrx hD
    obtain ⟨rfl, ⟨n, e, h1, h2, h3, h4⟩, hk⟩ := hrx
    gi_wp2
    refine ⟨by simp, .inl ⟨_, _, rfl, run_takeDeferred hD, ?_⟩⟩
    have kk : Keeps NoBlock w (W.putObj W0.heap.size (.deferred none)) := Keeps.putObj hk (.inr (by omega)) _
    have z2 : (W.putObj W0.heap.size (.deferred none)).cell? ⟨r2, 0, none⟩ = some (.slice none 0 0) := cell_of_block (o := 0) ((World.putObj_heap_other (k := r2) (by omega)).trans h2) rfl
    have z3 : (W.putObj W0.heap.size (.deferred none)).cell? ⟨r3, 0, none⟩ = some (.int .i64 n) := cell_of_block (o := 0) ((World.putObj_heap_other (k := r3) (by omega)).trans h3) rfl
    have z4 : (W.putObj W0.heap.size (.deferred none)).cell? ⟨r4, 0, none⟩ = some (.int .i64 e) := cell_of_block (o := 0) ((World.putObj_heap_other (k := r4) (by omega)).trans h4) rfl
    rw [hls, h1]
    refine ⟨.tuple #[.slice none 0 0, .int .i64 n, .int .i64 e], ?_, ⟨_, rfl, World.ownsRow_nil _ _ _ _, fun b hb => by simp [Value.ownBlock] at hb, kk⟩⟩
    simp [results, Tryd.f16, go_sem, z2, z3, z4]

end Tl
end Go.Proofs.YthjefffefomioaaDoor
