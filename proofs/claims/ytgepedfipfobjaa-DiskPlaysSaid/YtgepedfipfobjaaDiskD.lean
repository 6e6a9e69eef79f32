/- Package disk: a request comes. -/
import Derived.Test.YtgepedfipfobjaaDiskB
import Derived.Deep.RegionLaw
import Derived.Deep.AppendLies
import Derived.Deep.DeepMust
namespace Go.Proofs.Ytgepedfipfobjaa
open Go.RowKit

theorem step_app {P : Program} {t e : TypeId} {z : Value} {size bytes : Nat} (E : Elem P t e z size bytes) {ops : Array Oper} {o : Oper} {a : Act} {w : World} {K : Act → World → Prop} {Q : Exit → Act → World → Prop} {F : Prop}
    (hg : o.guard = none) (s x : Operand) (hop : o.op = Op.call { callee := Callee.builtin Builtin.append, args := #[s, x], argTypes := #[t, t] })
    (v : Value) (n : Nat) (xs : List Value) (hs : a.eval s = v) (hown : Own w e size v n xs)
    (ad : Addr) (m c : Nat) (news : List Value) (hx : a.eval x = .slice (some ad) m c) (hl : news.length = m * size) (hnews : ∀ j u, news[j]? = some u → w.cell? (ad.add j) = some u) (h1 : ∀ u ∈ news, u.oneCell' = true)
    (h63 : n + m ≤ maxLen) (hbytes : (n + m) * bytes ≤ 140737488355328)
    (h : ∀ v' w', Own w' e size v' (n + m) (xs ++ news) → w.grownBy w' v.ownBlock → (∀ k, v'.ownBlock = some k → v.ownBlock = some k ∨ w.heap.size ≤ k) → (0 < m → ∃ g cap, v' = .slice (some ⟨g, 0, none⟩) (n + m) cap) → K (a.put o.dst v') w') :
    if Region.wanted o (yielded ops a.tmps) = true then Oper.wp P o a w K Q else F := by
  have hw : Region.wanted o (yielded ops a.tmps) = true := by simp [Region.wanted, hg]
  rw [if_pos hw]
  exact wp_app E w s x hop v n xs hs hown ad m c news hx hl hnews h1 h63 hbytes h

theorem ask_nil (r : Req) (w : World) : Calls Try.prog 11 #[.pointer none, .agg #[.int .i64 r.who, .int .i64 r.block, .bool r.write, .int .u64 r.x]] w fun e w' => e = .returned (.int .i64 1) ∧ Keeps NoBlock w w' := by
  go_enter Try.func11, Try.ntmps11
  go_wp2_with fail
  go_quiet (fail)
  go_wp2_with fail
  go_ret
  exact ⟨rfl, ((Keeps.refl _ _).alloc _).drewN _⟩

theorem ask_out {F : Nat → Prop} (d : Nat) (bs : List Int) (ws : List Req) (r : Req) (w : World) (h : DiskAt F w d bs ws) (hx : r.block < 0 ∨ (bs.length : Int) ≤ r.block) :
    Calls Try.prog 11 #[.pointer (some ⟨d, 0, none⟩), .agg #[.int .i64 r.who, .int .i64 r.block, .bool r.write, .int .u64 r.x]] w fun e w' => e = .returned (.int .i64 1) ∧ Keeps NoBlock w w' := by
  obtain ⟨bb, A, cap, h⟩ := h
  have hc := cell_of_block h.head (o := 0) rfl
  have hl := h.lenb
  have hd := h.lt.1
  have hne : d ≠ w.heap.size := by omega
  clear h
  rcases hx with hx | hx
  · have hb : decide (r.block < 0) = true := by simpa using hx
    go_enter Try.func11, Try.ntmps11
    go_wp2_with fail
    go_quiet (fail)
    go_wp2_with fail
    go_ret
    exact ⟨rfl, ((Keeps.refl _ _).alloc _).drewN _⟩
  · have hb : decide (r.block < 0) = false := by simp; omega
    have hb' : decide ((bs.length : Int) ≤ r.block) = true := by simpa using hx
    go_enter Try.func11, Try.ntmps11
    go_wp2_with fail
    go_quiet (fail)
    go_wp2_with fail
    go_ret
    exact ⟨rfl, ((Keeps.refl _ _).alloc _).drewN _⟩

def AskPost (F : Nat → Prop) (w : World) (d : Nat) (bs : List Int) (ws : List Req) (e : Ending) (w' : World) : Prop :=
  ∃ F', e = .returned (.int .i64 0) ∧ DiskAt F' w' d bs ws ∧ Keeps F w w' ∧ Grows F F' w

set_option maxRecDepth 100000 in
theorem ask_busy {F : Nat → Prop} (d : Nat) (bs : List Int) (ws : List Req) (r : Req) (w : World) (h : DiskAt F w d bs ws) (h0 : 0 ≤ r.block) (h1 : r.block < bs.length) (hw : (ws.any fun x => x.who == r.who) = true) :
    Calls Try.prog 11 #[.pointer (some ⟨d, 0, none⟩), .agg #[.int .i64 r.who, .int .i64 r.block, .bool r.write, .int .u64 r.x]] w fun e w' => e = .returned (.int .i64 4) ∧ Keeps NoBlock w w' := by
  obtain ⟨bb, A, cap, h⟩ := h
  have hc := cell_of_block h.head (o := 0) rfl
  have hc1 := cell_of_block h.head (o := 1) rfl
  have hl := h.lenb
  have hd := h.lt.1
  have hne : d ≠ w.heap.size := by omega
  have hb : decide (r.block < 0) = false := by simp; omega
  have hb' : decide ((bs.length : Int) ≤ r.block) = false := by simp; omega
  have Hh := Lib.hid h
  have Hw := Lib.hid hw
  clear h hw
  go_enter Try.func11, Try.ntmps11
  go_wp2_with fail
  go_quiet (fail)
  go_wp2_with fail
  generalize hW : World.drewN _ _ = w1
  have k1 : Keeps NoBlock w w1 := by rw [← hW]; exact ((Keeps.refl _ _).alloc _).drewN _
  have b1 : w1.heap[w.heap.size]? = some (.cells #[.int .i64 r.who, .int .i64 r.block, .bool r.write, .int .u64 r.x] 29 (0, 0)) := by rw [← hW]; exact block_alloc_new _ _
  clear hW
  have h1' := Hh.out.keeps k1 (fun _ _ h => h)
  refine (contR_calls _ ws w1 h1'.wait (by have := h1'.lenw; omega) r.who w.heap.size (lt_of_block b1) (cell_of_block b1 rfl)).mono ?_
  rintro e w2 ⟨rfl, hk2⟩
  have HH := Lib.hid h1'
  have HB := Lib.hid b1
  have HK := Lib.hid (k1.trans hk2 (fun _ _ h => h))
  have HK2 := Lib.hid hk2
  rw [Hw.out]
  clear h1' b1 k1 hk2
  go_wp2_with fail
  go_ret
  exact ⟨rfl, HK.out⟩

theorem DiskIn.asked {F : Nat → Prop} {w w2 w3 : World} {d bb g3 c3 cap : Nat} {A : Option Addr} {bs : List Int} {ws : List Req} (h : DiskIn F w2 d bb A cap bs ws) (hk : Keeps NoBlock w w2) (r : Req) (h0 : 0 ≤ r.block) (h1 : r.block < bs.length) (hl : ws.length < 1000) {o : Obj}
    (ho : Own w3 29 4 (.slice (some ⟨g3, 0, none⟩) (ws.length + 1) c3) (ws.length + 1) (ws.flatMap encR ++ encR r)) (hg : World.grownBy (w2.alloc o).drew w3 (Value.slice A ws.length cap).ownBlock)
    (hf : (Value.slice A ws.length cap).ownBlock = some g3 ∨ w2.heap.size + 1 ≤ g3) : AskPost F w d bs (ws ++ [r]) (.returned (.int .i64 0)) (w3.setCell ⟨d, 1, none⟩ (.slice (some ⟨g3, 0, none⟩) (ws.length + 1) c3)) := by
  have hlt := h.lt
  have hnd : (Value.slice A ws.length cap).ownBlock ≠ some d := fun h' => (h.nd d h').1 rfl
  have hd3 : w3.heap[d]? = some (.cells #[.slice (some ⟨bb, 0, none⟩) bs.length bs.length, .slice A ws.length cap] 65 (0, 0)) := blk_grown hg hnd (blk_drew (block_alloc_old h.head))
  have kg : Keeps (fun k => (Value.slice A ws.length cap).ownBlock = some k) w2 w3 := (((Keeps.refl _ w2).alloc o).drew).grown hg (fun k hk => .inl hk)
  have hgd : g3 ≠ d ∧ g3 ≠ bb := by
    rcases hf with hf | hf
    · exact ⟨(h.nd _ hf).1, (h.nd _ hf).2.1⟩
    · omega
  have kd : Keeps (fun k => k = d) w3 (w3.setCell ⟨d, 1, none⟩ (.slice (some ⟨g3, 0, none⟩) (ws.length + 1) c3)) := (Keeps.refl (fun k => k = d) w3).set (.inl rfl) _
  have hlen : (ws ++ [r]).length = ws.length + 1 := by simp
  refine ⟨fun k => F k ∨ k = g3, rfl, ⟨bb, some ⟨g3, 0, none⟩, c3, ?_, ?_, ?_, h.ne, ?_, ⟨.inl h.foot.1, .inl h.foot.2⟩, h.lenb, by omega, ?_, ?_⟩, ?_, ?_⟩
  · rw [hlen]; exact block_set hd3 _
  · refine (h.blocks.keeps kg (fun b hb hh => ?_)).keeps kd (fun b hb hh => ?_)
    · simp [Value.ownBlock] at hb; subst hb; exact (h.nd _ hh).2.1 rfl
    · simp [Value.ownBlock] at hb; subst hb; exact h.ne hh.symm
  · rw [hlen, List.flatMap_append, List.flatMap_singleton]
    exact ho.keeps kd (fun b hb hh => by simp [Value.ownBlock] at hb; subst hb; exact hgd.1 hh)
  · intro k hk
    simp [Value.ownBlock] at hk
    subst hk
    exact ⟨hgd.1, hgd.2, .inr rfl⟩
  · intro q hq
    rcases List.mem_append.1 hq with hq | hq
    · exact h.ok q hq
    · simp at hq; subst hq; exact ⟨h0, h1⟩
  · intro k hk'
    have := kd.size
    have := kg.size
    have := ho.lt g3 rfl
    rcases hk' with hk' | rfl
    · have := h.flt k hk'; omega
    · omega
  · have k1 : Keeps F w w2 := hk.mono (fun _ _ hh => hh.elim)
    have k2 : Keeps F w2 w3 := kg.mono (fun k _ hh => (h.nd k hh).2.2)
    have k3 : Keeps F w3 (w3.setCell ⟨d, 1, none⟩ (.slice (some ⟨g3, 0, none⟩) (ws.length + 1) c3)) := kd.mono (fun k _ hh => by subst hh; exact h.foot.1)
    exact (k1.trans k2 (fun _ _ hh => hh)).trans k3 (fun _ _ hh => hh)
  · intro k hk'
    have := hk.size
    rcases hk' with hk' | rfl
    · exact .inl hk'
    · rcases hf with hf | hf
      · exact .inl (h.nd _ hf).2.2
      · exact .inr (by omega)

set_option maxRecDepth 100000 in
theorem ask_ok {F : Nat → Prop} (d : Nat) (bs : List Int) (ws : List Req) (r : Req) (w : World) (h : DiskAt F w d bs ws) (h0 : 0 ≤ r.block) (h1 : r.block < bs.length) (hw : (ws.any fun x => x.who == r.who) = false) (hlw : ws.length < 1000) :
    Calls Try.prog 11 #[.pointer (some ⟨d, 0, none⟩), .agg #[.int .i64 r.who, .int .i64 r.block, .bool r.write, .int .u64 r.x]] w (AskPost F w d bs (ws ++ [r])) := by
  obtain ⟨bb, A, cap, h⟩ := h
  have hc := cell_of_block h.head (o := 0) rfl
  have hc1 := cell_of_block h.head (o := 1) rfl
  have hl := h.lenb
  have hd := h.lt.1
  have hne : d ≠ w.heap.size := by omega
  have hb : decide (r.block < 0) = false := by simp; omega
  have hb' : decide ((bs.length : Int) ≤ r.block) = false := by simp; omega
  have Hh := Lib.hid h
  have Hw := Lib.hid hw
  clear h hw
  go_enter Try.func11, Try.ntmps11
  go_wp2_with fail
  go_quiet (fail)
  go_wp2_with fail
  generalize hW : World.drewN _ _ = w1
  have k1 : Keeps NoBlock w w1 := by rw [← hW]; exact ((Keeps.refl _ _).alloc _).drewN _
  have b1 : w1.heap[w.heap.size]? = some (.cells #[.int .i64 r.who, .int .i64 r.block, .bool r.write, .int .u64 r.x] 29 (0, 0)) := by rw [← hW]; exact block_alloc_new _ _
  clear hW
  have h1' := Hh.out.keeps k1 (fun _ _ h => h)
  refine (contR_calls _ ws w1 h1'.wait (by have := h1'.lenw; omega) r.who w.heap.size (lt_of_block b1) (cell_of_block b1 rfl)).mono ?_
  rintro e w2 ⟨rfl, hk2⟩
  have HH := Lib.hid h1'
  have HB := Lib.hid b1
  have HK := Lib.hid (k1.trans hk2 (fun _ _ h => h))
  have HK2 := Lib.hid hk2
  rw [Hw.out]
  clear h1' b1 k1 hk2
  have H2 := HH.out.keeps HK2.out (fun _ _ h => h)
  have hB2 : w2.heap[w.heap.size]? = some (.cells #[.int .i64 r.who, .int .i64 r.block, .bool r.write, .int .u64 r.x] 29 (0, 0)) := by
    rw [HK2.out.block _ (lt_of_block HB.out) (fun h => h)]; exact HB.out
  have hd2 := H2.head
  have p0 := cell_of_block hd2 (o := 1) rfl
  have p1 := cell_of_block hB2 (o := 0) rfl
  have p2 := cell_of_block hB2 (o := 1) rfl
  have p3 := cell_of_block hB2 (o := 2) rfl
  have p4 := cell_of_block hB2 (o := 3) rfl
  have pf := frozen_of_block (o := 1) hd2
  have own := H2.wait
  have hz := lt_of_block hB2
  have hz1 := H2.lt
  have hnb : (Value.slice A ws.length cap).ownBlock ≠ some d := fun h => (H2.nd d h).1 rfl
  have hnz : (Value.slice A ws.length cap).ownBlock ≠ some w.heap.size := fun h => by
    have := Own.lt Hh.out.wait _ h
    omega
  have hfz : ∀ w3, World.grownBy (w2.alloc (.cells #[.int .i64 r.who, .int .i64 r.block, .bool r.write, .int .u64 r.x] 29)).drew w3 (Value.slice A ws.length cap).ownBlock → w3.frozen? ⟨d, 1, none⟩ = false ∧ w3.cell? ⟨d, 1, none⟩ = some (.slice A ws.length cap) := fun w3 hg =>
    ⟨frozen_of_block (blk_grown hg hnb (blk_drew (block_alloc_old hd2))), cell_of_block (blk_grown hg hnb (blk_drew (block_alloc_old hd2))) rfl⟩
  have HFZ := Lib.hid hfz
  have HD2 := Lib.hid hd2
  have H2' := Lib.hid H2
  clear hc hc1 hd2 hB2 H2 hfz
  go_wp2_with fail
  go_region_law
      (first
        | (
           refine step_app (P := Try.prog) reqE ?_ (.tmp 34) (.tmp 36) ?_ (.slice A ws.length cap) ws.length (ws.flatMap encR) ?_ ?_ ⟨w2.heap.size, 0, none⟩ 1 1 (encR r) ?_ ?_ (newsB (e := 29) ?_) ?_ ?_ ?_ ?_
           · rfl
           · rfl
           · rfl
           · repeat (first | exact own | with_reducible refine World.ownsRow.alloc ?_ _ | with_reducible refine World.ownsRow.drew ?_)
           · rfl
           · rfl
           · repeat (first | (refine blk_new ?_; (simp; done)) | with_reducible refine block_alloc_old ?_ | with_reducible refine blk_drew ?_)
           · simp [Value.oneCell', encR]
           · simp only [maxLen]; omega
           · omega
           intro v3 w3 ho3 hg3 hf3 hs3
           obtain ⟨g3, c3, rfl⟩ := hs3 (by decide)
           have z3 := World.ownsRow.lt ho3 g3 rfl
           have s3 := hg3.size
           have e3 := hf3 g3 rfl
           simp only [World.size_alloc, World.size_drew] at s3 e3
           have fz3 := (HFZ.out _ hg3).1
           have cz3 := (HFZ.out _ hg3).2
           have HO3 := Lib.hid ho3
           have HG3 := Lib.hid hg3
           clear hs3 hf3 ho3)
        | fail)
  all_goals
    go_wp2_with fail
    go_ret
    exact DiskIn.asked H2'.out HK.out r h0 h1 hlw HO3.out HG3.out e3
end Go.Proofs.Ytgepedfipfobjaa
