/- FrameJumps: all but jumps go on with the next instruction; and when two frames are alike. -/
import Derived.Test.YtlnoejmckpimnaaFrM
import Derived.Laws.StructEq
import Derived.Deep.DeepCutAuto
import Derived.Deep.CutBlock
namespace Go.Proofs.Ytlnoejmckpimnaa
open Go.RowKit Ieee
namespace Fr

set_option maxRecDepth 100000 in
set_option maxHeartbeats 1000000 in
theorem equalArr (d : Nat) (x0 x1 x2 x3 x4 x5 x6 x7 : Int) (w : World) : (Op.equalIn (d + 2) 27 (.agg #[.int .u64 x0, .int .u64 x1, .int .u64 x2, .int .u64 x3, .int .u64 x4, .int .u64 x5, .int .u64 x6, .int .u64 x7]) (.agg #[.int .u64 x0, .int .u64 x1, .int .u64 x2, .int .u64 x3, .int .u64 x4, .int .u64 x5, .int .u64 x6, .int .u64 x7])).run Try.prog w = .ok true w := by
  have u5 := Try.underlying26
  have a5 := Try.isAgg26
  have z5 := Try.sizeOf26
  have ua : Try.prog.underlying 27 = some (.array 8 26) := Try.underlying27
  have h1 : ∀ a : Int, (Op.equalIn (d + 1) 26 (.int .u64 a) (.int .u64 a)).run Try.prog w = .ok true w := fun a => by rw [run_equalIn_int w d 26 .u64 .u64 a a u5]; simp
  rw [show d + 2 = (d + 1) + 1 from rfl]
  unfold Op.equalIn
  simp only [Sem.run_bind, run_underlying ua, Result.andThen_ok, z5]
  simp only [Std.Legacy.Range.forIn_eq_forIn_range', Std.Legacy.Range.size, List.range', List.forIn_cons, List.forIn_nil]
  go_simp

set_option maxRecDepth 100000 in
set_option maxHeartbeats 1000000 in
theorem equalFrm (F P x0 x1 x2 x3 x4 x5 x6 x7 : Int) (w : World) : (Op.equalIn 10000 29 (.agg #[.int .i64 F, .int .i64 P, .int .u64 x0, .int .u64 x1, .int .u64 x2, .int .u64 x3, .int .u64 x4, .int .u64 x5, .int .u64 x6, .int .u64 x7]) (.agg #[.int .i64 F, .int .i64 P, .int .u64 x0, .int .u64 x1, .int .u64 x2, .int .u64 x3, .int .u64 x4, .int .u64 x5, .int .u64 x6, .int .u64 x7])).run Try.prog w = .ok true w := by
  have u3 := Try.underlying3
  have a3 := Try.isAgg3
  have z3 := Try.sizeOf3
  have a27 := Try.isAgg27
  have z27 := Try.sizeOf27
  have ha : ∀ W, (Op.equalIn 9999 27 (.agg #[.int .u64 x0, .int .u64 x1, .int .u64 x2, .int .u64 x3, .int .u64 x4, .int .u64 x5, .int .u64 x6, .int .u64 x7]) (.agg #[.int .u64 x0, .int .u64 x1, .int .u64 x2, .int .u64 x3, .int .u64 x4, .int .u64 x5, .int .u64 x6, .int .u64 x7])).run Try.prog W = .ok true W := fun W => equalArr 9997 x0 x1 x2 x3 x4 x5 x6 x7 W
  have hS : Try.prog.underlying 29 = some (.struct (Try.prog.fieldsOf 29)) := by kernel_rfl
  have hp : Try.prog.stoodInHeld 29 = false := by kernel_rfl
  rw [show (10000 : Nat) = 9999 + 1 from rfl, run_equalIn_agg w 9999 29 _ _ hS hp]
  simp only [Program.fieldsOf, Try.underlying29]
  go_simp

theorem guardFrm (op : BinOp) (a b : Operand) (xs ys : Array Value) (w : World) : (eqGuard op 29 a b (.agg xs) (.agg ys)).run Try.prog w = .ok () w := run_eqGuard_agg w op 29 a b xs ys (by kernel_rfl)
theorem guardArr (op : BinOp) (a b : Operand) (xs ys : Array Value) (w : World) : (eqGuard op 27 a b (.agg xs) (.agg ys)).run Try.prog w = .ok () w := run_eqGuard_agg w op 27 a b xs ys (by kernel_rfl)

/-- What is plain of what Plain does. -/
structure PlainSays (f : Frm) (i : In5) (ms : List Int) (f' : Frm) (ms' : List Int) : Prop where
  func : f'.F = f.F
  len : ms'.length = ms.length
  rl : f'.rs.length = f.rs.length
  jump : i.1 = 16 → f'.P = wrap64 i.2.2.2.2 ∧ f'.rs = f.rs
  zero : i.1 = 17 → (f'.P = wrap64 i.2.2.2.2 ∨ f'.P = wrap64 (f.P + 1)) ∧ f'.rs = f.rs
  next : i.1 ≠ 16 → i.1 ≠ 17 → f'.P = wrap64 (f.P + 1)
  regs : ∀ k : Nat, (k : Int) ≠ i.2.1 → f'.rs[k]? = f.rs[k]?
  mem : (ms' = ms) ∨ (i.1 = 19 ∧ ∃ k x, ms' = ms.set k x)

theorem toNat_ne {n : Int} (h : ¬ okR n = false) {k : Nat} (hk : (k : Int) ≠ n) : n.toNat ≠ k := by
  obtain ⟨a, rfl, _⟩ := okR_yes h
  intro e
  rw [Int.toNat_natCast] at e
  exact hk (by rw [e])

theorem plain_says {f : Frm} {i : In5} {ms : List Int} {f' : Frm} {ms' : List Int} (h : plainF f i ms = .ok (f', ms')) : PlainSays f i ms f' ms' := by
  unfold plainF at h
  split at h
  · unfold doF at h
    split at h
    · rename_i e16
      simp only [Except.ok.injEq, Prod.mk.injEq] at h
      obtain ⟨rfl, rfl⟩ := h
      exact ⟨rfl, rfl, rfl, fun _ => ⟨rfl, rfl⟩, fun e => (by rw [e16] at e; cases e), fun e => absurd e16 e, fun _ _ => rfl, .inl rfl⟩
    · rename_i e16
      split at h
      · cases h
      · rename_i eA
        split at h
        · rename_i e17
          simp only [Except.ok.injEq, Prod.mk.injEq] at h
          obtain ⟨rfl, rfl⟩ := h
          refine ⟨rfl, rfl, rfl, fun e => absurd e e16, fun _ => ⟨?_, rfl⟩, fun _ e => absurd e17 e, fun _ _ => rfl, .inl rfl⟩
          show (if _ then _ else _) = _ ∨ (if _ then _ else _) = _
          split
          · exact .inl rfl
          · exact .inr rfl
        · rename_i e17
          have hreg : ∀ (x : Int), PlainSays f i ms { f with P := wrap64 (f.P + 1), rs := f.rs.set i.2.1.toNat x } ms := fun x => ⟨rfl, rfl, by simp, fun e => absurd e e16, fun e => absurd e e17, fun _ _ => rfl, fun k hk => List.getElem?_set_ne (toNat_ne eA hk), .inl rfl⟩
          split at h
          · simp only [Except.ok.injEq, Prod.mk.injEq] at h
            obtain ⟨rfl, rfl⟩ := h
            exact hreg _
          · split at h
            · cases h
            · split at h
              · split at h
                · cases h
                · simp only [Except.ok.injEq, Prod.mk.injEq] at h
                  obtain ⟨rfl, rfl⟩ := h
                  exact hreg _
              · split at h
                · rename_i e19
                  split at h
                  · cases h
                  · simp only [Except.ok.injEq, Prod.mk.injEq] at h
                    obtain ⟨rfl, rfl⟩ := h
                    exact ⟨rfl, by simp, rfl, fun e => absurd e e16, fun e => absurd e e17, fun _ _ => rfl, fun _ _ => rfl, .inr ⟨e19, _, _, rfl⟩⟩
                · split at h
                  · simp only [Except.ok.injEq, Prod.mk.injEq] at h
                    obtain ⟨rfl, rfl⟩ := h
                    exact hreg _
                  · split at h
                    · cases h
                    · simp only [Except.ok.injEq, Prod.mk.injEq] at h
                      obtain ⟨rfl, rfl⟩ := h
                      exact hreg _
  · cases h

theorem plain_err {f : Frm} {i : In5} {ms : List Int} {k : Int} (h : plainF f i ms = .error k) : k = 8 ∨ k = 6 := by
  unfold plainF at h
  split at h
  · unfold doF at h
    iterate 10 (all_goals (try (split at h)))
    all_goals first
      | (injection h with h; omega)
      | cases h
  · simp only [Except.error.injEq] at h; omega

theorem zs_at {w W : World} {A : Option Addr} {b off len : Nat} {zs : List Int} (h : IntsAt .u64 w A b off len zs) (k : Keeps NoBlock w W) : ∀ (j : Nat) (x : Int), zs[j]? = some x → W.cell? ⟨b, off + j, none⟩ = some (rv x) := fun j x hx => by
  have hc := h.get hx
  rw [k.cell (World.block_lt_of_cell? w _ hc) (fun h => h), hc]; rfl

set_option maxRecDepth 100000 in
set_option maxHeartbeats 4000000 in
theorem jumps_calls (f : Frm) (i : In5) (A : Option Addr) (b off n c : Nat) (ms : List Int) (w : World) (hrl : f.rs.length = 8) (hrb : ∀ x ∈ f.rs, 0 ≤ x ∧ x < 18446744073709551616) (h : IntsAt .u64 w A b off n ms) :
    Calls Try.prog 7 #[frmV f, insV i, .slice A n c] w fun e w' => e = .returned (.bool true) ∧ Below w.heap.size w w' := by
  have hpl := Lib.hid (fun W (k : Keeps NoBlock w W) (hn : n ≤ 200) => plain_calls f i A b off n c ms W hrl hrb h.addr (zs_at h k) h.length (by omega))
  clear h hrb
  obtain ⟨F, P, rs⟩ := f
  simp only [] at hrl
  match rs, hrl with
  | [r0, r1, r2, r3, r4, r5, r6, r7], _ =>
    obtain ⟨op, a, b1, c0, N⟩ := i
    unfold frmV insV at hpl ⊢
    simp only [List.map_cons, List.map_nil] at hpl ⊢
    unfold rv at hpl ⊢
    by_cases h200 : 200 < n
    · have hg : decide ((200 : Int) < (n : Int)) = true := by simp; omega
      go_enter Try.func7, Try.ntmps7
      go_wp2_with fail
      refine (awake03_calls _).mono ?_
      rintro e w3 ⟨rfl, k3⟩
      go_wp2_with fail
      go_ret
      exact ⟨rfl, ((((Keeps.refl NoBlock w).alloc _).alloc _).trans k3 (fun _ _ h => h)).below (Nat.le_refl _) (fun _ h => h.elim)⟩
    · have hg : decide ((200 : Int) < (n : Int)) = false := by simp; omega
      go_enter Try.func7, Try.ntmps7
      go_wp2_with fail
      generalize hW : World.alloc (World.alloc w _) _ = W
      have Kw : Hid (Keeps NoBlock w W) := by
        show Keeps _ _ _
        rw [← hW]
        exact ((Keeps.refl NoBlock w).alloc _).alloc _
      have Bf : Hid (W.heap[w.heap.size]? = some (.cells #[.int .i64 F, .int .i64 P, .int .u64 r0, .int .u64 r1, .int .u64 r2, .int .u64 r3, .int .u64 r4, .int .u64 r5, .int .u64 r6, .int .u64 r7] 29 (0, 0))) := by show _ = _; rw [← hW]; exact block_alloc_old (block_alloc_new _ _)
      have Bi : Hid (W.heap[w.heap.size + 1]? = some (.cells #[.int .i64 op, .int .i64 a, .int .i64 b1, .int .i64 c0, .int .u64 N] 31 (0, 0))) := by show _ = _; rw [← hW]; exact blk_new (by simp)
      clear hW
      have hp := hpl.out W Kw.out (by omega)
      clear hg h200
      refine hp.mono ?_
      rintro e w1 ⟨k1, hres⟩
      have Bf1 := Lib.hid ((k1.block _ (lt_of_block Bf.out) (fun h => h)).trans Bf.out)
      have Bi1 := Lib.hid ((k1.block _ (lt_of_block Bi.out) (fun h => h)).trans Bi.out)
      have K1 := Lib.hid (Kw.out.trans k1 (fun _ _ h => h))
      clear k1 hp hpl
      cases hr : plainF ⟨F, P, [r0, r1, r2, r3, r4, r5, r6, r7]⟩ (op, a, b1, c0, N) ms with
      | error k =>
        rw [hr] at hres
        have hk : (k != 0) = true := by have := plain_err hr; simp; omega
        have he2 : e = .returned (.tuple #[.agg #[.int .i64 0, .int .i64 0, .int .u64 0, .int .u64 0, .int .u64 0, .int .u64 0, .int .u64 0, .int .u64 0, .int .u64 0, .int .u64 0], .slice none 0 0, .int .i64 k]) := hres
        subst he2
        clear hres hr
        go_wp2_with fail
        refine (awake03_calls _).mono ?_
        rintro e w3 ⟨rfl, k3⟩
        go_wp2_with fail
        go_ret
        exact ⟨rfl, ((K1.out.alloc _).trans k3 (fun _ _ h => h)).below (Nat.le_refl _) (fun _ h => h.elim)⟩
      | ok x =>
        obtain ⟨⟨F2, P2, rs2⟩, ms2⟩ := x
        have hs := plain_says hr
        rw [hr] at hres
        obtain ⟨g, he, _, _⟩ := hres
        have hrl2 := hs.rl
        simp only [List.length_cons, List.length_nil] at hrl2
        match rs2, hrl2 with
        | [u0, u1, u2, u3, u4, u5, u6, u7], _ =>
          obtain ⟨m2, hm2⟩ : ∃ m2, m2 = ms2.length := ⟨_, rfl⟩
          have he2 : e = .returned (.tuple #[.agg #[.int .i64 F2, .int .i64 P2, .int .u64 u0, .int .u64 u1, .int .u64 u2, .int .u64 u3, .int .u64 u4, .int .u64 u5, .int .u64 u6, .int .u64 u7], .slice (some ⟨g, 0, none⟩) m2 m2, .int .i64 0]) := by rw [hm2]; exact he
          subst he2
          have Hs := Lib.hid hs
          clear he hr hs hm2 hrl2
          have ls := Lib.hid (lt_of_block Bi1.out)
          have hli := lt_of_block Bi1.out
          have i0 : w1.cell? ⟨w.heap.size + 1, 0, none⟩ = some (.int .i64 op) := cell_of_block (o := 0) Bi1.out rfl
          have i1 : w1.cell? ⟨w.heap.size + 1, 1, none⟩ = some (.int .i64 a) := cell_of_block (o := 1) Bi1.out rfl
          have i2 : w1.cell? ⟨w.heap.size + 1, 2, none⟩ = some (.int .i64 b1) := cell_of_block (o := 2) Bi1.out rfl
          have i3 : w1.cell? ⟨w.heap.size + 1, 3, none⟩ = some (.int .i64 c0) := cell_of_block (o := 3) Bi1.out rfl
          have i4 : w1.cell? ⟨w.heap.size + 1, 4, none⟩ = some (.int .u64 N) := cell_of_block (o := 4) Bi1.out rfl
          go_upto_region 4 with fail
          generalize hW : World.alloc w1 _ = W2
          have K2 : Hid (Keeps NoBlock w W2) := by show Keeps _ _ _; rw [← hW]; exact K1.out.alloc _
          have Bf2 : Hid (W2.heap[w.heap.size]? = some (.cells #[.int .i64 F, .int .i64 P, .int .u64 r0, .int .u64 r1, .int .u64 r2, .int .u64 r3, .int .u64 r4, .int .u64 r5, .int .u64 r6, .int .u64 r7] 29 (0, 0))) := by show _ = _; rw [← hW]; exact block_alloc_old Bf1.out
          have Bi2 : Hid (W2.heap[w.heap.size + 1]? = some (.cells #[.int .i64 op, .int .i64 a, .int .i64 b1, .int .i64 c0, .int .u64 N] 31 (0, 0))) := by show _ = _; rw [← hW]; exact block_alloc_old Bi1.out
          have Bg2 : Hid (W2.heap[w1.heap.size]? = some (.cells #[.int .i64 F2, .int .i64 P2, .int .u64 u0, .int .u64 u1, .int .u64 u2, .int .u64 u3, .int .u64 u4, .int .u64 u5, .int .u64 u6, .int .u64 u7] 29 (0, 0))) := by show _ = _; rw [← hW]; exact block_alloc_new _ _
          clear hW i0 i1 i2 i3 i4 hli ls
          have cop : W2.cell? ⟨w.heap.size + 1, 0, none⟩ = some (.int .i64 op) := cell_of_block (o := 0) Bi2.out rfl
          by_cases e16 : op = 16
          · obtain ⟨hP, hR⟩ := Hs.out.jump e16
            simp only [] at hP hR
            simp only [List.cons.injEq, and_true] at hR
            obtain ⟨rfl, rfl, rfl, rfl, rfl, rfl, rfl, rfl⟩ := hR
            subst e16 hP
            go_wp2_with fail
            refine (awake03_calls _).mono ?_
            rintro e w3 ⟨rfl, k3⟩
            have Bf3 := (k3.block _ (lt_of_block Bf2.out) (fun h => h)).trans Bf2.out
            have Bi3 := (k3.block _ (lt_of_block Bi2.out) (fun h => h)).trans Bi2.out
            have Bg3 := (k3.block _ (lt_of_block Bg2.out) (fun h => h)).trans Bg2.out
            have xN : w3.cell? ⟨w.heap.size + 1, 4, none⟩ = some (.int .u64 N) := cell_of_block (o := 4) Bi3 rfl
            have x0 : w3.cell? ⟨w.heap.size, 0, none⟩ = some (.int .i64 _) := cell_of_block (o := 0) Bf3 rfl
            have x1 : w3.cell? ⟨w.heap.size, 1, none⟩ = some (.int .i64 _) := cell_of_block (o := 1) Bf3 rfl
            have x2 : w3.cell? ⟨w.heap.size, 2, none⟩ = some (.int .u64 u0) := cell_of_block (o := 2) Bf3 rfl
            have x3 : w3.cell? ⟨w.heap.size, 3, none⟩ = some (.int .u64 u1) := cell_of_block (o := 3) Bf3 rfl
            have x4 : w3.cell? ⟨w.heap.size, 4, none⟩ = some (.int .u64 u2) := cell_of_block (o := 4) Bf3 rfl
            have x5 : w3.cell? ⟨w.heap.size, 5, none⟩ = some (.int .u64 u3) := cell_of_block (o := 5) Bf3 rfl
            have x6 : w3.cell? ⟨w.heap.size, 6, none⟩ = some (.int .u64 u4) := cell_of_block (o := 6) Bf3 rfl
            have x7 : w3.cell? ⟨w.heap.size, 7, none⟩ = some (.int .u64 u5) := cell_of_block (o := 7) Bf3 rfl
            have x8 : w3.cell? ⟨w.heap.size, 8, none⟩ = some (.int .u64 u6) := cell_of_block (o := 8) Bf3 rfl
            have x9 : w3.cell? ⟨w.heap.size, 9, none⟩ = some (.int .u64 u7) := cell_of_block (o := 9) Bf3 rfl
            have y0 : w3.cell? ⟨w1.heap.size, 0, none⟩ = some (.int .i64 _) := cell_of_block (o := 0) Bg3 rfl
            have y1 : w3.cell? ⟨w1.heap.size, 1, none⟩ = some (.int .i64 _) := cell_of_block (o := 1) Bg3 rfl
            have y2 : w3.cell? ⟨w1.heap.size, 2, none⟩ = some (.int .u64 u0) := cell_of_block (o := 2) Bg3 rfl
            have y3 : w3.cell? ⟨w1.heap.size, 3, none⟩ = some (.int .u64 u1) := cell_of_block (o := 3) Bg3 rfl
            have y4 : w3.cell? ⟨w1.heap.size, 4, none⟩ = some (.int .u64 u2) := cell_of_block (o := 4) Bg3 rfl
            have y5 : w3.cell? ⟨w1.heap.size, 5, none⟩ = some (.int .u64 u3) := cell_of_block (o := 5) Bg3 rfl
            have y6 : w3.cell? ⟨w1.heap.size, 6, none⟩ = some (.int .u64 u4) := cell_of_block (o := 6) Bg3 rfl
            have y7 : w3.cell? ⟨w1.heap.size, 7, none⟩ = some (.int .u64 u5) := cell_of_block (o := 7) Bg3 rfl
            have y8 : w3.cell? ⟨w1.heap.size, 8, none⟩ = some (.int .u64 u6) := cell_of_block (o := 8) Bg3 rfl
            have y9 : w3.cell? ⟨w1.heap.size, 9, none⟩ = some (.int .u64 u7) := cell_of_block (o := 9) Bg3 rfl
            have K3 := Lib.hid k3
            have hea := fun W => equalArr 9998 u0 u1 u2 u3 u4 u5 u6 u7 W
            have hga := guardArr
            clear k3 Bf3 Bi3 Bg3
            go_wp2_with fail
            go_ret
            exact ⟨rfl, (K2.out.trans K3.out (fun _ _ h => h)).below (Nat.le_refl _) (fun _ h => h.elim)⟩
          · by_cases e17 : op = 17
            · obtain ⟨hP, hR⟩ := Hs.out.zero e17
              simp only [] at hP hR
              simp only [List.cons.injEq, and_true] at hR
              obtain ⟨rfl, rfl, rfl, rfl, rfl, rfl, rfl, rfl⟩ := hR
              subst e17
              by_cases hPN : P2 = wrap64 N
              · subst hPN
                go_wp2_with fail
                refine (awake03_calls _).mono ?_
                rintro e w3 ⟨rfl, k3⟩
                have Bf3 := (k3.block _ (lt_of_block Bf2.out) (fun h => h)).trans Bf2.out
                have Bi3 := (k3.block _ (lt_of_block Bi2.out) (fun h => h)).trans Bi2.out
                have Bg3 := (k3.block _ (lt_of_block Bg2.out) (fun h => h)).trans Bg2.out
                have xN : w3.cell? ⟨w.heap.size + 1, 4, none⟩ = some (.int .u64 N) := cell_of_block (o := 4) Bi3 rfl
                have x0 : w3.cell? ⟨w.heap.size, 0, none⟩ = some (.int .i64 _) := cell_of_block (o := 0) Bf3 rfl
                have x1 : w3.cell? ⟨w.heap.size, 1, none⟩ = some (.int .i64 _) := cell_of_block (o := 1) Bf3 rfl
                have x2 : w3.cell? ⟨w.heap.size, 2, none⟩ = some (.int .u64 u0) := cell_of_block (o := 2) Bf3 rfl
                have x3 : w3.cell? ⟨w.heap.size, 3, none⟩ = some (.int .u64 u1) := cell_of_block (o := 3) Bf3 rfl
                have x4 : w3.cell? ⟨w.heap.size, 4, none⟩ = some (.int .u64 u2) := cell_of_block (o := 4) Bf3 rfl
                have x5 : w3.cell? ⟨w.heap.size, 5, none⟩ = some (.int .u64 u3) := cell_of_block (o := 5) Bf3 rfl
                have x6 : w3.cell? ⟨w.heap.size, 6, none⟩ = some (.int .u64 u4) := cell_of_block (o := 6) Bf3 rfl
                have x7 : w3.cell? ⟨w.heap.size, 7, none⟩ = some (.int .u64 u5) := cell_of_block (o := 7) Bf3 rfl
                have x8 : w3.cell? ⟨w.heap.size, 8, none⟩ = some (.int .u64 u6) := cell_of_block (o := 8) Bf3 rfl
                have x9 : w3.cell? ⟨w.heap.size, 9, none⟩ = some (.int .u64 u7) := cell_of_block (o := 9) Bf3 rfl
                have y0 : w3.cell? ⟨w1.heap.size, 0, none⟩ = some (.int .i64 _) := cell_of_block (o := 0) Bg3 rfl
                have y1 : w3.cell? ⟨w1.heap.size, 1, none⟩ = some (.int .i64 _) := cell_of_block (o := 1) Bg3 rfl
                have y2 : w3.cell? ⟨w1.heap.size, 2, none⟩ = some (.int .u64 u0) := cell_of_block (o := 2) Bg3 rfl
                have y3 : w3.cell? ⟨w1.heap.size, 3, none⟩ = some (.int .u64 u1) := cell_of_block (o := 3) Bg3 rfl
                have y4 : w3.cell? ⟨w1.heap.size, 4, none⟩ = some (.int .u64 u2) := cell_of_block (o := 4) Bg3 rfl
                have y5 : w3.cell? ⟨w1.heap.size, 5, none⟩ = some (.int .u64 u3) := cell_of_block (o := 5) Bg3 rfl
                have y6 : w3.cell? ⟨w1.heap.size, 6, none⟩ = some (.int .u64 u4) := cell_of_block (o := 6) Bg3 rfl
                have y7 : w3.cell? ⟨w1.heap.size, 7, none⟩ = some (.int .u64 u5) := cell_of_block (o := 7) Bg3 rfl
                have y8 : w3.cell? ⟨w1.heap.size, 8, none⟩ = some (.int .u64 u6) := cell_of_block (o := 8) Bg3 rfl
                have y9 : w3.cell? ⟨w1.heap.size, 9, none⟩ = some (.int .u64 u7) := cell_of_block (o := 9) Bg3 rfl
                have K3 := Lib.hid k3
                have hea := fun W => equalArr 9998 u0 u1 u2 u3 u4 u5 u6 u7 W
                have hga := guardArr
                clear k3 Bf3 Bi3 Bg3
                go_wp2_with fail
                go_ret
                exact ⟨rfl, (K2.out.trans K3.out (fun _ _ h => h)).below (Nat.le_refl _) (fun _ h => h.elim)⟩
              · have hP2 : P2 = wrap64 (P + 1) := by
                  rcases hP with h | h
                  · exact absurd h hPN
                  · exact h
                clear hP
                subst hP2
                have hd : (wrap64 (P + 1) == wrap64 N) = false := beq_eq_false_iff_ne.2 hPN
                clear hPN
                go_wp2_with fail
                refine (awake03_calls _).mono ?_
                rintro e w3 ⟨rfl, k3⟩
                have Bf3 := (k3.block _ (lt_of_block Bf2.out) (fun h => h)).trans Bf2.out
                have Bi3 := (k3.block _ (lt_of_block Bi2.out) (fun h => h)).trans Bi2.out
                have Bg3 := (k3.block _ (lt_of_block Bg2.out) (fun h => h)).trans Bg2.out
                have xN : w3.cell? ⟨w.heap.size + 1, 4, none⟩ = some (.int .u64 N) := cell_of_block (o := 4) Bi3 rfl
                have x0 : w3.cell? ⟨w.heap.size, 0, none⟩ = some (.int .i64 _) := cell_of_block (o := 0) Bf3 rfl
                have x1 : w3.cell? ⟨w.heap.size, 1, none⟩ = some (.int .i64 _) := cell_of_block (o := 1) Bf3 rfl
                have x2 : w3.cell? ⟨w.heap.size, 2, none⟩ = some (.int .u64 u0) := cell_of_block (o := 2) Bf3 rfl
                have x3 : w3.cell? ⟨w.heap.size, 3, none⟩ = some (.int .u64 u1) := cell_of_block (o := 3) Bf3 rfl
                have x4 : w3.cell? ⟨w.heap.size, 4, none⟩ = some (.int .u64 u2) := cell_of_block (o := 4) Bf3 rfl
                have x5 : w3.cell? ⟨w.heap.size, 5, none⟩ = some (.int .u64 u3) := cell_of_block (o := 5) Bf3 rfl
                have x6 : w3.cell? ⟨w.heap.size, 6, none⟩ = some (.int .u64 u4) := cell_of_block (o := 6) Bf3 rfl
                have x7 : w3.cell? ⟨w.heap.size, 7, none⟩ = some (.int .u64 u5) := cell_of_block (o := 7) Bf3 rfl
                have x8 : w3.cell? ⟨w.heap.size, 8, none⟩ = some (.int .u64 u6) := cell_of_block (o := 8) Bf3 rfl
                have x9 : w3.cell? ⟨w.heap.size, 9, none⟩ = some (.int .u64 u7) := cell_of_block (o := 9) Bf3 rfl
                have y0 : w3.cell? ⟨w1.heap.size, 0, none⟩ = some (.int .i64 _) := cell_of_block (o := 0) Bg3 rfl
                have y1 : w3.cell? ⟨w1.heap.size, 1, none⟩ = some (.int .i64 _) := cell_of_block (o := 1) Bg3 rfl
                have y2 : w3.cell? ⟨w1.heap.size, 2, none⟩ = some (.int .u64 u0) := cell_of_block (o := 2) Bg3 rfl
                have y3 : w3.cell? ⟨w1.heap.size, 3, none⟩ = some (.int .u64 u1) := cell_of_block (o := 3) Bg3 rfl
                have y4 : w3.cell? ⟨w1.heap.size, 4, none⟩ = some (.int .u64 u2) := cell_of_block (o := 4) Bg3 rfl
                have y5 : w3.cell? ⟨w1.heap.size, 5, none⟩ = some (.int .u64 u3) := cell_of_block (o := 5) Bg3 rfl
                have y6 : w3.cell? ⟨w1.heap.size, 6, none⟩ = some (.int .u64 u4) := cell_of_block (o := 6) Bg3 rfl
                have y7 : w3.cell? ⟨w1.heap.size, 7, none⟩ = some (.int .u64 u5) := cell_of_block (o := 7) Bg3 rfl
                have y8 : w3.cell? ⟨w1.heap.size, 8, none⟩ = some (.int .u64 u6) := cell_of_block (o := 8) Bg3 rfl
                have y9 : w3.cell? ⟨w1.heap.size, 9, none⟩ = some (.int .u64 u7) := cell_of_block (o := 9) Bg3 rfl
                have K3 := Lib.hid k3
                have hea := fun W => equalArr 9998 u0 u1 u2 u3 u4 u5 u6 u7 W
                have hga := guardArr
                clear k3 Bf3 Bi3 Bg3
                go_wp2_with fail
                go_ret
                exact ⟨rfl, (K2.out.trans K3.out (fun _ _ h => h)).below (Nat.le_refl _) (fun _ h => h.elim)⟩
            · have hP := Hs.out.next e16 e17
              simp only [] at hP
              subst hP
              have q16 : (op == 16) = false := beq_eq_false_iff_ne.2 e16
              have q17 : (op == 17) = false := beq_eq_false_iff_ne.2 e17
              clear e16 e17
              go_wp2_with fail
              refine (awake03_calls _).mono ?_
              rintro e w3 ⟨rfl, k3⟩
              have Bf3 := (k3.block _ (lt_of_block Bf2.out) (fun h => h)).trans Bf2.out
              have Bi3 := (k3.block _ (lt_of_block Bi2.out) (fun h => h)).trans Bi2.out
              have Bg3 := (k3.block _ (lt_of_block Bg2.out) (fun h => h)).trans Bg2.out
              have xN : w3.cell? ⟨w.heap.size + 1, 4, none⟩ = some (.int .u64 N) := cell_of_block (o := 4) Bi3 rfl
              have x0 : w3.cell? ⟨w.heap.size, 0, none⟩ = some (.int .i64 _) := cell_of_block (o := 0) Bf3 rfl
              have x1 : w3.cell? ⟨w.heap.size, 1, none⟩ = some (.int .i64 _) := cell_of_block (o := 1) Bf3 rfl
              have x2 : w3.cell? ⟨w.heap.size, 2, none⟩ = some (.int .u64 r0) := cell_of_block (o := 2) Bf3 rfl
              have x3 : w3.cell? ⟨w.heap.size, 3, none⟩ = some (.int .u64 r1) := cell_of_block (o := 3) Bf3 rfl
              have x4 : w3.cell? ⟨w.heap.size, 4, none⟩ = some (.int .u64 r2) := cell_of_block (o := 4) Bf3 rfl
              have x5 : w3.cell? ⟨w.heap.size, 5, none⟩ = some (.int .u64 r3) := cell_of_block (o := 5) Bf3 rfl
              have x6 : w3.cell? ⟨w.heap.size, 6, none⟩ = some (.int .u64 r4) := cell_of_block (o := 6) Bf3 rfl
              have x7 : w3.cell? ⟨w.heap.size, 7, none⟩ = some (.int .u64 r5) := cell_of_block (o := 7) Bf3 rfl
              have x8 : w3.cell? ⟨w.heap.size, 8, none⟩ = some (.int .u64 r6) := cell_of_block (o := 8) Bf3 rfl
              have x9 : w3.cell? ⟨w.heap.size, 9, none⟩ = some (.int .u64 r7) := cell_of_block (o := 9) Bf3 rfl
              have y0 : w3.cell? ⟨w1.heap.size, 0, none⟩ = some (.int .i64 _) := cell_of_block (o := 0) Bg3 rfl
              have y1 : w3.cell? ⟨w1.heap.size, 1, none⟩ = some (.int .i64 _) := cell_of_block (o := 1) Bg3 rfl
              have y2 : w3.cell? ⟨w1.heap.size, 2, none⟩ = some (.int .u64 u0) := cell_of_block (o := 2) Bg3 rfl
              have y3 : w3.cell? ⟨w1.heap.size, 3, none⟩ = some (.int .u64 u1) := cell_of_block (o := 3) Bg3 rfl
              have y4 : w3.cell? ⟨w1.heap.size, 4, none⟩ = some (.int .u64 u2) := cell_of_block (o := 4) Bg3 rfl
              have y5 : w3.cell? ⟨w1.heap.size, 5, none⟩ = some (.int .u64 u3) := cell_of_block (o := 5) Bg3 rfl
              have y6 : w3.cell? ⟨w1.heap.size, 6, none⟩ = some (.int .u64 u4) := cell_of_block (o := 6) Bg3 rfl
              have y7 : w3.cell? ⟨w1.heap.size, 7, none⟩ = some (.int .u64 u5) := cell_of_block (o := 7) Bg3 rfl
              have y8 : w3.cell? ⟨w1.heap.size, 8, none⟩ = some (.int .u64 u6) := cell_of_block (o := 8) Bg3 rfl
              have y9 : w3.cell? ⟨w1.heap.size, 9, none⟩ = some (.int .u64 u7) := cell_of_block (o := 9) Bg3 rfl
              have K3 := Lib.hid k3
              have hea := fun W => equalArr 9998 u0 u1 u2 u3 u4 u5 u6 u7 W
              have hga := guardArr
              clear k3 Bf3 Bi3 Bg3
              go_wp2_with fail
              go_ret
              exact ⟨rfl, (K2.out.trans K3.out (fun _ _ h => h)).below (Nat.le_refl _) (fun _ h => h.elim)⟩

theorem jumps_row (w : World) (v : Value) (f : Frm) (hf : FrmAt v f) (u : Value) (i : In5) (hi : InstrAt u i) (A : Option Addr) (b off len cap : Nat) (zs : List Int) (h : IntsAt .u64 w A b off len zs) (_hl : len * 8 ≤ 140737488351232) :
    Calls Try.prog 7 #[v, u, .slice A len cap] w fun e w' => e = .returned (.bool true) ∧ Below w.heap.size w w' := by
  obtain ⟨rfl, hrl, hrb⟩ := hf
  obtain ⟨rfl, _⟩ := hi
  exact jumps_calls f i A b off len cap zs w hrl hrb h
end Fr
end Go.Proofs.Ytlnoejmckpimnaa
