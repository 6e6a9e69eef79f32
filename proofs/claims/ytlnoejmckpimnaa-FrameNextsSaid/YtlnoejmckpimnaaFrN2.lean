/- FrameNexts: the five cases joined. -/
import Derived.Test.YtlnoejmckpimnaaFrN
namespace Go.Proofs.Ytlnoejmckpimnaa
open Go.RowKit Ieee
namespace Fr

theorem list8N {rs : List Int} (h : rs.length = 8) : ∃ r0 r1 r2 r3 r4 r5 r6 r7, rs = [r0, r1, r2, r3, r4, r5, r6, r7] := by
  match rs, h with
  | [r0, r1, r2, r3, r4, r5, r6, r7], _ => exact ⟨r0, r1, r2, r3, r4, r5, r6, r7, rfl⟩

set_option maxRecDepth 100000 in
set_option maxHeartbeats 1000000 in
theorem nexts_calls (v : Value) (p : Pg) (f : Frm) (w : World) (h : ProgAt w v p) (hrl : f.rs.length = 8) : Calls Try.prog 3 #[v, frmV f] w fun e w' => e = .returned (.bool true) ∧ Below w.heap.size w w' := by
  have hnx := fun W (k : Keeps NoBlock w W) => next_calls v p f W (h.keeps k) hrl
  obtain ⟨⟨fa, sa, pa, nf, fc, ns, sc, np, pc, fb, fo, sb, so, pb, po, rfl, HF, hS, hP, hb1, hb2, hb3⟩, hM, hC⟩ := h
  obtain ⟨funcs, Wd, M, C, sems, pipes, B, R⟩ := p
  simp only [] at HF hS hP hM hC hnx ⊢
  clear hS hP hM hC hb2 hb3
  obtain ⟨F, P, rs⟩ := f
  simp only [] at hrl
  obtain ⟨r0, r1, r2, r3, r4, r5, r6, r7, rfl⟩ := list8N hrl
  have hv : frmV ⟨F, P, [r0, r1, r2, r3, r4, r5, r6, r7]⟩ = .agg #[.int .i64 F, .int .i64 P, .int .u64 r0, .int .u64 r1, .int .u64 r2, .int .u64 r3, .int .u64 r4, .int .u64 r5, .int .u64 r6, .int .u64 r7] := rfl
  rw [hv] at hnx ⊢
  by_cases f0 : F < 0
  · have hN : nextF ⟨funcs, Wd, M, C, sems, pipes, B, R⟩ ⟨F, P, [r0, r1, r2, r3, r4, r5, r6, r7]⟩ = none := by unfold nextF; rw [if_pos f0]
    rw [hN] at hnx
    exact nexts_a w sa pa nf fc ns sc np pc Wd M C B R r0 r1 r2 r3 r4 r5 r6 r7 fa F P f0 hnx
  · by_cases f1 : (nf : Int) ≤ F
    · have hN : nextF ⟨funcs, Wd, M, C, sems, pipes, B, R⟩ ⟨F, P, [r0, r1, r2, r3, r4, r5, r6, r7]⟩ = none := by
        unfold nextF; rw [if_neg f0]
        have hl : funcs[F.toNat]? = none := List.getElem?_eq_none (by rw [HF.length]; omega)
        show (funcs[F.toNat]?).bind _ = none
        rw [hl]; rfl
      rw [hN] at hnx
      exact nexts_b w sa pa nf fc ns sc np pc Wd M C B R r0 r1 r2 r3 r4 r5 r6 r7 fa F P f0 f1 hnx
    · obtain ⟨a, rfl⟩ : ∃ a : Nat, F = a := ⟨F.toNat, by omega⟩
      have ha : a < nf := by omega
      obtain ⟨l, hl⟩ : ∃ l, funcs[a]? = some l := ⟨_, List.getElem?_eq_getElem (by rw [HF.length]; exact ha)⟩
      obtain ⟨A1, b1, off1, c1, hca, hfl, hll⟩ := HF.cell a l hl
      obtain rfl := HF.addr (by omega)
      by_cases p00 : P < 0
      · have hN : nextF ⟨funcs, Wd, M, C, sems, pipes, B, R⟩ ⟨a, P, [r0, r1, r2, r3, r4, r5, r6, r7]⟩ = none := by
          unfold nextF; rw [if_neg (by show ¬ (a : Int) < 0; omega), Int.toNat_natCast]
          show (funcs[a]?).bind _ = none
          rw [hl]
          show (if P < 0 then none else _) = none
          rw [if_pos p00]
        rw [hN] at hnx
        exact nexts_c w sa pa nf fc ns sc np pc Wd M C B R r0 r1 r2 r3 r4 r5 r6 r7 fb fo a P ha p00 hnx
      · by_cases p11 : (l.length : Int) ≤ P
        · have hN : nextF ⟨funcs, Wd, M, C, sems, pipes, B, R⟩ ⟨a, P, [r0, r1, r2, r3, r4, r5, r6, r7]⟩ = none := by
            unfold nextF; rw [if_neg (by show ¬ (a : Int) < 0; omega), Int.toNat_natCast]
            show (funcs[a]?).bind _ = none
            rw [hl]
            show (if P < 0 then none else _) = none
            rw [if_neg p00]
            exact List.getElem?_eq_none (by show l.length ≤ P.toNat; omega)
          rw [hN] at hnx
          exact nexts_d w sa pa nf fc ns sc np pc Wd M C B R r0 r1 r2 r3 r4 r5 r6 r7 fb fo a l.length c1 A1 P ha p00 p11 hca hnx
        · obtain ⟨j, rfl⟩ : ∃ j : Nat, P = j := ⟨P.toNat, by omega⟩
          have hj : j < l.length := by omega
          obtain ⟨x, hx⟩ : ∃ x, l[j]? = some x := ⟨_, List.getElem?_eq_getElem hj⟩
          obtain ⟨y1, y2, y3, y4, y5⟩ := x
          have hN : nextF ⟨funcs, Wd, M, C, sems, pipes, B, R⟩ ⟨a, j, [r0, r1, r2, r3, r4, r5, r6, r7]⟩ = some (y1, y2, y3, y4, y5) := by
            unfold nextF; rw [if_neg (by show ¬ (a : Int) < 0; omega), Int.toNat_natCast]
            show (funcs[a]?).bind _ = _
            rw [hl]
            show (if (j : Int) < 0 then none else _) = _
            rw [if_neg (by show ¬ (j : Int) < 0; omega), Int.toNat_natCast]
            exact hx
          rw [hN] at hnx
          obtain rfl := hfl.addr (by omega)
          have w0 := hfl.cell j _ 0 _ hx rfl
          simp only [Nat.add_zero] at w0
          exact nexts_e w sa pa nf fc ns sc np pc Wd M C B R r0 r1 r2 r3 r4 r5 r6 r7 fb fo a l.length c1 j b1 off1 y1 y2 y3 y4 y5 ha hj hca w0 (hfl.cell j _ 1 _ hx rfl) (hfl.cell j _ 2 _ hx rfl) (hfl.cell j _ 3 _ hx rfl) (hfl.cell j _ 4 _ hx rfl) hnx

theorem nexts_row (w : World) (v : Value) (p : Pg) (h : ProgAt w v p) (u : Value) (f : Frm) (hf : FrmAt u f) : Calls Try.prog 3 #[v, u] w fun e w' => e = .returned (.bool true) ∧ Below w.heap.size w w' := by
  obtain ⟨rfl, hrl, _⟩ := hf
  exact nexts_calls v p f w h hrl
end Fr
end Go.Proofs.Ytlnoejmckpimnaa
