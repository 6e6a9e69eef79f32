/- Programs and instructions that came in as arguments. -/
import Derived.Test.YtlnoejmckpimnaaFrP
import Derived.Test.YtlnoejmckpimnaaOpens2
import Derived.Lib.SmallJoins
namespace Go.Proofs.Ytlnoejmckpimnaa
open Go.RowKit Go.ChangeShapes Go.WideShapes

variable {H : Type} {enc0 : TypeId × Value → H} {W : World} {base : Nat} {spare : Nat → Bool} {held : Bool}

def RInstr (x : In5) (cs : List Value) : Prop := cs = enc5 x ∧ ok5 x
def RInt (k : IntKind) (n : Int) (cs : List Value) : Prop := cs = [.int k n] ∧ (Lit.int k n).wf = true

theorem opens_instr : Opens enc0 Try.prog W base spare held RInstr 31 := by
  refine opens_struct Try.underlying31 (by kernel_rfl) (by kernel_rfl) ?_
  intro cs hl hf
  obtain ⟨v0, n0, y0, g0, t0, _⟩ := hf 0 _ rfl
  obtain ⟨v1, n1, y1, g1, t1, _⟩ := hf 1 _ rfl
  obtain ⟨v2, n2, y2, g2, t2, _⟩ := hf 2 _ rfl
  obtain ⟨v3, n3, y3, g3, t3, _⟩ := hf 3 _ rfl
  obtain ⟨v4, n4, y4, g4, t4, _⟩ := hf 4 _ rfl
  obtain ⟨a0, e0, _, w0⟩ := DataW.trod_int (k := .i64) (by kernel_rfl) t0
  obtain ⟨a1, e1, _, w1⟩ := DataW.trod_int (k := .i64) (by kernel_rfl) t1
  obtain ⟨a2, e2, _, w2⟩ := DataW.trod_int (k := .i64) (by kernel_rfl) t2
  obtain ⟨a3, e3, _, w3⟩ := DataW.trod_int (k := .i64) (by kernel_rfl) t3
  obtain ⟨a4, e4, _, w4⟩ := DataW.trod_int (k := .u64) (by kernel_rfl) t4
  simp only [List.cons.injEq, and_true] at e0 e1 e2 e3 e4
  subst e0 e1 e2 e3 e4
  match cs, hl with
  | [c0, c1, c2, c3, c4], _ =>
    simp at g0 g1 g2 g3 g4
    subst g0 g1 g2 g3 g4
    exact ⟨(a0, a1, a2, a3, a4), rfl, by have := bounds_u64 w4; exact ⟨by simp only []; omega, by simp only []; omega⟩⟩

theorem flat_of {xs : List In5} {A : Option Addr} {b off : Nat} (h1 : 0 < xs.length → A = some ⟨b, off, none⟩) (h2 : ∀ (j : Nat) (x : In5), xs[j]? = some x → ∃ ds, RInstr x ds ∧ ds.length = 5 ∧ ∀ (i : Nat) (u : Value), ds[i]? = some u → W.cell? ⟨b, off + j * 5 + i, none⟩ = some u) : FlatAt enc5 ok5 5 W A b off xs.length xs :=
  ⟨h1, fun j x i v hj hi => by
    obtain ⟨ds, ⟨rfl, _⟩, _, h⟩ := h2 j x hj
    exact h i v hi, fun x hx => by
    obtain ⟨j, hj, rfl⟩ := List.getElem_of_mem hx
    obtain ⟨ds, ⟨_, h⟩, _⟩ := h2 j _ (List.getElem?_eq_getElem hj)
    exact h, rfl⟩

theorem ints_of {k : IntKind} {xs : List Int} {A : Option Addr} {b off : Nat} (h1 : 0 < xs.length → A = some ⟨b, off, none⟩) (h2 : ∀ (j : Nat) (x : Int), xs[j]? = some x → ∃ ds, (ds = [Value.int k x] ∧ (Lit.int k x).wf = true) ∧ ds.length = 1 ∧ ∀ (i : Nat) (u : Value), ds[i]? = some u → W.cell? ⟨b, off + j * 1 + i, none⟩ = some u) : IntsAt k W A b off xs.length xs :=
  ⟨h1, fun j hj => by
    obtain ⟨ds, ⟨rfl, _⟩, _, h⟩ := h2 j _ (List.getElem?_eq_getElem hj)
    have := h 0 _ rfl
    rw [Nat.mul_one, Nat.add_zero] at this
    rw [this]; simp [List.getD, hj], fun j hj => by
    obtain ⟨ds, ⟨_, h⟩, _⟩ := h2 j _ (List.getElem?_eq_getElem hj)
    simpa [List.getD, hj] using h, rfl⟩

theorem opens_program : Opens enc0 Try.prog W base spare held (fun (p : Pg) cs => ProgAt W (.agg cs.toArray) p) 25 := by
  refine opens_struct Try.underlying25 (by kernel_rfl) (by kernel_rfl) ?_
  intro cs hl hf
  obtain ⟨v0, n0, y0, g0, t0, l0⟩ := hf 0 _ rfl
  obtain ⟨v1, n1, y1, g1, t1, _⟩ := hf 1 _ rfl
  obtain ⟨v2, n2, y2, g2, t2, _⟩ := hf 2 _ rfl
  obtain ⟨v3, n3, y3, g3, t3, _⟩ := hf 3 _ rfl
  obtain ⟨v4, n4, y4, g4, t4, l4⟩ := hf 4 _ rfl
  obtain ⟨v5, n5, y5, g5, t5, l5⟩ := hf 5 _ rfl
  obtain ⟨v6, n6, y6, g6, t6, _⟩ := hf 6 _ rfl
  obtain ⟨v7, n7, y7, g7, t7, _⟩ := hf 7 _ rfl
  obtain ⟨a1, e1, _, w1⟩ := DataW.trod_int (k := .i64) (by kernel_rfl) t1
  obtain ⟨a2, e2, _, w2⟩ := DataW.trod_int (k := .i64) (by kernel_rfl) t2
  obtain ⟨a3, e3, _, w3⟩ := DataW.trod_int (k := .i64) (by kernel_rfl) t3
  obtain ⟨a6, e6, _, w6⟩ := DataW.trod_int (k := .i64) (by kernel_rfl) t6
  obtain ⟨a7, e7, _, w7⟩ := DataW.trod_int (k := .i64) (by kernel_rfl) t7
  obtain ⟨fs, A0, b0, o0, c0, e0, h0, z0, _, k0⟩ := opens_slice (t := 22) (e := 34) (sz := 1) (B := 24) Try.underlying22 (by kernel_rfl) (by decide) (by kernel_rfl) (opens_slice (t := 34) (e := 31) (sz := 5) (B := 40) Try.underlying34 (by kernel_rfl) (by decide) (by kernel_rfl) opens_instr) _ _ _ t0 l0
  obtain ⟨ss, A4, b4, o4, c4, e4, h4, z4, _, k4⟩ := opens_slice (t := 23) (sz := 1) (B := 8) Try.underlying23 (by kernel_rfl) (by decide) (by kernel_rfl) (opens_int (k := .i64) (by kernel_rfl)) _ _ _ t4 l4
  obtain ⟨ps, A5, b5, o5, c5, e5, h5, z5, _, k5⟩ := opens_slice (t := 23) (sz := 1) (B := 8) Try.underlying23 (by kernel_rfl) (by decide) (by kernel_rfl) (opens_int (k := .i64) (by kernel_rfl)) _ _ _ t5 l5
  simp only [List.cons.injEq, and_true] at e0 e1 e2 e3 e4 e5 e6 e7
  subst e0 e1 e2 e3 e4 e5 e6 e7
  have hb2 := bounds_i64 w2
  have hb3 := bounds_i64 w3
  match cs, hl with
  | [q0, q1, q2, q3, q4, q5, q6, q7], _ =>
    simp at g0 g1 g2 g3 g4 g5 g6 g7
    subst g0 g1 g2 g3 g4 g5 g6 g7
    refine ⟨⟨fs, a1, a2, a3, ss, ps, a6, a7⟩, ⟨⟨A0, A4, A5, _, c0, _, c4, _, c5, b0, o0, b4, o4, b5, o5, rfl, ⟨h0, ?_, rfl⟩, ints_of h4 k4, ints_of h5 k5, by omega, by omega, by omega⟩, by simp only []; omega, by simp only []; omega⟩⟩
    intro k l hk
    obtain ⟨ds, ⟨A, b, off, cap, rfl, ha, hz, _, hx⟩, _, hc⟩ := k0 k l hk
    refine ⟨A, b, off, cap, ?_, flat_of ha hx, by omega⟩
    have := hc 0 _ rfl
    rw [Nat.mul_one, Nat.add_zero] at this
    exact this

set_option maxRecDepth 100000 in
theorem prog_arg {ts : List TypeId} {ds : List (DataW H)} {j : Nat} {v : Value} {d : DataW H} {ps : List MemPlace} {r : Reach} {b0 : Nat} (hsz : (DataW.weightsEach Try.prog ts ds).all (· ≤ reachBytes) = true) (ht : ts[j]? = some 25) (hd : ds[j]? = some d)
    (hv : Value.okWide Try.prog W r b0 25 v) (h : DataW.Trod enc0 Try.prog W base spare held 25 v d ps) : ∃ p, ProgAt W v p := by
  obtain ⟨cs, rfl, _⟩ := okWide_struct Try.underlying25 hv
  exact opens_arg hsz ht hd h opens_program

def InstrAt (v : Value) (x : In5) : Prop := v = .agg #[.int .i64 x.1, .int .i64 x.2.1, .int .i64 x.2.2.1, .int .i64 x.2.2.2.1, .int .u64 x.2.2.2.2] ∧ ok5 x

set_option maxRecDepth 100000 in
theorem instr_arg {ts : List TypeId} {ds : List (DataW H)} {j : Nat} {v : Value} {d : DataW H} {ps : List MemPlace} {r : Reach} {b0 : Nat} (hsz : (DataW.weightsEach Try.prog ts ds).all (· ≤ reachBytes) = true) (ht : ts[j]? = some 31) (hd : ds[j]? = some d)
    (hv : Value.okWide Try.prog W r b0 31 v) (h : DataW.Trod enc0 Try.prog W base spare held 31 v d ps) : ∃ x, InstrAt v x := by
  obtain ⟨cs, rfl, _⟩ := okWide_struct Try.underlying31 hv
  obtain ⟨x, h1, h2⟩ := opens_arg hsz ht hd h opens_instr
  refine ⟨x, ?_, h2⟩
  have : cs = (enc5 x).toArray := by
    apply Array.toList_inj.1
    simpa [Value.cells] using h1
  rw [this]
  rfl
end Go.Proofs.Ytlnoejmckpimnaa
