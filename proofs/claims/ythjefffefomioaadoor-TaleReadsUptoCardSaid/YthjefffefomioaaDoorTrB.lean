/- What the rows of this seat share: a world that lays the listed variables; what the list gives; an entry that came in. -/
import Derived.Test.YthjefffefomioaaDoorCards
import Derived.Test.YthjefffefomioaaDoorTie
import Derived.Test.YthjefffefomioaaDoorTlC
import Derived.Test.YthjefffefomioaaDoorOpens2
import Derived.WalkKit
import Derived.ProofKit
import Derived.OpenShut
import Derived.ShutString
import Derived.ChangeOld
import Derived.SizedLaws
import Derived.Carry
import Derived.Deep.DeepHandedRow
import Derived.Deep.DeepWitnessRowRef
import Derived.Lib.LaidTab
import Derived.Lib.LaidU8
import Derived.Stop.LaidErr
import Derived.MakeChecks
namespace Go.Proofs.YthjefffefomioaaDoor
open Go.ChangeShapes Go.WideShapes Go.ChangeAt Go.RowKit
namespace Tr

theorem own : ownKnob Tryd.prog.godebug = none := by kernel_rfl
theorem laidOut : laidOutB Tryd.prog = true := by kernel_rfl

def d32tab : List Int := [0, 1, 28, 2, 29, 14, 24, 3, 30, 22, 20, 15, 25, 17, 4, 8, 31, 27, 13, 23, 21, 19, 16, 7, 26, 12, 18, 6, 11, 5, 10, 9]
def d64tab : List Int := [0, 1, 56, 2, 57, 49, 28, 3, 61, 58, 42, 50, 38, 29, 17, 4, 62, 47, 59, 36, 45, 43, 51, 22, 53, 39, 33, 30, 24, 18, 12, 5, 63, 55, 48, 27, 60, 41, 37, 16, 46, 35, 44, 21, 52, 32, 23, 11, 54, 26, 40, 15, 34, 20, 31, 10, 25, 14, 19, 9, 13, 8, 7, 6]

noncomputable def low (os : Os) : Nat := (World.settled Tryd.prog os).heap.size
def putC (h : Array Obj) (g : Nat) (cs : Array Value) : Array Obj := h.modify g fun
  | .cells _ t frozen => .cells cs t frozen
  | o => o
/-- A world for the witness: each listed variable holds what its initialiser lays. -/
noncomputable def laidWorld (os : Os) : World :=
  let w0 := World.holding Tryd.prog os ⟨#[.cells #[.string ⟨#[105, 110, 118, 97, 108, 105, 100, 32, 115, 121, 110, 116, 97, 120]⟩] 146, .cells #[.string ⟨#[118, 97, 108, 117, 101, 32, 111, 117, 116, 32, 111, 102, 32, 114, 97, 110, 103, 101]⟩] 146], #[], []⟩
  let h0 := putC w0.heap 0 #[.iface 144 (.pointer (some ⟨low os, 0, none⟩))]
  let h1 := putC h0 1 #[.iface 144 (.pointer (some ⟨low os + 1, 0, none⟩))]
  let h2 := putC h1 2 (Lib.pow10Tab.map fun z => Value.int .u64 z).toArray
  let h3 := putC h2 4 (Lib.firstTab.map fun z => Value.int .u8 z).toArray
  let h4 := putC h3 5 ((List.range 16).flatMap fun i => [Value.int .u8 (Lib.accLo i), Value.int .u8 (Lib.accHi i)]).toArray
  let h5 := putC h4 6 (d32tab.map fun z => Value.int .u8 z).toArray
  let h6 := putC h5 7 (d64tab.map fun z => Value.int .u8 z).toArray
  { w0 with heap := h6 }

set_option maxRecDepth 100000 in
theorem laid_met (os : Os) (args : Array Value) : laidMet Tryd.prog Rows.taleLinesRow.laid ((laidWorld os).forCall (fun _ _ => 0) ⟨#[], args, []⟩).memory :=
  laidMet_of_run' 8 (by kernel_rfl) (by kernel_rfl)

theorem rowE (u : TypeId) (h : Tryd.prog.typeName? 3 u = some "*errors.errorString") : u = 144 := by
  have star : "*errors.errorString" = "*" ++ "errors.errorString" := by decide
  exact typeName_ptr_named (nm := "errors.errorString") (by rw [← star]; kernel_rfl) (by kernel_rfl) (by decide) u (by rw [← star]; exact h)

/-- What the list and the world's shape give. -/
theorem gl_of {W : World} (hsh : W.ShapedOpen Tryd.prog) (hL0 : laidMetH Tryd.prog Rows.taleLinesRow.laid W) : Tl.Gl W := by
  have hL : laidMet Tryd.prog Rows.taleLinesRow.laid W := hL0
  have t64 : Lib.TabIs Tryd.prog W "math/bits.deBruijn64tab" .u8 d64tab := Lib.tabIs_of_head (rest := Rows.taleLinesRow.laid.drop 2) (g := 7) (by kernel_rfl) (by kernel_rfl) Tryd.underlying155 Tryd.underlying5 (by kernel_rfl) (by kernel_rfl) hL.tail
  have tp : Lib.TabIs Tryd.prog W "internal/strconv.uint64pow10" .u64 Lib.pow10Tab := Lib.tabIs_of_head (rest := Rows.taleLinesRow.laid.drop 3) (g := 2) (by kernel_rfl) (by kernel_rfl) Tryd.underlying140 Tryd.underlying38 (by kernel_rfl) (by kernel_rfl) hL.tail.tail
  obtain ⟨a0, s0, hv0, -⟩ := laid_sentinel hL.tail.tail.tail.tail Tl.g_rng (by kernel_rfl) Tryd.underlying69 rowE Tryd.underlying144 Tryd.underlying146 rfl rfl Tryd.underlying9 (by kernel_rfl) (by kernel_rfl)
  obtain ⟨a1, s1, hv1, -⟩ := laid_sentinel hL.tail.tail.tail.tail.tail Tl.g_syn (by kernel_rfl) Tryd.underlying69 rowE Tryd.underlying144 Tryd.underlying146 rfl rfl Tryd.underlying9 (by kernel_rfl) (by kernel_rfl)
  obtain ⟨m, hm⟩ := Go.Proofs.cell_of_shapedOpen_int (P := Tryd.prog) (g := 3) (zero := #[.int .i64 0]) (t := 3) hsh (of_decide_eq_true (by kernel_rfl)) (by kernel_rfl) rfl (by kernel_rfl) (by kernel_rfl) Tryd.underlying3
  refine ⟨tp, ⟨_, _, hv1⟩, ⟨_, _, hv0⟩, ⟨m, hm⟩, ?_⟩
  have hg : Tryd.prog.globalNamed "math/bits.deBruijn64tab" = some 7 := by kernel_rfl
  have h7 : (W.var? Tryd.prog "math/bits.deBruijn64tab").isSome = true := by rw [show W.var? Tryd.prog "math/bits.deBruijn64tab" = _ from t64]; rfl
  simp only [World.var?, hg, Option.bind_some] at h7
  rcases Nat.lt_or_ge 7 W.heap.size with h | h
  · omega
  · rw [Array.getElem?_eq_none h] at h7
    cases h7

variable {H : Type} {enc0 : TypeId × Value → H} {W : World} {base : Nat} {spare : Nat → Bool} {held : Bool}

def RStep (x : Int × Int × Int) (cs : List Value) : Prop := cs = [.int .i64 x.1, .int .i64 x.2.1, .int .i64 x.2.2] ∧ (Lit.int .i64 x.1).wf = true ∧ (Lit.int .i64 x.2.1).wf = true ∧ (Lit.int .i64 x.2.2).wf = true

theorem opens_step : Opens enc0 Tryd.prog W base spare held RStep 23 := by
  refine opens_struct Tryd.underlying23 (by kernel_rfl) (by kernel_rfl) ?_
  intro cs hl hf
  obtain ⟨v0, n0, y0, g0, t0, _⟩ := hf 0 _ rfl
  obtain ⟨v1, n1, y1, g1, t1, _⟩ := hf 1 _ rfl
  obtain ⟨v2, n2, y2, g2, t2, _⟩ := hf 2 _ rfl
  obtain ⟨a0, e0, _, w0⟩ := DataW.trod_int (k := .i64) (by kernel_rfl) t0
  obtain ⟨a1, e1, _, w1⟩ := DataW.trod_int (k := .i64) (by kernel_rfl) t1
  obtain ⟨a2, e2, _, w2⟩ := DataW.trod_int (k := .i64) (by kernel_rfl) t2
  simp only [List.cons.injEq, and_true] at e0 e1 e2
  subst e0 e1 e2
  match cs, hl with
  | [c0, c1, c2], _ =>
    simp at g0 g1 g2
    subst g0 g1 g2
    exact ⟨(a0, a1, a2), rfl, w0, w1, w2⟩

end Tr
end Go.Proofs.YthjefffefomioaaDoor
