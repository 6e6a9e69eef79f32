/-
  No cell of these rows narrows 'for every input' (looked for: loops, veiled, ifaces, maps, wideKeys, modest, calm, conditions, laid).
  DERIVED. THE GIVEN ROWS OF THIS SEAT. 7 by the template 'for every input the law returns true; each argument reads behind the call as it read before'; 0 by the template 'total and deterministic' (their statements: YtdljdepccpmifaaTotals.lean).
  GIVEN WITH THE SEED: the statements are not yours to turn. If you find one false, say at which input.
  Laid BY PROGRAM, IN A SANDBOX (cutbox-rows.mjs): the forced cells as the released guide's own fill.sh prints them over the translation 1666d8338ea3d0d0… (all of the seat's roots in one cut). By AI agents, Wed Nov 11 2026. No macro, syntax, notation, axiom, sorry.
-/
import Derived.Test.YtdljdepccpmifaaChecked
import GoSem.Claim
import GoSem.ClaimJoined
import GoSem.ClaimMapViews
import Derived.JoinedTies
import Derived.KernelRfl
namespace Go.Proofs.Ytdljdepccpmifaa
/- THE CELL 'sum', in the pinned program and in every row, IS THE sha256 OF THE DUMP (.gsa) THAT YtdljdepccpmifaaProg.lean LOADS. Nothing in Lean hashes anything: it is a label: what it is worth is what the hold of that sum in a sandbox is worth. -/
noncomputable def Try.pinned : Pinned := { name := "ytdljdepccpmifaa", sum := "1666d8338ea3d0d044b8e24c0bd2384628c3488a9cfb0b0ddae0a369bd527f14", checked := Try.checked }
namespace Rows
def none {H : Type} : Left H := { results := [], args := [] }

/-- 'drawknifelaw01.NumTwo': WHATEVER THE INPUT: true; the input reads as it did. -/
def numTwoSpec : ChangeSpec := { name := "numTwo", fn := fun _ => fun
  | [d1, d2] => { results := [.lit (.bool true)], args := [d1, d2] }
  | _ => none }
def numTwoRow : OpenClaim := { program := "ytdljdepccpmifaa", sum := "1666d8338ea3d0d044b8e24c0bd2384628c3488a9cfb0b0ddae0a369bd527f14", func := "drawknife/drawknifelaw01.NumTwo", spec := "numTwo", inPlace := ["math.Float64bits", "math.Float64frombits", "math.archMin", "math.archMax"], apart := false }
def NumTwoSaid : Prop := numTwoRow.holds Try.pinned (OpenSpec.ofChange numTwoSpec)

/-- ITS FALSE NEIGHBOUR: 'it returns false'. Refute it at one input. -/
def numTwoWrong : ChangeSpec := { name := "numTwo", fn := fun _ => fun
  | [d1, d2] => { results := [.lit (.bool false)], args := [d1, d2] }
  | _ => none }
def NumTwoWrongFalsely : Prop := numTwoRow.holds Try.pinned (OpenSpec.ofChange numTwoWrong)

/-- 'drawknifelaw01.NumMin': WHATEVER THE INPUT: true; the input reads as it did. -/
def numMinSpec : ChangeSpec := { name := "numMin", fn := fun _ => fun
  | [d1, d2] => { results := [.lit (.bool true)], args := [d1, d2] }
  | _ => none }
def numMinRow : OpenClaim := { program := "ytdljdepccpmifaa", sum := "1666d8338ea3d0d044b8e24c0bd2384628c3488a9cfb0b0ddae0a369bd527f14", func := "drawknife/drawknifelaw01.NumMin", spec := "numMin", inPlace := ["math.Float64bits", "math.Float64frombits", "math.archMin", "math.archMax"], apart := false }
def NumMinSaid : Prop := numMinRow.holds Try.pinned (OpenSpec.ofChange numMinSpec)

/-- ITS FALSE NEIGHBOUR: 'it returns false'. Refute it at one input. -/
def numMinWrong : ChangeSpec := { name := "numMin", fn := fun _ => fun
  | [d1, d2] => { results := [.lit (.bool false)], args := [d1, d2] }
  | _ => none }
def NumMinWrongFalsely : Prop := numMinRow.holds Try.pinned (OpenSpec.ofChange numMinWrong)

/-- 'drawknifelaw01.NumInts': WHATEVER THE INPUT: true; the input reads as it did. -/
def numIntsSpec : ChangeSpec := { name := "numInts", fn := fun _ => fun
  | [d] => { results := [.lit (.bool true)], args := [d] }
  | _ => none }
def numIntsRow : OpenClaim := { program := "ytdljdepccpmifaa", sum := "1666d8338ea3d0d044b8e24c0bd2384628c3488a9cfb0b0ddae0a369bd527f14", func := "drawknife/drawknifelaw01.NumInts", spec := "numInts", inPlace := ["math.Float64bits", "math.Float64frombits", "math.archMin", "math.archMax"], apart := false }
def NumIntsSaid : Prop := numIntsRow.holds Try.pinned (OpenSpec.ofChange numIntsSpec)

/-- ITS FALSE NEIGHBOUR: 'it returns false'. Refute it at one input. -/
def numIntsWrong : ChangeSpec := { name := "numInts", fn := fun _ => fun
  | [d] => { results := [.lit (.bool false)], args := [d] }
  | _ => none }
def NumIntsWrongFalsely : Prop := numIntsRow.holds Try.pinned (OpenSpec.ofChange numIntsWrong)

/-- 'drawknifelaw01.NumTurned': WHATEVER THE INPUT: true; the input reads as it did. -/
def numTurnedSpec : ChangeSpec := { name := "numTurned", fn := fun _ => fun
  | [d1, d2] => { results := [.lit (.bool true)], args := [d1, d2] }
  | _ => none }
def numTurnedRow : OpenClaim := { program := "ytdljdepccpmifaa", sum := "1666d8338ea3d0d044b8e24c0bd2384628c3488a9cfb0b0ddae0a369bd527f14", func := "drawknife/drawknifelaw01.NumTurned", spec := "numTurned", inPlace := ["math.Float64frombits", "math.Float64bits", "math.archMin", "math.archMax"], apart := false }
def NumTurnedSaid : Prop := numTurnedRow.holds Try.pinned (OpenSpec.ofChange numTurnedSpec)

/-- ITS FALSE NEIGHBOUR: 'it returns false'. Refute it at one input. -/
def numTurnedWrong : ChangeSpec := { name := "numTurned", fn := fun _ => fun
  | [d1, d2] => { results := [.lit (.bool false)], args := [d1, d2] }
  | _ => none }
def NumTurnedWrongFalsely : Prop := numTurnedRow.holds Try.pinned (OpenSpec.ofChange numTurnedWrong)

/-- 'drawknifelaw01.NumEdges': WHATEVER THE INPUT: true; the input reads as it did. -/
def numEdgesSpec : ChangeSpec := { name := "numEdges", fn := fun _ => fun
  | [d1, d2] => { results := [.lit (.bool true)], args := [d1, d2] }
  | _ => none }
def numEdgesRow : OpenClaim := { program := "ytdljdepccpmifaa", sum := "1666d8338ea3d0d044b8e24c0bd2384628c3488a9cfb0b0ddae0a369bd527f14", func := "drawknife/drawknifelaw01.NumEdges", spec := "numEdges", inPlace := ["math.Float64frombits", "math.Float64bits", "math.archMin", "math.archMax"], apart := false }
def NumEdgesSaid : Prop := numEdgesRow.holds Try.pinned (OpenSpec.ofChange numEdgesSpec)

/-- ITS FALSE NEIGHBOUR: 'it returns false'. Refute it at one input. -/
def numEdgesWrong : ChangeSpec := { name := "numEdges", fn := fun _ => fun
  | [d1, d2] => { results := [.lit (.bool false)], args := [d1, d2] }
  | _ => none }
def NumEdgesWrongFalsely : Prop := numEdgesRow.holds Try.pinned (OpenSpec.ofChange numEdgesWrong)

/-- 'drawknifelaw01.NumSigns': WHATEVER THE INPUT: true; the input reads as it did. -/
def numSignsSpec : ChangeSpec := { name := "numSigns", fn := fun _ => fun
  | [d] => { results := [.lit (.bool true)], args := [d] }
  | _ => none }
def numSignsRow : OpenClaim := { program := "ytdljdepccpmifaa", sum := "1666d8338ea3d0d044b8e24c0bd2384628c3488a9cfb0b0ddae0a369bd527f14", func := "drawknife/drawknifelaw01.NumSigns", spec := "numSigns", inPlace := ["math.Float64bits", "math.Float64frombits", "math.archMin", "math.archMax"], apart := false }
def NumSignsSaid : Prop := numSignsRow.holds Try.pinned (OpenSpec.ofChange numSignsSpec)

/-- ITS FALSE NEIGHBOUR: 'it returns false'. Refute it at one input. -/
def numSignsWrong : ChangeSpec := { name := "numSigns", fn := fun _ => fun
  | [d] => { results := [.lit (.bool false)], args := [d] }
  | _ => none }
def NumSignsWrongFalsely : Prop := numSignsRow.holds Try.pinned (OpenSpec.ofChange numSignsWrong)

/-- 'drawknifelaw01.NumOrder': WHATEVER THE INPUT: true; the input reads as it did. -/
def numOrderSpec : ChangeSpec := { name := "numOrder", fn := fun _ => fun
  | [d1, d2, d3] => { results := [.lit (.bool true)], args := [d1, d2, d3] }
  | _ => none }
def numOrderRow : OpenClaim := { program := "ytdljdepccpmifaa", sum := "1666d8338ea3d0d044b8e24c0bd2384628c3488a9cfb0b0ddae0a369bd527f14", func := "drawknife/drawknifelaw01.NumOrder", spec := "numOrder", inPlace := ["math.Float64frombits", "math.Float64bits", "math.archMin", "math.archMax"], apart := false }
def NumOrderSaid : Prop := numOrderRow.holds Try.pinned (OpenSpec.ofChange numOrderSpec)

/-- ITS FALSE NEIGHBOUR: 'it returns false'. Refute it at one input. -/
def numOrderWrong : ChangeSpec := { name := "numOrder", fn := fun _ => fun
  | [d1, d2, d3] => { results := [.lit (.bool false)], args := [d1, d2, d3] }
  | _ => none }
def NumOrderWrongFalsely : Prop := numOrderRow.holds Try.pinned (OpenSpec.ofChange numOrderWrong)

/- THE SECOND FORM. 'bulk': how many values and letters a reading holds, each counted each time it is reached (what is shared counts as often as it is met; a slice's spare places count too). A statement '..UptoSaid' is the law's where the arguments, and the package variables that the reading takes, are together of bulk at most 1048576: NARROWER than '..Said'. Prove '..Said' where nothing that the law and all that it calls make is longer than what came in: it says more and counts as full. Else prove '..UptoSaid'. A law counts once. -/
mutual
def uptoBulk {H : Type} : DataW H → Nat
  | .lit (.string bytes) => bytes.length + 1
  | .lit _ => 1
  | .nil => 1
  | .ptr d => uptoBulk d + 1
  | .slice elems spare => uptoBulkAll elems + uptoBulkAll spare + 1
  | .agg parts => uptoBulkAll parts + 1
  | .iface _ d => uptoBulk d + 1
  | .map entries => uptoBulkEntries entries + 1
  | .held _ => 1
def uptoBulkAll {H : Type} : List (DataW H) → Nat
  | [] => 0
  | d :: r => uptoBulk d + uptoBulkAll r
def uptoBulkEntries {H : Type} : List (Lit × DataW H) → Nat
  | [] => 0
  | x :: r => uptoBulkEntry x + uptoBulkEntries r
def uptoBulkEntry {H : Type} : Lit × DataW H → Nat
  | (.string bytes, d) => bytes.length + uptoBulk d + 1
  | (_, d) => uptoBulk d + 1
 end
def uptoSmall : (H : Type) → List (DataW H) → Bool := fun _ ds => decide (uptoBulkAll ds ≤ 1048576)
def OpenSpec.upto (s : _root_.Go.ChangeSpec) : _root_.Go.OpenSpec := { _root_.Go.OpenSpec.ofChange s with cond := some uptoSmall }

/-- 'drawknifelaw01.NumTwo', WHERE WHAT IT READS IS OF BULK AT MOST 1048576: true; the input reads as it did. -/
def numTwoUptoRow : OpenClaim := { program := "ytdljdepccpmifaa", sum := "1666d8338ea3d0d044b8e24c0bd2384628c3488a9cfb0b0ddae0a369bd527f14", func := "drawknife/drawknifelaw01.NumTwo", spec := "numTwo", inPlace := ["math.Float64bits", "math.Float64frombits", "math.archMin", "math.archMax"], apart := false, narrowed := true }
def NumTwoUptoSaid : Prop := numTwoUptoRow.holds Try.pinned (OpenSpec.upto numTwoSpec)

/-- 'drawknifelaw01.NumMin', WHERE WHAT IT READS IS OF BULK AT MOST 1048576: true; the input reads as it did. -/
def numMinUptoRow : OpenClaim := { program := "ytdljdepccpmifaa", sum := "1666d8338ea3d0d044b8e24c0bd2384628c3488a9cfb0b0ddae0a369bd527f14", func := "drawknife/drawknifelaw01.NumMin", spec := "numMin", inPlace := ["math.Float64bits", "math.Float64frombits", "math.archMin", "math.archMax"], apart := false, narrowed := true }
def NumMinUptoSaid : Prop := numMinUptoRow.holds Try.pinned (OpenSpec.upto numMinSpec)

/-- 'drawknifelaw01.NumInts', WHERE WHAT IT READS IS OF BULK AT MOST 1048576: true; the input reads as it did. -/
def numIntsUptoRow : OpenClaim := { program := "ytdljdepccpmifaa", sum := "1666d8338ea3d0d044b8e24c0bd2384628c3488a9cfb0b0ddae0a369bd527f14", func := "drawknife/drawknifelaw01.NumInts", spec := "numInts", inPlace := ["math.Float64bits", "math.Float64frombits", "math.archMin", "math.archMax"], apart := false, narrowed := true }
def NumIntsUptoSaid : Prop := numIntsUptoRow.holds Try.pinned (OpenSpec.upto numIntsSpec)

/-- 'drawknifelaw01.NumTurned', WHERE WHAT IT READS IS OF BULK AT MOST 1048576: true; the input reads as it did. -/
def numTurnedUptoRow : OpenClaim := { program := "ytdljdepccpmifaa", sum := "1666d8338ea3d0d044b8e24c0bd2384628c3488a9cfb0b0ddae0a369bd527f14", func := "drawknife/drawknifelaw01.NumTurned", spec := "numTurned", inPlace := ["math.Float64frombits", "math.Float64bits", "math.archMin", "math.archMax"], apart := false, narrowed := true }
def NumTurnedUptoSaid : Prop := numTurnedUptoRow.holds Try.pinned (OpenSpec.upto numTurnedSpec)

/-- 'drawknifelaw01.NumEdges', WHERE WHAT IT READS IS OF BULK AT MOST 1048576: true; the input reads as it did. -/
def numEdgesUptoRow : OpenClaim := { program := "ytdljdepccpmifaa", sum := "1666d8338ea3d0d044b8e24c0bd2384628c3488a9cfb0b0ddae0a369bd527f14", func := "drawknife/drawknifelaw01.NumEdges", spec := "numEdges", inPlace := ["math.Float64frombits", "math.Float64bits", "math.archMin", "math.archMax"], apart := false, narrowed := true }
def NumEdgesUptoSaid : Prop := numEdgesUptoRow.holds Try.pinned (OpenSpec.upto numEdgesSpec)

/-- 'drawknifelaw01.NumSigns', WHERE WHAT IT READS IS OF BULK AT MOST 1048576: true; the input reads as it did. -/
def numSignsUptoRow : OpenClaim := { program := "ytdljdepccpmifaa", sum := "1666d8338ea3d0d044b8e24c0bd2384628c3488a9cfb0b0ddae0a369bd527f14", func := "drawknife/drawknifelaw01.NumSigns", spec := "numSigns", inPlace := ["math.Float64bits", "math.Float64frombits", "math.archMin", "math.archMax"], apart := false, narrowed := true }
def NumSignsUptoSaid : Prop := numSignsUptoRow.holds Try.pinned (OpenSpec.upto numSignsSpec)

/-- 'drawknifelaw01.NumOrder', WHERE WHAT IT READS IS OF BULK AT MOST 1048576: true; the input reads as it did. -/
def numOrderUptoRow : OpenClaim := { program := "ytdljdepccpmifaa", sum := "1666d8338ea3d0d044b8e24c0bd2384628c3488a9cfb0b0ddae0a369bd527f14", func := "drawknife/drawknifelaw01.NumOrder", spec := "numOrder", inPlace := ["math.Float64frombits", "math.Float64bits", "math.archMin", "math.archMax"], apart := false, narrowed := true }
def NumOrderUptoSaid : Prop := numOrderUptoRow.holds Try.pinned (OpenSpec.upto numOrderSpec)

end Rows
end Go.Proofs.Ytdljdepccpmifaa
