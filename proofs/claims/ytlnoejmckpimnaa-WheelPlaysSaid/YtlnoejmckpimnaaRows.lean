/-
  No cell of these rows narrows 'for every input' (looked for: loops, veiled, ifaces, maps, wideKeys, modest, calm, conditions, laid).
  DERIVED. THE GIVEN ROWS OF THIS SEAT. 8 by the template 'for every input the law returns true; each argument reads behind the call as it read before'; 0 by the template 'total and deterministic' (their statements: YtlnoejmckpimnaaTotals.lean).
  GIVEN WITH THE SEED: the statements are not yours to turn. If you find one false, say at which input.
  Laid BY PROGRAM, IN A SANDBOX (cutbox-rows.mjs): the forced cells as the released guide's own fill.sh prints them over the translation 15f638758eb6ddc0… (all of the seat's roots in one cut). By AI agents, Wed Nov 11 2026. No macro, syntax, notation, axiom, sorry.
-/
import Derived.Test.YtlnoejmckpimnaaChecked
import GoSem.Claim
import GoSem.ClaimJoined
import GoSem.ClaimMapViews
import Derived.JoinedTies
import Derived.KernelRfl
namespace Go.Proofs.Ytlnoejmckpimnaa
/- THE CELL 'sum', in the pinned program and in every row, IS THE sha256 OF THE DUMP (.gsa) THAT YtlnoejmckpimnaaProg.lean LOADS. Nothing in Lean hashes anything: it is a label: what it is worth is what the hold of that sum in a sandbox is worth. -/
noncomputable def Try.pinned : Pinned := { name := "ytlnoejmckpimnaa", sum := "15f638758eb6ddc099e8e60165f96cde07f05f0d2f82eeb677b7f491bbc0b0f6", checked := Try.checked }
namespace Rows
def none {H : Type} : Left H := { results := [], args := [] }

/-- 'drawknifelaw03.FrameNexts': WHATEVER THE INPUT: true; the input reads as it did. -/
def frameNextsSpec : ChangeSpec := { name := "frameNexts", fn := fun _ => fun
  | [d1, d2] => { results := [.lit (.bool true)], args := [d1, d2] }
  | _ => none }
def frameNextsRow : OpenClaim := { program := "ytlnoejmckpimnaa", sum := "15f638758eb6ddc099e8e60165f96cde07f05f0d2f82eeb677b7f491bbc0b0f6", func := "drawknife/drawknifelaw03.FrameNexts", spec := "frameNexts", inPlace := ["math.Float64frombits", "math.Float64bits", "math.archMin", "math.archMax"], unfollowed := true, recurses := true, apart := false }
def FrameNextsSaid : Prop := frameNextsRow.holds Try.pinned (OpenSpec.ofChange frameNextsSpec)

/-- ITS FALSE NEIGHBOUR: 'it returns false'. Refute it at one input. -/
def frameNextsWrong : ChangeSpec := { name := "frameNexts", fn := fun _ => fun
  | [d1, d2] => { results := [.lit (.bool false)], args := [d1, d2] }
  | _ => none }
def FrameNextsWrongFalsely : Prop := frameNextsRow.holds Try.pinned (OpenSpec.ofChange frameNextsWrong)

/-- 'drawknifelaw03.FrameAriths': WHATEVER THE INPUT: true; the input reads as it did. -/
def frameArithsSpec : ChangeSpec := { name := "frameAriths", fn := fun _ => fun
  | [d1, d2, d3] => { results := [.lit (.bool true)], args := [d1, d2, d3] }
  | _ => none }
def frameArithsRow : OpenClaim := { program := "ytlnoejmckpimnaa", sum := "15f638758eb6ddc099e8e60165f96cde07f05f0d2f82eeb677b7f491bbc0b0f6", func := "drawknife/drawknifelaw03.FrameAriths", spec := "frameAriths", inPlace := ["math.Float64frombits", "math.Float64bits", "math.archMin", "math.archMax"], unfollowed := true, recurses := true, apart := false }
def FrameArithsSaid : Prop := frameArithsRow.holds Try.pinned (OpenSpec.ofChange frameArithsSpec)

/-- ITS FALSE NEIGHBOUR: 'it returns false'. Refute it at one input. -/
def frameArithsWrong : ChangeSpec := { name := "frameAriths", fn := fun _ => fun
  | [d1, d2, d3] => { results := [.lit (.bool false)], args := [d1, d2, d3] }
  | _ => none }
def FrameArithsWrongFalsely : Prop := frameArithsRow.holds Try.pinned (OpenSpec.ofChange frameArithsWrong)

/-- 'drawknifelaw03.FramePlains': WHATEVER THE INPUT: true; the input reads as it did. -/
def framePlainsSpec : ChangeSpec := { name := "framePlains", fn := fun _ => fun
  | [d1, d2, d3] => { results := [.lit (.bool true)], args := [d1, d2, d3] }
  | _ => none }
def framePlainsRow : OpenClaim := { program := "ytlnoejmckpimnaa", sum := "15f638758eb6ddc099e8e60165f96cde07f05f0d2f82eeb677b7f491bbc0b0f6", func := "drawknife/drawknifelaw03.FramePlains", spec := "framePlains", inPlace := ["math.Float64frombits", "math.Float64bits", "math.archMin", "math.archMax"], unfollowed := true, recurses := true, apart := false }
def FramePlainsSaid : Prop := framePlainsRow.holds Try.pinned (OpenSpec.ofChange framePlainsSpec)

/-- ITS FALSE NEIGHBOUR: 'it returns false'. Refute it at one input. -/
def framePlainsWrong : ChangeSpec := { name := "framePlains", fn := fun _ => fun
  | [d1, d2, d3] => { results := [.lit (.bool false)], args := [d1, d2, d3] }
  | _ => none }
def FramePlainsWrongFalsely : Prop := framePlainsRow.holds Try.pinned (OpenSpec.ofChange framePlainsWrong)

/-- 'drawknifelaw03.FrameStays': WHATEVER THE INPUT: true; the input reads as it did. -/
def frameStaysSpec : ChangeSpec := { name := "frameStays", fn := fun _ => fun
  | [d1, d2, d3] => { results := [.lit (.bool true)], args := [d1, d2, d3] }
  | _ => none }
def frameStaysRow : OpenClaim := { program := "ytlnoejmckpimnaa", sum := "15f638758eb6ddc099e8e60165f96cde07f05f0d2f82eeb677b7f491bbc0b0f6", func := "drawknife/drawknifelaw03.FrameStays", spec := "frameStays", inPlace := ["math.Float64frombits", "math.Float64bits", "math.archMin", "math.archMax"], unfollowed := true, recurses := true, apart := false }
def FrameStaysSaid : Prop := frameStaysRow.holds Try.pinned (OpenSpec.ofChange frameStaysSpec)

/-- ITS FALSE NEIGHBOUR: 'it returns false'. Refute it at one input. -/
def frameStaysWrong : ChangeSpec := { name := "frameStays", fn := fun _ => fun
  | [d1, d2, d3] => { results := [.lit (.bool false)], args := [d1, d2, d3] }
  | _ => none }
def FrameStaysWrongFalsely : Prop := frameStaysRow.holds Try.pinned (OpenSpec.ofChange frameStaysWrong)

/-- 'drawknifelaw03.FrameJumps': WHATEVER THE INPUT: true; the input reads as it did. -/
def frameJumpsSpec : ChangeSpec := { name := "frameJumps", fn := fun _ => fun
  | [d1, d2, d3] => { results := [.lit (.bool true)], args := [d1, d2, d3] }
  | _ => none }
def frameJumpsRow : OpenClaim := { program := "ytlnoejmckpimnaa", sum := "15f638758eb6ddc099e8e60165f96cde07f05f0d2f82eeb677b7f491bbc0b0f6", func := "drawknife/drawknifelaw03.FrameJumps", spec := "frameJumps", inPlace := ["math.Float64frombits", "math.Float64bits", "math.archMin", "math.archMax"], unfollowed := true, recurses := true, apart := false }
def FrameJumpsSaid : Prop := frameJumpsRow.holds Try.pinned (OpenSpec.ofChange frameJumpsSpec)

/-- ITS FALSE NEIGHBOUR: 'it returns false'. Refute it at one input. -/
def frameJumpsWrong : ChangeSpec := { name := "frameJumps", fn := fun _ => fun
  | [d1, d2, d3] => { results := [.lit (.bool false)], args := [d1, d2, d3] }
  | _ => none }
def FrameJumpsWrongFalsely : Prop := frameJumpsRow.holds Try.pinned (OpenSpec.ofChange frameJumpsWrong)

/-- 'drawknifelaw06.WheelOrder': WHATEVER THE INPUT: true; the input reads as it did. -/
def wheelOrderSpec : ChangeSpec := { name := "wheelOrder", fn := fun _ => fun
  | [d] => { results := [.lit (.bool true)], args := [d] }
  | _ => none }
def wheelOrderRow : OpenClaim := { program := "ytlnoejmckpimnaa", sum := "15f638758eb6ddc099e8e60165f96cde07f05f0d2f82eeb677b7f491bbc0b0f6", func := "drawknife/drawknifelaw06.WheelOrder", spec := "wheelOrder", recurses := true, apart := false }
def WheelOrderSaid : Prop := wheelOrderRow.holds Try.pinned (OpenSpec.ofChange wheelOrderSpec)

/-- ITS FALSE NEIGHBOUR: 'it returns false'. Refute it at one input. -/
def wheelOrderWrong : ChangeSpec := { name := "wheelOrder", fn := fun _ => fun
  | [d] => { results := [.lit (.bool false)], args := [d] }
  | _ => none }
def WheelOrderWrongFalsely : Prop := wheelOrderRow.holds Try.pinned (OpenSpec.ofChange wheelOrderWrong)

/-- 'drawknifelaw06.WheelPlays': WHATEVER THE INPUT: true; the input reads as it did. -/
def wheelPlaysSpec : ChangeSpec := { name := "wheelPlays", fn := fun _ => fun
  | [d] => { results := [.lit (.bool true)], args := [d] }
  | _ => none }
def wheelPlaysRow : OpenClaim := { program := "ytlnoejmckpimnaa", sum := "15f638758eb6ddc099e8e60165f96cde07f05f0d2f82eeb677b7f491bbc0b0f6", func := "drawknife/drawknifelaw06.WheelPlays", spec := "wheelPlays", recurses := true, apart := false }
def WheelPlaysSaid : Prop := wheelPlaysRow.holds Try.pinned (OpenSpec.ofChange wheelPlaysSpec)

/-- ITS FALSE NEIGHBOUR: 'it returns false'. Refute it at one input. -/
def wheelPlaysWrong : ChangeSpec := { name := "wheelPlays", fn := fun _ => fun
  | [d] => { results := [.lit (.bool false)], args := [d] }
  | _ => none }
def WheelPlaysWrongFalsely : Prop := wheelPlaysRow.holds Try.pinned (OpenSpec.ofChange wheelPlaysWrong)

/-- 'drawknifelaw06.WheelOnce': WHATEVER THE INPUT: true; the input reads as it did. -/
def wheelOnceSpec : ChangeSpec := { name := "wheelOnce", fn := fun _ => fun
  | [d1, d2] => { results := [.lit (.bool true)], args := [d1, d2] }
  | _ => none }
def wheelOnceRow : OpenClaim := { program := "ytlnoejmckpimnaa", sum := "15f638758eb6ddc099e8e60165f96cde07f05f0d2f82eeb677b7f491bbc0b0f6", func := "drawknife/drawknifelaw06.WheelOnce", spec := "wheelOnce", recurses := true, apart := false }
def WheelOnceSaid : Prop := wheelOnceRow.holds Try.pinned (OpenSpec.ofChange wheelOnceSpec)

/-- ITS FALSE NEIGHBOUR: 'it returns false'. Refute it at one input. -/
def wheelOnceWrong : ChangeSpec := { name := "wheelOnce", fn := fun _ => fun
  | [d1, d2] => { results := [.lit (.bool false)], args := [d1, d2] }
  | _ => none }
def WheelOnceWrongFalsely : Prop := wheelOnceRow.holds Try.pinned (OpenSpec.ofChange wheelOnceWrong)

/- THE SECOND FORM. 'bulk': how many values and letters a reading holds, each counted each time it is reached (what is shared counts as often as it is met; a slice's spare places count too). A statement '..UptoSaid' is the law's where the arguments, and the package variables that the reading takes, are together of bulk at most 1048576: NARROWER than '..Said'. Prove '..Said' where nothing that the law and all that it calls make is longer than what came in: it says more and counts as full. Else prove '..UptoSaid'. A law counts once. -/
mutual
def uptoBulk {H : Type} : DataW H → Nat
  | .lit (.string bytes) => bytes.length + 1
  | .lit _ => 1
  | .nil => 1
  | .ptr d => uptoBulk d + 1
  | .slice elems spare => uptoBulkAll elems + uptoBulkAll spare + 1
  | .agg parts => uptoBulkAll parts + 1
  | .iface _ d => uptoBulk d + 1
  | .map entries => uptoBulkEntries entries + 1
  | .held _ => 1
def uptoBulkAll {H : Type} : List (DataW H) → Nat
  | [] => 0
  | d :: r => uptoBulk d + uptoBulkAll r
def uptoBulkEntries {H : Type} : List (Lit × DataW H) → Nat
  | [] => 0
  | x :: r => uptoBulkEntry x + uptoBulkEntries r
def uptoBulkEntry {H : Type} : Lit × DataW H → Nat
  | (.string bytes, d) => bytes.length + uptoBulk d + 1
  | (_, d) => uptoBulk d + 1
 end
def uptoSmall : (H : Type) → List (DataW H) → Bool := fun _ ds => decide (uptoBulkAll ds ≤ 1048576)
def OpenSpec.upto (s : _root_.Go.ChangeSpec) : _root_.Go.OpenSpec := { _root_.Go.OpenSpec.ofChange s with cond := some uptoSmall }

/-- 'drawknifelaw03.FrameNexts', WHERE WHAT IT READS IS OF BULK AT MOST 1048576: true; the input reads as it did. -/
def frameNextsUptoRow : OpenClaim := { program := "ytlnoejmckpimnaa", sum := "15f638758eb6ddc099e8e60165f96cde07f05f0d2f82eeb677b7f491bbc0b0f6", func := "drawknife/drawknifelaw03.FrameNexts", spec := "frameNexts", inPlace := ["math.Float64frombits", "math.Float64bits", "math.archMin", "math.archMax"], unfollowed := true, recurses := true, apart := false, narrowed := true }
def FrameNextsUptoSaid : Prop := frameNextsUptoRow.holds Try.pinned (OpenSpec.upto frameNextsSpec)

/-- 'drawknifelaw03.FrameAriths', WHERE WHAT IT READS IS OF BULK AT MOST 1048576: true; the input reads as it did. -/
def frameArithsUptoRow : OpenClaim := { program := "ytlnoejmckpimnaa", sum := "15f638758eb6ddc099e8e60165f96cde07f05f0d2f82eeb677b7f491bbc0b0f6", func := "drawknife/drawknifelaw03.FrameAriths", spec := "frameAriths", inPlace := ["math.Float64frombits", "math.Float64bits", "math.archMin", "math.archMax"], unfollowed := true, recurses := true, apart := false, narrowed := true }
def FrameArithsUptoSaid : Prop := frameArithsUptoRow.holds Try.pinned (OpenSpec.upto frameArithsSpec)

/-- 'drawknifelaw03.FramePlains', WHERE WHAT IT READS IS OF BULK AT MOST 1048576: true; the input reads as it did. -/
def framePlainsUptoRow : OpenClaim := { program := "ytlnoejmckpimnaa", sum := "15f638758eb6ddc099e8e60165f96cde07f05f0d2f82eeb677b7f491bbc0b0f6", func := "drawknife/drawknifelaw03.FramePlains", spec := "framePlains", inPlace := ["math.Float64frombits", "math.Float64bits", "math.archMin", "math.archMax"], unfollowed := true, recurses := true, apart := false, narrowed := true }
def FramePlainsUptoSaid : Prop := framePlainsUptoRow.holds Try.pinned (OpenSpec.upto framePlainsSpec)

/-- 'drawknifelaw03.FrameStays', WHERE WHAT IT READS IS OF BULK AT MOST 1048576: true; the input reads as it did. -/
def frameStaysUptoRow : OpenClaim := { program := "ytlnoejmckpimnaa", sum := "15f638758eb6ddc099e8e60165f96cde07f05f0d2f82eeb677b7f491bbc0b0f6", func := "drawknife/drawknifelaw03.FrameStays", spec := "frameStays", inPlace := ["math.Float64frombits", "math.Float64bits", "math.archMin", "math.archMax"], unfollowed := true, recurses := true, apart := false, narrowed := true }
def FrameStaysUptoSaid : Prop := frameStaysUptoRow.holds Try.pinned (OpenSpec.upto frameStaysSpec)

/-- 'drawknifelaw03.FrameJumps', WHERE WHAT IT READS IS OF BULK AT MOST 1048576: true; the input reads as it did. -/
def frameJumpsUptoRow : OpenClaim := { program := "ytlnoejmckpimnaa", sum := "15f638758eb6ddc099e8e60165f96cde07f05f0d2f82eeb677b7f491bbc0b0f6", func := "drawknife/drawknifelaw03.FrameJumps", spec := "frameJumps", inPlace := ["math.Float64frombits", "math.Float64bits", "math.archMin", "math.archMax"], unfollowed := true, recurses := true, apart := false, narrowed := true }
def FrameJumpsUptoSaid : Prop := frameJumpsUptoRow.holds Try.pinned (OpenSpec.upto frameJumpsSpec)

/-- 'drawknifelaw06.WheelOrder', WHERE WHAT IT READS IS OF BULK AT MOST 1048576: true; the input reads as it did. -/
def wheelOrderUptoRow : OpenClaim := { program := "ytlnoejmckpimnaa", sum := "15f638758eb6ddc099e8e60165f96cde07f05f0d2f82eeb677b7f491bbc0b0f6", func := "drawknife/drawknifelaw06.WheelOrder", spec := "wheelOrder", recurses := true, apart := false, narrowed := true }
def WheelOrderUptoSaid : Prop := wheelOrderUptoRow.holds Try.pinned (OpenSpec.upto wheelOrderSpec)

/-- 'drawknifelaw06.WheelPlays', WHERE WHAT IT READS IS OF BULK AT MOST 1048576: true; the input reads as it did. -/
def wheelPlaysUptoRow : OpenClaim := { program := "ytlnoejmckpimnaa", sum := "15f638758eb6ddc099e8e60165f96cde07f05f0d2f82eeb677b7f491bbc0b0f6", func := "drawknife/drawknifelaw06.WheelPlays", spec := "wheelPlays", recurses := true, apart := false, narrowed := true }
def WheelPlaysUptoSaid : Prop := wheelPlaysUptoRow.holds Try.pinned (OpenSpec.upto wheelPlaysSpec)

/-- 'drawknifelaw06.WheelOnce', WHERE WHAT IT READS IS OF BULK AT MOST 1048576: true; the input reads as it did. -/
def wheelOnceUptoRow : OpenClaim := { program := "ytlnoejmckpimnaa", sum := "15f638758eb6ddc099e8e60165f96cde07f05f0d2f82eeb677b7f491bbc0b0f6", func := "drawknife/drawknifelaw06.WheelOnce", spec := "wheelOnce", recurses := true, apart := false, narrowed := true }
def WheelOnceUptoSaid : Prop := wheelOnceUptoRow.holds Try.pinned (OpenSpec.upto wheelOnceSpec)

end Rows
end Go.Proofs.Ytlnoejmckpimnaa
