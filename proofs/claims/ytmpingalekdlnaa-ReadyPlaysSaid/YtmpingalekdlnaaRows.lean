/-
  No cell of these rows narrows 'for every input' (looked for: loops, veiled, ifaces, maps, wideKeys, modest, calm, conditions, laid).
  DERIVED. THE GIVEN ROWS OF THIS SEAT. 7 by the template 'for every input the law returns true; each argument reads behind the call as it read before'; 0 by the template 'total and deterministic' (their statements: YtmpingalekdlnaaTotals.lean).
  GIVEN WITH THE SEED: the statements are not yours to turn. If you find one false, say at which input.
  Laid BY PROGRAM, IN A SANDBOX (cutbox-rows.mjs): the forced cells as the released guide's own fill.sh prints them over the translation 629c2af941c532dd… (all of the seat's roots in one cut). By AI agents, Wed Nov 11 2026. No macro, syntax, notation, axiom, sorry.
-/
import Derived.Test.YtmpingalekdlnaaChecked
import GoSem.Claim
import GoSem.ClaimJoined
import GoSem.ClaimMapViews
import Derived.JoinedTies
import Derived.KernelRfl
namespace Go.Proofs.Ytmpingalekdlnaa
/- THE CELL 'sum', in the pinned program and in every row, IS THE sha256 OF THE DUMP (.gsa) THAT YtmpingalekdlnaaProg.lean LOADS. Nothing in Lean hashes anything: it is a label: what it is worth is what the hold of that sum in a sandbox is worth. -/
noncomputable def Try.pinned : Pinned := { name := "ytmpingalekdlnaa", sum := "629c2af941c532dd2445a647822d7cf51e1c8dd99f1149dff0573fc80b59ec11", checked := Try.checked }
namespace Rows
def none {H : Type} : Left H := { results := [], args := [] }

/-- 'drawknifelaw13.ReadyPlays': WHATEVER THE INPUT: true; the input reads as it did. -/
def readyPlaysSpec : ChangeSpec := { name := "readyPlays", fn := fun _ => fun
  | [d1, d2] => { results := [.lit (.bool true)], args := [d1, d2] }
  | _ => none }
def readyPlaysRow : OpenClaim := { program := "ytmpingalekdlnaa", sum := "629c2af941c532dd2445a647822d7cf51e1c8dd99f1149dff0573fc80b59ec11", func := "drawknife/drawknifelaw13.ReadyPlays", spec := "readyPlays", unfollowed := true, recurses := true, apart := false }
def ReadyPlaysSaid : Prop := readyPlaysRow.holds Try.pinned (OpenSpec.ofChange readyPlaysSpec)

/-- ITS FALSE NEIGHBOUR: 'it returns false'. Refute it at one input. -/
def readyPlaysWrong : ChangeSpec := { name := "readyPlays", fn := fun _ => fun
  | [d1, d2] => { results := [.lit (.bool false)], args := [d1, d2] }
  | _ => none }
def ReadyPlaysWrongFalsely : Prop := readyPlaysRow.holds Try.pinned (OpenSpec.ofChange readyPlaysWrong)

/-- 'drawknifelaw13.ReadyAll': WHATEVER THE INPUT: true; the input reads as it did. -/
def readyAllSpec : ChangeSpec := { name := "readyAll", fn := fun _ => fun
  | [d1, d2, d3] => { results := [.lit (.bool true)], args := [d1, d2, d3] }
  | _ => none }
def readyAllRow : OpenClaim := { program := "ytmpingalekdlnaa", sum := "629c2af941c532dd2445a647822d7cf51e1c8dd99f1149dff0573fc80b59ec11", func := "drawknife/drawknifelaw13.ReadyAll", spec := "readyAll", unfollowed := true, recurses := true, apart := false }
def ReadyAllSaid : Prop := readyAllRow.holds Try.pinned (OpenSpec.ofChange readyAllSpec)

/-- ITS FALSE NEIGHBOUR: 'it returns false'. Refute it at one input. -/
def readyAllWrong : ChangeSpec := { name := "readyAll", fn := fun _ => fun
  | [d1, d2, d3] => { results := [.lit (.bool false)], args := [d1, d2, d3] }
  | _ => none }
def ReadyAllWrongFalsely : Prop := readyAllRow.holds Try.pinned (OpenSpec.ofChange readyAllWrong)

/-- 'drawknifelaw13.ReadyOwn': WHATEVER THE INPUT: true; the input reads as it did. -/
def readyOwnSpec : ChangeSpec := { name := "readyOwn", fn := fun _ => fun
  | [d1, d2, d3] => { results := [.lit (.bool true)], args := [d1, d2, d3] }
  | _ => none }
def readyOwnRow : OpenClaim := { program := "ytmpingalekdlnaa", sum := "629c2af941c532dd2445a647822d7cf51e1c8dd99f1149dff0573fc80b59ec11", func := "drawknife/drawknifelaw13.ReadyOwn", spec := "readyOwn", unfollowed := true, recurses := true, apart := false }
def ReadyOwnSaid : Prop := readyOwnRow.holds Try.pinned (OpenSpec.ofChange readyOwnSpec)

/-- ITS FALSE NEIGHBOUR: 'it returns false'. Refute it at one input. -/
def readyOwnWrong : ChangeSpec := { name := "readyOwn", fn := fun _ => fun
  | [d1, d2, d3] => { results := [.lit (.bool false)], args := [d1, d2, d3] }
  | _ => none }
def ReadyOwnWrongFalsely : Prop := readyOwnRow.holds Try.pinned (OpenSpec.ofChange readyOwnWrong)

/-- 'drawknifelaw05.DequePlays': WHATEVER THE INPUT: true; the input reads as it did. -/
def dequePlaysSpec : ChangeSpec := { name := "dequePlays", fn := fun _ => fun
  | [d] => { results := [.lit (.bool true)], args := [d] }
  | _ => none }
def dequePlaysRow : OpenClaim := { program := "ytmpingalekdlnaa", sum := "629c2af941c532dd2445a647822d7cf51e1c8dd99f1149dff0573fc80b59ec11", func := "drawknife/drawknifelaw05.DequePlays", spec := "dequePlays", inPlace := ["slices.overlaps[int]"], apart := false }
def DequePlaysSaid : Prop := dequePlaysRow.holds Try.pinned (OpenSpec.ofChange dequePlaysSpec)

/-- ITS FALSE NEIGHBOUR: 'it returns false'. Refute it at one input. -/
def dequePlaysWrong : ChangeSpec := { name := "dequePlays", fn := fun _ => fun
  | [d] => { results := [.lit (.bool false)], args := [d] }
  | _ => none }
def DequePlaysWrongFalsely : Prop := dequePlaysRow.holds Try.pinned (OpenSpec.ofChange dequePlaysWrong)

/-- 'drawknifelaw05.DequeTurned': WHATEVER THE INPUT: true; the input reads as it did. -/
def dequeTurnedSpec : ChangeSpec := { name := "dequeTurned", fn := fun _ => fun
  | [d1, d2, d3] => { results := [.lit (.bool true)], args := [d1, d2, d3] }
  | _ => none }
def dequeTurnedRow : OpenClaim := { program := "ytmpingalekdlnaa", sum := "629c2af941c532dd2445a647822d7cf51e1c8dd99f1149dff0573fc80b59ec11", func := "drawknife/drawknifelaw05.DequeTurned", spec := "dequeTurned", inPlace := ["slices.overlaps[int]"], apart := false }
def DequeTurnedSaid : Prop := dequeTurnedRow.holds Try.pinned (OpenSpec.ofChange dequeTurnedSpec)

/-- ITS FALSE NEIGHBOUR: 'it returns false'. Refute it at one input. -/
def dequeTurnedWrong : ChangeSpec := { name := "dequeTurned", fn := fun _ => fun
  | [d1, d2, d3] => { results := [.lit (.bool false)], args := [d1, d2, d3] }
  | _ => none }
def DequeTurnedWrongFalsely : Prop := dequeTurnedRow.holds Try.pinned (OpenSpec.ofChange dequeTurnedWrong)

/-- 'drawknifelaw05.DequeNone': WHATEVER THE INPUT: true; the input reads as it did. -/
def dequeNoneSpec : ChangeSpec := { name := "dequeNone", fn := fun _ => fun
  | [d] => { results := [.lit (.bool true)], args := [d] }
  | _ => none }
def dequeNoneRow : OpenClaim := { program := "ytmpingalekdlnaa", sum := "629c2af941c532dd2445a647822d7cf51e1c8dd99f1149dff0573fc80b59ec11", func := "drawknife/drawknifelaw05.DequeNone", spec := "dequeNone", inPlace := ["slices.overlaps[int]"], apart := false }
def DequeNoneSaid : Prop := dequeNoneRow.holds Try.pinned (OpenSpec.ofChange dequeNoneSpec)

/-- ITS FALSE NEIGHBOUR: 'it returns false'. Refute it at one input. -/
def dequeNoneWrong : ChangeSpec := { name := "dequeNone", fn := fun _ => fun
  | [d] => { results := [.lit (.bool false)], args := [d] }
  | _ => none }
def DequeNoneWrongFalsely : Prop := dequeNoneRow.holds Try.pinned (OpenSpec.ofChange dequeNoneWrong)

/-- 'drawknifelaw05.DequeEnds': WHATEVER THE INPUT: true; the input reads as it did. -/
def dequeEndsSpec : ChangeSpec := { name := "dequeEnds", fn := fun _ => fun
  | [d1, d2, d3] => { results := [.lit (.bool true)], args := [d1, d2, d3] }
  | _ => none }
def dequeEndsRow : OpenClaim := { program := "ytmpingalekdlnaa", sum := "629c2af941c532dd2445a647822d7cf51e1c8dd99f1149dff0573fc80b59ec11", func := "drawknife/drawknifelaw05.DequeEnds", spec := "dequeEnds", inPlace := ["slices.overlaps[int]"], apart := false }
def DequeEndsSaid : Prop := dequeEndsRow.holds Try.pinned (OpenSpec.ofChange dequeEndsSpec)

/-- ITS FALSE NEIGHBOUR: 'it returns false'. Refute it at one input. -/
def dequeEndsWrong : ChangeSpec := { name := "dequeEnds", fn := fun _ => fun
  | [d1, d2, d3] => { results := [.lit (.bool false)], args := [d1, d2, d3] }
  | _ => none }
def DequeEndsWrongFalsely : Prop := dequeEndsRow.holds Try.pinned (OpenSpec.ofChange dequeEndsWrong)

/- THE SECOND FORM. 'bulk': how many values and letters a reading holds, each counted each time it is reached (what is shared counts as often as it is met; a slice's spare places count too). A statement '..UptoSaid' is the law's where the arguments, and the package variables that the reading takes, are together of bulk at most 1048576: NARROWER than '..Said'. Prove '..Said' where nothing that the law and all that it calls make is longer than what came in: it says more and counts as full. Else prove '..UptoSaid'. A law counts once. -/
mutual
def uptoBulk {H : Type} : DataW H → Nat
  | .lit (.string bytes) => bytes.length + 1
  | .lit _ => 1
  | .nil => 1
  | .ptr d => uptoBulk d + 1
  | .slice elems spare => uptoBulkAll elems + uptoBulkAll spare + 1
  | .agg parts => uptoBulkAll parts + 1
  | .iface _ d => uptoBulk d + 1
  | .map entries => uptoBulkEntries entries + 1
  | .held _ => 1
def uptoBulkAll {H : Type} : List (DataW H) → Nat
  | [] => 0
  | d :: r => uptoBulk d + uptoBulkAll r
def uptoBulkEntries {H : Type} : List (Lit × DataW H) → Nat
  | [] => 0
  | x :: r => uptoBulkEntry x + uptoBulkEntries r
def uptoBulkEntry {H : Type} : Lit × DataW H → Nat
  | (.string bytes, d) => bytes.length + uptoBulk d + 1
  | (_, d) => uptoBulk d + 1
 end
def uptoSmall : (H : Type) → List (DataW H) → Bool := fun _ ds => decide (uptoBulkAll ds ≤ 1048576)
def OpenSpec.upto (s : _root_.Go.ChangeSpec) : _root_.Go.OpenSpec := { _root_.Go.OpenSpec.ofChange s with cond := some uptoSmall }

/-- 'drawknifelaw13.ReadyPlays', WHERE WHAT IT READS IS OF BULK AT MOST 1048576: true; the input reads as it did. -/
def readyPlaysUptoRow : OpenClaim := { program := "ytmpingalekdlnaa", sum := "629c2af941c532dd2445a647822d7cf51e1c8dd99f1149dff0573fc80b59ec11", func := "drawknife/drawknifelaw13.ReadyPlays", spec := "readyPlays", unfollowed := true, recurses := true, apart := false, narrowed := true }
def ReadyPlaysUptoSaid : Prop := readyPlaysUptoRow.holds Try.pinned (OpenSpec.upto readyPlaysSpec)

/-- 'drawknifelaw13.ReadyAll', WHERE WHAT IT READS IS OF BULK AT MOST 1048576: true; the input reads as it did. -/
def readyAllUptoRow : OpenClaim := { program := "ytmpingalekdlnaa", sum := "629c2af941c532dd2445a647822d7cf51e1c8dd99f1149dff0573fc80b59ec11", func := "drawknife/drawknifelaw13.ReadyAll", spec := "readyAll", unfollowed := true, recurses := true, apart := false, narrowed := true }
def ReadyAllUptoSaid : Prop := readyAllUptoRow.holds Try.pinned (OpenSpec.upto readyAllSpec)

/-- 'drawknifelaw13.ReadyOwn', WHERE WHAT IT READS IS OF BULK AT MOST 1048576: true; the input reads as it did. -/
def readyOwnUptoRow : OpenClaim := { program := "ytmpingalekdlnaa", sum := "629c2af941c532dd2445a647822d7cf51e1c8dd99f1149dff0573fc80b59ec11", func := "drawknife/drawknifelaw13.ReadyOwn", spec := "readyOwn", unfollowed := true, recurses := true, apart := false, narrowed := true }
def ReadyOwnUptoSaid : Prop := readyOwnUptoRow.holds Try.pinned (OpenSpec.upto readyOwnSpec)

/-- 'drawknifelaw05.DequePlays', WHERE WHAT IT READS IS OF BULK AT MOST 1048576: true; the input reads as it did. -/
def dequePlaysUptoRow : OpenClaim := { program := "ytmpingalekdlnaa", sum := "629c2af941c532dd2445a647822d7cf51e1c8dd99f1149dff0573fc80b59ec11", func := "drawknife/drawknifelaw05.DequePlays", spec := "dequePlays", inPlace := ["slices.overlaps[int]"], apart := false, narrowed := true }
def DequePlaysUptoSaid : Prop := dequePlaysUptoRow.holds Try.pinned (OpenSpec.upto dequePlaysSpec)

/-- 'drawknifelaw05.DequeTurned', WHERE WHAT IT READS IS OF BULK AT MOST 1048576: true; the input reads as it did. -/
def dequeTurnedUptoRow : OpenClaim := { program := "ytmpingalekdlnaa", sum := "629c2af941c532dd2445a647822d7cf51e1c8dd99f1149dff0573fc80b59ec11", func := "drawknife/drawknifelaw05.DequeTurned", spec := "dequeTurned", inPlace := ["slices.overlaps[int]"], apart := false, narrowed := true }
def DequeTurnedUptoSaid : Prop := dequeTurnedUptoRow.holds Try.pinned (OpenSpec.upto dequeTurnedSpec)

/-- 'drawknifelaw05.DequeNone', WHERE WHAT IT READS IS OF BULK AT MOST 1048576: true; the input reads as it did. -/
def dequeNoneUptoRow : OpenClaim := { program := "ytmpingalekdlnaa", sum := "629c2af941c532dd2445a647822d7cf51e1c8dd99f1149dff0573fc80b59ec11", func := "drawknife/drawknifelaw05.DequeNone", spec := "dequeNone", inPlace := ["slices.overlaps[int]"], apart := false, narrowed := true }
def DequeNoneUptoSaid : Prop := dequeNoneUptoRow.holds Try.pinned (OpenSpec.upto dequeNoneSpec)

/-- 'drawknifelaw05.DequeEnds', WHERE WHAT IT READS IS OF BULK AT MOST 1048576: true; the input reads as it did. -/
def dequeEndsUptoRow : OpenClaim := { program := "ytmpingalekdlnaa", sum := "629c2af941c532dd2445a647822d7cf51e1c8dd99f1149dff0573fc80b59ec11", func := "drawknife/drawknifelaw05.DequeEnds", spec := "dequeEnds", inPlace := ["slices.overlaps[int]"], apart := false, narrowed := true }
def DequeEndsUptoSaid : Prop := dequeEndsUptoRow.holds Try.pinned (OpenSpec.upto dequeEndsSpec)

end Rows
end Go.Proofs.Ytmpingalekdlnaa
