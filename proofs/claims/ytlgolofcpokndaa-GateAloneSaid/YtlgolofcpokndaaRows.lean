/-
  No cell of these rows narrows 'for every input' (looked for: loops, veiled, ifaces, maps, wideKeys, modest, calm, conditions, laid).
  DERIVED. THE GIVEN ROWS OF THIS SEAT. 5 by the template 'for every input the law returns true; each argument reads behind the call as it read before'; 0 by the template 'total and deterministic' (their statements: YtlgolofcpokndaaTotals.lean).
  GIVEN WITH THE SEED: the statements are not yours to turn. If you find one false, say at which input.
  Laid BY PROGRAM, IN A SANDBOX (cutbox-rows.mjs): the forced cells as the released guide's own fill.sh prints them over the translation bc6061c68529ab82… (all of the seat's roots in one cut). By AI agents, Wed Nov 11 2026. No macro, syntax, notation, axiom, sorry.
-/
import Derived.Test.YtlgolofcpokndaaChecked
import GoSem.Claim
import GoSem.ClaimJoined
import GoSem.ClaimMapViews
import Derived.JoinedTies
import Derived.KernelRfl
namespace Go.Proofs.Ytlgolofcpokndaa
/- THE CELL 'sum', in the pinned program and in every row, IS THE sha256 OF THE DUMP (.gsa) THAT YtlgolofcpokndaaProg.lean LOADS. Nothing in Lean hashes anything: it is a label: what it is worth is what the hold of that sum in a sandbox is worth. -/
noncomputable def Try.pinned : Pinned := { name := "ytlgolofcpokndaa", sum := "bc6061c68529ab821788567f676fa2033842f7b9c30b0fa1cb96ffea875b2c36", checked := Try.checked }
namespace Rows
def none {H : Type} : Left H := { results := [], args := [] }

/-- 'drawknifelaw09.GateOnce': WHATEVER THE INPUT: true; the input reads as it did. -/
def gateOnceSpec : ChangeSpec := { name := "gateOnce", fn := fun _ => fun
  | [d] => { results := [.lit (.bool true)], args := [d] }
  | _ => none }
def gateOnceRow : OpenClaim := { program := "ytlgolofcpokndaa", sum := "bc6061c68529ab821788567f676fa2033842f7b9c30b0fa1cb96ffea875b2c36", func := "drawknife/drawknifelaw09.GateOnce", spec := "gateOnce", unfollowed := true, recurses := true, apart := false }
def GateOnceSaid : Prop := gateOnceRow.holds Try.pinned (OpenSpec.ofChange gateOnceSpec)

/-- ITS FALSE NEIGHBOUR: 'it returns false'. Refute it at one input. -/
def gateOnceWrong : ChangeSpec := { name := "gateOnce", fn := fun _ => fun
  | [d] => { results := [.lit (.bool false)], args := [d] }
  | _ => none }
def GateOnceWrongFalsely : Prop := gateOnceRow.holds Try.pinned (OpenSpec.ofChange gateOnceWrong)

/-- 'drawknifelaw09.GateCounts': WHATEVER THE INPUT: true; the input reads as it did. -/
def gateCountsSpec : ChangeSpec := { name := "gateCounts", fn := fun _ => fun
  | [d1, d2, d3] => { results := [.lit (.bool true)], args := [d1, d2, d3] }
  | _ => none }
def gateCountsRow : OpenClaim := { program := "ytlgolofcpokndaa", sum := "bc6061c68529ab821788567f676fa2033842f7b9c30b0fa1cb96ffea875b2c36", func := "drawknife/drawknifelaw09.GateCounts", spec := "gateCounts", unfollowed := true, recurses := true, apart := false }
def GateCountsSaid : Prop := gateCountsRow.holds Try.pinned (OpenSpec.ofChange gateCountsSpec)

/-- ITS FALSE NEIGHBOUR: 'it returns false'. Refute it at one input. -/
def gateCountsWrong : ChangeSpec := { name := "gateCounts", fn := fun _ => fun
  | [d1, d2, d3] => { results := [.lit (.bool false)], args := [d1, d2, d3] }
  | _ => none }
def GateCountsWrongFalsely : Prop := gateCountsRow.holds Try.pinned (OpenSpec.ofChange gateCountsWrong)

/-- 'drawknifelaw09.GateAlone': WHATEVER THE INPUT: true; the input reads as it did. -/
def gateAloneSpec : ChangeSpec := { name := "gateAlone", fn := fun _ => fun
  | [d] => { results := [.lit (.bool true)], args := [d] }
  | _ => none }
def gateAloneRow : OpenClaim := { program := "ytlgolofcpokndaa", sum := "bc6061c68529ab821788567f676fa2033842f7b9c30b0fa1cb96ffea875b2c36", func := "drawknife/drawknifelaw09.GateAlone", spec := "gateAlone", unfollowed := true, recurses := true, apart := false }
def GateAloneSaid : Prop := gateAloneRow.holds Try.pinned (OpenSpec.ofChange gateAloneSpec)

/-- ITS FALSE NEIGHBOUR: 'it returns false'. Refute it at one input. -/
def gateAloneWrong : ChangeSpec := { name := "gateAlone", fn := fun _ => fun
  | [d] => { results := [.lit (.bool false)], args := [d] }
  | _ => none }
def GateAloneWrongFalsely : Prop := gateAloneRow.holds Try.pinned (OpenSpec.ofChange gateAloneWrong)

/-- 'drawknifelaw09.GatePlays': WHATEVER THE INPUT: true; the input reads as it did. -/
def gatePlaysSpec : ChangeSpec := { name := "gatePlays", fn := fun _ => fun
  | [d1, d2, d3, d4] => { results := [.lit (.bool true)], args := [d1, d2, d3, d4] }
  | _ => none }
def gatePlaysRow : OpenClaim := { program := "ytlgolofcpokndaa", sum := "bc6061c68529ab821788567f676fa2033842f7b9c30b0fa1cb96ffea875b2c36", func := "drawknife/drawknifelaw09.GatePlays", spec := "gatePlays", unfollowed := true, recurses := true, apart := false }
def GatePlaysSaid : Prop := gatePlaysRow.holds Try.pinned (OpenSpec.ofChange gatePlaysSpec)

/-- ITS FALSE NEIGHBOUR: 'it returns false'. Refute it at one input. -/
def gatePlaysWrong : ChangeSpec := { name := "gatePlays", fn := fun _ => fun
  | [d1, d2, d3, d4] => { results := [.lit (.bool false)], args := [d1, d2, d3, d4] }
  | _ => none }
def GatePlaysWrongFalsely : Prop := gatePlaysRow.holds Try.pinned (OpenSpec.ofChange gatePlaysWrong)

/-- 'drawknifelaw09.GateNone': WHATEVER THE INPUT: true; the input reads as it did. -/
def gateNoneSpec : ChangeSpec := { name := "gateNone", fn := fun _ => fun
  | [d1, d2, d3, d4] => { results := [.lit (.bool true)], args := [d1, d2, d3, d4] }
  | _ => none }
def gateNoneRow : OpenClaim := { program := "ytlgolofcpokndaa", sum := "bc6061c68529ab821788567f676fa2033842f7b9c30b0fa1cb96ffea875b2c36", func := "drawknife/drawknifelaw09.GateNone", spec := "gateNone", unfollowed := true, recurses := true, apart := false }
def GateNoneSaid : Prop := gateNoneRow.holds Try.pinned (OpenSpec.ofChange gateNoneSpec)

/-- ITS FALSE NEIGHBOUR: 'it returns false'. Refute it at one input. -/
def gateNoneWrong : ChangeSpec := { name := "gateNone", fn := fun _ => fun
  | [d1, d2, d3, d4] => { results := [.lit (.bool false)], args := [d1, d2, d3, d4] }
  | _ => none }
def GateNoneWrongFalsely : Prop := gateNoneRow.holds Try.pinned (OpenSpec.ofChange gateNoneWrong)

/- THE SECOND FORM. 'bulk': how many values and letters a reading holds, each counted each time it is reached (what is shared counts as often as it is met; a slice's spare places count too). A statement '..UptoSaid' is the law's where the arguments, and the package variables that the reading takes, are together of bulk at most 1048576: NARROWER than '..Said'. Prove '..Said' where nothing that the law and all that it calls make is longer than what came in: it says more and counts as full. Else prove '..UptoSaid'. A law counts once. -/
mutual
def uptoBulk {H : Type} : DataW H → Nat
  | .lit (.string bytes) => bytes.length + 1
  | .lit _ => 1
  | .nil => 1
  | .ptr d => uptoBulk d + 1
  | .slice elems spare => uptoBulkAll elems + uptoBulkAll spare + 1
  | .agg parts => uptoBulkAll parts + 1
  | .iface _ d => uptoBulk d + 1
  | .map entries => uptoBulkEntries entries + 1
  | .held _ => 1
def uptoBulkAll {H : Type} : List (DataW H) → Nat
  | [] => 0
  | d :: r => uptoBulk d + uptoBulkAll r
def uptoBulkEntries {H : Type} : List (Lit × DataW H) → Nat
  | [] => 0
  | x :: r => uptoBulkEntry x + uptoBulkEntries r
def uptoBulkEntry {H : Type} : Lit × DataW H → Nat
  | (.string bytes, d) => bytes.length + uptoBulk d + 1
  | (_, d) => uptoBulk d + 1
 end
def uptoSmall : (H : Type) → List (DataW H) → Bool := fun _ ds => decide (uptoBulkAll ds ≤ 1048576)
def OpenSpec.upto (s : _root_.Go.ChangeSpec) : _root_.Go.OpenSpec := { _root_.Go.OpenSpec.ofChange s with cond := some uptoSmall }

/-- 'drawknifelaw09.GateOnce', WHERE WHAT IT READS IS OF BULK AT MOST 1048576: true; the input reads as it did. -/
def gateOnceUptoRow : OpenClaim := { program := "ytlgolofcpokndaa", sum := "bc6061c68529ab821788567f676fa2033842f7b9c30b0fa1cb96ffea875b2c36", func := "drawknife/drawknifelaw09.GateOnce", spec := "gateOnce", unfollowed := true, recurses := true, apart := false, narrowed := true }
def GateOnceUptoSaid : Prop := gateOnceUptoRow.holds Try.pinned (OpenSpec.upto gateOnceSpec)

/-- 'drawknifelaw09.GateCounts', WHERE WHAT IT READS IS OF BULK AT MOST 1048576: true; the input reads as it did. -/
def gateCountsUptoRow : OpenClaim := { program := "ytlgolofcpokndaa", sum := "bc6061c68529ab821788567f676fa2033842f7b9c30b0fa1cb96ffea875b2c36", func := "drawknife/drawknifelaw09.GateCounts", spec := "gateCounts", unfollowed := true, recurses := true, apart := false, narrowed := true }
def GateCountsUptoSaid : Prop := gateCountsUptoRow.holds Try.pinned (OpenSpec.upto gateCountsSpec)

/-- 'drawknifelaw09.GateAlone', WHERE WHAT IT READS IS OF BULK AT MOST 1048576: true; the input reads as it did. -/
def gateAloneUptoRow : OpenClaim := { program := "ytlgolofcpokndaa", sum := "bc6061c68529ab821788567f676fa2033842f7b9c30b0fa1cb96ffea875b2c36", func := "drawknife/drawknifelaw09.GateAlone", spec := "gateAlone", unfollowed := true, recurses := true, apart := false, narrowed := true }
def GateAloneUptoSaid : Prop := gateAloneUptoRow.holds Try.pinned (OpenSpec.upto gateAloneSpec)

/-- 'drawknifelaw09.GatePlays', WHERE WHAT IT READS IS OF BULK AT MOST 1048576: true; the input reads as it did. -/
def gatePlaysUptoRow : OpenClaim := { program := "ytlgolofcpokndaa", sum := "bc6061c68529ab821788567f676fa2033842f7b9c30b0fa1cb96ffea875b2c36", func := "drawknife/drawknifelaw09.GatePlays", spec := "gatePlays", unfollowed := true, recurses := true, apart := false, narrowed := true }
def GatePlaysUptoSaid : Prop := gatePlaysUptoRow.holds Try.pinned (OpenSpec.upto gatePlaysSpec)

/-- 'drawknifelaw09.GateNone', WHERE WHAT IT READS IS OF BULK AT MOST 1048576: true; the input reads as it did. -/
def gateNoneUptoRow : OpenClaim := { program := "ytlgolofcpokndaa", sum := "bc6061c68529ab821788567f676fa2033842f7b9c30b0fa1cb96ffea875b2c36", func := "drawknife/drawknifelaw09.GateNone", spec := "gateNone", unfollowed := true, recurses := true, apart := false, narrowed := true }
def GateNoneUptoSaid : Prop := gateNoneUptoRow.holds Try.pinned (OpenSpec.upto gateNoneSpec)

end Rows
end Go.Proofs.Ytlgolofcpokndaa
