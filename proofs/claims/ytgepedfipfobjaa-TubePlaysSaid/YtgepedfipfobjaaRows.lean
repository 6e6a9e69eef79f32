/-
  No cell of these rows narrows 'for every input' (looked for: loops, veiled, ifaces, maps, wideKeys, modest, calm, conditions, laid).
  DERIVED. THE GIVEN ROWS OF THIS SEAT. 6 by the template 'for every input the law returns true; each argument reads behind the call as it read before'; 0 by the template 'total and deterministic' (their statements: YtgepedfipfobjaaTotals.lean).
  GIVEN WITH THE SEED: the statements are not yours to turn. If you find one false, say at which input.
  Laid BY PROGRAM, IN A SANDBOX (cutbox-rows.mjs): the forced cells as the released guide's own fill.sh prints them over the translation 5e698da42459a049… (all of the seat's roots in one cut). By AI agents, Wed Nov 11 2026. No macro, syntax, notation, axiom, sorry.
-/
import Derived.Test.YtgepedfipfobjaaChecked
import GoSem.Claim
import GoSem.ClaimJoined
import GoSem.ClaimMapViews
import Derived.JoinedTies
import Derived.KernelRfl
namespace Go.Proofs.Ytgepedfipfobjaa
/- THE CELL 'sum', in the pinned program and in every row, IS THE sha256 OF THE DUMP (.gsa) THAT YtgepedfipfobjaaProg.lean LOADS. Nothing in Lean hashes anything: it is a label: what it is worth is what the hold of that sum in a sandbox is worth. -/
noncomputable def Try.pinned : Pinned := { name := "ytgepedfipfobjaa", sum := "5e698da42459a0491f6dafc9d9e723a70beb97954fd4fecdf334fc8572663a27", checked := Try.checked }
namespace Rows
def none {H : Type} : Left H := { results := [], args := [] }

/-- 'drawknifelaw08.DiskPlays': WHATEVER THE INPUT: true; the input reads as it did. -/
def diskPlaysSpec : ChangeSpec := { name := "diskPlays", fn := fun _ => fun
  | [d1, d2] => { results := [.lit (.bool true)], args := [d1, d2] }
  | _ => none }
def diskPlaysRow : OpenClaim := { program := "ytgepedfipfobjaa", sum := "5e698da42459a0491f6dafc9d9e723a70beb97954fd4fecdf334fc8572663a27", func := "drawknife/drawknifelaw08.DiskPlays", spec := "diskPlays", unfollowed := true, recurses := true, apart := false }
def DiskPlaysSaid : Prop := diskPlaysRow.holds Try.pinned (OpenSpec.ofChange diskPlaysSpec)

/-- ITS FALSE NEIGHBOUR: 'it returns false'. Refute it at one input. -/
def diskPlaysWrong : ChangeSpec := { name := "diskPlays", fn := fun _ => fun
  | [d1, d2] => { results := [.lit (.bool false)], args := [d1, d2] }
  | _ => none }
def DiskPlaysWrongFalsely : Prop := diskPlaysRow.holds Try.pinned (OpenSpec.ofChange diskPlaysWrong)

/-- 'drawknifelaw08.DiskKeeps': WHATEVER THE INPUT: true; the input reads as it did. -/
def diskKeepsSpec : ChangeSpec := { name := "diskKeeps", fn := fun _ => fun
  | [d1, d2] => { results := [.lit (.bool true)], args := [d1, d2] }
  | _ => none }
def diskKeepsRow : OpenClaim := { program := "ytgepedfipfobjaa", sum := "5e698da42459a0491f6dafc9d9e723a70beb97954fd4fecdf334fc8572663a27", func := "drawknife/drawknifelaw08.DiskKeeps", spec := "diskKeeps", unfollowed := true, recurses := true, apart := false }
def DiskKeepsSaid : Prop := diskKeepsRow.holds Try.pinned (OpenSpec.ofChange diskKeepsSpec)

/-- ITS FALSE NEIGHBOUR: 'it returns false'. Refute it at one input. -/
def diskKeepsWrong : ChangeSpec := { name := "diskKeeps", fn := fun _ => fun
  | [d1, d2] => { results := [.lit (.bool false)], args := [d1, d2] }
  | _ => none }
def DiskKeepsWrongFalsely : Prop := diskKeepsRow.holds Try.pinned (OpenSpec.ofChange diskKeepsWrong)

/-- 'drawknifelaw08.DiskOrder': WHATEVER THE INPUT: true; the input reads as it did. -/
def diskOrderSpec : ChangeSpec := { name := "diskOrder", fn := fun _ => fun
  | [d1, d2] => { results := [.lit (.bool true)], args := [d1, d2] }
  | _ => none }
def diskOrderRow : OpenClaim := { program := "ytgepedfipfobjaa", sum := "5e698da42459a0491f6dafc9d9e723a70beb97954fd4fecdf334fc8572663a27", func := "drawknife/drawknifelaw08.DiskOrder", spec := "diskOrder", unfollowed := true, recurses := true, apart := false }
def DiskOrderSaid : Prop := diskOrderRow.holds Try.pinned (OpenSpec.ofChange diskOrderSpec)

/-- ITS FALSE NEIGHBOUR: 'it returns false'. Refute it at one input. -/
def diskOrderWrong : ChangeSpec := { name := "diskOrder", fn := fun _ => fun
  | [d1, d2] => { results := [.lit (.bool false)], args := [d1, d2] }
  | _ => none }
def DiskOrderWrongFalsely : Prop := diskOrderRow.holds Try.pinned (OpenSpec.ofChange diskOrderWrong)

/-- 'drawknifelaw07.TubePlays': WHATEVER THE INPUT: true; the input reads as it did. -/
def tubePlaysSpec : ChangeSpec := { name := "tubePlays", fn := fun _ => fun
  | [d1, d2] => { results := [.lit (.bool true)], args := [d1, d2] }
  | _ => none }
def tubePlaysRow : OpenClaim := { program := "ytgepedfipfobjaa", sum := "5e698da42459a0491f6dafc9d9e723a70beb97954fd4fecdf334fc8572663a27", func := "drawknife/drawknifelaw07.TubePlays", spec := "tubePlays", unfollowed := true, recurses := true, apart := false }
def TubePlaysSaid : Prop := tubePlaysRow.holds Try.pinned (OpenSpec.ofChange tubePlaysSpec)

/-- ITS FALSE NEIGHBOUR: 'it returns false'. Refute it at one input. -/
def tubePlaysWrong : ChangeSpec := { name := "tubePlays", fn := fun _ => fun
  | [d1, d2] => { results := [.lit (.bool false)], args := [d1, d2] }
  | _ => none }
def TubePlaysWrongFalsely : Prop := tubePlaysRow.holds Try.pinned (OpenSpec.ofChange tubePlaysWrong)

/-- 'drawknifelaw07.TubeOrder': WHATEVER THE INPUT: true; the input reads as it did. -/
def tubeOrderSpec : ChangeSpec := { name := "tubeOrder", fn := fun _ => fun
  | [d1, d2] => { results := [.lit (.bool true)], args := [d1, d2] }
  | _ => none }
def tubeOrderRow : OpenClaim := { program := "ytgepedfipfobjaa", sum := "5e698da42459a0491f6dafc9d9e723a70beb97954fd4fecdf334fc8572663a27", func := "drawknife/drawknifelaw07.TubeOrder", spec := "tubeOrder", unfollowed := true, recurses := true, apart := false }
def TubeOrderSaid : Prop := tubeOrderRow.holds Try.pinned (OpenSpec.ofChange tubeOrderSpec)

/-- ITS FALSE NEIGHBOUR: 'it returns false'. Refute it at one input. -/
def tubeOrderWrong : ChangeSpec := { name := "tubeOrder", fn := fun _ => fun
  | [d1, d2] => { results := [.lit (.bool false)], args := [d1, d2] }
  | _ => none }
def TubeOrderWrongFalsely : Prop := tubeOrderRow.holds Try.pinned (OpenSpec.ofChange tubeOrderWrong)

/-- 'drawknifelaw07.TubeFull': WHATEVER THE INPUT: true; the input reads as it did. -/
def tubeFullSpec : ChangeSpec := { name := "tubeFull", fn := fun _ => fun
  | [d1, d2] => { results := [.lit (.bool true)], args := [d1, d2] }
  | _ => none }
def tubeFullRow : OpenClaim := { program := "ytgepedfipfobjaa", sum := "5e698da42459a0491f6dafc9d9e723a70beb97954fd4fecdf334fc8572663a27", func := "drawknife/drawknifelaw07.TubeFull", spec := "tubeFull", unfollowed := true, recurses := true, apart := false }
def TubeFullSaid : Prop := tubeFullRow.holds Try.pinned (OpenSpec.ofChange tubeFullSpec)

/-- ITS FALSE NEIGHBOUR: 'it returns false'. Refute it at one input. -/
def tubeFullWrong : ChangeSpec := { name := "tubeFull", fn := fun _ => fun
  | [d1, d2] => { results := [.lit (.bool false)], args := [d1, d2] }
  | _ => none }
def TubeFullWrongFalsely : Prop := tubeFullRow.holds Try.pinned (OpenSpec.ofChange tubeFullWrong)

/- THE SECOND FORM. 'bulk': how many values and letters a reading holds, each counted each time it is reached (what is shared counts as often as it is met; a slice's spare places count too). A statement '..UptoSaid' is the law's where the arguments, and the package variables that the reading takes, are together of bulk at most 1048576: NARROWER than '..Said'. Prove '..Said' where nothing that the law and all that it calls make is longer than what came in: it says more and counts as full. Else prove '..UptoSaid'. A law counts once. -/
mutual
def uptoBulk {H : Type} : DataW H → Nat
  | .lit (.string bytes) => bytes.length + 1
  | .lit _ => 1
  | .nil => 1
  | .ptr d => uptoBulk d + 1
  | .slice elems spare => uptoBulkAll elems + uptoBulkAll spare + 1
  | .agg parts => uptoBulkAll parts + 1
  | .iface _ d => uptoBulk d + 1
  | .map entries => uptoBulkEntries entries + 1
  | .held _ => 1
def uptoBulkAll {H : Type} : List (DataW H) → Nat
  | [] => 0
  | d :: r => uptoBulk d + uptoBulkAll r
def uptoBulkEntries {H : Type} : List (Lit × DataW H) → Nat
  | [] => 0
  | x :: r => uptoBulkEntry x + uptoBulkEntries r
def uptoBulkEntry {H : Type} : Lit × DataW H → Nat
  | (.string bytes, d) => bytes.length + uptoBulk d + 1
  | (_, d) => uptoBulk d + 1
 end
def uptoSmall : (H : Type) → List (DataW H) → Bool := fun _ ds => decide (uptoBulkAll ds ≤ 1048576)
def OpenSpec.upto (s : _root_.Go.ChangeSpec) : _root_.Go.OpenSpec := { _root_.Go.OpenSpec.ofChange s with cond := some uptoSmall }

/-- 'drawknifelaw08.DiskPlays', WHERE WHAT IT READS IS OF BULK AT MOST 1048576: true; the input reads as it did. -/
def diskPlaysUptoRow : OpenClaim := { program := "ytgepedfipfobjaa", sum := "5e698da42459a0491f6dafc9d9e723a70beb97954fd4fecdf334fc8572663a27", func := "drawknife/drawknifelaw08.DiskPlays", spec := "diskPlays", unfollowed := true, recurses := true, apart := false, narrowed := true }
def DiskPlaysUptoSaid : Prop := diskPlaysUptoRow.holds Try.pinned (OpenSpec.upto diskPlaysSpec)

/-- 'drawknifelaw08.DiskKeeps', WHERE WHAT IT READS IS OF BULK AT MOST 1048576: true; the input reads as it did. -/
def diskKeepsUptoRow : OpenClaim := { program := "ytgepedfipfobjaa", sum := "5e698da42459a0491f6dafc9d9e723a70beb97954fd4fecdf334fc8572663a27", func := "drawknife/drawknifelaw08.DiskKeeps", spec := "diskKeeps", unfollowed := true, recurses := true, apart := false, narrowed := true }
def DiskKeepsUptoSaid : Prop := diskKeepsUptoRow.holds Try.pinned (OpenSpec.upto diskKeepsSpec)

/-- 'drawknifelaw08.DiskOrder', WHERE WHAT IT READS IS OF BULK AT MOST 1048576: true; the input reads as it did. -/
def diskOrderUptoRow : OpenClaim := { program := "ytgepedfipfobjaa", sum := "5e698da42459a0491f6dafc9d9e723a70beb97954fd4fecdf334fc8572663a27", func := "drawknife/drawknifelaw08.DiskOrder", spec := "diskOrder", unfollowed := true, recurses := true, apart := false, narrowed := true }
def DiskOrderUptoSaid : Prop := diskOrderUptoRow.holds Try.pinned (OpenSpec.upto diskOrderSpec)

/-- 'drawknifelaw07.TubePlays', WHERE WHAT IT READS IS OF BULK AT MOST 1048576: true; the input reads as it did. -/
def tubePlaysUptoRow : OpenClaim := { program := "ytgepedfipfobjaa", sum := "5e698da42459a0491f6dafc9d9e723a70beb97954fd4fecdf334fc8572663a27", func := "drawknife/drawknifelaw07.TubePlays", spec := "tubePlays", unfollowed := true, recurses := true, apart := false, narrowed := true }
def TubePlaysUptoSaid : Prop := tubePlaysUptoRow.holds Try.pinned (OpenSpec.upto tubePlaysSpec)

/-- 'drawknifelaw07.TubeOrder', WHERE WHAT IT READS IS OF BULK AT MOST 1048576: true; the input reads as it did. -/
def tubeOrderUptoRow : OpenClaim := { program := "ytgepedfipfobjaa", sum := "5e698da42459a0491f6dafc9d9e723a70beb97954fd4fecdf334fc8572663a27", func := "drawknife/drawknifelaw07.TubeOrder", spec := "tubeOrder", unfollowed := true, recurses := true, apart := false, narrowed := true }
def TubeOrderUptoSaid : Prop := tubeOrderUptoRow.holds Try.pinned (OpenSpec.upto tubeOrderSpec)

/-- 'drawknifelaw07.TubeFull', WHERE WHAT IT READS IS OF BULK AT MOST 1048576: true; the input reads as it did. -/
def tubeFullUptoRow : OpenClaim := { program := "ytgepedfipfobjaa", sum := "5e698da42459a0491f6dafc9d9e723a70beb97954fd4fecdf334fc8572663a27", func := "drawknife/drawknifelaw07.TubeFull", spec := "tubeFull", unfollowed := true, recurses := true, apart := false, narrowed := true }
def TubeFullUptoSaid : Prop := tubeFullUptoRow.holds Try.pinned (OpenSpec.upto tubeFullSpec)

end Rows
end Go.Proofs.Ytgepedfipfobjaa
