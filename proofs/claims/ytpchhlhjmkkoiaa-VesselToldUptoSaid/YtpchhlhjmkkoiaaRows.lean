/-
  No cell of these rows narrows 'for every input' (looked for: loops, veiled, ifaces, maps, wideKeys, modest, calm, conditions, laid).
  DERIVED. THE GIVEN ROWS OF THIS SEAT. 8 by the template 'for every input the law returns true; each argument reads behind the call as it read before'; 0 by the template 'total and deterministic' (their statements: YtpchhlhjmkkoiaaTotals.lean).
  GIVEN WITH THE SEED: the statements are not yours to turn. If you find one false, say at which input.
  Laid BY PROGRAM, IN A SANDBOX (cutbox-rows.mjs): the forced cells as the released guide's own fill.sh prints them over the translation 3c8747bbde128e44… (all of the seat's roots in one cut). By AI agents, Wed Nov 11 2026. No macro, syntax, notation, axiom, sorry.
-/
import Derived.Test.YtpchhlhjmkkoiaaChecked
import GoSem.Claim
import GoSem.ClaimJoined
import GoSem.ClaimMapViews
import Derived.JoinedTies
import Derived.KernelRfl
namespace Go.Proofs.Ytpchhlhjmkkoiaa
/- THE CELL 'sum', in the pinned program and in every row, IS THE sha256 OF THE DUMP (.gsa) THAT YtpchhlhjmkkoiaaProg.lean LOADS. Nothing in Lean hashes anything: it is a label: what it is worth is what the hold of that sum in a sandbox is worth. -/
noncomputable def Try.pinned : Pinned := { name := "ytpchhlhjmkkoiaa", sum := "3c8747bbde128e448e0019191e896aa2dd67d17045cd88c97e469dbde0d9c1b6", checked := Try.checked }
namespace Rows
def none {H : Type} : Left H := { results := [], args := [] }

/-- 'drawknifelaw15.VesselStrips': WHATEVER THE INPUT: true; the input reads as it did. -/
def vesselStripsSpec : ChangeSpec := { name := "vesselStrips", fn := fun _ => fun
  | [d] => { results := [.lit (.bool true)], args := [d] }
  | _ => none }
def vesselStripsRow : OpenClaim := { program := "ytpchhlhjmkkoiaa", sum := "3c8747bbde128e448e0019191e896aa2dd67d17045cd88c97e469dbde0d9c1b6", func := "drawknife/drawknifelaw15.VesselStrips", spec := "vesselStrips", apart := false }
def VesselStripsSaid : Prop := vesselStripsRow.holds Try.pinned (OpenSpec.ofChange vesselStripsSpec)

/-- ITS FALSE NEIGHBOUR: 'it returns false'. Refute it at one input. -/
def vesselStripsWrong : ChangeSpec := { name := "vesselStrips", fn := fun _ => fun
  | [d] => { results := [.lit (.bool false)], args := [d] }
  | _ => none }
def VesselStripsWrongFalsely : Prop := vesselStripsRow.holds Try.pinned (OpenSpec.ofChange vesselStripsWrong)

/-- 'drawknifelaw15.VesselRuns': WHATEVER THE INPUT: true; the input reads as it did. -/
def vesselRunsSpec : ChangeSpec := { name := "vesselRuns", fn := fun _ => fun
  | [d] => { results := [.lit (.bool true)], args := [d] }
  | _ => none }
def vesselRunsRow : OpenClaim := { program := "ytpchhlhjmkkoiaa", sum := "3c8747bbde128e448e0019191e896aa2dd67d17045cd88c97e469dbde0d9c1b6", func := "drawknife/drawknifelaw15.VesselRuns", spec := "vesselRuns", apart := false }
def VesselRunsSaid : Prop := vesselRunsRow.holds Try.pinned (OpenSpec.ofChange vesselRunsSpec)

/-- ITS FALSE NEIGHBOUR: 'it returns false'. Refute it at one input. -/
def vesselRunsWrong : ChangeSpec := { name := "vesselRuns", fn := fun _ => fun
  | [d] => { results := [.lit (.bool false)], args := [d] }
  | _ => none }
def VesselRunsWrongFalsely : Prop := vesselRunsRow.holds Try.pinned (OpenSpec.ofChange vesselRunsWrong)

/-- 'drawknifelaw15.VesselTold': WHATEVER THE INPUT: true; the input reads as it did. -/
def vesselToldSpec : ChangeSpec := { name := "vesselTold", fn := fun _ => fun
  | [d1, d2] => { results := [.lit (.bool true)], args := [d1, d2] }
  | _ => none }
def vesselToldRow : OpenClaim := { program := "ytpchhlhjmkkoiaa", sum := "3c8747bbde128e448e0019191e896aa2dd67d17045cd88c97e469dbde0d9c1b6", func := "drawknife/drawknifelaw15.VesselTold", spec := "vesselTold", apart := false }
def VesselToldSaid : Prop := vesselToldRow.holds Try.pinned (OpenSpec.ofChange vesselToldSpec)

/-- ITS FALSE NEIGHBOUR: 'it returns false'. Refute it at one input. -/
def vesselToldWrong : ChangeSpec := { name := "vesselTold", fn := fun _ => fun
  | [d1, d2] => { results := [.lit (.bool false)], args := [d1, d2] }
  | _ => none }
def VesselToldWrongFalsely : Prop := vesselToldRow.holds Try.pinned (OpenSpec.ofChange vesselToldWrong)

/-- 'drawknifelaw15.VesselKeeps': WHATEVER THE INPUT: true; the input reads as it did. -/
def vesselKeepsSpec : ChangeSpec := { name := "vesselKeeps", fn := fun _ => fun
  | [d1, d2] => { results := [.lit (.bool true)], args := [d1, d2] }
  | _ => none }
def vesselKeepsRow : OpenClaim := { program := "ytpchhlhjmkkoiaa", sum := "3c8747bbde128e448e0019191e896aa2dd67d17045cd88c97e469dbde0d9c1b6", func := "drawknife/drawknifelaw15.VesselKeeps", spec := "vesselKeeps", apart := false }
def VesselKeepsSaid : Prop := vesselKeepsRow.holds Try.pinned (OpenSpec.ofChange vesselKeepsSpec)

/-- ITS FALSE NEIGHBOUR: 'it returns false'. Refute it at one input. -/
def vesselKeepsWrong : ChangeSpec := { name := "vesselKeeps", fn := fun _ => fun
  | [d1, d2] => { results := [.lit (.bool false)], args := [d1, d2] }
  | _ => none }
def VesselKeepsWrongFalsely : Prop := vesselKeepsRow.holds Try.pinned (OpenSpec.ofChange vesselKeepsWrong)

/-- 'drawknifelaw14.EventParts': WHATEVER THE INPUT: true; the input reads as it did. -/
def eventPartsSpec : ChangeSpec := { name := "eventParts", fn := fun _ => fun
  | [d] => { results := [.lit (.bool true)], args := [d] }
  | _ => none }
def eventPartsRow : OpenClaim := { program := "ytpchhlhjmkkoiaa", sum := "3c8747bbde128e448e0019191e896aa2dd67d17045cd88c97e469dbde0d9c1b6", func := "drawknife/drawknifelaw14.EventParts", spec := "eventParts", unfollowed := true, recurses := true, apart := false }
def EventPartsSaid : Prop := eventPartsRow.holds Try.pinned (OpenSpec.ofChange eventPartsSpec)

/-- ITS FALSE NEIGHBOUR: 'it returns false'. Refute it at one input. -/
def eventPartsWrong : ChangeSpec := { name := "eventParts", fn := fun _ => fun
  | [d] => { results := [.lit (.bool false)], args := [d] }
  | _ => none }
def EventPartsWrongFalsely : Prop := eventPartsRow.holds Try.pinned (OpenSpec.ofChange eventPartsWrong)

/-- 'drawknifelaw14.EventWithin': WHATEVER THE INPUT: true; the input reads as it did. -/
def eventWithinSpec : ChangeSpec := { name := "eventWithin", fn := fun _ => fun
  | [d] => { results := [.lit (.bool true)], args := [d] }
  | _ => none }
def eventWithinRow : OpenClaim := { program := "ytpchhlhjmkkoiaa", sum := "3c8747bbde128e448e0019191e896aa2dd67d17045cd88c97e469dbde0d9c1b6", func := "drawknife/drawknifelaw14.EventWithin", spec := "eventWithin", unfollowed := true, recurses := true, apart := false }
def EventWithinSaid : Prop := eventWithinRow.holds Try.pinned (OpenSpec.ofChange eventWithinSpec)

/-- ITS FALSE NEIGHBOUR: 'it returns false'. Refute it at one input. -/
def eventWithinWrong : ChangeSpec := { name := "eventWithin", fn := fun _ => fun
  | [d] => { results := [.lit (.bool false)], args := [d] }
  | _ => none }
def EventWithinWrongFalsely : Prop := eventWithinRow.holds Try.pinned (OpenSpec.ofChange eventWithinWrong)

/-- 'drawknifelaw14.EventJoins': WHATEVER THE INPUT: true; the input reads as it did. -/
def eventJoinsSpec : ChangeSpec := { name := "eventJoins", fn := fun _ => fun
  | [d1, d2] => { results := [.lit (.bool true)], args := [d1, d2] }
  | _ => none }
def eventJoinsRow : OpenClaim := { program := "ytpchhlhjmkkoiaa", sum := "3c8747bbde128e448e0019191e896aa2dd67d17045cd88c97e469dbde0d9c1b6", func := "drawknife/drawknifelaw14.EventJoins", spec := "eventJoins", unfollowed := true, recurses := true, apart := false }
def EventJoinsSaid : Prop := eventJoinsRow.holds Try.pinned (OpenSpec.ofChange eventJoinsSpec)

/-- ITS FALSE NEIGHBOUR: 'it returns false'. Refute it at one input. -/
def eventJoinsWrong : ChangeSpec := { name := "eventJoins", fn := fun _ => fun
  | [d1, d2] => { results := [.lit (.bool false)], args := [d1, d2] }
  | _ => none }
def EventJoinsWrongFalsely : Prop := eventJoinsRow.holds Try.pinned (OpenSpec.ofChange eventJoinsWrong)

/-- 'drawknifelaw14.EventLeft': WHATEVER THE INPUT: true; the input reads as it did. -/
def eventLeftSpec : ChangeSpec := { name := "eventLeft", fn := fun _ => fun
  | [d] => { results := [.lit (.bool true)], args := [d] }
  | _ => none }
def eventLeftRow : OpenClaim := { program := "ytpchhlhjmkkoiaa", sum := "3c8747bbde128e448e0019191e896aa2dd67d17045cd88c97e469dbde0d9c1b6", func := "drawknife/drawknifelaw14.EventLeft", spec := "eventLeft", unfollowed := true, recurses := true, apart := false }
def EventLeftSaid : Prop := eventLeftRow.holds Try.pinned (OpenSpec.ofChange eventLeftSpec)

/-- ITS FALSE NEIGHBOUR: 'it returns false'. Refute it at one input. -/
def eventLeftWrong : ChangeSpec := { name := "eventLeft", fn := fun _ => fun
  | [d] => { results := [.lit (.bool false)], args := [d] }
  | _ => none }
def EventLeftWrongFalsely : Prop := eventLeftRow.holds Try.pinned (OpenSpec.ofChange eventLeftWrong)

/- THE SECOND FORM. 'bulk': how many values and letters a reading holds, each counted each time it is reached (what is shared counts as often as it is met; a slice's spare places count too). A statement '..UptoSaid' is the law's where the arguments, and the package variables that the reading takes, are together of bulk at most 1048576: NARROWER than '..Said'. Prove '..Said' where nothing that the law and all that it calls make is longer than what came in: it says more and counts as full. Else prove '..UptoSaid'. A law counts once. -/
mutual
def uptoBulk {H : Type} : DataW H → Nat
  | .lit (.string bytes) => bytes.length + 1
  | .lit _ => 1
  | .nil => 1
  | .ptr d => uptoBulk d + 1
  | .slice elems spare => uptoBulkAll elems + uptoBulkAll spare + 1
  | .agg parts => uptoBulkAll parts + 1
  | .iface _ d => uptoBulk d + 1
  | .map entries => uptoBulkEntries entries + 1
  | .held _ => 1
def uptoBulkAll {H : Type} : List (DataW H) → Nat
  | [] => 0
  | d :: r => uptoBulk d + uptoBulkAll r
def uptoBulkEntries {H : Type} : List (Lit × DataW H) → Nat
  | [] => 0
  | x :: r => uptoBulkEntry x + uptoBulkEntries r
def uptoBulkEntry {H : Type} : Lit × DataW H → Nat
  | (.string bytes, d) => bytes.length + uptoBulk d + 1
  | (_, d) => uptoBulk d + 1
 end
def uptoSmall : (H : Type) → List (DataW H) → Bool := fun _ ds => decide (uptoBulkAll ds ≤ 1048576)
def OpenSpec.upto (s : _root_.Go.ChangeSpec) : _root_.Go.OpenSpec := { _root_.Go.OpenSpec.ofChange s with cond := some uptoSmall }

/-- 'drawknifelaw15.VesselStrips', WHERE WHAT IT READS IS OF BULK AT MOST 1048576: true; the input reads as it did. -/
def vesselStripsUptoRow : OpenClaim := { program := "ytpchhlhjmkkoiaa", sum := "3c8747bbde128e448e0019191e896aa2dd67d17045cd88c97e469dbde0d9c1b6", func := "drawknife/drawknifelaw15.VesselStrips", spec := "vesselStrips", apart := false, narrowed := true }
def VesselStripsUptoSaid : Prop := vesselStripsUptoRow.holds Try.pinned (OpenSpec.upto vesselStripsSpec)

/-- 'drawknifelaw15.VesselRuns', WHERE WHAT IT READS IS OF BULK AT MOST 1048576: true; the input reads as it did. -/
def vesselRunsUptoRow : OpenClaim := { program := "ytpchhlhjmkkoiaa", sum := "3c8747bbde128e448e0019191e896aa2dd67d17045cd88c97e469dbde0d9c1b6", func := "drawknife/drawknifelaw15.VesselRuns", spec := "vesselRuns", apart := false, narrowed := true }
def VesselRunsUptoSaid : Prop := vesselRunsUptoRow.holds Try.pinned (OpenSpec.upto vesselRunsSpec)

/-- 'drawknifelaw15.VesselTold', WHERE WHAT IT READS IS OF BULK AT MOST 1048576: true; the input reads as it did. -/
def vesselToldUptoRow : OpenClaim := { program := "ytpchhlhjmkkoiaa", sum := "3c8747bbde128e448e0019191e896aa2dd67d17045cd88c97e469dbde0d9c1b6", func := "drawknife/drawknifelaw15.VesselTold", spec := "vesselTold", apart := false, narrowed := true }
def VesselToldUptoSaid : Prop := vesselToldUptoRow.holds Try.pinned (OpenSpec.upto vesselToldSpec)

/-- 'drawknifelaw15.VesselKeeps', WHERE WHAT IT READS IS OF BULK AT MOST 1048576: true; the input reads as it did. -/
def vesselKeepsUptoRow : OpenClaim := { program := "ytpchhlhjmkkoiaa", sum := "3c8747bbde128e448e0019191e896aa2dd67d17045cd88c97e469dbde0d9c1b6", func := "drawknife/drawknifelaw15.VesselKeeps", spec := "vesselKeeps", apart := false, narrowed := true }
def VesselKeepsUptoSaid : Prop := vesselKeepsUptoRow.holds Try.pinned (OpenSpec.upto vesselKeepsSpec)

/-- 'drawknifelaw14.EventParts', WHERE WHAT IT READS IS OF BULK AT MOST 1048576: true; the input reads as it did. -/
def eventPartsUptoRow : OpenClaim := { program := "ytpchhlhjmkkoiaa", sum := "3c8747bbde128e448e0019191e896aa2dd67d17045cd88c97e469dbde0d9c1b6", func := "drawknife/drawknifelaw14.EventParts", spec := "eventParts", unfollowed := true, recurses := true, apart := false, narrowed := true }
def EventPartsUptoSaid : Prop := eventPartsUptoRow.holds Try.pinned (OpenSpec.upto eventPartsSpec)

/-- 'drawknifelaw14.EventWithin', WHERE WHAT IT READS IS OF BULK AT MOST 1048576: true; the input reads as it did. -/
def eventWithinUptoRow : OpenClaim := { program := "ytpchhlhjmkkoiaa", sum := "3c8747bbde128e448e0019191e896aa2dd67d17045cd88c97e469dbde0d9c1b6", func := "drawknife/drawknifelaw14.EventWithin", spec := "eventWithin", unfollowed := true, recurses := true, apart := false, narrowed := true }
def EventWithinUptoSaid : Prop := eventWithinUptoRow.holds Try.pinned (OpenSpec.upto eventWithinSpec)

/-- 'drawknifelaw14.EventJoins', WHERE WHAT IT READS IS OF BULK AT MOST 1048576: true; the input reads as it did. -/
def eventJoinsUptoRow : OpenClaim := { program := "ytpchhlhjmkkoiaa", sum := "3c8747bbde128e448e0019191e896aa2dd67d17045cd88c97e469dbde0d9c1b6", func := "drawknife/drawknifelaw14.EventJoins", spec := "eventJoins", unfollowed := true, recurses := true, apart := false, narrowed := true }
def EventJoinsUptoSaid : Prop := eventJoinsUptoRow.holds Try.pinned (OpenSpec.upto eventJoinsSpec)

/-- 'drawknifelaw14.EventLeft', WHERE WHAT IT READS IS OF BULK AT MOST 1048576: true; the input reads as it did. -/
def eventLeftUptoRow : OpenClaim := { program := "ytpchhlhjmkkoiaa", sum := "3c8747bbde128e448e0019191e896aa2dd67d17045cd88c97e469dbde0d9c1b6", func := "drawknife/drawknifelaw14.EventLeft", spec := "eventLeft", unfollowed := true, recurses := true, apart := false, narrowed := true }
def EventLeftUptoSaid : Prop := eventLeftUptoRow.holds Try.pinned (OpenSpec.upto eventLeftSpec)

end Rows
end Go.Proofs.Ytpchhlhjmkkoiaa
