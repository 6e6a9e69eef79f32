/-
  No cell of these rows narrows 'for every input' (looked for: loops, veiled, ifaces, maps, wideKeys, modest, calm, conditions, laid).
  DERIVED. THE GIVEN ROWS OF THIS SEAT. 8 by the template 'for every input the law returns true; each argument reads behind the call as it read before'; 0 by the template 'total and deterministic' (their statements: YtpenanbnadohfaaTotals.lean).
  GIVEN WITH THE SEED: the statements are not yours to turn. If you find one false, say at which input.
  Laid BY PROGRAM, IN A SANDBOX (cutbox-rows.mjs): the forced cells as the released guide's own fill.sh prints them over the translation ebfc726f853ffd03… (all of the seat's roots in one cut). By AI agents, Wed Nov 11 2026. No macro, syntax, notation, axiom, sorry.
-/
import Derived.Test.YtpenanbnadohfaaChecked
import GoSem.Claim
import GoSem.ClaimJoined
import GoSem.ClaimMapViews
import Derived.JoinedTies
import Derived.KernelRfl
namespace Go.Proofs.Ytpenanbnadohfaa
/- THE CELL 'sum', in the pinned program and in every row, IS THE sha256 OF THE DUMP (.gsa) THAT YtpenanbnadohfaaProg.lean LOADS. Nothing in Lean hashes anything: it is a label: what it is worth is what the hold of that sum in a sandbox is worth. -/
noncomputable def Try.pinned : Pinned := { name := "ytpenanbnadohfaa", sum := "ebfc726f853ffd03d2f6931f306ad6af370e78703e2ea60b4186d35c20760738", checked := Try.checked }
namespace Rows
def none {H : Type} : Left H := { results := [], args := [] }

/-- 'drawknifelaw04.SlotOnce': WHATEVER THE INPUT: true; the input reads as it did. -/
def slotOnceSpec : ChangeSpec := { name := "slotOnce", fn := fun _ => fun
  | [d1, d2] => { results := [.lit (.bool true)], args := [d1, d2] }
  | _ => none }
def slotOnceRow : OpenClaim := { program := "ytpenanbnadohfaa", sum := "ebfc726f853ffd03d2f6931f306ad6af370e78703e2ea60b4186d35c20760738", func := "drawknife/drawknifelaw04.SlotOnce", spec := "slotOnce", apart := false }
def SlotOnceSaid : Prop := slotOnceRow.holds Try.pinned (OpenSpec.ofChange slotOnceSpec)

/-- ITS FALSE NEIGHBOUR: 'it returns false'. Refute it at one input. -/
def slotOnceWrong : ChangeSpec := { name := "slotOnce", fn := fun _ => fun
  | [d1, d2] => { results := [.lit (.bool false)], args := [d1, d2] }
  | _ => none }
def SlotOnceWrongFalsely : Prop := slotOnceRow.holds Try.pinned (OpenSpec.ofChange slotOnceWrong)

/-- 'drawknifelaw04.SlotPlays': WHATEVER THE INPUT: true; the input reads as it did. -/
def slotPlaysSpec : ChangeSpec := { name := "slotPlays", fn := fun _ => fun
  | [d1, d2] => { results := [.lit (.bool true)], args := [d1, d2] }
  | _ => none }
def slotPlaysRow : OpenClaim := { program := "ytpenanbnadohfaa", sum := "ebfc726f853ffd03d2f6931f306ad6af370e78703e2ea60b4186d35c20760738", func := "drawknife/drawknifelaw04.SlotPlays", spec := "slotPlays", apart := false }
def SlotPlaysSaid : Prop := slotPlaysRow.holds Try.pinned (OpenSpec.ofChange slotPlaysSpec)

/-- ITS FALSE NEIGHBOUR: 'it returns false'. Refute it at one input. -/
def slotPlaysWrong : ChangeSpec := { name := "slotPlays", fn := fun _ => fun
  | [d1, d2] => { results := [.lit (.bool false)], args := [d1, d2] }
  | _ => none }
def SlotPlaysWrongFalsely : Prop := slotPlaysRow.holds Try.pinned (OpenSpec.ofChange slotPlaysWrong)

/-- 'drawknifelaw04.SlotNone': WHATEVER THE INPUT: true; the input reads as it did. -/
def slotNoneSpec : ChangeSpec := { name := "slotNone", fn := fun _ => fun
  | [d1, d2] => { results := [.lit (.bool true)], args := [d1, d2] }
  | _ => none }
def slotNoneRow : OpenClaim := { program := "ytpenanbnadohfaa", sum := "ebfc726f853ffd03d2f6931f306ad6af370e78703e2ea60b4186d35c20760738", func := "drawknife/drawknifelaw04.SlotNone", spec := "slotNone", apart := false }
def SlotNoneSaid : Prop := slotNoneRow.holds Try.pinned (OpenSpec.ofChange slotNoneSpec)

/-- ITS FALSE NEIGHBOUR: 'it returns false'. Refute it at one input. -/
def slotNoneWrong : ChangeSpec := { name := "slotNone", fn := fun _ => fun
  | [d1, d2] => { results := [.lit (.bool false)], args := [d1, d2] }
  | _ => none }
def SlotNoneWrongFalsely : Prop := slotNoneRow.holds Try.pinned (OpenSpec.ofChange slotNoneWrong)

/-- 'drawknifelaw04.SlotBack': WHATEVER THE INPUT: true; the input reads as it did. -/
def slotBackSpec : ChangeSpec := { name := "slotBack", fn := fun _ => fun
  | [d1, d2] => { results := [.lit (.bool true)], args := [d1, d2] }
  | _ => none }
def slotBackRow : OpenClaim := { program := "ytpenanbnadohfaa", sum := "ebfc726f853ffd03d2f6931f306ad6af370e78703e2ea60b4186d35c20760738", func := "drawknife/drawknifelaw04.SlotBack", spec := "slotBack", apart := false }
def SlotBackSaid : Prop := slotBackRow.holds Try.pinned (OpenSpec.ofChange slotBackSpec)

/-- ITS FALSE NEIGHBOUR: 'it returns false'. Refute it at one input. -/
def slotBackWrong : ChangeSpec := { name := "slotBack", fn := fun _ => fun
  | [d1, d2] => { results := [.lit (.bool false)], args := [d1, d2] }
  | _ => none }
def SlotBackWrongFalsely : Prop := slotBackRow.holds Try.pinned (OpenSpec.ofChange slotBackWrong)

/-- 'drawknifelaw12.ShareFair': WHATEVER THE INPUT: true; the input reads as it did. -/
def shareFairSpec : ChangeSpec := { name := "shareFair", fn := fun _ => fun
  | [d1, d2, d3, d4] => { results := [.lit (.bool true)], args := [d1, d2, d3, d4] }
  | _ => none }
def shareFairRow : OpenClaim := { program := "ytpenanbnadohfaa", sum := "ebfc726f853ffd03d2f6931f306ad6af370e78703e2ea60b4186d35c20760738", func := "drawknife/drawknifelaw12.ShareFair", spec := "shareFair", apart := false }
def ShareFairSaid : Prop := shareFairRow.holds Try.pinned (OpenSpec.ofChange shareFairSpec)

/-- ITS FALSE NEIGHBOUR: 'it returns false'. Refute it at one input. -/
def shareFairWrong : ChangeSpec := { name := "shareFair", fn := fun _ => fun
  | [d1, d2, d3, d4] => { results := [.lit (.bool false)], args := [d1, d2, d3, d4] }
  | _ => none }
def ShareFairWrongFalsely : Prop := shareFairRow.holds Try.pinned (OpenSpec.ofChange shareFairWrong)

/-- 'drawknifelaw12.ShareEven': WHATEVER THE INPUT: true; the input reads as it did. -/
def shareEvenSpec : ChangeSpec := { name := "shareEven", fn := fun _ => fun
  | [d1, d2, d3, d4] => { results := [.lit (.bool true)], args := [d1, d2, d3, d4] }
  | _ => none }
def shareEvenRow : OpenClaim := { program := "ytpenanbnadohfaa", sum := "ebfc726f853ffd03d2f6931f306ad6af370e78703e2ea60b4186d35c20760738", func := "drawknife/drawknifelaw12.ShareEven", spec := "shareEven", apart := false }
def ShareEvenSaid : Prop := shareEvenRow.holds Try.pinned (OpenSpec.ofChange shareEvenSpec)

/-- ITS FALSE NEIGHBOUR: 'it returns false'. Refute it at one input. -/
def shareEvenWrong : ChangeSpec := { name := "shareEven", fn := fun _ => fun
  | [d1, d2, d3, d4] => { results := [.lit (.bool false)], args := [d1, d2, d3, d4] }
  | _ => none }
def ShareEvenWrongFalsely : Prop := shareEvenRow.holds Try.pinned (OpenSpec.ofChange shareEvenWrong)

/-- 'drawknifelaw12.ShareTurns': WHATEVER THE INPUT: true; the input reads as it did. -/
def shareTurnsSpec : ChangeSpec := { name := "shareTurns", fn := fun _ => fun
  | [d1, d2, d3, d4] => { results := [.lit (.bool true)], args := [d1, d2, d3, d4] }
  | _ => none }
def shareTurnsRow : OpenClaim := { program := "ytpenanbnadohfaa", sum := "ebfc726f853ffd03d2f6931f306ad6af370e78703e2ea60b4186d35c20760738", func := "drawknife/drawknifelaw12.ShareTurns", spec := "shareTurns", apart := false }
def ShareTurnsSaid : Prop := shareTurnsRow.holds Try.pinned (OpenSpec.ofChange shareTurnsSpec)

/-- ITS FALSE NEIGHBOUR: 'it returns false'. Refute it at one input. -/
def shareTurnsWrong : ChangeSpec := { name := "shareTurns", fn := fun _ => fun
  | [d1, d2, d3, d4] => { results := [.lit (.bool false)], args := [d1, d2, d3, d4] }
  | _ => none }
def ShareTurnsWrongFalsely : Prop := shareTurnsRow.holds Try.pinned (OpenSpec.ofChange shareTurnsWrong)

/-- 'drawknifelaw12.ShareMore': WHATEVER THE INPUT: true; the input reads as it did. -/
def shareMoreSpec : ChangeSpec := { name := "shareMore", fn := fun _ => fun
  | [d1, d2, d3, d4, d5, d6] => { results := [.lit (.bool true)], args := [d1, d2, d3, d4, d5, d6] }
  | _ => none }
def shareMoreRow : OpenClaim := { program := "ytpenanbnadohfaa", sum := "ebfc726f853ffd03d2f6931f306ad6af370e78703e2ea60b4186d35c20760738", func := "drawknife/drawknifelaw12.ShareMore", spec := "shareMore", apart := false }
def ShareMoreSaid : Prop := shareMoreRow.holds Try.pinned (OpenSpec.ofChange shareMoreSpec)

/-- ITS FALSE NEIGHBOUR: 'it returns false'. Refute it at one input. -/
def shareMoreWrong : ChangeSpec := { name := "shareMore", fn := fun _ => fun
  | [d1, d2, d3, d4, d5, d6] => { results := [.lit (.bool false)], args := [d1, d2, d3, d4, d5, d6] }
  | _ => none }
def ShareMoreWrongFalsely : Prop := shareMoreRow.holds Try.pinned (OpenSpec.ofChange shareMoreWrong)

/- THE SECOND FORM. 'bulk': how many values and letters a reading holds, each counted each time it is reached (what is shared counts as often as it is met; a slice's spare places count too). A statement '..UptoSaid' is the law's where the arguments, and the package variables that the reading takes, are together of bulk at most 1048576: NARROWER than '..Said'. Prove '..Said' where nothing that the law and all that it calls make is longer than what came in: it says more and counts as full. Else prove '..UptoSaid'. A law counts once. -/
mutual
def uptoBulk {H : Type} : DataW H → Nat
  | .lit (.string bytes) => bytes.length + 1
  | .lit _ => 1
  | .nil => 1
  | .ptr d => uptoBulk d + 1
  | .slice elems spare => uptoBulkAll elems + uptoBulkAll spare + 1
  | .agg parts => uptoBulkAll parts + 1
  | .iface _ d => uptoBulk d + 1
  | .map entries => uptoBulkEntries entries + 1
  | .held _ => 1
def uptoBulkAll {H : Type} : List (DataW H) → Nat
  | [] => 0
  | d :: r => uptoBulk d + uptoBulkAll r
def uptoBulkEntries {H : Type} : List (Lit × DataW H) → Nat
  | [] => 0
  | x :: r => uptoBulkEntry x + uptoBulkEntries r
def uptoBulkEntry {H : Type} : Lit × DataW H → Nat
  | (.string bytes, d) => bytes.length + uptoBulk d + 1
  | (_, d) => uptoBulk d + 1
 end
def uptoSmall : (H : Type) → List (DataW H) → Bool := fun _ ds => decide (uptoBulkAll ds ≤ 1048576)
def OpenSpec.upto (s : _root_.Go.ChangeSpec) : _root_.Go.OpenSpec := { _root_.Go.OpenSpec.ofChange s with cond := some uptoSmall }

/-- 'drawknifelaw04.SlotOnce', WHERE WHAT IT READS IS OF BULK AT MOST 1048576: true; the input reads as it did. -/
def slotOnceUptoRow : OpenClaim := { program := "ytpenanbnadohfaa", sum := "ebfc726f853ffd03d2f6931f306ad6af370e78703e2ea60b4186d35c20760738", func := "drawknife/drawknifelaw04.SlotOnce", spec := "slotOnce", apart := false, narrowed := true }
def SlotOnceUptoSaid : Prop := slotOnceUptoRow.holds Try.pinned (OpenSpec.upto slotOnceSpec)

/-- 'drawknifelaw04.SlotPlays', WHERE WHAT IT READS IS OF BULK AT MOST 1048576: true; the input reads as it did. -/
def slotPlaysUptoRow : OpenClaim := { program := "ytpenanbnadohfaa", sum := "ebfc726f853ffd03d2f6931f306ad6af370e78703e2ea60b4186d35c20760738", func := "drawknife/drawknifelaw04.SlotPlays", spec := "slotPlays", apart := false, narrowed := true }
def SlotPlaysUptoSaid : Prop := slotPlaysUptoRow.holds Try.pinned (OpenSpec.upto slotPlaysSpec)

/-- 'drawknifelaw04.SlotNone', WHERE WHAT IT READS IS OF BULK AT MOST 1048576: true; the input reads as it did. -/
def slotNoneUptoRow : OpenClaim := { program := "ytpenanbnadohfaa", sum := "ebfc726f853ffd03d2f6931f306ad6af370e78703e2ea60b4186d35c20760738", func := "drawknife/drawknifelaw04.SlotNone", spec := "slotNone", apart := false, narrowed := true }
def SlotNoneUptoSaid : Prop := slotNoneUptoRow.holds Try.pinned (OpenSpec.upto slotNoneSpec)

/-- 'drawknifelaw04.SlotBack', WHERE WHAT IT READS IS OF BULK AT MOST 1048576: true; the input reads as it did. -/
def slotBackUptoRow : OpenClaim := { program := "ytpenanbnadohfaa", sum := "ebfc726f853ffd03d2f6931f306ad6af370e78703e2ea60b4186d35c20760738", func := "drawknife/drawknifelaw04.SlotBack", spec := "slotBack", apart := false, narrowed := true }
def SlotBackUptoSaid : Prop := slotBackUptoRow.holds Try.pinned (OpenSpec.upto slotBackSpec)

/-- 'drawknifelaw12.ShareFair', WHERE WHAT IT READS IS OF BULK AT MOST 1048576: true; the input reads as it did. -/
def shareFairUptoRow : OpenClaim := { program := "ytpenanbnadohfaa", sum := "ebfc726f853ffd03d2f6931f306ad6af370e78703e2ea60b4186d35c20760738", func := "drawknife/drawknifelaw12.ShareFair", spec := "shareFair", apart := false, narrowed := true }
def ShareFairUptoSaid : Prop := shareFairUptoRow.holds Try.pinned (OpenSpec.upto shareFairSpec)

/-- 'drawknifelaw12.ShareEven', WHERE WHAT IT READS IS OF BULK AT MOST 1048576: true; the input reads as it did. -/
def shareEvenUptoRow : OpenClaim := { program := "ytpenanbnadohfaa", sum := "ebfc726f853ffd03d2f6931f306ad6af370e78703e2ea60b4186d35c20760738", func := "drawknife/drawknifelaw12.ShareEven", spec := "shareEven", apart := false, narrowed := true }
def ShareEvenUptoSaid : Prop := shareEvenUptoRow.holds Try.pinned (OpenSpec.upto shareEvenSpec)

/-- 'drawknifelaw12.ShareTurns', WHERE WHAT IT READS IS OF BULK AT MOST 1048576: true; the input reads as it did. -/
def shareTurnsUptoRow : OpenClaim := { program := "ytpenanbnadohfaa", sum := "ebfc726f853ffd03d2f6931f306ad6af370e78703e2ea60b4186d35c20760738", func := "drawknife/drawknifelaw12.ShareTurns", spec := "shareTurns", apart := false, narrowed := true }
def ShareTurnsUptoSaid : Prop := shareTurnsUptoRow.holds Try.pinned (OpenSpec.upto shareTurnsSpec)

/-- 'drawknifelaw12.ShareMore', WHERE WHAT IT READS IS OF BULK AT MOST 1048576: true; the input reads as it did. -/
def shareMoreUptoRow : OpenClaim := { program := "ytpenanbnadohfaa", sum := "ebfc726f853ffd03d2f6931f306ad6af370e78703e2ea60b4186d35c20760738", func := "drawknife/drawknifelaw12.ShareMore", spec := "shareMore", apart := false, narrowed := true }
def ShareMoreUptoSaid : Prop := shareMoreUptoRow.holds Try.pinned (OpenSpec.upto shareMoreSpec)

end Rows
end Go.Proofs.Ytpenanbnadohfaa
