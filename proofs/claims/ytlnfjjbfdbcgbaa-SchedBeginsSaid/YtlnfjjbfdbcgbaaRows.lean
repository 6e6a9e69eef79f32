/-
  No cell of these rows narrows 'for every input' (looked for: loops, veiled, ifaces, maps, wideKeys, modest, calm, conditions, laid).
  DERIVED. THE GIVEN ROWS OF THIS SEAT. 9 by the template 'for every input the law returns true; each argument reads behind the call as it read before'; 0 by the template 'total and deterministic' (their statements: YtlnfjjbfdbcgbaaTotals.lean).
  GIVEN WITH THE SEED: the statements are not yours to turn. If you find one false, say at which input.
  Laid BY PROGRAM, IN A SANDBOX (cutbox-rows.mjs): the forced cells as the released guide's own fill.sh prints them over the translation 2730c7b97c266b8c… (all of the seat's roots in one cut). By AI agents, Wed Nov 11 2026. No macro, syntax, notation, axiom, sorry.
-/
import Derived.Test.YtlnfjjbfdbcgbaaChecked
import GoSem.Claim
import GoSem.ClaimJoined
import GoSem.ClaimMapViews
import Derived.JoinedTies
import Derived.KernelRfl
namespace Go.Proofs.Ytlnfjjbfdbcgbaa
/- THE CELL 'sum', in the pinned program and in every row, IS THE sha256 OF THE DUMP (.gsa) THAT YtlnfjjbfdbcgbaaProg.lean LOADS. Nothing in Lean hashes anything: it is a label: what it is worth is what the hold of that sum in a sandbox is worth. -/
noncomputable def Try.pinned : Pinned := { name := "ytlnfjjbfdbcgbaa", sum := "2730c7b97c266b8cc10ba6c72a3dadc5ef7399cd00697f091b90ff32c704dde7", checked := Try.checked }
namespace Rows
def none {H : Type} : Left H := { results := [], args := [] }

/-- 'drawknifelaw02.InstChecks': WHATEVER THE INPUT: true; the input reads as it did. -/
def instChecksSpec : ChangeSpec := { name := "instChecks", fn := fun _ => fun
  | [d] => { results := [.lit (.bool true)], args := [d] }
  | _ => none }
def instChecksRow : OpenClaim := { program := "ytlnfjjbfdbcgbaa", sum := "2730c7b97c266b8cc10ba6c72a3dadc5ef7399cd00697f091b90ff32c704dde7", func := "drawknife/drawknifelaw02.InstChecks", spec := "instChecks", apart := false }
def InstChecksSaid : Prop := instChecksRow.holds Try.pinned (OpenSpec.ofChange instChecksSpec)

/-- ITS FALSE NEIGHBOUR: 'it returns false'. Refute it at one input. -/
def instChecksWrong : ChangeSpec := { name := "instChecks", fn := fun _ => fun
  | [d] => { results := [.lit (.bool false)], args := [d] }
  | _ => none }
def InstChecksWrongFalsely : Prop := instChecksRow.holds Try.pinned (OpenSpec.ofChange instChecksWrong)

/-- 'drawknifelaw02.InstClasses': WHATEVER THE INPUT: true; the input reads as it did. -/
def instClassesSpec : ChangeSpec := { name := "instClasses", fn := fun _ => fun
  | [d] => { results := [.lit (.bool true)], args := [d] }
  | _ => none }
def instClassesRow : OpenClaim := { program := "ytlnfjjbfdbcgbaa", sum := "2730c7b97c266b8cc10ba6c72a3dadc5ef7399cd00697f091b90ff32c704dde7", func := "drawknife/drawknifelaw02.InstClasses", spec := "instClasses", apart := false }
def InstClassesSaid : Prop := instClassesRow.holds Try.pinned (OpenSpec.ofChange instClassesSpec)

/-- ITS FALSE NEIGHBOUR: 'it returns false'. Refute it at one input. -/
def instClassesWrong : ChangeSpec := { name := "instClasses", fn := fun _ => fun
  | [d] => { results := [.lit (.bool false)], args := [d] }
  | _ => none }
def InstClassesWrongFalsely : Prop := instClassesRow.holds Try.pinned (OpenSpec.ofChange instClassesWrong)

/-- 'drawknifelaw02.InstParts': WHATEVER THE INPUT: true; the input reads as it did. -/
def instPartsSpec : ChangeSpec := { name := "instParts", fn := fun _ => fun
  | [d1, d2] => { results := [.lit (.bool true)], args := [d1, d2] }
  | _ => none }
def instPartsRow : OpenClaim := { program := "ytlnfjjbfdbcgbaa", sum := "2730c7b97c266b8cc10ba6c72a3dadc5ef7399cd00697f091b90ff32c704dde7", func := "drawknife/drawknifelaw02.InstParts", spec := "instParts", apart := false }
def InstPartsSaid : Prop := instPartsRow.holds Try.pinned (OpenSpec.ofChange instPartsSpec)

/-- ITS FALSE NEIGHBOUR: 'it returns false'. Refute it at one input. -/
def instPartsWrong : ChangeSpec := { name := "instParts", fn := fun _ => fun
  | [d1, d2] => { results := [.lit (.bool false)], args := [d1, d2] }
  | _ => none }
def InstPartsWrongFalsely : Prop := instPartsRow.holds Try.pinned (OpenSpec.ofChange instPartsWrong)

/-- 'drawknifelaw02.InstRegs': WHATEVER THE INPUT: true; the input reads as it did. -/
def instRegsSpec : ChangeSpec := { name := "instRegs", fn := fun _ => fun
  | [d1, d2, d3] => { results := [.lit (.bool true)], args := [d1, d2, d3] }
  | _ => none }
def instRegsRow : OpenClaim := { program := "ytlnfjjbfdbcgbaa", sum := "2730c7b97c266b8cc10ba6c72a3dadc5ef7399cd00697f091b90ff32c704dde7", func := "drawknife/drawknifelaw02.InstRegs", spec := "instRegs", apart := false }
def InstRegsSaid : Prop := instRegsRow.holds Try.pinned (OpenSpec.ofChange instRegsSpec)

/-- ITS FALSE NEIGHBOUR: 'it returns false'. Refute it at one input. -/
def instRegsWrong : ChangeSpec := { name := "instRegs", fn := fun _ => fun
  | [d1, d2, d3] => { results := [.lit (.bool false)], args := [d1, d2, d3] }
  | _ => none }
def InstRegsWrongFalsely : Prop := instRegsRow.holds Try.pinned (OpenSpec.ofChange instRegsWrong)

/-- 'drawknifelaw28.SchedRounds': WHATEVER THE INPUT: true; the input reads as it did. -/
def schedRoundsSpec : ChangeSpec := { name := "schedRounds", fn := fun _ => fun
  | [d1, d2] => { results := [.lit (.bool true)], args := [d1, d2] }
  | _ => none }
def schedRoundsRow : OpenClaim := { program := "ytlnfjjbfdbcgbaa", sum := "2730c7b97c266b8cc10ba6c72a3dadc5ef7399cd00697f091b90ff32c704dde7", func := "drawknife/drawknifelaw28.SchedRounds", spec := "schedRounds", apart := false }
def SchedRoundsSaid : Prop := schedRoundsRow.holds Try.pinned (OpenSpec.ofChange schedRoundsSpec)

/-- ITS FALSE NEIGHBOUR: 'it returns false'. Refute it at one input. -/
def schedRoundsWrong : ChangeSpec := { name := "schedRounds", fn := fun _ => fun
  | [d1, d2] => { results := [.lit (.bool false)], args := [d1, d2] }
  | _ => none }
def SchedRoundsWrongFalsely : Prop := schedRoundsRow.holds Try.pinned (OpenSpec.ofChange schedRoundsWrong)

/-- 'drawknifelaw28.SchedMixes': WHATEVER THE INPUT: true; the input reads as it did. -/
def schedMixesSpec : ChangeSpec := { name := "schedMixes", fn := fun _ => fun
  | [d1, d2, d3, d4] => { results := [.lit (.bool true)], args := [d1, d2, d3, d4] }
  | _ => none }
def schedMixesRow : OpenClaim := { program := "ytlnfjjbfdbcgbaa", sum := "2730c7b97c266b8cc10ba6c72a3dadc5ef7399cd00697f091b90ff32c704dde7", func := "drawknife/drawknifelaw28.SchedMixes", spec := "schedMixes", apart := false }
def SchedMixesSaid : Prop := schedMixesRow.holds Try.pinned (OpenSpec.ofChange schedMixesSpec)

/-- ITS FALSE NEIGHBOUR: 'it returns false'. Refute it at one input. -/
def schedMixesWrong : ChangeSpec := { name := "schedMixes", fn := fun _ => fun
  | [d1, d2, d3, d4] => { results := [.lit (.bool false)], args := [d1, d2, d3, d4] }
  | _ => none }
def SchedMixesWrongFalsely : Prop := schedMixesRow.holds Try.pinned (OpenSpec.ofChange schedMixesWrong)

/-- 'drawknifelaw28.SchedWindows': WHATEVER THE INPUT: true; the input reads as it did. -/
def schedWindowsSpec : ChangeSpec := { name := "schedWindows", fn := fun _ => fun
  | [d1, d2, d3] => { results := [.lit (.bool true)], args := [d1, d2, d3] }
  | _ => none }
def schedWindowsRow : OpenClaim := { program := "ytlnfjjbfdbcgbaa", sum := "2730c7b97c266b8cc10ba6c72a3dadc5ef7399cd00697f091b90ff32c704dde7", func := "drawknife/drawknifelaw28.SchedWindows", spec := "schedWindows", apart := false }
def SchedWindowsSaid : Prop := schedWindowsRow.holds Try.pinned (OpenSpec.ofChange schedWindowsSpec)

/-- ITS FALSE NEIGHBOUR: 'it returns false'. Refute it at one input. -/
def schedWindowsWrong : ChangeSpec := { name := "schedWindows", fn := fun _ => fun
  | [d1, d2, d3] => { results := [.lit (.bool false)], args := [d1, d2, d3] }
  | _ => none }
def SchedWindowsWrongFalsely : Prop := schedWindowsRow.holds Try.pinned (OpenSpec.ofChange schedWindowsWrong)

/-- 'drawknifelaw28.SchedShares': WHATEVER THE INPUT: true; the input reads as it did. -/
def schedSharesSpec : ChangeSpec := { name := "schedShares", fn := fun _ => fun
  | [d1, d2] => { results := [.lit (.bool true)], args := [d1, d2] }
  | _ => none }
def schedSharesRow : OpenClaim := { program := "ytlnfjjbfdbcgbaa", sum := "2730c7b97c266b8cc10ba6c72a3dadc5ef7399cd00697f091b90ff32c704dde7", func := "drawknife/drawknifelaw28.SchedShares", spec := "schedShares", apart := false }
def SchedSharesSaid : Prop := schedSharesRow.holds Try.pinned (OpenSpec.ofChange schedSharesSpec)

/-- ITS FALSE NEIGHBOUR: 'it returns false'. Refute it at one input. -/
def schedSharesWrong : ChangeSpec := { name := "schedShares", fn := fun _ => fun
  | [d1, d2] => { results := [.lit (.bool false)], args := [d1, d2] }
  | _ => none }
def SchedSharesWrongFalsely : Prop := schedSharesRow.holds Try.pinned (OpenSpec.ofChange schedSharesWrong)

/-- 'drawknifelaw28.SchedBegins': WHATEVER THE INPUT: true; the input reads as it did. -/
def schedBeginsSpec : ChangeSpec := { name := "schedBegins", fn := fun _ => fun
  | [d1, d2, d3, d4, d5] => { results := [.lit (.bool true)], args := [d1, d2, d3, d4, d5] }
  | _ => none }
def schedBeginsRow : OpenClaim := { program := "ytlnfjjbfdbcgbaa", sum := "2730c7b97c266b8cc10ba6c72a3dadc5ef7399cd00697f091b90ff32c704dde7", func := "drawknife/drawknifelaw28.SchedBegins", spec := "schedBegins", apart := false }
def SchedBeginsSaid : Prop := schedBeginsRow.holds Try.pinned (OpenSpec.ofChange schedBeginsSpec)

/-- ITS FALSE NEIGHBOUR: 'it returns false'. Refute it at one input. -/
def schedBeginsWrong : ChangeSpec := { name := "schedBegins", fn := fun _ => fun
  | [d1, d2, d3, d4, d5] => { results := [.lit (.bool false)], args := [d1, d2, d3, d4, d5] }
  | _ => none }
def SchedBeginsWrongFalsely : Prop := schedBeginsRow.holds Try.pinned (OpenSpec.ofChange schedBeginsWrong)

/- THE SECOND FORM. 'bulk': how many values and letters a reading holds, each counted each time it is reached (what is shared counts as often as it is met; a slice's spare places count too). A statement '..UptoSaid' is the law's where the arguments, and the package variables that the reading takes, are together of bulk at most 1048576: NARROWER than '..Said'. Prove '..Said' where nothing that the law and all that it calls make is longer than what came in: it says more and counts as full. Else prove '..UptoSaid'. A law counts once. -/
mutual
def uptoBulk {H : Type} : DataW H → Nat
  | .lit (.string bytes) => bytes.length + 1
  | .lit _ => 1
  | .nil => 1
  | .ptr d => uptoBulk d + 1
  | .slice elems spare => uptoBulkAll elems + uptoBulkAll spare + 1
  | .agg parts => uptoBulkAll parts + 1
  | .iface _ d => uptoBulk d + 1
  | .map entries => uptoBulkEntries entries + 1
  | .held _ => 1
def uptoBulkAll {H : Type} : List (DataW H) → Nat
  | [] => 0
  | d :: r => uptoBulk d + uptoBulkAll r
def uptoBulkEntries {H : Type} : List (Lit × DataW H) → Nat
  | [] => 0
  | x :: r => uptoBulkEntry x + uptoBulkEntries r
def uptoBulkEntry {H : Type} : Lit × DataW H → Nat
  | (.string bytes, d) => bytes.length + uptoBulk d + 1
  | (_, d) => uptoBulk d + 1
 end
def uptoSmall : (H : Type) → List (DataW H) → Bool := fun _ ds => decide (uptoBulkAll ds ≤ 1048576)
def OpenSpec.upto (s : _root_.Go.ChangeSpec) : _root_.Go.OpenSpec := { _root_.Go.OpenSpec.ofChange s with cond := some uptoSmall }

/-- 'drawknifelaw02.InstChecks', WHERE WHAT IT READS IS OF BULK AT MOST 1048576: true; the input reads as it did. -/
def instChecksUptoRow : OpenClaim := { program := "ytlnfjjbfdbcgbaa", sum := "2730c7b97c266b8cc10ba6c72a3dadc5ef7399cd00697f091b90ff32c704dde7", func := "drawknife/drawknifelaw02.InstChecks", spec := "instChecks", apart := false, narrowed := true }
def InstChecksUptoSaid : Prop := instChecksUptoRow.holds Try.pinned (OpenSpec.upto instChecksSpec)

/-- 'drawknifelaw02.InstClasses', WHERE WHAT IT READS IS OF BULK AT MOST 1048576: true; the input reads as it did. -/
def instClassesUptoRow : OpenClaim := { program := "ytlnfjjbfdbcgbaa", sum := "2730c7b97c266b8cc10ba6c72a3dadc5ef7399cd00697f091b90ff32c704dde7", func := "drawknife/drawknifelaw02.InstClasses", spec := "instClasses", apart := false, narrowed := true }
def InstClassesUptoSaid : Prop := instClassesUptoRow.holds Try.pinned (OpenSpec.upto instClassesSpec)

/-- 'drawknifelaw02.InstParts', WHERE WHAT IT READS IS OF BULK AT MOST 1048576: true; the input reads as it did. -/
def instPartsUptoRow : OpenClaim := { program := "ytlnfjjbfdbcgbaa", sum := "2730c7b97c266b8cc10ba6c72a3dadc5ef7399cd00697f091b90ff32c704dde7", func := "drawknife/drawknifelaw02.InstParts", spec := "instParts", apart := false, narrowed := true }
def InstPartsUptoSaid : Prop := instPartsUptoRow.holds Try.pinned (OpenSpec.upto instPartsSpec)

/-- 'drawknifelaw02.InstRegs', WHERE WHAT IT READS IS OF BULK AT MOST 1048576: true; the input reads as it did. -/
def instRegsUptoRow : OpenClaim := { program := "ytlnfjjbfdbcgbaa", sum := "2730c7b97c266b8cc10ba6c72a3dadc5ef7399cd00697f091b90ff32c704dde7", func := "drawknife/drawknifelaw02.InstRegs", spec := "instRegs", apart := false, narrowed := true }
def InstRegsUptoSaid : Prop := instRegsUptoRow.holds Try.pinned (OpenSpec.upto instRegsSpec)

/-- 'drawknifelaw28.SchedRounds', WHERE WHAT IT READS IS OF BULK AT MOST 1048576: true; the input reads as it did. -/
def schedRoundsUptoRow : OpenClaim := { program := "ytlnfjjbfdbcgbaa", sum := "2730c7b97c266b8cc10ba6c72a3dadc5ef7399cd00697f091b90ff32c704dde7", func := "drawknife/drawknifelaw28.SchedRounds", spec := "schedRounds", apart := false, narrowed := true }
def SchedRoundsUptoSaid : Prop := schedRoundsUptoRow.holds Try.pinned (OpenSpec.upto schedRoundsSpec)

/-- 'drawknifelaw28.SchedMixes', WHERE WHAT IT READS IS OF BULK AT MOST 1048576: true; the input reads as it did. -/
def schedMixesUptoRow : OpenClaim := { program := "ytlnfjjbfdbcgbaa", sum := "2730c7b97c266b8cc10ba6c72a3dadc5ef7399cd00697f091b90ff32c704dde7", func := "drawknife/drawknifelaw28.SchedMixes", spec := "schedMixes", apart := false, narrowed := true }
def SchedMixesUptoSaid : Prop := schedMixesUptoRow.holds Try.pinned (OpenSpec.upto schedMixesSpec)

/-- 'drawknifelaw28.SchedWindows', WHERE WHAT IT READS IS OF BULK AT MOST 1048576: true; the input reads as it did. -/
def schedWindowsUptoRow : OpenClaim := { program := "ytlnfjjbfdbcgbaa", sum := "2730c7b97c266b8cc10ba6c72a3dadc5ef7399cd00697f091b90ff32c704dde7", func := "drawknife/drawknifelaw28.SchedWindows", spec := "schedWindows", apart := false, narrowed := true }
def SchedWindowsUptoSaid : Prop := schedWindowsUptoRow.holds Try.pinned (OpenSpec.upto schedWindowsSpec)

/-- 'drawknifelaw28.SchedShares', WHERE WHAT IT READS IS OF BULK AT MOST 1048576: true; the input reads as it did. -/
def schedSharesUptoRow : OpenClaim := { program := "ytlnfjjbfdbcgbaa", sum := "2730c7b97c266b8cc10ba6c72a3dadc5ef7399cd00697f091b90ff32c704dde7", func := "drawknife/drawknifelaw28.SchedShares", spec := "schedShares", apart := false, narrowed := true }
def SchedSharesUptoSaid : Prop := schedSharesUptoRow.holds Try.pinned (OpenSpec.upto schedSharesSpec)

/-- 'drawknifelaw28.SchedBegins', WHERE WHAT IT READS IS OF BULK AT MOST 1048576: true; the input reads as it did. -/
def schedBeginsUptoRow : OpenClaim := { program := "ytlnfjjbfdbcgbaa", sum := "2730c7b97c266b8cc10ba6c72a3dadc5ef7399cd00697f091b90ff32c704dde7", func := "drawknife/drawknifelaw28.SchedBegins", spec := "schedBegins", apart := false, narrowed := true }
def SchedBeginsUptoSaid : Prop := schedBeginsUptoRow.holds Try.pinned (OpenSpec.upto schedBeginsSpec)

end Rows
end Go.Proofs.Ytlnfjjbfdbcgbaa
