/-
  No cell of these rows narrows 'for every input' (looked for: loops, veiled, ifaces, maps, wideKeys, modest, calm, conditions, laid).
  DERIVED. THE GIVEN ROWS OF THIS SEAT. 5 by the template 'for every input the law returns true; each argument reads behind the call as it read before'; 0 by the template 'total and deterministic' (their statements: YtkiikbajbikdeaaTotals.lean).
  GIVEN WITH THE SEED: the statements are not yours to turn. If you find one false, say at which input.
  Laid BY PROGRAM, IN A SANDBOX (cutbox-rows.mjs): the forced cells as the released guide's own fill.sh prints them over the translation 356e6a6fd0681472… (all of the seat's roots in one cut). By AI agents, Wed Nov 11 2026. No macro, syntax, notation, axiom, sorry.
-/
import Derived.Test.YtkiikbajbikdeaaChecked
import GoSem.Claim
import GoSem.ClaimJoined
import GoSem.ClaimMapViews
import Derived.JoinedTies
import Derived.KernelRfl
namespace Go.Proofs.Ytkiikbajbikdeaa
/- THE CELL 'sum', in the pinned program and in every row, IS THE sha256 OF THE DUMP (.gsa) THAT YtkiikbajbikdeaaProg.lean LOADS. Nothing in Lean hashes anything: it is a label: what it is worth is what the hold of that sum in a sandbox is worth. -/
noncomputable def Try.pinned : Pinned := { name := "ytkiikbajbikdeaa", sum := "356e6a6fd0681472f741b63e4186c738b8a1cc97ef23dcd6d5d1dc6b8578d307", checked := Try.checked }
namespace Rows
def none {H : Type} : Left H := { results := [], args := [] }

/-- 'lychlaw15.DiffApplies': WHATEVER THE INPUT: true; the input reads as it did. -/
def diffAppliesSpec : ChangeSpec := { name := "diffApplies", fn := fun _ => fun
  | [d1, d2, d3] => { results := [.lit (.bool true)], args := [d1, d2, d3] }
  | _ => none }
def diffAppliesRow : OpenClaim := { program := "ytkiikbajbikdeaa", sum := "356e6a6fd0681472f741b63e4186c738b8a1cc97ef23dcd6d5d1dc6b8578d307", func := "lych/lychlaw15.DiffApplies", spec := "diffApplies", inPlace := ["maps.clone"], unfollowed := true, recurses := true, apart := false }
def DiffAppliesSaid : Prop := diffAppliesRow.holds Try.pinned (OpenSpec.ofChange diffAppliesSpec)

/-- ITS FALSE NEIGHBOUR: 'it returns false'. Refute it at one input. -/
def diffAppliesWrong : ChangeSpec := { name := "diffApplies", fn := fun _ => fun
  | [d1, d2, d3] => { results := [.lit (.bool false)], args := [d1, d2, d3] }
  | _ => none }
def DiffAppliesWrongFalsely : Prop := diffAppliesRow.holds Try.pinned (OpenSpec.ofChange diffAppliesWrong)

/-- 'lychlaw15.DiffTells': WHATEVER THE INPUT: true; the input reads as it did. -/
def diffTellsSpec : ChangeSpec := { name := "diffTells", fn := fun _ => fun
  | [d1, d2] => { results := [.lit (.bool true)], args := [d1, d2] }
  | _ => none }
def diffTellsRow : OpenClaim := { program := "ytkiikbajbikdeaa", sum := "356e6a6fd0681472f741b63e4186c738b8a1cc97ef23dcd6d5d1dc6b8578d307", func := "lych/lychlaw15.DiffTells", spec := "diffTells", inPlace := ["maps.clone"], unfollowed := true, recurses := true, apart := false }
def DiffTellsSaid : Prop := diffTellsRow.holds Try.pinned (OpenSpec.ofChange diffTellsSpec)

/-- ITS FALSE NEIGHBOUR: 'it returns false'. Refute it at one input. -/
def diffTellsWrong : ChangeSpec := { name := "diffTells", fn := fun _ => fun
  | [d1, d2] => { results := [.lit (.bool false)], args := [d1, d2] }
  | _ => none }
def DiffTellsWrongFalsely : Prop := diffTellsRow.holds Try.pinned (OpenSpec.ofChange diffTellsWrong)

/-- 'lychlaw15.DiffBack': WHATEVER THE INPUT: true; the input reads as it did. -/
def diffBackSpec : ChangeSpec := { name := "diffBack", fn := fun _ => fun
  | [d1, d2] => { results := [.lit (.bool true)], args := [d1, d2] }
  | _ => none }
def diffBackRow : OpenClaim := { program := "ytkiikbajbikdeaa", sum := "356e6a6fd0681472f741b63e4186c738b8a1cc97ef23dcd6d5d1dc6b8578d307", func := "lych/lychlaw15.DiffBack", spec := "diffBack", inPlace := ["maps.clone"], unfollowed := true, recurses := true, apart := false }
def DiffBackSaid : Prop := diffBackRow.holds Try.pinned (OpenSpec.ofChange diffBackSpec)

/-- ITS FALSE NEIGHBOUR: 'it returns false'. Refute it at one input. -/
def diffBackWrong : ChangeSpec := { name := "diffBack", fn := fun _ => fun
  | [d1, d2] => { results := [.lit (.bool false)], args := [d1, d2] }
  | _ => none }
def DiffBackWrongFalsely : Prop := diffBackRow.holds Try.pinned (OpenSpec.ofChange diffBackWrong)

/-- 'lychlaw15.DiffSteps': WHATEVER THE INPUT: true; the input reads as it did. -/
def diffStepsSpec : ChangeSpec := { name := "diffSteps", fn := fun _ => fun
  | [d1, d2] => { results := [.lit (.bool true)], args := [d1, d2] }
  | _ => none }
def diffStepsRow : OpenClaim := { program := "ytkiikbajbikdeaa", sum := "356e6a6fd0681472f741b63e4186c738b8a1cc97ef23dcd6d5d1dc6b8578d307", func := "lych/lychlaw15.DiffSteps", spec := "diffSteps", inPlace := ["maps.clone"], unfollowed := true, recurses := true, apart := false }
def DiffStepsSaid : Prop := diffStepsRow.holds Try.pinned (OpenSpec.ofChange diffStepsSpec)

/-- ITS FALSE NEIGHBOUR: 'it returns false'. Refute it at one input. -/
def diffStepsWrong : ChangeSpec := { name := "diffSteps", fn := fun _ => fun
  | [d1, d2] => { results := [.lit (.bool false)], args := [d1, d2] }
  | _ => none }
def DiffStepsWrongFalsely : Prop := diffStepsRow.holds Try.pinned (OpenSpec.ofChange diffStepsWrong)

/-- 'lychlaw15.DiffChain': WHATEVER THE INPUT: true; the input reads as it did. -/
def diffChainSpec : ChangeSpec := { name := "diffChain", fn := fun _ => fun
  | [d1, d2, d3] => { results := [.lit (.bool true)], args := [d1, d2, d3] }
  | _ => none }
def diffChainRow : OpenClaim := { program := "ytkiikbajbikdeaa", sum := "356e6a6fd0681472f741b63e4186c738b8a1cc97ef23dcd6d5d1dc6b8578d307", func := "lych/lychlaw15.DiffChain", spec := "diffChain", inPlace := ["maps.clone"], unfollowed := true, recurses := true, apart := false }
def DiffChainSaid : Prop := diffChainRow.holds Try.pinned (OpenSpec.ofChange diffChainSpec)

/-- ITS FALSE NEIGHBOUR: 'it returns false'. Refute it at one input. -/
def diffChainWrong : ChangeSpec := { name := "diffChain", fn := fun _ => fun
  | [d1, d2, d3] => { results := [.lit (.bool false)], args := [d1, d2, d3] }
  | _ => none }
def DiffChainWrongFalsely : Prop := diffChainRow.holds Try.pinned (OpenSpec.ofChange diffChainWrong)

/- THE SECOND FORM. 'bulk': how many values and letters a reading holds, each counted each time it is reached (what is shared counts as often as it is met; a slice's spare places count too). A statement '..UptoSaid' is the law's where the arguments, and the package variables that the reading takes, are together of bulk at most 1048576: NARROWER than '..Said'. Prove '..Said' where nothing that the law and all that it calls make is longer than what came in: it says more and counts as full. Else prove '..UptoSaid'. A law counts once. -/
mutual
def uptoBulk {H : Type} : DataW H → Nat
  | .lit (.string bytes) => bytes.length + 1
  | .lit _ => 1
  | .nil => 1
  | .ptr d => uptoBulk d + 1
  | .slice elems spare => uptoBulkAll elems + uptoBulkAll spare + 1
  | .agg parts => uptoBulkAll parts + 1
  | .iface _ d => uptoBulk d + 1
  | .map entries => uptoBulkEntries entries + 1
  | .held _ => 1
def uptoBulkAll {H : Type} : List (DataW H) → Nat
  | [] => 0
  | d :: r => uptoBulk d + uptoBulkAll r
def uptoBulkEntries {H : Type} : List (Lit × DataW H) → Nat
  | [] => 0
  | x :: r => uptoBulkEntry x + uptoBulkEntries r
def uptoBulkEntry {H : Type} : Lit × DataW H → Nat
  | (.string bytes, d) => bytes.length + uptoBulk d + 1
  | (_, d) => uptoBulk d + 1
 end
def uptoSmall : (H : Type) → List (DataW H) → Bool := fun _ ds => decide (uptoBulkAll ds ≤ 1048576)
def OpenSpec.upto (s : _root_.Go.ChangeSpec) : _root_.Go.OpenSpec := { _root_.Go.OpenSpec.ofChange s with cond := some uptoSmall }

/-- 'lychlaw15.DiffApplies', WHERE WHAT IT READS IS OF BULK AT MOST 1048576: true; the input reads as it did. -/
def diffAppliesUptoRow : OpenClaim := { program := "ytkiikbajbikdeaa", sum := "356e6a6fd0681472f741b63e4186c738b8a1cc97ef23dcd6d5d1dc6b8578d307", func := "lych/lychlaw15.DiffApplies", spec := "diffApplies", inPlace := ["maps.clone"], unfollowed := true, recurses := true, apart := false, narrowed := true }
def DiffAppliesUptoSaid : Prop := diffAppliesUptoRow.holds Try.pinned (OpenSpec.upto diffAppliesSpec)

/-- 'lychlaw15.DiffTells', WHERE WHAT IT READS IS OF BULK AT MOST 1048576: true; the input reads as it did. -/
def diffTellsUptoRow : OpenClaim := { program := "ytkiikbajbikdeaa", sum := "356e6a6fd0681472f741b63e4186c738b8a1cc97ef23dcd6d5d1dc6b8578d307", func := "lych/lychlaw15.DiffTells", spec := "diffTells", inPlace := ["maps.clone"], unfollowed := true, recurses := true, apart := false, narrowed := true }
def DiffTellsUptoSaid : Prop := diffTellsUptoRow.holds Try.pinned (OpenSpec.upto diffTellsSpec)

/-- 'lychlaw15.DiffBack', WHERE WHAT IT READS IS OF BULK AT MOST 1048576: true; the input reads as it did. -/
def diffBackUptoRow : OpenClaim := { program := "ytkiikbajbikdeaa", sum := "356e6a6fd0681472f741b63e4186c738b8a1cc97ef23dcd6d5d1dc6b8578d307", func := "lych/lychlaw15.DiffBack", spec := "diffBack", inPlace := ["maps.clone"], unfollowed := true, recurses := true, apart := false, narrowed := true }
def DiffBackUptoSaid : Prop := diffBackUptoRow.holds Try.pinned (OpenSpec.upto diffBackSpec)

/-- 'lychlaw15.DiffSteps', WHERE WHAT IT READS IS OF BULK AT MOST 1048576: true; the input reads as it did. -/
def diffStepsUptoRow : OpenClaim := { program := "ytkiikbajbikdeaa", sum := "356e6a6fd0681472f741b63e4186c738b8a1cc97ef23dcd6d5d1dc6b8578d307", func := "lych/lychlaw15.DiffSteps", spec := "diffSteps", inPlace := ["maps.clone"], unfollowed := true, recurses := true, apart := false, narrowed := true }
def DiffStepsUptoSaid : Prop := diffStepsUptoRow.holds Try.pinned (OpenSpec.upto diffStepsSpec)

/-- 'lychlaw15.DiffChain', WHERE WHAT IT READS IS OF BULK AT MOST 1048576: true; the input reads as it did. -/
def diffChainUptoRow : OpenClaim := { program := "ytkiikbajbikdeaa", sum := "356e6a6fd0681472f741b63e4186c738b8a1cc97ef23dcd6d5d1dc6b8578d307", func := "lych/lychlaw15.DiffChain", spec := "diffChain", inPlace := ["maps.clone"], unfollowed := true, recurses := true, apart := false, narrowed := true }
def DiffChainUptoSaid : Prop := diffChainUptoRow.holds Try.pinned (OpenSpec.upto diffChainSpec)

end Rows
end Go.Proofs.Ytkiikbajbikdeaa
