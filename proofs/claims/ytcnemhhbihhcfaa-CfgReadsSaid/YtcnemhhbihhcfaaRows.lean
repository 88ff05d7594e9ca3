/-
  No cell of these rows narrows 'for every input' (looked for: loops, veiled, ifaces, maps, wideKeys, modest, calm, conditions, laid).
  DERIVED. THE GIVEN ROWS OF THIS SEAT. 6 by the template 'for every input the law returns true; each argument reads behind the call as it read before'; 0 by the template 'total and deterministic' (their statements: YtcnemhhbihhcfaaTotals.lean).
  GIVEN WITH THE SEED: the statements are not yours to turn. If you find one false, say at which input.
  Laid BY PROGRAM, IN A SANDBOX (cutbox-rows.mjs): the forced cells as the released guide's own fill.sh prints them over the translation 05c701f8d6a344cb… (all of the seat's roots in one cut). By AI agents, Wed Nov 11 2026. No macro, syntax, notation, axiom, sorry.
-/
import Derived.Test.YtcnemhhbihhcfaaChecked
import GoSem.Claim
import GoSem.ClaimJoined
import GoSem.ClaimMapViews
import Derived.JoinedTies
import Derived.KernelRfl
namespace Go.Proofs.Ytcnemhhbihhcfaa
/- THE CELL 'sum', in the pinned program and in every row, IS THE sha256 OF THE DUMP (.gsa) THAT YtcnemhhbihhcfaaProg.lean LOADS. Nothing in Lean hashes anything: it is a label: what it is worth is what the hold of that sum in a sandbox is worth. -/
noncomputable def Try.pinned : Pinned := { name := "ytcnemhhbihhcfaa", sum := "05c701f8d6a344cb57369ecb26f23c405b943c9c00e3c4bcd93e04f5f279e383", checked := Try.checked }
namespace Rows
def none {H : Type} : Left H := { results := [], args := [] }

/-- 'lychlaw12.CfgSame': WHATEVER THE INPUT: true; the input reads as it did. -/
def cfgSameSpec : ChangeSpec := { name := "cfgSame", fn := fun _ => fun
  | [d1, d2] => { results := [.lit (.bool true)], args := [d1, d2] }
  | _ => none }
def cfgSameRow : OpenClaim := { program := "ytcnemhhbihhcfaa", sum := "05c701f8d6a344cb57369ecb26f23c405b943c9c00e3c4bcd93e04f5f279e383", func := "lych/lychlaw12.CfgSame", spec := "cfgSame", unfollowed := true, recurses := true, apart := false }
def CfgSameSaid : Prop := cfgSameRow.holds Try.pinned (OpenSpec.ofChange cfgSameSpec)

/-- ITS FALSE NEIGHBOUR: 'it returns false'. Refute it at one input. -/
def cfgSameWrong : ChangeSpec := { name := "cfgSame", fn := fun _ => fun
  | [d1, d2] => { results := [.lit (.bool false)], args := [d1, d2] }
  | _ => none }
def CfgSameWrongFalsely : Prop := cfgSameRow.holds Try.pinned (OpenSpec.ofChange cfgSameWrong)

/-- 'lychlaw12.CfgCuts': WHATEVER THE INPUT: true; the input reads as it did. -/
def cfgCutsSpec : ChangeSpec := { name := "cfgCuts", fn := fun _ => fun
  | [d1, d2] => { results := [.lit (.bool true)], args := [d1, d2] }
  | _ => none }
def cfgCutsRow : OpenClaim := { program := "ytcnemhhbihhcfaa", sum := "05c701f8d6a344cb57369ecb26f23c405b943c9c00e3c4bcd93e04f5f279e383", func := "lych/lychlaw12.CfgCuts", spec := "cfgCuts", unfollowed := true, recurses := true, apart := false }
def CfgCutsSaid : Prop := cfgCutsRow.holds Try.pinned (OpenSpec.ofChange cfgCutsSpec)

/-- ITS FALSE NEIGHBOUR: 'it returns false'. Refute it at one input. -/
def cfgCutsWrong : ChangeSpec := { name := "cfgCuts", fn := fun _ => fun
  | [d1, d2] => { results := [.lit (.bool false)], args := [d1, d2] }
  | _ => none }
def CfgCutsWrongFalsely : Prop := cfgCutsRow.holds Try.pinned (OpenSpec.ofChange cfgCutsWrong)

/-- 'lychlaw12.CfgWrites': WHATEVER THE INPUT: true; the input reads as it did. -/
def cfgWritesSpec : ChangeSpec := { name := "cfgWrites", fn := fun _ => fun
  | [d1, d2] => { results := [.lit (.bool true)], args := [d1, d2] }
  | _ => none }
def cfgWritesRow : OpenClaim := { program := "ytcnemhhbihhcfaa", sum := "05c701f8d6a344cb57369ecb26f23c405b943c9c00e3c4bcd93e04f5f279e383", func := "lych/lychlaw12.CfgWrites", spec := "cfgWrites", unfollowed := true, recurses := true, apart := false }
def CfgWritesSaid : Prop := cfgWritesRow.holds Try.pinned (OpenSpec.ofChange cfgWritesSpec)

/-- ITS FALSE NEIGHBOUR: 'it returns false'. Refute it at one input. -/
def cfgWritesWrong : ChangeSpec := { name := "cfgWrites", fn := fun _ => fun
  | [d1, d2] => { results := [.lit (.bool false)], args := [d1, d2] }
  | _ => none }
def CfgWritesWrongFalsely : Prop := cfgWritesRow.holds Try.pinned (OpenSpec.ofChange cfgWritesWrong)

/-- 'lychlaw12.CfgParts': WHATEVER THE INPUT: true; the input reads as it did. -/
def cfgPartsSpec : ChangeSpec := { name := "cfgParts", fn := fun _ => fun
  | [d1, d2] => { results := [.lit (.bool true)], args := [d1, d2] }
  | _ => none }
def cfgPartsRow : OpenClaim := { program := "ytcnemhhbihhcfaa", sum := "05c701f8d6a344cb57369ecb26f23c405b943c9c00e3c4bcd93e04f5f279e383", func := "lych/lychlaw12.CfgParts", spec := "cfgParts", unfollowed := true, recurses := true, apart := false }
def CfgPartsSaid : Prop := cfgPartsRow.holds Try.pinned (OpenSpec.ofChange cfgPartsSpec)

/-- ITS FALSE NEIGHBOUR: 'it returns false'. Refute it at one input. -/
def cfgPartsWrong : ChangeSpec := { name := "cfgParts", fn := fun _ => fun
  | [d1, d2] => { results := [.lit (.bool false)], args := [d1, d2] }
  | _ => none }
def CfgPartsWrongFalsely : Prop := cfgPartsRow.holds Try.pinned (OpenSpec.ofChange cfgPartsWrong)

/-- 'lychlaw12.CfgReads': WHATEVER THE INPUT: true; the input reads as it did. -/
def cfgReadsSpec : ChangeSpec := { name := "cfgReads", fn := fun _ => fun
  | [d] => { results := [.lit (.bool true)], args := [d] }
  | _ => none }
def cfgReadsRow : OpenClaim := { program := "ytcnemhhbihhcfaa", sum := "05c701f8d6a344cb57369ecb26f23c405b943c9c00e3c4bcd93e04f5f279e383", func := "lych/lychlaw12.CfgReads", spec := "cfgReads", unfollowed := true, recurses := true, apart := false }
def CfgReadsSaid : Prop := cfgReadsRow.holds Try.pinned (OpenSpec.ofChange cfgReadsSpec)

/-- ITS FALSE NEIGHBOUR: 'it returns false'. Refute it at one input. -/
def cfgReadsWrong : ChangeSpec := { name := "cfgReads", fn := fun _ => fun
  | [d] => { results := [.lit (.bool false)], args := [d] }
  | _ => none }
def CfgReadsWrongFalsely : Prop := cfgReadsRow.holds Try.pinned (OpenSpec.ofChange cfgReadsWrong)

/-- 'lychlaw12.CfgBack': WHATEVER THE INPUT: true; the input reads as it did. -/
def cfgBackSpec : ChangeSpec := { name := "cfgBack", fn := fun _ => fun
  | [d1, d2, d3] => { results := [.lit (.bool true)], args := [d1, d2, d3] }
  | _ => none }
def cfgBackRow : OpenClaim := { program := "ytcnemhhbihhcfaa", sum := "05c701f8d6a344cb57369ecb26f23c405b943c9c00e3c4bcd93e04f5f279e383", func := "lych/lychlaw12.CfgBack", spec := "cfgBack", unfollowed := true, recurses := true, apart := false }
def CfgBackSaid : Prop := cfgBackRow.holds Try.pinned (OpenSpec.ofChange cfgBackSpec)

/-- ITS FALSE NEIGHBOUR: 'it returns false'. Refute it at one input. -/
def cfgBackWrong : ChangeSpec := { name := "cfgBack", fn := fun _ => fun
  | [d1, d2, d3] => { results := [.lit (.bool false)], args := [d1, d2, d3] }
  | _ => none }
def CfgBackWrongFalsely : Prop := cfgBackRow.holds Try.pinned (OpenSpec.ofChange cfgBackWrong)

/- THE SECOND FORM. 'bulk': how many values and letters a reading holds, each counted each time it is reached (what is shared counts as often as it is met; a slice's spare places count too). A statement '..UptoSaid' is the law's where the arguments, and the package variables that the reading takes, are together of bulk at most 1048576: NARROWER than '..Said'. Prove '..Said' where nothing that the law and all that it calls make is longer than what came in: it says more and counts as full. Else prove '..UptoSaid'. A law counts once. -/
mutual
def uptoBulk {H : Type} : DataW H → Nat
  | .lit (.string bytes) => bytes.length + 1
  | .lit _ => 1
  | .nil => 1
  | .ptr d => uptoBulk d + 1
  | .slice elems spare => uptoBulkAll elems + uptoBulkAll spare + 1
  | .agg parts => uptoBulkAll parts + 1
  | .iface _ d => uptoBulk d + 1
  | .map entries => uptoBulkEntries entries + 1
  | .held _ => 1
def uptoBulkAll {H : Type} : List (DataW H) → Nat
  | [] => 0
  | d :: r => uptoBulk d + uptoBulkAll r
def uptoBulkEntries {H : Type} : List (Lit × DataW H) → Nat
  | [] => 0
  | x :: r => uptoBulkEntry x + uptoBulkEntries r
def uptoBulkEntry {H : Type} : Lit × DataW H → Nat
  | (.string bytes, d) => bytes.length + uptoBulk d + 1
  | (_, d) => uptoBulk d + 1
 end
def uptoSmall : (H : Type) → List (DataW H) → Bool := fun _ ds => decide (uptoBulkAll ds ≤ 1048576)
def OpenSpec.upto (s : _root_.Go.ChangeSpec) : _root_.Go.OpenSpec := { _root_.Go.OpenSpec.ofChange s with cond := some uptoSmall }

/-- 'lychlaw12.CfgSame', WHERE WHAT IT READS IS OF BULK AT MOST 1048576: true; the input reads as it did. -/
def cfgSameUptoRow : OpenClaim := { program := "ytcnemhhbihhcfaa", sum := "05c701f8d6a344cb57369ecb26f23c405b943c9c00e3c4bcd93e04f5f279e383", func := "lych/lychlaw12.CfgSame", spec := "cfgSame", unfollowed := true, recurses := true, apart := false, narrowed := true }
def CfgSameUptoSaid : Prop := cfgSameUptoRow.holds Try.pinned (OpenSpec.upto cfgSameSpec)

/-- 'lychlaw12.CfgCuts', WHERE WHAT IT READS IS OF BULK AT MOST 1048576: true; the input reads as it did. -/
def cfgCutsUptoRow : OpenClaim := { program := "ytcnemhhbihhcfaa", sum := "05c701f8d6a344cb57369ecb26f23c405b943c9c00e3c4bcd93e04f5f279e383", func := "lych/lychlaw12.CfgCuts", spec := "cfgCuts", unfollowed := true, recurses := true, apart := false, narrowed := true }
def CfgCutsUptoSaid : Prop := cfgCutsUptoRow.holds Try.pinned (OpenSpec.upto cfgCutsSpec)

/-- 'lychlaw12.CfgWrites', WHERE WHAT IT READS IS OF BULK AT MOST 1048576: true; the input reads as it did. -/
def cfgWritesUptoRow : OpenClaim := { program := "ytcnemhhbihhcfaa", sum := "05c701f8d6a344cb57369ecb26f23c405b943c9c00e3c4bcd93e04f5f279e383", func := "lych/lychlaw12.CfgWrites", spec := "cfgWrites", unfollowed := true, recurses := true, apart := false, narrowed := true }
def CfgWritesUptoSaid : Prop := cfgWritesUptoRow.holds Try.pinned (OpenSpec.upto cfgWritesSpec)

/-- 'lychlaw12.CfgParts', WHERE WHAT IT READS IS OF BULK AT MOST 1048576: true; the input reads as it did. -/
def cfgPartsUptoRow : OpenClaim := { program := "ytcnemhhbihhcfaa", sum := "05c701f8d6a344cb57369ecb26f23c405b943c9c00e3c4bcd93e04f5f279e383", func := "lych/lychlaw12.CfgParts", spec := "cfgParts", unfollowed := true, recurses := true, apart := false, narrowed := true }
def CfgPartsUptoSaid : Prop := cfgPartsUptoRow.holds Try.pinned (OpenSpec.upto cfgPartsSpec)

/-- 'lychlaw12.CfgReads', WHERE WHAT IT READS IS OF BULK AT MOST 1048576: true; the input reads as it did. -/
def cfgReadsUptoRow : OpenClaim := { program := "ytcnemhhbihhcfaa", sum := "05c701f8d6a344cb57369ecb26f23c405b943c9c00e3c4bcd93e04f5f279e383", func := "lych/lychlaw12.CfgReads", spec := "cfgReads", unfollowed := true, recurses := true, apart := false, narrowed := true }
def CfgReadsUptoSaid : Prop := cfgReadsUptoRow.holds Try.pinned (OpenSpec.upto cfgReadsSpec)

/-- 'lychlaw12.CfgBack', WHERE WHAT IT READS IS OF BULK AT MOST 1048576: true; the input reads as it did. -/
def cfgBackUptoRow : OpenClaim := { program := "ytcnemhhbihhcfaa", sum := "05c701f8d6a344cb57369ecb26f23c405b943c9c00e3c4bcd93e04f5f279e383", func := "lych/lychlaw12.CfgBack", spec := "cfgBack", unfollowed := true, recurses := true, apart := false, narrowed := true }
def CfgBackUptoSaid : Prop := cfgBackUptoRow.holds Try.pinned (OpenSpec.upto cfgBackSpec)

end Rows
end Go.Proofs.Ytcnemhhbihhcfaa
