/-
  No cell of these rows narrows 'for every input' (looked for: loops, veiled, ifaces, maps, wideKeys, modest, calm, conditions, laid).
  DERIVED. THE GIVEN ROWS OF THIS SEAT. 3 by the template 'for every input the law returns true; each argument reads behind the call as it read before'; 0 by the template 'total and deterministic' (their statements: YtpkieilmlnlpkaaTotals.lean).
  GIVEN WITH THE SEED: the statements are not yours to turn. If you find one false, say at which input.
  Laid BY PROGRAM, IN A SANDBOX (cutbox-rows.mjs): the forced cells as the released guide's own fill.sh prints them over the translation 4d680428c68afe38… (all of the seat's roots in one cut). By AI agents, Wed Nov 11 2026. No macro, syntax, notation, axiom, sorry.
-/
import Derived.Test.YtpkieilmlnlpkaaChecked
import GoSem.Claim
import GoSem.ClaimJoined
import GoSem.ClaimMapViews
import Derived.JoinedTies
import Derived.KernelRfl
namespace Go.Proofs.Ytpkieilmlnlpkaa
/- THE CELL 'sum', in the pinned program and in every row, IS THE sha256 OF THE DUMP (.gsa) THAT YtpkieilmlnlpkaaProg.lean LOADS. Nothing in Lean hashes anything: it is a label: what it is worth is what the hold of that sum in a sandbox is worth. -/
noncomputable def Try.pinned : Pinned := { name := "ytpkieilmlnlpkaa", sum := "4d680428c68afe383685a8bb03b77725ecf7ca590a9aa62492e3e9db3ad709ed", checked := Try.checked }
namespace Rows
def none {H : Type} : Left H := { results := [], args := [] }

/-- 'lychlaw24.MgmtReads': WHATEVER THE INPUT: true; the input reads as it did. -/
def mgmtReadsSpec : ChangeSpec := { name := "mgmtReads", fn := fun _ => fun
  | [d] => { results := [.lit (.bool true)], args := [d] }
  | _ => none }
def mgmtReadsRow : OpenClaim := { program := "ytpkieilmlnlpkaa", sum := "4d680428c68afe383685a8bb03b77725ecf7ca590a9aa62492e3e9db3ad709ed", func := "lych/lychlaw24.MgmtReads", spec := "mgmtReads", unfollowed := true, recurses := true, apart := false }
def MgmtReadsSaid : Prop := mgmtReadsRow.holds Try.pinned (OpenSpec.ofChange mgmtReadsSpec)

/-- ITS FALSE NEIGHBOUR: 'it returns false'. Refute it at one input. -/
def mgmtReadsWrong : ChangeSpec := { name := "mgmtReads", fn := fun _ => fun
  | [d] => { results := [.lit (.bool false)], args := [d] }
  | _ => none }
def MgmtReadsWrongFalsely : Prop := mgmtReadsRow.holds Try.pinned (OpenSpec.ofChange mgmtReadsWrong)

/-- 'lychlaw24.MgmtReplies': WHATEVER THE INPUT: true; the input reads as it did. -/
def mgmtRepliesSpec : ChangeSpec := { name := "mgmtReplies", fn := fun _ => fun
  | [d1, d2] => { results := [.lit (.bool true)], args := [d1, d2] }
  | _ => none }
def mgmtRepliesRow : OpenClaim := { program := "ytpkieilmlnlpkaa", sum := "4d680428c68afe383685a8bb03b77725ecf7ca590a9aa62492e3e9db3ad709ed", func := "lych/lychlaw24.MgmtReplies", spec := "mgmtReplies", unfollowed := true, recurses := true, apart := false }
def MgmtRepliesSaid : Prop := mgmtRepliesRow.holds Try.pinned (OpenSpec.ofChange mgmtRepliesSpec)

/-- ITS FALSE NEIGHBOUR: 'it returns false'. Refute it at one input. -/
def mgmtRepliesWrong : ChangeSpec := { name := "mgmtReplies", fn := fun _ => fun
  | [d1, d2] => { results := [.lit (.bool false)], args := [d1, d2] }
  | _ => none }
def MgmtRepliesWrongFalsely : Prop := mgmtRepliesRow.holds Try.pinned (OpenSpec.ofChange mgmtRepliesWrong)

/-- 'lychlaw24.MgmtCuts': WHATEVER THE INPUT: true; the input reads as it did. -/
def mgmtCutsSpec : ChangeSpec := { name := "mgmtCuts", fn := fun _ => fun
  | [d1, d2, d3, d4] => { results := [.lit (.bool true)], args := [d1, d2, d3, d4] }
  | _ => none }
def mgmtCutsRow : OpenClaim := { program := "ytpkieilmlnlpkaa", sum := "4d680428c68afe383685a8bb03b77725ecf7ca590a9aa62492e3e9db3ad709ed", func := "lych/lychlaw24.MgmtCuts", spec := "mgmtCuts", unfollowed := true, recurses := true, apart := false }
def MgmtCutsSaid : Prop := mgmtCutsRow.holds Try.pinned (OpenSpec.ofChange mgmtCutsSpec)

/-- ITS FALSE NEIGHBOUR: 'it returns false'. Refute it at one input. -/
def mgmtCutsWrong : ChangeSpec := { name := "mgmtCuts", fn := fun _ => fun
  | [d1, d2, d3, d4] => { results := [.lit (.bool false)], args := [d1, d2, d3, d4] }
  | _ => none }
def MgmtCutsWrongFalsely : Prop := mgmtCutsRow.holds Try.pinned (OpenSpec.ofChange mgmtCutsWrong)

/- THE SECOND FORM. 'bulk': how many values and letters a reading holds, each counted each time it is reached (what is shared counts as often as it is met; a slice's spare places count too). A statement '..UptoSaid' is the law's where the arguments, and the package variables that the reading takes, are together of bulk at most 1048576: NARROWER than '..Said'. Prove '..Said' where nothing that the law and all that it calls make is longer than what came in: it says more and counts as full. Else prove '..UptoSaid'. A law counts once. -/
mutual
def uptoBulk {H : Type} : DataW H → Nat
  | .lit (.string bytes) => bytes.length + 1
  | .lit _ => 1
  | .nil => 1
  | .ptr d => uptoBulk d + 1
  | .slice elems spare => uptoBulkAll elems + uptoBulkAll spare + 1
  | .agg parts => uptoBulkAll parts + 1
  | .iface _ d => uptoBulk d + 1
  | .map entries => uptoBulkEntries entries + 1
  | .held _ => 1
def uptoBulkAll {H : Type} : List (DataW H) → Nat
  | [] => 0
  | d :: r => uptoBulk d + uptoBulkAll r
def uptoBulkEntries {H : Type} : List (Lit × DataW H) → Nat
  | [] => 0
  | x :: r => uptoBulkEntry x + uptoBulkEntries r
def uptoBulkEntry {H : Type} : Lit × DataW H → Nat
  | (.string bytes, d) => bytes.length + uptoBulk d + 1
  | (_, d) => uptoBulk d + 1
 end
def uptoSmall : (H : Type) → List (DataW H) → Bool := fun _ ds => decide (uptoBulkAll ds ≤ 1048576)
def OpenSpec.upto (s : _root_.Go.ChangeSpec) : _root_.Go.OpenSpec := { _root_.Go.OpenSpec.ofChange s with cond := some uptoSmall }

/-- 'lychlaw24.MgmtReads', WHERE WHAT IT READS IS OF BULK AT MOST 1048576: true; the input reads as it did. -/
def mgmtReadsUptoRow : OpenClaim := { program := "ytpkieilmlnlpkaa", sum := "4d680428c68afe383685a8bb03b77725ecf7ca590a9aa62492e3e9db3ad709ed", func := "lych/lychlaw24.MgmtReads", spec := "mgmtReads", unfollowed := true, recurses := true, apart := false, narrowed := true }
def MgmtReadsUptoSaid : Prop := mgmtReadsUptoRow.holds Try.pinned (OpenSpec.upto mgmtReadsSpec)

/-- 'lychlaw24.MgmtReplies', WHERE WHAT IT READS IS OF BULK AT MOST 1048576: true; the input reads as it did. -/
def mgmtRepliesUptoRow : OpenClaim := { program := "ytpkieilmlnlpkaa", sum := "4d680428c68afe383685a8bb03b77725ecf7ca590a9aa62492e3e9db3ad709ed", func := "lych/lychlaw24.MgmtReplies", spec := "mgmtReplies", unfollowed := true, recurses := true, apart := false, narrowed := true }
def MgmtRepliesUptoSaid : Prop := mgmtRepliesUptoRow.holds Try.pinned (OpenSpec.upto mgmtRepliesSpec)

/-- 'lychlaw24.MgmtCuts', WHERE WHAT IT READS IS OF BULK AT MOST 1048576: true; the input reads as it did. -/
def mgmtCutsUptoRow : OpenClaim := { program := "ytpkieilmlnlpkaa", sum := "4d680428c68afe383685a8bb03b77725ecf7ca590a9aa62492e3e9db3ad709ed", func := "lych/lychlaw24.MgmtCuts", spec := "mgmtCuts", unfollowed := true, recurses := true, apart := false, narrowed := true }
def MgmtCutsUptoSaid : Prop := mgmtCutsUptoRow.holds Try.pinned (OpenSpec.upto mgmtCutsSpec)

end Rows
end Go.Proofs.Ytpkieilmlnlpkaa
