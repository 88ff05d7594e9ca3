/-
  NARROWER THAN 'FOR EVERY INPUT', by the rows' own cells (each row's printed sentence says how): ValidOwns: laid · ValidApart: laid · ValidBounds: laid · ValidOrder: laid · ValidClaims: laid · ValidChecks: laid.
  DERIVED. THE GIVEN ROWS OF THIS SEAT. 6 by the template 'for every input the law returns true; each argument reads behind the call as it read before'; 0 by the template 'total and deterministic' (their statements: YtfpfpeachmcfeaaDoorTotals.lean).
  GIVEN WITH THE SEED: the statements are not yours to turn. If you find one false, say at which input.
  Laid BY PROGRAM, IN A SANDBOX (cutbox-rows.mjs): the forced cells as the released guide's own fill.sh prints them over the translation 9fc44bd2743dc4e8… (all of the seat's roots in one cut). By AI agents, Wed Nov 11 2026. No macro, syntax, notation, axiom, sorry.
-/
import Derived.Test.YtfpfpeachmcfeaaDoorChecked
import GoSem.PinnedTables
import GoSem.Claim
import GoSem.ClaimJoined
import GoSem.ClaimMapViews
import Derived.JoinedTies
import Derived.KernelRfl
namespace Go.Proofs.YtfpfpeachmcfeaaDoor
/- THE CELL 'sum', in the pinned program and in every row, IS THE sha256 OF THE DUMP (.gsa) THAT YtfpfpeachmcfeaaDoorProg.lean LOADS. Nothing in Lean hashes anything: it is a label: what it is worth is what the hold of that sum in a sandbox is worth. -/
noncomputable def Tryd.pinned : Pinned := { name := "ytfpfpeachmcfeaadoor", sum := "9fc44bd2743dc4e83271339778d6c178bbde5a5ea55d95808fca7322cdcf4732", checked := Tryd.checked }
namespace Rows
def none {H : Type} : Left H := { results := [], args := [] }

/- WHAT THE LISTED PACKAGE-LEVEL VARIABLES READ AS WHEN THE CALL BEGINS. Each datum BY PROGRAM (the guide's laid-datum.mjs) off the statement by which the dump's own 'gosem.cut.vars' lays the variable. In a bare row this is a premise. The card (YtfpfpeachmcfeaaDoorCards.lean) ties it to the program's text. -/
def laid_unicode_utf8_acceptRanges {H : Type} : DataW H := .agg [.agg [.lit (.int .u8 128), .lit (.int .u8 191)], .agg [.lit (.int .u8 160), .lit (.int .u8 191)], .agg [.lit (.int .u8 128), .lit (.int .u8 159)], .agg [.lit (.int .u8 144), .lit (.int .u8 191)], .agg [.lit (.int .u8 128), .lit (.int .u8 143)], .agg [.lit (.int .u8 0), .lit (.int .u8 0)], .agg [.lit (.int .u8 0), .lit (.int .u8 0)], .agg [.lit (.int .u8 0), .lit (.int .u8 0)], .agg [.lit (.int .u8 0), .lit (.int .u8 0)], .agg [.lit (.int .u8 0), .lit (.int .u8 0)], .agg [.lit (.int .u8 0), .lit (.int .u8 0)], .agg [.lit (.int .u8 0), .lit (.int .u8 0)], .agg [.lit (.int .u8 0), .lit (.int .u8 0)], .agg [.lit (.int .u8 0), .lit (.int .u8 0)], .agg [.lit (.int .u8 0), .lit (.int .u8 0)], .agg [.lit (.int .u8 0), .lit (.int .u8 0)]]
/-- One of Go's own tables, pinned by name: the form's constant. -/
def laid_unicode_utf8_first : DataW Unit := Go.Pinned.utf8First

/-- 'lychlaw14.ValidOwns': WHATEVER THE INPUT: true; the input reads as it did. -/
def validOwnsSpec : ChangeSpec := { name := "validOwns", fn := fun _ => fun
  | [d1, d2, d3] => { results := [.lit (.bool true)], args := [d1, d2, d3] }
  | _ => none }
def validOwnsRow : OpenClaim := { program := "ytfpfpeachmcfeaadoor", sum := "9fc44bd2743dc4e83271339778d6c178bbde5a5ea55d95808fca7322cdcf4732", func := "lych/lychlaw14.ValidOwns", spec := "validOwns", unfollowed := true, recurses := true, named := ["unicode/utf8.first", "unicode/utf8.acceptRanges"], apart := false, laid := [("unicode/utf8.acceptRanges", laid_unicode_utf8_acceptRanges), ("unicode/utf8.first", laid_unicode_utf8_first)] }
def ValidOwnsSaid : Prop := validOwnsRow.holds Tryd.pinned (OpenSpec.ofChange validOwnsSpec)

/-- ITS FALSE NEIGHBOUR: 'it returns false'. Refute it at one input. -/
def validOwnsWrong : ChangeSpec := { name := "validOwns", fn := fun _ => fun
  | [d1, d2, d3] => { results := [.lit (.bool false)], args := [d1, d2, d3] }
  | _ => none }
def ValidOwnsWrongFalsely : Prop := validOwnsRow.holds Tryd.pinned (OpenSpec.ofChange validOwnsWrong)

/-- 'lychlaw14.ValidApart': WHATEVER THE INPUT: true; the input reads as it did. -/
def validApartSpec : ChangeSpec := { name := "validApart", fn := fun _ => fun
  | [d] => { results := [.lit (.bool true)], args := [d] }
  | _ => none }
def validApartRow : OpenClaim := { program := "ytfpfpeachmcfeaadoor", sum := "9fc44bd2743dc4e83271339778d6c178bbde5a5ea55d95808fca7322cdcf4732", func := "lych/lychlaw14.ValidApart", spec := "validApart", unfollowed := true, recurses := true, named := ["unicode/utf8.first", "unicode/utf8.acceptRanges"], apart := false, laid := [("unicode/utf8.acceptRanges", laid_unicode_utf8_acceptRanges), ("unicode/utf8.first", laid_unicode_utf8_first)] }
def ValidApartSaid : Prop := validApartRow.holds Tryd.pinned (OpenSpec.ofChange validApartSpec)

/-- ITS FALSE NEIGHBOUR: 'it returns false'. Refute it at one input. -/
def validApartWrong : ChangeSpec := { name := "validApart", fn := fun _ => fun
  | [d] => { results := [.lit (.bool false)], args := [d] }
  | _ => none }
def ValidApartWrongFalsely : Prop := validApartRow.holds Tryd.pinned (OpenSpec.ofChange validApartWrong)

/-- 'lychlaw14.ValidBounds': WHATEVER THE INPUT: true; the input reads as it did. -/
def validBoundsSpec : ChangeSpec := { name := "validBounds", fn := fun _ => fun
  | [d1, d2] => { results := [.lit (.bool true)], args := [d1, d2] }
  | _ => none }
def validBoundsRow : OpenClaim := { program := "ytfpfpeachmcfeaadoor", sum := "9fc44bd2743dc4e83271339778d6c178bbde5a5ea55d95808fca7322cdcf4732", func := "lych/lychlaw14.ValidBounds", spec := "validBounds", unfollowed := true, recurses := true, named := ["unicode/utf8.first", "unicode/utf8.acceptRanges"], apart := false, laid := [("unicode/utf8.acceptRanges", laid_unicode_utf8_acceptRanges), ("unicode/utf8.first", laid_unicode_utf8_first)] }
def ValidBoundsSaid : Prop := validBoundsRow.holds Tryd.pinned (OpenSpec.ofChange validBoundsSpec)

/-- ITS FALSE NEIGHBOUR: 'it returns false'. Refute it at one input. -/
def validBoundsWrong : ChangeSpec := { name := "validBounds", fn := fun _ => fun
  | [d1, d2] => { results := [.lit (.bool false)], args := [d1, d2] }
  | _ => none }
def ValidBoundsWrongFalsely : Prop := validBoundsRow.holds Tryd.pinned (OpenSpec.ofChange validBoundsWrong)

/-- 'lychlaw14.ValidOrder': WHATEVER THE INPUT: true; the input reads as it did. -/
def validOrderSpec : ChangeSpec := { name := "validOrder", fn := fun _ => fun
  | [d1, d2, d3] => { results := [.lit (.bool true)], args := [d1, d2, d3] }
  | _ => none }
def validOrderRow : OpenClaim := { program := "ytfpfpeachmcfeaadoor", sum := "9fc44bd2743dc4e83271339778d6c178bbde5a5ea55d95808fca7322cdcf4732", func := "lych/lychlaw14.ValidOrder", spec := "validOrder", unfollowed := true, recurses := true, named := ["unicode/utf8.first", "unicode/utf8.acceptRanges"], apart := false, laid := [("unicode/utf8.acceptRanges", laid_unicode_utf8_acceptRanges), ("unicode/utf8.first", laid_unicode_utf8_first)] }
def ValidOrderSaid : Prop := validOrderRow.holds Tryd.pinned (OpenSpec.ofChange validOrderSpec)

/-- ITS FALSE NEIGHBOUR: 'it returns false'. Refute it at one input. -/
def validOrderWrong : ChangeSpec := { name := "validOrder", fn := fun _ => fun
  | [d1, d2, d3] => { results := [.lit (.bool false)], args := [d1, d2, d3] }
  | _ => none }
def ValidOrderWrongFalsely : Prop := validOrderRow.holds Tryd.pinned (OpenSpec.ofChange validOrderWrong)

/-- 'lychlaw14.ValidClaims': WHATEVER THE INPUT: true; the input reads as it did. -/
def validClaimsSpec : ChangeSpec := { name := "validClaims", fn := fun _ => fun
  | [d1, d2, d3] => { results := [.lit (.bool true)], args := [d1, d2, d3] }
  | _ => none }
def validClaimsRow : OpenClaim := { program := "ytfpfpeachmcfeaadoor", sum := "9fc44bd2743dc4e83271339778d6c178bbde5a5ea55d95808fca7322cdcf4732", func := "lych/lychlaw14.ValidClaims", spec := "validClaims", unfollowed := true, recurses := true, named := ["unicode/utf8.first", "unicode/utf8.acceptRanges"], apart := false, laid := [("unicode/utf8.acceptRanges", laid_unicode_utf8_acceptRanges), ("unicode/utf8.first", laid_unicode_utf8_first)] }
def ValidClaimsSaid : Prop := validClaimsRow.holds Tryd.pinned (OpenSpec.ofChange validClaimsSpec)

/-- ITS FALSE NEIGHBOUR: 'it returns false'. Refute it at one input. -/
def validClaimsWrong : ChangeSpec := { name := "validClaims", fn := fun _ => fun
  | [d1, d2, d3] => { results := [.lit (.bool false)], args := [d1, d2, d3] }
  | _ => none }
def ValidClaimsWrongFalsely : Prop := validClaimsRow.holds Tryd.pinned (OpenSpec.ofChange validClaimsWrong)

/-- 'lychlaw14.ValidChecks': WHATEVER THE INPUT: true; the input reads as it did. -/
def validChecksSpec : ChangeSpec := { name := "validChecks", fn := fun _ => fun
  | [d] => { results := [.lit (.bool true)], args := [d] }
  | _ => none }
def validChecksRow : OpenClaim := { program := "ytfpfpeachmcfeaadoor", sum := "9fc44bd2743dc4e83271339778d6c178bbde5a5ea55d95808fca7322cdcf4732", func := "lych/lychlaw14.ValidChecks", spec := "validChecks", unfollowed := true, recurses := true, named := ["unicode/utf8.first", "unicode/utf8.acceptRanges"], apart := false, laid := [("unicode/utf8.acceptRanges", laid_unicode_utf8_acceptRanges), ("unicode/utf8.first", laid_unicode_utf8_first)] }
def ValidChecksSaid : Prop := validChecksRow.holds Tryd.pinned (OpenSpec.ofChange validChecksSpec)

/-- ITS FALSE NEIGHBOUR: 'it returns false'. Refute it at one input. -/
def validChecksWrong : ChangeSpec := { name := "validChecks", fn := fun _ => fun
  | [d] => { results := [.lit (.bool false)], args := [d] }
  | _ => none }
def ValidChecksWrongFalsely : Prop := validChecksRow.holds Tryd.pinned (OpenSpec.ofChange validChecksWrong)

/- THE SECOND FORM. 'bulk': how many values and letters a reading holds, each counted each time it is reached (what is shared counts as often as it is met; a slice's spare places count too). A statement '..UptoSaid' is the law's where the arguments, and the package variables that the reading takes, are together of bulk at most 1048576: NARROWER than '..Said'. Prove '..Said' where nothing that the law and all that it calls make is longer than what came in: it says more and counts as full. Else prove '..UptoSaid'. A law counts once. -/
mutual
def uptoBulk {H : Type} : DataW H → Nat
  | .lit (.string bytes) => bytes.length + 1
  | .lit _ => 1
  | .nil => 1
  | .ptr d => uptoBulk d + 1
  | .slice elems spare => uptoBulkAll elems + uptoBulkAll spare + 1
  | .agg parts => uptoBulkAll parts + 1
  | .iface _ d => uptoBulk d + 1
  | .map entries => uptoBulkEntries entries + 1
  | .held _ => 1
def uptoBulkAll {H : Type} : List (DataW H) → Nat
  | [] => 0
  | d :: r => uptoBulk d + uptoBulkAll r
def uptoBulkEntries {H : Type} : List (Lit × DataW H) → Nat
  | [] => 0
  | x :: r => uptoBulkEntry x + uptoBulkEntries r
def uptoBulkEntry {H : Type} : Lit × DataW H → Nat
  | (.string bytes, d) => bytes.length + uptoBulk d + 1
  | (_, d) => uptoBulk d + 1
 end
def uptoSmall : (H : Type) → List (DataW H) → Bool := fun _ ds => decide (uptoBulkAll ds ≤ 1048576)
def OpenSpec.upto (s : _root_.Go.ChangeSpec) : _root_.Go.OpenSpec := { _root_.Go.OpenSpec.ofChange s with cond := some uptoSmall }

/-- 'lychlaw14.ValidOwns', WHERE WHAT IT READS IS OF BULK AT MOST 1048576: true; the input reads as it did. -/
def validOwnsUptoRow : OpenClaim := { program := "ytfpfpeachmcfeaadoor", sum := "9fc44bd2743dc4e83271339778d6c178bbde5a5ea55d95808fca7322cdcf4732", func := "lych/lychlaw14.ValidOwns", spec := "validOwns", unfollowed := true, recurses := true, named := ["unicode/utf8.first", "unicode/utf8.acceptRanges"], apart := false, laid := [("unicode/utf8.acceptRanges", laid_unicode_utf8_acceptRanges), ("unicode/utf8.first", laid_unicode_utf8_first)], narrowed := true }
def ValidOwnsUptoSaid : Prop := validOwnsUptoRow.holds Tryd.pinned (OpenSpec.upto validOwnsSpec)

/-- 'lychlaw14.ValidApart', WHERE WHAT IT READS IS OF BULK AT MOST 1048576: true; the input reads as it did. -/
def validApartUptoRow : OpenClaim := { program := "ytfpfpeachmcfeaadoor", sum := "9fc44bd2743dc4e83271339778d6c178bbde5a5ea55d95808fca7322cdcf4732", func := "lych/lychlaw14.ValidApart", spec := "validApart", unfollowed := true, recurses := true, named := ["unicode/utf8.first", "unicode/utf8.acceptRanges"], apart := false, laid := [("unicode/utf8.acceptRanges", laid_unicode_utf8_acceptRanges), ("unicode/utf8.first", laid_unicode_utf8_first)], narrowed := true }
def ValidApartUptoSaid : Prop := validApartUptoRow.holds Tryd.pinned (OpenSpec.upto validApartSpec)

/-- 'lychlaw14.ValidBounds', WHERE WHAT IT READS IS OF BULK AT MOST 1048576: true; the input reads as it did. -/
def validBoundsUptoRow : OpenClaim := { program := "ytfpfpeachmcfeaadoor", sum := "9fc44bd2743dc4e83271339778d6c178bbde5a5ea55d95808fca7322cdcf4732", func := "lych/lychlaw14.ValidBounds", spec := "validBounds", unfollowed := true, recurses := true, named := ["unicode/utf8.first", "unicode/utf8.acceptRanges"], apart := false, laid := [("unicode/utf8.acceptRanges", laid_unicode_utf8_acceptRanges), ("unicode/utf8.first", laid_unicode_utf8_first)], narrowed := true }
def ValidBoundsUptoSaid : Prop := validBoundsUptoRow.holds Tryd.pinned (OpenSpec.upto validBoundsSpec)

/-- 'lychlaw14.ValidOrder', WHERE WHAT IT READS IS OF BULK AT MOST 1048576: true; the input reads as it did. -/
def validOrderUptoRow : OpenClaim := { program := "ytfpfpeachmcfeaadoor", sum := "9fc44bd2743dc4e83271339778d6c178bbde5a5ea55d95808fca7322cdcf4732", func := "lych/lychlaw14.ValidOrder", spec := "validOrder", unfollowed := true, recurses := true, named := ["unicode/utf8.first", "unicode/utf8.acceptRanges"], apart := false, laid := [("unicode/utf8.acceptRanges", laid_unicode_utf8_acceptRanges), ("unicode/utf8.first", laid_unicode_utf8_first)], narrowed := true }
def ValidOrderUptoSaid : Prop := validOrderUptoRow.holds Tryd.pinned (OpenSpec.upto validOrderSpec)

/-- 'lychlaw14.ValidClaims', WHERE WHAT IT READS IS OF BULK AT MOST 1048576: true; the input reads as it did. -/
def validClaimsUptoRow : OpenClaim := { program := "ytfpfpeachmcfeaadoor", sum := "9fc44bd2743dc4e83271339778d6c178bbde5a5ea55d95808fca7322cdcf4732", func := "lych/lychlaw14.ValidClaims", spec := "validClaims", unfollowed := true, recurses := true, named := ["unicode/utf8.first", "unicode/utf8.acceptRanges"], apart := false, laid := [("unicode/utf8.acceptRanges", laid_unicode_utf8_acceptRanges), ("unicode/utf8.first", laid_unicode_utf8_first)], narrowed := true }
def ValidClaimsUptoSaid : Prop := validClaimsUptoRow.holds Tryd.pinned (OpenSpec.upto validClaimsSpec)

/-- 'lychlaw14.ValidChecks', WHERE WHAT IT READS IS OF BULK AT MOST 1048576: true; the input reads as it did. -/
def validChecksUptoRow : OpenClaim := { program := "ytfpfpeachmcfeaadoor", sum := "9fc44bd2743dc4e83271339778d6c178bbde5a5ea55d95808fca7322cdcf4732", func := "lych/lychlaw14.ValidChecks", spec := "validChecks", unfollowed := true, recurses := true, named := ["unicode/utf8.first", "unicode/utf8.acceptRanges"], apart := false, laid := [("unicode/utf8.acceptRanges", laid_unicode_utf8_acceptRanges), ("unicode/utf8.first", laid_unicode_utf8_first)], narrowed := true }
def ValidChecksUptoSaid : Prop := validChecksUptoRow.holds Tryd.pinned (OpenSpec.upto validChecksSpec)

end Rows
end Go.Proofs.YtfpfpeachmcfeaaDoor
