/-
  No cell of these rows narrows 'for every input' (looked for: loops, veiled, ifaces, maps, wideKeys, modest, calm, conditions, laid).
  DERIVED. THE GIVEN ROWS OF THIS SEAT. 6 by the template 'for every input the law returns true; each argument reads behind the call as it read before'; 0 by the template 'total and deterministic' (their statements: YtdndagjpikdolaaTotals.lean).
  GIVEN WITH THE SEED: the statements are not yours to turn. If you find one false, say at which input.
  Laid BY PROGRAM, IN A SANDBOX (cutbox-rows.mjs): the forced cells as the released guide's own fill.sh prints them over the translation bc512db7f8b9ed71… (all of the seat's roots in one cut). By AI agents, Wed Nov 11 2026. No macro, syntax, notation, axiom, sorry.
-/
import Derived.Test.YtdndagjpikdolaaChecked
import GoSem.Claim
import GoSem.ClaimJoined
import GoSem.ClaimMapViews
import Derived.JoinedTies
import Derived.KernelRfl
namespace Go.Proofs.Ytdndagjpikdolaa
/- THE CELL 'sum', in the pinned program and in every row, IS THE sha256 OF THE DUMP (.gsa) THAT YtdndagjpikdolaaProg.lean LOADS. Nothing in Lean hashes anything: it is a label: what it is worth is what the hold of that sum in a sandbox is worth. -/
noncomputable def Try.pinned : Pinned := { name := "ytdndagjpikdolaa", sum := "bc512db7f8b9ed716240a17014267ad257e5fbfbbe383cb06c621bf4d1e2110a", checked := Try.checked }
namespace Rows
def none {H : Type} : Left H := { results := [], args := [] }

/-- 'lychlaw19.SessSteps': WHATEVER THE INPUT: true; the input reads as it did. -/
def sessStepsSpec : ChangeSpec := { name := "sessSteps", fn := fun _ => fun
  | [d1, d2, d3, d4, d5] => { results := [.lit (.bool true)], args := [d1, d2, d3, d4, d5] }
  | _ => none }
def sessStepsRow : OpenClaim := { program := "ytdndagjpikdolaa", sum := "bc512db7f8b9ed716240a17014267ad257e5fbfbbe383cb06c621bf4d1e2110a", func := "lych/lychlaw19.SessSteps", spec := "sessSteps", unfollowed := true, recurses := true, plainKeys := false, apart := false }
def SessStepsSaid : Prop := sessStepsRow.holds Try.pinned (OpenSpec.ofChange sessStepsSpec)

/-- ITS FALSE NEIGHBOUR: 'it returns false'. Refute it at one input. -/
def sessStepsWrong : ChangeSpec := { name := "sessSteps", fn := fun _ => fun
  | [d1, d2, d3, d4, d5] => { results := [.lit (.bool false)], args := [d1, d2, d3, d4, d5] }
  | _ => none }
def SessStepsWrongFalsely : Prop := sessStepsRow.holds Try.pinned (OpenSpec.ofChange sessStepsWrong)

/-- 'lychlaw19.SessLives': WHATEVER THE INPUT: true; the input reads as it did. -/
def sessLivesSpec : ChangeSpec := { name := "sessLives", fn := fun _ => fun
  | [d] => { results := [.lit (.bool true)], args := [d] }
  | _ => none }
def sessLivesRow : OpenClaim := { program := "ytdndagjpikdolaa", sum := "bc512db7f8b9ed716240a17014267ad257e5fbfbbe383cb06c621bf4d1e2110a", func := "lych/lychlaw19.SessLives", spec := "sessLives", unfollowed := true, recurses := true, plainKeys := false, apart := false }
def SessLivesSaid : Prop := sessLivesRow.holds Try.pinned (OpenSpec.ofChange sessLivesSpec)

/-- ITS FALSE NEIGHBOUR: 'it returns false'. Refute it at one input. -/
def sessLivesWrong : ChangeSpec := { name := "sessLives", fn := fun _ => fun
  | [d] => { results := [.lit (.bool false)], args := [d] }
  | _ => none }
def SessLivesWrongFalsely : Prop := sessLivesRow.holds Try.pinned (OpenSpec.ofChange sessLivesWrong)

/-- 'lychlaw19.SessPeers': WHATEVER THE INPUT: true; the input reads as it did. -/
def sessPeersSpec : ChangeSpec := { name := "sessPeers", fn := fun _ => fun
  | [d1, d2, d3, d4] => { results := [.lit (.bool true)], args := [d1, d2, d3, d4] }
  | _ => none }
def sessPeersRow : OpenClaim := { program := "ytdndagjpikdolaa", sum := "bc512db7f8b9ed716240a17014267ad257e5fbfbbe383cb06c621bf4d1e2110a", func := "lych/lychlaw19.SessPeers", spec := "sessPeers", unfollowed := true, recurses := true, plainKeys := false, apart := false }
def SessPeersSaid : Prop := sessPeersRow.holds Try.pinned (OpenSpec.ofChange sessPeersSpec)

/-- ITS FALSE NEIGHBOUR: 'it returns false'. Refute it at one input. -/
def sessPeersWrong : ChangeSpec := { name := "sessPeers", fn := fun _ => fun
  | [d1, d2, d3, d4] => { results := [.lit (.bool false)], args := [d1, d2, d3, d4] }
  | _ => none }
def SessPeersWrongFalsely : Prop := sessPeersRow.holds Try.pinned (OpenSpec.ofChange sessPeersWrong)

/-- 'lychlaw19.SessFull': WHATEVER THE INPUT: true; the input reads as it did. -/
def sessFullSpec : ChangeSpec := { name := "sessFull", fn := fun _ => fun
  | [d1, d2, d3] => { results := [.lit (.bool true)], args := [d1, d2, d3] }
  | _ => none }
def sessFullRow : OpenClaim := { program := "ytdndagjpikdolaa", sum := "bc512db7f8b9ed716240a17014267ad257e5fbfbbe383cb06c621bf4d1e2110a", func := "lych/lychlaw19.SessFull", spec := "sessFull", unfollowed := true, recurses := true, plainKeys := false, apart := false }
def SessFullSaid : Prop := sessFullRow.holds Try.pinned (OpenSpec.ofChange sessFullSpec)

/-- ITS FALSE NEIGHBOUR: 'it returns false'. Refute it at one input. -/
def sessFullWrong : ChangeSpec := { name := "sessFull", fn := fun _ => fun
  | [d1, d2, d3] => { results := [.lit (.bool false)], args := [d1, d2, d3] }
  | _ => none }
def SessFullWrongFalsely : Prop := sessFullRow.holds Try.pinned (OpenSpec.ofChange sessFullWrong)

/-- 'lychlaw19.SessKeeps': WHATEVER THE INPUT: true; the input reads as it did. -/
def sessKeepsSpec : ChangeSpec := { name := "sessKeeps", fn := fun _ => fun
  | [d1, d2] => { results := [.lit (.bool true)], args := [d1, d2] }
  | _ => none }
def sessKeepsRow : OpenClaim := { program := "ytdndagjpikdolaa", sum := "bc512db7f8b9ed716240a17014267ad257e5fbfbbe383cb06c621bf4d1e2110a", func := "lych/lychlaw19.SessKeeps", spec := "sessKeeps", unfollowed := true, recurses := true, plainKeys := false, apart := false }
def SessKeepsSaid : Prop := sessKeepsRow.holds Try.pinned (OpenSpec.ofChange sessKeepsSpec)

/-- ITS FALSE NEIGHBOUR: 'it returns false'. Refute it at one input. -/
def sessKeepsWrong : ChangeSpec := { name := "sessKeeps", fn := fun _ => fun
  | [d1, d2] => { results := [.lit (.bool false)], args := [d1, d2] }
  | _ => none }
def SessKeepsWrongFalsely : Prop := sessKeepsRow.holds Try.pinned (OpenSpec.ofChange sessKeepsWrong)

/-- 'lychlaw19.SessPlays': WHATEVER THE INPUT: true; the input reads as it did. -/
def sessPlaysSpec : ChangeSpec := { name := "sessPlays", fn := fun _ => fun
  | [d] => { results := [.lit (.bool true)], args := [d] }
  | _ => none }
def sessPlaysRow : OpenClaim := { program := "ytdndagjpikdolaa", sum := "bc512db7f8b9ed716240a17014267ad257e5fbfbbe383cb06c621bf4d1e2110a", func := "lych/lychlaw19.SessPlays", spec := "sessPlays", unfollowed := true, recurses := true, plainKeys := false, apart := false }
def SessPlaysSaid : Prop := sessPlaysRow.holds Try.pinned (OpenSpec.ofChange sessPlaysSpec)

/-- ITS FALSE NEIGHBOUR: 'it returns false'. Refute it at one input. -/
def sessPlaysWrong : ChangeSpec := { name := "sessPlays", fn := fun _ => fun
  | [d] => { results := [.lit (.bool false)], args := [d] }
  | _ => none }
def SessPlaysWrongFalsely : Prop := sessPlaysRow.holds Try.pinned (OpenSpec.ofChange sessPlaysWrong)

/- THE SECOND FORM. 'bulk': how many values and letters a reading holds, each counted each time it is reached (what is shared counts as often as it is met; a slice's spare places count too). A statement '..UptoSaid' is the law's where the arguments, and the package variables that the reading takes, are together of bulk at most 1048576: NARROWER than '..Said'. Prove '..Said' where nothing that the law and all that it calls make is longer than what came in: it says more and counts as full. Else prove '..UptoSaid'. A law counts once. -/
mutual
def uptoBulk {H : Type} : DataW H → Nat
  | .lit (.string bytes) => bytes.length + 1
  | .lit _ => 1
  | .nil => 1
  | .ptr d => uptoBulk d + 1
  | .slice elems spare => uptoBulkAll elems + uptoBulkAll spare + 1
  | .agg parts => uptoBulkAll parts + 1
  | .iface _ d => uptoBulk d + 1
  | .map entries => uptoBulkEntries entries + 1
  | .held _ => 1
def uptoBulkAll {H : Type} : List (DataW H) → Nat
  | [] => 0
  | d :: r => uptoBulk d + uptoBulkAll r
def uptoBulkEntries {H : Type} : List (Lit × DataW H) → Nat
  | [] => 0
  | x :: r => uptoBulkEntry x + uptoBulkEntries r
def uptoBulkEntry {H : Type} : Lit × DataW H → Nat
  | (.string bytes, d) => bytes.length + uptoBulk d + 1
  | (_, d) => uptoBulk d + 1
 end
def uptoSmall : (H : Type) → List (DataW H) → Bool := fun _ ds => decide (uptoBulkAll ds ≤ 1048576)
def OpenSpec.upto (s : _root_.Go.ChangeSpec) : _root_.Go.OpenSpec := { _root_.Go.OpenSpec.ofChange s with cond := some uptoSmall }

/-- 'lychlaw19.SessSteps', WHERE WHAT IT READS IS OF BULK AT MOST 1048576: true; the input reads as it did. -/
def sessStepsUptoRow : OpenClaim := { program := "ytdndagjpikdolaa", sum := "bc512db7f8b9ed716240a17014267ad257e5fbfbbe383cb06c621bf4d1e2110a", func := "lych/lychlaw19.SessSteps", spec := "sessSteps", unfollowed := true, recurses := true, plainKeys := false, apart := false, narrowed := true }
def SessStepsUptoSaid : Prop := sessStepsUptoRow.holds Try.pinned (OpenSpec.upto sessStepsSpec)

/-- 'lychlaw19.SessLives', WHERE WHAT IT READS IS OF BULK AT MOST 1048576: true; the input reads as it did. -/
def sessLivesUptoRow : OpenClaim := { program := "ytdndagjpikdolaa", sum := "bc512db7f8b9ed716240a17014267ad257e5fbfbbe383cb06c621bf4d1e2110a", func := "lych/lychlaw19.SessLives", spec := "sessLives", unfollowed := true, recurses := true, plainKeys := false, apart := false, narrowed := true }
def SessLivesUptoSaid : Prop := sessLivesUptoRow.holds Try.pinned (OpenSpec.upto sessLivesSpec)

/-- 'lychlaw19.SessPeers', WHERE WHAT IT READS IS OF BULK AT MOST 1048576: true; the input reads as it did. -/
def sessPeersUptoRow : OpenClaim := { program := "ytdndagjpikdolaa", sum := "bc512db7f8b9ed716240a17014267ad257e5fbfbbe383cb06c621bf4d1e2110a", func := "lych/lychlaw19.SessPeers", spec := "sessPeers", unfollowed := true, recurses := true, plainKeys := false, apart := false, narrowed := true }
def SessPeersUptoSaid : Prop := sessPeersUptoRow.holds Try.pinned (OpenSpec.upto sessPeersSpec)

/-- 'lychlaw19.SessFull', WHERE WHAT IT READS IS OF BULK AT MOST 1048576: true; the input reads as it did. -/
def sessFullUptoRow : OpenClaim := { program := "ytdndagjpikdolaa", sum := "bc512db7f8b9ed716240a17014267ad257e5fbfbbe383cb06c621bf4d1e2110a", func := "lych/lychlaw19.SessFull", spec := "sessFull", unfollowed := true, recurses := true, plainKeys := false, apart := false, narrowed := true }
def SessFullUptoSaid : Prop := sessFullUptoRow.holds Try.pinned (OpenSpec.upto sessFullSpec)

/-- 'lychlaw19.SessKeeps', WHERE WHAT IT READS IS OF BULK AT MOST 1048576: true; the input reads as it did. -/
def sessKeepsUptoRow : OpenClaim := { program := "ytdndagjpikdolaa", sum := "bc512db7f8b9ed716240a17014267ad257e5fbfbbe383cb06c621bf4d1e2110a", func := "lych/lychlaw19.SessKeeps", spec := "sessKeeps", unfollowed := true, recurses := true, plainKeys := false, apart := false, narrowed := true }
def SessKeepsUptoSaid : Prop := sessKeepsUptoRow.holds Try.pinned (OpenSpec.upto sessKeepsSpec)

/-- 'lychlaw19.SessPlays', WHERE WHAT IT READS IS OF BULK AT MOST 1048576: true; the input reads as it did. -/
def sessPlaysUptoRow : OpenClaim := { program := "ytdndagjpikdolaa", sum := "bc512db7f8b9ed716240a17014267ad257e5fbfbbe383cb06c621bf4d1e2110a", func := "lych/lychlaw19.SessPlays", spec := "sessPlays", unfollowed := true, recurses := true, plainKeys := false, apart := false, narrowed := true }
def SessPlaysUptoSaid : Prop := sessPlaysUptoRow.holds Try.pinned (OpenSpec.upto sessPlaysSpec)

end Rows
end Go.Proofs.Ytdndagjpikdolaa
