/-
  DERIVED. GIVEN WITH THE SEED: THE CARDS: each row of YtfpfpeachmcfeaaDoorRows.lean that lists a variable, with what it lists TIED to the program's text (the seventh form; the later family's looks); each row that meets fmt, with fmt's text TOLD by the authors' own Lean function (tested against real Go, not proved from fmt's source: count such statements apart). THE CARD IS WHAT COUNTS. Prove the row's statement (the work); the ties are given (YtfpfpeachmcfeaaDoorTie.lean); close each card by the builder's one call (the guide's Derived/Test/ToyasCard.lean, 'card_holds'). Laid BY PROGRAM, IN A SANDBOX (cutbox-door.mjs). By AI agents, Wed Nov 11 2026. No macro, syntax, notation, axiom, sorry.
-/
import Derived.Test.YtfpfpeachmcfeaaDoorRows
import GoSem.ClaimSeven
namespace Go.Proofs.YtfpfpeachmcfeaaDoor
namespace Rows

/-- THE TIED CARD OF 'lychlaw14.ValidOwns'. -/
def validOwnsCard : Claim7 := { stood := { row := validOwnsRow, standIns := [], harness := (true, "dbc4ae3c482bdf0b406868d586e02daa334ff37d55942bb65cc1b2a947236f6f"), looks := false }, kinds := [], alts := [], laidByText := true, laidKinds := [.data, .pinned], laidTests := true, laidLooks := .later }
def ValidOwnsCardSaid : Prop := Claim7.holds Tryd.pinned (.plain (OpenSpec.ofChange validOwnsSpec)) validOwnsCard

/-- THE TIED CARD OF 'lychlaw14.ValidApart'. -/
def validApartCard : Claim7 := { stood := { row := validApartRow, standIns := [], harness := (true, "dbc4ae3c482bdf0b406868d586e02daa334ff37d55942bb65cc1b2a947236f6f"), looks := false }, kinds := [], alts := [], laidByText := true, laidKinds := [.data, .pinned], laidTests := true, laidLooks := .later }
def ValidApartCardSaid : Prop := Claim7.holds Tryd.pinned (.plain (OpenSpec.ofChange validApartSpec)) validApartCard

/-- THE TIED CARD OF 'lychlaw14.ValidBounds'. -/
def validBoundsCard : Claim7 := { stood := { row := validBoundsRow, standIns := [], harness := (true, "dbc4ae3c482bdf0b406868d586e02daa334ff37d55942bb65cc1b2a947236f6f"), looks := false }, kinds := [], alts := [], laidByText := true, laidKinds := [.data, .pinned], laidTests := true, laidLooks := .later }
def ValidBoundsCardSaid : Prop := Claim7.holds Tryd.pinned (.plain (OpenSpec.ofChange validBoundsSpec)) validBoundsCard

/-- THE TIED CARD OF 'lychlaw14.ValidOrder'. -/
def validOrderCard : Claim7 := { stood := { row := validOrderRow, standIns := [], harness := (true, "dbc4ae3c482bdf0b406868d586e02daa334ff37d55942bb65cc1b2a947236f6f"), looks := false }, kinds := [], alts := [], laidByText := true, laidKinds := [.data, .pinned], laidTests := true, laidLooks := .later }
def ValidOrderCardSaid : Prop := Claim7.holds Tryd.pinned (.plain (OpenSpec.ofChange validOrderSpec)) validOrderCard

/-- THE TIED CARD OF 'lychlaw14.ValidClaims'. -/
def validClaimsCard : Claim7 := { stood := { row := validClaimsRow, standIns := [], harness := (true, "dbc4ae3c482bdf0b406868d586e02daa334ff37d55942bb65cc1b2a947236f6f"), looks := false }, kinds := [], alts := [], laidByText := true, laidKinds := [.data, .pinned], laidTests := true, laidLooks := .later }
def ValidClaimsCardSaid : Prop := Claim7.holds Tryd.pinned (.plain (OpenSpec.ofChange validClaimsSpec)) validClaimsCard

/-- THE TIED CARD OF 'lychlaw14.ValidChecks'. -/
def validChecksCard : Claim7 := { stood := { row := validChecksRow, standIns := [], harness := (true, "dbc4ae3c482bdf0b406868d586e02daa334ff37d55942bb65cc1b2a947236f6f"), looks := false }, kinds := [], alts := [], laidByText := true, laidKinds := [.data, .pinned], laidTests := true, laidLooks := .later }
def ValidChecksCardSaid : Prop := Claim7.holds Tryd.pinned (.plain (OpenSpec.ofChange validChecksSpec)) validChecksCard

/-- THE SECOND FORM's CARD OF 'lychlaw14.ValidOwns'. -/
def validOwnsUptoCard : Claim7 := { stood := { row := validOwnsUptoRow, standIns := [], harness := (true, "dbc4ae3c482bdf0b406868d586e02daa334ff37d55942bb65cc1b2a947236f6f"), looks := false }, kinds := [], alts := [], laidByText := true, laidKinds := [.data, .pinned], laidTests := true, laidLooks := .later }
def ValidOwnsUptoCardSaid : Prop := Claim7.holds Tryd.pinned (.plain (OpenSpec.upto validOwnsSpec)) validOwnsUptoCard

/-- THE SECOND FORM's CARD OF 'lychlaw14.ValidApart'. -/
def validApartUptoCard : Claim7 := { stood := { row := validApartUptoRow, standIns := [], harness := (true, "dbc4ae3c482bdf0b406868d586e02daa334ff37d55942bb65cc1b2a947236f6f"), looks := false }, kinds := [], alts := [], laidByText := true, laidKinds := [.data, .pinned], laidTests := true, laidLooks := .later }
def ValidApartUptoCardSaid : Prop := Claim7.holds Tryd.pinned (.plain (OpenSpec.upto validApartSpec)) validApartUptoCard

/-- THE SECOND FORM's CARD OF 'lychlaw14.ValidBounds'. -/
def validBoundsUptoCard : Claim7 := { stood := { row := validBoundsUptoRow, standIns := [], harness := (true, "dbc4ae3c482bdf0b406868d586e02daa334ff37d55942bb65cc1b2a947236f6f"), looks := false }, kinds := [], alts := [], laidByText := true, laidKinds := [.data, .pinned], laidTests := true, laidLooks := .later }
def ValidBoundsUptoCardSaid : Prop := Claim7.holds Tryd.pinned (.plain (OpenSpec.upto validBoundsSpec)) validBoundsUptoCard

/-- THE SECOND FORM's CARD OF 'lychlaw14.ValidOrder'. -/
def validOrderUptoCard : Claim7 := { stood := { row := validOrderUptoRow, standIns := [], harness := (true, "dbc4ae3c482bdf0b406868d586e02daa334ff37d55942bb65cc1b2a947236f6f"), looks := false }, kinds := [], alts := [], laidByText := true, laidKinds := [.data, .pinned], laidTests := true, laidLooks := .later }
def ValidOrderUptoCardSaid : Prop := Claim7.holds Tryd.pinned (.plain (OpenSpec.upto validOrderSpec)) validOrderUptoCard

/-- THE SECOND FORM's CARD OF 'lychlaw14.ValidClaims'. -/
def validClaimsUptoCard : Claim7 := { stood := { row := validClaimsUptoRow, standIns := [], harness := (true, "dbc4ae3c482bdf0b406868d586e02daa334ff37d55942bb65cc1b2a947236f6f"), looks := false }, kinds := [], alts := [], laidByText := true, laidKinds := [.data, .pinned], laidTests := true, laidLooks := .later }
def ValidClaimsUptoCardSaid : Prop := Claim7.holds Tryd.pinned (.plain (OpenSpec.upto validClaimsSpec)) validClaimsUptoCard

/-- THE SECOND FORM's CARD OF 'lychlaw14.ValidChecks'. -/
def validChecksUptoCard : Claim7 := { stood := { row := validChecksUptoRow, standIns := [], harness := (true, "dbc4ae3c482bdf0b406868d586e02daa334ff37d55942bb65cc1b2a947236f6f"), looks := false }, kinds := [], alts := [], laidByText := true, laidKinds := [.data, .pinned], laidTests := true, laidLooks := .later }
def ValidChecksUptoCardSaid : Prop := Claim7.holds Tryd.pinned (.plain (OpenSpec.upto validChecksSpec)) validChecksUptoCard
end Rows
end Go.Proofs.YtfpfpeachmcfeaaDoor
