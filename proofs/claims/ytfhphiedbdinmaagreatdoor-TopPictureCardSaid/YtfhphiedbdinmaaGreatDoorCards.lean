/-
  DERIVED. GIVEN WITH THE SEED: THE CARDS: each row of YtfhphiedbdinmaaGreatDoorRows.lean that lists a variable, with what it lists TIED to the program's text (the seventh form; the later family's looks); each row that meets fmt, with fmt's text TOLD by the authors' own Lean function (tested against real Go, not proved from fmt's source: count such statements apart). THE CARD IS WHAT COUNTS. Prove the row's statement (the work); the ties are given (YtfhphiedbdinmaaGreatDoorTie.lean); close each card by the builder's one call (the guide's Derived/Test/ToyasCard.lean, 'card_holds'). Laid BY PROGRAM, IN A SANDBOX (cutbox-door.mjs). By AI agents, Wed Nov 11 2026. No macro, syntax, notation, axiom, sorry.
-/
import Derived.Test.YtfhphiedbdinmaaGreatDoorRows
import GoSem.ClaimSeven
namespace Go.Proofs.YtfhphiedbdinmaaGreatDoor
namespace Rows

/-- THE TIED CARD OF 'watchmantop.TopStore'. -/
def topStoreCard : Claim7 := { stood := { row := topStoreRow, standIns := [], harness := (true, "fbb970e5e7cda91ff920c142639bf660850efb42e89178bb380b3dd68047f3f2"), looks := true }, kinds := [], alts := [], laidByText := true, laidKinds := [.data, .data, .data], laidTests := true, laidLooks := .later }
def TopStoreCardSaid : Prop := Claim7.holds Tryz.pinned (.plain (OpenSpec.ofChange topStoreSpec)) topStoreCard

/-- THE TIED CARD OF 'watchmantop.TopPicture'. -/
def topPictureCard : Claim7 := { stood := { row := topPictureRow, standIns := [], harness := (true, "fbb970e5e7cda91ff920c142639bf660850efb42e89178bb380b3dd68047f3f2"), looks := true }, kinds := [], alts := [], laidByText := true, laidKinds := [.data, .data, .data], laidTests := true, laidLooks := .later }
def TopPictureCardSaid : Prop := Claim7.holds Tryz.pinned (.plain (OpenSpec.ofChange topPictureSpec)) topPictureCard

/-- THE SECOND FORM's CARD OF 'watchmantop.TopStore'. -/
def topStoreUptoCard : Claim7 := { stood := { row := topStoreUptoRow, standIns := [], harness := (true, "fbb970e5e7cda91ff920c142639bf660850efb42e89178bb380b3dd68047f3f2"), looks := true }, kinds := [], alts := [], laidByText := true, laidKinds := [.data, .data, .data], laidTests := true, laidLooks := .later }
def TopStoreUptoCardSaid : Prop := Claim7.holds Tryz.pinned (.plain (OpenSpec.upto topStoreSpec)) topStoreUptoCard

/-- THE SECOND FORM's CARD OF 'watchmantop.TopPicture'. -/
def topPictureUptoCard : Claim7 := { stood := { row := topPictureUptoRow, standIns := [], harness := (true, "fbb970e5e7cda91ff920c142639bf660850efb42e89178bb380b3dd68047f3f2"), looks := true }, kinds := [], alts := [], laidByText := true, laidKinds := [.data, .data, .data], laidTests := true, laidLooks := .later }
def TopPictureUptoCardSaid : Prop := Claim7.holds Tryz.pinned (.plain (OpenSpec.upto topPictureSpec)) topPictureUptoCard
end Rows
end Go.Proofs.YtfhphiedbdinmaaGreatDoor
