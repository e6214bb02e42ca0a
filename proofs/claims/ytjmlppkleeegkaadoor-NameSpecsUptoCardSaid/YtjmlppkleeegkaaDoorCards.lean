/-
  DERIVED. GIVEN WITH THE SEED: THE CARDS: each row of YtjmlppkleeegkaaDoorRows.lean that lists a variable, with what it lists TIED to the program's text (the seventh form; the later family's looks); each row that meets fmt, with fmt's text TOLD by the authors' own Lean function (tested against real Go, not proved from fmt's source: count such statements apart). THE CARD IS WHAT COUNTS. Prove the row's statement (the work); the ties are given (YtjmlppkleeegkaaDoorTie.lean); close each card by the builder's one call (the guide's Derived/Test/ToyasCard.lean, 'card_holds'). Laid BY PROGRAM, IN A SANDBOX (cutbox-door.mjs). By AI agents, Wed Nov 11 2026. No macro, syntax, notation, axiom, sorry.
-/
import Derived.Test.YtjmlppkleeegkaaDoorRows
import GoSem.ClaimSeven
namespace Go.Proofs.YtjmlppkleeegkaaDoor
namespace Rows

/-- THE TIED CARD OF 'stemmalaw14.NameStars'. -/
def nameStarsCard : Claim7 := { stood := { row := nameStarsRow, standIns := [], harness := (true, "616986071eaec87604e12de8d094d79e62d33339c3532dd108d95bd8cd4cdf28"), looks := false }, kinds := [], alts := [], laidByText := true, laidKinds := [.data, .pinned], laidTests := true, laidLooks := .later }
def NameStarsCardSaid : Prop := Claim7.holds Tryd.pinned (.plain (OpenSpec.ofChange nameStarsSpec)) nameStarsCard

/-- THE TIED CARD OF 'stemmalaw14.NameValid'. -/
def nameValidCard : Claim7 := { stood := { row := nameValidRow, standIns := [], harness := (true, "616986071eaec87604e12de8d094d79e62d33339c3532dd108d95bd8cd4cdf28"), looks := false }, kinds := [], alts := [], laidByText := true, laidKinds := [.data, .pinned], laidTests := true, laidLooks := .later }
def NameValidCardSaid : Prop := Claim7.holds Tryd.pinned (.plain (OpenSpec.ofChange nameValidSpec)) nameValidCard

/-- THE TIED CARD OF 'stemmalaw14.NameParts'. -/
def namePartsCard : Claim7 := { stood := { row := namePartsRow, standIns := [], harness := (true, "616986071eaec87604e12de8d094d79e62d33339c3532dd108d95bd8cd4cdf28"), looks := false }, kinds := [], alts := [], laidByText := true, laidKinds := [.data, .pinned], laidTests := true, laidLooks := .later }
def NamePartsCardSaid : Prop := Claim7.holds Tryd.pinned (.plain (OpenSpec.ofChange namePartsSpec)) namePartsCard

/-- THE TIED CARD OF 'stemmalaw14.NameSpecs'. -/
def nameSpecsCard : Claim7 := { stood := { row := nameSpecsRow, standIns := [], harness := (true, "616986071eaec87604e12de8d094d79e62d33339c3532dd108d95bd8cd4cdf28"), looks := false }, kinds := [], alts := [], laidByText := true, laidKinds := [.data, .pinned], laidTests := true, laidLooks := .later }
def NameSpecsCardSaid : Prop := Claim7.holds Tryd.pinned (.plain (OpenSpec.ofChange nameSpecsSpec)) nameSpecsCard

/-- THE TIED CARD OF 'stemmalaw14.NameBack'. -/
def nameBackCard : Claim7 := { stood := { row := nameBackRow, standIns := [], harness := (true, "616986071eaec87604e12de8d094d79e62d33339c3532dd108d95bd8cd4cdf28"), looks := false }, kinds := [], alts := [], laidByText := true, laidKinds := [.data, .pinned], laidTests := true, laidLooks := .later }
def NameBackCardSaid : Prop := Claim7.holds Tryd.pinned (.plain (OpenSpec.ofChange nameBackSpec)) nameBackCard

/-- THE SECOND FORM's CARD OF 'stemmalaw14.NameStars'. -/
def nameStarsUptoCard : Claim7 := { stood := { row := nameStarsUptoRow, standIns := [], harness := (true, "616986071eaec87604e12de8d094d79e62d33339c3532dd108d95bd8cd4cdf28"), looks := false }, kinds := [], alts := [], laidByText := true, laidKinds := [.data, .pinned], laidTests := true, laidLooks := .later }
def NameStarsUptoCardSaid : Prop := Claim7.holds Tryd.pinned (.plain (OpenSpec.upto nameStarsSpec)) nameStarsUptoCard

/-- THE SECOND FORM's CARD OF 'stemmalaw14.NameValid'. -/
def nameValidUptoCard : Claim7 := { stood := { row := nameValidUptoRow, standIns := [], harness := (true, "616986071eaec87604e12de8d094d79e62d33339c3532dd108d95bd8cd4cdf28"), looks := false }, kinds := [], alts := [], laidByText := true, laidKinds := [.data, .pinned], laidTests := true, laidLooks := .later }
def NameValidUptoCardSaid : Prop := Claim7.holds Tryd.pinned (.plain (OpenSpec.upto nameValidSpec)) nameValidUptoCard

/-- THE SECOND FORM's CARD OF 'stemmalaw14.NameParts'. -/
def namePartsUptoCard : Claim7 := { stood := { row := namePartsUptoRow, standIns := [], harness := (true, "616986071eaec87604e12de8d094d79e62d33339c3532dd108d95bd8cd4cdf28"), looks := false }, kinds := [], alts := [], laidByText := true, laidKinds := [.data, .pinned], laidTests := true, laidLooks := .later }
def NamePartsUptoCardSaid : Prop := Claim7.holds Tryd.pinned (.plain (OpenSpec.upto namePartsSpec)) namePartsUptoCard

/-- THE SECOND FORM's CARD OF 'stemmalaw14.NameSpecs'. -/
def nameSpecsUptoCard : Claim7 := { stood := { row := nameSpecsUptoRow, standIns := [], harness := (true, "616986071eaec87604e12de8d094d79e62d33339c3532dd108d95bd8cd4cdf28"), looks := false }, kinds := [], alts := [], laidByText := true, laidKinds := [.data, .pinned], laidTests := true, laidLooks := .later }
def NameSpecsUptoCardSaid : Prop := Claim7.holds Tryd.pinned (.plain (OpenSpec.upto nameSpecsSpec)) nameSpecsUptoCard

/-- THE SECOND FORM's CARD OF 'stemmalaw14.NameBack'. -/
def nameBackUptoCard : Claim7 := { stood := { row := nameBackUptoRow, standIns := [], harness := (true, "616986071eaec87604e12de8d094d79e62d33339c3532dd108d95bd8cd4cdf28"), looks := false }, kinds := [], alts := [], laidByText := true, laidKinds := [.data, .pinned], laidTests := true, laidLooks := .later }
def NameBackUptoCardSaid : Prop := Claim7.holds Tryd.pinned (.plain (OpenSpec.upto nameBackSpec)) nameBackUptoCard
end Rows
end Go.Proofs.YtjmlppkleeegkaaDoor
