/-
  DERIVED. GIVEN WITH THE SEED: THE CARDS: each row of YtbbngcacfdgahaaDoorRows.lean that lists a variable, with what it lists TIED to the program's text (the seventh form; the later family's looks); each row that meets fmt, with fmt's text TOLD by the authors' own Lean function (tested against real Go, not proved from fmt's source: count such statements apart). THE CARD IS WHAT COUNTS. Prove the row's statement (the work); the ties are given (YtbbngcacfdgahaaDoorTie.lean); close each card by the builder's one call (the guide's Derived/Test/ToyasCard.lean, 'card_holds'). Laid BY PROGRAM, IN A SANDBOX (cutbox-door.mjs). By AI agents, Wed Nov 11 2026. No macro, syntax, notation, axiom, sorry.
-/
import Derived.Test.YtbbngcacfdgahaaDoorRows
import GoSem.ClaimSeven
namespace Go.Proofs.YtbbngcacfdgahaaDoor
namespace Rows

/-- THE TIED CARD OF 'salchowlaw46.InquiryNew'. -/
def inquiryNewCard : Claim7 := { stood := { row := inquiryNewRow, standIns := [], harness := (true, "ff55c7ab8f33dc4b587f60f22ea3ea4939b661213f04c7bfcd91e42144e93258"), looks := false }, kinds := [], alts := [], laidByText := true, laidKinds := [.data, .listed, .data, .pinned], laidTests := true, laidLooks := .later }
def InquiryNewCardSaid : Prop := Claim7.holds Tryd.pinned (.plain (OpenSpec.ofChange inquiryNewSpec)) inquiryNewCard

/-- THE TIED CARD OF 'salchowlaw46.InquiryPlays'. -/
def inquiryPlaysCard : Claim7 := { stood := { row := inquiryPlaysRow, standIns := [], harness := (true, "ff55c7ab8f33dc4b587f60f22ea3ea4939b661213f04c7bfcd91e42144e93258"), looks := false }, kinds := [], alts := [], laidByText := true, laidKinds := [.data, .listed, .data, .pinned], laidTests := true, laidLooks := .later }
def InquiryPlaysCardSaid : Prop := Claim7.holds Tryd.pinned (.plain (OpenSpec.ofChange inquiryPlaysSpec)) inquiryPlaysCard

/-- THE TIED CARD OF 'salchowlaw46.InquiryOnce'. -/
def inquiryOnceCard : Claim7 := { stood := { row := inquiryOnceRow, standIns := [], harness := (true, "ff55c7ab8f33dc4b587f60f22ea3ea4939b661213f04c7bfcd91e42144e93258"), looks := false }, kinds := [], alts := [], laidByText := true, laidKinds := [.data, .listed, .data, .pinned], laidTests := true, laidLooks := .later }
def InquiryOnceCardSaid : Prop := Claim7.holds Tryd.pinned (.plain (OpenSpec.ofChange inquiryOnceSpec)) inquiryOnceCard

/-- THE TIED CARD OF 'salchowlaw46.InquiryLate'. -/
def inquiryLateCard : Claim7 := { stood := { row := inquiryLateRow, standIns := [], harness := (true, "ff55c7ab8f33dc4b587f60f22ea3ea4939b661213f04c7bfcd91e42144e93258"), looks := false }, kinds := [], alts := [], laidByText := true, laidKinds := [.data, .listed, .data, .pinned], laidTests := true, laidLooks := .later }
def InquiryLateCardSaid : Prop := Claim7.holds Tryd.pinned (.plain (OpenSpec.ofChange inquiryLateSpec)) inquiryLateCard

/-- THE TIED CARD OF 'salchowlaw46.InquiryRefuses'. -/
def inquiryRefusesCard : Claim7 := { stood := { row := inquiryRefusesRow, standIns := [], harness := (true, "ff55c7ab8f33dc4b587f60f22ea3ea4939b661213f04c7bfcd91e42144e93258"), looks := false }, kinds := [], alts := [], laidByText := true, laidKinds := [.data, .listed, .data, .pinned], laidTests := true, laidLooks := .later }
def InquiryRefusesCardSaid : Prop := Claim7.holds Tryd.pinned (.plain (OpenSpec.ofChange inquiryRefusesSpec)) inquiryRefusesCard

/-- THE TIED CARD OF 'salchowlaw46.InquiryFollows'. -/
def inquiryFollowsCard : Claim7 := { stood := { row := inquiryFollowsRow, standIns := [], harness := (true, "ff55c7ab8f33dc4b587f60f22ea3ea4939b661213f04c7bfcd91e42144e93258"), looks := false }, kinds := [], alts := [], laidByText := true, laidKinds := [.data, .listed, .data, .data, .pinned], laidTests := true, laidLooks := .later }
def InquiryFollowsCardSaid : Prop := Claim7.holds Tryd.pinned (.plain (OpenSpec.ofChange inquiryFollowsSpec)) inquiryFollowsCard

/-- THE SECOND FORM's CARD OF 'salchowlaw46.InquiryNew'. -/
def inquiryNewUptoCard : Claim7 := { stood := { row := inquiryNewUptoRow, standIns := [], harness := (true, "ff55c7ab8f33dc4b587f60f22ea3ea4939b661213f04c7bfcd91e42144e93258"), looks := false }, kinds := [], alts := [], laidByText := true, laidKinds := [.data, .listed, .data, .pinned], laidTests := true, laidLooks := .later }
def InquiryNewUptoCardSaid : Prop := Claim7.holds Tryd.pinned (.plain (OpenSpec.upto inquiryNewSpec)) inquiryNewUptoCard

/-- THE SECOND FORM's CARD OF 'salchowlaw46.InquiryPlays'. -/
def inquiryPlaysUptoCard : Claim7 := { stood := { row := inquiryPlaysUptoRow, standIns := [], harness := (true, "ff55c7ab8f33dc4b587f60f22ea3ea4939b661213f04c7bfcd91e42144e93258"), looks := false }, kinds := [], alts := [], laidByText := true, laidKinds := [.data, .listed, .data, .pinned], laidTests := true, laidLooks := .later }
def InquiryPlaysUptoCardSaid : Prop := Claim7.holds Tryd.pinned (.plain (OpenSpec.upto inquiryPlaysSpec)) inquiryPlaysUptoCard

/-- THE SECOND FORM's CARD OF 'salchowlaw46.InquiryOnce'. -/
def inquiryOnceUptoCard : Claim7 := { stood := { row := inquiryOnceUptoRow, standIns := [], harness := (true, "ff55c7ab8f33dc4b587f60f22ea3ea4939b661213f04c7bfcd91e42144e93258"), looks := false }, kinds := [], alts := [], laidByText := true, laidKinds := [.data, .listed, .data, .pinned], laidTests := true, laidLooks := .later }
def InquiryOnceUptoCardSaid : Prop := Claim7.holds Tryd.pinned (.plain (OpenSpec.upto inquiryOnceSpec)) inquiryOnceUptoCard

/-- THE SECOND FORM's CARD OF 'salchowlaw46.InquiryLate'. -/
def inquiryLateUptoCard : Claim7 := { stood := { row := inquiryLateUptoRow, standIns := [], harness := (true, "ff55c7ab8f33dc4b587f60f22ea3ea4939b661213f04c7bfcd91e42144e93258"), looks := false }, kinds := [], alts := [], laidByText := true, laidKinds := [.data, .listed, .data, .pinned], laidTests := true, laidLooks := .later }
def InquiryLateUptoCardSaid : Prop := Claim7.holds Tryd.pinned (.plain (OpenSpec.upto inquiryLateSpec)) inquiryLateUptoCard

/-- THE SECOND FORM's CARD OF 'salchowlaw46.InquiryRefuses'. -/
def inquiryRefusesUptoCard : Claim7 := { stood := { row := inquiryRefusesUptoRow, standIns := [], harness := (true, "ff55c7ab8f33dc4b587f60f22ea3ea4939b661213f04c7bfcd91e42144e93258"), looks := false }, kinds := [], alts := [], laidByText := true, laidKinds := [.data, .listed, .data, .pinned], laidTests := true, laidLooks := .later }
def InquiryRefusesUptoCardSaid : Prop := Claim7.holds Tryd.pinned (.plain (OpenSpec.upto inquiryRefusesSpec)) inquiryRefusesUptoCard

/-- THE SECOND FORM's CARD OF 'salchowlaw46.InquiryFollows'. -/
def inquiryFollowsUptoCard : Claim7 := { stood := { row := inquiryFollowsUptoRow, standIns := [], harness := (true, "ff55c7ab8f33dc4b587f60f22ea3ea4939b661213f04c7bfcd91e42144e93258"), looks := false }, kinds := [], alts := [], laidByText := true, laidKinds := [.data, .listed, .data, .data, .pinned], laidTests := true, laidLooks := .later }
def InquiryFollowsUptoCardSaid : Prop := Claim7.holds Tryd.pinned (.plain (OpenSpec.upto inquiryFollowsSpec)) inquiryFollowsUptoCard
end Rows
end Go.Proofs.YtbbngcacfdgahaaDoor
