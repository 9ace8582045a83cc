/-
  DERIVED. GIVEN WITH THE SEED: THE CARDS: each row of YtmmihcophkipoaaDoorRows.lean that lists a variable, with what it lists TIED to the program's text (the seventh form; the later family's looks); each row that meets fmt, with fmt's text TOLD by the authors' own Lean function (tested against real Go, not proved from fmt's source: count such statements apart). THE CARD IS WHAT COUNTS. Prove the row's statement (the work); the ties are given (YtmmihcophkipoaaDoorTie.lean); close each card by the builder's one call (the guide's Derived/Test/ToyasCard.lean, 'card_holds'). Laid BY PROGRAM, IN A SANDBOX (cutbox-door.mjs). By AI agents, Wed Nov 11 2026. No macro, syntax, notation, axiom, sorry.
-/
import Derived.Test.YtmmihcophkipoaaDoorRows
import GoSem.ClaimSeven
namespace Go.Proofs.YtmmihcophkipoaaDoor
namespace Rows

/-- THE TIED CARD OF 'syllabarylaw09.DawgMatchesReference'. -/
def dawgMatchesReferenceCard : Claim7 := { stood := { row := dawgMatchesReferenceRow, standIns := [], harness := (true, "2cfab7a405446e86f36320e8931b4db3dd0b65117ddc1662eb493445956b60ea"), looks := true }, kinds := [], alts := [], laidByText := true, laidKinds := [.data, .data, .data], laidTests := true, laidLooks := .later }
def DawgMatchesReferenceCardSaid : Prop := Claim7.holds Tryd.pinned (.plain (OpenSpec.ofChange dawgMatchesReferenceSpec)) dawgMatchesReferenceCard

/-- THE TIED CARD OF 'syllabarylaw09.DawgMinimal'. -/
def dawgMinimalCard : Claim7 := { stood := { row := dawgMinimalRow, standIns := [], harness := (true, "2cfab7a405446e86f36320e8931b4db3dd0b65117ddc1662eb493445956b60ea"), looks := true }, kinds := [], alts := [], laidByText := true, laidKinds := [.data, .data, .data], laidTests := true, laidLooks := .later }
def DawgMinimalCardSaid : Prop := Claim7.holds Tryd.pinned (.plain (OpenSpec.ofChange dawgMinimalSpec)) dawgMinimalCard

/-- THE TIED CARD OF 'syllabarylaw09.DawgPlaces'. -/
def dawgPlacesCard : Claim7 := { stood := { row := dawgPlacesRow, standIns := [], harness := (true, "2cfab7a405446e86f36320e8931b4db3dd0b65117ddc1662eb493445956b60ea"), looks := true }, kinds := [], alts := [], laidByText := true, laidKinds := [.data, .data, .data], laidTests := true, laidLooks := .later }
def DawgPlacesCardSaid : Prop := Claim7.holds Tryd.pinned (.plain (OpenSpec.ofChange dawgPlacesSpec)) dawgPlacesCard

/-- THE TIED CARD OF 'syllabarylaw09.DawgBeginnings'. -/
def dawgBeginningsCard : Claim7 := { stood := { row := dawgBeginningsRow, standIns := [], harness := (true, "2cfab7a405446e86f36320e8931b4db3dd0b65117ddc1662eb493445956b60ea"), looks := true }, kinds := [], alts := [], laidByText := true, laidKinds := [.data, .data, .data], laidTests := true, laidLooks := .later }
def DawgBeginningsCardSaid : Prop := Claim7.holds Tryd.pinned (.plain (OpenSpec.ofChange dawgBeginningsSpec)) dawgBeginningsCard

/-- THE TIED CARD OF 'syllabarylaw09.DawgRefuses'. -/
def dawgRefusesCard : Claim7 := { stood := { row := dawgRefusesRow, standIns := [], harness := (true, "2cfab7a405446e86f36320e8931b4db3dd0b65117ddc1662eb493445956b60ea"), looks := true }, kinds := [], alts := [], laidByText := true, laidKinds := [.data, .data, .data], laidTests := true, laidLooks := .later }
def DawgRefusesCardSaid : Prop := Claim7.holds Tryd.pinned (.plain (OpenSpec.ofChange dawgRefusesSpec)) dawgRefusesCard

/-- THE TIED CARD OF 'syllabarylaw09.DawgSpoilt'. -/
def dawgSpoiltCard : Claim7 := { stood := { row := dawgSpoiltRow, standIns := [], harness := (true, "2cfab7a405446e86f36320e8931b4db3dd0b65117ddc1662eb493445956b60ea"), looks := true }, kinds := [], alts := [], laidByText := true, laidKinds := [.data, .data, .data], laidTests := true, laidLooks := .later }
def DawgSpoiltCardSaid : Prop := Claim7.holds Tryd.pinned (.plain (OpenSpec.ofChange dawgSpoiltSpec)) dawgSpoiltCard

/-- THE TIED CARD OF 'syllabarylaw09.DawgWords'. -/
def dawgWordsCard : Claim7 := { stood := { row := dawgWordsRow, standIns := [], harness := (true, "2cfab7a405446e86f36320e8931b4db3dd0b65117ddc1662eb493445956b60ea"), looks := true }, kinds := [], alts := [], laidByText := true, laidKinds := [.data, .data, .data], laidTests := true, laidLooks := .later }
def DawgWordsCardSaid : Prop := Claim7.holds Tryd.pinned (.plain (OpenSpec.ofChange dawgWordsSpec)) dawgWordsCard

/-- THE TIED CARD OF 'syllabarylaw09.DawgChanges'. -/
def dawgChangesCard : Claim7 := { stood := { row := dawgChangesRow, standIns := [], harness := (true, "2cfab7a405446e86f36320e8931b4db3dd0b65117ddc1662eb493445956b60ea"), looks := true }, kinds := [], alts := [], laidByText := true, laidKinds := [.data, .data, .data], laidTests := true, laidLooks := .later }
def DawgChangesCardSaid : Prop := Claim7.holds Tryd.pinned (.plain (OpenSpec.ofChange dawgChangesSpec)) dawgChangesCard

/-- THE TIED CARD OF 'syllabarylaw10.PackMatchesReference'. -/
def packMatchesReferenceCard : Claim7 := { stood := { row := packMatchesReferenceRow, standIns := [], harness := (true, "2cfab7a405446e86f36320e8931b4db3dd0b65117ddc1662eb493445956b60ea"), looks := true }, kinds := [], alts := [], laidByText := true, laidKinds := [.data, .data, .data], laidTests := true, laidLooks := .later }
def PackMatchesReferenceCardSaid : Prop := Claim7.holds Tryd.pinned (.plain (OpenSpec.ofChange packMatchesReferenceSpec)) packMatchesReferenceCard

/-- THE TIED CARD OF 'syllabarylaw10.PackReads'. -/
def packReadsCard : Claim7 := { stood := { row := packReadsRow, standIns := [], harness := (true, "2cfab7a405446e86f36320e8931b4db3dd0b65117ddc1662eb493445956b60ea"), looks := true }, kinds := [], alts := [], laidByText := true, laidKinds := [.data, .data, .data], laidTests := true, laidLooks := .later }
def PackReadsCardSaid : Prop := Claim7.holds Tryd.pinned (.plain (OpenSpec.ofChange packReadsSpec)) packReadsCard

/-- THE TIED CARD OF 'syllabarylaw10.PackDamage'. -/
def packDamageCard : Claim7 := { stood := { row := packDamageRow, standIns := [], harness := (true, "2cfab7a405446e86f36320e8931b4db3dd0b65117ddc1662eb493445956b60ea"), looks := true }, kinds := [], alts := [], laidByText := true, laidKinds := [.data, .data, .data], laidTests := true, laidLooks := .later }
def PackDamageCardSaid : Prop := Claim7.holds Tryd.pinned (.plain (OpenSpec.ofChange packDamageSpec)) packDamageCard

/-- THE TIED CARD OF 'syllabarylaw10.PackDiffers'. -/
def packDiffersCard : Claim7 := { stood := { row := packDiffersRow, standIns := [], harness := (true, "2cfab7a405446e86f36320e8931b4db3dd0b65117ddc1662eb493445956b60ea"), looks := true }, kinds := [], alts := [], laidByText := true, laidKinds := [.data, .data, .data], laidTests := true, laidLooks := .later }
def PackDiffersCardSaid : Prop := Claim7.holds Tryd.pinned (.plain (OpenSpec.ofChange packDiffersSpec)) packDiffersCard

/-- THE TIED CARD OF 'syllabarylaw10.PackSizes'. -/
def packSizesCard : Claim7 := { stood := { row := packSizesRow, standIns := [], harness := (true, "2cfab7a405446e86f36320e8931b4db3dd0b65117ddc1662eb493445956b60ea"), looks := true }, kinds := [], alts := [], laidByText := true, laidKinds := [.data, .data, .data], laidTests := true, laidLooks := .later }
def PackSizesCardSaid : Prop := Claim7.holds Tryd.pinned (.plain (OpenSpec.ofChange packSizesSpec)) packSizesCard

/-- THE TIED CARD OF 'syllabarylaw10.PackRejects'. -/
def packRejectsCard : Claim7 := { stood := { row := packRejectsRow, standIns := [], harness := (true, "2cfab7a405446e86f36320e8931b4db3dd0b65117ddc1662eb493445956b60ea"), looks := true }, kinds := [], alts := [], laidByText := true, laidKinds := [.data, .data, .data], laidTests := true, laidLooks := .later }
def PackRejectsCardSaid : Prop := Claim7.holds Tryd.pinned (.plain (OpenSpec.ofChange packRejectsSpec)) packRejectsCard

/-- THE TIED CARD OF 'syllabarylaw10.PackWords'. -/
def packWordsCard : Claim7 := { stood := { row := packWordsRow, standIns := [], harness := (true, "2cfab7a405446e86f36320e8931b4db3dd0b65117ddc1662eb493445956b60ea"), looks := true }, kinds := [], alts := [], laidByText := true, laidKinds := [.data, .data, .data], laidTests := true, laidLooks := .later }
def PackWordsCardSaid : Prop := Claim7.holds Tryd.pinned (.plain (OpenSpec.ofChange packWordsSpec)) packWordsCard

/-- THE SECOND FORM's CARD OF 'syllabarylaw09.DawgMatchesReference'. -/
def dawgMatchesReferenceUptoCard : Claim7 := { stood := { row := dawgMatchesReferenceUptoRow, standIns := [], harness := (true, "2cfab7a405446e86f36320e8931b4db3dd0b65117ddc1662eb493445956b60ea"), looks := true }, kinds := [], alts := [], laidByText := true, laidKinds := [.data, .data, .data], laidTests := true, laidLooks := .later }
def DawgMatchesReferenceUptoCardSaid : Prop := Claim7.holds Tryd.pinned (.plain (OpenSpec.upto dawgMatchesReferenceSpec)) dawgMatchesReferenceUptoCard

/-- THE SECOND FORM's CARD OF 'syllabarylaw09.DawgMinimal'. -/
def dawgMinimalUptoCard : Claim7 := { stood := { row := dawgMinimalUptoRow, standIns := [], harness := (true, "2cfab7a405446e86f36320e8931b4db3dd0b65117ddc1662eb493445956b60ea"), looks := true }, kinds := [], alts := [], laidByText := true, laidKinds := [.data, .data, .data], laidTests := true, laidLooks := .later }
def DawgMinimalUptoCardSaid : Prop := Claim7.holds Tryd.pinned (.plain (OpenSpec.upto dawgMinimalSpec)) dawgMinimalUptoCard

/-- THE SECOND FORM's CARD OF 'syllabarylaw09.DawgPlaces'. -/
def dawgPlacesUptoCard : Claim7 := { stood := { row := dawgPlacesUptoRow, standIns := [], harness := (true, "2cfab7a405446e86f36320e8931b4db3dd0b65117ddc1662eb493445956b60ea"), looks := true }, kinds := [], alts := [], laidByText := true, laidKinds := [.data, .data, .data], laidTests := true, laidLooks := .later }
def DawgPlacesUptoCardSaid : Prop := Claim7.holds Tryd.pinned (.plain (OpenSpec.upto dawgPlacesSpec)) dawgPlacesUptoCard

/-- THE SECOND FORM's CARD OF 'syllabarylaw09.DawgBeginnings'. -/
def dawgBeginningsUptoCard : Claim7 := { stood := { row := dawgBeginningsUptoRow, standIns := [], harness := (true, "2cfab7a405446e86f36320e8931b4db3dd0b65117ddc1662eb493445956b60ea"), looks := true }, kinds := [], alts := [], laidByText := true, laidKinds := [.data, .data, .data], laidTests := true, laidLooks := .later }
def DawgBeginningsUptoCardSaid : Prop := Claim7.holds Tryd.pinned (.plain (OpenSpec.upto dawgBeginningsSpec)) dawgBeginningsUptoCard

/-- THE SECOND FORM's CARD OF 'syllabarylaw09.DawgRefuses'. -/
def dawgRefusesUptoCard : Claim7 := { stood := { row := dawgRefusesUptoRow, standIns := [], harness := (true, "2cfab7a405446e86f36320e8931b4db3dd0b65117ddc1662eb493445956b60ea"), looks := true }, kinds := [], alts := [], laidByText := true, laidKinds := [.data, .data, .data], laidTests := true, laidLooks := .later }
def DawgRefusesUptoCardSaid : Prop := Claim7.holds Tryd.pinned (.plain (OpenSpec.upto dawgRefusesSpec)) dawgRefusesUptoCard

/-- THE SECOND FORM's CARD OF 'syllabarylaw09.DawgSpoilt'. -/
def dawgSpoiltUptoCard : Claim7 := { stood := { row := dawgSpoiltUptoRow, standIns := [], harness := (true, "2cfab7a405446e86f36320e8931b4db3dd0b65117ddc1662eb493445956b60ea"), looks := true }, kinds := [], alts := [], laidByText := true, laidKinds := [.data, .data, .data], laidTests := true, laidLooks := .later }
def DawgSpoiltUptoCardSaid : Prop := Claim7.holds Tryd.pinned (.plain (OpenSpec.upto dawgSpoiltSpec)) dawgSpoiltUptoCard

/-- THE SECOND FORM's CARD OF 'syllabarylaw09.DawgWords'. -/
def dawgWordsUptoCard : Claim7 := { stood := { row := dawgWordsUptoRow, standIns := [], harness := (true, "2cfab7a405446e86f36320e8931b4db3dd0b65117ddc1662eb493445956b60ea"), looks := true }, kinds := [], alts := [], laidByText := true, laidKinds := [.data, .data, .data], laidTests := true, laidLooks := .later }
def DawgWordsUptoCardSaid : Prop := Claim7.holds Tryd.pinned (.plain (OpenSpec.upto dawgWordsSpec)) dawgWordsUptoCard

/-- THE SECOND FORM's CARD OF 'syllabarylaw09.DawgChanges'. -/
def dawgChangesUptoCard : Claim7 := { stood := { row := dawgChangesUptoRow, standIns := [], harness := (true, "2cfab7a405446e86f36320e8931b4db3dd0b65117ddc1662eb493445956b60ea"), looks := true }, kinds := [], alts := [], laidByText := true, laidKinds := [.data, .data, .data], laidTests := true, laidLooks := .later }
def DawgChangesUptoCardSaid : Prop := Claim7.holds Tryd.pinned (.plain (OpenSpec.upto dawgChangesSpec)) dawgChangesUptoCard

/-- THE SECOND FORM's CARD OF 'syllabarylaw10.PackMatchesReference'. -/
def packMatchesReferenceUptoCard : Claim7 := { stood := { row := packMatchesReferenceUptoRow, standIns := [], harness := (true, "2cfab7a405446e86f36320e8931b4db3dd0b65117ddc1662eb493445956b60ea"), looks := true }, kinds := [], alts := [], laidByText := true, laidKinds := [.data, .data, .data], laidTests := true, laidLooks := .later }
def PackMatchesReferenceUptoCardSaid : Prop := Claim7.holds Tryd.pinned (.plain (OpenSpec.upto packMatchesReferenceSpec)) packMatchesReferenceUptoCard

/-- THE SECOND FORM's CARD OF 'syllabarylaw10.PackReads'. -/
def packReadsUptoCard : Claim7 := { stood := { row := packReadsUptoRow, standIns := [], harness := (true, "2cfab7a405446e86f36320e8931b4db3dd0b65117ddc1662eb493445956b60ea"), looks := true }, kinds := [], alts := [], laidByText := true, laidKinds := [.data, .data, .data], laidTests := true, laidLooks := .later }
def PackReadsUptoCardSaid : Prop := Claim7.holds Tryd.pinned (.plain (OpenSpec.upto packReadsSpec)) packReadsUptoCard

/-- THE SECOND FORM's CARD OF 'syllabarylaw10.PackDamage'. -/
def packDamageUptoCard : Claim7 := { stood := { row := packDamageUptoRow, standIns := [], harness := (true, "2cfab7a405446e86f36320e8931b4db3dd0b65117ddc1662eb493445956b60ea"), looks := true }, kinds := [], alts := [], laidByText := true, laidKinds := [.data, .data, .data], laidTests := true, laidLooks := .later }
def PackDamageUptoCardSaid : Prop := Claim7.holds Tryd.pinned (.plain (OpenSpec.upto packDamageSpec)) packDamageUptoCard

/-- THE SECOND FORM's CARD OF 'syllabarylaw10.PackDiffers'. -/
def packDiffersUptoCard : Claim7 := { stood := { row := packDiffersUptoRow, standIns := [], harness := (true, "2cfab7a405446e86f36320e8931b4db3dd0b65117ddc1662eb493445956b60ea"), looks := true }, kinds := [], alts := [], laidByText := true, laidKinds := [.data, .data, .data], laidTests := true, laidLooks := .later }
def PackDiffersUptoCardSaid : Prop := Claim7.holds Tryd.pinned (.plain (OpenSpec.upto packDiffersSpec)) packDiffersUptoCard

/-- THE SECOND FORM's CARD OF 'syllabarylaw10.PackSizes'. -/
def packSizesUptoCard : Claim7 := { stood := { row := packSizesUptoRow, standIns := [], harness := (true, "2cfab7a405446e86f36320e8931b4db3dd0b65117ddc1662eb493445956b60ea"), looks := true }, kinds := [], alts := [], laidByText := true, laidKinds := [.data, .data, .data], laidTests := true, laidLooks := .later }
def PackSizesUptoCardSaid : Prop := Claim7.holds Tryd.pinned (.plain (OpenSpec.upto packSizesSpec)) packSizesUptoCard

/-- THE SECOND FORM's CARD OF 'syllabarylaw10.PackRejects'. -/
def packRejectsUptoCard : Claim7 := { stood := { row := packRejectsUptoRow, standIns := [], harness := (true, "2cfab7a405446e86f36320e8931b4db3dd0b65117ddc1662eb493445956b60ea"), looks := true }, kinds := [], alts := [], laidByText := true, laidKinds := [.data, .data, .data], laidTests := true, laidLooks := .later }
def PackRejectsUptoCardSaid : Prop := Claim7.holds Tryd.pinned (.plain (OpenSpec.upto packRejectsSpec)) packRejectsUptoCard

/-- THE SECOND FORM's CARD OF 'syllabarylaw10.PackWords'. -/
def packWordsUptoCard : Claim7 := { stood := { row := packWordsUptoRow, standIns := [], harness := (true, "2cfab7a405446e86f36320e8931b4db3dd0b65117ddc1662eb493445956b60ea"), looks := true }, kinds := [], alts := [], laidByText := true, laidKinds := [.data, .data, .data], laidTests := true, laidLooks := .later }
def PackWordsUptoCardSaid : Prop := Claim7.holds Tryd.pinned (.plain (OpenSpec.upto packWordsSpec)) packWordsUptoCard
end Rows
end Go.Proofs.YtmmihcophkipoaaDoor
