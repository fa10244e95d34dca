/-
  DERIVED. GIVEN WITH THE SEED: THE CARDS: each row of YtpahmbimajicgaaGreatDoorRows.lean that lists a variable, with what it lists TIED to the program's text (the seventh form; the later family's looks); each row that meets fmt, with fmt's text TOLD by the authors' own Lean function (tested against real Go, not proved from fmt's source: count such statements apart). THE CARD IS WHAT COUNTS. Prove the row's statement (the work); the ties are given (YtpahmbimajicgaaGreatDoorTie.lean); close each card by the builder's one call (the guide's Derived/Test/ToyasCard.lean, 'card_holds'). Laid BY PROGRAM, IN A SANDBOX (cutbox-door.mjs). By AI agents, Wed Nov 11 2026. No macro, syntax, notation, axiom, sorry.
-/
import Derived.Test.YtpahmbimajicgaaGreatDoorRows
import GoSem.ClaimSeven
namespace Go.Proofs.YtpahmbimajicgaaGreatDoor
namespace Rows

/-- THE TIED CARD OF 'galleylaw12.WalkNames'. -/
def walkNamesCard : Claim7 := { stood := { row := walkNamesRow, standIns := [], harness := (true, "e8b5a0c1f4a3aee2533ea865205f28856ad8cc204e9c9f473cdfc0a91b099ad0"), looks := true }, kinds := [], alts := [], laidByText := true, laidKinds := [.data], laidTests := true, laidLooks := .later }
def WalkNamesCardSaid : Prop := Claim7.holds Tryz.pinned (.plain (OpenSpec.ofChange walkNamesSpec)) walkNamesCard

/-- THE TIED CARD OF 'galleylaw09.MutateSound'. -/
def mutateSoundCard : Claim7 := { stood := { row := mutateSoundRow, standIns := [], harness := (true, "e8b5a0c1f4a3aee2533ea865205f28856ad8cc204e9c9f473cdfc0a91b099ad0"), looks := true }, kinds := [], alts := [], laidByText := true, laidKinds := [.data], laidTests := true, laidLooks := .later }
def MutateSoundCardSaid : Prop := Claim7.holds Tryz.pinned (.plain (OpenSpec.ofChange mutateSoundSpec)) mutateSoundCard

/-- THE TIED CARD OF 'galleylaw09.MutatePlays'. -/
def mutatePlaysCard : Claim7 := { stood := { row := mutatePlaysRow, standIns := [], harness := (true, "e8b5a0c1f4a3aee2533ea865205f28856ad8cc204e9c9f473cdfc0a91b099ad0"), looks := true }, kinds := [], alts := [], laidByText := true, laidKinds := [.data, .data], laidTests := true, laidLooks := .later }
def MutatePlaysCardSaid : Prop := Claim7.holds Tryz.pinned (.plain (OpenSpec.ofChange mutatePlaysSpec)) mutatePlaysCard

/-- THE TIED CARD OF 'galleylaw12.WalkWhole'. -/
def walkWholeCard : Claim7 := { stood := { row := walkWholeRow, standIns := [], harness := (true, "e8b5a0c1f4a3aee2533ea865205f28856ad8cc204e9c9f473cdfc0a91b099ad0"), looks := true }, kinds := [], alts := [], laidByText := true, laidKinds := [.data, .data], laidTests := true, laidLooks := .later }
def WalkWholeCardSaid : Prop := Claim7.holds Tryz.pinned (.plain (OpenSpec.ofChange walkWholeSpec)) walkWholeCard

/-- THE TIED CARD OF 'galleylaw12.WalkBack'. -/
def walkBackCard : Claim7 := { stood := { row := walkBackRow, standIns := [], harness := (true, "e8b5a0c1f4a3aee2533ea865205f28856ad8cc204e9c9f473cdfc0a91b099ad0"), looks := true }, kinds := [], alts := [], laidByText := true, laidKinds := [.data, .data], laidTests := true, laidLooks := .later }
def WalkBackCardSaid : Prop := Claim7.holds Tryz.pinned (.plain (OpenSpec.ofChange walkBackSpec)) walkBackCard

/-- THE TIED CARD OF 'galleylaw12.WalkPlays'. -/
def walkPlaysCard : Claim7 := { stood := { row := walkPlaysRow, standIns := [], harness := (true, "e8b5a0c1f4a3aee2533ea865205f28856ad8cc204e9c9f473cdfc0a91b099ad0"), looks := true }, kinds := [], alts := [], laidByText := true, laidKinds := [.data, .data, .data], laidTests := true, laidLooks := .later }
def WalkPlaysCardSaid : Prop := Claim7.holds Tryz.pinned (.plain (OpenSpec.ofChange walkPlaysSpec)) walkPlaysCard

/-- THE SECOND FORM's CARD OF 'galleylaw12.WalkNames'. -/
def walkNamesUptoCard : Claim7 := { stood := { row := walkNamesUptoRow, standIns := [], harness := (true, "e8b5a0c1f4a3aee2533ea865205f28856ad8cc204e9c9f473cdfc0a91b099ad0"), looks := true }, kinds := [], alts := [], laidByText := true, laidKinds := [.data], laidTests := true, laidLooks := .later }
def WalkNamesUptoCardSaid : Prop := Claim7.holds Tryz.pinned (.plain (OpenSpec.upto walkNamesSpec)) walkNamesUptoCard

/-- THE SECOND FORM's CARD OF 'galleylaw09.MutateSound'. -/
def mutateSoundUptoCard : Claim7 := { stood := { row := mutateSoundUptoRow, standIns := [], harness := (true, "e8b5a0c1f4a3aee2533ea865205f28856ad8cc204e9c9f473cdfc0a91b099ad0"), looks := true }, kinds := [], alts := [], laidByText := true, laidKinds := [.data], laidTests := true, laidLooks := .later }
def MutateSoundUptoCardSaid : Prop := Claim7.holds Tryz.pinned (.plain (OpenSpec.upto mutateSoundSpec)) mutateSoundUptoCard

/-- THE SECOND FORM's CARD OF 'galleylaw09.MutatePlays'. -/
def mutatePlaysUptoCard : Claim7 := { stood := { row := mutatePlaysUptoRow, standIns := [], harness := (true, "e8b5a0c1f4a3aee2533ea865205f28856ad8cc204e9c9f473cdfc0a91b099ad0"), looks := true }, kinds := [], alts := [], laidByText := true, laidKinds := [.data, .data], laidTests := true, laidLooks := .later }
def MutatePlaysUptoCardSaid : Prop := Claim7.holds Tryz.pinned (.plain (OpenSpec.upto mutatePlaysSpec)) mutatePlaysUptoCard

/-- THE SECOND FORM's CARD OF 'galleylaw12.WalkWhole'. -/
def walkWholeUptoCard : Claim7 := { stood := { row := walkWholeUptoRow, standIns := [], harness := (true, "e8b5a0c1f4a3aee2533ea865205f28856ad8cc204e9c9f473cdfc0a91b099ad0"), looks := true }, kinds := [], alts := [], laidByText := true, laidKinds := [.data, .data], laidTests := true, laidLooks := .later }
def WalkWholeUptoCardSaid : Prop := Claim7.holds Tryz.pinned (.plain (OpenSpec.upto walkWholeSpec)) walkWholeUptoCard

/-- THE SECOND FORM's CARD OF 'galleylaw12.WalkBack'. -/
def walkBackUptoCard : Claim7 := { stood := { row := walkBackUptoRow, standIns := [], harness := (true, "e8b5a0c1f4a3aee2533ea865205f28856ad8cc204e9c9f473cdfc0a91b099ad0"), looks := true }, kinds := [], alts := [], laidByText := true, laidKinds := [.data, .data], laidTests := true, laidLooks := .later }
def WalkBackUptoCardSaid : Prop := Claim7.holds Tryz.pinned (.plain (OpenSpec.upto walkBackSpec)) walkBackUptoCard

/-- THE SECOND FORM's CARD OF 'galleylaw12.WalkPlays'. -/
def walkPlaysUptoCard : Claim7 := { stood := { row := walkPlaysUptoRow, standIns := [], harness := (true, "e8b5a0c1f4a3aee2533ea865205f28856ad8cc204e9c9f473cdfc0a91b099ad0"), looks := true }, kinds := [], alts := [], laidByText := true, laidKinds := [.data, .data, .data], laidTests := true, laidLooks := .later }
def WalkPlaysUptoCardSaid : Prop := Claim7.holds Tryz.pinned (.plain (OpenSpec.upto walkPlaysSpec)) walkPlaysUptoCard
end Rows
end Go.Proofs.YtpahmbimajicgaaGreatDoor
