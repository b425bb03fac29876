/-
  DERIVED. GIVEN WITH THE SEED: THE CARDS: each row of YtlolgojfeijjhaaGreatDoorRows.lean that lists a variable, with what it lists TIED to the program's text (the seventh form; the later family's looks); each row that meets fmt, with fmt's text TOLD by the authors' own Lean function (tested against real Go, not proved from fmt's source: count such statements apart). THE CARD IS WHAT COUNTS. Prove the row's statement (the work); the ties are given (YtlolgojfeijjhaaGreatDoorTie.lean); close each card by the builder's one call (the guide's Derived/Test/ToyasCard.lean, 'card_holds'). Laid BY PROGRAM, IN A SANDBOX (cutbox-door.mjs). By AI agents, Wed Nov 11 2026. No macro, syntax, notation, axiom, sorry.
-/
import Derived.Test.YtlolgojfeijjhaaGreatDoorRows
import GoSem.ClaimSeven
namespace Go.Proofs.YtlolgojfeijjhaaGreatDoor
namespace Rows

/-- THE TIED CARD OF 'penumbralaw20.FilmDumps'. -/
def filmDumpsCard : Claim7 := { stood := { row := filmDumpsRow, standIns := [], harness := (true, "665c279674bed875516e7f0e0e3c67fee24c0fb84efa4a3c0beec7aefdd29c2f"), looks := false }, kinds := [], alts := [], laidByText := true, laidKinds := [.data, .data, .data, .data, .pinned], laidTests := true, laidLooks := .later }
def FilmDumpsCardSaid : Prop := Claim7.holds Tryz.pinned (.plain (OpenSpec.ofChange filmDumpsSpec)) filmDumpsCard

/-- THE TIED CARD OF 'penumbralaw20.FilmAdds'. -/
def filmAddsCard : Claim7 := { stood := { row := filmAddsRow, standIns := [], harness := (true, "665c279674bed875516e7f0e0e3c67fee24c0fb84efa4a3c0beec7aefdd29c2f"), looks := false }, kinds := [], alts := [], laidByText := true, laidKinds := [.data, .data, .data, .data, .pinned], laidTests := true, laidLooks := .later }
def FilmAddsCardSaid : Prop := Claim7.holds Tryz.pinned (.plain (OpenSpec.ofChange filmAddsSpec)) filmAddsCard

/-- THE TIED CARD OF 'penumbralaw20.FilmCodes'. -/
def filmCodesCard : Claim7 := { stood := { row := filmCodesRow, standIns := [], harness := (true, "665c279674bed875516e7f0e0e3c67fee24c0fb84efa4a3c0beec7aefdd29c2f"), looks := false }, kinds := [], alts := [], laidByText := true, laidKinds := [.data, .data, .data, .data, .pinned], laidTests := true, laidLooks := .later }
def FilmCodesCardSaid : Prop := Claim7.holds Tryz.pinned (.plain (OpenSpec.ofChange filmCodesSpec)) filmCodesCard

/-- THE TIED CARD OF 'penumbralaw20.FilmSums'. -/
def filmSumsCard : Claim7 := { stood := { row := filmSumsRow, standIns := [], harness := (true, "665c279674bed875516e7f0e0e3c67fee24c0fb84efa4a3c0beec7aefdd29c2f"), looks := false }, kinds := [], alts := [], laidByText := true, laidKinds := [.data, .data, .data, .data, .pinned], laidTests := true, laidLooks := .later }
def FilmSumsCardSaid : Prop := Claim7.holds Tryz.pinned (.plain (OpenSpec.ofChange filmSumsSpec)) filmSumsCard

/-- THE TIED CARD OF 'penumbralaw20.FilmBack'. -/
def filmBackCard : Claim7 := { stood := { row := filmBackRow, standIns := [], harness := (true, "665c279674bed875516e7f0e0e3c67fee24c0fb84efa4a3c0beec7aefdd29c2f"), looks := false }, kinds := [], alts := [], laidByText := true, laidKinds := [.data, .data, .data, .data, .pinned], laidTests := true, laidLooks := .later }
def FilmBackCardSaid : Prop := Claim7.holds Tryz.pinned (.plain (OpenSpec.ofChange filmBackSpec)) filmBackCard

/-- THE SECOND FORM's CARD OF 'penumbralaw20.FilmDumps'. -/
def filmDumpsUptoCard : Claim7 := { stood := { row := filmDumpsUptoRow, standIns := [], harness := (true, "665c279674bed875516e7f0e0e3c67fee24c0fb84efa4a3c0beec7aefdd29c2f"), looks := false }, kinds := [], alts := [], laidByText := true, laidKinds := [.data, .data, .data, .data, .pinned], laidTests := true, laidLooks := .later }
def FilmDumpsUptoCardSaid : Prop := Claim7.holds Tryz.pinned (.plain (OpenSpec.upto filmDumpsSpec)) filmDumpsUptoCard

/-- THE SECOND FORM's CARD OF 'penumbralaw20.FilmAdds'. -/
def filmAddsUptoCard : Claim7 := { stood := { row := filmAddsUptoRow, standIns := [], harness := (true, "665c279674bed875516e7f0e0e3c67fee24c0fb84efa4a3c0beec7aefdd29c2f"), looks := false }, kinds := [], alts := [], laidByText := true, laidKinds := [.data, .data, .data, .data, .pinned], laidTests := true, laidLooks := .later }
def FilmAddsUptoCardSaid : Prop := Claim7.holds Tryz.pinned (.plain (OpenSpec.upto filmAddsSpec)) filmAddsUptoCard

/-- THE SECOND FORM's CARD OF 'penumbralaw20.FilmCodes'. -/
def filmCodesUptoCard : Claim7 := { stood := { row := filmCodesUptoRow, standIns := [], harness := (true, "665c279674bed875516e7f0e0e3c67fee24c0fb84efa4a3c0beec7aefdd29c2f"), looks := false }, kinds := [], alts := [], laidByText := true, laidKinds := [.data, .data, .data, .data, .pinned], laidTests := true, laidLooks := .later }
def FilmCodesUptoCardSaid : Prop := Claim7.holds Tryz.pinned (.plain (OpenSpec.upto filmCodesSpec)) filmCodesUptoCard

/-- THE SECOND FORM's CARD OF 'penumbralaw20.FilmSums'. -/
def filmSumsUptoCard : Claim7 := { stood := { row := filmSumsUptoRow, standIns := [], harness := (true, "665c279674bed875516e7f0e0e3c67fee24c0fb84efa4a3c0beec7aefdd29c2f"), looks := false }, kinds := [], alts := [], laidByText := true, laidKinds := [.data, .data, .data, .data, .pinned], laidTests := true, laidLooks := .later }
def FilmSumsUptoCardSaid : Prop := Claim7.holds Tryz.pinned (.plain (OpenSpec.upto filmSumsSpec)) filmSumsUptoCard

/-- THE SECOND FORM's CARD OF 'penumbralaw20.FilmBack'. -/
def filmBackUptoCard : Claim7 := { stood := { row := filmBackUptoRow, standIns := [], harness := (true, "665c279674bed875516e7f0e0e3c67fee24c0fb84efa4a3c0beec7aefdd29c2f"), looks := false }, kinds := [], alts := [], laidByText := true, laidKinds := [.data, .data, .data, .data, .pinned], laidTests := true, laidLooks := .later }
def FilmBackUptoCardSaid : Prop := Claim7.holds Tryz.pinned (.plain (OpenSpec.upto filmBackSpec)) filmBackUptoCard
end Rows
end Go.Proofs.YtlolgojfeijjhaaGreatDoor
