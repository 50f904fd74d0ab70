/-
  DERIVED. GIVEN WITH THE SEED: THE CARDS: each row of YthoedngacopaiaaDoorRows.lean that lists a variable, with what it lists TIED to the program's text (the seventh form; the later family's looks); each row that meets fmt, with fmt's text TOLD by the authors' own Lean function (tested against real Go, not proved from fmt's source: count such statements apart). THE CARD IS WHAT COUNTS. Prove the row's statement (the work); the ties are given (YthoedngacopaiaaDoorTie.lean); close each card by the builder's one call (the guide's Derived/Test/ToyasCard.lean, 'card_holds'). Laid BY PROGRAM, IN A SANDBOX (cutbox-door.mjs). By AI agents, Wed Nov 11 2026. No macro, syntax, notation, axiom, sorry.
-/
import Derived.Test.YthoedngacopaiaaDoorRows
import GoSem.ClaimSeven
namespace Go.Proofs.YthoedngacopaiaaDoor
namespace Rows

/-- THE TIED CARD OF 'countinghouselaw01.CoinsTexts'. -/
def coinsTextsCard : Claim7 := { stood := { row := coinsTextsRow, standIns := [], harness := (true, "6062cd0b6b9f4a8a0de60022b3b7bdf0aa73f6467163e47fa6c1d5bab1482f21"), looks := false }, kinds := [], alts := [], laidByText := true, laidKinds := [.data, .data, .data, .data, .pinned], laidTests := true, laidLooks := .later }
def CoinsTextsCardSaid : Prop := Claim7.holds Tryd.pinned (.plain (OpenSpec.ofChange coinsTextsSpec)) coinsTextsCard

/-- THE TIED CARD OF 'countinghouselaw01.CoinsLists'. -/
def coinsListsCard : Claim7 := { stood := { row := coinsListsRow, standIns := [], harness := (true, "6062cd0b6b9f4a8a0de60022b3b7bdf0aa73f6467163e47fa6c1d5bab1482f21"), looks := false }, kinds := [], alts := [], laidByText := true, laidKinds := [.data, .data, .data, .data, .pinned], laidTests := true, laidLooks := .later }
def CoinsListsCardSaid : Prop := Claim7.holds Tryd.pinned (.plain (OpenSpec.ofChange coinsListsSpec)) coinsListsCard

/-- THE TIED CARD OF 'countinghouselaw01.CoinsBetween'. -/
def coinsBetweenCard : Claim7 := { stood := { row := coinsBetweenRow, standIns := [], harness := (true, "6062cd0b6b9f4a8a0de60022b3b7bdf0aa73f6467163e47fa6c1d5bab1482f21"), looks := false }, kinds := [], alts := [], laidByText := true, laidKinds := [.data, .data, .data, .data, .pinned], laidTests := true, laidLooks := .later }
def CoinsBetweenCardSaid : Prop := Claim7.holds Tryd.pinned (.plain (OpenSpec.ofChange coinsBetweenSpec)) coinsBetweenCard

/-- THE TIED CARD OF 'countinghouselaw01.CoinsOrder'. -/
def coinsOrderCard : Claim7 := { stood := { row := coinsOrderRow, standIns := [], harness := (true, "6062cd0b6b9f4a8a0de60022b3b7bdf0aa73f6467163e47fa6c1d5bab1482f21"), looks := false }, kinds := [], alts := [], laidByText := true, laidKinds := [.data, .data, .data, .data, .pinned], laidTests := true, laidLooks := .later }
def CoinsOrderCardSaid : Prop := Claim7.holds Tryd.pinned (.plain (OpenSpec.ofChange coinsOrderSpec)) coinsOrderCard

/-- THE TIED CARD OF 'countinghouselaw01.CoinsDigits'. -/
def coinsDigitsCard : Claim7 := { stood := { row := coinsDigitsRow, standIns := [], harness := (true, "6062cd0b6b9f4a8a0de60022b3b7bdf0aa73f6467163e47fa6c1d5bab1482f21"), looks := false }, kinds := [], alts := [], laidByText := true, laidKinds := [.data, .data, .data, .data, .pinned], laidTests := true, laidLooks := .later }
def CoinsDigitsCardSaid : Prop := Claim7.holds Tryd.pinned (.plain (OpenSpec.ofChange coinsDigitsSpec)) coinsDigitsCard

/-- THE TIED CARD OF 'countinghouselaw01.CoinsBack'. -/
def coinsBackCard : Claim7 := { stood := { row := coinsBackRow, standIns := [], harness := (true, "6062cd0b6b9f4a8a0de60022b3b7bdf0aa73f6467163e47fa6c1d5bab1482f21"), looks := false }, kinds := [], alts := [], laidByText := true, laidKinds := [.data, .data, .data, .data, .pinned], laidTests := true, laidLooks := .later }
def CoinsBackCardSaid : Prop := Claim7.holds Tryd.pinned (.plain (OpenSpec.ofChange coinsBackSpec)) coinsBackCard

/-- THE TIED CARD OF 'countinghouselaw01.CoinsTimes'. -/
def coinsTimesCard : Claim7 := { stood := { row := coinsTimesRow, standIns := [], harness := (true, "6062cd0b6b9f4a8a0de60022b3b7bdf0aa73f6467163e47fa6c1d5bab1482f21"), looks := false }, kinds := [], alts := [], laidByText := true, laidKinds := [.data, .data, .data, .data, .pinned], laidTests := true, laidLooks := .later }
def CoinsTimesCardSaid : Prop := Claim7.holds Tryd.pinned (.plain (OpenSpec.ofChange coinsTimesSpec)) coinsTimesCard

/-- THE TIED CARD OF 'countinghouselaw01.CoinsAdd'. -/
def coinsAddCard : Claim7 := { stood := { row := coinsAddRow, standIns := [], harness := (true, "6062cd0b6b9f4a8a0de60022b3b7bdf0aa73f6467163e47fa6c1d5bab1482f21"), looks := false }, kinds := [], alts := [], laidByText := true, laidKinds := [.data, .data, .data, .data, .pinned], laidTests := true, laidLooks := .later }
def CoinsAddCardSaid : Prop := Claim7.holds Tryd.pinned (.plain (OpenSpec.ofChange coinsAddSpec)) coinsAddCard

/-- THE SECOND FORM's CARD OF 'countinghouselaw01.CoinsTexts'. -/
def coinsTextsUptoCard : Claim7 := { stood := { row := coinsTextsUptoRow, standIns := [], harness := (true, "6062cd0b6b9f4a8a0de60022b3b7bdf0aa73f6467163e47fa6c1d5bab1482f21"), looks := false }, kinds := [], alts := [], laidByText := true, laidKinds := [.data, .data, .data, .data, .pinned], laidTests := true, laidLooks := .later }
def CoinsTextsUptoCardSaid : Prop := Claim7.holds Tryd.pinned (.plain (OpenSpec.upto coinsTextsSpec)) coinsTextsUptoCard

/-- THE SECOND FORM's CARD OF 'countinghouselaw01.CoinsLists'. -/
def coinsListsUptoCard : Claim7 := { stood := { row := coinsListsUptoRow, standIns := [], harness := (true, "6062cd0b6b9f4a8a0de60022b3b7bdf0aa73f6467163e47fa6c1d5bab1482f21"), looks := false }, kinds := [], alts := [], laidByText := true, laidKinds := [.data, .data, .data, .data, .pinned], laidTests := true, laidLooks := .later }
def CoinsListsUptoCardSaid : Prop := Claim7.holds Tryd.pinned (.plain (OpenSpec.upto coinsListsSpec)) coinsListsUptoCard

/-- THE SECOND FORM's CARD OF 'countinghouselaw01.CoinsBetween'. -/
def coinsBetweenUptoCard : Claim7 := { stood := { row := coinsBetweenUptoRow, standIns := [], harness := (true, "6062cd0b6b9f4a8a0de60022b3b7bdf0aa73f6467163e47fa6c1d5bab1482f21"), looks := false }, kinds := [], alts := [], laidByText := true, laidKinds := [.data, .data, .data, .data, .pinned], laidTests := true, laidLooks := .later }
def CoinsBetweenUptoCardSaid : Prop := Claim7.holds Tryd.pinned (.plain (OpenSpec.upto coinsBetweenSpec)) coinsBetweenUptoCard

/-- THE SECOND FORM's CARD OF 'countinghouselaw01.CoinsOrder'. -/
def coinsOrderUptoCard : Claim7 := { stood := { row := coinsOrderUptoRow, standIns := [], harness := (true, "6062cd0b6b9f4a8a0de60022b3b7bdf0aa73f6467163e47fa6c1d5bab1482f21"), looks := false }, kinds := [], alts := [], laidByText := true, laidKinds := [.data, .data, .data, .data, .pinned], laidTests := true, laidLooks := .later }
def CoinsOrderUptoCardSaid : Prop := Claim7.holds Tryd.pinned (.plain (OpenSpec.upto coinsOrderSpec)) coinsOrderUptoCard

/-- THE SECOND FORM's CARD OF 'countinghouselaw01.CoinsDigits'. -/
def coinsDigitsUptoCard : Claim7 := { stood := { row := coinsDigitsUptoRow, standIns := [], harness := (true, "6062cd0b6b9f4a8a0de60022b3b7bdf0aa73f6467163e47fa6c1d5bab1482f21"), looks := false }, kinds := [], alts := [], laidByText := true, laidKinds := [.data, .data, .data, .data, .pinned], laidTests := true, laidLooks := .later }
def CoinsDigitsUptoCardSaid : Prop := Claim7.holds Tryd.pinned (.plain (OpenSpec.upto coinsDigitsSpec)) coinsDigitsUptoCard

/-- THE SECOND FORM's CARD OF 'countinghouselaw01.CoinsBack'. -/
def coinsBackUptoCard : Claim7 := { stood := { row := coinsBackUptoRow, standIns := [], harness := (true, "6062cd0b6b9f4a8a0de60022b3b7bdf0aa73f6467163e47fa6c1d5bab1482f21"), looks := false }, kinds := [], alts := [], laidByText := true, laidKinds := [.data, .data, .data, .data, .pinned], laidTests := true, laidLooks := .later }
def CoinsBackUptoCardSaid : Prop := Claim7.holds Tryd.pinned (.plain (OpenSpec.upto coinsBackSpec)) coinsBackUptoCard

/-- THE SECOND FORM's CARD OF 'countinghouselaw01.CoinsTimes'. -/
def coinsTimesUptoCard : Claim7 := { stood := { row := coinsTimesUptoRow, standIns := [], harness := (true, "6062cd0b6b9f4a8a0de60022b3b7bdf0aa73f6467163e47fa6c1d5bab1482f21"), looks := false }, kinds := [], alts := [], laidByText := true, laidKinds := [.data, .data, .data, .data, .pinned], laidTests := true, laidLooks := .later }
def CoinsTimesUptoCardSaid : Prop := Claim7.holds Tryd.pinned (.plain (OpenSpec.upto coinsTimesSpec)) coinsTimesUptoCard

/-- THE SECOND FORM's CARD OF 'countinghouselaw01.CoinsAdd'. -/
def coinsAddUptoCard : Claim7 := { stood := { row := coinsAddUptoRow, standIns := [], harness := (true, "6062cd0b6b9f4a8a0de60022b3b7bdf0aa73f6467163e47fa6c1d5bab1482f21"), looks := false }, kinds := [], alts := [], laidByText := true, laidKinds := [.data, .data, .data, .data, .pinned], laidTests := true, laidLooks := .later }
def CoinsAddUptoCardSaid : Prop := Claim7.holds Tryd.pinned (.plain (OpenSpec.upto coinsAddSpec)) coinsAddUptoCard
end Rows
end Go.Proofs.YthoedngacopaiaaDoor
