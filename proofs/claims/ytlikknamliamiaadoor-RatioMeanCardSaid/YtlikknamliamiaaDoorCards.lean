/-
  DERIVED. GIVEN WITH THE SEED: THE CARDS: each row of YtlikknamliamiaaDoorRows.lean that lists a variable, with what it lists TIED to the program's text (the seventh form; the later family's looks); each row that meets fmt, with fmt's text TOLD by the authors' own Lean function (tested against real Go, not proved from fmt's source: count such statements apart). THE CARD IS WHAT COUNTS. Prove the row's statement (the work); the ties are given (YtlikknamliamiaaDoorTie.lean); close each card by the builder's one call (the guide's Derived/Test/ToyasCard.lean, 'card_holds'). Laid BY PROGRAM, IN A SANDBOX (cutbox-door.mjs). By AI agents, Wed Nov 11 2026. No macro, syntax, notation, axiom, sorry.
-/
import Derived.Test.YtlikknamliamiaaDoorRows
import GoSem.ClaimSeven
namespace Go.Proofs.YtlikknamliamiaaDoor
namespace Rows

/-- THE TIED CARD OF 'countinghouselaw19.RatioTimes'. -/
def ratioTimesCard : Claim7 := { stood := { row := ratioTimesRow, standIns := [], harness := (true, "f478f7247628e6043797fab186bea7a7b06fcf06c7ddf58dfff38eb28ddba757"), looks := false }, kinds := [], alts := [], laidByText := true, laidKinds := [.data, .data, .data], laidTests := true, laidLooks := .later }
def RatioTimesCardSaid : Prop := Claim7.holds Tryd.pinned (.plain (OpenSpec.ofChange ratioTimesSpec)) ratioTimesCard

/-- THE TIED CARD OF 'countinghouselaw19.RatioNear'. -/
def ratioNearCard : Claim7 := { stood := { row := ratioNearRow, standIns := [], harness := (true, "f478f7247628e6043797fab186bea7a7b06fcf06c7ddf58dfff38eb28ddba757"), looks := false }, kinds := [], alts := [], laidByText := true, laidKinds := [.data, .data, .data], laidTests := true, laidLooks := .later }
def RatioNearCardSaid : Prop := Claim7.holds Tryd.pinned (.plain (OpenSpec.ofChange ratioNearSpec)) ratioNearCard

/-- THE TIED CARD OF 'countinghouselaw19.RatioOnce'. -/
def ratioOnceCard : Claim7 := { stood := { row := ratioOnceRow, standIns := [], harness := (true, "f478f7247628e6043797fab186bea7a7b06fcf06c7ddf58dfff38eb28ddba757"), looks := false }, kinds := [], alts := [], laidByText := true, laidKinds := [.data, .data, .data], laidTests := true, laidLooks := .later }
def RatioOnceCardSaid : Prop := Claim7.holds Tryd.pinned (.plain (OpenSpec.ofChange ratioOnceSpec)) ratioOnceCard

/-- THE TIED CARD OF 'countinghouselaw19.RatioShows'. -/
def ratioShowsCard : Claim7 := { stood := { row := ratioShowsRow, standIns := [], harness := (true, "f478f7247628e6043797fab186bea7a7b06fcf06c7ddf58dfff38eb28ddba757"), looks := false }, kinds := [], alts := [], laidByText := true, laidKinds := [.data, .data, .data], laidTests := true, laidLooks := .later }
def RatioShowsCardSaid : Prop := Claim7.holds Tryd.pinned (.plain (OpenSpec.ofChange ratioShowsSpec)) ratioShowsCard

/-- THE TIED CARD OF 'countinghouselaw19.RatioMean'. -/
def ratioMeanCard : Claim7 := { stood := { row := ratioMeanRow, standIns := [], harness := (true, "f478f7247628e6043797fab186bea7a7b06fcf06c7ddf58dfff38eb28ddba757"), looks := false }, kinds := [], alts := [], laidByText := true, laidKinds := [.data, .data, .data], laidTests := true, laidLooks := .later }
def RatioMeanCardSaid : Prop := Claim7.holds Tryd.pinned (.plain (OpenSpec.ofChange ratioMeanSpec)) ratioMeanCard

/-- THE TIED CARD OF 'countinghouselaw19.RatioLeft'. -/
def ratioLeftCard : Claim7 := { stood := { row := ratioLeftRow, standIns := [], harness := (true, "f478f7247628e6043797fab186bea7a7b06fcf06c7ddf58dfff38eb28ddba757"), looks := false }, kinds := [], alts := [], laidByText := true, laidKinds := [.data, .data, .data], laidTests := true, laidLooks := .later }
def RatioLeftCardSaid : Prop := Claim7.holds Tryd.pinned (.plain (OpenSpec.ofChange ratioLeftSpec)) ratioLeftCard

/-- THE SECOND FORM's CARD OF 'countinghouselaw19.RatioTimes'. -/
def ratioTimesUptoCard : Claim7 := { stood := { row := ratioTimesUptoRow, standIns := [], harness := (true, "f478f7247628e6043797fab186bea7a7b06fcf06c7ddf58dfff38eb28ddba757"), looks := false }, kinds := [], alts := [], laidByText := true, laidKinds := [.data, .data, .data], laidTests := true, laidLooks := .later }
def RatioTimesUptoCardSaid : Prop := Claim7.holds Tryd.pinned (.plain (OpenSpec.upto ratioTimesSpec)) ratioTimesUptoCard

/-- THE SECOND FORM's CARD OF 'countinghouselaw19.RatioNear'. -/
def ratioNearUptoCard : Claim7 := { stood := { row := ratioNearUptoRow, standIns := [], harness := (true, "f478f7247628e6043797fab186bea7a7b06fcf06c7ddf58dfff38eb28ddba757"), looks := false }, kinds := [], alts := [], laidByText := true, laidKinds := [.data, .data, .data], laidTests := true, laidLooks := .later }
def RatioNearUptoCardSaid : Prop := Claim7.holds Tryd.pinned (.plain (OpenSpec.upto ratioNearSpec)) ratioNearUptoCard

/-- THE SECOND FORM's CARD OF 'countinghouselaw19.RatioOnce'. -/
def ratioOnceUptoCard : Claim7 := { stood := { row := ratioOnceUptoRow, standIns := [], harness := (true, "f478f7247628e6043797fab186bea7a7b06fcf06c7ddf58dfff38eb28ddba757"), looks := false }, kinds := [], alts := [], laidByText := true, laidKinds := [.data, .data, .data], laidTests := true, laidLooks := .later }
def RatioOnceUptoCardSaid : Prop := Claim7.holds Tryd.pinned (.plain (OpenSpec.upto ratioOnceSpec)) ratioOnceUptoCard

/-- THE SECOND FORM's CARD OF 'countinghouselaw19.RatioShows'. -/
def ratioShowsUptoCard : Claim7 := { stood := { row := ratioShowsUptoRow, standIns := [], harness := (true, "f478f7247628e6043797fab186bea7a7b06fcf06c7ddf58dfff38eb28ddba757"), looks := false }, kinds := [], alts := [], laidByText := true, laidKinds := [.data, .data, .data], laidTests := true, laidLooks := .later }
def RatioShowsUptoCardSaid : Prop := Claim7.holds Tryd.pinned (.plain (OpenSpec.upto ratioShowsSpec)) ratioShowsUptoCard

/-- THE SECOND FORM's CARD OF 'countinghouselaw19.RatioMean'. -/
def ratioMeanUptoCard : Claim7 := { stood := { row := ratioMeanUptoRow, standIns := [], harness := (true, "f478f7247628e6043797fab186bea7a7b06fcf06c7ddf58dfff38eb28ddba757"), looks := false }, kinds := [], alts := [], laidByText := true, laidKinds := [.data, .data, .data], laidTests := true, laidLooks := .later }
def RatioMeanUptoCardSaid : Prop := Claim7.holds Tryd.pinned (.plain (OpenSpec.upto ratioMeanSpec)) ratioMeanUptoCard

/-- THE SECOND FORM's CARD OF 'countinghouselaw19.RatioLeft'. -/
def ratioLeftUptoCard : Claim7 := { stood := { row := ratioLeftUptoRow, standIns := [], harness := (true, "f478f7247628e6043797fab186bea7a7b06fcf06c7ddf58dfff38eb28ddba757"), looks := false }, kinds := [], alts := [], laidByText := true, laidKinds := [.data, .data, .data], laidTests := true, laidLooks := .later }
def RatioLeftUptoCardSaid : Prop := Claim7.holds Tryd.pinned (.plain (OpenSpec.upto ratioLeftSpec)) ratioLeftUptoCard
end Rows
end Go.Proofs.YtlikknamliamiaaDoor
