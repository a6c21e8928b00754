/-
  DERIVED. GIVEN WITH THE SEED: THE CARDS: each row of YtppkmhejeklegaaDoorRows.lean that lists a variable, with what it lists TIED to the program's text (the seventh form; the later family's looks); each row that meets fmt, with fmt's text TOLD by the authors' own Lean function (tested against real Go, not proved from fmt's source: count such statements apart). THE CARD IS WHAT COUNTS. Prove the row's statement (the work); the ties are given (YtppkmhejeklegaaDoorTie.lean); close each card by the builder's one call (the guide's Derived/Test/ToyasCard.lean, 'card_holds'). Laid BY PROGRAM, IN A SANDBOX (cutbox-door.mjs). By AI agents, Wed Nov 11 2026. No macro, syntax, notation, axiom, sorry.
-/
import Derived.Test.YtppkmhejeklegaaDoorRows
import GoSem.ClaimSeven
namespace Go.Proofs.YtppkmhejeklegaaDoor
namespace Rows

/-- THE TIED CARD OF 'recantlaw07.OrderGrows'. -/
def orderGrowsCard : Claim7 := { stood := { row := orderGrowsRow, standIns := [], harness := (true, "5c5532789f6d280a8559ba8f5fd816b43437b4b8f06b9db5b9756b43432a23df"), looks := true }, kinds := [], alts := [], laidByText := true, laidKinds := [.widerDeep], laidTests := true, laidLooks := .later }
def OrderGrowsCardSaid : Prop := Claim7.holds Tryd.pinned (.plain (OpenSpec.ofChange orderGrowsSpec)) orderGrowsCard

/-- THE TIED CARD OF 'recantlaw07.OrderTells'. -/
def orderTellsCard : Claim7 := { stood := { row := orderTellsRow, standIns := [], harness := (true, "5c5532789f6d280a8559ba8f5fd816b43437b4b8f06b9db5b9756b43432a23df"), looks := true }, kinds := [], alts := [], laidByText := true, laidKinds := [.widerDeep], laidTests := true, laidLooks := .later }
def OrderTellsCardSaid : Prop := Claim7.holds Tryd.pinned (.plain (OpenSpec.ofChange orderTellsSpec)) orderTellsCard

/-- THE TIED CARD OF 'recantlaw07.OrderHolds'. -/
def orderHoldsCard : Claim7 := { stood := { row := orderHoldsRow, standIns := [], harness := (true, "5c5532789f6d280a8559ba8f5fd816b43437b4b8f06b9db5b9756b43432a23df"), looks := true }, kinds := [], alts := [], laidByText := true, laidKinds := [.widerDeep], laidTests := true, laidLooks := .later }
def OrderHoldsCardSaid : Prop := Claim7.holds Tryd.pinned (.plain (OpenSpec.ofChange orderHoldsSpec)) orderHoldsCard

/-- THE TIED CARD OF 'recantlaw16.UniqueGrows'. -/
def uniqueGrowsCard : Claim7 := { stood := { row := uniqueGrowsRow, standIns := [], harness := (true, "5c5532789f6d280a8559ba8f5fd816b43437b4b8f06b9db5b9756b43432a23df"), looks := true }, kinds := [], alts := [], laidByText := true, laidKinds := [.widerDeep], laidTests := true, laidLooks := .later }
def UniqueGrowsCardSaid : Prop := Claim7.holds Tryd.pinned (.plain (OpenSpec.ofChange uniqueGrowsSpec)) uniqueGrowsCard

/-- THE TIED CARD OF 'recantlaw16.UniqueSources'. -/
def uniqueSourcesCard : Claim7 := { stood := { row := uniqueSourcesRow, standIns := [], harness := (true, "5c5532789f6d280a8559ba8f5fd816b43437b4b8f06b9db5b9756b43432a23df"), looks := true }, kinds := [], alts := [], laidByText := true, laidKinds := [.widerDeep], laidTests := true, laidLooks := .later }
def UniqueSourcesCardSaid : Prop := Claim7.holds Tryd.pinned (.plain (OpenSpec.ofChange uniqueSourcesSpec)) uniqueSourcesCard

/-- THE TIED CARD OF 'recantlaw17.GraphMore'. -/
def graphMoreCard : Claim7 := { stood := { row := graphMoreRow, standIns := [], harness := (true, "5c5532789f6d280a8559ba8f5fd816b43437b4b8f06b9db5b9756b43432a23df"), looks := true }, kinds := [], alts := [], laidByText := true, laidKinds := [.widerDeep], laidTests := true, laidLooks := .later }
def GraphMoreCardSaid : Prop := Claim7.holds Tryd.pinned (.plain (OpenSpec.ofChange graphMoreSpec)) graphMoreCard

/-- THE TIED CARD OF 'recantlaw17.GraphBuilds'. -/
def graphBuildsCard : Claim7 := { stood := { row := graphBuildsRow, standIns := [], harness := (true, "5c5532789f6d280a8559ba8f5fd816b43437b4b8f06b9db5b9756b43432a23df"), looks := true }, kinds := [], alts := [], laidByText := true, laidKinds := [.widerDeep], laidTests := true, laidLooks := .later }
def GraphBuildsCardSaid : Prop := Claim7.holds Tryd.pinned (.plain (OpenSpec.ofChange graphBuildsSpec)) graphBuildsCard

/-- THE TIED CARD OF 'recantlaw20.EarlyAnswers'. -/
def earlyAnswersCard : Claim7 := { stood := { row := earlyAnswersRow, standIns := [], harness := (true, "5c5532789f6d280a8559ba8f5fd816b43437b4b8f06b9db5b9756b43432a23df"), looks := true }, kinds := [], alts := [], laidByText := true, laidKinds := [.widerDeep], laidTests := true, laidLooks := .later }
def EarlyAnswersCardSaid : Prop := Claim7.holds Tryd.pinned (.plain (OpenSpec.ofChange earlyAnswersSpec)) earlyAnswersCard

/-- THE TIED CARD OF 'recantlaw20.EarlyAsked'. -/
def earlyAskedCard : Claim7 := { stood := { row := earlyAskedRow, standIns := [], harness := (true, "5c5532789f6d280a8559ba8f5fd816b43437b4b8f06b9db5b9756b43432a23df"), looks := true }, kinds := [], alts := [], laidByText := true, laidKinds := [.widerDeep], laidTests := true, laidLooks := .later }
def EarlyAskedCardSaid : Prop := Claim7.holds Tryd.pinned (.plain (OpenSpec.ofChange earlyAskedSpec)) earlyAskedCard

/-- THE TIED CARD OF 'recantlaw17.GraphExplains'. -/
def graphExplainsCard : Claim7 := { stood := { row := graphExplainsRow, standIns := [], harness := (true, "5c5532789f6d280a8559ba8f5fd816b43437b4b8f06b9db5b9756b43432a23df"), looks := true }, kinds := [], alts := [], laidByText := true, laidKinds := [.widerDeep], laidTests := true, laidLooks := .later }
def GraphExplainsCardSaid : Prop := Claim7.holds Tryd.pinned (.plain (OpenSpec.ofChange graphExplainsSpec)) graphExplainsCard

/-- THE TIED CARD OF 'recantlaw09.CompleteChooses'. -/
def completeChoosesCard : Claim7 := { stood := { row := completeChoosesRow, standIns := [], harness := (true, "5c5532789f6d280a8559ba8f5fd816b43437b4b8f06b9db5b9756b43432a23df"), looks := true }, kinds := [], alts := [], laidByText := true, laidKinds := [.widerDeep], laidTests := true, laidLooks := .later }
def CompleteChoosesCardSaid : Prop := Claim7.holds Tryd.pinned (.plain (OpenSpec.ofChange completeChoosesSpec)) completeChoosesCard

/-- THE TIED CARD OF 'recantlaw09.CompleteCount'. -/
def completeCountCard : Claim7 := { stood := { row := completeCountRow, standIns := [], harness := (true, "5c5532789f6d280a8559ba8f5fd816b43437b4b8f06b9db5b9756b43432a23df"), looks := true }, kinds := [], alts := [], laidByText := true, laidKinds := [.widerDeep], laidTests := true, laidLooks := .later }
def CompleteCountCardSaid : Prop := Claim7.holds Tryd.pinned (.plain (OpenSpec.ofChange completeCountSpec)) completeCountCard

/-- THE TIED CARD OF 'recantlaw22.ReachSerial'. -/
def reachSerialCard : Claim7 := { stood := { row := reachSerialRow, standIns := [], harness := (true, "5c5532789f6d280a8559ba8f5fd816b43437b4b8f06b9db5b9756b43432a23df"), looks := true }, kinds := [], alts := [], laidByText := true, laidKinds := [.widerDeep], laidTests := true, laidLooks := .later }
def ReachSerialCardSaid : Prop := Claim7.holds Tryd.pinned (.plain (OpenSpec.ofChange reachSerialSpec)) reachSerialCard

/-- THE TIED CARD OF 'recantlaw09.CompleteEnds'. -/
def completeEndsCard : Claim7 := { stood := { row := completeEndsRow, standIns := [], harness := (true, "5c5532789f6d280a8559ba8f5fd816b43437b4b8f06b9db5b9756b43432a23df"), looks := true }, kinds := [], alts := [], laidByText := true, laidKinds := [.widerDeep], laidTests := true, laidLooks := .later }
def CompleteEndsCardSaid : Prop := Claim7.holds Tryd.pinned (.plain (OpenSpec.ofChange completeEndsSpec)) completeEndsCard

/-- THE TIED CARD OF 'recantlaw12.SerialRows'. -/
def serialRowsCard : Claim7 := { stood := { row := serialRowsRow, standIns := [], harness := (true, "5c5532789f6d280a8559ba8f5fd816b43437b4b8f06b9db5b9756b43432a23df"), looks := true }, kinds := [], alts := [], laidByText := true, laidKinds := [.widerDeep], laidTests := true, laidLooks := .later }
def SerialRowsCardSaid : Prop := Claim7.holds Tryd.pinned (.plain (OpenSpec.ofChange serialRowsSpec)) serialRowsCard

/-- THE TIED CARD OF 'recantlaw12.SerialPart'. -/
def serialPartCard : Claim7 := { stood := { row := serialPartRow, standIns := [], harness := (true, "5c5532789f6d280a8559ba8f5fd816b43437b4b8f06b9db5b9756b43432a23df"), looks := true }, kinds := [], alts := [], laidByText := true, laidKinds := [.widerDeep], laidTests := true, laidLooks := .later }
def SerialPartCardSaid : Prop := Claim7.holds Tryd.pinned (.plain (OpenSpec.ofChange serialPartSpec)) serialPartCard

/-- THE TIED CARD OF 'recantlaw12.SerialSearches'. -/
def serialSearchesCard : Claim7 := { stood := { row := serialSearchesRow, standIns := [], harness := (true, "5c5532789f6d280a8559ba8f5fd816b43437b4b8f06b9db5b9756b43432a23df"), looks := true }, kinds := [], alts := [], laidByText := true, laidKinds := [.widerDeep], laidTests := true, laidLooks := .later }
def SerialSearchesCardSaid : Prop := Claim7.holds Tryd.pinned (.plain (OpenSpec.ofChange serialSearchesSpec)) serialSearchesCard

/-- THE TIED CARD OF 'recantlaw14.StrictChecks'. -/
def strictChecksCard : Claim7 := { stood := { row := strictChecksRow, standIns := [], harness := (true, "5c5532789f6d280a8559ba8f5fd816b43437b4b8f06b9db5b9756b43432a23df"), looks := true }, kinds := [], alts := [], laidByText := true, laidKinds := [.widerDeep], laidTests := true, laidLooks := .later }
def StrictChecksCardSaid : Prop := Claim7.holds Tryd.pinned (.plain (OpenSpec.ofChange strictChecksSpec)) strictChecksCard

/-- THE TIED CARD OF 'recantlaw13.OpaqueLeast'. -/
def opaqueLeastCard : Claim7 := { stood := { row := opaqueLeastRow, standIns := [], harness := (true, "5c5532789f6d280a8559ba8f5fd816b43437b4b8f06b9db5b9756b43432a23df"), looks := true }, kinds := [], alts := [], laidByText := true, laidKinds := [.widerDeep], laidTests := true, laidLooks := .later }
def OpaqueLeastCardSaid : Prop := Claim7.holds Tryd.pinned (.plain (OpenSpec.ofChange opaqueLeastSpec)) opaqueLeastCard

/-- THE SECOND FORM's CARD OF 'recantlaw07.OrderGrows'. -/
def orderGrowsUptoCard : Claim7 := { stood := { row := orderGrowsUptoRow, standIns := [], harness := (true, "5c5532789f6d280a8559ba8f5fd816b43437b4b8f06b9db5b9756b43432a23df"), looks := true }, kinds := [], alts := [], laidByText := true, laidKinds := [.widerDeep], laidTests := true, laidLooks := .later }
def OrderGrowsUptoCardSaid : Prop := Claim7.holds Tryd.pinned (.plain (OpenSpec.upto orderGrowsSpec)) orderGrowsUptoCard

/-- THE SECOND FORM's CARD OF 'recantlaw07.OrderTells'. -/
def orderTellsUptoCard : Claim7 := { stood := { row := orderTellsUptoRow, standIns := [], harness := (true, "5c5532789f6d280a8559ba8f5fd816b43437b4b8f06b9db5b9756b43432a23df"), looks := true }, kinds := [], alts := [], laidByText := true, laidKinds := [.widerDeep], laidTests := true, laidLooks := .later }
def OrderTellsUptoCardSaid : Prop := Claim7.holds Tryd.pinned (.plain (OpenSpec.upto orderTellsSpec)) orderTellsUptoCard

/-- THE SECOND FORM's CARD OF 'recantlaw07.OrderHolds'. -/
def orderHoldsUptoCard : Claim7 := { stood := { row := orderHoldsUptoRow, standIns := [], harness := (true, "5c5532789f6d280a8559ba8f5fd816b43437b4b8f06b9db5b9756b43432a23df"), looks := true }, kinds := [], alts := [], laidByText := true, laidKinds := [.widerDeep], laidTests := true, laidLooks := .later }
def OrderHoldsUptoCardSaid : Prop := Claim7.holds Tryd.pinned (.plain (OpenSpec.upto orderHoldsSpec)) orderHoldsUptoCard

/-- THE SECOND FORM's CARD OF 'recantlaw16.UniqueGrows'. -/
def uniqueGrowsUptoCard : Claim7 := { stood := { row := uniqueGrowsUptoRow, standIns := [], harness := (true, "5c5532789f6d280a8559ba8f5fd816b43437b4b8f06b9db5b9756b43432a23df"), looks := true }, kinds := [], alts := [], laidByText := true, laidKinds := [.widerDeep], laidTests := true, laidLooks := .later }
def UniqueGrowsUptoCardSaid : Prop := Claim7.holds Tryd.pinned (.plain (OpenSpec.upto uniqueGrowsSpec)) uniqueGrowsUptoCard

/-- THE SECOND FORM's CARD OF 'recantlaw16.UniqueSources'. -/
def uniqueSourcesUptoCard : Claim7 := { stood := { row := uniqueSourcesUptoRow, standIns := [], harness := (true, "5c5532789f6d280a8559ba8f5fd816b43437b4b8f06b9db5b9756b43432a23df"), looks := true }, kinds := [], alts := [], laidByText := true, laidKinds := [.widerDeep], laidTests := true, laidLooks := .later }
def UniqueSourcesUptoCardSaid : Prop := Claim7.holds Tryd.pinned (.plain (OpenSpec.upto uniqueSourcesSpec)) uniqueSourcesUptoCard

/-- THE SECOND FORM's CARD OF 'recantlaw17.GraphMore'. -/
def graphMoreUptoCard : Claim7 := { stood := { row := graphMoreUptoRow, standIns := [], harness := (true, "5c5532789f6d280a8559ba8f5fd816b43437b4b8f06b9db5b9756b43432a23df"), looks := true }, kinds := [], alts := [], laidByText := true, laidKinds := [.widerDeep], laidTests := true, laidLooks := .later }
def GraphMoreUptoCardSaid : Prop := Claim7.holds Tryd.pinned (.plain (OpenSpec.upto graphMoreSpec)) graphMoreUptoCard

/-- THE SECOND FORM's CARD OF 'recantlaw17.GraphBuilds'. -/
def graphBuildsUptoCard : Claim7 := { stood := { row := graphBuildsUptoRow, standIns := [], harness := (true, "5c5532789f6d280a8559ba8f5fd816b43437b4b8f06b9db5b9756b43432a23df"), looks := true }, kinds := [], alts := [], laidByText := true, laidKinds := [.widerDeep], laidTests := true, laidLooks := .later }
def GraphBuildsUptoCardSaid : Prop := Claim7.holds Tryd.pinned (.plain (OpenSpec.upto graphBuildsSpec)) graphBuildsUptoCard

/-- THE SECOND FORM's CARD OF 'recantlaw20.EarlyAnswers'. -/
def earlyAnswersUptoCard : Claim7 := { stood := { row := earlyAnswersUptoRow, standIns := [], harness := (true, "5c5532789f6d280a8559ba8f5fd816b43437b4b8f06b9db5b9756b43432a23df"), looks := true }, kinds := [], alts := [], laidByText := true, laidKinds := [.widerDeep], laidTests := true, laidLooks := .later }
def EarlyAnswersUptoCardSaid : Prop := Claim7.holds Tryd.pinned (.plain (OpenSpec.upto earlyAnswersSpec)) earlyAnswersUptoCard

/-- THE SECOND FORM's CARD OF 'recantlaw20.EarlyAsked'. -/
def earlyAskedUptoCard : Claim7 := { stood := { row := earlyAskedUptoRow, standIns := [], harness := (true, "5c5532789f6d280a8559ba8f5fd816b43437b4b8f06b9db5b9756b43432a23df"), looks := true }, kinds := [], alts := [], laidByText := true, laidKinds := [.widerDeep], laidTests := true, laidLooks := .later }
def EarlyAskedUptoCardSaid : Prop := Claim7.holds Tryd.pinned (.plain (OpenSpec.upto earlyAskedSpec)) earlyAskedUptoCard

/-- THE SECOND FORM's CARD OF 'recantlaw17.GraphExplains'. -/
def graphExplainsUptoCard : Claim7 := { stood := { row := graphExplainsUptoRow, standIns := [], harness := (true, "5c5532789f6d280a8559ba8f5fd816b43437b4b8f06b9db5b9756b43432a23df"), looks := true }, kinds := [], alts := [], laidByText := true, laidKinds := [.widerDeep], laidTests := true, laidLooks := .later }
def GraphExplainsUptoCardSaid : Prop := Claim7.holds Tryd.pinned (.plain (OpenSpec.upto graphExplainsSpec)) graphExplainsUptoCard

/-- THE SECOND FORM's CARD OF 'recantlaw09.CompleteChooses'. -/
def completeChoosesUptoCard : Claim7 := { stood := { row := completeChoosesUptoRow, standIns := [], harness := (true, "5c5532789f6d280a8559ba8f5fd816b43437b4b8f06b9db5b9756b43432a23df"), looks := true }, kinds := [], alts := [], laidByText := true, laidKinds := [.widerDeep], laidTests := true, laidLooks := .later }
def CompleteChoosesUptoCardSaid : Prop := Claim7.holds Tryd.pinned (.plain (OpenSpec.upto completeChoosesSpec)) completeChoosesUptoCard

/-- THE SECOND FORM's CARD OF 'recantlaw09.CompleteCount'. -/
def completeCountUptoCard : Claim7 := { stood := { row := completeCountUptoRow, standIns := [], harness := (true, "5c5532789f6d280a8559ba8f5fd816b43437b4b8f06b9db5b9756b43432a23df"), looks := true }, kinds := [], alts := [], laidByText := true, laidKinds := [.widerDeep], laidTests := true, laidLooks := .later }
def CompleteCountUptoCardSaid : Prop := Claim7.holds Tryd.pinned (.plain (OpenSpec.upto completeCountSpec)) completeCountUptoCard

/-- THE SECOND FORM's CARD OF 'recantlaw22.ReachSerial'. -/
def reachSerialUptoCard : Claim7 := { stood := { row := reachSerialUptoRow, standIns := [], harness := (true, "5c5532789f6d280a8559ba8f5fd816b43437b4b8f06b9db5b9756b43432a23df"), looks := true }, kinds := [], alts := [], laidByText := true, laidKinds := [.widerDeep], laidTests := true, laidLooks := .later }
def ReachSerialUptoCardSaid : Prop := Claim7.holds Tryd.pinned (.plain (OpenSpec.upto reachSerialSpec)) reachSerialUptoCard

/-- THE SECOND FORM's CARD OF 'recantlaw09.CompleteEnds'. -/
def completeEndsUptoCard : Claim7 := { stood := { row := completeEndsUptoRow, standIns := [], harness := (true, "5c5532789f6d280a8559ba8f5fd816b43437b4b8f06b9db5b9756b43432a23df"), looks := true }, kinds := [], alts := [], laidByText := true, laidKinds := [.widerDeep], laidTests := true, laidLooks := .later }
def CompleteEndsUptoCardSaid : Prop := Claim7.holds Tryd.pinned (.plain (OpenSpec.upto completeEndsSpec)) completeEndsUptoCard

/-- THE SECOND FORM's CARD OF 'recantlaw12.SerialRows'. -/
def serialRowsUptoCard : Claim7 := { stood := { row := serialRowsUptoRow, standIns := [], harness := (true, "5c5532789f6d280a8559ba8f5fd816b43437b4b8f06b9db5b9756b43432a23df"), looks := true }, kinds := [], alts := [], laidByText := true, laidKinds := [.widerDeep], laidTests := true, laidLooks := .later }
def SerialRowsUptoCardSaid : Prop := Claim7.holds Tryd.pinned (.plain (OpenSpec.upto serialRowsSpec)) serialRowsUptoCard

/-- THE SECOND FORM's CARD OF 'recantlaw12.SerialPart'. -/
def serialPartUptoCard : Claim7 := { stood := { row := serialPartUptoRow, standIns := [], harness := (true, "5c5532789f6d280a8559ba8f5fd816b43437b4b8f06b9db5b9756b43432a23df"), looks := true }, kinds := [], alts := [], laidByText := true, laidKinds := [.widerDeep], laidTests := true, laidLooks := .later }
def SerialPartUptoCardSaid : Prop := Claim7.holds Tryd.pinned (.plain (OpenSpec.upto serialPartSpec)) serialPartUptoCard

/-- THE SECOND FORM's CARD OF 'recantlaw12.SerialSearches'. -/
def serialSearchesUptoCard : Claim7 := { stood := { row := serialSearchesUptoRow, standIns := [], harness := (true, "5c5532789f6d280a8559ba8f5fd816b43437b4b8f06b9db5b9756b43432a23df"), looks := true }, kinds := [], alts := [], laidByText := true, laidKinds := [.widerDeep], laidTests := true, laidLooks := .later }
def SerialSearchesUptoCardSaid : Prop := Claim7.holds Tryd.pinned (.plain (OpenSpec.upto serialSearchesSpec)) serialSearchesUptoCard

/-- THE SECOND FORM's CARD OF 'recantlaw14.StrictChecks'. -/
def strictChecksUptoCard : Claim7 := { stood := { row := strictChecksUptoRow, standIns := [], harness := (true, "5c5532789f6d280a8559ba8f5fd816b43437b4b8f06b9db5b9756b43432a23df"), looks := true }, kinds := [], alts := [], laidByText := true, laidKinds := [.widerDeep], laidTests := true, laidLooks := .later }
def StrictChecksUptoCardSaid : Prop := Claim7.holds Tryd.pinned (.plain (OpenSpec.upto strictChecksSpec)) strictChecksUptoCard

/-- THE SECOND FORM's CARD OF 'recantlaw13.OpaqueLeast'. -/
def opaqueLeastUptoCard : Claim7 := { stood := { row := opaqueLeastUptoRow, standIns := [], harness := (true, "5c5532789f6d280a8559ba8f5fd816b43437b4b8f06b9db5b9756b43432a23df"), looks := true }, kinds := [], alts := [], laidByText := true, laidKinds := [.widerDeep], laidTests := true, laidLooks := .later }
def OpaqueLeastUptoCardSaid : Prop := Claim7.holds Tryd.pinned (.plain (OpenSpec.upto opaqueLeastSpec)) opaqueLeastUptoCard
end Rows
end Go.Proofs.YtppkmhejeklegaaDoor
