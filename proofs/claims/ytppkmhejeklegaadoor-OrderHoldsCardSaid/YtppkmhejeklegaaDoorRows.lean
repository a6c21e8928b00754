/-
  NARROWER THAN 'FOR EVERY INPUT', by the rows' own cells (each row's printed sentence says how): OrderGrows: laid · OrderTells: laid · OrderHolds: laid · UniqueGrows: laid · UniqueSources: laid · GraphMore: laid · GraphBuilds: laid · EarlyAnswers: laid · EarlyAsked: laid · GraphExplains: laid · CompleteChooses: laid · CompleteCount: laid · ReachSerial: laid · CompleteEnds: laid · SerialRows: laid · SerialPart: laid · SerialSearches: laid · StrictChecks: laid · OpaqueLeast: laid.
  DERIVED. THE GIVEN ROWS OF THIS SEAT. 19 by the template 'for every input the law returns true; each argument reads behind the call as it read before'; 0 by the template 'total and deterministic' (their statements: YtppkmhejeklegaaDoorTotals.lean).
  GIVEN WITH THE SEED: the statements are not yours to turn. If you find one false, say at which input.
  Laid BY PROGRAM, IN A SANDBOX (cutbox-rows.mjs): the forced cells as the released guide's own fill.sh prints them over the translation 52cd1d7d11357dae… (all of the seat's roots in one cut). By AI agents, Wed Nov 11 2026. No macro, syntax, notation, axiom, sorry.
-/
import Derived.Test.YtppkmhejeklegaaDoorChecked
import GoSem.Claim
import GoSem.ClaimJoined
import GoSem.ClaimMapViews
import Derived.JoinedTies
import Derived.KernelRfl
namespace Go.Proofs.YtppkmhejeklegaaDoor
/- THE CELL 'sum', in the pinned program and in every row, IS THE sha256 OF THE DUMP (.gsa) THAT YtppkmhejeklegaaDoorProg.lean LOADS. Nothing in Lean hashes anything: it is a label: what it is worth is what the hold of that sum in a sandbox is worth. -/
noncomputable def Tryd.pinned : Pinned := { name := "ytppkmhejeklegaadoor", sum := "52cd1d7d11357dae18d39a0221b476934ccd9e5fd56860e395faa7c1a1ec9bbe", checked := Tryd.checked }
namespace Rows
def none {H : Type} : Left H := { results := [], args := [] }

/- WHAT THE LISTED PACKAGE-LEVEL VARIABLES READ AS WHEN THE CALL BEGINS. Each datum BY PROGRAM (the guide's laid-datum.mjs) off the statement by which the dump's own 'gosem.cut.vars' lays the variable. In a bare row this is a premise. The card (YtppkmhejeklegaaDoorCards.lean) ties it to the program's text. -/
def laid_recant_text_kinds {H : Type} : DataW H := .agg [.agg [.lit (.string [98, 101, 103, 105, 110]), .lit (.bool false), .lit (.bool false)], .agg [.lit (.string [98, 101, 103, 117, 110]), .lit (.bool false), .lit (.bool false)], .agg [.lit (.string [114, 101, 97, 100]), .lit (.bool true), .lit (.bool false)], .agg [.lit (.string [103, 111, 116]), .lit (.bool false), .lit (.bool true)], .agg [.lit (.string [119, 114, 105, 116, 101]), .lit (.bool true), .lit (.bool true)], .agg [.lit (.string [119, 114, 111, 116, 101]), .lit (.bool false), .lit (.bool false)], .agg [.lit (.string [99, 111, 109, 109, 105, 116]), .lit (.bool false), .lit (.bool false)], .agg [.lit (.string [99, 111, 109, 109, 105, 116, 116, 101, 100]), .lit (.bool false), .lit (.bool false)], .agg [.lit (.string [99, 97, 110, 99, 101, 108]), .lit (.bool false), .lit (.bool false)], .agg [.lit (.string [97, 98, 111, 114, 116, 101, 100]), .lit (.bool false), .lit (.bool false)]]

/-- 'recantlaw07.OrderGrows': WHATEVER THE INPUT: true; the input reads as it did. -/
def orderGrowsSpec : ChangeSpec := { name := "orderGrows", fn := fun _ => fun
  | [d1, d2] => { results := [.lit (.bool true)], args := [d1, d2] }
  | _ => none }
def orderGrowsRow : OpenClaim := { program := "ytppkmhejeklegaadoor", sum := "52cd1d7d11357dae18d39a0221b476934ccd9e5fd56860e395faa7c1a1ec9bbe", func := "recant/recantlaw07.OrderGrows", spec := "orderGrows", unfollowed := true, recurses := true, named := ["recant/text.kinds"], plainKeys := false, apart := false, laid := [("recant/text.kinds", laid_recant_text_kinds)] }
def OrderGrowsSaid : Prop := orderGrowsRow.holds Tryd.pinned (OpenSpec.ofChange orderGrowsSpec)

/-- ITS FALSE NEIGHBOUR: 'it returns false'. Refute it at one input. -/
def orderGrowsWrong : ChangeSpec := { name := "orderGrows", fn := fun _ => fun
  | [d1, d2] => { results := [.lit (.bool false)], args := [d1, d2] }
  | _ => none }
def OrderGrowsWrongFalsely : Prop := orderGrowsRow.holds Tryd.pinned (OpenSpec.ofChange orderGrowsWrong)

/-- 'recantlaw07.OrderTells': WHATEVER THE INPUT: true; the input reads as it did. -/
def orderTellsSpec : ChangeSpec := { name := "orderTells", fn := fun _ => fun
  | [d1, d2, d3, d4] => { results := [.lit (.bool true)], args := [d1, d2, d3, d4] }
  | _ => none }
def orderTellsRow : OpenClaim := { program := "ytppkmhejeklegaadoor", sum := "52cd1d7d11357dae18d39a0221b476934ccd9e5fd56860e395faa7c1a1ec9bbe", func := "recant/recantlaw07.OrderTells", spec := "orderTells", unfollowed := true, recurses := true, named := ["recant/text.kinds"], plainKeys := false, apart := false, laid := [("recant/text.kinds", laid_recant_text_kinds)] }
def OrderTellsSaid : Prop := orderTellsRow.holds Tryd.pinned (OpenSpec.ofChange orderTellsSpec)

/-- ITS FALSE NEIGHBOUR: 'it returns false'. Refute it at one input. -/
def orderTellsWrong : ChangeSpec := { name := "orderTells", fn := fun _ => fun
  | [d1, d2, d3, d4] => { results := [.lit (.bool false)], args := [d1, d2, d3, d4] }
  | _ => none }
def OrderTellsWrongFalsely : Prop := orderTellsRow.holds Tryd.pinned (OpenSpec.ofChange orderTellsWrong)

/-- 'recantlaw07.OrderHolds': WHATEVER THE INPUT: true; the input reads as it did. -/
def orderHoldsSpec : ChangeSpec := { name := "orderHolds", fn := fun _ => fun
  | [d1, d2, d3, d4, d5] => { results := [.lit (.bool true)], args := [d1, d2, d3, d4, d5] }
  | _ => none }
def orderHoldsRow : OpenClaim := { program := "ytppkmhejeklegaadoor", sum := "52cd1d7d11357dae18d39a0221b476934ccd9e5fd56860e395faa7c1a1ec9bbe", func := "recant/recantlaw07.OrderHolds", spec := "orderHolds", unfollowed := true, recurses := true, named := ["recant/text.kinds"], plainKeys := false, apart := false, laid := [("recant/text.kinds", laid_recant_text_kinds)] }
def OrderHoldsSaid : Prop := orderHoldsRow.holds Tryd.pinned (OpenSpec.ofChange orderHoldsSpec)

/-- ITS FALSE NEIGHBOUR: 'it returns false'. Refute it at one input. -/
def orderHoldsWrong : ChangeSpec := { name := "orderHolds", fn := fun _ => fun
  | [d1, d2, d3, d4, d5] => { results := [.lit (.bool false)], args := [d1, d2, d3, d4, d5] }
  | _ => none }
def OrderHoldsWrongFalsely : Prop := orderHoldsRow.holds Tryd.pinned (OpenSpec.ofChange orderHoldsWrong)

/-- 'recantlaw16.UniqueGrows': WHATEVER THE INPUT: true; the input reads as it did. -/
def uniqueGrowsSpec : ChangeSpec := { name := "uniqueGrows", fn := fun _ => fun
  | [d1, d2] => { results := [.lit (.bool true)], args := [d1, d2] }
  | _ => none }
def uniqueGrowsRow : OpenClaim := { program := "ytppkmhejeklegaadoor", sum := "52cd1d7d11357dae18d39a0221b476934ccd9e5fd56860e395faa7c1a1ec9bbe", func := "recant/recantlaw16.UniqueGrows", spec := "uniqueGrows", unfollowed := true, recurses := true, named := ["recant/text.kinds"], plainKeys := false, apart := false, laid := [("recant/text.kinds", laid_recant_text_kinds)] }
def UniqueGrowsSaid : Prop := uniqueGrowsRow.holds Tryd.pinned (OpenSpec.ofChange uniqueGrowsSpec)

/-- ITS FALSE NEIGHBOUR: 'it returns false'. Refute it at one input. -/
def uniqueGrowsWrong : ChangeSpec := { name := "uniqueGrows", fn := fun _ => fun
  | [d1, d2] => { results := [.lit (.bool false)], args := [d1, d2] }
  | _ => none }
def UniqueGrowsWrongFalsely : Prop := uniqueGrowsRow.holds Tryd.pinned (OpenSpec.ofChange uniqueGrowsWrong)

/-- 'recantlaw16.UniqueSources': WHATEVER THE INPUT: true; the input reads as it did. -/
def uniqueSourcesSpec : ChangeSpec := { name := "uniqueSources", fn := fun _ => fun
  | [d] => { results := [.lit (.bool true)], args := [d] }
  | _ => none }
def uniqueSourcesRow : OpenClaim := { program := "ytppkmhejeklegaadoor", sum := "52cd1d7d11357dae18d39a0221b476934ccd9e5fd56860e395faa7c1a1ec9bbe", func := "recant/recantlaw16.UniqueSources", spec := "uniqueSources", unfollowed := true, recurses := true, named := ["recant/text.kinds"], plainKeys := false, apart := false, laid := [("recant/text.kinds", laid_recant_text_kinds)] }
def UniqueSourcesSaid : Prop := uniqueSourcesRow.holds Tryd.pinned (OpenSpec.ofChange uniqueSourcesSpec)

/-- ITS FALSE NEIGHBOUR: 'it returns false'. Refute it at one input. -/
def uniqueSourcesWrong : ChangeSpec := { name := "uniqueSources", fn := fun _ => fun
  | [d] => { results := [.lit (.bool false)], args := [d] }
  | _ => none }
def UniqueSourcesWrongFalsely : Prop := uniqueSourcesRow.holds Tryd.pinned (OpenSpec.ofChange uniqueSourcesWrong)

/-- 'recantlaw17.GraphMore': WHATEVER THE INPUT: true; the input reads as it did. -/
def graphMoreSpec : ChangeSpec := { name := "graphMore", fn := fun _ => fun
  | [d1, d2, d3, d4] => { results := [.lit (.bool true)], args := [d1, d2, d3, d4] }
  | _ => none }
def graphMoreRow : OpenClaim := { program := "ytppkmhejeklegaadoor", sum := "52cd1d7d11357dae18d39a0221b476934ccd9e5fd56860e395faa7c1a1ec9bbe", func := "recant/recantlaw17.GraphMore", spec := "graphMore", unfollowed := true, recurses := true, named := ["recant/text.kinds"], plainKeys := false, apart := false, laid := [("recant/text.kinds", laid_recant_text_kinds)] }
def GraphMoreSaid : Prop := graphMoreRow.holds Tryd.pinned (OpenSpec.ofChange graphMoreSpec)

/-- ITS FALSE NEIGHBOUR: 'it returns false'. Refute it at one input. -/
def graphMoreWrong : ChangeSpec := { name := "graphMore", fn := fun _ => fun
  | [d1, d2, d3, d4] => { results := [.lit (.bool false)], args := [d1, d2, d3, d4] }
  | _ => none }
def GraphMoreWrongFalsely : Prop := graphMoreRow.holds Tryd.pinned (OpenSpec.ofChange graphMoreWrong)

/-- 'recantlaw17.GraphBuilds': WHATEVER THE INPUT: true; the input reads as it did. -/
def graphBuildsSpec : ChangeSpec := { name := "graphBuilds", fn := fun _ => fun
  | [d1, d2, d3] => { results := [.lit (.bool true)], args := [d1, d2, d3] }
  | _ => none }
def graphBuildsRow : OpenClaim := { program := "ytppkmhejeklegaadoor", sum := "52cd1d7d11357dae18d39a0221b476934ccd9e5fd56860e395faa7c1a1ec9bbe", func := "recant/recantlaw17.GraphBuilds", spec := "graphBuilds", unfollowed := true, recurses := true, named := ["recant/text.kinds"], plainKeys := false, apart := false, laid := [("recant/text.kinds", laid_recant_text_kinds)] }
def GraphBuildsSaid : Prop := graphBuildsRow.holds Tryd.pinned (OpenSpec.ofChange graphBuildsSpec)

/-- ITS FALSE NEIGHBOUR: 'it returns false'. Refute it at one input. -/
def graphBuildsWrong : ChangeSpec := { name := "graphBuilds", fn := fun _ => fun
  | [d1, d2, d3] => { results := [.lit (.bool false)], args := [d1, d2, d3] }
  | _ => none }
def GraphBuildsWrongFalsely : Prop := graphBuildsRow.holds Tryd.pinned (OpenSpec.ofChange graphBuildsWrong)

/-- 'recantlaw20.EarlyAnswers': WHATEVER THE INPUT: true; the input reads as it did. -/
def earlyAnswersSpec : ChangeSpec := { name := "earlyAnswers", fn := fun _ => fun
  | [d1, d2, d3] => { results := [.lit (.bool true)], args := [d1, d2, d3] }
  | _ => none }
def earlyAnswersRow : OpenClaim := { program := "ytppkmhejeklegaadoor", sum := "52cd1d7d11357dae18d39a0221b476934ccd9e5fd56860e395faa7c1a1ec9bbe", func := "recant/recantlaw20.EarlyAnswers", spec := "earlyAnswers", unfollowed := true, recurses := true, named := ["recant/text.kinds"], plainKeys := false, apart := false, laid := [("recant/text.kinds", laid_recant_text_kinds)] }
def EarlyAnswersSaid : Prop := earlyAnswersRow.holds Tryd.pinned (OpenSpec.ofChange earlyAnswersSpec)

/-- ITS FALSE NEIGHBOUR: 'it returns false'. Refute it at one input. -/
def earlyAnswersWrong : ChangeSpec := { name := "earlyAnswers", fn := fun _ => fun
  | [d1, d2, d3] => { results := [.lit (.bool false)], args := [d1, d2, d3] }
  | _ => none }
def EarlyAnswersWrongFalsely : Prop := earlyAnswersRow.holds Tryd.pinned (OpenSpec.ofChange earlyAnswersWrong)

/-- 'recantlaw20.EarlyAsked': WHATEVER THE INPUT: true; the input reads as it did. -/
def earlyAskedSpec : ChangeSpec := { name := "earlyAsked", fn := fun _ => fun
  | [d1, d2, d3] => { results := [.lit (.bool true)], args := [d1, d2, d3] }
  | _ => none }
def earlyAskedRow : OpenClaim := { program := "ytppkmhejeklegaadoor", sum := "52cd1d7d11357dae18d39a0221b476934ccd9e5fd56860e395faa7c1a1ec9bbe", func := "recant/recantlaw20.EarlyAsked", spec := "earlyAsked", unfollowed := true, recurses := true, named := ["recant/text.kinds"], plainKeys := false, apart := false, laid := [("recant/text.kinds", laid_recant_text_kinds)] }
def EarlyAskedSaid : Prop := earlyAskedRow.holds Tryd.pinned (OpenSpec.ofChange earlyAskedSpec)

/-- ITS FALSE NEIGHBOUR: 'it returns false'. Refute it at one input. -/
def earlyAskedWrong : ChangeSpec := { name := "earlyAsked", fn := fun _ => fun
  | [d1, d2, d3] => { results := [.lit (.bool false)], args := [d1, d2, d3] }
  | _ => none }
def EarlyAskedWrongFalsely : Prop := earlyAskedRow.holds Tryd.pinned (OpenSpec.ofChange earlyAskedWrong)

/-- 'recantlaw17.GraphExplains': WHATEVER THE INPUT: true; the input reads as it did. -/
def graphExplainsSpec : ChangeSpec := { name := "graphExplains", fn := fun _ => fun
  | [d1, d2, d3] => { results := [.lit (.bool true)], args := [d1, d2, d3] }
  | _ => none }
def graphExplainsRow : OpenClaim := { program := "ytppkmhejeklegaadoor", sum := "52cd1d7d11357dae18d39a0221b476934ccd9e5fd56860e395faa7c1a1ec9bbe", func := "recant/recantlaw17.GraphExplains", spec := "graphExplains", unfollowed := true, recurses := true, named := ["recant/text.kinds"], plainKeys := false, apart := false, laid := [("recant/text.kinds", laid_recant_text_kinds)] }
def GraphExplainsSaid : Prop := graphExplainsRow.holds Tryd.pinned (OpenSpec.ofChange graphExplainsSpec)

/-- ITS FALSE NEIGHBOUR: 'it returns false'. Refute it at one input. -/
def graphExplainsWrong : ChangeSpec := { name := "graphExplains", fn := fun _ => fun
  | [d1, d2, d3] => { results := [.lit (.bool false)], args := [d1, d2, d3] }
  | _ => none }
def GraphExplainsWrongFalsely : Prop := graphExplainsRow.holds Tryd.pinned (OpenSpec.ofChange graphExplainsWrong)

/-- 'recantlaw09.CompleteChooses': WHATEVER THE INPUT: true; the input reads as it did. -/
def completeChoosesSpec : ChangeSpec := { name := "completeChooses", fn := fun _ => fun
  | [d1, d2] => { results := [.lit (.bool true)], args := [d1, d2] }
  | _ => none }
def completeChoosesRow : OpenClaim := { program := "ytppkmhejeklegaadoor", sum := "52cd1d7d11357dae18d39a0221b476934ccd9e5fd56860e395faa7c1a1ec9bbe", func := "recant/recantlaw09.CompleteChooses", spec := "completeChooses", unfollowed := true, recurses := true, named := ["recant/text.kinds"], plainKeys := false, apart := false, laid := [("recant/text.kinds", laid_recant_text_kinds)] }
def CompleteChoosesSaid : Prop := completeChoosesRow.holds Tryd.pinned (OpenSpec.ofChange completeChoosesSpec)

/-- ITS FALSE NEIGHBOUR: 'it returns false'. Refute it at one input. -/
def completeChoosesWrong : ChangeSpec := { name := "completeChooses", fn := fun _ => fun
  | [d1, d2] => { results := [.lit (.bool false)], args := [d1, d2] }
  | _ => none }
def CompleteChoosesWrongFalsely : Prop := completeChoosesRow.holds Tryd.pinned (OpenSpec.ofChange completeChoosesWrong)

/-- 'recantlaw09.CompleteCount': WHATEVER THE INPUT: true; the input reads as it did. -/
def completeCountSpec : ChangeSpec := { name := "completeCount", fn := fun _ => fun
  | [d] => { results := [.lit (.bool true)], args := [d] }
  | _ => none }
def completeCountRow : OpenClaim := { program := "ytppkmhejeklegaadoor", sum := "52cd1d7d11357dae18d39a0221b476934ccd9e5fd56860e395faa7c1a1ec9bbe", func := "recant/recantlaw09.CompleteCount", spec := "completeCount", unfollowed := true, recurses := true, named := ["recant/text.kinds"], plainKeys := false, apart := false, laid := [("recant/text.kinds", laid_recant_text_kinds)] }
def CompleteCountSaid : Prop := completeCountRow.holds Tryd.pinned (OpenSpec.ofChange completeCountSpec)

/-- ITS FALSE NEIGHBOUR: 'it returns false'. Refute it at one input. -/
def completeCountWrong : ChangeSpec := { name := "completeCount", fn := fun _ => fun
  | [d] => { results := [.lit (.bool false)], args := [d] }
  | _ => none }
def CompleteCountWrongFalsely : Prop := completeCountRow.holds Tryd.pinned (OpenSpec.ofChange completeCountWrong)

/-- 'recantlaw22.ReachSerial': WHATEVER THE INPUT: true; the input reads as it did. -/
def reachSerialSpec : ChangeSpec := { name := "reachSerial", fn := fun _ => fun
  | [d] => { results := [.lit (.bool true)], args := [d] }
  | _ => none }
def reachSerialRow : OpenClaim := { program := "ytppkmhejeklegaadoor", sum := "52cd1d7d11357dae18d39a0221b476934ccd9e5fd56860e395faa7c1a1ec9bbe", func := "recant/recantlaw22.ReachSerial", spec := "reachSerial", unfollowed := true, recurses := true, named := ["recant/text.kinds"], plainKeys := false, apart := false, laid := [("recant/text.kinds", laid_recant_text_kinds)] }
def ReachSerialSaid : Prop := reachSerialRow.holds Tryd.pinned (OpenSpec.ofChange reachSerialSpec)

/-- ITS FALSE NEIGHBOUR: 'it returns false'. Refute it at one input. -/
def reachSerialWrong : ChangeSpec := { name := "reachSerial", fn := fun _ => fun
  | [d] => { results := [.lit (.bool false)], args := [d] }
  | _ => none }
def ReachSerialWrongFalsely : Prop := reachSerialRow.holds Tryd.pinned (OpenSpec.ofChange reachSerialWrong)

/-- 'recantlaw09.CompleteEnds': WHATEVER THE INPUT: true; the input reads as it did. -/
def completeEndsSpec : ChangeSpec := { name := "completeEnds", fn := fun _ => fun
  | [d] => { results := [.lit (.bool true)], args := [d] }
  | _ => none }
def completeEndsRow : OpenClaim := { program := "ytppkmhejeklegaadoor", sum := "52cd1d7d11357dae18d39a0221b476934ccd9e5fd56860e395faa7c1a1ec9bbe", func := "recant/recantlaw09.CompleteEnds", spec := "completeEnds", unfollowed := true, recurses := true, named := ["recant/text.kinds"], plainKeys := false, apart := false, laid := [("recant/text.kinds", laid_recant_text_kinds)] }
def CompleteEndsSaid : Prop := completeEndsRow.holds Tryd.pinned (OpenSpec.ofChange completeEndsSpec)

/-- ITS FALSE NEIGHBOUR: 'it returns false'. Refute it at one input. -/
def completeEndsWrong : ChangeSpec := { name := "completeEnds", fn := fun _ => fun
  | [d] => { results := [.lit (.bool false)], args := [d] }
  | _ => none }
def CompleteEndsWrongFalsely : Prop := completeEndsRow.holds Tryd.pinned (OpenSpec.ofChange completeEndsWrong)

/-- 'recantlaw12.SerialRows': WHATEVER THE INPUT: true; the input reads as it did. -/
def serialRowsSpec : ChangeSpec := { name := "serialRows", fn := fun _ => fun
  | [d1, d2, d3, d4] => { results := [.lit (.bool true)], args := [d1, d2, d3, d4] }
  | _ => none }
def serialRowsRow : OpenClaim := { program := "ytppkmhejeklegaadoor", sum := "52cd1d7d11357dae18d39a0221b476934ccd9e5fd56860e395faa7c1a1ec9bbe", func := "recant/recantlaw12.SerialRows", spec := "serialRows", unfollowed := true, recurses := true, named := ["recant/text.kinds"], plainKeys := false, apart := false, laid := [("recant/text.kinds", laid_recant_text_kinds)] }
def SerialRowsSaid : Prop := serialRowsRow.holds Tryd.pinned (OpenSpec.ofChange serialRowsSpec)

/-- ITS FALSE NEIGHBOUR: 'it returns false'. Refute it at one input. -/
def serialRowsWrong : ChangeSpec := { name := "serialRows", fn := fun _ => fun
  | [d1, d2, d3, d4] => { results := [.lit (.bool false)], args := [d1, d2, d3, d4] }
  | _ => none }
def SerialRowsWrongFalsely : Prop := serialRowsRow.holds Tryd.pinned (OpenSpec.ofChange serialRowsWrong)

/-- 'recantlaw12.SerialPart': WHATEVER THE INPUT: true; the input reads as it did. -/
def serialPartSpec : ChangeSpec := { name := "serialPart", fn := fun _ => fun
  | [d1, d2] => { results := [.lit (.bool true)], args := [d1, d2] }
  | _ => none }
def serialPartRow : OpenClaim := { program := "ytppkmhejeklegaadoor", sum := "52cd1d7d11357dae18d39a0221b476934ccd9e5fd56860e395faa7c1a1ec9bbe", func := "recant/recantlaw12.SerialPart", spec := "serialPart", unfollowed := true, recurses := true, named := ["recant/text.kinds"], plainKeys := false, apart := false, laid := [("recant/text.kinds", laid_recant_text_kinds)] }
def SerialPartSaid : Prop := serialPartRow.holds Tryd.pinned (OpenSpec.ofChange serialPartSpec)

/-- ITS FALSE NEIGHBOUR: 'it returns false'. Refute it at one input. -/
def serialPartWrong : ChangeSpec := { name := "serialPart", fn := fun _ => fun
  | [d1, d2] => { results := [.lit (.bool false)], args := [d1, d2] }
  | _ => none }
def SerialPartWrongFalsely : Prop := serialPartRow.holds Tryd.pinned (OpenSpec.ofChange serialPartWrong)

/-- 'recantlaw12.SerialSearches': WHATEVER THE INPUT: true; the input reads as it did. -/
def serialSearchesSpec : ChangeSpec := { name := "serialSearches", fn := fun _ => fun
  | [d1, d2, d3, d4] => { results := [.lit (.bool true)], args := [d1, d2, d3, d4] }
  | _ => none }
def serialSearchesRow : OpenClaim := { program := "ytppkmhejeklegaadoor", sum := "52cd1d7d11357dae18d39a0221b476934ccd9e5fd56860e395faa7c1a1ec9bbe", func := "recant/recantlaw12.SerialSearches", spec := "serialSearches", unfollowed := true, recurses := true, named := ["recant/text.kinds"], plainKeys := false, apart := false, laid := [("recant/text.kinds", laid_recant_text_kinds)] }
def SerialSearchesSaid : Prop := serialSearchesRow.holds Tryd.pinned (OpenSpec.ofChange serialSearchesSpec)

/-- ITS FALSE NEIGHBOUR: 'it returns false'. Refute it at one input. -/
def serialSearchesWrong : ChangeSpec := { name := "serialSearches", fn := fun _ => fun
  | [d1, d2, d3, d4] => { results := [.lit (.bool false)], args := [d1, d2, d3, d4] }
  | _ => none }
def SerialSearchesWrongFalsely : Prop := serialSearchesRow.holds Tryd.pinned (OpenSpec.ofChange serialSearchesWrong)

/-- 'recantlaw14.StrictChecks': WHATEVER THE INPUT: true; the input reads as it did. -/
def strictChecksSpec : ChangeSpec := { name := "strictChecks", fn := fun _ => fun
  | [d1, d2] => { results := [.lit (.bool true)], args := [d1, d2] }
  | _ => none }
def strictChecksRow : OpenClaim := { program := "ytppkmhejeklegaadoor", sum := "52cd1d7d11357dae18d39a0221b476934ccd9e5fd56860e395faa7c1a1ec9bbe", func := "recant/recantlaw14.StrictChecks", spec := "strictChecks", unfollowed := true, recurses := true, named := ["recant/text.kinds"], plainKeys := false, apart := false, laid := [("recant/text.kinds", laid_recant_text_kinds)] }
def StrictChecksSaid : Prop := strictChecksRow.holds Tryd.pinned (OpenSpec.ofChange strictChecksSpec)

/-- ITS FALSE NEIGHBOUR: 'it returns false'. Refute it at one input. -/
def strictChecksWrong : ChangeSpec := { name := "strictChecks", fn := fun _ => fun
  | [d1, d2] => { results := [.lit (.bool false)], args := [d1, d2] }
  | _ => none }
def StrictChecksWrongFalsely : Prop := strictChecksRow.holds Tryd.pinned (OpenSpec.ofChange strictChecksWrong)

/-- 'recantlaw13.OpaqueLeast': WHATEVER THE INPUT: true; the input reads as it did. -/
def opaqueLeastSpec : ChangeSpec := { name := "opaqueLeast", fn := fun _ => fun
  | [d1, d2, d3] => { results := [.lit (.bool true)], args := [d1, d2, d3] }
  | _ => none }
def opaqueLeastRow : OpenClaim := { program := "ytppkmhejeklegaadoor", sum := "52cd1d7d11357dae18d39a0221b476934ccd9e5fd56860e395faa7c1a1ec9bbe", func := "recant/recantlaw13.OpaqueLeast", spec := "opaqueLeast", unfollowed := true, recurses := true, named := ["recant/text.kinds"], plainKeys := false, apart := false, laid := [("recant/text.kinds", laid_recant_text_kinds)] }
def OpaqueLeastSaid : Prop := opaqueLeastRow.holds Tryd.pinned (OpenSpec.ofChange opaqueLeastSpec)

/-- ITS FALSE NEIGHBOUR: 'it returns false'. Refute it at one input. -/
def opaqueLeastWrong : ChangeSpec := { name := "opaqueLeast", fn := fun _ => fun
  | [d1, d2, d3] => { results := [.lit (.bool false)], args := [d1, d2, d3] }
  | _ => none }
def OpaqueLeastWrongFalsely : Prop := opaqueLeastRow.holds Tryd.pinned (OpenSpec.ofChange opaqueLeastWrong)

/- THE SECOND FORM. 'bulk': how many values and letters a reading holds, each counted each time it is reached (what is shared counts as often as it is met; a slice's spare places count too). A statement '..UptoSaid' is the law's where the arguments, and the package variables that the reading takes, are together of bulk at most 1048576: NARROWER than '..Said'. Prove '..Said' where nothing that the law and all that it calls make is longer than what came in: it says more and counts as full. Else prove '..UptoSaid'. A law counts once. -/
mutual
def uptoBulk {H : Type} : DataW H → Nat
  | .lit (.string bytes) => bytes.length + 1
  | .lit _ => 1
  | .nil => 1
  | .ptr d => uptoBulk d + 1
  | .slice elems spare => uptoBulkAll elems + uptoBulkAll spare + 1
  | .agg parts => uptoBulkAll parts + 1
  | .iface _ d => uptoBulk d + 1
  | .map entries => uptoBulkEntries entries + 1
  | .held _ => 1
def uptoBulkAll {H : Type} : List (DataW H) → Nat
  | [] => 0
  | d :: r => uptoBulk d + uptoBulkAll r
def uptoBulkEntries {H : Type} : List (Lit × DataW H) → Nat
  | [] => 0
  | x :: r => uptoBulkEntry x + uptoBulkEntries r
def uptoBulkEntry {H : Type} : Lit × DataW H → Nat
  | (.string bytes, d) => bytes.length + uptoBulk d + 1
  | (_, d) => uptoBulk d + 1
 end
def uptoSmall : (H : Type) → List (DataW H) → Bool := fun _ ds => decide (uptoBulkAll ds ≤ 1048576)
def OpenSpec.upto (s : _root_.Go.ChangeSpec) : _root_.Go.OpenSpec := { _root_.Go.OpenSpec.ofChange s with cond := some uptoSmall }

/-- 'recantlaw07.OrderGrows', WHERE WHAT IT READS IS OF BULK AT MOST 1048576: true; the input reads as it did. -/
def orderGrowsUptoRow : OpenClaim := { program := "ytppkmhejeklegaadoor", sum := "52cd1d7d11357dae18d39a0221b476934ccd9e5fd56860e395faa7c1a1ec9bbe", func := "recant/recantlaw07.OrderGrows", spec := "orderGrows", unfollowed := true, recurses := true, named := ["recant/text.kinds"], plainKeys := false, apart := false, laid := [("recant/text.kinds", laid_recant_text_kinds)], narrowed := true }
def OrderGrowsUptoSaid : Prop := orderGrowsUptoRow.holds Tryd.pinned (OpenSpec.upto orderGrowsSpec)

/-- 'recantlaw07.OrderTells', WHERE WHAT IT READS IS OF BULK AT MOST 1048576: true; the input reads as it did. -/
def orderTellsUptoRow : OpenClaim := { program := "ytppkmhejeklegaadoor", sum := "52cd1d7d11357dae18d39a0221b476934ccd9e5fd56860e395faa7c1a1ec9bbe", func := "recant/recantlaw07.OrderTells", spec := "orderTells", unfollowed := true, recurses := true, named := ["recant/text.kinds"], plainKeys := false, apart := false, laid := [("recant/text.kinds", laid_recant_text_kinds)], narrowed := true }
def OrderTellsUptoSaid : Prop := orderTellsUptoRow.holds Tryd.pinned (OpenSpec.upto orderTellsSpec)

/-- 'recantlaw07.OrderHolds', WHERE WHAT IT READS IS OF BULK AT MOST 1048576: true; the input reads as it did. -/
def orderHoldsUptoRow : OpenClaim := { program := "ytppkmhejeklegaadoor", sum := "52cd1d7d11357dae18d39a0221b476934ccd9e5fd56860e395faa7c1a1ec9bbe", func := "recant/recantlaw07.OrderHolds", spec := "orderHolds", unfollowed := true, recurses := true, named := ["recant/text.kinds"], plainKeys := false, apart := false, laid := [("recant/text.kinds", laid_recant_text_kinds)], narrowed := true }
def OrderHoldsUptoSaid : Prop := orderHoldsUptoRow.holds Tryd.pinned (OpenSpec.upto orderHoldsSpec)

/-- 'recantlaw16.UniqueGrows', WHERE WHAT IT READS IS OF BULK AT MOST 1048576: true; the input reads as it did. -/
def uniqueGrowsUptoRow : OpenClaim := { program := "ytppkmhejeklegaadoor", sum := "52cd1d7d11357dae18d39a0221b476934ccd9e5fd56860e395faa7c1a1ec9bbe", func := "recant/recantlaw16.UniqueGrows", spec := "uniqueGrows", unfollowed := true, recurses := true, named := ["recant/text.kinds"], plainKeys := false, apart := false, laid := [("recant/text.kinds", laid_recant_text_kinds)], narrowed := true }
def UniqueGrowsUptoSaid : Prop := uniqueGrowsUptoRow.holds Tryd.pinned (OpenSpec.upto uniqueGrowsSpec)

/-- 'recantlaw16.UniqueSources', WHERE WHAT IT READS IS OF BULK AT MOST 1048576: true; the input reads as it did. -/
def uniqueSourcesUptoRow : OpenClaim := { program := "ytppkmhejeklegaadoor", sum := "52cd1d7d11357dae18d39a0221b476934ccd9e5fd56860e395faa7c1a1ec9bbe", func := "recant/recantlaw16.UniqueSources", spec := "uniqueSources", unfollowed := true, recurses := true, named := ["recant/text.kinds"], plainKeys := false, apart := false, laid := [("recant/text.kinds", laid_recant_text_kinds)], narrowed := true }
def UniqueSourcesUptoSaid : Prop := uniqueSourcesUptoRow.holds Tryd.pinned (OpenSpec.upto uniqueSourcesSpec)

/-- 'recantlaw17.GraphMore', WHERE WHAT IT READS IS OF BULK AT MOST 1048576: true; the input reads as it did. -/
def graphMoreUptoRow : OpenClaim := { program := "ytppkmhejeklegaadoor", sum := "52cd1d7d11357dae18d39a0221b476934ccd9e5fd56860e395faa7c1a1ec9bbe", func := "recant/recantlaw17.GraphMore", spec := "graphMore", unfollowed := true, recurses := true, named := ["recant/text.kinds"], plainKeys := false, apart := false, laid := [("recant/text.kinds", laid_recant_text_kinds)], narrowed := true }
def GraphMoreUptoSaid : Prop := graphMoreUptoRow.holds Tryd.pinned (OpenSpec.upto graphMoreSpec)

/-- 'recantlaw17.GraphBuilds', WHERE WHAT IT READS IS OF BULK AT MOST 1048576: true; the input reads as it did. -/
def graphBuildsUptoRow : OpenClaim := { program := "ytppkmhejeklegaadoor", sum := "52cd1d7d11357dae18d39a0221b476934ccd9e5fd56860e395faa7c1a1ec9bbe", func := "recant/recantlaw17.GraphBuilds", spec := "graphBuilds", unfollowed := true, recurses := true, named := ["recant/text.kinds"], plainKeys := false, apart := false, laid := [("recant/text.kinds", laid_recant_text_kinds)], narrowed := true }
def GraphBuildsUptoSaid : Prop := graphBuildsUptoRow.holds Tryd.pinned (OpenSpec.upto graphBuildsSpec)

/-- 'recantlaw20.EarlyAnswers', WHERE WHAT IT READS IS OF BULK AT MOST 1048576: true; the input reads as it did. -/
def earlyAnswersUptoRow : OpenClaim := { program := "ytppkmhejeklegaadoor", sum := "52cd1d7d11357dae18d39a0221b476934ccd9e5fd56860e395faa7c1a1ec9bbe", func := "recant/recantlaw20.EarlyAnswers", spec := "earlyAnswers", unfollowed := true, recurses := true, named := ["recant/text.kinds"], plainKeys := false, apart := false, laid := [("recant/text.kinds", laid_recant_text_kinds)], narrowed := true }
def EarlyAnswersUptoSaid : Prop := earlyAnswersUptoRow.holds Tryd.pinned (OpenSpec.upto earlyAnswersSpec)

/-- 'recantlaw20.EarlyAsked', WHERE WHAT IT READS IS OF BULK AT MOST 1048576: true; the input reads as it did. -/
def earlyAskedUptoRow : OpenClaim := { program := "ytppkmhejeklegaadoor", sum := "52cd1d7d11357dae18d39a0221b476934ccd9e5fd56860e395faa7c1a1ec9bbe", func := "recant/recantlaw20.EarlyAsked", spec := "earlyAsked", unfollowed := true, recurses := true, named := ["recant/text.kinds"], plainKeys := false, apart := false, laid := [("recant/text.kinds", laid_recant_text_kinds)], narrowed := true }
def EarlyAskedUptoSaid : Prop := earlyAskedUptoRow.holds Tryd.pinned (OpenSpec.upto earlyAskedSpec)

/-- 'recantlaw17.GraphExplains', WHERE WHAT IT READS IS OF BULK AT MOST 1048576: true; the input reads as it did. -/
def graphExplainsUptoRow : OpenClaim := { program := "ytppkmhejeklegaadoor", sum := "52cd1d7d11357dae18d39a0221b476934ccd9e5fd56860e395faa7c1a1ec9bbe", func := "recant/recantlaw17.GraphExplains", spec := "graphExplains", unfollowed := true, recurses := true, named := ["recant/text.kinds"], plainKeys := false, apart := false, laid := [("recant/text.kinds", laid_recant_text_kinds)], narrowed := true }
def GraphExplainsUptoSaid : Prop := graphExplainsUptoRow.holds Tryd.pinned (OpenSpec.upto graphExplainsSpec)

/-- 'recantlaw09.CompleteChooses', WHERE WHAT IT READS IS OF BULK AT MOST 1048576: true; the input reads as it did. -/
def completeChoosesUptoRow : OpenClaim := { program := "ytppkmhejeklegaadoor", sum := "52cd1d7d11357dae18d39a0221b476934ccd9e5fd56860e395faa7c1a1ec9bbe", func := "recant/recantlaw09.CompleteChooses", spec := "completeChooses", unfollowed := true, recurses := true, named := ["recant/text.kinds"], plainKeys := false, apart := false, laid := [("recant/text.kinds", laid_recant_text_kinds)], narrowed := true }
def CompleteChoosesUptoSaid : Prop := completeChoosesUptoRow.holds Tryd.pinned (OpenSpec.upto completeChoosesSpec)

/-- 'recantlaw09.CompleteCount', WHERE WHAT IT READS IS OF BULK AT MOST 1048576: true; the input reads as it did. -/
def completeCountUptoRow : OpenClaim := { program := "ytppkmhejeklegaadoor", sum := "52cd1d7d11357dae18d39a0221b476934ccd9e5fd56860e395faa7c1a1ec9bbe", func := "recant/recantlaw09.CompleteCount", spec := "completeCount", unfollowed := true, recurses := true, named := ["recant/text.kinds"], plainKeys := false, apart := false, laid := [("recant/text.kinds", laid_recant_text_kinds)], narrowed := true }
def CompleteCountUptoSaid : Prop := completeCountUptoRow.holds Tryd.pinned (OpenSpec.upto completeCountSpec)

/-- 'recantlaw22.ReachSerial', WHERE WHAT IT READS IS OF BULK AT MOST 1048576: true; the input reads as it did. -/
def reachSerialUptoRow : OpenClaim := { program := "ytppkmhejeklegaadoor", sum := "52cd1d7d11357dae18d39a0221b476934ccd9e5fd56860e395faa7c1a1ec9bbe", func := "recant/recantlaw22.ReachSerial", spec := "reachSerial", unfollowed := true, recurses := true, named := ["recant/text.kinds"], plainKeys := false, apart := false, laid := [("recant/text.kinds", laid_recant_text_kinds)], narrowed := true }
def ReachSerialUptoSaid : Prop := reachSerialUptoRow.holds Tryd.pinned (OpenSpec.upto reachSerialSpec)

/-- 'recantlaw09.CompleteEnds', WHERE WHAT IT READS IS OF BULK AT MOST 1048576: true; the input reads as it did. -/
def completeEndsUptoRow : OpenClaim := { program := "ytppkmhejeklegaadoor", sum := "52cd1d7d11357dae18d39a0221b476934ccd9e5fd56860e395faa7c1a1ec9bbe", func := "recant/recantlaw09.CompleteEnds", spec := "completeEnds", unfollowed := true, recurses := true, named := ["recant/text.kinds"], plainKeys := false, apart := false, laid := [("recant/text.kinds", laid_recant_text_kinds)], narrowed := true }
def CompleteEndsUptoSaid : Prop := completeEndsUptoRow.holds Tryd.pinned (OpenSpec.upto completeEndsSpec)

/-- 'recantlaw12.SerialRows', WHERE WHAT IT READS IS OF BULK AT MOST 1048576: true; the input reads as it did. -/
def serialRowsUptoRow : OpenClaim := { program := "ytppkmhejeklegaadoor", sum := "52cd1d7d11357dae18d39a0221b476934ccd9e5fd56860e395faa7c1a1ec9bbe", func := "recant/recantlaw12.SerialRows", spec := "serialRows", unfollowed := true, recurses := true, named := ["recant/text.kinds"], plainKeys := false, apart := false, laid := [("recant/text.kinds", laid_recant_text_kinds)], narrowed := true }
def SerialRowsUptoSaid : Prop := serialRowsUptoRow.holds Tryd.pinned (OpenSpec.upto serialRowsSpec)

/-- 'recantlaw12.SerialPart', WHERE WHAT IT READS IS OF BULK AT MOST 1048576: true; the input reads as it did. -/
def serialPartUptoRow : OpenClaim := { program := "ytppkmhejeklegaadoor", sum := "52cd1d7d11357dae18d39a0221b476934ccd9e5fd56860e395faa7c1a1ec9bbe", func := "recant/recantlaw12.SerialPart", spec := "serialPart", unfollowed := true, recurses := true, named := ["recant/text.kinds"], plainKeys := false, apart := false, laid := [("recant/text.kinds", laid_recant_text_kinds)], narrowed := true }
def SerialPartUptoSaid : Prop := serialPartUptoRow.holds Tryd.pinned (OpenSpec.upto serialPartSpec)

/-- 'recantlaw12.SerialSearches', WHERE WHAT IT READS IS OF BULK AT MOST 1048576: true; the input reads as it did. -/
def serialSearchesUptoRow : OpenClaim := { program := "ytppkmhejeklegaadoor", sum := "52cd1d7d11357dae18d39a0221b476934ccd9e5fd56860e395faa7c1a1ec9bbe", func := "recant/recantlaw12.SerialSearches", spec := "serialSearches", unfollowed := true, recurses := true, named := ["recant/text.kinds"], plainKeys := false, apart := false, laid := [("recant/text.kinds", laid_recant_text_kinds)], narrowed := true }
def SerialSearchesUptoSaid : Prop := serialSearchesUptoRow.holds Tryd.pinned (OpenSpec.upto serialSearchesSpec)

/-- 'recantlaw14.StrictChecks', WHERE WHAT IT READS IS OF BULK AT MOST 1048576: true; the input reads as it did. -/
def strictChecksUptoRow : OpenClaim := { program := "ytppkmhejeklegaadoor", sum := "52cd1d7d11357dae18d39a0221b476934ccd9e5fd56860e395faa7c1a1ec9bbe", func := "recant/recantlaw14.StrictChecks", spec := "strictChecks", unfollowed := true, recurses := true, named := ["recant/text.kinds"], plainKeys := false, apart := false, laid := [("recant/text.kinds", laid_recant_text_kinds)], narrowed := true }
def StrictChecksUptoSaid : Prop := strictChecksUptoRow.holds Tryd.pinned (OpenSpec.upto strictChecksSpec)

/-- 'recantlaw13.OpaqueLeast', WHERE WHAT IT READS IS OF BULK AT MOST 1048576: true; the input reads as it did. -/
def opaqueLeastUptoRow : OpenClaim := { program := "ytppkmhejeklegaadoor", sum := "52cd1d7d11357dae18d39a0221b476934ccd9e5fd56860e395faa7c1a1ec9bbe", func := "recant/recantlaw13.OpaqueLeast", spec := "opaqueLeast", unfollowed := true, recurses := true, named := ["recant/text.kinds"], plainKeys := false, apart := false, laid := [("recant/text.kinds", laid_recant_text_kinds)], narrowed := true }
def OpaqueLeastUptoSaid : Prop := opaqueLeastUptoRow.holds Tryd.pinned (OpenSpec.upto opaqueLeastSpec)

end Rows
end Go.Proofs.YtppkmhejeklegaaDoor
