/-
  No cell of these rows narrows 'for every input' (looked for: loops, veiled, ifaces, maps, wideKeys, modest, calm, conditions, laid).
  DERIVED. THE GIVEN ROWS OF THIS SEAT. 22 by the template 'for every input the law returns true; each argument reads behind the call as it read before'; 0 by the template 'total and deterministic' (their statements: YtngpaibppdehdaaTotals.lean).
  GIVEN WITH THE SEED: the statements are not yours to turn. If you find one false, say at which input.
  Laid BY PROGRAM, IN A SANDBOX (cutbox-rows.mjs): the forced cells as the released guide's own fill.sh prints them over the translation 08c2f5850d5918d3… (all of the seat's roots in one cut). By AI agents, Wed Nov 11 2026. No macro, syntax, notation, axiom, sorry.
-/
import Derived.Test.YtngpaibppdehdaaChecked
import GoSem.Claim
import GoSem.ClaimJoined
import GoSem.ClaimMapViews
import Derived.JoinedTies
import Derived.KernelRfl
namespace Go.Proofs.Ytngpaibppdehdaa
/- THE CELL 'sum', in the pinned program and in every row, IS THE sha256 OF THE DUMP (.gsa) THAT YtngpaibppdehdaaProg.lean LOADS. Nothing in Lean hashes anything: it is a label: what it is worth is what the hold of that sum in a sandbox is worth. -/
noncomputable def Try.pinned : Pinned := { name := "ytngpaibppdehdaa", sum := "08c2f5850d5918d335fcdb94ea733a1bed9e19fb82a423621494a4b678860745", checked := Try.checked }
namespace Rows
def none {H : Type} : Left H := { results := [], args := [] }

/-- 'shellgamelaw5.NetPairs': WHATEVER THE INPUT: true; the input reads as it did. -/
def netPairsSpec : ChangeSpec := { name := "netPairs", fn := fun _ => fun
  | [d] => { results := [.lit (.bool true)], args := [d] }
  | _ => none }
def netPairsRow : OpenClaim := { program := "ytngpaibppdehdaa", sum := "08c2f5850d5918d335fcdb94ea733a1bed9e19fb82a423621494a4b678860745", func := "shellgame/shellgamelaw5.NetPairs", spec := "netPairs", unfollowed := true, recurses := true, apart := false }
def NetPairsSaid : Prop := netPairsRow.holds Try.pinned (OpenSpec.ofChange netPairsSpec)

/-- ITS FALSE NEIGHBOUR: 'it returns false'. Refute it at one input. -/
def netPairsWrong : ChangeSpec := { name := "netPairs", fn := fun _ => fun
  | [d] => { results := [.lit (.bool false)], args := [d] }
  | _ => none }
def NetPairsWrongFalsely : Prop := netPairsRow.holds Try.pinned (OpenSpec.ofChange netPairsWrong)

/-- 'shellgamelaw5.NetShape': WHATEVER THE INPUT: true; the input reads as it did. -/
def netShapeSpec : ChangeSpec := { name := "netShape", fn := fun _ => fun
  | [d] => { results := [.lit (.bool true)], args := [d] }
  | _ => none }
def netShapeRow : OpenClaim := { program := "ytngpaibppdehdaa", sum := "08c2f5850d5918d335fcdb94ea733a1bed9e19fb82a423621494a4b678860745", func := "shellgame/shellgamelaw5.NetShape", spec := "netShape", unfollowed := true, recurses := true, apart := false }
def NetShapeSaid : Prop := netShapeRow.holds Try.pinned (OpenSpec.ofChange netShapeSpec)

/-- ITS FALSE NEIGHBOUR: 'it returns false'. Refute it at one input. -/
def netShapeWrong : ChangeSpec := { name := "netShape", fn := fun _ => fun
  | [d] => { results := [.lit (.bool false)], args := [d] }
  | _ => none }
def NetShapeWrongFalsely : Prop := netShapeRow.holds Try.pinned (OpenSpec.ofChange netShapeWrong)

/-- 'shellgamelaw5.NetHalves': WHATEVER THE INPUT: true; the input reads as it did. -/
def netHalvesSpec : ChangeSpec := { name := "netHalves", fn := fun _ => fun
  | [d] => { results := [.lit (.bool true)], args := [d] }
  | _ => none }
def netHalvesRow : OpenClaim := { program := "ytngpaibppdehdaa", sum := "08c2f5850d5918d335fcdb94ea733a1bed9e19fb82a423621494a4b678860745", func := "shellgame/shellgamelaw5.NetHalves", spec := "netHalves", unfollowed := true, recurses := true, apart := false }
def NetHalvesSaid : Prop := netHalvesRow.holds Try.pinned (OpenSpec.ofChange netHalvesSpec)

/-- ITS FALSE NEIGHBOUR: 'it returns false'. Refute it at one input. -/
def netHalvesWrong : ChangeSpec := { name := "netHalves", fn := fun _ => fun
  | [d] => { results := [.lit (.bool false)], args := [d] }
  | _ => none }
def NetHalvesWrongFalsely : Prop := netHalvesRow.holds Try.pinned (OpenSpec.ofChange netHalvesWrong)

/-- 'shellgamelaw3.MemBlind': WHATEVER THE INPUT: true; the input reads as it did. -/
def memBlindSpec : ChangeSpec := { name := "memBlind", fn := fun _ => fun
  | [d1, d2, d3] => { results := [.lit (.bool true)], args := [d1, d2, d3] }
  | _ => none }
def memBlindRow : OpenClaim := { program := "ytngpaibppdehdaa", sum := "08c2f5850d5918d335fcdb94ea733a1bed9e19fb82a423621494a4b678860745", func := "shellgame/shellgamelaw3.MemBlind", spec := "memBlind", unfollowed := true, recurses := true, apart := false }
def MemBlindSaid : Prop := memBlindRow.holds Try.pinned (OpenSpec.ofChange memBlindSpec)

/-- ITS FALSE NEIGHBOUR: 'it returns false'. Refute it at one input. -/
def memBlindWrong : ChangeSpec := { name := "memBlind", fn := fun _ => fun
  | [d1, d2, d3] => { results := [.lit (.bool false)], args := [d1, d2, d3] }
  | _ => none }
def MemBlindWrongFalsely : Prop := memBlindRow.holds Try.pinned (OpenSpec.ofChange memBlindWrong)

/-- 'shellgamelaw3.MemLast': WHATEVER THE INPUT: true; the input reads as it did. -/
def memLastSpec : ChangeSpec := { name := "memLast", fn := fun _ => fun
  | [d] => { results := [.lit (.bool true)], args := [d] }
  | _ => none }
def memLastRow : OpenClaim := { program := "ytngpaibppdehdaa", sum := "08c2f5850d5918d335fcdb94ea733a1bed9e19fb82a423621494a4b678860745", func := "shellgame/shellgamelaw3.MemLast", spec := "memLast", unfollowed := true, recurses := true, apart := false }
def MemLastSaid : Prop := memLastRow.holds Try.pinned (OpenSpec.ofChange memLastSpec)

/-- ITS FALSE NEIGHBOUR: 'it returns false'. Refute it at one input. -/
def memLastWrong : ChangeSpec := { name := "memLast", fn := fun _ => fun
  | [d] => { results := [.lit (.bool false)], args := [d] }
  | _ => none }
def MemLastWrongFalsely : Prop := memLastRow.holds Try.pinned (OpenSpec.ofChange memLastWrong)

/-- 'shellgamelaw3.MemOthers': WHATEVER THE INPUT: true; the input reads as it did. -/
def memOthersSpec : ChangeSpec := { name := "memOthers", fn := fun _ => fun
  | [d1, d2] => { results := [.lit (.bool true)], args := [d1, d2] }
  | _ => none }
def memOthersRow : OpenClaim := { program := "ytngpaibppdehdaa", sum := "08c2f5850d5918d335fcdb94ea733a1bed9e19fb82a423621494a4b678860745", func := "shellgame/shellgamelaw3.MemOthers", spec := "memOthers", unfollowed := true, recurses := true, apart := false }
def MemOthersSaid : Prop := memOthersRow.holds Try.pinned (OpenSpec.ofChange memOthersSpec)

/-- ITS FALSE NEIGHBOUR: 'it returns false'. Refute it at one input. -/
def memOthersWrong : ChangeSpec := { name := "memOthers", fn := fun _ => fun
  | [d1, d2] => { results := [.lit (.bool false)], args := [d1, d2] }
  | _ => none }
def MemOthersWrongFalsely : Prop := memOthersRow.holds Try.pinned (OpenSpec.ofChange memOthersWrong)

/-- 'shellgamelaw3.MemPlays': WHATEVER THE INPUT: true; the input reads as it did. -/
def memPlaysSpec : ChangeSpec := { name := "memPlays", fn := fun _ => fun
  | [d1, d2, d3] => { results := [.lit (.bool true)], args := [d1, d2, d3] }
  | _ => none }
def memPlaysRow : OpenClaim := { program := "ytngpaibppdehdaa", sum := "08c2f5850d5918d335fcdb94ea733a1bed9e19fb82a423621494a4b678860745", func := "shellgame/shellgamelaw3.MemPlays", spec := "memPlays", unfollowed := true, recurses := true, apart := false }
def MemPlaysSaid : Prop := memPlaysRow.holds Try.pinned (OpenSpec.ofChange memPlaysSpec)

/-- ITS FALSE NEIGHBOUR: 'it returns false'. Refute it at one input. -/
def memPlaysWrong : ChangeSpec := { name := "memPlays", fn := fun _ => fun
  | [d1, d2, d3] => { results := [.lit (.bool false)], args := [d1, d2, d3] }
  | _ => none }
def MemPlaysWrongFalsely : Prop := memPlaysRow.holds Try.pinned (OpenSpec.ofChange memPlaysWrong)

/-- 'shellgamelaw3.MemParts': WHATEVER THE INPUT: true; the input reads as it did. -/
def memPartsSpec : ChangeSpec := { name := "memParts", fn := fun _ => fun
  | [d1, d2] => { results := [.lit (.bool true)], args := [d1, d2] }
  | _ => none }
def memPartsRow : OpenClaim := { program := "ytngpaibppdehdaa", sum := "08c2f5850d5918d335fcdb94ea733a1bed9e19fb82a423621494a4b678860745", func := "shellgame/shellgamelaw3.MemParts", spec := "memParts", unfollowed := true, recurses := true, apart := false }
def MemPartsSaid : Prop := memPartsRow.holds Try.pinned (OpenSpec.ofChange memPartsSpec)

/-- ITS FALSE NEIGHBOUR: 'it returns false'. Refute it at one input. -/
def memPartsWrong : ChangeSpec := { name := "memParts", fn := fun _ => fun
  | [d1, d2] => { results := [.lit (.bool false)], args := [d1, d2] }
  | _ => none }
def MemPartsWrongFalsely : Prop := memPartsRow.holds Try.pinned (OpenSpec.ofChange memPartsWrong)

/-- 'shellgamelaw7.ScanTwice': WHATEVER THE INPUT: true; the input reads as it did. -/
def scanTwiceSpec : ChangeSpec := { name := "scanTwice", fn := fun _ => fun
  | [d1, d2, d3, d4, d5] => { results := [.lit (.bool true)], args := [d1, d2, d3, d4, d5] }
  | _ => none }
def scanTwiceRow : OpenClaim := { program := "ytngpaibppdehdaa", sum := "08c2f5850d5918d335fcdb94ea733a1bed9e19fb82a423621494a4b678860745", func := "shellgame/shellgamelaw7.ScanTwice", spec := "scanTwice", unfollowed := true, recurses := true, apart := false }
def ScanTwiceSaid : Prop := scanTwiceRow.holds Try.pinned (OpenSpec.ofChange scanTwiceSpec)

/-- ITS FALSE NEIGHBOUR: 'it returns false'. Refute it at one input. -/
def scanTwiceWrong : ChangeSpec := { name := "scanTwice", fn := fun _ => fun
  | [d1, d2, d3, d4, d5] => { results := [.lit (.bool false)], args := [d1, d2, d3, d4, d5] }
  | _ => none }
def ScanTwiceWrongFalsely : Prop := scanTwiceRow.holds Try.pinned (OpenSpec.ofChange scanTwiceWrong)

/-- 'shellgamelaw5.NetSorts': WHATEVER THE INPUT: true; the input reads as it did. -/
def netSortsSpec : ChangeSpec := { name := "netSorts", fn := fun _ => fun
  | [d] => { results := [.lit (.bool true)], args := [d] }
  | _ => none }
def netSortsRow : OpenClaim := { program := "ytngpaibppdehdaa", sum := "08c2f5850d5918d335fcdb94ea733a1bed9e19fb82a423621494a4b678860745", func := "shellgame/shellgamelaw5.NetSorts", spec := "netSorts", inPlace := ["math/bits.Sub64"], unfollowed := true, recurses := true, apart := false }
def NetSortsSaid : Prop := netSortsRow.holds Try.pinned (OpenSpec.ofChange netSortsSpec)

/-- ITS FALSE NEIGHBOUR: 'it returns false'. Refute it at one input. -/
def netSortsWrong : ChangeSpec := { name := "netSorts", fn := fun _ => fun
  | [d] => { results := [.lit (.bool false)], args := [d] }
  | _ => none }
def NetSortsWrongFalsely : Prop := netSortsRow.holds Try.pinned (OpenSpec.ofChange netSortsWrong)

/-- 'shellgamelaw5.NetZeroOne': WHATEVER THE INPUT: true; the input reads as it did. -/
def netZeroOneSpec : ChangeSpec := { name := "netZeroOne", fn := fun _ => fun
  | [d1, d2] => { results := [.lit (.bool true)], args := [d1, d2] }
  | _ => none }
def netZeroOneRow : OpenClaim := { program := "ytngpaibppdehdaa", sum := "08c2f5850d5918d335fcdb94ea733a1bed9e19fb82a423621494a4b678860745", func := "shellgame/shellgamelaw5.NetZeroOne", spec := "netZeroOne", inPlace := ["math/bits.Sub64"], unfollowed := true, recurses := true, apart := false }
def NetZeroOneSaid : Prop := netZeroOneRow.holds Try.pinned (OpenSpec.ofChange netZeroOneSpec)

/-- ITS FALSE NEIGHBOUR: 'it returns false'. Refute it at one input. -/
def netZeroOneWrong : ChangeSpec := { name := "netZeroOne", fn := fun _ => fun
  | [d1, d2] => { results := [.lit (.bool false)], args := [d1, d2] }
  | _ => none }
def NetZeroOneWrongFalsely : Prop := netZeroOneRow.holds Try.pinned (OpenSpec.ofChange netZeroOneWrong)

/-- 'shellgamelaw5.NetTurns': WHATEVER THE INPUT: true; the input reads as it did. -/
def netTurnsSpec : ChangeSpec := { name := "netTurns", fn := fun _ => fun
  | [d1, d2, d3] => { results := [.lit (.bool true)], args := [d1, d2, d3] }
  | _ => none }
def netTurnsRow : OpenClaim := { program := "ytngpaibppdehdaa", sum := "08c2f5850d5918d335fcdb94ea733a1bed9e19fb82a423621494a4b678860745", func := "shellgame/shellgamelaw5.NetTurns", spec := "netTurns", inPlace := ["math/bits.Sub64"], unfollowed := true, recurses := true, apart := false }
def NetTurnsSaid : Prop := netTurnsRow.holds Try.pinned (OpenSpec.ofChange netTurnsSpec)

/-- ITS FALSE NEIGHBOUR: 'it returns false'. Refute it at one input. -/
def netTurnsWrong : ChangeSpec := { name := "netTurns", fn := fun _ => fun
  | [d1, d2, d3] => { results := [.lit (.bool false)], args := [d1, d2, d3] }
  | _ => none }
def NetTurnsWrongFalsely : Prop := netTurnsRow.holds Try.pinned (OpenSpec.ofChange netTurnsWrong)

/-- 'shellgamelaw5.NetOne': WHATEVER THE INPUT: true; the input reads as it did. -/
def netOneSpec : ChangeSpec := { name := "netOne", fn := fun _ => fun
  | [d1, d2, d3] => { results := [.lit (.bool true)], args := [d1, d2, d3] }
  | _ => none }
def netOneRow : OpenClaim := { program := "ytngpaibppdehdaa", sum := "08c2f5850d5918d335fcdb94ea733a1bed9e19fb82a423621494a4b678860745", func := "shellgame/shellgamelaw5.NetOne", spec := "netOne", inPlace := ["math/bits.Sub64"], unfollowed := true, recurses := true, apart := false }
def NetOneSaid : Prop := netOneRow.holds Try.pinned (OpenSpec.ofChange netOneSpec)

/-- ITS FALSE NEIGHBOUR: 'it returns false'. Refute it at one input. -/
def netOneWrong : ChangeSpec := { name := "netOne", fn := fun _ => fun
  | [d1, d2, d3] => { results := [.lit (.bool false)], args := [d1, d2, d3] }
  | _ => none }
def NetOneWrongFalsely : Prop := netOneRow.holds Try.pinned (OpenSpec.ofChange netOneWrong)

/-- 'shellgamelaw7.ScanFinds': WHATEVER THE INPUT: true; the input reads as it did. -/
def scanFindsSpec : ChangeSpec := { name := "scanFinds", fn := fun _ => fun
  | [d1, d2, d3, d4] => { results := [.lit (.bool true)], args := [d1, d2, d3, d4] }
  | _ => none }
def scanFindsRow : OpenClaim := { program := "ytngpaibppdehdaa", sum := "08c2f5850d5918d335fcdb94ea733a1bed9e19fb82a423621494a4b678860745", func := "shellgame/shellgamelaw7.ScanFinds", spec := "scanFinds", unfollowed := true, recurses := true, apart := false }
def ScanFindsSaid : Prop := scanFindsRow.holds Try.pinned (OpenSpec.ofChange scanFindsSpec)

/-- ITS FALSE NEIGHBOUR: 'it returns false'. Refute it at one input. -/
def scanFindsWrong : ChangeSpec := { name := "scanFinds", fn := fun _ => fun
  | [d1, d2, d3, d4] => { results := [.lit (.bool false)], args := [d1, d2, d3, d4] }
  | _ => none }
def ScanFindsWrongFalsely : Prop := scanFindsRow.holds Try.pinned (OpenSpec.ofChange scanFindsWrong)

/-- 'shellgamelaw6.SortOrders': WHATEVER THE INPUT: true; the input reads as it did. -/
def sortOrdersSpec : ChangeSpec := { name := "sortOrders", fn := fun _ => fun
  | [d1, d2] => { results := [.lit (.bool true)], args := [d1, d2] }
  | _ => none }
def sortOrdersRow : OpenClaim := { program := "ytngpaibppdehdaa", sum := "08c2f5850d5918d335fcdb94ea733a1bed9e19fb82a423621494a4b678860745", func := "shellgame/shellgamelaw6.SortOrders", spec := "sortOrders", inPlace := ["math/bits.Sub64"], unfollowed := true, recurses := true, apart := false }
def SortOrdersSaid : Prop := sortOrdersRow.holds Try.pinned (OpenSpec.ofChange sortOrdersSpec)

/-- ITS FALSE NEIGHBOUR: 'it returns false'. Refute it at one input. -/
def sortOrdersWrong : ChangeSpec := { name := "sortOrders", fn := fun _ => fun
  | [d1, d2] => { results := [.lit (.bool false)], args := [d1, d2] }
  | _ => none }
def SortOrdersWrongFalsely : Prop := sortOrdersRow.holds Try.pinned (OpenSpec.ofChange sortOrdersWrong)

/-- 'shellgamelaw6.SortOther': WHATEVER THE INPUT: true; the input reads as it did. -/
def sortOtherSpec : ChangeSpec := { name := "sortOther", fn := fun _ => fun
  | [d1, d2, d3, d4] => { results := [.lit (.bool true)], args := [d1, d2, d3, d4] }
  | _ => none }
def sortOtherRow : OpenClaim := { program := "ytngpaibppdehdaa", sum := "08c2f5850d5918d335fcdb94ea733a1bed9e19fb82a423621494a4b678860745", func := "shellgame/shellgamelaw6.SortOther", spec := "sortOther", inPlace := ["math/bits.Sub64"], unfollowed := true, recurses := true, apart := false }
def SortOtherSaid : Prop := sortOtherRow.holds Try.pinned (OpenSpec.ofChange sortOtherSpec)

/-- ITS FALSE NEIGHBOUR: 'it returns false'. Refute it at one input. -/
def sortOtherWrong : ChangeSpec := { name := "sortOther", fn := fun _ => fun
  | [d1, d2, d3, d4] => { results := [.lit (.bool false)], args := [d1, d2, d3, d4] }
  | _ => none }
def SortOtherWrongFalsely : Prop := sortOtherRow.holds Try.pinned (OpenSpec.ofChange sortOtherWrong)

/-- 'shellgamelaw7.ScanPuts': WHATEVER THE INPUT: true; the input reads as it did. -/
def scanPutsSpec : ChangeSpec := { name := "scanPuts", fn := fun _ => fun
  | [d1, d2, d3, d4] => { results := [.lit (.bool true)], args := [d1, d2, d3, d4] }
  | _ => none }
def scanPutsRow : OpenClaim := { program := "ytngpaibppdehdaa", sum := "08c2f5850d5918d335fcdb94ea733a1bed9e19fb82a423621494a4b678860745", func := "shellgame/shellgamelaw7.ScanPuts", spec := "scanPuts", unfollowed := true, recurses := true, apart := false }
def ScanPutsSaid : Prop := scanPutsRow.holds Try.pinned (OpenSpec.ofChange scanPutsSpec)

/-- ITS FALSE NEIGHBOUR: 'it returns false'. Refute it at one input. -/
def scanPutsWrong : ChangeSpec := { name := "scanPuts", fn := fun _ => fun
  | [d1, d2, d3, d4] => { results := [.lit (.bool false)], args := [d1, d2, d3, d4] }
  | _ => none }
def ScanPutsWrongFalsely : Prop := scanPutsRow.holds Try.pinned (OpenSpec.ofChange scanPutsWrong)

/-- 'shellgamelaw7.ScanAll': WHATEVER THE INPUT: true; the input reads as it did. -/
def scanAllSpec : ChangeSpec := { name := "scanAll", fn := fun _ => fun
  | [d1, d2, d3] => { results := [.lit (.bool true)], args := [d1, d2, d3] }
  | _ => none }
def scanAllRow : OpenClaim := { program := "ytngpaibppdehdaa", sum := "08c2f5850d5918d335fcdb94ea733a1bed9e19fb82a423621494a4b678860745", func := "shellgame/shellgamelaw7.ScanAll", spec := "scanAll", unfollowed := true, recurses := true, apart := false }
def ScanAllSaid : Prop := scanAllRow.holds Try.pinned (OpenSpec.ofChange scanAllSpec)

/-- ITS FALSE NEIGHBOUR: 'it returns false'. Refute it at one input. -/
def scanAllWrong : ChangeSpec := { name := "scanAll", fn := fun _ => fun
  | [d1, d2, d3] => { results := [.lit (.bool false)], args := [d1, d2, d3] }
  | _ => none }
def ScanAllWrongFalsely : Prop := scanAllRow.holds Try.pinned (OpenSpec.ofChange scanAllWrong)

/-- 'shellgamelaw7.ScanLooks': WHATEVER THE INPUT: true; the input reads as it did. -/
def scanLooksSpec : ChangeSpec := { name := "scanLooks", fn := fun _ => fun
  | [d1, d2, d3, d4, d5, d6] => { results := [.lit (.bool true)], args := [d1, d2, d3, d4, d5, d6] }
  | _ => none }
def scanLooksRow : OpenClaim := { program := "ytngpaibppdehdaa", sum := "08c2f5850d5918d335fcdb94ea733a1bed9e19fb82a423621494a4b678860745", func := "shellgame/shellgamelaw7.ScanLooks", spec := "scanLooks", unfollowed := true, recurses := true, apart := false }
def ScanLooksSaid : Prop := scanLooksRow.holds Try.pinned (OpenSpec.ofChange scanLooksSpec)

/-- ITS FALSE NEIGHBOUR: 'it returns false'. Refute it at one input. -/
def scanLooksWrong : ChangeSpec := { name := "scanLooks", fn := fun _ => fun
  | [d1, d2, d3, d4, d5, d6] => { results := [.lit (.bool false)], args := [d1, d2, d3, d4, d5, d6] }
  | _ => none }
def ScanLooksWrongFalsely : Prop := scanLooksRow.holds Try.pinned (OpenSpec.ofChange scanLooksWrong)

/-- 'shellgamelaw6.SortBlind': WHATEVER THE INPUT: true; the input reads as it did. -/
def sortBlindSpec : ChangeSpec := { name := "sortBlind", fn := fun _ => fun
  | [d1, d2, d3, d4] => { results := [.lit (.bool true)], args := [d1, d2, d3, d4] }
  | _ => none }
def sortBlindRow : OpenClaim := { program := "ytngpaibppdehdaa", sum := "08c2f5850d5918d335fcdb94ea733a1bed9e19fb82a423621494a4b678860745", func := "shellgame/shellgamelaw6.SortBlind", spec := "sortBlind", inPlace := ["math/bits.Sub64"], unfollowed := true, recurses := true, apart := false }
def SortBlindSaid : Prop := sortBlindRow.holds Try.pinned (OpenSpec.ofChange sortBlindSpec)

/-- ITS FALSE NEIGHBOUR: 'it returns false'. Refute it at one input. -/
def sortBlindWrong : ChangeSpec := { name := "sortBlind", fn := fun _ => fun
  | [d1, d2, d3, d4] => { results := [.lit (.bool false)], args := [d1, d2, d3, d4] }
  | _ => none }
def SortBlindWrongFalsely : Prop := sortBlindRow.holds Try.pinned (OpenSpec.ofChange sortBlindWrong)

/-- 'shellgamelaw6.SortStays': WHATEVER THE INPUT: true; the input reads as it did. -/
def sortStaysSpec : ChangeSpec := { name := "sortStays", fn := fun _ => fun
  | [d1, d2, d3] => { results := [.lit (.bool true)], args := [d1, d2, d3] }
  | _ => none }
def sortStaysRow : OpenClaim := { program := "ytngpaibppdehdaa", sum := "08c2f5850d5918d335fcdb94ea733a1bed9e19fb82a423621494a4b678860745", func := "shellgame/shellgamelaw6.SortStays", spec := "sortStays", inPlace := ["math/bits.Sub64"], unfollowed := true, recurses := true, apart := false }
def SortStaysSaid : Prop := sortStaysRow.holds Try.pinned (OpenSpec.ofChange sortStaysSpec)

/-- ITS FALSE NEIGHBOUR: 'it returns false'. Refute it at one input. -/
def sortStaysWrong : ChangeSpec := { name := "sortStays", fn := fun _ => fun
  | [d1, d2, d3] => { results := [.lit (.bool false)], args := [d1, d2, d3] }
  | _ => none }
def SortStaysWrongFalsely : Prop := sortStaysRow.holds Try.pinned (OpenSpec.ofChange sortStaysWrong)

/-- 'shellgamelaw6.SortRuns': WHATEVER THE INPUT: true; the input reads as it did. -/
def sortRunsSpec : ChangeSpec := { name := "sortRuns", fn := fun _ => fun
  | [d1, d2, d3, d4, d5] => { results := [.lit (.bool true)], args := [d1, d2, d3, d4, d5] }
  | _ => none }
def sortRunsRow : OpenClaim := { program := "ytngpaibppdehdaa", sum := "08c2f5850d5918d335fcdb94ea733a1bed9e19fb82a423621494a4b678860745", func := "shellgame/shellgamelaw6.SortRuns", spec := "sortRuns", inPlace := ["math/bits.Sub64"], unfollowed := true, recurses := true, apart := false }
def SortRunsSaid : Prop := sortRunsRow.holds Try.pinned (OpenSpec.ofChange sortRunsSpec)

/-- ITS FALSE NEIGHBOUR: 'it returns false'. Refute it at one input. -/
def sortRunsWrong : ChangeSpec := { name := "sortRuns", fn := fun _ => fun
  | [d1, d2, d3, d4, d5] => { results := [.lit (.bool false)], args := [d1, d2, d3, d4, d5] }
  | _ => none }
def SortRunsWrongFalsely : Prop := sortRunsRow.holds Try.pinned (OpenSpec.ofChange sortRunsWrong)

/- THE SECOND FORM. 'bulk': how many values and letters a reading holds, each counted each time it is reached (what is shared counts as often as it is met; a slice's spare places count too). A statement '..UptoSaid' is the law's where the arguments, and the package variables that the reading takes, are together of bulk at most 1048576: NARROWER than '..Said'. Prove '..Said' where nothing that the law and all that it calls make is longer than what came in: it says more and counts as full. Else prove '..UptoSaid'. A law counts once. -/
mutual
def uptoBulk {H : Type} : DataW H → Nat
  | .lit (.string bytes) => bytes.length + 1
  | .lit _ => 1
  | .nil => 1
  | .ptr d => uptoBulk d + 1
  | .slice elems spare => uptoBulkAll elems + uptoBulkAll spare + 1
  | .agg parts => uptoBulkAll parts + 1
  | .iface _ d => uptoBulk d + 1
  | .map entries => uptoBulkEntries entries + 1
  | .held _ => 1
def uptoBulkAll {H : Type} : List (DataW H) → Nat
  | [] => 0
  | d :: r => uptoBulk d + uptoBulkAll r
def uptoBulkEntries {H : Type} : List (Lit × DataW H) → Nat
  | [] => 0
  | x :: r => uptoBulkEntry x + uptoBulkEntries r
def uptoBulkEntry {H : Type} : Lit × DataW H → Nat
  | (.string bytes, d) => bytes.length + uptoBulk d + 1
  | (_, d) => uptoBulk d + 1
 end
def uptoSmall : (H : Type) → List (DataW H) → Bool := fun _ ds => decide (uptoBulkAll ds ≤ 1048576)
def OpenSpec.upto (s : _root_.Go.ChangeSpec) : _root_.Go.OpenSpec := { _root_.Go.OpenSpec.ofChange s with cond := some uptoSmall }

/-- 'shellgamelaw5.NetPairs', WHERE WHAT IT READS IS OF BULK AT MOST 1048576: true; the input reads as it did. -/
def netPairsUptoRow : OpenClaim := { program := "ytngpaibppdehdaa", sum := "08c2f5850d5918d335fcdb94ea733a1bed9e19fb82a423621494a4b678860745", func := "shellgame/shellgamelaw5.NetPairs", spec := "netPairs", unfollowed := true, recurses := true, apart := false, narrowed := true }
def NetPairsUptoSaid : Prop := netPairsUptoRow.holds Try.pinned (OpenSpec.upto netPairsSpec)

/-- 'shellgamelaw5.NetShape', WHERE WHAT IT READS IS OF BULK AT MOST 1048576: true; the input reads as it did. -/
def netShapeUptoRow : OpenClaim := { program := "ytngpaibppdehdaa", sum := "08c2f5850d5918d335fcdb94ea733a1bed9e19fb82a423621494a4b678860745", func := "shellgame/shellgamelaw5.NetShape", spec := "netShape", unfollowed := true, recurses := true, apart := false, narrowed := true }
def NetShapeUptoSaid : Prop := netShapeUptoRow.holds Try.pinned (OpenSpec.upto netShapeSpec)

/-- 'shellgamelaw5.NetHalves', WHERE WHAT IT READS IS OF BULK AT MOST 1048576: true; the input reads as it did. -/
def netHalvesUptoRow : OpenClaim := { program := "ytngpaibppdehdaa", sum := "08c2f5850d5918d335fcdb94ea733a1bed9e19fb82a423621494a4b678860745", func := "shellgame/shellgamelaw5.NetHalves", spec := "netHalves", unfollowed := true, recurses := true, apart := false, narrowed := true }
def NetHalvesUptoSaid : Prop := netHalvesUptoRow.holds Try.pinned (OpenSpec.upto netHalvesSpec)

/-- 'shellgamelaw3.MemBlind', WHERE WHAT IT READS IS OF BULK AT MOST 1048576: true; the input reads as it did. -/
def memBlindUptoRow : OpenClaim := { program := "ytngpaibppdehdaa", sum := "08c2f5850d5918d335fcdb94ea733a1bed9e19fb82a423621494a4b678860745", func := "shellgame/shellgamelaw3.MemBlind", spec := "memBlind", unfollowed := true, recurses := true, apart := false, narrowed := true }
def MemBlindUptoSaid : Prop := memBlindUptoRow.holds Try.pinned (OpenSpec.upto memBlindSpec)

/-- 'shellgamelaw3.MemLast', WHERE WHAT IT READS IS OF BULK AT MOST 1048576: true; the input reads as it did. -/
def memLastUptoRow : OpenClaim := { program := "ytngpaibppdehdaa", sum := "08c2f5850d5918d335fcdb94ea733a1bed9e19fb82a423621494a4b678860745", func := "shellgame/shellgamelaw3.MemLast", spec := "memLast", unfollowed := true, recurses := true, apart := false, narrowed := true }
def MemLastUptoSaid : Prop := memLastUptoRow.holds Try.pinned (OpenSpec.upto memLastSpec)

/-- 'shellgamelaw3.MemOthers', WHERE WHAT IT READS IS OF BULK AT MOST 1048576: true; the input reads as it did. -/
def memOthersUptoRow : OpenClaim := { program := "ytngpaibppdehdaa", sum := "08c2f5850d5918d335fcdb94ea733a1bed9e19fb82a423621494a4b678860745", func := "shellgame/shellgamelaw3.MemOthers", spec := "memOthers", unfollowed := true, recurses := true, apart := false, narrowed := true }
def MemOthersUptoSaid : Prop := memOthersUptoRow.holds Try.pinned (OpenSpec.upto memOthersSpec)

/-- 'shellgamelaw3.MemPlays', WHERE WHAT IT READS IS OF BULK AT MOST 1048576: true; the input reads as it did. -/
def memPlaysUptoRow : OpenClaim := { program := "ytngpaibppdehdaa", sum := "08c2f5850d5918d335fcdb94ea733a1bed9e19fb82a423621494a4b678860745", func := "shellgame/shellgamelaw3.MemPlays", spec := "memPlays", unfollowed := true, recurses := true, apart := false, narrowed := true }
def MemPlaysUptoSaid : Prop := memPlaysUptoRow.holds Try.pinned (OpenSpec.upto memPlaysSpec)

/-- 'shellgamelaw3.MemParts', WHERE WHAT IT READS IS OF BULK AT MOST 1048576: true; the input reads as it did. -/
def memPartsUptoRow : OpenClaim := { program := "ytngpaibppdehdaa", sum := "08c2f5850d5918d335fcdb94ea733a1bed9e19fb82a423621494a4b678860745", func := "shellgame/shellgamelaw3.MemParts", spec := "memParts", unfollowed := true, recurses := true, apart := false, narrowed := true }
def MemPartsUptoSaid : Prop := memPartsUptoRow.holds Try.pinned (OpenSpec.upto memPartsSpec)

/-- 'shellgamelaw7.ScanTwice', WHERE WHAT IT READS IS OF BULK AT MOST 1048576: true; the input reads as it did. -/
def scanTwiceUptoRow : OpenClaim := { program := "ytngpaibppdehdaa", sum := "08c2f5850d5918d335fcdb94ea733a1bed9e19fb82a423621494a4b678860745", func := "shellgame/shellgamelaw7.ScanTwice", spec := "scanTwice", unfollowed := true, recurses := true, apart := false, narrowed := true }
def ScanTwiceUptoSaid : Prop := scanTwiceUptoRow.holds Try.pinned (OpenSpec.upto scanTwiceSpec)

/-- 'shellgamelaw5.NetSorts', WHERE WHAT IT READS IS OF BULK AT MOST 1048576: true; the input reads as it did. -/
def netSortsUptoRow : OpenClaim := { program := "ytngpaibppdehdaa", sum := "08c2f5850d5918d335fcdb94ea733a1bed9e19fb82a423621494a4b678860745", func := "shellgame/shellgamelaw5.NetSorts", spec := "netSorts", inPlace := ["math/bits.Sub64"], unfollowed := true, recurses := true, apart := false, narrowed := true }
def NetSortsUptoSaid : Prop := netSortsUptoRow.holds Try.pinned (OpenSpec.upto netSortsSpec)

/-- 'shellgamelaw5.NetZeroOne', WHERE WHAT IT READS IS OF BULK AT MOST 1048576: true; the input reads as it did. -/
def netZeroOneUptoRow : OpenClaim := { program := "ytngpaibppdehdaa", sum := "08c2f5850d5918d335fcdb94ea733a1bed9e19fb82a423621494a4b678860745", func := "shellgame/shellgamelaw5.NetZeroOne", spec := "netZeroOne", inPlace := ["math/bits.Sub64"], unfollowed := true, recurses := true, apart := false, narrowed := true }
def NetZeroOneUptoSaid : Prop := netZeroOneUptoRow.holds Try.pinned (OpenSpec.upto netZeroOneSpec)

/-- 'shellgamelaw5.NetTurns', WHERE WHAT IT READS IS OF BULK AT MOST 1048576: true; the input reads as it did. -/
def netTurnsUptoRow : OpenClaim := { program := "ytngpaibppdehdaa", sum := "08c2f5850d5918d335fcdb94ea733a1bed9e19fb82a423621494a4b678860745", func := "shellgame/shellgamelaw5.NetTurns", spec := "netTurns", inPlace := ["math/bits.Sub64"], unfollowed := true, recurses := true, apart := false, narrowed := true }
def NetTurnsUptoSaid : Prop := netTurnsUptoRow.holds Try.pinned (OpenSpec.upto netTurnsSpec)

/-- 'shellgamelaw5.NetOne', WHERE WHAT IT READS IS OF BULK AT MOST 1048576: true; the input reads as it did. -/
def netOneUptoRow : OpenClaim := { program := "ytngpaibppdehdaa", sum := "08c2f5850d5918d335fcdb94ea733a1bed9e19fb82a423621494a4b678860745", func := "shellgame/shellgamelaw5.NetOne", spec := "netOne", inPlace := ["math/bits.Sub64"], unfollowed := true, recurses := true, apart := false, narrowed := true }
def NetOneUptoSaid : Prop := netOneUptoRow.holds Try.pinned (OpenSpec.upto netOneSpec)

/-- 'shellgamelaw7.ScanFinds', WHERE WHAT IT READS IS OF BULK AT MOST 1048576: true; the input reads as it did. -/
def scanFindsUptoRow : OpenClaim := { program := "ytngpaibppdehdaa", sum := "08c2f5850d5918d335fcdb94ea733a1bed9e19fb82a423621494a4b678860745", func := "shellgame/shellgamelaw7.ScanFinds", spec := "scanFinds", unfollowed := true, recurses := true, apart := false, narrowed := true }
def ScanFindsUptoSaid : Prop := scanFindsUptoRow.holds Try.pinned (OpenSpec.upto scanFindsSpec)

/-- 'shellgamelaw6.SortOrders', WHERE WHAT IT READS IS OF BULK AT MOST 1048576: true; the input reads as it did. -/
def sortOrdersUptoRow : OpenClaim := { program := "ytngpaibppdehdaa", sum := "08c2f5850d5918d335fcdb94ea733a1bed9e19fb82a423621494a4b678860745", func := "shellgame/shellgamelaw6.SortOrders", spec := "sortOrders", inPlace := ["math/bits.Sub64"], unfollowed := true, recurses := true, apart := false, narrowed := true }
def SortOrdersUptoSaid : Prop := sortOrdersUptoRow.holds Try.pinned (OpenSpec.upto sortOrdersSpec)

/-- 'shellgamelaw6.SortOther', WHERE WHAT IT READS IS OF BULK AT MOST 1048576: true; the input reads as it did. -/
def sortOtherUptoRow : OpenClaim := { program := "ytngpaibppdehdaa", sum := "08c2f5850d5918d335fcdb94ea733a1bed9e19fb82a423621494a4b678860745", func := "shellgame/shellgamelaw6.SortOther", spec := "sortOther", inPlace := ["math/bits.Sub64"], unfollowed := true, recurses := true, apart := false, narrowed := true }
def SortOtherUptoSaid : Prop := sortOtherUptoRow.holds Try.pinned (OpenSpec.upto sortOtherSpec)

/-- 'shellgamelaw7.ScanPuts', WHERE WHAT IT READS IS OF BULK AT MOST 1048576: true; the input reads as it did. -/
def scanPutsUptoRow : OpenClaim := { program := "ytngpaibppdehdaa", sum := "08c2f5850d5918d335fcdb94ea733a1bed9e19fb82a423621494a4b678860745", func := "shellgame/shellgamelaw7.ScanPuts", spec := "scanPuts", unfollowed := true, recurses := true, apart := false, narrowed := true }
def ScanPutsUptoSaid : Prop := scanPutsUptoRow.holds Try.pinned (OpenSpec.upto scanPutsSpec)

/-- 'shellgamelaw7.ScanAll', WHERE WHAT IT READS IS OF BULK AT MOST 1048576: true; the input reads as it did. -/
def scanAllUptoRow : OpenClaim := { program := "ytngpaibppdehdaa", sum := "08c2f5850d5918d335fcdb94ea733a1bed9e19fb82a423621494a4b678860745", func := "shellgame/shellgamelaw7.ScanAll", spec := "scanAll", unfollowed := true, recurses := true, apart := false, narrowed := true }
def ScanAllUptoSaid : Prop := scanAllUptoRow.holds Try.pinned (OpenSpec.upto scanAllSpec)

/-- 'shellgamelaw7.ScanLooks', WHERE WHAT IT READS IS OF BULK AT MOST 1048576: true; the input reads as it did. -/
def scanLooksUptoRow : OpenClaim := { program := "ytngpaibppdehdaa", sum := "08c2f5850d5918d335fcdb94ea733a1bed9e19fb82a423621494a4b678860745", func := "shellgame/shellgamelaw7.ScanLooks", spec := "scanLooks", unfollowed := true, recurses := true, apart := false, narrowed := true }
def ScanLooksUptoSaid : Prop := scanLooksUptoRow.holds Try.pinned (OpenSpec.upto scanLooksSpec)

/-- 'shellgamelaw6.SortBlind', WHERE WHAT IT READS IS OF BULK AT MOST 1048576: true; the input reads as it did. -/
def sortBlindUptoRow : OpenClaim := { program := "ytngpaibppdehdaa", sum := "08c2f5850d5918d335fcdb94ea733a1bed9e19fb82a423621494a4b678860745", func := "shellgame/shellgamelaw6.SortBlind", spec := "sortBlind", inPlace := ["math/bits.Sub64"], unfollowed := true, recurses := true, apart := false, narrowed := true }
def SortBlindUptoSaid : Prop := sortBlindUptoRow.holds Try.pinned (OpenSpec.upto sortBlindSpec)

/-- 'shellgamelaw6.SortStays', WHERE WHAT IT READS IS OF BULK AT MOST 1048576: true; the input reads as it did. -/
def sortStaysUptoRow : OpenClaim := { program := "ytngpaibppdehdaa", sum := "08c2f5850d5918d335fcdb94ea733a1bed9e19fb82a423621494a4b678860745", func := "shellgame/shellgamelaw6.SortStays", spec := "sortStays", inPlace := ["math/bits.Sub64"], unfollowed := true, recurses := true, apart := false, narrowed := true }
def SortStaysUptoSaid : Prop := sortStaysUptoRow.holds Try.pinned (OpenSpec.upto sortStaysSpec)

/-- 'shellgamelaw6.SortRuns', WHERE WHAT IT READS IS OF BULK AT MOST 1048576: true; the input reads as it did. -/
def sortRunsUptoRow : OpenClaim := { program := "ytngpaibppdehdaa", sum := "08c2f5850d5918d335fcdb94ea733a1bed9e19fb82a423621494a4b678860745", func := "shellgame/shellgamelaw6.SortRuns", spec := "sortRuns", inPlace := ["math/bits.Sub64"], unfollowed := true, recurses := true, apart := false, narrowed := true }
def SortRunsUptoSaid : Prop := sortRunsUptoRow.holds Try.pinned (OpenSpec.upto sortRunsSpec)

end Rows
end Go.Proofs.Ytngpaibppdehdaa
