/-
  No cell of these rows narrows 'for every input' (looked for: loops, veiled, ifaces, maps, wideKeys, modest, calm, conditions, laid).
  DERIVED. THE GIVEN ROWS OF THIS SEAT. 12 by the template 'for every input the law returns true; each argument reads behind the call as it read before'; 0 by the template 'total and deterministic' (their statements: YtiimdgdimjjboaaTotals.lean).
  GIVEN WITH THE SEED: the statements are not yours to turn. If you find one false, say at which input.
  Laid BY PROGRAM, IN A SANDBOX (cutbox-rows.mjs): the forced cells as the released guide's own fill.sh prints them over the translation 9b82a7e32c858f2f… (all of the seat's roots in one cut). By AI agents, Wed Nov 11 2026. No macro, syntax, notation, axiom, sorry.
-/
import Derived.Test.YtiimdgdimjjboaaChecked
import GoSem.Claim
import GoSem.ClaimJoined
import GoSem.ClaimMapViews
import Derived.JoinedTies
import Derived.KernelRfl
namespace Go.Proofs.Ytiimdgdimjjboaa
/- THE CELL 'sum', in the pinned program and in every row, IS THE sha256 OF THE DUMP (.gsa) THAT YtiimdgdimjjboaaProg.lean LOADS. Nothing in Lean hashes anything: it is a label: what it is worth is what the hold of that sum in a sandbox is worth. -/
noncomputable def Try.pinned : Pinned := { name := "ytiimdgdimjjboaa", sum := "9b82a7e32c858f2ff90a794d68907544d05c307a50627e77851f68b32de28e10", checked := Try.checked }
namespace Rows
def none {H : Type} : Left H := { results := [], args := [] }

/-- 'shellgamelaw9.DealPlaces': WHATEVER THE INPUT: true; the input reads as it did. -/
def dealPlacesSpec : ChangeSpec := { name := "dealPlaces", fn := fun _ => fun
  | [d1, d2, d3] => { results := [.lit (.bool true)], args := [d1, d2, d3] }
  | _ => none }
def dealPlacesRow : OpenClaim := { program := "ytiimdgdimjjboaa", sum := "9b82a7e32c858f2ff90a794d68907544d05c307a50627e77851f68b32de28e10", func := "shellgame/shellgamelaw9.DealPlaces", spec := "dealPlaces", unfollowed := true, recurses := true, apart := false }
def DealPlacesSaid : Prop := dealPlacesRow.holds Try.pinned (OpenSpec.ofChange dealPlacesSpec)

/-- ITS FALSE NEIGHBOUR: 'it returns false'. Refute it at one input. -/
def dealPlacesWrong : ChangeSpec := { name := "dealPlaces", fn := fun _ => fun
  | [d1, d2, d3] => { results := [.lit (.bool false)], args := [d1, d2, d3] }
  | _ => none }
def DealPlacesWrongFalsely : Prop := dealPlacesRow.holds Try.pinned (OpenSpec.ofChange dealPlacesWrong)

/-- 'shellgamelaw9.DealOnce': WHATEVER THE INPUT: true; the input reads as it did. -/
def dealOnceSpec : ChangeSpec := { name := "dealOnce", fn := fun _ => fun
  | [d1, d2] => { results := [.lit (.bool true)], args := [d1, d2] }
  | _ => none }
def dealOnceRow : OpenClaim := { program := "ytiimdgdimjjboaa", sum := "9b82a7e32c858f2ff90a794d68907544d05c307a50627e77851f68b32de28e10", func := "shellgame/shellgamelaw9.DealOnce", spec := "dealOnce", unfollowed := true, recurses := true, apart := false }
def DealOnceSaid : Prop := dealOnceRow.holds Try.pinned (OpenSpec.ofChange dealOnceSpec)

/-- ITS FALSE NEIGHBOUR: 'it returns false'. Refute it at one input. -/
def dealOnceWrong : ChangeSpec := { name := "dealOnce", fn := fun _ => fun
  | [d1, d2] => { results := [.lit (.bool false)], args := [d1, d2] }
  | _ => none }
def DealOnceWrongFalsely : Prop := dealOnceRow.holds Try.pinned (OpenSpec.ofChange dealOnceWrong)

/-- 'shellgamelaw9.DealFew': WHATEVER THE INPUT: true; the input reads as it did. -/
def dealFewSpec : ChangeSpec := { name := "dealFew", fn := fun _ => fun
  | [d1, d2] => { results := [.lit (.bool true)], args := [d1, d2] }
  | _ => none }
def dealFewRow : OpenClaim := { program := "ytiimdgdimjjboaa", sum := "9b82a7e32c858f2ff90a794d68907544d05c307a50627e77851f68b32de28e10", func := "shellgame/shellgamelaw9.DealFew", spec := "dealFew", unfollowed := true, recurses := true, apart := false }
def DealFewSaid : Prop := dealFewRow.holds Try.pinned (OpenSpec.ofChange dealFewSpec)

/-- ITS FALSE NEIGHBOUR: 'it returns false'. Refute it at one input. -/
def dealFewWrong : ChangeSpec := { name := "dealFew", fn := fun _ => fun
  | [d1, d2] => { results := [.lit (.bool false)], args := [d1, d2] }
  | _ => none }
def DealFewWrongFalsely : Prop := dealFewRow.holds Try.pinned (OpenSpec.ofChange dealFewWrong)

/-- 'shellgamelaw9.DealMoved': WHATEVER THE INPUT: true; the input reads as it did. -/
def dealMovedSpec : ChangeSpec := { name := "dealMoved", fn := fun _ => fun
  | [d1, d2, d3] => { results := [.lit (.bool true)], args := [d1, d2, d3] }
  | _ => none }
def dealMovedRow : OpenClaim := { program := "ytiimdgdimjjboaa", sum := "9b82a7e32c858f2ff90a794d68907544d05c307a50627e77851f68b32de28e10", func := "shellgame/shellgamelaw9.DealMoved", spec := "dealMoved", unfollowed := true, recurses := true, apart := false }
def DealMovedSaid : Prop := dealMovedRow.holds Try.pinned (OpenSpec.ofChange dealMovedSpec)

/-- ITS FALSE NEIGHBOUR: 'it returns false'. Refute it at one input. -/
def dealMovedWrong : ChangeSpec := { name := "dealMoved", fn := fun _ => fun
  | [d1, d2, d3] => { results := [.lit (.bool false)], args := [d1, d2, d3] }
  | _ => none }
def DealMovedWrongFalsely : Prop := dealMovedRow.holds Try.pinned (OpenSpec.ofChange dealMovedWrong)

/-- 'shellgamelaw9.DealOrder': WHATEVER THE INPUT: true; the input reads as it did. -/
def dealOrderSpec : ChangeSpec := { name := "dealOrder", fn := fun _ => fun
  | [d] => { results := [.lit (.bool true)], args := [d] }
  | _ => none }
def dealOrderRow : OpenClaim := { program := "ytiimdgdimjjboaa", sum := "9b82a7e32c858f2ff90a794d68907544d05c307a50627e77851f68b32de28e10", func := "shellgame/shellgamelaw9.DealOrder", spec := "dealOrder", unfollowed := true, recurses := true, apart := false }
def DealOrderSaid : Prop := dealOrderRow.holds Try.pinned (OpenSpec.ofChange dealOrderSpec)

/-- ITS FALSE NEIGHBOUR: 'it returns false'. Refute it at one input. -/
def dealOrderWrong : ChangeSpec := { name := "dealOrder", fn := fun _ => fun
  | [d] => { results := [.lit (.bool false)], args := [d] }
  | _ => none }
def DealOrderWrongFalsely : Prop := dealOrderRow.holds Try.pinned (OpenSpec.ofChange dealOrderWrong)

/-- 'shellgamelaw9.DealFull': WHATEVER THE INPUT: true; the input reads as it did. -/
def dealFullSpec : ChangeSpec := { name := "dealFull", fn := fun _ => fun
  | [d1, d2] => { results := [.lit (.bool true)], args := [d1, d2] }
  | _ => none }
def dealFullRow : OpenClaim := { program := "ytiimdgdimjjboaa", sum := "9b82a7e32c858f2ff90a794d68907544d05c307a50627e77851f68b32de28e10", func := "shellgame/shellgamelaw9.DealFull", spec := "dealFull", unfollowed := true, recurses := true, apart := false }
def DealFullSaid : Prop := dealFullRow.holds Try.pinned (OpenSpec.ofChange dealFullSpec)

/-- ITS FALSE NEIGHBOUR: 'it returns false'. Refute it at one input. -/
def dealFullWrong : ChangeSpec := { name := "dealFull", fn := fun _ => fun
  | [d1, d2] => { results := [.lit (.bool false)], args := [d1, d2] }
  | _ => none }
def DealFullWrongFalsely : Prop := dealFullRow.holds Try.pinned (OpenSpec.ofChange dealFullWrong)

/-- 'shellgamelaw10.LevelKeeps': WHATEVER THE INPUT: true; the input reads as it did. -/
def levelKeepsSpec : ChangeSpec := { name := "levelKeeps", fn := fun _ => fun
  | [d1, d2, d3] => { results := [.lit (.bool true)], args := [d1, d2, d3] }
  | _ => none }
def levelKeepsRow : OpenClaim := { program := "ytiimdgdimjjboaa", sum := "9b82a7e32c858f2ff90a794d68907544d05c307a50627e77851f68b32de28e10", func := "shellgame/shellgamelaw10.LevelKeeps", spec := "levelKeeps", inPlace := ["math/bits.Sub64"], unfollowed := true, recurses := true, apart := false }
def LevelKeepsSaid : Prop := levelKeepsRow.holds Try.pinned (OpenSpec.ofChange levelKeepsSpec)

/-- ITS FALSE NEIGHBOUR: 'it returns false'. Refute it at one input. -/
def levelKeepsWrong : ChangeSpec := { name := "levelKeeps", fn := fun _ => fun
  | [d1, d2, d3] => { results := [.lit (.bool false)], args := [d1, d2, d3] }
  | _ => none }
def LevelKeepsWrongFalsely : Prop := levelKeepsRow.holds Try.pinned (OpenSpec.ofChange levelKeepsWrong)

/-- 'shellgamelaw10.LevelRoom': WHATEVER THE INPUT: true; the input reads as it did. -/
def levelRoomSpec : ChangeSpec := { name := "levelRoom", fn := fun _ => fun
  | [d1, d2] => { results := [.lit (.bool true)], args := [d1, d2] }
  | _ => none }
def levelRoomRow : OpenClaim := { program := "ytiimdgdimjjboaa", sum := "9b82a7e32c858f2ff90a794d68907544d05c307a50627e77851f68b32de28e10", func := "shellgame/shellgamelaw10.LevelRoom", spec := "levelRoom", inPlace := ["math/bits.Sub64"], unfollowed := true, recurses := true, apart := false }
def LevelRoomSaid : Prop := levelRoomRow.holds Try.pinned (OpenSpec.ofChange levelRoomSpec)

/-- ITS FALSE NEIGHBOUR: 'it returns false'. Refute it at one input. -/
def levelRoomWrong : ChangeSpec := { name := "levelRoom", fn := fun _ => fun
  | [d1, d2] => { results := [.lit (.bool false)], args := [d1, d2] }
  | _ => none }
def LevelRoomWrongFalsely : Prop := levelRoomRow.holds Try.pinned (OpenSpec.ofChange levelRoomWrong)

/-- 'shellgamelaw10.LevelMoves': WHATEVER THE INPUT: true; the input reads as it did. -/
def levelMovesSpec : ChangeSpec := { name := "levelMoves", fn := fun _ => fun
  | [d1, d2, d3, d4, d5, d6] => { results := [.lit (.bool true)], args := [d1, d2, d3, d4, d5, d6] }
  | _ => none }
def levelMovesRow : OpenClaim := { program := "ytiimdgdimjjboaa", sum := "9b82a7e32c858f2ff90a794d68907544d05c307a50627e77851f68b32de28e10", func := "shellgame/shellgamelaw10.LevelMoves", spec := "levelMoves", inPlace := ["math/bits.Sub64"], unfollowed := true, recurses := true, apart := false }
def LevelMovesSaid : Prop := levelMovesRow.holds Try.pinned (OpenSpec.ofChange levelMovesSpec)

/-- ITS FALSE NEIGHBOUR: 'it returns false'. Refute it at one input. -/
def levelMovesWrong : ChangeSpec := { name := "levelMoves", fn := fun _ => fun
  | [d1, d2, d3, d4, d5, d6] => { results := [.lit (.bool false)], args := [d1, d2, d3, d4, d5, d6] }
  | _ => none }
def LevelMovesWrongFalsely : Prop := levelMovesRow.holds Try.pinned (OpenSpec.ofChange levelMovesWrong)

/-- 'shellgamelaw10.LevelDrops': WHATEVER THE INPUT: true; the input reads as it did. -/
def levelDropsSpec : ChangeSpec := { name := "levelDrops", fn := fun _ => fun
  | [d1, d2, d3] => { results := [.lit (.bool true)], args := [d1, d2, d3] }
  | _ => none }
def levelDropsRow : OpenClaim := { program := "ytiimdgdimjjboaa", sum := "9b82a7e32c858f2ff90a794d68907544d05c307a50627e77851f68b32de28e10", func := "shellgame/shellgamelaw10.LevelDrops", spec := "levelDrops", inPlace := ["math/bits.Sub64"], unfollowed := true, recurses := true, apart := false }
def LevelDropsSaid : Prop := levelDropsRow.holds Try.pinned (OpenSpec.ofChange levelDropsSpec)

/-- ITS FALSE NEIGHBOUR: 'it returns false'. Refute it at one input. -/
def levelDropsWrong : ChangeSpec := { name := "levelDrops", fn := fun _ => fun
  | [d1, d2, d3] => { results := [.lit (.bool false)], args := [d1, d2, d3] }
  | _ => none }
def LevelDropsWrongFalsely : Prop := levelDropsRow.holds Try.pinned (OpenSpec.ofChange levelDropsWrong)

/-- 'shellgamelaw10.LevelTwo': WHATEVER THE INPUT: true; the input reads as it did. -/
def levelTwoSpec : ChangeSpec := { name := "levelTwo", fn := fun _ => fun
  | [d1, d2, d3] => { results := [.lit (.bool true)], args := [d1, d2, d3] }
  | _ => none }
def levelTwoRow : OpenClaim := { program := "ytiimdgdimjjboaa", sum := "9b82a7e32c858f2ff90a794d68907544d05c307a50627e77851f68b32de28e10", func := "shellgame/shellgamelaw10.LevelTwo", spec := "levelTwo", inPlace := ["math/bits.Sub64"], unfollowed := true, recurses := true, apart := false }
def LevelTwoSaid : Prop := levelTwoRow.holds Try.pinned (OpenSpec.ofChange levelTwoSpec)

/-- ITS FALSE NEIGHBOUR: 'it returns false'. Refute it at one input. -/
def levelTwoWrong : ChangeSpec := { name := "levelTwo", fn := fun _ => fun
  | [d1, d2, d3] => { results := [.lit (.bool false)], args := [d1, d2, d3] }
  | _ => none }
def LevelTwoWrongFalsely : Prop := levelTwoRow.holds Try.pinned (OpenSpec.ofChange levelTwoWrong)

/-- 'shellgamelaw10.LevelBlind': WHATEVER THE INPUT: true; the input reads as it did. -/
def levelBlindSpec : ChangeSpec := { name := "levelBlind", fn := fun _ => fun
  | [d1, d2, d3, d4, d5] => { results := [.lit (.bool true)], args := [d1, d2, d3, d4, d5] }
  | _ => none }
def levelBlindRow : OpenClaim := { program := "ytiimdgdimjjboaa", sum := "9b82a7e32c858f2ff90a794d68907544d05c307a50627e77851f68b32de28e10", func := "shellgame/shellgamelaw10.LevelBlind", spec := "levelBlind", inPlace := ["math/bits.Sub64"], unfollowed := true, recurses := true, apart := false }
def LevelBlindSaid : Prop := levelBlindRow.holds Try.pinned (OpenSpec.ofChange levelBlindSpec)

/-- ITS FALSE NEIGHBOUR: 'it returns false'. Refute it at one input. -/
def levelBlindWrong : ChangeSpec := { name := "levelBlind", fn := fun _ => fun
  | [d1, d2, d3, d4, d5] => { results := [.lit (.bool false)], args := [d1, d2, d3, d4, d5] }
  | _ => none }
def LevelBlindWrongFalsely : Prop := levelBlindRow.holds Try.pinned (OpenSpec.ofChange levelBlindWrong)

/- THE SECOND FORM. 'bulk': how many values and letters a reading holds, each counted each time it is reached (what is shared counts as often as it is met; a slice's spare places count too). A statement '..UptoSaid' is the law's where the arguments, and the package variables that the reading takes, are together of bulk at most 1048576: NARROWER than '..Said'. Prove '..Said' where nothing that the law and all that it calls make is longer than what came in: it says more and counts as full. Else prove '..UptoSaid'. A law counts once. -/
mutual
def uptoBulk {H : Type} : DataW H → Nat
  | .lit (.string bytes) => bytes.length + 1
  | .lit _ => 1
  | .nil => 1
  | .ptr d => uptoBulk d + 1
  | .slice elems spare => uptoBulkAll elems + uptoBulkAll spare + 1
  | .agg parts => uptoBulkAll parts + 1
  | .iface _ d => uptoBulk d + 1
  | .map entries => uptoBulkEntries entries + 1
  | .held _ => 1
def uptoBulkAll {H : Type} : List (DataW H) → Nat
  | [] => 0
  | d :: r => uptoBulk d + uptoBulkAll r
def uptoBulkEntries {H : Type} : List (Lit × DataW H) → Nat
  | [] => 0
  | x :: r => uptoBulkEntry x + uptoBulkEntries r
def uptoBulkEntry {H : Type} : Lit × DataW H → Nat
  | (.string bytes, d) => bytes.length + uptoBulk d + 1
  | (_, d) => uptoBulk d + 1
 end
def uptoSmall : (H : Type) → List (DataW H) → Bool := fun _ ds => decide (uptoBulkAll ds ≤ 1048576)
def OpenSpec.upto (s : _root_.Go.ChangeSpec) : _root_.Go.OpenSpec := { _root_.Go.OpenSpec.ofChange s with cond := some uptoSmall }

/-- 'shellgamelaw9.DealPlaces', WHERE WHAT IT READS IS OF BULK AT MOST 1048576: true; the input reads as it did. -/
def dealPlacesUptoRow : OpenClaim := { program := "ytiimdgdimjjboaa", sum := "9b82a7e32c858f2ff90a794d68907544d05c307a50627e77851f68b32de28e10", func := "shellgame/shellgamelaw9.DealPlaces", spec := "dealPlaces", unfollowed := true, recurses := true, apart := false, narrowed := true }
def DealPlacesUptoSaid : Prop := dealPlacesUptoRow.holds Try.pinned (OpenSpec.upto dealPlacesSpec)

/-- 'shellgamelaw9.DealOnce', WHERE WHAT IT READS IS OF BULK AT MOST 1048576: true; the input reads as it did. -/
def dealOnceUptoRow : OpenClaim := { program := "ytiimdgdimjjboaa", sum := "9b82a7e32c858f2ff90a794d68907544d05c307a50627e77851f68b32de28e10", func := "shellgame/shellgamelaw9.DealOnce", spec := "dealOnce", unfollowed := true, recurses := true, apart := false, narrowed := true }
def DealOnceUptoSaid : Prop := dealOnceUptoRow.holds Try.pinned (OpenSpec.upto dealOnceSpec)

/-- 'shellgamelaw9.DealFew', WHERE WHAT IT READS IS OF BULK AT MOST 1048576: true; the input reads as it did. -/
def dealFewUptoRow : OpenClaim := { program := "ytiimdgdimjjboaa", sum := "9b82a7e32c858f2ff90a794d68907544d05c307a50627e77851f68b32de28e10", func := "shellgame/shellgamelaw9.DealFew", spec := "dealFew", unfollowed := true, recurses := true, apart := false, narrowed := true }
def DealFewUptoSaid : Prop := dealFewUptoRow.holds Try.pinned (OpenSpec.upto dealFewSpec)

/-- 'shellgamelaw9.DealMoved', WHERE WHAT IT READS IS OF BULK AT MOST 1048576: true; the input reads as it did. -/
def dealMovedUptoRow : OpenClaim := { program := "ytiimdgdimjjboaa", sum := "9b82a7e32c858f2ff90a794d68907544d05c307a50627e77851f68b32de28e10", func := "shellgame/shellgamelaw9.DealMoved", spec := "dealMoved", unfollowed := true, recurses := true, apart := false, narrowed := true }
def DealMovedUptoSaid : Prop := dealMovedUptoRow.holds Try.pinned (OpenSpec.upto dealMovedSpec)

/-- 'shellgamelaw9.DealOrder', WHERE WHAT IT READS IS OF BULK AT MOST 1048576: true; the input reads as it did. -/
def dealOrderUptoRow : OpenClaim := { program := "ytiimdgdimjjboaa", sum := "9b82a7e32c858f2ff90a794d68907544d05c307a50627e77851f68b32de28e10", func := "shellgame/shellgamelaw9.DealOrder", spec := "dealOrder", unfollowed := true, recurses := true, apart := false, narrowed := true }
def DealOrderUptoSaid : Prop := dealOrderUptoRow.holds Try.pinned (OpenSpec.upto dealOrderSpec)

/-- 'shellgamelaw9.DealFull', WHERE WHAT IT READS IS OF BULK AT MOST 1048576: true; the input reads as it did. -/
def dealFullUptoRow : OpenClaim := { program := "ytiimdgdimjjboaa", sum := "9b82a7e32c858f2ff90a794d68907544d05c307a50627e77851f68b32de28e10", func := "shellgame/shellgamelaw9.DealFull", spec := "dealFull", unfollowed := true, recurses := true, apart := false, narrowed := true }
def DealFullUptoSaid : Prop := dealFullUptoRow.holds Try.pinned (OpenSpec.upto dealFullSpec)

/-- 'shellgamelaw10.LevelKeeps', WHERE WHAT IT READS IS OF BULK AT MOST 1048576: true; the input reads as it did. -/
def levelKeepsUptoRow : OpenClaim := { program := "ytiimdgdimjjboaa", sum := "9b82a7e32c858f2ff90a794d68907544d05c307a50627e77851f68b32de28e10", func := "shellgame/shellgamelaw10.LevelKeeps", spec := "levelKeeps", inPlace := ["math/bits.Sub64"], unfollowed := true, recurses := true, apart := false, narrowed := true }
def LevelKeepsUptoSaid : Prop := levelKeepsUptoRow.holds Try.pinned (OpenSpec.upto levelKeepsSpec)

/-- 'shellgamelaw10.LevelRoom', WHERE WHAT IT READS IS OF BULK AT MOST 1048576: true; the input reads as it did. -/
def levelRoomUptoRow : OpenClaim := { program := "ytiimdgdimjjboaa", sum := "9b82a7e32c858f2ff90a794d68907544d05c307a50627e77851f68b32de28e10", func := "shellgame/shellgamelaw10.LevelRoom", spec := "levelRoom", inPlace := ["math/bits.Sub64"], unfollowed := true, recurses := true, apart := false, narrowed := true }
def LevelRoomUptoSaid : Prop := levelRoomUptoRow.holds Try.pinned (OpenSpec.upto levelRoomSpec)

/-- 'shellgamelaw10.LevelMoves', WHERE WHAT IT READS IS OF BULK AT MOST 1048576: true; the input reads as it did. -/
def levelMovesUptoRow : OpenClaim := { program := "ytiimdgdimjjboaa", sum := "9b82a7e32c858f2ff90a794d68907544d05c307a50627e77851f68b32de28e10", func := "shellgame/shellgamelaw10.LevelMoves", spec := "levelMoves", inPlace := ["math/bits.Sub64"], unfollowed := true, recurses := true, apart := false, narrowed := true }
def LevelMovesUptoSaid : Prop := levelMovesUptoRow.holds Try.pinned (OpenSpec.upto levelMovesSpec)

/-- 'shellgamelaw10.LevelDrops', WHERE WHAT IT READS IS OF BULK AT MOST 1048576: true; the input reads as it did. -/
def levelDropsUptoRow : OpenClaim := { program := "ytiimdgdimjjboaa", sum := "9b82a7e32c858f2ff90a794d68907544d05c307a50627e77851f68b32de28e10", func := "shellgame/shellgamelaw10.LevelDrops", spec := "levelDrops", inPlace := ["math/bits.Sub64"], unfollowed := true, recurses := true, apart := false, narrowed := true }
def LevelDropsUptoSaid : Prop := levelDropsUptoRow.holds Try.pinned (OpenSpec.upto levelDropsSpec)

/-- 'shellgamelaw10.LevelTwo', WHERE WHAT IT READS IS OF BULK AT MOST 1048576: true; the input reads as it did. -/
def levelTwoUptoRow : OpenClaim := { program := "ytiimdgdimjjboaa", sum := "9b82a7e32c858f2ff90a794d68907544d05c307a50627e77851f68b32de28e10", func := "shellgame/shellgamelaw10.LevelTwo", spec := "levelTwo", inPlace := ["math/bits.Sub64"], unfollowed := true, recurses := true, apart := false, narrowed := true }
def LevelTwoUptoSaid : Prop := levelTwoUptoRow.holds Try.pinned (OpenSpec.upto levelTwoSpec)

/-- 'shellgamelaw10.LevelBlind', WHERE WHAT IT READS IS OF BULK AT MOST 1048576: true; the input reads as it did. -/
def levelBlindUptoRow : OpenClaim := { program := "ytiimdgdimjjboaa", sum := "9b82a7e32c858f2ff90a794d68907544d05c307a50627e77851f68b32de28e10", func := "shellgame/shellgamelaw10.LevelBlind", spec := "levelBlind", inPlace := ["math/bits.Sub64"], unfollowed := true, recurses := true, apart := false, narrowed := true }
def LevelBlindUptoSaid : Prop := levelBlindUptoRow.holds Try.pinned (OpenSpec.upto levelBlindSpec)

end Rows
end Go.Proofs.Ytiimdgdimjjboaa
