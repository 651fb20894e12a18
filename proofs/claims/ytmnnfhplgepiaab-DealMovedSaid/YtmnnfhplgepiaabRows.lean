/-
  No cell of these rows narrows 'for every input' (looked for: loops, veiled, ifaces, maps, wideKeys, modest, calm, conditions, laid).
  DERIVED. THE GIVEN ROWS OF THIS SEAT. 6 by the template 'for every input the law returns true; each argument reads behind the call as it read before'; 0 by the template 'total and deterministic' (their statements: YtmnnfhplgepiaabTotals.lean).
  GIVEN WITH THE SEED: the statements are not yours to turn. If you find one false, say at which input.
  Laid BY PROGRAM, IN A SANDBOX (cutbox-rows.mjs): the forced cells as the released guide's own fill.sh prints them over the translation 7b0d3e0cec126d89… (all of the seat's roots in one cut). By AI agents, Wed Nov 11 2026. No macro, syntax, notation, axiom, sorry.
-/
import Derived.Test.YtmnnfhplgepiaabChecked
import GoSem.Claim
import GoSem.ClaimJoined
import GoSem.ClaimMapViews
import Derived.JoinedTies
import Derived.KernelRfl
namespace Go.Proofs.Ytmnnfhplgepiaab
/- THE CELL 'sum', in the pinned program and in every row, IS THE sha256 OF THE DUMP (.gsa) THAT YtmnnfhplgepiaabProg.lean LOADS. Nothing in Lean hashes anything: it is a label: what it is worth is what the hold of that sum in a sandbox is worth. -/
noncomputable def Try.pinned : Pinned := { name := "ytmnnfhplgepiaab", sum := "7b0d3e0cec126d892615570b81388b1e4a07a4b065d81b4aa8623f63db99f78a", checked := Try.checked }
namespace Rows
def none {H : Type} : Left H := { results := [], args := [] }

/-- 'shellgamelaw9.DealPlaces': WHATEVER THE INPUT: true; the input reads as it did. -/
def dealPlacesSpec : ChangeSpec := { name := "dealPlaces", fn := fun _ => fun
  | [d1, d2, d3] => { results := [.lit (.bool true)], args := [d1, d2, d3] }
  | _ => none }
def dealPlacesRow : OpenClaim := { program := "ytmnnfhplgepiaab", sum := "7b0d3e0cec126d892615570b81388b1e4a07a4b065d81b4aa8623f63db99f78a", func := "shellgame/shellgamelaw9.DealPlaces", spec := "dealPlaces", unfollowed := true, recurses := true, apart := false }
def DealPlacesSaid : Prop := dealPlacesRow.holds Try.pinned (OpenSpec.ofChange dealPlacesSpec)

/-- ITS FALSE NEIGHBOUR: 'it returns false'. Refute it at one input. -/
def dealPlacesWrong : ChangeSpec := { name := "dealPlaces", fn := fun _ => fun
  | [d1, d2, d3] => { results := [.lit (.bool false)], args := [d1, d2, d3] }
  | _ => none }
def DealPlacesWrongFalsely : Prop := dealPlacesRow.holds Try.pinned (OpenSpec.ofChange dealPlacesWrong)

/-- 'shellgamelaw9.DealOnce': WHATEVER THE INPUT: true; the input reads as it did. -/
def dealOnceSpec : ChangeSpec := { name := "dealOnce", fn := fun _ => fun
  | [d1, d2] => { results := [.lit (.bool true)], args := [d1, d2] }
  | _ => none }
def dealOnceRow : OpenClaim := { program := "ytmnnfhplgepiaab", sum := "7b0d3e0cec126d892615570b81388b1e4a07a4b065d81b4aa8623f63db99f78a", func := "shellgame/shellgamelaw9.DealOnce", spec := "dealOnce", unfollowed := true, recurses := true, apart := false }
def DealOnceSaid : Prop := dealOnceRow.holds Try.pinned (OpenSpec.ofChange dealOnceSpec)

/-- ITS FALSE NEIGHBOUR: 'it returns false'. Refute it at one input. -/
def dealOnceWrong : ChangeSpec := { name := "dealOnce", fn := fun _ => fun
  | [d1, d2] => { results := [.lit (.bool false)], args := [d1, d2] }
  | _ => none }
def DealOnceWrongFalsely : Prop := dealOnceRow.holds Try.pinned (OpenSpec.ofChange dealOnceWrong)

/-- 'shellgamelaw9.DealFew': WHATEVER THE INPUT: true; the input reads as it did. -/
def dealFewSpec : ChangeSpec := { name := "dealFew", fn := fun _ => fun
  | [d1, d2] => { results := [.lit (.bool true)], args := [d1, d2] }
  | _ => none }
def dealFewRow : OpenClaim := { program := "ytmnnfhplgepiaab", sum := "7b0d3e0cec126d892615570b81388b1e4a07a4b065d81b4aa8623f63db99f78a", func := "shellgame/shellgamelaw9.DealFew", spec := "dealFew", unfollowed := true, recurses := true, apart := false }
def DealFewSaid : Prop := dealFewRow.holds Try.pinned (OpenSpec.ofChange dealFewSpec)

/-- ITS FALSE NEIGHBOUR: 'it returns false'. Refute it at one input. -/
def dealFewWrong : ChangeSpec := { name := "dealFew", fn := fun _ => fun
  | [d1, d2] => { results := [.lit (.bool false)], args := [d1, d2] }
  | _ => none }
def DealFewWrongFalsely : Prop := dealFewRow.holds Try.pinned (OpenSpec.ofChange dealFewWrong)

/-- 'shellgamelaw9.DealMoved': WHATEVER THE INPUT: true; the input reads as it did. -/
def dealMovedSpec : ChangeSpec := { name := "dealMoved", fn := fun _ => fun
  | [d1, d2, d3] => { results := [.lit (.bool true)], args := [d1, d2, d3] }
  | _ => none }
def dealMovedRow : OpenClaim := { program := "ytmnnfhplgepiaab", sum := "7b0d3e0cec126d892615570b81388b1e4a07a4b065d81b4aa8623f63db99f78a", func := "shellgame/shellgamelaw9.DealMoved", spec := "dealMoved", unfollowed := true, recurses := true, apart := false }
def DealMovedSaid : Prop := dealMovedRow.holds Try.pinned (OpenSpec.ofChange dealMovedSpec)

/-- ITS FALSE NEIGHBOUR: 'it returns false'. Refute it at one input. -/
def dealMovedWrong : ChangeSpec := { name := "dealMoved", fn := fun _ => fun
  | [d1, d2, d3] => { results := [.lit (.bool false)], args := [d1, d2, d3] }
  | _ => none }
def DealMovedWrongFalsely : Prop := dealMovedRow.holds Try.pinned (OpenSpec.ofChange dealMovedWrong)

/-- 'shellgamelaw9.DealOrder': WHATEVER THE INPUT: true; the input reads as it did. -/
def dealOrderSpec : ChangeSpec := { name := "dealOrder", fn := fun _ => fun
  | [d] => { results := [.lit (.bool true)], args := [d] }
  | _ => none }
def dealOrderRow : OpenClaim := { program := "ytmnnfhplgepiaab", sum := "7b0d3e0cec126d892615570b81388b1e4a07a4b065d81b4aa8623f63db99f78a", func := "shellgame/shellgamelaw9.DealOrder", spec := "dealOrder", unfollowed := true, recurses := true, apart := false }
def DealOrderSaid : Prop := dealOrderRow.holds Try.pinned (OpenSpec.ofChange dealOrderSpec)

/-- ITS FALSE NEIGHBOUR: 'it returns false'. Refute it at one input. -/
def dealOrderWrong : ChangeSpec := { name := "dealOrder", fn := fun _ => fun
  | [d] => { results := [.lit (.bool false)], args := [d] }
  | _ => none }
def DealOrderWrongFalsely : Prop := dealOrderRow.holds Try.pinned (OpenSpec.ofChange dealOrderWrong)

/-- 'shellgamelaw9.DealFull': WHATEVER THE INPUT: true; the input reads as it did. -/
def dealFullSpec : ChangeSpec := { name := "dealFull", fn := fun _ => fun
  | [d1, d2] => { results := [.lit (.bool true)], args := [d1, d2] }
  | _ => none }
def dealFullRow : OpenClaim := { program := "ytmnnfhplgepiaab", sum := "7b0d3e0cec126d892615570b81388b1e4a07a4b065d81b4aa8623f63db99f78a", func := "shellgame/shellgamelaw9.DealFull", spec := "dealFull", unfollowed := true, recurses := true, apart := false }
def DealFullSaid : Prop := dealFullRow.holds Try.pinned (OpenSpec.ofChange dealFullSpec)

/-- ITS FALSE NEIGHBOUR: 'it returns false'. Refute it at one input. -/
def dealFullWrong : ChangeSpec := { name := "dealFull", fn := fun _ => fun
  | [d1, d2] => { results := [.lit (.bool false)], args := [d1, d2] }
  | _ => none }
def DealFullWrongFalsely : Prop := dealFullRow.holds Try.pinned (OpenSpec.ofChange dealFullWrong)

/- THE SECOND FORM. 'bulk': how many values and letters a reading holds, each counted each time it is reached (what is shared counts as often as it is met; a slice's spare places count too). A statement '..UptoSaid' is the law's where the arguments, and the package variables that the reading takes, are together of bulk at most 1048576: NARROWER than '..Said'. Prove '..Said' where nothing that the law and all that it calls make is longer than what came in: it says more and counts as full. Else prove '..UptoSaid'. A law counts once. -/
mutual
def uptoBulk {H : Type} : DataW H → Nat
  | .lit (.string bytes) => bytes.length + 1
  | .lit _ => 1
  | .nil => 1
  | .ptr d => uptoBulk d + 1
  | .slice elems spare => uptoBulkAll elems + uptoBulkAll spare + 1
  | .agg parts => uptoBulkAll parts + 1
  | .iface _ d => uptoBulk d + 1
  | .map entries => uptoBulkEntries entries + 1
  | .held _ => 1
def uptoBulkAll {H : Type} : List (DataW H) → Nat
  | [] => 0
  | d :: r => uptoBulk d + uptoBulkAll r
def uptoBulkEntries {H : Type} : List (Lit × DataW H) → Nat
  | [] => 0
  | x :: r => uptoBulkEntry x + uptoBulkEntries r
def uptoBulkEntry {H : Type} : Lit × DataW H → Nat
  | (.string bytes, d) => bytes.length + uptoBulk d + 1
  | (_, d) => uptoBulk d + 1
 end
def uptoSmall : (H : Type) → List (DataW H) → Bool := fun _ ds => decide (uptoBulkAll ds ≤ 1048576)
def OpenSpec.upto (s : _root_.Go.ChangeSpec) : _root_.Go.OpenSpec := { _root_.Go.OpenSpec.ofChange s with cond := some uptoSmall }

/-- 'shellgamelaw9.DealPlaces', WHERE WHAT IT READS IS OF BULK AT MOST 1048576: true; the input reads as it did. -/
def dealPlacesUptoRow : OpenClaim := { program := "ytmnnfhplgepiaab", sum := "7b0d3e0cec126d892615570b81388b1e4a07a4b065d81b4aa8623f63db99f78a", func := "shellgame/shellgamelaw9.DealPlaces", spec := "dealPlaces", unfollowed := true, recurses := true, apart := false, narrowed := true }
def DealPlacesUptoSaid : Prop := dealPlacesUptoRow.holds Try.pinned (OpenSpec.upto dealPlacesSpec)

/-- 'shellgamelaw9.DealOnce', WHERE WHAT IT READS IS OF BULK AT MOST 1048576: true; the input reads as it did. -/
def dealOnceUptoRow : OpenClaim := { program := "ytmnnfhplgepiaab", sum := "7b0d3e0cec126d892615570b81388b1e4a07a4b065d81b4aa8623f63db99f78a", func := "shellgame/shellgamelaw9.DealOnce", spec := "dealOnce", unfollowed := true, recurses := true, apart := false, narrowed := true }
def DealOnceUptoSaid : Prop := dealOnceUptoRow.holds Try.pinned (OpenSpec.upto dealOnceSpec)

/-- 'shellgamelaw9.DealFew', WHERE WHAT IT READS IS OF BULK AT MOST 1048576: true; the input reads as it did. -/
def dealFewUptoRow : OpenClaim := { program := "ytmnnfhplgepiaab", sum := "7b0d3e0cec126d892615570b81388b1e4a07a4b065d81b4aa8623f63db99f78a", func := "shellgame/shellgamelaw9.DealFew", spec := "dealFew", unfollowed := true, recurses := true, apart := false, narrowed := true }
def DealFewUptoSaid : Prop := dealFewUptoRow.holds Try.pinned (OpenSpec.upto dealFewSpec)

/-- 'shellgamelaw9.DealMoved', WHERE WHAT IT READS IS OF BULK AT MOST 1048576: true; the input reads as it did. -/
def dealMovedUptoRow : OpenClaim := { program := "ytmnnfhplgepiaab", sum := "7b0d3e0cec126d892615570b81388b1e4a07a4b065d81b4aa8623f63db99f78a", func := "shellgame/shellgamelaw9.DealMoved", spec := "dealMoved", unfollowed := true, recurses := true, apart := false, narrowed := true }
def DealMovedUptoSaid : Prop := dealMovedUptoRow.holds Try.pinned (OpenSpec.upto dealMovedSpec)

/-- 'shellgamelaw9.DealOrder', WHERE WHAT IT READS IS OF BULK AT MOST 1048576: true; the input reads as it did. -/
def dealOrderUptoRow : OpenClaim := { program := "ytmnnfhplgepiaab", sum := "7b0d3e0cec126d892615570b81388b1e4a07a4b065d81b4aa8623f63db99f78a", func := "shellgame/shellgamelaw9.DealOrder", spec := "dealOrder", unfollowed := true, recurses := true, apart := false, narrowed := true }
def DealOrderUptoSaid : Prop := dealOrderUptoRow.holds Try.pinned (OpenSpec.upto dealOrderSpec)

/-- 'shellgamelaw9.DealFull', WHERE WHAT IT READS IS OF BULK AT MOST 1048576: true; the input reads as it did. -/
def dealFullUptoRow : OpenClaim := { program := "ytmnnfhplgepiaab", sum := "7b0d3e0cec126d892615570b81388b1e4a07a4b065d81b4aa8623f63db99f78a", func := "shellgame/shellgamelaw9.DealFull", spec := "dealFull", unfollowed := true, recurses := true, apart := false, narrowed := true }
def DealFullUptoSaid : Prop := dealFullUptoRow.holds Try.pinned (OpenSpec.upto dealFullSpec)

end Rows
end Go.Proofs.Ytmnnfhplgepiaab
