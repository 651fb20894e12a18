/-
  No cell of these rows narrows 'for every input' (looked for: loops, veiled, ifaces, maps, wideKeys, modest, calm, conditions, laid).
  DERIVED. THE GIVEN ROWS OF THIS SEAT. 8 by the template 'for every input the law returns true; each argument reads behind the call as it read before'; 0 by the template 'total and deterministic' (their statements: YtjgbnokhelfnaaaTotals.lean).
  GIVEN WITH THE SEED: the statements are not yours to turn. If you find one false, say at which input.
  Laid BY PROGRAM, IN A SANDBOX (cutbox-rows.mjs): the forced cells as the released guide's own fill.sh prints them over the translation f39cbd1670b9ea79… (all of the seat's roots in one cut). By AI agents, Wed Nov 11 2026. No macro, syntax, notation, axiom, sorry.
-/
import Derived.Test.YtjgbnokhelfnaaaChecked
import GoSem.Claim
import GoSem.ClaimJoined
import GoSem.ClaimMapViews
import Derived.JoinedTies
import Derived.KernelRfl
namespace Go.Proofs.Ytjgbnokhelfnaaa
/- THE CELL 'sum', in the pinned program and in every row, IS THE sha256 OF THE DUMP (.gsa) THAT YtjgbnokhelfnaaaProg.lean LOADS. Nothing in Lean hashes anything: it is a label: what it is worth is what the hold of that sum in a sandbox is worth. -/
noncomputable def Try.pinned : Pinned := { name := "ytjgbnokhelfnaaa", sum := "f39cbd1670b9ea79e629fec3330ba64b60c59993291ff06814f3b808f0fb3aa0", checked := Try.checked }
namespace Rows
def none {H : Type} : Left H := { results := [], args := [] }

/-- 'shellgamelaw1.WordSizes': WHATEVER THE INPUT: true; the input reads as it did. -/
def wordSizesSpec : ChangeSpec := { name := "wordSizes", fn := fun _ => fun
  | [d1, d2] => { results := [.lit (.bool true)], args := [d1, d2] }
  | _ => none }
def wordSizesRow : OpenClaim := { program := "ytjgbnokhelfnaaa", sum := "f39cbd1670b9ea79e629fec3330ba64b60c59993291ff06814f3b808f0fb3aa0", func := "shellgame/shellgamelaw1.WordSizes", spec := "wordSizes", inPlace := ["math/bits.Sub64"], apart := false }
def WordSizesSaid : Prop := wordSizesRow.holds Try.pinned (OpenSpec.ofChange wordSizesSpec)

/-- ITS FALSE NEIGHBOUR: 'it returns false'. Refute it at one input. -/
def wordSizesWrong : ChangeSpec := { name := "wordSizes", fn := fun _ => fun
  | [d1, d2] => { results := [.lit (.bool false)], args := [d1, d2] }
  | _ => none }
def WordSizesWrongFalsely : Prop := wordSizesRow.holds Try.pinned (OpenSpec.ofChange wordSizesWrong)

/-- 'shellgamelaw1.WordRound': WHATEVER THE INPUT: true; the input reads as it did. -/
def wordRoundSpec : ChangeSpec := { name := "wordRound", fn := fun _ => fun
  | [d] => { results := [.lit (.bool true)], args := [d] }
  | _ => none }
def wordRoundRow : OpenClaim := { program := "ytjgbnokhelfnaaa", sum := "f39cbd1670b9ea79e629fec3330ba64b60c59993291ff06814f3b808f0fb3aa0", func := "shellgame/shellgamelaw1.WordRound", spec := "wordRound", inPlace := ["math/bits.Sub64"], apart := false }
def WordRoundSaid : Prop := wordRoundRow.holds Try.pinned (OpenSpec.ofChange wordRoundSpec)

/-- ITS FALSE NEIGHBOUR: 'it returns false'. Refute it at one input. -/
def wordRoundWrong : ChangeSpec := { name := "wordRound", fn := fun _ => fun
  | [d] => { results := [.lit (.bool false)], args := [d] }
  | _ => none }
def WordRoundWrongFalsely : Prop := wordRoundRow.holds Try.pinned (OpenSpec.ofChange wordRoundWrong)

/-- 'shellgamelaw1.WordHalves': WHATEVER THE INPUT: true; the input reads as it did. -/
def wordHalvesSpec : ChangeSpec := { name := "wordHalves", fn := fun _ => fun
  | [d1, d2] => { results := [.lit (.bool true)], args := [d1, d2] }
  | _ => none }
def wordHalvesRow : OpenClaim := { program := "ytjgbnokhelfnaaa", sum := "f39cbd1670b9ea79e629fec3330ba64b60c59993291ff06814f3b808f0fb3aa0", func := "shellgame/shellgamelaw1.WordHalves", spec := "wordHalves", inPlace := ["math/bits.Sub64"], apart := false }
def WordHalvesSaid : Prop := wordHalvesRow.holds Try.pinned (OpenSpec.ofChange wordHalvesSpec)

/-- ITS FALSE NEIGHBOUR: 'it returns false'. Refute it at one input. -/
def wordHalvesWrong : ChangeSpec := { name := "wordHalves", fn := fun _ => fun
  | [d1, d2] => { results := [.lit (.bool false)], args := [d1, d2] }
  | _ => none }
def WordHalvesWrongFalsely : Prop := wordHalvesRow.holds Try.pinned (OpenSpec.ofChange wordHalvesWrong)

/-- 'shellgamelaw1.WordMasks': WHATEVER THE INPUT: true; the input reads as it did. -/
def wordMasksSpec : ChangeSpec := { name := "wordMasks", fn := fun _ => fun
  | [d1, d2] => { results := [.lit (.bool true)], args := [d1, d2] }
  | _ => none }
def wordMasksRow : OpenClaim := { program := "ytjgbnokhelfnaaa", sum := "f39cbd1670b9ea79e629fec3330ba64b60c59993291ff06814f3b808f0fb3aa0", func := "shellgame/shellgamelaw1.WordMasks", spec := "wordMasks", inPlace := ["math/bits.Sub64"], apart := false }
def WordMasksSaid : Prop := wordMasksRow.holds Try.pinned (OpenSpec.ofChange wordMasksSpec)

/-- ITS FALSE NEIGHBOUR: 'it returns false'. Refute it at one input. -/
def wordMasksWrong : ChangeSpec := { name := "wordMasks", fn := fun _ => fun
  | [d1, d2] => { results := [.lit (.bool false)], args := [d1, d2] }
  | _ => none }
def WordMasksWrongFalsely : Prop := wordMasksRow.holds Try.pinned (OpenSpec.ofChange wordMasksWrong)

/-- 'shellgamelaw1.WordLeast': WHATEVER THE INPUT: true; the input reads as it did. -/
def wordLeastSpec : ChangeSpec := { name := "wordLeast", fn := fun _ => fun
  | [d] => { results := [.lit (.bool true)], args := [d] }
  | _ => none }
def wordLeastRow : OpenClaim := { program := "ytjgbnokhelfnaaa", sum := "f39cbd1670b9ea79e629fec3330ba64b60c59993291ff06814f3b808f0fb3aa0", func := "shellgame/shellgamelaw1.WordLeast", spec := "wordLeast", inPlace := ["math/bits.Sub64"], apart := false }
def WordLeastSaid : Prop := wordLeastRow.holds Try.pinned (OpenSpec.ofChange wordLeastSpec)

/-- ITS FALSE NEIGHBOUR: 'it returns false'. Refute it at one input. -/
def wordLeastWrong : ChangeSpec := { name := "wordLeast", fn := fun _ => fun
  | [d] => { results := [.lit (.bool false)], args := [d] }
  | _ => none }
def WordLeastWrongFalsely : Prop := wordLeastRow.holds Try.pinned (OpenSpec.ofChange wordLeastWrong)

/-- 'shellgamelaw1.WordOrder': WHATEVER THE INPUT: true; the input reads as it did. -/
def wordOrderSpec : ChangeSpec := { name := "wordOrder", fn := fun _ => fun
  | [d1, d2, d3] => { results := [.lit (.bool true)], args := [d1, d2, d3] }
  | _ => none }
def wordOrderRow : OpenClaim := { program := "ytjgbnokhelfnaaa", sum := "f39cbd1670b9ea79e629fec3330ba64b60c59993291ff06814f3b808f0fb3aa0", func := "shellgame/shellgamelaw1.WordOrder", spec := "wordOrder", inPlace := ["math/bits.Sub64"], apart := false }
def WordOrderSaid : Prop := wordOrderRow.holds Try.pinned (OpenSpec.ofChange wordOrderSpec)

/-- ITS FALSE NEIGHBOUR: 'it returns false'. Refute it at one input. -/
def wordOrderWrong : ChangeSpec := { name := "wordOrder", fn := fun _ => fun
  | [d1, d2, d3] => { results := [.lit (.bool false)], args := [d1, d2, d3] }
  | _ => none }
def WordOrderWrongFalsely : Prop := wordOrderRow.holds Try.pinned (OpenSpec.ofChange wordOrderWrong)

/-- 'shellgamelaw1.WordPicks': WHATEVER THE INPUT: true; the input reads as it did. -/
def wordPicksSpec : ChangeSpec := { name := "wordPicks", fn := fun _ => fun
  | [d1, d2, d3] => { results := [.lit (.bool true)], args := [d1, d2, d3] }
  | _ => none }
def wordPicksRow : OpenClaim := { program := "ytjgbnokhelfnaaa", sum := "f39cbd1670b9ea79e629fec3330ba64b60c59993291ff06814f3b808f0fb3aa0", func := "shellgame/shellgamelaw1.WordPicks", spec := "wordPicks", inPlace := ["math/bits.Sub64"], apart := false }
def WordPicksSaid : Prop := wordPicksRow.holds Try.pinned (OpenSpec.ofChange wordPicksSpec)

/-- ITS FALSE NEIGHBOUR: 'it returns false'. Refute it at one input. -/
def wordPicksWrong : ChangeSpec := { name := "wordPicks", fn := fun _ => fun
  | [d1, d2, d3] => { results := [.lit (.bool false)], args := [d1, d2, d3] }
  | _ => none }
def WordPicksWrongFalsely : Prop := wordPicksRow.holds Try.pinned (OpenSpec.ofChange wordPicksWrong)

/-- 'shellgamelaw1.WordCells': WHATEVER THE INPUT: true; the input reads as it did. -/
def wordCellsSpec : ChangeSpec := { name := "wordCells", fn := fun _ => fun
  | [d1, d2, d3] => { results := [.lit (.bool true)], args := [d1, d2, d3] }
  | _ => none }
def wordCellsRow : OpenClaim := { program := "ytjgbnokhelfnaaa", sum := "f39cbd1670b9ea79e629fec3330ba64b60c59993291ff06814f3b808f0fb3aa0", func := "shellgame/shellgamelaw1.WordCells", spec := "wordCells", inPlace := ["math/bits.Sub64"], apart := false }
def WordCellsSaid : Prop := wordCellsRow.holds Try.pinned (OpenSpec.ofChange wordCellsSpec)

/-- ITS FALSE NEIGHBOUR: 'it returns false'. Refute it at one input. -/
def wordCellsWrong : ChangeSpec := { name := "wordCells", fn := fun _ => fun
  | [d1, d2, d3] => { results := [.lit (.bool false)], args := [d1, d2, d3] }
  | _ => none }
def WordCellsWrongFalsely : Prop := wordCellsRow.holds Try.pinned (OpenSpec.ofChange wordCellsWrong)

/- THE SECOND FORM. 'bulk': how many values and letters a reading holds, each counted each time it is reached (what is shared counts as often as it is met; a slice's spare places count too). A statement '..UptoSaid' is the law's where the arguments, and the package variables that the reading takes, are together of bulk at most 1048576: NARROWER than '..Said'. Prove '..Said' where nothing that the law and all that it calls make is longer than what came in: it says more and counts as full. Else prove '..UptoSaid'. A law counts once. -/
mutual
def uptoBulk {H : Type} : DataW H → Nat
  | .lit (.string bytes) => bytes.length + 1
  | .lit _ => 1
  | .nil => 1
  | .ptr d => uptoBulk d + 1
  | .slice elems spare => uptoBulkAll elems + uptoBulkAll spare + 1
  | .agg parts => uptoBulkAll parts + 1
  | .iface _ d => uptoBulk d + 1
  | .map entries => uptoBulkEntries entries + 1
  | .held _ => 1
def uptoBulkAll {H : Type} : List (DataW H) → Nat
  | [] => 0
  | d :: r => uptoBulk d + uptoBulkAll r
def uptoBulkEntries {H : Type} : List (Lit × DataW H) → Nat
  | [] => 0
  | x :: r => uptoBulkEntry x + uptoBulkEntries r
def uptoBulkEntry {H : Type} : Lit × DataW H → Nat
  | (.string bytes, d) => bytes.length + uptoBulk d + 1
  | (_, d) => uptoBulk d + 1
 end
def uptoSmall : (H : Type) → List (DataW H) → Bool := fun _ ds => decide (uptoBulkAll ds ≤ 1048576)
def OpenSpec.upto (s : _root_.Go.ChangeSpec) : _root_.Go.OpenSpec := { _root_.Go.OpenSpec.ofChange s with cond := some uptoSmall }

/-- 'shellgamelaw1.WordSizes', WHERE WHAT IT READS IS OF BULK AT MOST 1048576: true; the input reads as it did. -/
def wordSizesUptoRow : OpenClaim := { program := "ytjgbnokhelfnaaa", sum := "f39cbd1670b9ea79e629fec3330ba64b60c59993291ff06814f3b808f0fb3aa0", func := "shellgame/shellgamelaw1.WordSizes", spec := "wordSizes", inPlace := ["math/bits.Sub64"], apart := false, narrowed := true }
def WordSizesUptoSaid : Prop := wordSizesUptoRow.holds Try.pinned (OpenSpec.upto wordSizesSpec)

/-- 'shellgamelaw1.WordRound', WHERE WHAT IT READS IS OF BULK AT MOST 1048576: true; the input reads as it did. -/
def wordRoundUptoRow : OpenClaim := { program := "ytjgbnokhelfnaaa", sum := "f39cbd1670b9ea79e629fec3330ba64b60c59993291ff06814f3b808f0fb3aa0", func := "shellgame/shellgamelaw1.WordRound", spec := "wordRound", inPlace := ["math/bits.Sub64"], apart := false, narrowed := true }
def WordRoundUptoSaid : Prop := wordRoundUptoRow.holds Try.pinned (OpenSpec.upto wordRoundSpec)

/-- 'shellgamelaw1.WordHalves', WHERE WHAT IT READS IS OF BULK AT MOST 1048576: true; the input reads as it did. -/
def wordHalvesUptoRow : OpenClaim := { program := "ytjgbnokhelfnaaa", sum := "f39cbd1670b9ea79e629fec3330ba64b60c59993291ff06814f3b808f0fb3aa0", func := "shellgame/shellgamelaw1.WordHalves", spec := "wordHalves", inPlace := ["math/bits.Sub64"], apart := false, narrowed := true }
def WordHalvesUptoSaid : Prop := wordHalvesUptoRow.holds Try.pinned (OpenSpec.upto wordHalvesSpec)

/-- 'shellgamelaw1.WordMasks', WHERE WHAT IT READS IS OF BULK AT MOST 1048576: true; the input reads as it did. -/
def wordMasksUptoRow : OpenClaim := { program := "ytjgbnokhelfnaaa", sum := "f39cbd1670b9ea79e629fec3330ba64b60c59993291ff06814f3b808f0fb3aa0", func := "shellgame/shellgamelaw1.WordMasks", spec := "wordMasks", inPlace := ["math/bits.Sub64"], apart := false, narrowed := true }
def WordMasksUptoSaid : Prop := wordMasksUptoRow.holds Try.pinned (OpenSpec.upto wordMasksSpec)

/-- 'shellgamelaw1.WordLeast', WHERE WHAT IT READS IS OF BULK AT MOST 1048576: true; the input reads as it did. -/
def wordLeastUptoRow : OpenClaim := { program := "ytjgbnokhelfnaaa", sum := "f39cbd1670b9ea79e629fec3330ba64b60c59993291ff06814f3b808f0fb3aa0", func := "shellgame/shellgamelaw1.WordLeast", spec := "wordLeast", inPlace := ["math/bits.Sub64"], apart := false, narrowed := true }
def WordLeastUptoSaid : Prop := wordLeastUptoRow.holds Try.pinned (OpenSpec.upto wordLeastSpec)

/-- 'shellgamelaw1.WordOrder', WHERE WHAT IT READS IS OF BULK AT MOST 1048576: true; the input reads as it did. -/
def wordOrderUptoRow : OpenClaim := { program := "ytjgbnokhelfnaaa", sum := "f39cbd1670b9ea79e629fec3330ba64b60c59993291ff06814f3b808f0fb3aa0", func := "shellgame/shellgamelaw1.WordOrder", spec := "wordOrder", inPlace := ["math/bits.Sub64"], apart := false, narrowed := true }
def WordOrderUptoSaid : Prop := wordOrderUptoRow.holds Try.pinned (OpenSpec.upto wordOrderSpec)

/-- 'shellgamelaw1.WordPicks', WHERE WHAT IT READS IS OF BULK AT MOST 1048576: true; the input reads as it did. -/
def wordPicksUptoRow : OpenClaim := { program := "ytjgbnokhelfnaaa", sum := "f39cbd1670b9ea79e629fec3330ba64b60c59993291ff06814f3b808f0fb3aa0", func := "shellgame/shellgamelaw1.WordPicks", spec := "wordPicks", inPlace := ["math/bits.Sub64"], apart := false, narrowed := true }
def WordPicksUptoSaid : Prop := wordPicksUptoRow.holds Try.pinned (OpenSpec.upto wordPicksSpec)

/-- 'shellgamelaw1.WordCells', WHERE WHAT IT READS IS OF BULK AT MOST 1048576: true; the input reads as it did. -/
def wordCellsUptoRow : OpenClaim := { program := "ytjgbnokhelfnaaa", sum := "f39cbd1670b9ea79e629fec3330ba64b60c59993291ff06814f3b808f0fb3aa0", func := "shellgame/shellgamelaw1.WordCells", spec := "wordCells", inPlace := ["math/bits.Sub64"], apart := false, narrowed := true }
def WordCellsUptoSaid : Prop := wordCellsUptoRow.holds Try.pinned (OpenSpec.upto wordCellsSpec)

end Rows
end Go.Proofs.Ytjgbnokhelfnaaa
