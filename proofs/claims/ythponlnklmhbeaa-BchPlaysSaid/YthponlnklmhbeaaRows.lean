/-
  No cell of these rows narrows 'for every input' (looked for: loops, veiled, ifaces, maps, wideKeys, modest, calm, conditions, laid).
  DERIVED. THE GIVEN ROWS OF THIS SEAT. 12 by the template 'for every input the law returns true; each argument reads behind the call as it read before'; 0 by the template 'total and deterministic' (their statements: YthponlnklmhbeaaTotals.lean).
  GIVEN WITH THE SEED: the statements are not yours to turn. If you find one false, say at which input.
  Laid BY PROGRAM, IN A SANDBOX (cutbox-rows.mjs): the forced cells as the released guide's own fill.sh prints them over the translation 2292b6763b90b7a9… (all of the seat's roots in one cut). By AI agents, Wed Nov 11 2026. No macro, syntax, notation, axiom, sorry.
-/
import Derived.Test.YthponlnklmhbeaaChecked
import GoSem.Claim
import GoSem.ClaimJoined
import GoSem.ClaimMapViews
import Derived.JoinedTies
import Derived.KernelRfl
namespace Go.Proofs.Ythponlnklmhbeaa
/- THE CELL 'sum', in the pinned program and in every row, IS THE sha256 OF THE DUMP (.gsa) THAT YthponlnklmhbeaaProg.lean LOADS. Nothing in Lean hashes anything: it is a label: what it is worth is what the hold of that sum in a sandbox is worth. -/
noncomputable def Try.pinned : Pinned := { name := "ythponlnklmhbeaa", sum := "2292b6763b90b7a99e758832f86bd1a2950e8e2d4d3119c5e3dbfda8134779ca", checked := Try.checked }
namespace Rows
def none {H : Type} : Left H := { results := [], args := [] }

/-- 'belfrylaw04.FieldLaws': WHATEVER THE INPUT: true; the input reads as it did. -/
def fieldLawsSpec : ChangeSpec := { name := "fieldLaws", fn := fun _ => fun
  | [d1, d2, d3] => { results := [.lit (.bool true)], args := [d1, d2, d3] }
  | _ => none }
def fieldLawsRow : OpenClaim := { program := "ythponlnklmhbeaa", sum := "2292b6763b90b7a99e758832f86bd1a2950e8e2d4d3119c5e3dbfda8134779ca", func := "belfry/belfrylaw04.FieldLaws", spec := "fieldLaws", apart := false }
def FieldLawsSaid : Prop := fieldLawsRow.holds Try.pinned (OpenSpec.ofChange fieldLawsSpec)

/-- ITS FALSE NEIGHBOUR: 'it returns false'. Refute it at one input. -/
def fieldLawsWrong : ChangeSpec := { name := "fieldLaws", fn := fun _ => fun
  | [d1, d2, d3] => { results := [.lit (.bool false)], args := [d1, d2, d3] }
  | _ => none }
def FieldLawsWrongFalsely : Prop := fieldLawsRow.holds Try.pinned (OpenSpec.ofChange fieldLawsWrong)

/-- 'belfrylaw04.FieldRoots': WHATEVER THE INPUT: true; the input reads as it did. -/
def fieldRootsSpec : ChangeSpec := { name := "fieldRoots", fn := fun _ => fun
  | [d] => { results := [.lit (.bool true)], args := [d] }
  | _ => none }
def fieldRootsRow : OpenClaim := { program := "ythponlnklmhbeaa", sum := "2292b6763b90b7a99e758832f86bd1a2950e8e2d4d3119c5e3dbfda8134779ca", func := "belfry/belfrylaw04.FieldRoots", spec := "fieldRoots", apart := false }
def FieldRootsSaid : Prop := fieldRootsRow.holds Try.pinned (OpenSpec.ofChange fieldRootsSpec)

/-- ITS FALSE NEIGHBOUR: 'it returns false'. Refute it at one input. -/
def fieldRootsWrong : ChangeSpec := { name := "fieldRoots", fn := fun _ => fun
  | [d] => { results := [.lit (.bool false)], args := [d] }
  | _ => none }
def FieldRootsWrongFalsely : Prop := fieldRootsRow.holds Try.pinned (OpenSpec.ofChange fieldRootsWrong)

/-- 'belfrylaw04.FieldPowers': WHATEVER THE INPUT: true; the input reads as it did. -/
def fieldPowersSpec : ChangeSpec := { name := "fieldPowers", fn := fun _ => fun
  | [d1, d2, d3] => { results := [.lit (.bool true)], args := [d1, d2, d3] }
  | _ => none }
def fieldPowersRow : OpenClaim := { program := "ythponlnklmhbeaa", sum := "2292b6763b90b7a99e758832f86bd1a2950e8e2d4d3119c5e3dbfda8134779ca", func := "belfry/belfrylaw04.FieldPowers", spec := "fieldPowers", apart := false }
def FieldPowersSaid : Prop := fieldPowersRow.holds Try.pinned (OpenSpec.ofChange fieldPowersSpec)

/-- ITS FALSE NEIGHBOUR: 'it returns false'. Refute it at one input. -/
def fieldPowersWrong : ChangeSpec := { name := "fieldPowers", fn := fun _ => fun
  | [d1, d2, d3] => { results := [.lit (.bool false)], args := [d1, d2, d3] }
  | _ => none }
def FieldPowersWrongFalsely : Prop := fieldPowersRow.holds Try.pinned (OpenSpec.ofChange fieldPowersWrong)

/-- 'belfrylaw04.FieldSquares': WHATEVER THE INPUT: true; the input reads as it did. -/
def fieldSquaresSpec : ChangeSpec := { name := "fieldSquares", fn := fun _ => fun
  | [d1, d2] => { results := [.lit (.bool true)], args := [d1, d2] }
  | _ => none }
def fieldSquaresRow : OpenClaim := { program := "ythponlnklmhbeaa", sum := "2292b6763b90b7a99e758832f86bd1a2950e8e2d4d3119c5e3dbfda8134779ca", func := "belfry/belfrylaw04.FieldSquares", spec := "fieldSquares", apart := false }
def FieldSquaresSaid : Prop := fieldSquaresRow.holds Try.pinned (OpenSpec.ofChange fieldSquaresSpec)

/-- ITS FALSE NEIGHBOUR: 'it returns false'. Refute it at one input. -/
def fieldSquaresWrong : ChangeSpec := { name := "fieldSquares", fn := fun _ => fun
  | [d1, d2] => { results := [.lit (.bool false)], args := [d1, d2] }
  | _ => none }
def FieldSquaresWrongFalsely : Prop := fieldSquaresRow.holds Try.pinned (OpenSpec.ofChange fieldSquaresWrong)

/-- 'belfrylaw04.FieldPlays': WHATEVER THE INPUT: true; the input reads as it did. -/
def fieldPlaysSpec : ChangeSpec := { name := "fieldPlays", fn := fun _ => fun
  | [d1, d2, d3] => { results := [.lit (.bool true)], args := [d1, d2, d3] }
  | _ => none }
def fieldPlaysRow : OpenClaim := { program := "ythponlnklmhbeaa", sum := "2292b6763b90b7a99e758832f86bd1a2950e8e2d4d3119c5e3dbfda8134779ca", func := "belfry/belfrylaw04.FieldPlays", spec := "fieldPlays", apart := false }
def FieldPlaysSaid : Prop := fieldPlaysRow.holds Try.pinned (OpenSpec.ofChange fieldPlaysSpec)

/-- ITS FALSE NEIGHBOUR: 'it returns false'. Refute it at one input. -/
def fieldPlaysWrong : ChangeSpec := { name := "fieldPlays", fn := fun _ => fun
  | [d1, d2, d3] => { results := [.lit (.bool false)], args := [d1, d2, d3] }
  | _ => none }
def FieldPlaysWrongFalsely : Prop := fieldPlaysRow.holds Try.pinned (OpenSpec.ofChange fieldPlaysWrong)

/-- 'belfrylaw04.FieldEval': WHATEVER THE INPUT: true; the input reads as it did. -/
def fieldEvalSpec : ChangeSpec := { name := "fieldEval", fn := fun _ => fun
  | [d1, d2] => { results := [.lit (.bool true)], args := [d1, d2] }
  | _ => none }
def fieldEvalRow : OpenClaim := { program := "ythponlnklmhbeaa", sum := "2292b6763b90b7a99e758832f86bd1a2950e8e2d4d3119c5e3dbfda8134779ca", func := "belfry/belfrylaw04.FieldEval", spec := "fieldEval", apart := false }
def FieldEvalSaid : Prop := fieldEvalRow.holds Try.pinned (OpenSpec.ofChange fieldEvalSpec)

/-- ITS FALSE NEIGHBOUR: 'it returns false'. Refute it at one input. -/
def fieldEvalWrong : ChangeSpec := { name := "fieldEval", fn := fun _ => fun
  | [d1, d2] => { results := [.lit (.bool false)], args := [d1, d2] }
  | _ => none }
def FieldEvalWrongFalsely : Prop := fieldEvalRow.holds Try.pinned (OpenSpec.ofChange fieldEvalWrong)

/-- 'belfrylaw05.BchPlays': WHATEVER THE INPUT: true; the input reads as it did. -/
def bchPlaysSpec : ChangeSpec := { name := "bchPlays", fn := fun _ => fun
  | [d] => { results := [.lit (.bool true)], args := [d] }
  | _ => none }
def bchPlaysRow : OpenClaim := { program := "ythponlnklmhbeaa", sum := "2292b6763b90b7a99e758832f86bd1a2950e8e2d4d3119c5e3dbfda8134779ca", func := "belfry/belfrylaw05.BchPlays", spec := "bchPlays", unfollowed := true, recurses := true, apart := false }
def BchPlaysSaid : Prop := bchPlaysRow.holds Try.pinned (OpenSpec.ofChange bchPlaysSpec)

/-- ITS FALSE NEIGHBOUR: 'it returns false'. Refute it at one input. -/
def bchPlaysWrong : ChangeSpec := { name := "bchPlays", fn := fun _ => fun
  | [d] => { results := [.lit (.bool false)], args := [d] }
  | _ => none }
def BchPlaysWrongFalsely : Prop := bchPlaysRow.holds Try.pinned (OpenSpec.ofChange bchPlaysWrong)

/-- 'belfrylaw05.BchFar': WHATEVER THE INPUT: true; the input reads as it did. -/
def bchFarSpec : ChangeSpec := { name := "bchFar", fn := fun _ => fun
  | [d1, d2] => { results := [.lit (.bool true)], args := [d1, d2] }
  | _ => none }
def bchFarRow : OpenClaim := { program := "ythponlnklmhbeaa", sum := "2292b6763b90b7a99e758832f86bd1a2950e8e2d4d3119c5e3dbfda8134779ca", func := "belfry/belfrylaw05.BchFar", spec := "bchFar", unfollowed := true, recurses := true, apart := false }
def BchFarSaid : Prop := bchFarRow.holds Try.pinned (OpenSpec.ofChange bchFarSpec)

/-- ITS FALSE NEIGHBOUR: 'it returns false'. Refute it at one input. -/
def bchFarWrong : ChangeSpec := { name := "bchFar", fn := fun _ => fun
  | [d1, d2] => { results := [.lit (.bool false)], args := [d1, d2] }
  | _ => none }
def BchFarWrongFalsely : Prop := bchFarRow.holds Try.pinned (OpenSpec.ofChange bchFarWrong)

/-- 'belfrylaw05.BchIs': WHATEVER THE INPUT: true; the input reads as it did. -/
def bchIsSpec : ChangeSpec := { name := "bchIs", fn := fun _ => fun
  | [d1, d2] => { results := [.lit (.bool true)], args := [d1, d2] }
  | _ => none }
def bchIsRow : OpenClaim := { program := "ythponlnklmhbeaa", sum := "2292b6763b90b7a99e758832f86bd1a2950e8e2d4d3119c5e3dbfda8134779ca", func := "belfry/belfrylaw05.BchIs", spec := "bchIs", unfollowed := true, recurses := true, apart := false }
def BchIsSaid : Prop := bchIsRow.holds Try.pinned (OpenSpec.ofChange bchIsSpec)

/-- ITS FALSE NEIGHBOUR: 'it returns false'. Refute it at one input. -/
def bchIsWrong : ChangeSpec := { name := "bchIs", fn := fun _ => fun
  | [d1, d2] => { results := [.lit (.bool false)], args := [d1, d2] }
  | _ => none }
def BchIsWrongFalsely : Prop := bchIsRow.holds Try.pinned (OpenSpec.ofChange bchIsWrong)

/-- 'belfrylaw05.BchTold': WHATEVER THE INPUT: true; the input reads as it did. -/
def bchToldSpec : ChangeSpec := { name := "bchTold", fn := fun _ => fun
  | [d1, d2] => { results := [.lit (.bool true)], args := [d1, d2] }
  | _ => none }
def bchToldRow : OpenClaim := { program := "ythponlnklmhbeaa", sum := "2292b6763b90b7a99e758832f86bd1a2950e8e2d4d3119c5e3dbfda8134779ca", func := "belfry/belfrylaw05.BchTold", spec := "bchTold", unfollowed := true, recurses := true, apart := false }
def BchToldSaid : Prop := bchToldRow.holds Try.pinned (OpenSpec.ofChange bchToldSpec)

/-- ITS FALSE NEIGHBOUR: 'it returns false'. Refute it at one input. -/
def bchToldWrong : ChangeSpec := { name := "bchTold", fn := fun _ => fun
  | [d1, d2] => { results := [.lit (.bool false)], args := [d1, d2] }
  | _ => none }
def BchToldWrongFalsely : Prop := bchToldRow.holds Try.pinned (OpenSpec.ofChange bchToldWrong)

/-- 'belfrylaw05.BchSyndromes': WHATEVER THE INPUT: true; the input reads as it did. -/
def bchSyndromesSpec : ChangeSpec := { name := "bchSyndromes", fn := fun _ => fun
  | [d] => { results := [.lit (.bool true)], args := [d] }
  | _ => none }
def bchSyndromesRow : OpenClaim := { program := "ythponlnklmhbeaa", sum := "2292b6763b90b7a99e758832f86bd1a2950e8e2d4d3119c5e3dbfda8134779ca", func := "belfry/belfrylaw05.BchSyndromes", spec := "bchSyndromes", unfollowed := true, recurses := true, apart := false }
def BchSyndromesSaid : Prop := bchSyndromesRow.holds Try.pinned (OpenSpec.ofChange bchSyndromesSpec)

/-- ITS FALSE NEIGHBOUR: 'it returns false'. Refute it at one input. -/
def bchSyndromesWrong : ChangeSpec := { name := "bchSyndromes", fn := fun _ => fun
  | [d] => { results := [.lit (.bool false)], args := [d] }
  | _ => none }
def BchSyndromesWrongFalsely : Prop := bchSyndromesRow.holds Try.pinned (OpenSpec.ofChange bchSyndromesWrong)

/-- 'belfrylaw05.BchTurns': WHATEVER THE INPUT: true; the input reads as it did. -/
def bchTurnsSpec : ChangeSpec := { name := "bchTurns", fn := fun _ => fun
  | [d1, d2] => { results := [.lit (.bool true)], args := [d1, d2] }
  | _ => none }
def bchTurnsRow : OpenClaim := { program := "ythponlnklmhbeaa", sum := "2292b6763b90b7a99e758832f86bd1a2950e8e2d4d3119c5e3dbfda8134779ca", func := "belfry/belfrylaw05.BchTurns", spec := "bchTurns", unfollowed := true, recurses := true, apart := false }
def BchTurnsSaid : Prop := bchTurnsRow.holds Try.pinned (OpenSpec.ofChange bchTurnsSpec)

/-- ITS FALSE NEIGHBOUR: 'it returns false'. Refute it at one input. -/
def bchTurnsWrong : ChangeSpec := { name := "bchTurns", fn := fun _ => fun
  | [d1, d2] => { results := [.lit (.bool false)], args := [d1, d2] }
  | _ => none }
def BchTurnsWrongFalsely : Prop := bchTurnsRow.holds Try.pinned (OpenSpec.ofChange bchTurnsWrong)

/- THE SECOND FORM. 'bulk': how many values and letters a reading holds, each counted each time it is reached (what is shared counts as often as it is met; a slice's spare places count too). A statement '..UptoSaid' is the law's where the arguments, and the package variables that the reading takes, are together of bulk at most 1048576: NARROWER than '..Said'. Prove '..Said' where nothing that the law and all that it calls make is longer than what came in: it says more and counts as full. Else prove '..UptoSaid'. A law counts once. -/
mutual
def uptoBulk {H : Type} : DataW H → Nat
  | .lit (.string bytes) => bytes.length + 1
  | .lit _ => 1
  | .nil => 1
  | .ptr d => uptoBulk d + 1
  | .slice elems spare => uptoBulkAll elems + uptoBulkAll spare + 1
  | .agg parts => uptoBulkAll parts + 1
  | .iface _ d => uptoBulk d + 1
  | .map entries => uptoBulkEntries entries + 1
  | .held _ => 1
def uptoBulkAll {H : Type} : List (DataW H) → Nat
  | [] => 0
  | d :: r => uptoBulk d + uptoBulkAll r
def uptoBulkEntries {H : Type} : List (Lit × DataW H) → Nat
  | [] => 0
  | x :: r => uptoBulkEntry x + uptoBulkEntries r
def uptoBulkEntry {H : Type} : Lit × DataW H → Nat
  | (.string bytes, d) => bytes.length + uptoBulk d + 1
  | (_, d) => uptoBulk d + 1
 end
def uptoSmall : (H : Type) → List (DataW H) → Bool := fun _ ds => decide (uptoBulkAll ds ≤ 1048576)
def OpenSpec.upto (s : _root_.Go.ChangeSpec) : _root_.Go.OpenSpec := { _root_.Go.OpenSpec.ofChange s with cond := some uptoSmall }

/-- 'belfrylaw04.FieldLaws', WHERE WHAT IT READS IS OF BULK AT MOST 1048576: true; the input reads as it did. -/
def fieldLawsUptoRow : OpenClaim := { program := "ythponlnklmhbeaa", sum := "2292b6763b90b7a99e758832f86bd1a2950e8e2d4d3119c5e3dbfda8134779ca", func := "belfry/belfrylaw04.FieldLaws", spec := "fieldLaws", apart := false, narrowed := true }
def FieldLawsUptoSaid : Prop := fieldLawsUptoRow.holds Try.pinned (OpenSpec.upto fieldLawsSpec)

/-- 'belfrylaw04.FieldRoots', WHERE WHAT IT READS IS OF BULK AT MOST 1048576: true; the input reads as it did. -/
def fieldRootsUptoRow : OpenClaim := { program := "ythponlnklmhbeaa", sum := "2292b6763b90b7a99e758832f86bd1a2950e8e2d4d3119c5e3dbfda8134779ca", func := "belfry/belfrylaw04.FieldRoots", spec := "fieldRoots", apart := false, narrowed := true }
def FieldRootsUptoSaid : Prop := fieldRootsUptoRow.holds Try.pinned (OpenSpec.upto fieldRootsSpec)

/-- 'belfrylaw04.FieldPowers', WHERE WHAT IT READS IS OF BULK AT MOST 1048576: true; the input reads as it did. -/
def fieldPowersUptoRow : OpenClaim := { program := "ythponlnklmhbeaa", sum := "2292b6763b90b7a99e758832f86bd1a2950e8e2d4d3119c5e3dbfda8134779ca", func := "belfry/belfrylaw04.FieldPowers", spec := "fieldPowers", apart := false, narrowed := true }
def FieldPowersUptoSaid : Prop := fieldPowersUptoRow.holds Try.pinned (OpenSpec.upto fieldPowersSpec)

/-- 'belfrylaw04.FieldSquares', WHERE WHAT IT READS IS OF BULK AT MOST 1048576: true; the input reads as it did. -/
def fieldSquaresUptoRow : OpenClaim := { program := "ythponlnklmhbeaa", sum := "2292b6763b90b7a99e758832f86bd1a2950e8e2d4d3119c5e3dbfda8134779ca", func := "belfry/belfrylaw04.FieldSquares", spec := "fieldSquares", apart := false, narrowed := true }
def FieldSquaresUptoSaid : Prop := fieldSquaresUptoRow.holds Try.pinned (OpenSpec.upto fieldSquaresSpec)

/-- 'belfrylaw04.FieldPlays', WHERE WHAT IT READS IS OF BULK AT MOST 1048576: true; the input reads as it did. -/
def fieldPlaysUptoRow : OpenClaim := { program := "ythponlnklmhbeaa", sum := "2292b6763b90b7a99e758832f86bd1a2950e8e2d4d3119c5e3dbfda8134779ca", func := "belfry/belfrylaw04.FieldPlays", spec := "fieldPlays", apart := false, narrowed := true }
def FieldPlaysUptoSaid : Prop := fieldPlaysUptoRow.holds Try.pinned (OpenSpec.upto fieldPlaysSpec)

/-- 'belfrylaw04.FieldEval', WHERE WHAT IT READS IS OF BULK AT MOST 1048576: true; the input reads as it did. -/
def fieldEvalUptoRow : OpenClaim := { program := "ythponlnklmhbeaa", sum := "2292b6763b90b7a99e758832f86bd1a2950e8e2d4d3119c5e3dbfda8134779ca", func := "belfry/belfrylaw04.FieldEval", spec := "fieldEval", apart := false, narrowed := true }
def FieldEvalUptoSaid : Prop := fieldEvalUptoRow.holds Try.pinned (OpenSpec.upto fieldEvalSpec)

/-- 'belfrylaw05.BchPlays', WHERE WHAT IT READS IS OF BULK AT MOST 1048576: true; the input reads as it did. -/
def bchPlaysUptoRow : OpenClaim := { program := "ythponlnklmhbeaa", sum := "2292b6763b90b7a99e758832f86bd1a2950e8e2d4d3119c5e3dbfda8134779ca", func := "belfry/belfrylaw05.BchPlays", spec := "bchPlays", unfollowed := true, recurses := true, apart := false, narrowed := true }
def BchPlaysUptoSaid : Prop := bchPlaysUptoRow.holds Try.pinned (OpenSpec.upto bchPlaysSpec)

/-- 'belfrylaw05.BchFar', WHERE WHAT IT READS IS OF BULK AT MOST 1048576: true; the input reads as it did. -/
def bchFarUptoRow : OpenClaim := { program := "ythponlnklmhbeaa", sum := "2292b6763b90b7a99e758832f86bd1a2950e8e2d4d3119c5e3dbfda8134779ca", func := "belfry/belfrylaw05.BchFar", spec := "bchFar", unfollowed := true, recurses := true, apart := false, narrowed := true }
def BchFarUptoSaid : Prop := bchFarUptoRow.holds Try.pinned (OpenSpec.upto bchFarSpec)

/-- 'belfrylaw05.BchIs', WHERE WHAT IT READS IS OF BULK AT MOST 1048576: true; the input reads as it did. -/
def bchIsUptoRow : OpenClaim := { program := "ythponlnklmhbeaa", sum := "2292b6763b90b7a99e758832f86bd1a2950e8e2d4d3119c5e3dbfda8134779ca", func := "belfry/belfrylaw05.BchIs", spec := "bchIs", unfollowed := true, recurses := true, apart := false, narrowed := true }
def BchIsUptoSaid : Prop := bchIsUptoRow.holds Try.pinned (OpenSpec.upto bchIsSpec)

/-- 'belfrylaw05.BchTold', WHERE WHAT IT READS IS OF BULK AT MOST 1048576: true; the input reads as it did. -/
def bchToldUptoRow : OpenClaim := { program := "ythponlnklmhbeaa", sum := "2292b6763b90b7a99e758832f86bd1a2950e8e2d4d3119c5e3dbfda8134779ca", func := "belfry/belfrylaw05.BchTold", spec := "bchTold", unfollowed := true, recurses := true, apart := false, narrowed := true }
def BchToldUptoSaid : Prop := bchToldUptoRow.holds Try.pinned (OpenSpec.upto bchToldSpec)

/-- 'belfrylaw05.BchSyndromes', WHERE WHAT IT READS IS OF BULK AT MOST 1048576: true; the input reads as it did. -/
def bchSyndromesUptoRow : OpenClaim := { program := "ythponlnklmhbeaa", sum := "2292b6763b90b7a99e758832f86bd1a2950e8e2d4d3119c5e3dbfda8134779ca", func := "belfry/belfrylaw05.BchSyndromes", spec := "bchSyndromes", unfollowed := true, recurses := true, apart := false, narrowed := true }
def BchSyndromesUptoSaid : Prop := bchSyndromesUptoRow.holds Try.pinned (OpenSpec.upto bchSyndromesSpec)

/-- 'belfrylaw05.BchTurns', WHERE WHAT IT READS IS OF BULK AT MOST 1048576: true; the input reads as it did. -/
def bchTurnsUptoRow : OpenClaim := { program := "ythponlnklmhbeaa", sum := "2292b6763b90b7a99e758832f86bd1a2950e8e2d4d3119c5e3dbfda8134779ca", func := "belfry/belfrylaw05.BchTurns", spec := "bchTurns", unfollowed := true, recurses := true, apart := false, narrowed := true }
def BchTurnsUptoSaid : Prop := bchTurnsUptoRow.holds Try.pinned (OpenSpec.upto bchTurnsSpec)

end Rows
end Go.Proofs.Ythponlnklmhbeaa
