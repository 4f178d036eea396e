/-
  NARROWER THAN 'FOR EVERY INPUT', by the rows' own cells (each row's printed sentence says how): RoadCounts: laid · RoadPlays: laid · RoadParts: laid · RoadBack: laid · RoadOnly: laid.
  DERIVED. THE GIVEN ROWS OF THIS SEAT. 5 by the template 'for every input the law returns true; each argument reads behind the call as it read before'; 0 by the template 'total and deterministic' (their statements: YthoemgiadadfcaaDoorTotals.lean).
  GIVEN WITH THE SEED: the statements are not yours to turn. If you find one false, say at which input.
  Laid BY PROGRAM, IN A SANDBOX (cutbox-rows.mjs): the forced cells as the released guide's own fill.sh prints them over the translation fe535a943efacb17… (all of the seat's roots in one cut). By AI agents, Wed Nov 11 2026. No macro, syntax, notation, axiom, sorry.
-/
import Derived.Test.YthoemgiadadfcaaDoorChecked
import GoSem.PinnedTables
import GoSem.Claim
import GoSem.ClaimJoined
import GoSem.ClaimMapViews
import Derived.JoinedTies
import Derived.KernelRfl
namespace Go.Proofs.YthoemgiadadfcaaDoor
/- THE CELL 'sum', in the pinned program and in every row, IS THE sha256 OF THE DUMP (.gsa) THAT YthoemgiadadfcaaDoorProg.lean LOADS. Nothing in Lean hashes anything: it is a label: what it is worth is what the hold of that sum in a sandbox is worth. -/
noncomputable def Tryd.pinned : Pinned := { name := "ythoemgiadadfcaadoor", sum := "fe535a943efacb172468e349f7846939732f8d51249c62f1573bc3ccf3f28523", checked := Tryd.checked }
namespace Rows
def none {H : Type} : Left H := { results := [], args := [] }

/- WHAT THE LISTED PACKAGE-LEVEL VARIABLES READ AS WHEN THE CALL BEGINS. Each datum BY PROGRAM (the guide's laid-datum.mjs) off the statement by which the dump's own 'gosem.cut.vars' lays the variable. In a bare row this is a premise. The card (YthoemgiadadfcaaDoorCards.lean) ties it to the program's text. -/
def laid_unicode_utf8_acceptRanges {H : Type} : DataW H := .agg [.agg [.lit (.int .u8 128), .lit (.int .u8 191)], .agg [.lit (.int .u8 160), .lit (.int .u8 191)], .agg [.lit (.int .u8 128), .lit (.int .u8 159)], .agg [.lit (.int .u8 144), .lit (.int .u8 191)], .agg [.lit (.int .u8 128), .lit (.int .u8 143)], .agg [.lit (.int .u8 0), .lit (.int .u8 0)], .agg [.lit (.int .u8 0), .lit (.int .u8 0)], .agg [.lit (.int .u8 0), .lit (.int .u8 0)], .agg [.lit (.int .u8 0), .lit (.int .u8 0)], .agg [.lit (.int .u8 0), .lit (.int .u8 0)], .agg [.lit (.int .u8 0), .lit (.int .u8 0)], .agg [.lit (.int .u8 0), .lit (.int .u8 0)], .agg [.lit (.int .u8 0), .lit (.int .u8 0)], .agg [.lit (.int .u8 0), .lit (.int .u8 0)], .agg [.lit (.int .u8 0), .lit (.int .u8 0)], .agg [.lit (.int .u8 0), .lit (.int .u8 0)]]
/-- One of Go's own tables, pinned by name: the form's constant. -/
def laid_unicode_utf8_first : DataW Unit := Go.Pinned.utf8First

/-- 'belfrylaw25.RoadCounts': WHATEVER THE INPUT: true; the input reads as it did. -/
def roadCountsSpec : ChangeSpec := { name := "roadCounts", fn := fun _ => fun
  | [d1, d2] => { results := [.lit (.bool true)], args := [d1, d2] }
  | _ => none }
def roadCountsRow : OpenClaim := { program := "ythoemgiadadfcaadoor", sum := "fe535a943efacb172468e349f7846939732f8d51249c62f1573bc3ccf3f28523", func := "belfry/belfrylaw25.RoadCounts", spec := "roadCounts", inPlace := ["slices.overlaps[belfry/road.item]", "internal/bytealg.IndexByteString", "internal/bytealg.CountString", "internal/bytealg.IndexString"], unfollowed := true, recurses := true, named := ["unicode/utf8.first", "unicode/utf8.acceptRanges", "internal/bytealg.MaxLen"], apart := false, laid := [("unicode/utf8.acceptRanges", laid_unicode_utf8_acceptRanges), ("unicode/utf8.first", laid_unicode_utf8_first)] }
def RoadCountsSaid : Prop := roadCountsRow.holds Tryd.pinned (OpenSpec.ofChange roadCountsSpec)

/-- ITS FALSE NEIGHBOUR: 'it returns false'. Refute it at one input. -/
def roadCountsWrong : ChangeSpec := { name := "roadCounts", fn := fun _ => fun
  | [d1, d2] => { results := [.lit (.bool false)], args := [d1, d2] }
  | _ => none }
def RoadCountsWrongFalsely : Prop := roadCountsRow.holds Tryd.pinned (OpenSpec.ofChange roadCountsWrong)

/-- 'belfrylaw25.RoadPlays': WHATEVER THE INPUT: true; the input reads as it did. -/
def roadPlaysSpec : ChangeSpec := { name := "roadPlays", fn := fun _ => fun
  | [d1, d2] => { results := [.lit (.bool true)], args := [d1, d2] }
  | _ => none }
def roadPlaysRow : OpenClaim := { program := "ythoemgiadadfcaadoor", sum := "fe535a943efacb172468e349f7846939732f8d51249c62f1573bc3ccf3f28523", func := "belfry/belfrylaw25.RoadPlays", spec := "roadPlays", inPlace := ["slices.overlaps[belfry/road.item]", "internal/bytealg.IndexByteString", "internal/bytealg.CountString", "internal/bytealg.IndexString"], unfollowed := true, recurses := true, named := ["unicode/utf8.first", "unicode/utf8.acceptRanges", "internal/bytealg.MaxLen"], apart := false, laid := [("unicode/utf8.acceptRanges", laid_unicode_utf8_acceptRanges), ("unicode/utf8.first", laid_unicode_utf8_first)] }
def RoadPlaysSaid : Prop := roadPlaysRow.holds Tryd.pinned (OpenSpec.ofChange roadPlaysSpec)

/-- ITS FALSE NEIGHBOUR: 'it returns false'. Refute it at one input. -/
def roadPlaysWrong : ChangeSpec := { name := "roadPlays", fn := fun _ => fun
  | [d1, d2] => { results := [.lit (.bool false)], args := [d1, d2] }
  | _ => none }
def RoadPlaysWrongFalsely : Prop := roadPlaysRow.holds Tryd.pinned (OpenSpec.ofChange roadPlaysWrong)

/-- 'belfrylaw25.RoadParts': WHATEVER THE INPUT: true; the input reads as it did. -/
def roadPartsSpec : ChangeSpec := { name := "roadParts", fn := fun _ => fun
  | [d1, d2, d3] => { results := [.lit (.bool true)], args := [d1, d2, d3] }
  | _ => none }
def roadPartsRow : OpenClaim := { program := "ythoemgiadadfcaadoor", sum := "fe535a943efacb172468e349f7846939732f8d51249c62f1573bc3ccf3f28523", func := "belfry/belfrylaw25.RoadParts", spec := "roadParts", inPlace := ["slices.overlaps[belfry/road.item]", "internal/bytealg.IndexByteString", "internal/bytealg.CountString", "internal/bytealg.IndexString"], unfollowed := true, recurses := true, named := ["unicode/utf8.first", "unicode/utf8.acceptRanges", "internal/bytealg.MaxLen"], apart := false, laid := [("unicode/utf8.acceptRanges", laid_unicode_utf8_acceptRanges), ("unicode/utf8.first", laid_unicode_utf8_first)] }
def RoadPartsSaid : Prop := roadPartsRow.holds Tryd.pinned (OpenSpec.ofChange roadPartsSpec)

/-- ITS FALSE NEIGHBOUR: 'it returns false'. Refute it at one input. -/
def roadPartsWrong : ChangeSpec := { name := "roadParts", fn := fun _ => fun
  | [d1, d2, d3] => { results := [.lit (.bool false)], args := [d1, d2, d3] }
  | _ => none }
def RoadPartsWrongFalsely : Prop := roadPartsRow.holds Tryd.pinned (OpenSpec.ofChange roadPartsWrong)

/-- 'belfrylaw25.RoadBack': WHATEVER THE INPUT: true; the input reads as it did. -/
def roadBackSpec : ChangeSpec := { name := "roadBack", fn := fun _ => fun
  | [d] => { results := [.lit (.bool true)], args := [d] }
  | _ => none }
def roadBackRow : OpenClaim := { program := "ythoemgiadadfcaadoor", sum := "fe535a943efacb172468e349f7846939732f8d51249c62f1573bc3ccf3f28523", func := "belfry/belfrylaw25.RoadBack", spec := "roadBack", inPlace := ["slices.overlaps[belfry/road.item]", "internal/bytealg.IndexByteString", "internal/bytealg.CountString", "internal/bytealg.IndexString", "internal/abi.NoEscape"], unfollowed := true, recurses := true, named := ["unicode/utf8.first", "unicode/utf8.acceptRanges", "internal/bytealg.MaxLen"], apart := false, laid := [("unicode/utf8.acceptRanges", laid_unicode_utf8_acceptRanges), ("unicode/utf8.first", laid_unicode_utf8_first)] }
def RoadBackSaid : Prop := roadBackRow.holds Tryd.pinned (OpenSpec.ofChange roadBackSpec)

/-- ITS FALSE NEIGHBOUR: 'it returns false'. Refute it at one input. -/
def roadBackWrong : ChangeSpec := { name := "roadBack", fn := fun _ => fun
  | [d] => { results := [.lit (.bool false)], args := [d] }
  | _ => none }
def RoadBackWrongFalsely : Prop := roadBackRow.holds Tryd.pinned (OpenSpec.ofChange roadBackWrong)

/-- 'belfrylaw25.RoadOnly': WHATEVER THE INPUT: true; the input reads as it did. -/
def roadOnlySpec : ChangeSpec := { name := "roadOnly", fn := fun _ => fun
  | [d] => { results := [.lit (.bool true)], args := [d] }
  | _ => none }
def roadOnlyRow : OpenClaim := { program := "ythoemgiadadfcaadoor", sum := "fe535a943efacb172468e349f7846939732f8d51249c62f1573bc3ccf3f28523", func := "belfry/belfrylaw25.RoadOnly", spec := "roadOnly", inPlace := ["slices.overlaps[belfry/road.item]", "internal/bytealg.IndexByteString", "internal/bytealg.CountString", "internal/bytealg.IndexString", "internal/abi.NoEscape"], unfollowed := true, recurses := true, named := ["unicode/utf8.first", "unicode/utf8.acceptRanges", "internal/bytealg.MaxLen"], apart := false, laid := [("unicode/utf8.acceptRanges", laid_unicode_utf8_acceptRanges), ("unicode/utf8.first", laid_unicode_utf8_first)] }
def RoadOnlySaid : Prop := roadOnlyRow.holds Tryd.pinned (OpenSpec.ofChange roadOnlySpec)

/-- ITS FALSE NEIGHBOUR: 'it returns false'. Refute it at one input. -/
def roadOnlyWrong : ChangeSpec := { name := "roadOnly", fn := fun _ => fun
  | [d] => { results := [.lit (.bool false)], args := [d] }
  | _ => none }
def RoadOnlyWrongFalsely : Prop := roadOnlyRow.holds Tryd.pinned (OpenSpec.ofChange roadOnlyWrong)

/- THE SECOND FORM. 'bulk': how many values and letters a reading holds, each counted each time it is reached (what is shared counts as often as it is met; a slice's spare places count too). A statement '..UptoSaid' is the law's where the arguments, and the package variables that the reading takes, are together of bulk at most 1048576: NARROWER than '..Said'. Prove '..Said' where nothing that the law and all that it calls make is longer than what came in: it says more and counts as full. Else prove '..UptoSaid'. A law counts once. -/
mutual
def uptoBulk {H : Type} : DataW H → Nat
  | .lit (.string bytes) => bytes.length + 1
  | .lit _ => 1
  | .nil => 1
  | .ptr d => uptoBulk d + 1
  | .slice elems spare => uptoBulkAll elems + uptoBulkAll spare + 1
  | .agg parts => uptoBulkAll parts + 1
  | .iface _ d => uptoBulk d + 1
  | .map entries => uptoBulkEntries entries + 1
  | .held _ => 1
def uptoBulkAll {H : Type} : List (DataW H) → Nat
  | [] => 0
  | d :: r => uptoBulk d + uptoBulkAll r
def uptoBulkEntries {H : Type} : List (Lit × DataW H) → Nat
  | [] => 0
  | x :: r => uptoBulkEntry x + uptoBulkEntries r
def uptoBulkEntry {H : Type} : Lit × DataW H → Nat
  | (.string bytes, d) => bytes.length + uptoBulk d + 1
  | (_, d) => uptoBulk d + 1
 end
def uptoSmall : (H : Type) → List (DataW H) → Bool := fun _ ds => decide (uptoBulkAll ds ≤ 1048576)
def OpenSpec.upto (s : _root_.Go.ChangeSpec) : _root_.Go.OpenSpec := { _root_.Go.OpenSpec.ofChange s with cond := some uptoSmall }

/-- 'belfrylaw25.RoadCounts', WHERE WHAT IT READS IS OF BULK AT MOST 1048576: true; the input reads as it did. -/
def roadCountsUptoRow : OpenClaim := { program := "ythoemgiadadfcaadoor", sum := "fe535a943efacb172468e349f7846939732f8d51249c62f1573bc3ccf3f28523", func := "belfry/belfrylaw25.RoadCounts", spec := "roadCounts", inPlace := ["slices.overlaps[belfry/road.item]", "internal/bytealg.IndexByteString", "internal/bytealg.CountString", "internal/bytealg.IndexString"], unfollowed := true, recurses := true, named := ["unicode/utf8.first", "unicode/utf8.acceptRanges", "internal/bytealg.MaxLen"], apart := false, laid := [("unicode/utf8.acceptRanges", laid_unicode_utf8_acceptRanges), ("unicode/utf8.first", laid_unicode_utf8_first)], narrowed := true }
def RoadCountsUptoSaid : Prop := roadCountsUptoRow.holds Tryd.pinned (OpenSpec.upto roadCountsSpec)

/-- 'belfrylaw25.RoadPlays', WHERE WHAT IT READS IS OF BULK AT MOST 1048576: true; the input reads as it did. -/
def roadPlaysUptoRow : OpenClaim := { program := "ythoemgiadadfcaadoor", sum := "fe535a943efacb172468e349f7846939732f8d51249c62f1573bc3ccf3f28523", func := "belfry/belfrylaw25.RoadPlays", spec := "roadPlays", inPlace := ["slices.overlaps[belfry/road.item]", "internal/bytealg.IndexByteString", "internal/bytealg.CountString", "internal/bytealg.IndexString"], unfollowed := true, recurses := true, named := ["unicode/utf8.first", "unicode/utf8.acceptRanges", "internal/bytealg.MaxLen"], apart := false, laid := [("unicode/utf8.acceptRanges", laid_unicode_utf8_acceptRanges), ("unicode/utf8.first", laid_unicode_utf8_first)], narrowed := true }
def RoadPlaysUptoSaid : Prop := roadPlaysUptoRow.holds Tryd.pinned (OpenSpec.upto roadPlaysSpec)

/-- 'belfrylaw25.RoadParts', WHERE WHAT IT READS IS OF BULK AT MOST 1048576: true; the input reads as it did. -/
def roadPartsUptoRow : OpenClaim := { program := "ythoemgiadadfcaadoor", sum := "fe535a943efacb172468e349f7846939732f8d51249c62f1573bc3ccf3f28523", func := "belfry/belfrylaw25.RoadParts", spec := "roadParts", inPlace := ["slices.overlaps[belfry/road.item]", "internal/bytealg.IndexByteString", "internal/bytealg.CountString", "internal/bytealg.IndexString"], unfollowed := true, recurses := true, named := ["unicode/utf8.first", "unicode/utf8.acceptRanges", "internal/bytealg.MaxLen"], apart := false, laid := [("unicode/utf8.acceptRanges", laid_unicode_utf8_acceptRanges), ("unicode/utf8.first", laid_unicode_utf8_first)], narrowed := true }
def RoadPartsUptoSaid : Prop := roadPartsUptoRow.holds Tryd.pinned (OpenSpec.upto roadPartsSpec)

/-- 'belfrylaw25.RoadBack', WHERE WHAT IT READS IS OF BULK AT MOST 1048576: true; the input reads as it did. -/
def roadBackUptoRow : OpenClaim := { program := "ythoemgiadadfcaadoor", sum := "fe535a943efacb172468e349f7846939732f8d51249c62f1573bc3ccf3f28523", func := "belfry/belfrylaw25.RoadBack", spec := "roadBack", inPlace := ["slices.overlaps[belfry/road.item]", "internal/bytealg.IndexByteString", "internal/bytealg.CountString", "internal/bytealg.IndexString", "internal/abi.NoEscape"], unfollowed := true, recurses := true, named := ["unicode/utf8.first", "unicode/utf8.acceptRanges", "internal/bytealg.MaxLen"], apart := false, laid := [("unicode/utf8.acceptRanges", laid_unicode_utf8_acceptRanges), ("unicode/utf8.first", laid_unicode_utf8_first)], narrowed := true }
def RoadBackUptoSaid : Prop := roadBackUptoRow.holds Tryd.pinned (OpenSpec.upto roadBackSpec)

/-- 'belfrylaw25.RoadOnly', WHERE WHAT IT READS IS OF BULK AT MOST 1048576: true; the input reads as it did. -/
def roadOnlyUptoRow : OpenClaim := { program := "ythoemgiadadfcaadoor", sum := "fe535a943efacb172468e349f7846939732f8d51249c62f1573bc3ccf3f28523", func := "belfry/belfrylaw25.RoadOnly", spec := "roadOnly", inPlace := ["slices.overlaps[belfry/road.item]", "internal/bytealg.IndexByteString", "internal/bytealg.CountString", "internal/bytealg.IndexString", "internal/abi.NoEscape"], unfollowed := true, recurses := true, named := ["unicode/utf8.first", "unicode/utf8.acceptRanges", "internal/bytealg.MaxLen"], apart := false, laid := [("unicode/utf8.acceptRanges", laid_unicode_utf8_acceptRanges), ("unicode/utf8.first", laid_unicode_utf8_first)], narrowed := true }
def RoadOnlyUptoSaid : Prop := roadOnlyUptoRow.holds Tryd.pinned (OpenSpec.upto roadOnlySpec)

end Rows
end Go.Proofs.YthoemgiadadfcaaDoor
