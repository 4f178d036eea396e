/-
  NARROWER THAN 'FOR EVERY INPUT', by the rows' own cells (each row's printed sentence says how): SipPlays: laid · SipTurns: laid · SipWords: laid · SipEnds: laid · SipRounds: laid · SipKeys: laid · KeyedOrders: laid · KeyedBands: laid · KeyedSubsets: laid · KeyedRanges: laid · KeyedPeriod: laid · KeyedPlays: laid.
  DERIVED. THE GIVEN ROWS OF THIS SEAT. 12 by the template 'for every input the law returns true; each argument reads behind the call as it read before'; 0 by the template 'total and deterministic' (their statements: YthmiomncgkmnoaaDoorTotals.lean).
  GIVEN WITH THE SEED: the statements are not yours to turn. If you find one false, say at which input.
  Laid BY PROGRAM, IN A SANDBOX (cutbox-rows.mjs): the forced cells as the released guide's own fill.sh prints them over the translation 86f2919d627f0ae6… (all of the seat's roots in one cut). By AI agents, Wed Nov 11 2026. No macro, syntax, notation, axiom, sorry.
-/
import Derived.Test.YthmiomncgkmnoaaDoorChecked
import GoSem.Claim
import GoSem.ClaimJoined
import GoSem.ClaimMapViews
import Derived.JoinedTies
import Derived.KernelRfl
namespace Go.Proofs.YthmiomncgkmnoaaDoor
/- THE CELL 'sum', in the pinned program and in every row, IS THE sha256 OF THE DUMP (.gsa) THAT YthmiomncgkmnoaaDoorProg.lean LOADS. Nothing in Lean hashes anything: it is a label: what it is worth is what the hold of that sum in a sandbox is worth. -/
noncomputable def Tryd.pinned : Pinned := { name := "ythmiomncgkmnoaadoor", sum := "86f2919d627f0ae6bcf00497e258e9bf4a2b2c5d923a5307c82da003a2cd3250", checked := Tryd.checked }
namespace Rows
def none {H : Type} : Left H := { results := [], args := [] }

/- WHAT THE LISTED PACKAGE-LEVEL VARIABLES READ AS WHEN THE CALL BEGINS. Each datum BY PROGRAM (the guide's laid-datum.mjs) off the statement by which the dump's own 'gosem.cut.vars' lays the variable. In a bare row this is a premise. The card (YthmiomncgkmnoaaDoorCards.lean) ties it to the program's text. -/
def laid_belfry_sip_signs {H : Type} : DataW H := .agg [.lit (.int .u64 8317987319222330741), .lit (.int .u64 7237128888997146477), .lit (.int .u64 7816392313619706465), .lit (.int .u64 8387220255154660723)]

/-- 'belfrylaw01.SipPlays': WHATEVER THE INPUT: true; the input reads as it did. -/
def sipPlaysSpec : ChangeSpec := { name := "sipPlays", fn := fun _ => fun
  | [d1, d2] => { results := [.lit (.bool true)], args := [d1, d2] }
  | _ => none }
def sipPlaysRow : OpenClaim := { program := "ythmiomncgkmnoaadoor", sum := "86f2919d627f0ae6bcf00497e258e9bf4a2b2c5d923a5307c82da003a2cd3250", func := "belfry/belfrylaw01.SipPlays", spec := "sipPlays", unfollowed := true, recurses := true, named := ["belfry/sip.signs"], apart := false, laid := [("belfry/sip.signs", laid_belfry_sip_signs)] }
def SipPlaysSaid : Prop := sipPlaysRow.holds Tryd.pinned (OpenSpec.ofChange sipPlaysSpec)

/-- ITS FALSE NEIGHBOUR: 'it returns false'. Refute it at one input. -/
def sipPlaysWrong : ChangeSpec := { name := "sipPlays", fn := fun _ => fun
  | [d1, d2] => { results := [.lit (.bool false)], args := [d1, d2] }
  | _ => none }
def SipPlaysWrongFalsely : Prop := sipPlaysRow.holds Tryd.pinned (OpenSpec.ofChange sipPlaysWrong)

/-- 'belfrylaw01.SipTurns': WHATEVER THE INPUT: true; the input reads as it did. -/
def sipTurnsSpec : ChangeSpec := { name := "sipTurns", fn := fun _ => fun
  | [d1, d2, d3] => { results := [.lit (.bool true)], args := [d1, d2, d3] }
  | _ => none }
def sipTurnsRow : OpenClaim := { program := "ythmiomncgkmnoaadoor", sum := "86f2919d627f0ae6bcf00497e258e9bf4a2b2c5d923a5307c82da003a2cd3250", func := "belfry/belfrylaw01.SipTurns", spec := "sipTurns", unfollowed := true, recurses := true, named := ["belfry/sip.signs"], apart := false, laid := [("belfry/sip.signs", laid_belfry_sip_signs)] }
def SipTurnsSaid : Prop := sipTurnsRow.holds Tryd.pinned (OpenSpec.ofChange sipTurnsSpec)

/-- ITS FALSE NEIGHBOUR: 'it returns false'. Refute it at one input. -/
def sipTurnsWrong : ChangeSpec := { name := "sipTurns", fn := fun _ => fun
  | [d1, d2, d3] => { results := [.lit (.bool false)], args := [d1, d2, d3] }
  | _ => none }
def SipTurnsWrongFalsely : Prop := sipTurnsRow.holds Tryd.pinned (OpenSpec.ofChange sipTurnsWrong)

/-- 'belfrylaw01.SipWords': WHATEVER THE INPUT: true; the input reads as it did. -/
def sipWordsSpec : ChangeSpec := { name := "sipWords", fn := fun _ => fun
  | [d1, d2] => { results := [.lit (.bool true)], args := [d1, d2] }
  | _ => none }
def sipWordsRow : OpenClaim := { program := "ythmiomncgkmnoaadoor", sum := "86f2919d627f0ae6bcf00497e258e9bf4a2b2c5d923a5307c82da003a2cd3250", func := "belfry/belfrylaw01.SipWords", spec := "sipWords", unfollowed := true, recurses := true, named := ["belfry/sip.signs"], apart := false, laid := [("belfry/sip.signs", laid_belfry_sip_signs)] }
def SipWordsSaid : Prop := sipWordsRow.holds Tryd.pinned (OpenSpec.ofChange sipWordsSpec)

/-- ITS FALSE NEIGHBOUR: 'it returns false'. Refute it at one input. -/
def sipWordsWrong : ChangeSpec := { name := "sipWords", fn := fun _ => fun
  | [d1, d2] => { results := [.lit (.bool false)], args := [d1, d2] }
  | _ => none }
def SipWordsWrongFalsely : Prop := sipWordsRow.holds Tryd.pinned (OpenSpec.ofChange sipWordsWrong)

/-- 'belfrylaw01.SipEnds': WHATEVER THE INPUT: true; the input reads as it did. -/
def sipEndsSpec : ChangeSpec := { name := "sipEnds", fn := fun _ => fun
  | [d1, d2, d3] => { results := [.lit (.bool true)], args := [d1, d2, d3] }
  | _ => none }
def sipEndsRow : OpenClaim := { program := "ythmiomncgkmnoaadoor", sum := "86f2919d627f0ae6bcf00497e258e9bf4a2b2c5d923a5307c82da003a2cd3250", func := "belfry/belfrylaw01.SipEnds", spec := "sipEnds", unfollowed := true, recurses := true, named := ["belfry/sip.signs"], apart := false, laid := [("belfry/sip.signs", laid_belfry_sip_signs)] }
def SipEndsSaid : Prop := sipEndsRow.holds Tryd.pinned (OpenSpec.ofChange sipEndsSpec)

/-- ITS FALSE NEIGHBOUR: 'it returns false'. Refute it at one input. -/
def sipEndsWrong : ChangeSpec := { name := "sipEnds", fn := fun _ => fun
  | [d1, d2, d3] => { results := [.lit (.bool false)], args := [d1, d2, d3] }
  | _ => none }
def SipEndsWrongFalsely : Prop := sipEndsRow.holds Tryd.pinned (OpenSpec.ofChange sipEndsWrong)

/-- 'belfrylaw01.SipRounds': WHATEVER THE INPUT: true; the input reads as it did. -/
def sipRoundsSpec : ChangeSpec := { name := "sipRounds", fn := fun _ => fun
  | [d1, d2] => { results := [.lit (.bool true)], args := [d1, d2] }
  | _ => none }
def sipRoundsRow : OpenClaim := { program := "ythmiomncgkmnoaadoor", sum := "86f2919d627f0ae6bcf00497e258e9bf4a2b2c5d923a5307c82da003a2cd3250", func := "belfry/belfrylaw01.SipRounds", spec := "sipRounds", unfollowed := true, recurses := true, named := ["belfry/sip.signs"], apart := false, laid := [("belfry/sip.signs", laid_belfry_sip_signs)] }
def SipRoundsSaid : Prop := sipRoundsRow.holds Tryd.pinned (OpenSpec.ofChange sipRoundsSpec)

/-- ITS FALSE NEIGHBOUR: 'it returns false'. Refute it at one input. -/
def sipRoundsWrong : ChangeSpec := { name := "sipRounds", fn := fun _ => fun
  | [d1, d2] => { results := [.lit (.bool false)], args := [d1, d2] }
  | _ => none }
def SipRoundsWrongFalsely : Prop := sipRoundsRow.holds Tryd.pinned (OpenSpec.ofChange sipRoundsWrong)

/-- 'belfrylaw01.SipKeys': WHATEVER THE INPUT: true; the input reads as it did. -/
def sipKeysSpec : ChangeSpec := { name := "sipKeys", fn := fun _ => fun
  | [d1, d2] => { results := [.lit (.bool true)], args := [d1, d2] }
  | _ => none }
def sipKeysRow : OpenClaim := { program := "ythmiomncgkmnoaadoor", sum := "86f2919d627f0ae6bcf00497e258e9bf4a2b2c5d923a5307c82da003a2cd3250", func := "belfry/belfrylaw01.SipKeys", spec := "sipKeys", unfollowed := true, recurses := true, named := ["belfry/sip.signs"], apart := false, laid := [("belfry/sip.signs", laid_belfry_sip_signs)] }
def SipKeysSaid : Prop := sipKeysRow.holds Tryd.pinned (OpenSpec.ofChange sipKeysSpec)

/-- ITS FALSE NEIGHBOUR: 'it returns false'. Refute it at one input. -/
def sipKeysWrong : ChangeSpec := { name := "sipKeys", fn := fun _ => fun
  | [d1, d2] => { results := [.lit (.bool false)], args := [d1, d2] }
  | _ => none }
def SipKeysWrongFalsely : Prop := sipKeysRow.holds Tryd.pinned (OpenSpec.ofChange sipKeysWrong)

/-- 'belfrylaw02.KeyedOrders': WHATEVER THE INPUT: true; the input reads as it did. -/
def keyedOrdersSpec : ChangeSpec := { name := "keyedOrders", fn := fun _ => fun
  | [d1, d2, d3] => { results := [.lit (.bool true)], args := [d1, d2, d3] }
  | _ => none }
def keyedOrdersRow : OpenClaim := { program := "ythmiomncgkmnoaadoor", sum := "86f2919d627f0ae6bcf00497e258e9bf4a2b2c5d923a5307c82da003a2cd3250", func := "belfry/belfrylaw02.KeyedOrders", spec := "keyedOrders", unfollowed := true, recurses := true, named := ["belfry/sip.signs"], apart := false, laid := [("belfry/sip.signs", laid_belfry_sip_signs)] }
def KeyedOrdersSaid : Prop := keyedOrdersRow.holds Tryd.pinned (OpenSpec.ofChange keyedOrdersSpec)

/-- ITS FALSE NEIGHBOUR: 'it returns false'. Refute it at one input. -/
def keyedOrdersWrong : ChangeSpec := { name := "keyedOrders", fn := fun _ => fun
  | [d1, d2, d3] => { results := [.lit (.bool false)], args := [d1, d2, d3] }
  | _ => none }
def KeyedOrdersWrongFalsely : Prop := keyedOrdersRow.holds Tryd.pinned (OpenSpec.ofChange keyedOrdersWrong)

/-- 'belfrylaw02.KeyedBands': WHATEVER THE INPUT: true; the input reads as it did. -/
def keyedBandsSpec : ChangeSpec := { name := "keyedBands", fn := fun _ => fun
  | [d1, d2] => { results := [.lit (.bool true)], args := [d1, d2] }
  | _ => none }
def keyedBandsRow : OpenClaim := { program := "ythmiomncgkmnoaadoor", sum := "86f2919d627f0ae6bcf00497e258e9bf4a2b2c5d923a5307c82da003a2cd3250", func := "belfry/belfrylaw02.KeyedBands", spec := "keyedBands", unfollowed := true, recurses := true, named := ["belfry/sip.signs"], apart := false, laid := [("belfry/sip.signs", laid_belfry_sip_signs)] }
def KeyedBandsSaid : Prop := keyedBandsRow.holds Tryd.pinned (OpenSpec.ofChange keyedBandsSpec)

/-- ITS FALSE NEIGHBOUR: 'it returns false'. Refute it at one input. -/
def keyedBandsWrong : ChangeSpec := { name := "keyedBands", fn := fun _ => fun
  | [d1, d2] => { results := [.lit (.bool false)], args := [d1, d2] }
  | _ => none }
def KeyedBandsWrongFalsely : Prop := keyedBandsRow.holds Tryd.pinned (OpenSpec.ofChange keyedBandsWrong)

/-- 'belfrylaw02.KeyedSubsets': WHATEVER THE INPUT: true; the input reads as it did. -/
def keyedSubsetsSpec : ChangeSpec := { name := "keyedSubsets", fn := fun _ => fun
  | [d1, d2, d3, d4] => { results := [.lit (.bool true)], args := [d1, d2, d3, d4] }
  | _ => none }
def keyedSubsetsRow : OpenClaim := { program := "ythmiomncgkmnoaadoor", sum := "86f2919d627f0ae6bcf00497e258e9bf4a2b2c5d923a5307c82da003a2cd3250", func := "belfry/belfrylaw02.KeyedSubsets", spec := "keyedSubsets", unfollowed := true, recurses := true, named := ["belfry/sip.signs"], apart := false, laid := [("belfry/sip.signs", laid_belfry_sip_signs)] }
def KeyedSubsetsSaid : Prop := keyedSubsetsRow.holds Tryd.pinned (OpenSpec.ofChange keyedSubsetsSpec)

/-- ITS FALSE NEIGHBOUR: 'it returns false'. Refute it at one input. -/
def keyedSubsetsWrong : ChangeSpec := { name := "keyedSubsets", fn := fun _ => fun
  | [d1, d2, d3, d4] => { results := [.lit (.bool false)], args := [d1, d2, d3, d4] }
  | _ => none }
def KeyedSubsetsWrongFalsely : Prop := keyedSubsetsRow.holds Tryd.pinned (OpenSpec.ofChange keyedSubsetsWrong)

/-- 'belfrylaw02.KeyedRanges': WHATEVER THE INPUT: true; the input reads as it did. -/
def keyedRangesSpec : ChangeSpec := { name := "keyedRanges", fn := fun _ => fun
  | [d1, d2] => { results := [.lit (.bool true)], args := [d1, d2] }
  | _ => none }
def keyedRangesRow : OpenClaim := { program := "ythmiomncgkmnoaadoor", sum := "86f2919d627f0ae6bcf00497e258e9bf4a2b2c5d923a5307c82da003a2cd3250", func := "belfry/belfrylaw02.KeyedRanges", spec := "keyedRanges", unfollowed := true, recurses := true, named := ["belfry/sip.signs"], apart := false, laid := [("belfry/sip.signs", laid_belfry_sip_signs)] }
def KeyedRangesSaid : Prop := keyedRangesRow.holds Tryd.pinned (OpenSpec.ofChange keyedRangesSpec)

/-- ITS FALSE NEIGHBOUR: 'it returns false'. Refute it at one input. -/
def keyedRangesWrong : ChangeSpec := { name := "keyedRanges", fn := fun _ => fun
  | [d1, d2] => { results := [.lit (.bool false)], args := [d1, d2] }
  | _ => none }
def KeyedRangesWrongFalsely : Prop := keyedRangesRow.holds Tryd.pinned (OpenSpec.ofChange keyedRangesWrong)

/-- 'belfrylaw02.KeyedPeriod': WHATEVER THE INPUT: true; the input reads as it did. -/
def keyedPeriodSpec : ChangeSpec := { name := "keyedPeriod", fn := fun _ => fun
  | [d1, d2, d3, d4, d5] => { results := [.lit (.bool true)], args := [d1, d2, d3, d4, d5] }
  | _ => none }
def keyedPeriodRow : OpenClaim := { program := "ythmiomncgkmnoaadoor", sum := "86f2919d627f0ae6bcf00497e258e9bf4a2b2c5d923a5307c82da003a2cd3250", func := "belfry/belfrylaw02.KeyedPeriod", spec := "keyedPeriod", unfollowed := true, recurses := true, named := ["belfry/sip.signs"], apart := false, laid := [("belfry/sip.signs", laid_belfry_sip_signs)] }
def KeyedPeriodSaid : Prop := keyedPeriodRow.holds Tryd.pinned (OpenSpec.ofChange keyedPeriodSpec)

/-- ITS FALSE NEIGHBOUR: 'it returns false'. Refute it at one input. -/
def keyedPeriodWrong : ChangeSpec := { name := "keyedPeriod", fn := fun _ => fun
  | [d1, d2, d3, d4, d5] => { results := [.lit (.bool false)], args := [d1, d2, d3, d4, d5] }
  | _ => none }
def KeyedPeriodWrongFalsely : Prop := keyedPeriodRow.holds Tryd.pinned (OpenSpec.ofChange keyedPeriodWrong)

/-- 'belfrylaw02.KeyedPlays': WHATEVER THE INPUT: true; the input reads as it did. -/
def keyedPlaysSpec : ChangeSpec := { name := "keyedPlays", fn := fun _ => fun
  | [d1, d2, d3, d4, d5, d6] => { results := [.lit (.bool true)], args := [d1, d2, d3, d4, d5, d6] }
  | _ => none }
def keyedPlaysRow : OpenClaim := { program := "ythmiomncgkmnoaadoor", sum := "86f2919d627f0ae6bcf00497e258e9bf4a2b2c5d923a5307c82da003a2cd3250", func := "belfry/belfrylaw02.KeyedPlays", spec := "keyedPlays", unfollowed := true, recurses := true, named := ["belfry/sip.signs"], apart := false, laid := [("belfry/sip.signs", laid_belfry_sip_signs)] }
def KeyedPlaysSaid : Prop := keyedPlaysRow.holds Tryd.pinned (OpenSpec.ofChange keyedPlaysSpec)

/-- ITS FALSE NEIGHBOUR: 'it returns false'. Refute it at one input. -/
def keyedPlaysWrong : ChangeSpec := { name := "keyedPlays", fn := fun _ => fun
  | [d1, d2, d3, d4, d5, d6] => { results := [.lit (.bool false)], args := [d1, d2, d3, d4, d5, d6] }
  | _ => none }
def KeyedPlaysWrongFalsely : Prop := keyedPlaysRow.holds Tryd.pinned (OpenSpec.ofChange keyedPlaysWrong)

/- THE SECOND FORM. 'bulk': how many values and letters a reading holds, each counted each time it is reached (what is shared counts as often as it is met; a slice's spare places count too). A statement '..UptoSaid' is the law's where the arguments, and the package variables that the reading takes, are together of bulk at most 1048576: NARROWER than '..Said'. Prove '..Said' where nothing that the law and all that it calls make is longer than what came in: it says more and counts as full. Else prove '..UptoSaid'. A law counts once. -/
mutual
def uptoBulk {H : Type} : DataW H → Nat
  | .lit (.string bytes) => bytes.length + 1
  | .lit _ => 1
  | .nil => 1
  | .ptr d => uptoBulk d + 1
  | .slice elems spare => uptoBulkAll elems + uptoBulkAll spare + 1
  | .agg parts => uptoBulkAll parts + 1
  | .iface _ d => uptoBulk d + 1
  | .map entries => uptoBulkEntries entries + 1
  | .held _ => 1
def uptoBulkAll {H : Type} : List (DataW H) → Nat
  | [] => 0
  | d :: r => uptoBulk d + uptoBulkAll r
def uptoBulkEntries {H : Type} : List (Lit × DataW H) → Nat
  | [] => 0
  | x :: r => uptoBulkEntry x + uptoBulkEntries r
def uptoBulkEntry {H : Type} : Lit × DataW H → Nat
  | (.string bytes, d) => bytes.length + uptoBulk d + 1
  | (_, d) => uptoBulk d + 1
 end
def uptoSmall : (H : Type) → List (DataW H) → Bool := fun _ ds => decide (uptoBulkAll ds ≤ 1048576)
def OpenSpec.upto (s : _root_.Go.ChangeSpec) : _root_.Go.OpenSpec := { _root_.Go.OpenSpec.ofChange s with cond := some uptoSmall }

/-- 'belfrylaw01.SipPlays', WHERE WHAT IT READS IS OF BULK AT MOST 1048576: true; the input reads as it did. -/
def sipPlaysUptoRow : OpenClaim := { program := "ythmiomncgkmnoaadoor", sum := "86f2919d627f0ae6bcf00497e258e9bf4a2b2c5d923a5307c82da003a2cd3250", func := "belfry/belfrylaw01.SipPlays", spec := "sipPlays", unfollowed := true, recurses := true, named := ["belfry/sip.signs"], apart := false, laid := [("belfry/sip.signs", laid_belfry_sip_signs)], narrowed := true }
def SipPlaysUptoSaid : Prop := sipPlaysUptoRow.holds Tryd.pinned (OpenSpec.upto sipPlaysSpec)

/-- 'belfrylaw01.SipTurns', WHERE WHAT IT READS IS OF BULK AT MOST 1048576: true; the input reads as it did. -/
def sipTurnsUptoRow : OpenClaim := { program := "ythmiomncgkmnoaadoor", sum := "86f2919d627f0ae6bcf00497e258e9bf4a2b2c5d923a5307c82da003a2cd3250", func := "belfry/belfrylaw01.SipTurns", spec := "sipTurns", unfollowed := true, recurses := true, named := ["belfry/sip.signs"], apart := false, laid := [("belfry/sip.signs", laid_belfry_sip_signs)], narrowed := true }
def SipTurnsUptoSaid : Prop := sipTurnsUptoRow.holds Tryd.pinned (OpenSpec.upto sipTurnsSpec)

/-- 'belfrylaw01.SipWords', WHERE WHAT IT READS IS OF BULK AT MOST 1048576: true; the input reads as it did. -/
def sipWordsUptoRow : OpenClaim := { program := "ythmiomncgkmnoaadoor", sum := "86f2919d627f0ae6bcf00497e258e9bf4a2b2c5d923a5307c82da003a2cd3250", func := "belfry/belfrylaw01.SipWords", spec := "sipWords", unfollowed := true, recurses := true, named := ["belfry/sip.signs"], apart := false, laid := [("belfry/sip.signs", laid_belfry_sip_signs)], narrowed := true }
def SipWordsUptoSaid : Prop := sipWordsUptoRow.holds Tryd.pinned (OpenSpec.upto sipWordsSpec)

/-- 'belfrylaw01.SipEnds', WHERE WHAT IT READS IS OF BULK AT MOST 1048576: true; the input reads as it did. -/
def sipEndsUptoRow : OpenClaim := { program := "ythmiomncgkmnoaadoor", sum := "86f2919d627f0ae6bcf00497e258e9bf4a2b2c5d923a5307c82da003a2cd3250", func := "belfry/belfrylaw01.SipEnds", spec := "sipEnds", unfollowed := true, recurses := true, named := ["belfry/sip.signs"], apart := false, laid := [("belfry/sip.signs", laid_belfry_sip_signs)], narrowed := true }
def SipEndsUptoSaid : Prop := sipEndsUptoRow.holds Tryd.pinned (OpenSpec.upto sipEndsSpec)

/-- 'belfrylaw01.SipRounds', WHERE WHAT IT READS IS OF BULK AT MOST 1048576: true; the input reads as it did. -/
def sipRoundsUptoRow : OpenClaim := { program := "ythmiomncgkmnoaadoor", sum := "86f2919d627f0ae6bcf00497e258e9bf4a2b2c5d923a5307c82da003a2cd3250", func := "belfry/belfrylaw01.SipRounds", spec := "sipRounds", unfollowed := true, recurses := true, named := ["belfry/sip.signs"], apart := false, laid := [("belfry/sip.signs", laid_belfry_sip_signs)], narrowed := true }
def SipRoundsUptoSaid : Prop := sipRoundsUptoRow.holds Tryd.pinned (OpenSpec.upto sipRoundsSpec)

/-- 'belfrylaw01.SipKeys', WHERE WHAT IT READS IS OF BULK AT MOST 1048576: true; the input reads as it did. -/
def sipKeysUptoRow : OpenClaim := { program := "ythmiomncgkmnoaadoor", sum := "86f2919d627f0ae6bcf00497e258e9bf4a2b2c5d923a5307c82da003a2cd3250", func := "belfry/belfrylaw01.SipKeys", spec := "sipKeys", unfollowed := true, recurses := true, named := ["belfry/sip.signs"], apart := false, laid := [("belfry/sip.signs", laid_belfry_sip_signs)], narrowed := true }
def SipKeysUptoSaid : Prop := sipKeysUptoRow.holds Tryd.pinned (OpenSpec.upto sipKeysSpec)

/-- 'belfrylaw02.KeyedOrders', WHERE WHAT IT READS IS OF BULK AT MOST 1048576: true; the input reads as it did. -/
def keyedOrdersUptoRow : OpenClaim := { program := "ythmiomncgkmnoaadoor", sum := "86f2919d627f0ae6bcf00497e258e9bf4a2b2c5d923a5307c82da003a2cd3250", func := "belfry/belfrylaw02.KeyedOrders", spec := "keyedOrders", unfollowed := true, recurses := true, named := ["belfry/sip.signs"], apart := false, laid := [("belfry/sip.signs", laid_belfry_sip_signs)], narrowed := true }
def KeyedOrdersUptoSaid : Prop := keyedOrdersUptoRow.holds Tryd.pinned (OpenSpec.upto keyedOrdersSpec)

/-- 'belfrylaw02.KeyedBands', WHERE WHAT IT READS IS OF BULK AT MOST 1048576: true; the input reads as it did. -/
def keyedBandsUptoRow : OpenClaim := { program := "ythmiomncgkmnoaadoor", sum := "86f2919d627f0ae6bcf00497e258e9bf4a2b2c5d923a5307c82da003a2cd3250", func := "belfry/belfrylaw02.KeyedBands", spec := "keyedBands", unfollowed := true, recurses := true, named := ["belfry/sip.signs"], apart := false, laid := [("belfry/sip.signs", laid_belfry_sip_signs)], narrowed := true }
def KeyedBandsUptoSaid : Prop := keyedBandsUptoRow.holds Tryd.pinned (OpenSpec.upto keyedBandsSpec)

/-- 'belfrylaw02.KeyedSubsets', WHERE WHAT IT READS IS OF BULK AT MOST 1048576: true; the input reads as it did. -/
def keyedSubsetsUptoRow : OpenClaim := { program := "ythmiomncgkmnoaadoor", sum := "86f2919d627f0ae6bcf00497e258e9bf4a2b2c5d923a5307c82da003a2cd3250", func := "belfry/belfrylaw02.KeyedSubsets", spec := "keyedSubsets", unfollowed := true, recurses := true, named := ["belfry/sip.signs"], apart := false, laid := [("belfry/sip.signs", laid_belfry_sip_signs)], narrowed := true }
def KeyedSubsetsUptoSaid : Prop := keyedSubsetsUptoRow.holds Tryd.pinned (OpenSpec.upto keyedSubsetsSpec)

/-- 'belfrylaw02.KeyedRanges', WHERE WHAT IT READS IS OF BULK AT MOST 1048576: true; the input reads as it did. -/
def keyedRangesUptoRow : OpenClaim := { program := "ythmiomncgkmnoaadoor", sum := "86f2919d627f0ae6bcf00497e258e9bf4a2b2c5d923a5307c82da003a2cd3250", func := "belfry/belfrylaw02.KeyedRanges", spec := "keyedRanges", unfollowed := true, recurses := true, named := ["belfry/sip.signs"], apart := false, laid := [("belfry/sip.signs", laid_belfry_sip_signs)], narrowed := true }
def KeyedRangesUptoSaid : Prop := keyedRangesUptoRow.holds Tryd.pinned (OpenSpec.upto keyedRangesSpec)

/-- 'belfrylaw02.KeyedPeriod', WHERE WHAT IT READS IS OF BULK AT MOST 1048576: true; the input reads as it did. -/
def keyedPeriodUptoRow : OpenClaim := { program := "ythmiomncgkmnoaadoor", sum := "86f2919d627f0ae6bcf00497e258e9bf4a2b2c5d923a5307c82da003a2cd3250", func := "belfry/belfrylaw02.KeyedPeriod", spec := "keyedPeriod", unfollowed := true, recurses := true, named := ["belfry/sip.signs"], apart := false, laid := [("belfry/sip.signs", laid_belfry_sip_signs)], narrowed := true }
def KeyedPeriodUptoSaid : Prop := keyedPeriodUptoRow.holds Tryd.pinned (OpenSpec.upto keyedPeriodSpec)

/-- 'belfrylaw02.KeyedPlays', WHERE WHAT IT READS IS OF BULK AT MOST 1048576: true; the input reads as it did. -/
def keyedPlaysUptoRow : OpenClaim := { program := "ythmiomncgkmnoaadoor", sum := "86f2919d627f0ae6bcf00497e258e9bf4a2b2c5d923a5307c82da003a2cd3250", func := "belfry/belfrylaw02.KeyedPlays", spec := "keyedPlays", unfollowed := true, recurses := true, named := ["belfry/sip.signs"], apart := false, laid := [("belfry/sip.signs", laid_belfry_sip_signs)], narrowed := true }
def KeyedPlaysUptoSaid : Prop := keyedPlaysUptoRow.holds Tryd.pinned (OpenSpec.upto keyedPlaysSpec)

end Rows
end Go.Proofs.YthmiomncgkmnoaaDoor
