/-
  No cell of these rows narrows 'for every input' (looked for: loops, veiled, ifaces, maps, wideKeys, modest, calm, conditions, laid).
  DERIVED. THE GIVEN ROWS OF THIS SEAT. 12 by the template 'for every input the law returns true; each argument reads behind the call as it read before'; 0 by the template 'total and deterministic' (their statements: YtfncoeoaniclmaaTotals.lean).
  GIVEN WITH THE SEED: the statements are not yours to turn. If you find one false, say at which input.
  Laid BY PROGRAM, IN A SANDBOX (cutbox-rows.mjs): the forced cells as the released guide's own fill.sh prints them over the translation 5a27b751fa67dba5… (all of the seat's roots in one cut). By AI agents, Wed Nov 11 2026. No macro, syntax, notation, axiom, sorry.
-/
import Derived.Test.YtfncoeoaniclmaaChecked
import GoSem.Claim
import GoSem.ClaimJoined
import GoSem.ClaimMapViews
import Derived.JoinedTies
import Derived.KernelRfl
namespace Go.Proofs.Ytfncoeoaniclmaa
/- THE CELL 'sum', in the pinned program and in every row, IS THE sha256 OF THE DUMP (.gsa) THAT YtfncoeoaniclmaaProg.lean LOADS. Nothing in Lean hashes anything: it is a label: what it is worth is what the hold of that sum in a sandbox is worth. -/
noncomputable def Try.pinned : Pinned := { name := "ytfncoeoaniclmaa", sum := "5a27b751fa67dba5e582a249782ce03896ab2f16980978f9fe9c16f2ff27462e", checked := Try.checked }
namespace Rows
def none {H : Type} : Left H := { results := [], args := [] }

/-- 'fordlaw07.FdbNew': WHATEVER THE INPUT: true; the input reads as it did. -/
def fdbNewSpec : ChangeSpec := { name := "fdbNew", fn := fun _ => fun
  | [d1, d2] => { results := [.lit (.bool true)], args := [d1, d2] }
  | _ => none }
def fdbNewRow : OpenClaim := { program := "ytfncoeoaniclmaa", sum := "5a27b751fa67dba5e582a249782ce03896ab2f16980978f9fe9c16f2ff27462e", func := "ford/fordlaw07.FdbNew", spec := "fdbNew", unfollowed := true, recurses := true, apart := false }
def FdbNewSaid : Prop := fdbNewRow.holds Try.pinned (OpenSpec.ofChange fdbNewSpec)

/-- ITS FALSE NEIGHBOUR: 'it returns false'. Refute it at one input. -/
def fdbNewWrong : ChangeSpec := { name := "fdbNew", fn := fun _ => fun
  | [d1, d2] => { results := [.lit (.bool false)], args := [d1, d2] }
  | _ => none }
def FdbNewWrongFalsely : Prop := fdbNewRow.holds Try.pinned (OpenSpec.ofChange fdbNewWrong)

/-- 'fordlaw07.FdbBound': WHATEVER THE INPUT: true; the input reads as it did. -/
def fdbBoundSpec : ChangeSpec := { name := "fdbBound", fn := fun _ => fun
  | [d1, d2, d3] => { results := [.lit (.bool true)], args := [d1, d2, d3] }
  | _ => none }
def fdbBoundRow : OpenClaim := { program := "ytfncoeoaniclmaa", sum := "5a27b751fa67dba5e582a249782ce03896ab2f16980978f9fe9c16f2ff27462e", func := "ford/fordlaw07.FdbBound", spec := "fdbBound", unfollowed := true, recurses := true, apart := false }
def FdbBoundSaid : Prop := fdbBoundRow.holds Try.pinned (OpenSpec.ofChange fdbBoundSpec)

/-- ITS FALSE NEIGHBOUR: 'it returns false'. Refute it at one input. -/
def fdbBoundWrong : ChangeSpec := { name := "fdbBound", fn := fun _ => fun
  | [d1, d2, d3] => { results := [.lit (.bool false)], args := [d1, d2, d3] }
  | _ => none }
def FdbBoundWrongFalsely : Prop := fdbBoundRow.holds Try.pinned (OpenSpec.ofChange fdbBoundWrong)

/-- 'fordlaw07.FdbFull': WHATEVER THE INPUT: true; the input reads as it did. -/
def fdbFullSpec : ChangeSpec := { name := "fdbFull", fn := fun _ => fun
  | [d1, d2] => { results := [.lit (.bool true)], args := [d1, d2] }
  | _ => none }
def fdbFullRow : OpenClaim := { program := "ytfncoeoaniclmaa", sum := "5a27b751fa67dba5e582a249782ce03896ab2f16980978f9fe9c16f2ff27462e", func := "ford/fordlaw07.FdbFull", spec := "fdbFull", unfollowed := true, recurses := true, apart := false }
def FdbFullSaid : Prop := fdbFullRow.holds Try.pinned (OpenSpec.ofChange fdbFullSpec)

/-- ITS FALSE NEIGHBOUR: 'it returns false'. Refute it at one input. -/
def fdbFullWrong : ChangeSpec := { name := "fdbFull", fn := fun _ => fun
  | [d1, d2] => { results := [.lit (.bool false)], args := [d1, d2] }
  | _ => none }
def FdbFullWrongFalsely : Prop := fdbFullRow.holds Try.pinned (OpenSpec.ofChange fdbFullWrong)

/-- 'fordlaw07.FdbAges': WHATEVER THE INPUT: true; the input reads as it did. -/
def fdbAgesSpec : ChangeSpec := { name := "fdbAges", fn := fun _ => fun
  | [d1, d2, d3, d4] => { results := [.lit (.bool true)], args := [d1, d2, d3, d4] }
  | _ => none }
def fdbAgesRow : OpenClaim := { program := "ytfncoeoaniclmaa", sum := "5a27b751fa67dba5e582a249782ce03896ab2f16980978f9fe9c16f2ff27462e", func := "ford/fordlaw07.FdbAges", spec := "fdbAges", unfollowed := true, recurses := true, apart := false }
def FdbAgesSaid : Prop := fdbAgesRow.holds Try.pinned (OpenSpec.ofChange fdbAgesSpec)

/-- ITS FALSE NEIGHBOUR: 'it returns false'. Refute it at one input. -/
def fdbAgesWrong : ChangeSpec := { name := "fdbAges", fn := fun _ => fun
  | [d1, d2, d3, d4] => { results := [.lit (.bool false)], args := [d1, d2, d3, d4] }
  | _ => none }
def FdbAgesWrongFalsely : Prop := fdbAgesRow.holds Try.pinned (OpenSpec.ofChange fdbAgesWrong)

/-- 'fordlaw07.FdbPlays': WHATEVER THE INPUT: true; the input reads as it did. -/
def fdbPlaysSpec : ChangeSpec := { name := "fdbPlays", fn := fun _ => fun
  | [d1, d2, d3] => { results := [.lit (.bool true)], args := [d1, d2, d3] }
  | _ => none }
def fdbPlaysRow : OpenClaim := { program := "ytfncoeoaniclmaa", sum := "5a27b751fa67dba5e582a249782ce03896ab2f16980978f9fe9c16f2ff27462e", func := "ford/fordlaw07.FdbPlays", spec := "fdbPlays", unfollowed := true, recurses := true, apart := false }
def FdbPlaysSaid : Prop := fdbPlaysRow.holds Try.pinned (OpenSpec.ofChange fdbPlaysSpec)

/-- ITS FALSE NEIGHBOUR: 'it returns false'. Refute it at one input. -/
def fdbPlaysWrong : ChangeSpec := { name := "fdbPlays", fn := fun _ => fun
  | [d1, d2, d3] => { results := [.lit (.bool false)], args := [d1, d2, d3] }
  | _ => none }
def FdbPlaysWrongFalsely : Prop := fdbPlaysRow.holds Try.pinned (OpenSpec.ofChange fdbPlaysWrong)

/-- 'fordlaw07.FdbPorts': WHATEVER THE INPUT: true; the input reads as it did. -/
def fdbPortsSpec : ChangeSpec := { name := "fdbPorts", fn := fun _ => fun
  | [d1, d2] => { results := [.lit (.bool true)], args := [d1, d2] }
  | _ => none }
def fdbPortsRow : OpenClaim := { program := "ytfncoeoaniclmaa", sum := "5a27b751fa67dba5e582a249782ce03896ab2f16980978f9fe9c16f2ff27462e", func := "ford/fordlaw07.FdbPorts", spec := "fdbPorts", unfollowed := true, recurses := true, apart := false }
def FdbPortsSaid : Prop := fdbPortsRow.holds Try.pinned (OpenSpec.ofChange fdbPortsSpec)

/-- ITS FALSE NEIGHBOUR: 'it returns false'. Refute it at one input. -/
def fdbPortsWrong : ChangeSpec := { name := "fdbPorts", fn := fun _ => fun
  | [d1, d2] => { results := [.lit (.bool false)], args := [d1, d2] }
  | _ => none }
def FdbPortsWrongFalsely : Prop := fdbPortsRow.holds Try.pinned (OpenSpec.ofChange fdbPortsWrong)

/-- 'fordlaw07.FdbClones': WHATEVER THE INPUT: true; the input reads as it did. -/
def fdbClonesSpec : ChangeSpec := { name := "fdbClones", fn := fun _ => fun
  | [d1, d2, d3] => { results := [.lit (.bool true)], args := [d1, d2, d3] }
  | _ => none }
def fdbClonesRow : OpenClaim := { program := "ytfncoeoaniclmaa", sum := "5a27b751fa67dba5e582a249782ce03896ab2f16980978f9fe9c16f2ff27462e", func := "ford/fordlaw07.FdbClones", spec := "fdbClones", inPlace := ["maps.clone"], unfollowed := true, recurses := true, apart := false }
def FdbClonesSaid : Prop := fdbClonesRow.holds Try.pinned (OpenSpec.ofChange fdbClonesSpec)

/-- ITS FALSE NEIGHBOUR: 'it returns false'. Refute it at one input. -/
def fdbClonesWrong : ChangeSpec := { name := "fdbClones", fn := fun _ => fun
  | [d1, d2, d3] => { results := [.lit (.bool false)], args := [d1, d2, d3] }
  | _ => none }
def FdbClonesWrongFalsely : Prop := fdbClonesRow.holds Try.pinned (OpenSpec.ofChange fdbClonesWrong)

/-- 'fordlaw19.RelayNever': WHATEVER THE INPUT: true; the input reads as it did. -/
def relayNeverSpec : ChangeSpec := { name := "relayNever", fn := fun _ => fun
  | [d1, d2] => { results := [.lit (.bool true)], args := [d1, d2] }
  | _ => none }
def relayNeverRow : OpenClaim := { program := "ytfncoeoaniclmaa", sum := "5a27b751fa67dba5e582a249782ce03896ab2f16980978f9fe9c16f2ff27462e", func := "ford/fordlaw19.RelayNever", spec := "relayNever", unfollowed := true, recurses := true, apart := false }
def RelayNeverSaid : Prop := relayNeverRow.holds Try.pinned (OpenSpec.ofChange relayNeverSpec)

/-- ITS FALSE NEIGHBOUR: 'it returns false'. Refute it at one input. -/
def relayNeverWrong : ChangeSpec := { name := "relayNever", fn := fun _ => fun
  | [d1, d2] => { results := [.lit (.bool false)], args := [d1, d2] }
  | _ => none }
def RelayNeverWrongFalsely : Prop := relayNeverRow.holds Try.pinned (OpenSpec.ofChange relayNeverWrong)

/-- 'fordlaw19.RelayLearns': WHATEVER THE INPUT: true; the input reads as it did. -/
def relayLearnsSpec : ChangeSpec := { name := "relayLearns", fn := fun _ => fun
  | [d1, d2, d3, d4, d5] => { results := [.lit (.bool true)], args := [d1, d2, d3, d4, d5] }
  | _ => none }
def relayLearnsRow : OpenClaim := { program := "ytfncoeoaniclmaa", sum := "5a27b751fa67dba5e582a249782ce03896ab2f16980978f9fe9c16f2ff27462e", func := "ford/fordlaw19.RelayLearns", spec := "relayLearns", unfollowed := true, recurses := true, apart := false }
def RelayLearnsSaid : Prop := relayLearnsRow.holds Try.pinned (OpenSpec.ofChange relayLearnsSpec)

/-- ITS FALSE NEIGHBOUR: 'it returns false'. Refute it at one input. -/
def relayLearnsWrong : ChangeSpec := { name := "relayLearns", fn := fun _ => fun
  | [d1, d2, d3, d4, d5] => { results := [.lit (.bool false)], args := [d1, d2, d3, d4, d5] }
  | _ => none }
def RelayLearnsWrongFalsely : Prop := relayLearnsRow.holds Try.pinned (OpenSpec.ofChange relayLearnsWrong)

/-- 'fordlaw19.RelayAlone': WHATEVER THE INPUT: true; the input reads as it did. -/
def relayAloneSpec : ChangeSpec := { name := "relayAlone", fn := fun _ => fun
  | [d1, d2, d3, d4, d5] => { results := [.lit (.bool true)], args := [d1, d2, d3, d4, d5] }
  | _ => none }
def relayAloneRow : OpenClaim := { program := "ytfncoeoaniclmaa", sum := "5a27b751fa67dba5e582a249782ce03896ab2f16980978f9fe9c16f2ff27462e", func := "ford/fordlaw19.RelayAlone", spec := "relayAlone", unfollowed := true, recurses := true, apart := false }
def RelayAloneSaid : Prop := relayAloneRow.holds Try.pinned (OpenSpec.ofChange relayAloneSpec)

/-- ITS FALSE NEIGHBOUR: 'it returns false'. Refute it at one input. -/
def relayAloneWrong : ChangeSpec := { name := "relayAlone", fn := fun _ => fun
  | [d1, d2, d3, d4, d5] => { results := [.lit (.bool false)], args := [d1, d2, d3, d4, d5] }
  | _ => none }
def RelayAloneWrongFalsely : Prop := relayAloneRow.holds Try.pinned (OpenSpec.ofChange relayAloneWrong)

/-- 'fordlaw19.RelayAgain': WHATEVER THE INPUT: true; the input reads as it did. -/
def relayAgainSpec : ChangeSpec := { name := "relayAgain", fn := fun _ => fun
  | [d1, d2] => { results := [.lit (.bool true)], args := [d1, d2] }
  | _ => none }
def relayAgainRow : OpenClaim := { program := "ytfncoeoaniclmaa", sum := "5a27b751fa67dba5e582a249782ce03896ab2f16980978f9fe9c16f2ff27462e", func := "ford/fordlaw19.RelayAgain", spec := "relayAgain", unfollowed := true, recurses := true, apart := false }
def RelayAgainSaid : Prop := relayAgainRow.holds Try.pinned (OpenSpec.ofChange relayAgainSpec)

/-- ITS FALSE NEIGHBOUR: 'it returns false'. Refute it at one input. -/
def relayAgainWrong : ChangeSpec := { name := "relayAgain", fn := fun _ => fun
  | [d1, d2] => { results := [.lit (.bool false)], args := [d1, d2] }
  | _ => none }
def RelayAgainWrongFalsely : Prop := relayAgainRow.holds Try.pinned (OpenSpec.ofChange relayAgainWrong)

/-- 'fordlaw19.RelayGoes': WHATEVER THE INPUT: true; the input reads as it did. -/
def relayGoesSpec : ChangeSpec := { name := "relayGoes", fn := fun _ => fun
  | [d1, d2, d3] => { results := [.lit (.bool true)], args := [d1, d2, d3] }
  | _ => none }
def relayGoesRow : OpenClaim := { program := "ytfncoeoaniclmaa", sum := "5a27b751fa67dba5e582a249782ce03896ab2f16980978f9fe9c16f2ff27462e", func := "ford/fordlaw19.RelayGoes", spec := "relayGoes", unfollowed := true, recurses := true, apart := false }
def RelayGoesSaid : Prop := relayGoesRow.holds Try.pinned (OpenSpec.ofChange relayGoesSpec)

/-- ITS FALSE NEIGHBOUR: 'it returns false'. Refute it at one input. -/
def relayGoesWrong : ChangeSpec := { name := "relayGoes", fn := fun _ => fun
  | [d1, d2, d3] => { results := [.lit (.bool false)], args := [d1, d2, d3] }
  | _ => none }
def RelayGoesWrongFalsely : Prop := relayGoesRow.holds Try.pinned (OpenSpec.ofChange relayGoesWrong)

/- THE SECOND FORM. 'bulk': how many values and letters a reading holds, each counted each time it is reached (what is shared counts as often as it is met; a slice's spare places count too). A statement '..UptoSaid' is the law's where the arguments, and the package variables that the reading takes, are together of bulk at most 1048576: NARROWER than '..Said'. Prove '..Said' where nothing that the law and all that it calls make is longer than what came in: it says more and counts as full. Else prove '..UptoSaid'. A law counts once. -/
mutual
def uptoBulk {H : Type} : DataW H → Nat
  | .lit (.string bytes) => bytes.length + 1
  | .lit _ => 1
  | .nil => 1
  | .ptr d => uptoBulk d + 1
  | .slice elems spare => uptoBulkAll elems + uptoBulkAll spare + 1
  | .agg parts => uptoBulkAll parts + 1
  | .iface _ d => uptoBulk d + 1
  | .map entries => uptoBulkEntries entries + 1
  | .held _ => 1
def uptoBulkAll {H : Type} : List (DataW H) → Nat
  | [] => 0
  | d :: r => uptoBulk d + uptoBulkAll r
def uptoBulkEntries {H : Type} : List (Lit × DataW H) → Nat
  | [] => 0
  | x :: r => uptoBulkEntry x + uptoBulkEntries r
def uptoBulkEntry {H : Type} : Lit × DataW H → Nat
  | (.string bytes, d) => bytes.length + uptoBulk d + 1
  | (_, d) => uptoBulk d + 1
 end
def uptoSmall : (H : Type) → List (DataW H) → Bool := fun _ ds => decide (uptoBulkAll ds ≤ 1048576)
def OpenSpec.upto (s : _root_.Go.ChangeSpec) : _root_.Go.OpenSpec := { _root_.Go.OpenSpec.ofChange s with cond := some uptoSmall }

/-- 'fordlaw07.FdbNew', WHERE WHAT IT READS IS OF BULK AT MOST 1048576: true; the input reads as it did. -/
def fdbNewUptoRow : OpenClaim := { program := "ytfncoeoaniclmaa", sum := "5a27b751fa67dba5e582a249782ce03896ab2f16980978f9fe9c16f2ff27462e", func := "ford/fordlaw07.FdbNew", spec := "fdbNew", unfollowed := true, recurses := true, apart := false, narrowed := true }
def FdbNewUptoSaid : Prop := fdbNewUptoRow.holds Try.pinned (OpenSpec.upto fdbNewSpec)

/-- 'fordlaw07.FdbBound', WHERE WHAT IT READS IS OF BULK AT MOST 1048576: true; the input reads as it did. -/
def fdbBoundUptoRow : OpenClaim := { program := "ytfncoeoaniclmaa", sum := "5a27b751fa67dba5e582a249782ce03896ab2f16980978f9fe9c16f2ff27462e", func := "ford/fordlaw07.FdbBound", spec := "fdbBound", unfollowed := true, recurses := true, apart := false, narrowed := true }
def FdbBoundUptoSaid : Prop := fdbBoundUptoRow.holds Try.pinned (OpenSpec.upto fdbBoundSpec)

/-- 'fordlaw07.FdbFull', WHERE WHAT IT READS IS OF BULK AT MOST 1048576: true; the input reads as it did. -/
def fdbFullUptoRow : OpenClaim := { program := "ytfncoeoaniclmaa", sum := "5a27b751fa67dba5e582a249782ce03896ab2f16980978f9fe9c16f2ff27462e", func := "ford/fordlaw07.FdbFull", spec := "fdbFull", unfollowed := true, recurses := true, apart := false, narrowed := true }
def FdbFullUptoSaid : Prop := fdbFullUptoRow.holds Try.pinned (OpenSpec.upto fdbFullSpec)

/-- 'fordlaw07.FdbAges', WHERE WHAT IT READS IS OF BULK AT MOST 1048576: true; the input reads as it did. -/
def fdbAgesUptoRow : OpenClaim := { program := "ytfncoeoaniclmaa", sum := "5a27b751fa67dba5e582a249782ce03896ab2f16980978f9fe9c16f2ff27462e", func := "ford/fordlaw07.FdbAges", spec := "fdbAges", unfollowed := true, recurses := true, apart := false, narrowed := true }
def FdbAgesUptoSaid : Prop := fdbAgesUptoRow.holds Try.pinned (OpenSpec.upto fdbAgesSpec)

/-- 'fordlaw07.FdbPlays', WHERE WHAT IT READS IS OF BULK AT MOST 1048576: true; the input reads as it did. -/
def fdbPlaysUptoRow : OpenClaim := { program := "ytfncoeoaniclmaa", sum := "5a27b751fa67dba5e582a249782ce03896ab2f16980978f9fe9c16f2ff27462e", func := "ford/fordlaw07.FdbPlays", spec := "fdbPlays", unfollowed := true, recurses := true, apart := false, narrowed := true }
def FdbPlaysUptoSaid : Prop := fdbPlaysUptoRow.holds Try.pinned (OpenSpec.upto fdbPlaysSpec)

/-- 'fordlaw07.FdbPorts', WHERE WHAT IT READS IS OF BULK AT MOST 1048576: true; the input reads as it did. -/
def fdbPortsUptoRow : OpenClaim := { program := "ytfncoeoaniclmaa", sum := "5a27b751fa67dba5e582a249782ce03896ab2f16980978f9fe9c16f2ff27462e", func := "ford/fordlaw07.FdbPorts", spec := "fdbPorts", unfollowed := true, recurses := true, apart := false, narrowed := true }
def FdbPortsUptoSaid : Prop := fdbPortsUptoRow.holds Try.pinned (OpenSpec.upto fdbPortsSpec)

/-- 'fordlaw07.FdbClones', WHERE WHAT IT READS IS OF BULK AT MOST 1048576: true; the input reads as it did. -/
def fdbClonesUptoRow : OpenClaim := { program := "ytfncoeoaniclmaa", sum := "5a27b751fa67dba5e582a249782ce03896ab2f16980978f9fe9c16f2ff27462e", func := "ford/fordlaw07.FdbClones", spec := "fdbClones", inPlace := ["maps.clone"], unfollowed := true, recurses := true, apart := false, narrowed := true }
def FdbClonesUptoSaid : Prop := fdbClonesUptoRow.holds Try.pinned (OpenSpec.upto fdbClonesSpec)

/-- 'fordlaw19.RelayNever', WHERE WHAT IT READS IS OF BULK AT MOST 1048576: true; the input reads as it did. -/
def relayNeverUptoRow : OpenClaim := { program := "ytfncoeoaniclmaa", sum := "5a27b751fa67dba5e582a249782ce03896ab2f16980978f9fe9c16f2ff27462e", func := "ford/fordlaw19.RelayNever", spec := "relayNever", unfollowed := true, recurses := true, apart := false, narrowed := true }
def RelayNeverUptoSaid : Prop := relayNeverUptoRow.holds Try.pinned (OpenSpec.upto relayNeverSpec)

/-- 'fordlaw19.RelayLearns', WHERE WHAT IT READS IS OF BULK AT MOST 1048576: true; the input reads as it did. -/
def relayLearnsUptoRow : OpenClaim := { program := "ytfncoeoaniclmaa", sum := "5a27b751fa67dba5e582a249782ce03896ab2f16980978f9fe9c16f2ff27462e", func := "ford/fordlaw19.RelayLearns", spec := "relayLearns", unfollowed := true, recurses := true, apart := false, narrowed := true }
def RelayLearnsUptoSaid : Prop := relayLearnsUptoRow.holds Try.pinned (OpenSpec.upto relayLearnsSpec)

/-- 'fordlaw19.RelayAlone', WHERE WHAT IT READS IS OF BULK AT MOST 1048576: true; the input reads as it did. -/
def relayAloneUptoRow : OpenClaim := { program := "ytfncoeoaniclmaa", sum := "5a27b751fa67dba5e582a249782ce03896ab2f16980978f9fe9c16f2ff27462e", func := "ford/fordlaw19.RelayAlone", spec := "relayAlone", unfollowed := true, recurses := true, apart := false, narrowed := true }
def RelayAloneUptoSaid : Prop := relayAloneUptoRow.holds Try.pinned (OpenSpec.upto relayAloneSpec)

/-- 'fordlaw19.RelayAgain', WHERE WHAT IT READS IS OF BULK AT MOST 1048576: true; the input reads as it did. -/
def relayAgainUptoRow : OpenClaim := { program := "ytfncoeoaniclmaa", sum := "5a27b751fa67dba5e582a249782ce03896ab2f16980978f9fe9c16f2ff27462e", func := "ford/fordlaw19.RelayAgain", spec := "relayAgain", unfollowed := true, recurses := true, apart := false, narrowed := true }
def RelayAgainUptoSaid : Prop := relayAgainUptoRow.holds Try.pinned (OpenSpec.upto relayAgainSpec)

/-- 'fordlaw19.RelayGoes', WHERE WHAT IT READS IS OF BULK AT MOST 1048576: true; the input reads as it did. -/
def relayGoesUptoRow : OpenClaim := { program := "ytfncoeoaniclmaa", sum := "5a27b751fa67dba5e582a249782ce03896ab2f16980978f9fe9c16f2ff27462e", func := "ford/fordlaw19.RelayGoes", spec := "relayGoes", unfollowed := true, recurses := true, apart := false, narrowed := true }
def RelayGoesUptoSaid : Prop := relayGoesUptoRow.holds Try.pinned (OpenSpec.upto relayGoesSpec)

end Rows
end Go.Proofs.Ytfncoeoaniclmaa
