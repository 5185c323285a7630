/-
  No cell of these rows narrows 'for every input' (looked for: loops, veiled, ifaces, maps, wideKeys, modest, calm, conditions, laid).
  DERIVED. THE GIVEN ROWS OF THIS SEAT. 7 by the template 'for every input the law returns true; each argument reads behind the call as it read before'; 0 by the template 'total and deterministic' (their statements: YtjemfkoamfnofaaGreatTotals.lean).
  GIVEN WITH THE SEED: the statements are not yours to turn. If you find one false, say at which input.
  Laid BY PROGRAM, IN A SANDBOX (cutbox-rows.mjs): the forced cells as the released guide's own fill.sh prints them over the translation 4d468f1afa98f5ef… (all of the seat's roots in one cut). By AI agents, Wed Nov 11 2026. No macro, syntax, notation, axiom, sorry.
-/
import Derived.Test.YtjemfkoamfnofaaGreatChecked
import GoSem.Claim
import GoSem.ClaimJoined
import GoSem.ClaimMapViews
import Derived.JoinedTies
import Derived.KernelRfl
namespace Go.Proofs.YtjemfkoamfnofaaGreat
/- THE CELL 'sum', in the pinned program and in every row, IS THE sha256 OF THE DUMP (.gsa) THAT YtjemfkoamfnofaaGreatProg.lean LOADS. Nothing in Lean hashes anything: it is a label: what it is worth is what the hold of that sum in a sandbox is worth. -/
noncomputable def Tryz.pinned : Pinned := { name := "ytjemfkoamfnofaagreat", sum := "4d468f1afa98f5efea56b946b4e92fcbc8bdcd8df892229c0090d1789f592cfb", checked := Tryz.checked }
namespace Rows
def none {H : Type} : Left H := { results := [], args := [] }

/-- 'fordlaw18.BridgeNew': WHATEVER THE INPUT: true; the input reads as it did. -/
def bridgeNewSpec : ChangeSpec := { name := "bridgeNew", fn := fun _ => fun
  | [d1, d2, d3, d4, d5] => { results := [.lit (.bool true)], args := [d1, d2, d3, d4, d5] }
  | _ => none }
def bridgeNewRow : OpenClaim := { program := "ytjemfkoamfnofaagreat", sum := "4d468f1afa98f5efea56b946b4e92fcbc8bdcd8df892229c0090d1789f592cfb", func := "ford/fordlaw18.BridgeNew", spec := "bridgeNew", unfollowed := true, recurses := true, apart := false }
def BridgeNewSaid : Prop := bridgeNewRow.holds Tryz.pinned (OpenSpec.ofChange bridgeNewSpec)

/-- ITS FALSE NEIGHBOUR: 'it returns false'. Refute it at one input. -/
def bridgeNewWrong : ChangeSpec := { name := "bridgeNew", fn := fun _ => fun
  | [d1, d2, d3, d4, d5] => { results := [.lit (.bool false)], args := [d1, d2, d3, d4, d5] }
  | _ => none }
def BridgeNewWrongFalsely : Prop := bridgeNewRow.holds Tryz.pinned (OpenSpec.ofChange bridgeNewWrong)

/-- 'fordlaw18.BridgeRests': WHATEVER THE INPUT: true; the input reads as it did. -/
def bridgeRestsSpec : ChangeSpec := { name := "bridgeRests", fn := fun _ => fun
  | [d1, d2, d3] => { results := [.lit (.bool true)], args := [d1, d2, d3] }
  | _ => none }
def bridgeRestsRow : OpenClaim := { program := "ytjemfkoamfnofaagreat", sum := "4d468f1afa98f5efea56b946b4e92fcbc8bdcd8df892229c0090d1789f592cfb", func := "ford/fordlaw18.BridgeRests", spec := "bridgeRests", unfollowed := true, recurses := true, apart := false }
def BridgeRestsSaid : Prop := bridgeRestsRow.holds Tryz.pinned (OpenSpec.ofChange bridgeRestsSpec)

/-- ITS FALSE NEIGHBOUR: 'it returns false'. Refute it at one input. -/
def bridgeRestsWrong : ChangeSpec := { name := "bridgeRests", fn := fun _ => fun
  | [d1, d2, d3] => { results := [.lit (.bool false)], args := [d1, d2, d3] }
  | _ => none }
def BridgeRestsWrongFalsely : Prop := bridgeRestsRow.holds Tryz.pinned (OpenSpec.ofChange bridgeRestsWrong)

/-- 'fordlaw18.BridgeAlone': WHATEVER THE INPUT: true; the input reads as it did. -/
def bridgeAloneSpec : ChangeSpec := { name := "bridgeAlone", fn := fun _ => fun
  | [d1, d2, d3] => { results := [.lit (.bool true)], args := [d1, d2, d3] }
  | _ => none }
def bridgeAloneRow : OpenClaim := { program := "ytjemfkoamfnofaagreat", sum := "4d468f1afa98f5efea56b946b4e92fcbc8bdcd8df892229c0090d1789f592cfb", func := "ford/fordlaw18.BridgeAlone", spec := "bridgeAlone", unfollowed := true, recurses := true, apart := false }
def BridgeAloneSaid : Prop := bridgeAloneRow.holds Tryz.pinned (OpenSpec.ofChange bridgeAloneSpec)

/-- ITS FALSE NEIGHBOUR: 'it returns false'. Refute it at one input. -/
def bridgeAloneWrong : ChangeSpec := { name := "bridgeAlone", fn := fun _ => fun
  | [d1, d2, d3] => { results := [.lit (.bool false)], args := [d1, d2, d3] }
  | _ => none }
def BridgeAloneWrongFalsely : Prop := bridgeAloneRow.holds Tryz.pinned (OpenSpec.ofChange bridgeAloneWrong)

/-- 'fordlaw18.BridgeBetter': WHATEVER THE INPUT: true; the input reads as it did. -/
def bridgeBetterSpec : ChangeSpec := { name := "bridgeBetter", fn := fun _ => fun
  | [d1, d2, d3, d4, d5] => { results := [.lit (.bool true)], args := [d1, d2, d3, d4, d5] }
  | _ => none }
def bridgeBetterRow : OpenClaim := { program := "ytjemfkoamfnofaagreat", sum := "4d468f1afa98f5efea56b946b4e92fcbc8bdcd8df892229c0090d1789f592cfb", func := "ford/fordlaw18.BridgeBetter", spec := "bridgeBetter", unfollowed := true, recurses := true, apart := false }
def BridgeBetterSaid : Prop := bridgeBetterRow.holds Tryz.pinned (OpenSpec.ofChange bridgeBetterSpec)

/-- ITS FALSE NEIGHBOUR: 'it returns false'. Refute it at one input. -/
def bridgeBetterWrong : ChangeSpec := { name := "bridgeBetter", fn := fun _ => fun
  | [d1, d2, d3, d4, d5] => { results := [.lit (.bool false)], args := [d1, d2, d3, d4, d5] }
  | _ => none }
def BridgeBetterWrongFalsely : Prop := bridgeBetterRow.holds Tryz.pinned (OpenSpec.ofChange bridgeBetterWrong)

/-- 'fordlaw18.BridgeRange': WHATEVER THE INPUT: true; the input reads as it did. -/
def bridgeRangeSpec : ChangeSpec := { name := "bridgeRange", fn := fun _ => fun
  | [d1, d2, d3] => { results := [.lit (.bool true)], args := [d1, d2, d3] }
  | _ => none }
def bridgeRangeRow : OpenClaim := { program := "ytjemfkoamfnofaagreat", sum := "4d468f1afa98f5efea56b946b4e92fcbc8bdcd8df892229c0090d1789f592cfb", func := "ford/fordlaw18.BridgeRange", spec := "bridgeRange", unfollowed := true, recurses := true, apart := false }
def BridgeRangeSaid : Prop := bridgeRangeRow.holds Tryz.pinned (OpenSpec.ofChange bridgeRangeSpec)

/-- ITS FALSE NEIGHBOUR: 'it returns false'. Refute it at one input. -/
def bridgeRangeWrong : ChangeSpec := { name := "bridgeRange", fn := fun _ => fun
  | [d1, d2, d3] => { results := [.lit (.bool false)], args := [d1, d2, d3] }
  | _ => none }
def BridgeRangeWrongFalsely : Prop := bridgeRangeRow.holds Tryz.pinned (OpenSpec.ofChange bridgeRangeWrong)

/-- 'fordlaw18.BridgeDown': WHATEVER THE INPUT: true; the input reads as it did. -/
def bridgeDownSpec : ChangeSpec := { name := "bridgeDown", fn := fun _ => fun
  | [d1, d2, d3, d4] => { results := [.lit (.bool true)], args := [d1, d2, d3, d4] }
  | _ => none }
def bridgeDownRow : OpenClaim := { program := "ytjemfkoamfnofaagreat", sum := "4d468f1afa98f5efea56b946b4e92fcbc8bdcd8df892229c0090d1789f592cfb", func := "ford/fordlaw18.BridgeDown", spec := "bridgeDown", unfollowed := true, recurses := true, apart := false }
def BridgeDownSaid : Prop := bridgeDownRow.holds Tryz.pinned (OpenSpec.ofChange bridgeDownSpec)

/-- ITS FALSE NEIGHBOUR: 'it returns false'. Refute it at one input. -/
def bridgeDownWrong : ChangeSpec := { name := "bridgeDown", fn := fun _ => fun
  | [d1, d2, d3, d4] => { results := [.lit (.bool false)], args := [d1, d2, d3, d4] }
  | _ => none }
def BridgeDownWrongFalsely : Prop := bridgeDownRow.holds Tryz.pinned (OpenSpec.ofChange bridgeDownWrong)

/-- 'fordlaw18.BridgeHold': WHATEVER THE INPUT: true; the input reads as it did. -/
def bridgeHoldSpec : ChangeSpec := { name := "bridgeHold", fn := fun _ => fun
  | [d1, d2, d3] => { results := [.lit (.bool true)], args := [d1, d2, d3] }
  | _ => none }
def bridgeHoldRow : OpenClaim := { program := "ytjemfkoamfnofaagreat", sum := "4d468f1afa98f5efea56b946b4e92fcbc8bdcd8df892229c0090d1789f592cfb", func := "ford/fordlaw18.BridgeHold", spec := "bridgeHold", unfollowed := true, recurses := true, apart := false }
def BridgeHoldSaid : Prop := bridgeHoldRow.holds Tryz.pinned (OpenSpec.ofChange bridgeHoldSpec)

/-- ITS FALSE NEIGHBOUR: 'it returns false'. Refute it at one input. -/
def bridgeHoldWrong : ChangeSpec := { name := "bridgeHold", fn := fun _ => fun
  | [d1, d2, d3] => { results := [.lit (.bool false)], args := [d1, d2, d3] }
  | _ => none }
def BridgeHoldWrongFalsely : Prop := bridgeHoldRow.holds Tryz.pinned (OpenSpec.ofChange bridgeHoldWrong)

/- THE SECOND FORM. 'bulk': how many values and letters a reading holds, each counted each time it is reached (what is shared counts as often as it is met; a slice's spare places count too). A statement '..UptoSaid' is the law's where the arguments, and the package variables that the reading takes, are together of bulk at most 1048576: NARROWER than '..Said'. Prove '..Said' where nothing that the law and all that it calls make is longer than what came in: it says more and counts as full. Else prove '..UptoSaid'. A law counts once. -/
mutual
def uptoBulk {H : Type} : DataW H → Nat
  | .lit (.string bytes) => bytes.length + 1
  | .lit _ => 1
  | .nil => 1
  | .ptr d => uptoBulk d + 1
  | .slice elems spare => uptoBulkAll elems + uptoBulkAll spare + 1
  | .agg parts => uptoBulkAll parts + 1
  | .iface _ d => uptoBulk d + 1
  | .map entries => uptoBulkEntries entries + 1
  | .held _ => 1
def uptoBulkAll {H : Type} : List (DataW H) → Nat
  | [] => 0
  | d :: r => uptoBulk d + uptoBulkAll r
def uptoBulkEntries {H : Type} : List (Lit × DataW H) → Nat
  | [] => 0
  | x :: r => uptoBulkEntry x + uptoBulkEntries r
def uptoBulkEntry {H : Type} : Lit × DataW H → Nat
  | (.string bytes, d) => bytes.length + uptoBulk d + 1
  | (_, d) => uptoBulk d + 1
 end
def uptoSmall : (H : Type) → List (DataW H) → Bool := fun _ ds => decide (uptoBulkAll ds ≤ 1048576)
def OpenSpec.upto (s : _root_.Go.ChangeSpec) : _root_.Go.OpenSpec := { _root_.Go.OpenSpec.ofChange s with cond := some uptoSmall }

/-- 'fordlaw18.BridgeNew', WHERE WHAT IT READS IS OF BULK AT MOST 1048576: true; the input reads as it did. -/
def bridgeNewUptoRow : OpenClaim := { program := "ytjemfkoamfnofaagreat", sum := "4d468f1afa98f5efea56b946b4e92fcbc8bdcd8df892229c0090d1789f592cfb", func := "ford/fordlaw18.BridgeNew", spec := "bridgeNew", unfollowed := true, recurses := true, apart := false, narrowed := true }
def BridgeNewUptoSaid : Prop := bridgeNewUptoRow.holds Tryz.pinned (OpenSpec.upto bridgeNewSpec)

/-- 'fordlaw18.BridgeRests', WHERE WHAT IT READS IS OF BULK AT MOST 1048576: true; the input reads as it did. -/
def bridgeRestsUptoRow : OpenClaim := { program := "ytjemfkoamfnofaagreat", sum := "4d468f1afa98f5efea56b946b4e92fcbc8bdcd8df892229c0090d1789f592cfb", func := "ford/fordlaw18.BridgeRests", spec := "bridgeRests", unfollowed := true, recurses := true, apart := false, narrowed := true }
def BridgeRestsUptoSaid : Prop := bridgeRestsUptoRow.holds Tryz.pinned (OpenSpec.upto bridgeRestsSpec)

/-- 'fordlaw18.BridgeAlone', WHERE WHAT IT READS IS OF BULK AT MOST 1048576: true; the input reads as it did. -/
def bridgeAloneUptoRow : OpenClaim := { program := "ytjemfkoamfnofaagreat", sum := "4d468f1afa98f5efea56b946b4e92fcbc8bdcd8df892229c0090d1789f592cfb", func := "ford/fordlaw18.BridgeAlone", spec := "bridgeAlone", unfollowed := true, recurses := true, apart := false, narrowed := true }
def BridgeAloneUptoSaid : Prop := bridgeAloneUptoRow.holds Tryz.pinned (OpenSpec.upto bridgeAloneSpec)

/-- 'fordlaw18.BridgeBetter', WHERE WHAT IT READS IS OF BULK AT MOST 1048576: true; the input reads as it did. -/
def bridgeBetterUptoRow : OpenClaim := { program := "ytjemfkoamfnofaagreat", sum := "4d468f1afa98f5efea56b946b4e92fcbc8bdcd8df892229c0090d1789f592cfb", func := "ford/fordlaw18.BridgeBetter", spec := "bridgeBetter", unfollowed := true, recurses := true, apart := false, narrowed := true }
def BridgeBetterUptoSaid : Prop := bridgeBetterUptoRow.holds Tryz.pinned (OpenSpec.upto bridgeBetterSpec)

/-- 'fordlaw18.BridgeRange', WHERE WHAT IT READS IS OF BULK AT MOST 1048576: true; the input reads as it did. -/
def bridgeRangeUptoRow : OpenClaim := { program := "ytjemfkoamfnofaagreat", sum := "4d468f1afa98f5efea56b946b4e92fcbc8bdcd8df892229c0090d1789f592cfb", func := "ford/fordlaw18.BridgeRange", spec := "bridgeRange", unfollowed := true, recurses := true, apart := false, narrowed := true }
def BridgeRangeUptoSaid : Prop := bridgeRangeUptoRow.holds Tryz.pinned (OpenSpec.upto bridgeRangeSpec)

/-- 'fordlaw18.BridgeDown', WHERE WHAT IT READS IS OF BULK AT MOST 1048576: true; the input reads as it did. -/
def bridgeDownUptoRow : OpenClaim := { program := "ytjemfkoamfnofaagreat", sum := "4d468f1afa98f5efea56b946b4e92fcbc8bdcd8df892229c0090d1789f592cfb", func := "ford/fordlaw18.BridgeDown", spec := "bridgeDown", unfollowed := true, recurses := true, apart := false, narrowed := true }
def BridgeDownUptoSaid : Prop := bridgeDownUptoRow.holds Tryz.pinned (OpenSpec.upto bridgeDownSpec)

/-- 'fordlaw18.BridgeHold', WHERE WHAT IT READS IS OF BULK AT MOST 1048576: true; the input reads as it did. -/
def bridgeHoldUptoRow : OpenClaim := { program := "ytjemfkoamfnofaagreat", sum := "4d468f1afa98f5efea56b946b4e92fcbc8bdcd8df892229c0090d1789f592cfb", func := "ford/fordlaw18.BridgeHold", spec := "bridgeHold", unfollowed := true, recurses := true, apart := false, narrowed := true }
def BridgeHoldUptoSaid : Prop := bridgeHoldUptoRow.holds Tryz.pinned (OpenSpec.upto bridgeHoldSpec)

end Rows
end Go.Proofs.YtjemfkoamfnofaaGreat
