/-
  No cell of these rows narrows 'for every input' (looked for: loops, veiled, ifaces, maps, wideKeys, modest, calm, conditions, laid).
  DERIVED. THE GIVEN ROWS OF THIS SEAT. 17 by the template 'for every input the law returns true; each argument reads behind the call as it read before'; 0 by the template 'total and deterministic' (their statements: YthhdfidenigcaaaTotals.lean).
  GIVEN WITH THE SEED: the statements are not yours to turn. If you find one false, say at which input.
  Laid BY PROGRAM, IN A SANDBOX (cutbox-rows.mjs): the forced cells as the released guide's own fill.sh prints them over the translation f2a27c23c7b9a182… (all of the seat's roots in one cut). By AI agents, Wed Nov 11 2026. No macro, syntax, notation, axiom, sorry.
-/
import Derived.Test.YthhdfidenigcaaaChecked
import GoSem.Claim
import GoSem.ClaimJoined
import GoSem.ClaimMapViews
import Derived.JoinedTies
import Derived.KernelRfl
namespace Go.Proofs.Ythhdfidenigcaaa
/- THE CELL 'sum', in the pinned program and in every row, IS THE sha256 OF THE DUMP (.gsa) THAT YthhdfidenigcaaaProg.lean LOADS. Nothing in Lean hashes anything: it is a label: what it is worth is what the hold of that sum in a sandbox is worth. -/
noncomputable def Try.pinned : Pinned := { name := "ythhdfidenigcaaa", sum := "f2a27c23c7b9a18242881408e08f330e8a74006716751b0868d8479c2c833842", checked := Try.checked }
namespace Rows
def none {H : Type} : Left H := { results := [], args := [] }

/-- 'fordlaw03.VecOrder': WHATEVER THE INPUT: true; the input reads as it did. -/
def vecOrderSpec : ChangeSpec := { name := "vecOrder", fn := fun _ => fun
  | [d1, d2, d3] => { results := [.lit (.bool true)], args := [d1, d2, d3] }
  | _ => none }
def vecOrderRow : OpenClaim := { program := "ythhdfidenigcaaa", sum := "f2a27c23c7b9a18242881408e08f330e8a74006716751b0868d8479c2c833842", func := "ford/fordlaw03.VecOrder", spec := "vecOrder", unfollowed := true, recurses := true, apart := false }
def VecOrderSaid : Prop := vecOrderRow.holds Try.pinned (OpenSpec.ofChange vecOrderSpec)

/-- ITS FALSE NEIGHBOUR: 'it returns false'. Refute it at one input. -/
def vecOrderWrong : ChangeSpec := { name := "vecOrder", fn := fun _ => fun
  | [d1, d2, d3] => { results := [.lit (.bool false)], args := [d1, d2, d3] }
  | _ => none }
def VecOrderWrongFalsely : Prop := vecOrderRow.holds Try.pinned (OpenSpec.ofChange vecOrderWrong)

/-- 'fordlaw03.VecSmall': WHATEVER THE INPUT: true; the input reads as it did. -/
def vecSmallSpec : ChangeSpec := { name := "vecSmall", fn := fun _ => fun
  | [d1, d2] => { results := [.lit (.bool true)], args := [d1, d2] }
  | _ => none }
def vecSmallRow : OpenClaim := { program := "ythhdfidenigcaaa", sum := "f2a27c23c7b9a18242881408e08f330e8a74006716751b0868d8479c2c833842", func := "ford/fordlaw03.VecSmall", spec := "vecSmall", unfollowed := true, recurses := true, apart := false }
def VecSmallSaid : Prop := vecSmallRow.holds Try.pinned (OpenSpec.ofChange vecSmallSpec)

/-- ITS FALSE NEIGHBOUR: 'it returns false'. Refute it at one input. -/
def vecSmallWrong : ChangeSpec := { name := "vecSmall", fn := fun _ => fun
  | [d1, d2] => { results := [.lit (.bool false)], args := [d1, d2] }
  | _ => none }
def VecSmallWrongFalsely : Prop := vecSmallRow.holds Try.pinned (OpenSpec.ofChange vecSmallWrong)

/-- 'fordlaw03.VecThrough': WHATEVER THE INPUT: true; the input reads as it did. -/
def vecThroughSpec : ChangeSpec := { name := "vecThrough", fn := fun _ => fun
  | [d1, d2, d3, d4, d5] => { results := [.lit (.bool true)], args := [d1, d2, d3, d4, d5] }
  | _ => none }
def vecThroughRow : OpenClaim := { program := "ythhdfidenigcaaa", sum := "f2a27c23c7b9a18242881408e08f330e8a74006716751b0868d8479c2c833842", func := "ford/fordlaw03.VecThrough", spec := "vecThrough", unfollowed := true, recurses := true, apart := false }
def VecThroughSaid : Prop := vecThroughRow.holds Try.pinned (OpenSpec.ofChange vecThroughSpec)

/-- ITS FALSE NEIGHBOUR: 'it returns false'. Refute it at one input. -/
def vecThroughWrong : ChangeSpec := { name := "vecThrough", fn := fun _ => fun
  | [d1, d2, d3, d4, d5] => { results := [.lit (.bool false)], args := [d1, d2, d3, d4, d5] }
  | _ => none }
def VecThroughWrongFalsely : Prop := vecThroughRow.holds Try.pinned (OpenSpec.ofChange vecThroughWrong)

/-- 'fordlaw03.VecSuperior': WHATEVER THE INPUT: true; the input reads as it did. -/
def vecSuperiorSpec : ChangeSpec := { name := "vecSuperior", fn := fun _ => fun
  | [d1, d2] => { results := [.lit (.bool true)], args := [d1, d2] }
  | _ => none }
def vecSuperiorRow : OpenClaim := { program := "ythhdfidenigcaaa", sum := "f2a27c23c7b9a18242881408e08f330e8a74006716751b0868d8479c2c833842", func := "ford/fordlaw03.VecSuperior", spec := "vecSuperior", unfollowed := true, recurses := true, apart := false }
def VecSuperiorSaid : Prop := vecSuperiorRow.holds Try.pinned (OpenSpec.ofChange vecSuperiorSpec)

/-- ITS FALSE NEIGHBOUR: 'it returns false'. Refute it at one input. -/
def vecSuperiorWrong : ChangeSpec := { name := "vecSuperior", fn := fun _ => fun
  | [d1, d2] => { results := [.lit (.bool false)], args := [d1, d2] }
  | _ => none }
def VecSuperiorWrongFalsely : Prop := vecSuperiorRow.holds Try.pinned (OpenSpec.ofChange vecSuperiorWrong)

/-- 'fordlaw03.VecTells': WHATEVER THE INPUT: true; the input reads as it did. -/
def vecTellsSpec : ChangeSpec := { name := "vecTells", fn := fun _ => fun
  | [d1, d2, d3, d4] => { results := [.lit (.bool true)], args := [d1, d2, d3, d4] }
  | _ => none }
def vecTellsRow : OpenClaim := { program := "ythhdfidenigcaaa", sum := "f2a27c23c7b9a18242881408e08f330e8a74006716751b0868d8479c2c833842", func := "ford/fordlaw03.VecTells", spec := "vecTells", unfollowed := true, recurses := true, apart := false }
def VecTellsSaid : Prop := vecTellsRow.holds Try.pinned (OpenSpec.ofChange vecTellsSpec)

/-- ITS FALSE NEIGHBOUR: 'it returns false'. Refute it at one input. -/
def vecTellsWrong : ChangeSpec := { name := "vecTells", fn := fun _ => fun
  | [d1, d2, d3, d4] => { results := [.lit (.bool false)], args := [d1, d2, d3, d4] }
  | _ => none }
def VecTellsWrongFalsely : Prop := vecTellsRow.holds Try.pinned (OpenSpec.ofChange vecTellsWrong)

/-- 'fordlaw14.SelSteps': WHATEVER THE INPUT: true; the input reads as it did. -/
def selStepsSpec : ChangeSpec := { name := "selSteps", fn := fun _ => fun
  | [d] => { results := [.lit (.bool true)], args := [d] }
  | _ => none }
def selStepsRow : OpenClaim := { program := "ythhdfidenigcaaa", sum := "f2a27c23c7b9a18242881408e08f330e8a74006716751b0868d8479c2c833842", func := "ford/fordlaw14.SelSteps", spec := "selSteps", unfollowed := true, recurses := true, apart := false }
def SelStepsSaid : Prop := selStepsRow.holds Try.pinned (OpenSpec.ofChange selStepsSpec)

/-- ITS FALSE NEIGHBOUR: 'it returns false'. Refute it at one input. -/
def selStepsWrong : ChangeSpec := { name := "selSteps", fn := fun _ => fun
  | [d] => { results := [.lit (.bool false)], args := [d] }
  | _ => none }
def SelStepsWrongFalsely : Prop := selStepsRow.holds Try.pinned (OpenSpec.ofChange selStepsWrong)

/-- 'fordlaw14.SelBest': WHATEVER THE INPUT: true; the input reads as it did. -/
def selBestSpec : ChangeSpec := { name := "selBest", fn := fun _ => fun
  | [d] => { results := [.lit (.bool true)], args := [d] }
  | _ => none }
def selBestRow : OpenClaim := { program := "ythhdfidenigcaaa", sum := "f2a27c23c7b9a18242881408e08f330e8a74006716751b0868d8479c2c833842", func := "ford/fordlaw14.SelBest", spec := "selBest", unfollowed := true, recurses := true, apart := false }
def SelBestSaid : Prop := selBestRow.holds Try.pinned (OpenSpec.ofChange selBestSpec)

/-- ITS FALSE NEIGHBOUR: 'it returns false'. Refute it at one input. -/
def selBestWrong : ChangeSpec := { name := "selBest", fn := fun _ => fun
  | [d] => { results := [.lit (.bool false)], args := [d] }
  | _ => none }
def SelBestWrongFalsely : Prop := selBestRow.holds Try.pinned (OpenSpec.ofChange selBestWrong)

/-- 'fordlaw14.SelAlone': WHATEVER THE INPUT: true; the input reads as it did. -/
def selAloneSpec : ChangeSpec := { name := "selAlone", fn := fun _ => fun
  | [d] => { results := [.lit (.bool true)], args := [d] }
  | _ => none }
def selAloneRow : OpenClaim := { program := "ythhdfidenigcaaa", sum := "f2a27c23c7b9a18242881408e08f330e8a74006716751b0868d8479c2c833842", func := "ford/fordlaw14.SelAlone", spec := "selAlone", unfollowed := true, recurses := true, apart := false }
def SelAloneSaid : Prop := selAloneRow.holds Try.pinned (OpenSpec.ofChange selAloneSpec)

/-- ITS FALSE NEIGHBOUR: 'it returns false'. Refute it at one input. -/
def selAloneWrong : ChangeSpec := { name := "selAlone", fn := fun _ => fun
  | [d] => { results := [.lit (.bool false)], args := [d] }
  | _ => none }
def SelAloneWrongFalsely : Prop := selAloneRow.holds Try.pinned (OpenSpec.ofChange selAloneWrong)

/-- 'fordlaw14.SelOffers': WHATEVER THE INPUT: true; the input reads as it did. -/
def selOffersSpec : ChangeSpec := { name := "selOffers", fn := fun _ => fun
  | [d1, d2] => { results := [.lit (.bool true)], args := [d1, d2] }
  | _ => none }
def selOffersRow : OpenClaim := { program := "ythhdfidenigcaaa", sum := "f2a27c23c7b9a18242881408e08f330e8a74006716751b0868d8479c2c833842", func := "ford/fordlaw14.SelOffers", spec := "selOffers", unfollowed := true, recurses := true, apart := false }
def SelOffersSaid : Prop := selOffersRow.holds Try.pinned (OpenSpec.ofChange selOffersSpec)

/-- ITS FALSE NEIGHBOUR: 'it returns false'. Refute it at one input. -/
def selOffersWrong : ChangeSpec := { name := "selOffers", fn := fun _ => fun
  | [d1, d2] => { results := [.lit (.bool false)], args := [d1, d2] }
  | _ => none }
def SelOffersWrongFalsely : Prop := selOffersRow.holds Try.pinned (OpenSpec.ofChange selOffersWrong)

/-- 'fordlaw14.SelTimes': WHATEVER THE INPUT: true; the input reads as it did. -/
def selTimesSpec : ChangeSpec := { name := "selTimes", fn := fun _ => fun
  | [d] => { results := [.lit (.bool true)], args := [d] }
  | _ => none }
def selTimesRow : OpenClaim := { program := "ythhdfidenigcaaa", sum := "f2a27c23c7b9a18242881408e08f330e8a74006716751b0868d8479c2c833842", func := "ford/fordlaw14.SelTimes", spec := "selTimes", unfollowed := true, recurses := true, apart := false }
def SelTimesSaid : Prop := selTimesRow.holds Try.pinned (OpenSpec.ofChange selTimesSpec)

/-- ITS FALSE NEIGHBOUR: 'it returns false'. Refute it at one input. -/
def selTimesWrong : ChangeSpec := { name := "selTimes", fn := fun _ => fun
  | [d] => { results := [.lit (.bool false)], args := [d] }
  | _ => none }
def SelTimesWrongFalsely : Prop := selTimesRow.holds Try.pinned (OpenSpec.ofChange selTimesWrong)

/-- 'fordlaw13.InfoSteps': WHATEVER THE INPUT: true; the input reads as it did. -/
def infoStepsSpec : ChangeSpec := { name := "infoSteps", fn := fun _ => fun
  | [d1, d2] => { results := [.lit (.bool true)], args := [d1, d2] }
  | _ => none }
def infoStepsRow : OpenClaim := { program := "ythhdfidenigcaaa", sum := "f2a27c23c7b9a18242881408e08f330e8a74006716751b0868d8479c2c833842", func := "ford/fordlaw13.InfoSteps", spec := "infoSteps", unfollowed := true, recurses := true, apart := false }
def InfoStepsSaid : Prop := infoStepsRow.holds Try.pinned (OpenSpec.ofChange infoStepsSpec)

/-- ITS FALSE NEIGHBOUR: 'it returns false'. Refute it at one input. -/
def infoStepsWrong : ChangeSpec := { name := "infoSteps", fn := fun _ => fun
  | [d1, d2] => { results := [.lit (.bool false)], args := [d1, d2] }
  | _ => none }
def InfoStepsWrongFalsely : Prop := infoStepsRow.holds Try.pinned (OpenSpec.ofChange infoStepsWrong)

/-- 'fordlaw13.InfoClass': WHATEVER THE INPUT: true; the input reads as it did. -/
def infoClassSpec : ChangeSpec := { name := "infoClass", fn := fun _ => fun
  | [d1, d2] => { results := [.lit (.bool true)], args := [d1, d2] }
  | _ => none }
def infoClassRow : OpenClaim := { program := "ythhdfidenigcaaa", sum := "f2a27c23c7b9a18242881408e08f330e8a74006716751b0868d8479c2c833842", func := "ford/fordlaw13.InfoClass", spec := "infoClass", unfollowed := true, recurses := true, apart := false }
def InfoClassSaid : Prop := infoClassRow.holds Try.pinned (OpenSpec.ofChange infoClassSpec)

/-- ITS FALSE NEIGHBOUR: 'it returns false'. Refute it at one input. -/
def infoClassWrong : ChangeSpec := { name := "infoClass", fn := fun _ => fun
  | [d1, d2] => { results := [.lit (.bool false)], args := [d1, d2] }
  | _ => none }
def InfoClassWrongFalsely : Prop := infoClassRow.holds Try.pinned (OpenSpec.ofChange infoClassWrong)

/-- 'fordlaw13.InfoHears': WHATEVER THE INPUT: true; the input reads as it did. -/
def infoHearsSpec : ChangeSpec := { name := "infoHears", fn := fun _ => fun
  | [d1, d2, d3] => { results := [.lit (.bool true)], args := [d1, d2, d3] }
  | _ => none }
def infoHearsRow : OpenClaim := { program := "ythhdfidenigcaaa", sum := "f2a27c23c7b9a18242881408e08f330e8a74006716751b0868d8479c2c833842", func := "ford/fordlaw13.InfoHears", spec := "infoHears", unfollowed := true, recurses := true, apart := false }
def InfoHearsSaid : Prop := infoHearsRow.holds Try.pinned (OpenSpec.ofChange infoHearsSpec)

/-- ITS FALSE NEIGHBOUR: 'it returns false'. Refute it at one input. -/
def infoHearsWrong : ChangeSpec := { name := "infoHears", fn := fun _ => fun
  | [d1, d2, d3] => { results := [.lit (.bool false)], args := [d1, d2, d3] }
  | _ => none }
def InfoHearsWrongFalsely : Prop := infoHearsRow.holds Try.pinned (OpenSpec.ofChange infoHearsWrong)

/-- 'fordlaw13.InfoAges': WHATEVER THE INPUT: true; the input reads as it did. -/
def infoAgesSpec : ChangeSpec := { name := "infoAges", fn := fun _ => fun
  | [d1, d2] => { results := [.lit (.bool true)], args := [d1, d2] }
  | _ => none }
def infoAgesRow : OpenClaim := { program := "ythhdfidenigcaaa", sum := "f2a27c23c7b9a18242881408e08f330e8a74006716751b0868d8479c2c833842", func := "ford/fordlaw13.InfoAges", spec := "infoAges", unfollowed := true, recurses := true, apart := false }
def InfoAgesSaid : Prop := infoAgesRow.holds Try.pinned (OpenSpec.ofChange infoAgesSpec)

/-- ITS FALSE NEIGHBOUR: 'it returns false'. Refute it at one input. -/
def infoAgesWrong : ChangeSpec := { name := "infoAges", fn := fun _ => fun
  | [d1, d2] => { results := [.lit (.bool false)], args := [d1, d2] }
  | _ => none }
def InfoAgesWrongFalsely : Prop := infoAgesRow.holds Try.pinned (OpenSpec.ofChange infoAgesWrong)

/-- 'fordlaw13.InfoDown': WHATEVER THE INPUT: true; the input reads as it did. -/
def infoDownSpec : ChangeSpec := { name := "infoDown", fn := fun _ => fun
  | [d1, d2] => { results := [.lit (.bool true)], args := [d1, d2] }
  | _ => none }
def infoDownRow : OpenClaim := { program := "ythhdfidenigcaaa", sum := "f2a27c23c7b9a18242881408e08f330e8a74006716751b0868d8479c2c833842", func := "ford/fordlaw13.InfoDown", spec := "infoDown", unfollowed := true, recurses := true, apart := false }
def InfoDownSaid : Prop := infoDownRow.holds Try.pinned (OpenSpec.ofChange infoDownSpec)

/-- ITS FALSE NEIGHBOUR: 'it returns false'. Refute it at one input. -/
def infoDownWrong : ChangeSpec := { name := "infoDown", fn := fun _ => fun
  | [d1, d2] => { results := [.lit (.bool false)], args := [d1, d2] }
  | _ => none }
def InfoDownWrongFalsely : Prop := infoDownRow.holds Try.pinned (OpenSpec.ofChange infoDownWrong)

/-- 'fordlaw13.InfoOthers': WHATEVER THE INPUT: true; the input reads as it did. -/
def infoOthersSpec : ChangeSpec := { name := "infoOthers", fn := fun _ => fun
  | [d1, d2] => { results := [.lit (.bool true)], args := [d1, d2] }
  | _ => none }
def infoOthersRow : OpenClaim := { program := "ythhdfidenigcaaa", sum := "f2a27c23c7b9a18242881408e08f330e8a74006716751b0868d8479c2c833842", func := "ford/fordlaw13.InfoOthers", spec := "infoOthers", unfollowed := true, recurses := true, apart := false }
def InfoOthersSaid : Prop := infoOthersRow.holds Try.pinned (OpenSpec.ofChange infoOthersSpec)

/-- ITS FALSE NEIGHBOUR: 'it returns false'. Refute it at one input. -/
def infoOthersWrong : ChangeSpec := { name := "infoOthers", fn := fun _ => fun
  | [d1, d2] => { results := [.lit (.bool false)], args := [d1, d2] }
  | _ => none }
def InfoOthersWrongFalsely : Prop := infoOthersRow.holds Try.pinned (OpenSpec.ofChange infoOthersWrong)

/-- 'fordlaw13.InfoKeeps': WHATEVER THE INPUT: true; the input reads as it did. -/
def infoKeepsSpec : ChangeSpec := { name := "infoKeeps", fn := fun _ => fun
  | [d1, d2] => { results := [.lit (.bool true)], args := [d1, d2] }
  | _ => none }
def infoKeepsRow : OpenClaim := { program := "ythhdfidenigcaaa", sum := "f2a27c23c7b9a18242881408e08f330e8a74006716751b0868d8479c2c833842", func := "ford/fordlaw13.InfoKeeps", spec := "infoKeeps", unfollowed := true, recurses := true, apart := false }
def InfoKeepsSaid : Prop := infoKeepsRow.holds Try.pinned (OpenSpec.ofChange infoKeepsSpec)

/-- ITS FALSE NEIGHBOUR: 'it returns false'. Refute it at one input. -/
def infoKeepsWrong : ChangeSpec := { name := "infoKeeps", fn := fun _ => fun
  | [d1, d2] => { results := [.lit (.bool false)], args := [d1, d2] }
  | _ => none }
def InfoKeepsWrongFalsely : Prop := infoKeepsRow.holds Try.pinned (OpenSpec.ofChange infoKeepsWrong)

/- THE SECOND FORM. 'bulk': how many values and letters a reading holds, each counted each time it is reached (what is shared counts as often as it is met; a slice's spare places count too). A statement '..UptoSaid' is the law's where the arguments, and the package variables that the reading takes, are together of bulk at most 1048576: NARROWER than '..Said'. Prove '..Said' where nothing that the law and all that it calls make is longer than what came in: it says more and counts as full. Else prove '..UptoSaid'. A law counts once. -/
mutual
def uptoBulk {H : Type} : DataW H → Nat
  | .lit (.string bytes) => bytes.length + 1
  | .lit _ => 1
  | .nil => 1
  | .ptr d => uptoBulk d + 1
  | .slice elems spare => uptoBulkAll elems + uptoBulkAll spare + 1
  | .agg parts => uptoBulkAll parts + 1
  | .iface _ d => uptoBulk d + 1
  | .map entries => uptoBulkEntries entries + 1
  | .held _ => 1
def uptoBulkAll {H : Type} : List (DataW H) → Nat
  | [] => 0
  | d :: r => uptoBulk d + uptoBulkAll r
def uptoBulkEntries {H : Type} : List (Lit × DataW H) → Nat
  | [] => 0
  | x :: r => uptoBulkEntry x + uptoBulkEntries r
def uptoBulkEntry {H : Type} : Lit × DataW H → Nat
  | (.string bytes, d) => bytes.length + uptoBulk d + 1
  | (_, d) => uptoBulk d + 1
 end
def uptoSmall : (H : Type) → List (DataW H) → Bool := fun _ ds => decide (uptoBulkAll ds ≤ 1048576)
def OpenSpec.upto (s : _root_.Go.ChangeSpec) : _root_.Go.OpenSpec := { _root_.Go.OpenSpec.ofChange s with cond := some uptoSmall }

/-- 'fordlaw03.VecOrder', WHERE WHAT IT READS IS OF BULK AT MOST 1048576: true; the input reads as it did. -/
def vecOrderUptoRow : OpenClaim := { program := "ythhdfidenigcaaa", sum := "f2a27c23c7b9a18242881408e08f330e8a74006716751b0868d8479c2c833842", func := "ford/fordlaw03.VecOrder", spec := "vecOrder", unfollowed := true, recurses := true, apart := false, narrowed := true }
def VecOrderUptoSaid : Prop := vecOrderUptoRow.holds Try.pinned (OpenSpec.upto vecOrderSpec)

/-- 'fordlaw03.VecSmall', WHERE WHAT IT READS IS OF BULK AT MOST 1048576: true; the input reads as it did. -/
def vecSmallUptoRow : OpenClaim := { program := "ythhdfidenigcaaa", sum := "f2a27c23c7b9a18242881408e08f330e8a74006716751b0868d8479c2c833842", func := "ford/fordlaw03.VecSmall", spec := "vecSmall", unfollowed := true, recurses := true, apart := false, narrowed := true }
def VecSmallUptoSaid : Prop := vecSmallUptoRow.holds Try.pinned (OpenSpec.upto vecSmallSpec)

/-- 'fordlaw03.VecThrough', WHERE WHAT IT READS IS OF BULK AT MOST 1048576: true; the input reads as it did. -/
def vecThroughUptoRow : OpenClaim := { program := "ythhdfidenigcaaa", sum := "f2a27c23c7b9a18242881408e08f330e8a74006716751b0868d8479c2c833842", func := "ford/fordlaw03.VecThrough", spec := "vecThrough", unfollowed := true, recurses := true, apart := false, narrowed := true }
def VecThroughUptoSaid : Prop := vecThroughUptoRow.holds Try.pinned (OpenSpec.upto vecThroughSpec)

/-- 'fordlaw03.VecSuperior', WHERE WHAT IT READS IS OF BULK AT MOST 1048576: true; the input reads as it did. -/
def vecSuperiorUptoRow : OpenClaim := { program := "ythhdfidenigcaaa", sum := "f2a27c23c7b9a18242881408e08f330e8a74006716751b0868d8479c2c833842", func := "ford/fordlaw03.VecSuperior", spec := "vecSuperior", unfollowed := true, recurses := true, apart := false, narrowed := true }
def VecSuperiorUptoSaid : Prop := vecSuperiorUptoRow.holds Try.pinned (OpenSpec.upto vecSuperiorSpec)

/-- 'fordlaw03.VecTells', WHERE WHAT IT READS IS OF BULK AT MOST 1048576: true; the input reads as it did. -/
def vecTellsUptoRow : OpenClaim := { program := "ythhdfidenigcaaa", sum := "f2a27c23c7b9a18242881408e08f330e8a74006716751b0868d8479c2c833842", func := "ford/fordlaw03.VecTells", spec := "vecTells", unfollowed := true, recurses := true, apart := false, narrowed := true }
def VecTellsUptoSaid : Prop := vecTellsUptoRow.holds Try.pinned (OpenSpec.upto vecTellsSpec)

/-- 'fordlaw14.SelSteps', WHERE WHAT IT READS IS OF BULK AT MOST 1048576: true; the input reads as it did. -/
def selStepsUptoRow : OpenClaim := { program := "ythhdfidenigcaaa", sum := "f2a27c23c7b9a18242881408e08f330e8a74006716751b0868d8479c2c833842", func := "ford/fordlaw14.SelSteps", spec := "selSteps", unfollowed := true, recurses := true, apart := false, narrowed := true }
def SelStepsUptoSaid : Prop := selStepsUptoRow.holds Try.pinned (OpenSpec.upto selStepsSpec)

/-- 'fordlaw14.SelBest', WHERE WHAT IT READS IS OF BULK AT MOST 1048576: true; the input reads as it did. -/
def selBestUptoRow : OpenClaim := { program := "ythhdfidenigcaaa", sum := "f2a27c23c7b9a18242881408e08f330e8a74006716751b0868d8479c2c833842", func := "ford/fordlaw14.SelBest", spec := "selBest", unfollowed := true, recurses := true, apart := false, narrowed := true }
def SelBestUptoSaid : Prop := selBestUptoRow.holds Try.pinned (OpenSpec.upto selBestSpec)

/-- 'fordlaw14.SelAlone', WHERE WHAT IT READS IS OF BULK AT MOST 1048576: true; the input reads as it did. -/
def selAloneUptoRow : OpenClaim := { program := "ythhdfidenigcaaa", sum := "f2a27c23c7b9a18242881408e08f330e8a74006716751b0868d8479c2c833842", func := "ford/fordlaw14.SelAlone", spec := "selAlone", unfollowed := true, recurses := true, apart := false, narrowed := true }
def SelAloneUptoSaid : Prop := selAloneUptoRow.holds Try.pinned (OpenSpec.upto selAloneSpec)

/-- 'fordlaw14.SelOffers', WHERE WHAT IT READS IS OF BULK AT MOST 1048576: true; the input reads as it did. -/
def selOffersUptoRow : OpenClaim := { program := "ythhdfidenigcaaa", sum := "f2a27c23c7b9a18242881408e08f330e8a74006716751b0868d8479c2c833842", func := "ford/fordlaw14.SelOffers", spec := "selOffers", unfollowed := true, recurses := true, apart := false, narrowed := true }
def SelOffersUptoSaid : Prop := selOffersUptoRow.holds Try.pinned (OpenSpec.upto selOffersSpec)

/-- 'fordlaw14.SelTimes', WHERE WHAT IT READS IS OF BULK AT MOST 1048576: true; the input reads as it did. -/
def selTimesUptoRow : OpenClaim := { program := "ythhdfidenigcaaa", sum := "f2a27c23c7b9a18242881408e08f330e8a74006716751b0868d8479c2c833842", func := "ford/fordlaw14.SelTimes", spec := "selTimes", unfollowed := true, recurses := true, apart := false, narrowed := true }
def SelTimesUptoSaid : Prop := selTimesUptoRow.holds Try.pinned (OpenSpec.upto selTimesSpec)

/-- 'fordlaw13.InfoSteps', WHERE WHAT IT READS IS OF BULK AT MOST 1048576: true; the input reads as it did. -/
def infoStepsUptoRow : OpenClaim := { program := "ythhdfidenigcaaa", sum := "f2a27c23c7b9a18242881408e08f330e8a74006716751b0868d8479c2c833842", func := "ford/fordlaw13.InfoSteps", spec := "infoSteps", unfollowed := true, recurses := true, apart := false, narrowed := true }
def InfoStepsUptoSaid : Prop := infoStepsUptoRow.holds Try.pinned (OpenSpec.upto infoStepsSpec)

/-- 'fordlaw13.InfoClass', WHERE WHAT IT READS IS OF BULK AT MOST 1048576: true; the input reads as it did. -/
def infoClassUptoRow : OpenClaim := { program := "ythhdfidenigcaaa", sum := "f2a27c23c7b9a18242881408e08f330e8a74006716751b0868d8479c2c833842", func := "ford/fordlaw13.InfoClass", spec := "infoClass", unfollowed := true, recurses := true, apart := false, narrowed := true }
def InfoClassUptoSaid : Prop := infoClassUptoRow.holds Try.pinned (OpenSpec.upto infoClassSpec)

/-- 'fordlaw13.InfoHears', WHERE WHAT IT READS IS OF BULK AT MOST 1048576: true; the input reads as it did. -/
def infoHearsUptoRow : OpenClaim := { program := "ythhdfidenigcaaa", sum := "f2a27c23c7b9a18242881408e08f330e8a74006716751b0868d8479c2c833842", func := "ford/fordlaw13.InfoHears", spec := "infoHears", unfollowed := true, recurses := true, apart := false, narrowed := true }
def InfoHearsUptoSaid : Prop := infoHearsUptoRow.holds Try.pinned (OpenSpec.upto infoHearsSpec)

/-- 'fordlaw13.InfoAges', WHERE WHAT IT READS IS OF BULK AT MOST 1048576: true; the input reads as it did. -/
def infoAgesUptoRow : OpenClaim := { program := "ythhdfidenigcaaa", sum := "f2a27c23c7b9a18242881408e08f330e8a74006716751b0868d8479c2c833842", func := "ford/fordlaw13.InfoAges", spec := "infoAges", unfollowed := true, recurses := true, apart := false, narrowed := true }
def InfoAgesUptoSaid : Prop := infoAgesUptoRow.holds Try.pinned (OpenSpec.upto infoAgesSpec)

/-- 'fordlaw13.InfoDown', WHERE WHAT IT READS IS OF BULK AT MOST 1048576: true; the input reads as it did. -/
def infoDownUptoRow : OpenClaim := { program := "ythhdfidenigcaaa", sum := "f2a27c23c7b9a18242881408e08f330e8a74006716751b0868d8479c2c833842", func := "ford/fordlaw13.InfoDown", spec := "infoDown", unfollowed := true, recurses := true, apart := false, narrowed := true }
def InfoDownUptoSaid : Prop := infoDownUptoRow.holds Try.pinned (OpenSpec.upto infoDownSpec)

/-- 'fordlaw13.InfoOthers', WHERE WHAT IT READS IS OF BULK AT MOST 1048576: true; the input reads as it did. -/
def infoOthersUptoRow : OpenClaim := { program := "ythhdfidenigcaaa", sum := "f2a27c23c7b9a18242881408e08f330e8a74006716751b0868d8479c2c833842", func := "ford/fordlaw13.InfoOthers", spec := "infoOthers", unfollowed := true, recurses := true, apart := false, narrowed := true }
def InfoOthersUptoSaid : Prop := infoOthersUptoRow.holds Try.pinned (OpenSpec.upto infoOthersSpec)

/-- 'fordlaw13.InfoKeeps', WHERE WHAT IT READS IS OF BULK AT MOST 1048576: true; the input reads as it did. -/
def infoKeepsUptoRow : OpenClaim := { program := "ythhdfidenigcaaa", sum := "f2a27c23c7b9a18242881408e08f330e8a74006716751b0868d8479c2c833842", func := "ford/fordlaw13.InfoKeeps", spec := "infoKeeps", unfollowed := true, recurses := true, apart := false, narrowed := true }
def InfoKeepsUptoSaid : Prop := infoKeepsUptoRow.holds Try.pinned (OpenSpec.upto infoKeepsSpec)

end Rows
end Go.Proofs.Ythhdfidenigcaaa
