/- info.Step: what it does to a port. -/
import Derived.Test.YthhdfidenigcaaaInfoC
import Derived.Test.YthhdfidenigcaaaPortS
set_option linter.unusedVariables false
set_option maxRecDepth 100000
namespace Go.Proofs.Ythhdfidenigcaaa
open Go Go.RowKit

def betV (a b : Vec) : Bool := decide (cmpV (noRx a) (noRx b) < 0)
def againP (p : Port) (is st : Int) : Port := { p with is_ := is, states := { p.states with info := st }, flags := { p.flags with reselect := true, selected := false } }
def disableP (p : Port) : Port := againP { p with flags := { p.flags with rcvdMsg := false, proposing := false, proposed := false, agree := false, agreed := false }, clocks := { p.clocks with rcvdInfo := 0 } } 0 0
def ageP (p : Port) : Port := againP p 1 1
def updAgreed (p : Port) : Bool := (p.flags.agreed && p.is_ == 2) && !betV p.vec p.designated
def updateP (p : Port) : Port := { p with
  flags := { p.flags with proposing := false, proposed := false, agreed := updAgreed p, synced := p.flags.synced && updAgreed p, updtInfo := false, newInfo := true },
  vec := p.designated, times := p.desTimes, is_ := 2, states := { p.states with info := 2 } }
def propM (m : Msg) : Bool := (m.kind == 2 && tellsM m) && m.proposal
def proposalP (p : Port) : Port := { p with flags := { p.flags with proposed := p.flags.proposed || propM p.msg } }
def changesP (p : Port) : Port := { p with flags := { p.flags with rcvdTc := p.flags.rcvdTc || p.msg.change, rcvdTcAck := p.flags.rcvdTcAck || p.msg.ack } }
def agrees (rst : Bool) (p : Port) : Bool := ((rst && !p.shared) && p.msg.kind == 2) && p.msg.agreement
def agreementP (rst : Bool) (p : Port) : Port := { p with flags := { p.flags with agreed := agrees rst p, proposing := p.flags.proposing && !(agrees rst p) } }
def waitsI (t : Times) : Int := if decide (IntKind.i64.wrap (t.age + 1) > t.max) = true then 0 else IntKind.i64.wrap (3 * t.hello)
def supA (p : Port) : Port := changesP (proposalP { p with flags := { p.flags with agreed := false, proposing := false } })
def supB (p : Port) : Port := { p with flags := { p.flags with agree := (p.flags.agree && p.is_ == 3) && !betV p.vec p.msg.vec } }
def supC (p : Port) : Port := { p with flags := { p.flags with synced := p.flags.synced && p.flags.agreed }, vec := p.msg.vec, times := p.msg.times, clocks := { p.clocks with rcvdInfo := waitsI p.msg.times } }
def superiorP (rst : Bool) (p : Port) : Port := againP (supC (agreementP rst (supB (supA p)))) 3 2
def repeatedP (rst : Bool) (p : Port) : Port := let q := agreementP rst (changesP (proposalP p)); { q with clocks := { q.clocks with rcvdInfo := waitsI p.msg.times } }
def inferiorP (p : Port) : Port := { p with flags := { p.flags with disputed := true, agreed := false } }
def notDesP (rst : Bool) (p : Port) : Port := changesP (agreementP rst p)
def otherP (p : Port) : Port := { p with flags := { p.flags with rcvdTcn := p.flags.rcvdTcn || p.msg.kind == 1 } }
def heardP (p : Port) : Port := { p with flags := { p.flags with rcvdMsg := false } }
def isK (p : Port) (k : Nat) : Bool := Nat.beq (Nat.add (classI p).toNat 89) k
def inTab (p : Port) : Bool := decide (0 ≤ classI p) && decide (classI p < ((5 : Nat) : Int))
def toldP (p : Port) : Bool := p.flags.selected && p.flags.updtInfo
/-- what a step does, way by way -/
def infoT (rst : Bool) (p : Port) : Out (Port × Bool) :=
  .ite (!p.enabled && p.is_ != 0) (.ret (disableP p, true)) (.ite (p.states.info == 0 && p.flags.rcvdMsg) (.ret (disableP p, true)) (.ite (p.states.info == 0 && p.enabled) (.ret (ageP p, true))
    (.ite (p.states.info == 1 && toldP p) (.ret (updateP p, true)) (.ite (p.states.info == 2 && toldP p) (.ret (updateP p, true)) (.ite (p.states.info != 2 || p.flags.updtInfo) (.ret (p, false))
    (.ite (p.is_ == 3 && p.clocks.rcvdInfo == 0 && !p.flags.rcvdMsg) (.ret (ageP p, true)) (.ite p.flags.rcvdMsg
      (.ite (inTab p) (.ite (isK p 89) (.ret (heardP (superiorP rst p), true)) (.ite (isK p 90) (.ret (heardP (repeatedP rst p), true)) (.ite (isK p 91) (.ite (p.msg.kind == 2 && p.msg.learning) (.ret (heardP (inferiorP p), true)) (.ret (heardP p, true)))
        (.ite (isK p 92) (.ret (heardP (notDesP rst p), true)) (.ite (isK p 93) (.ret (heardP (otherP p), true)) .bad))))) .bad)
      (.ret (p, false)))))))))
def stepOut (b : Bri) (a r : List Port) (n : Nat) (q : Bool) (x : Port × Bool) : Out (SV × Heap × Nat) := .ret (.kb x.2, focH b a r x.1 n q, 2)
theorem info_run (S : Stat) (b : Bri) (a r : List Port) (k : Int) (p : Port) (n : Nat) (q : Bool) : trimF 2 (inline (cI (S.wt k)) 20 (fnOf 41) [.ptr 0 0, .ix 0] (focH b a r p n q) 2) =
    .ite (decide (0 ≤ k) && decide (k < n)) ((infoT b.rst p).bind (stepOut b a r n q)) .bad := by kernel_rfl
end Go.Proofs.Ythhdfidenigcaaa
