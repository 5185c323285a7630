/- fordref13.Step: the contexts of its walk. -/
import Derived.Test.YthhdfidenigcaaaInfoD
set_option linter.unusedVariables false
set_option maxRecDepth 100000
namespace Go.Proofs.Ythhdfidenigcaaa
open Go Go.RowKit

def ks1 : List SV → List Nat
  | .ptr c _ :: _ => [c]
  | _ => []
def ks2 : List SV → List Nat
  | _ :: .ptr c _ :: _ => [c]
  | _ => []
noncomputable def psM (S : Stat) : List (Nat × ReadFn) := (44, pureR (pPort refClassI)) :: psN S
theorem psM_ok (S : Stat) : ReadsOk S [] (psM S) := by
  intro f g h
  rcases List.mem_cons.1 h with h | h
  · injection h with h1 h2; subst h1 h2; exact (refClass S).read []
  · exact psN_ok S f g h
theorem specs_cons {S : Stat} {f : Nat} {g : SpecFn} {l : List (Nat × SpecFn)} (h : SpecOk S [] f g) (hl : ∀ f g, (f, g) ∈ l → SpecOk S [] f g) : ∀ f' g', (f', g') ∈ (f, g) :: l → SpecOk S [] f' g' := by
  intro f' g' hm
  rcases List.mem_cons.1 hm with he | he
  · injection he with h1 h2; subst h1 h2; exact h
  · exact hl f' g' he
theorem specs_nil {S : Stat} : ∀ f g, (f, g) ∈ ([] : List (Nat × SpecFn)) → SpecOk S [] f g := fun f g h => by cases h
noncomputable def cR0 (S : Stat) : Ctx := mkCtx S [] (psM S) [] 20 4
theorem cR0_fam : Fam cR0 := fam_of psM_ok fun S => specs_nil
noncomputable def ss1 (S : Stat) : List (Nat × SpecFn) := [(84, jsp cR0 S ks1 20 84), (83, jsp cR0 S ks2 20 83), (64, jsp cR0 S ks1 20 64)]
theorem ss1_ok (S : Stat) : ∀ f g, (f, g) ∈ ss1 S → SpecOk S [] f g :=
  specs_cons (jsp_ok cR0_fam S ks1 Try.func84 (by kernel_rfl)) <| specs_cons (jsp_ok cR0_fam S ks2 Try.func83 (by kernel_rfl)) <| specs_cons (jsp_ok cR0_fam S ks1 Try.func64 (by kernel_rfl)) specs_nil
noncomputable def cR1 (S : Stat) : Ctx := mkCtx S [] (psM S) (ss1 S) 20 4
theorem cR1_fam : Fam cR1 := fam_of psM_ok ss1_ok
noncomputable def ss2 (S : Stat) : List (Nat × SpecFn) := (82, jsp cR1 S ks1 20 82) :: (65, jsp cR1 S ks1 20 65) :: ss1 S
theorem ss2_ok (S : Stat) : ∀ f g, (f, g) ∈ ss2 S → SpecOk S [] f g :=
  specs_cons (jsp_ok cR1_fam S ks1 Try.func82 (by kernel_rfl)) <| specs_cons (jsp_ok cR1_fam S ks1 Try.func65 (by kernel_rfl)) (ss1_ok S)
noncomputable def cR2 (S : Stat) : Ctx := mkCtx S [] (psM S) (ss2 S) 20 4
theorem cR2_fam : Fam cR2 := fam_of psM_ok ss2_ok
noncomputable def ss3 (S : Stat) : List (Nat × SpecFn) := (66, jsp cR2 S ks2 20 66) :: ss2 S
theorem ss3_ok (S : Stat) : ∀ f g, (f, g) ∈ ss3 S → SpecOk S [] f g := specs_cons (jsp_ok cR2_fam S ks2 Try.func66 (by kernel_rfl)) (ss2_ok S)
noncomputable def cR3 (S : Stat) : Ctx := mkCtx S [] (psM S) (ss3 S) 20 4
theorem cR3_fam : Fam cR3 := fam_of psM_ok ss3_ok

def changesR (p : Port) : Port :=
  if p.msg.change = true then (if p.msg.ack = true then { p with flags := { p.flags with rcvdTc := true, rcvdTcAck := true } } else { p with flags := { p.flags with rcvdTc := true } })
  else (if p.msg.ack = true then { p with flags := { p.flags with rcvdTcAck := true } } else p)
def agreementR (rst : Bool) (p : Port) : Port :=
  if agrees rst p = true then { p with flags := { p.flags with agreed := true, proposing := false } } else { p with flags := { p.flags with agreed := false } }
def notedR (p : Port) : Port :=
  if (((p.msg.kind == 2 && p.msg.role == 4) && p.msg.proposal) = true) then changesR { p with flags := { p.flags with proposed := true } } else changesR p
def updC (q : Port) : Port := { q with vec := q.designated, times := q.desTimes, flags := { q.flags with updtInfo := false, newInfo := true }, is_ := 2, states := { q.states with info := 2 } }
def updB (q : Port) : Port := if (!q.flags.agreed) = true then updC { q with flags := { q.flags with synced := false } } else updC q
def updA (p : Port) : Port := { p with flags := { p.flags with proposing := false, proposed := false } }
def updateR (p : Port) : Port := if (p.is_ != 2 || lessV p.vec p.designated) = true then updB { updA p with flags := { (updA p).flags with agreed := false } } else updB (updA p)
def waitsR (t : Times) : Int := if decide (t.age < t.max) = true then IntKind.i64.wrap (IntKind.i64.wrap (t.hello + t.hello) + t.hello) else 0
def supE (q : Port) : Port := heardP (againP { q with vec := q.msg.vec, times := q.msg.times, clocks := { q.clocks with rcvdInfo := waitsR q.msg.times } } 3 2)
def supD (rst : Bool) (q : Port) : Port := if (!(agreementR rst q).flags.agreed) = true then supE { agreementR rst q with flags := { (agreementR rst q).flags with synced := false } } else supE (agreementR rst q)
def supS (p : Port) : Port := notedR { p with flags := { p.flags with agreed := false, proposing := false } }
def supR (rst : Bool) (p : Port) : Port := if ((supS p).is_ != 3 || lessV (supS p).vec (supS p).msg.vec) = true then supD rst { supS p with flags := { (supS p).flags with agree := false } } else supD rst (supS p)
def repR (rst : Bool) (p : Port) : Port := let q := agreementR rst (notedR p); heardP { q with clocks := { q.clocks with rcvdInfo := waitsR q.msg.times } }
def hearR (rst : Bool) (p : Port) : Port :=
  if (refClassI p == 0) = true then supR rst p else if (refClassI p == 1) = true then repR rst p
  else if (refClassI p == 2) = true then (if (p.msg.kind == 2 && p.msg.learning) = true then heardP (inferiorP p) else heardP p)
  else if (refClassI p == 3) = true then heardP (changesR (agreementR rst p))
  else if (p.msg.kind == 1) = true then heardP { p with flags := { p.flags with rcvdTcn := true } } else heardP p
def refT (rst : Bool) (p : Port) : Out (Port × Bool) :=
  .ite ((!p.enabled && p.is_ != 0) || (p.states.info == 0 && p.flags.rcvdMsg)) (.ret (disableP p, true)) (.ite (p.states.info == 0 && p.enabled) (.ret (ageP p, true))
    (.ite (((p.states.info == 1 || p.states.info == 2) && p.flags.selected) && p.flags.updtInfo) (.ret (updateR p, true))
    (.ite ((((p.states.info == 2 && p.is_ == 3) && p.clocks.rcvdInfo == 0) && !p.flags.updtInfo) && !p.flags.rcvdMsg) (.ret (ageP p, true))
    (.ite ((p.states.info == 2 && p.flags.rcvdMsg) && !p.flags.updtInfo) (.ret (hearR rst p, true)) (.ret (p, false))))))
def stepOutR (b : Bri) (a r : List Port) (k : Int) (n : Nat) (q : Bool) (x : Port × Bool) : Out (SV × Heap × Nat) :=
  bif x.2 then .ite (decide (0 ≤ k) && decide (k < n)) (stepOut b a r n q x) .bad else stepOut b a r n q x
theorem ref_run (S : Stat) (b : Bri) (a r : List Port) (k : Int) (p : Port) (n : Nat) (q : Bool) : trimF 2 (inline (cR3 (S.wt k)) 20 (fnOf 42) [.ptr 0 0, .ix 0] (focH b a r p n q) 2) =
    .ite (decide (0 ≤ k) && decide (k < n)) ((refT b.rst p).bind (stepOutR b a r k n q)) .bad := by kernel_rfl
end Go.Proofs.Ythhdfidenigcaaa
