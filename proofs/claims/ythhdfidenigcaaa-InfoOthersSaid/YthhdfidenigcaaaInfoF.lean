/- info.Step and its reference: contracts, and that they do the same. -/
import Derived.Test.YthhdfidenigcaaaInfoE
set_option linter.unusedVariables false
set_option maxRecDepth 100000
namespace Go.Proofs.Ythhdfidenigcaaa
open Go Go.RowKit

theorem classI_cases (p : Port) : classI p = 0 ∨ classI p = 1 ∨ classI p = 2 ∨ classI p = 3 ∨ classI p = 4 := by
  unfold classI
  repeat' split
  all_goals simp
theorem inTab_true (p : Port) : inTab p = true := by
  unfold inTab
  rcases classI_cases p with h | h | h | h | h <;> rw [h] <;> rfl
def hearP (rst : Bool) (p : Port) : Port :=
  if classI p = 0 then superiorP rst p else if classI p = 1 then repeatedP rst p else if classI p = 2 then (if (p.msg.kind == 2 && p.msg.learning) = true then inferiorP p else p) else if classI p = 3 then notDesP rst p else otherP p
/-- what info.Step does -/
def infoF (b : Bri) (p : Port) : Port × Bool :=
  if (!p.enabled && p.is_ != 0) = true then (disableP p, true) else if (p.states.info == 0 && p.flags.rcvdMsg) = true then (disableP p, true) else if (p.states.info == 0 && p.enabled) = true then (ageP p, true)
  else if (p.states.info == 1 && toldP p) = true then (updateP p, true) else if (p.states.info == 2 && toldP p) = true then (updateP p, true) else if (p.states.info != 2 || p.flags.updtInfo) = true then (p, false)
  else if (p.is_ == 3 && p.clocks.rcvdInfo == 0 && !p.flags.rcvdMsg) = true then (ageP p, true) else if p.flags.rcvdMsg = true then (heardP (hearP b.rst p), true) else (p, false)
theorem infoT_sel (b : Bri) (p : Port) : (infoT b.rst p).sel = some (infoF b p) := by
  unfold infoT infoF
  simp only [Out.sel, inTab_true, if_true]
  have hh : (if isK p 89 = true then some (heardP (superiorP b.rst p), true) else if isK p 90 = true then some (heardP (repeatedP b.rst p), true) else if isK p 91 = true then (if (p.msg.kind == 2 && p.msg.learning) = true then some (heardP (inferiorP p), true) else some (heardP p, true))
      else if isK p 92 = true then some (heardP (notDesP b.rst p), true) else if isK p 93 = true then some (heardP (otherP p), true) else none) = some (heardP (hearP b.rst p), true) := by
    unfold hearP isK
    rcases classI_cases p with h | h | h | h | h <;> rw [h] <;> simp
    split <;> rfl
  rw [hh]
  repeat' split
  all_goals rfl
theorem info_ok : CanonOk 41 (gPort infoF) := portStep_ok cI_fam Try.func41 (by kernel_rfl) (fuel := 20) (by
  intro S b a r k p n q h0 h1
  refine ⟨.kb (infoF b p).2, ?_, fun _ _ => rfl⟩
  rw [info_run]
  simp only [Out.sel, h0, h1, decide_true, Bool.and_self, if_true, Out.sel_bind, infoT_sel, Option.bind_some]
  rfl)
/-- what fordref13.Step does -/
def refF (b : Bri) (p : Port) : Port × Bool :=
  if ((!p.enabled && p.is_ != 0) || (p.states.info == 0 && p.flags.rcvdMsg)) = true then (disableP p, true) else if (p.states.info == 0 && p.enabled) = true then (ageP p, true)
  else if (((p.states.info == 1 || p.states.info == 2) && p.flags.selected) && p.flags.updtInfo) = true then (updateR p, true)
  else if ((((p.states.info == 2 && p.is_ == 3) && p.clocks.rcvdInfo == 0) && !p.flags.updtInfo) && !p.flags.rcvdMsg) = true then (ageP p, true)
  else if ((p.states.info == 2 && p.flags.rcvdMsg) && !p.flags.updtInfo) = true then (hearR b.rst p, true) else (p, false)
theorem refT_sel (b : Bri) (p : Port) : (refT b.rst p).sel = some (refF b p) := by
  unfold refT refF
  simp only [Out.sel]
  repeat' split
  all_goals rfl
theorem ref_ok : CanonOk 42 (gPort refF) := portStep_ok cR3_fam Try.func42 (by kernel_rfl) (fuel := 20) (by
  intro S b a r k p n q h0 h1
  refine ⟨.kb (refF b p).2, ?_, fun _ _ => rfl⟩
  rw [ref_run]
  simp only [Out.sel, h0, h1, decide_true, Bool.and_self, if_true, Out.sel_bind, refT_sel, Option.bind_some]
  unfold stepOutR
  simp only [h0, h1, decide_true, Bool.and_self]
  generalize refF b p = x
  obtain ⟨y, d⟩ := x
  cases d <;> rfl)

/-! the plain law -/
theorem waits_eq {t : Times} (h : fewT t = true) : waitsR t = waitsI t := by
  unfold fewT at h
  simp only [Bool.and_eq_true, decide_eq_true_eq] at h
  obtain ⟨⟨⟨⟨⟨⟨⟨h1, h2⟩, h3⟩, h4⟩, h5⟩, h6⟩, h7⟩, h8⟩ := h
  unfold waitsR waitsI
  simp only [decide_eq_true_eq]
  have e1 : IntKind.i64.wrap (t.age + 1) = t.age + 1 := by rw [IntKind.wrap_i64]; omega
  have e2 : IntKind.i64.wrap (t.hello + t.hello) = t.hello + t.hello := by rw [IntKind.wrap_i64]; omega
  have e3 : IntKind.i64.wrap (t.hello + t.hello + t.hello) = 3 * t.hello := by rw [IntKind.wrap_i64]; omega
  have e4 : IntKind.i64.wrap (3 * t.hello) = 3 * t.hello := by rw [IntKind.wrap_i64]; omega
  rw [e1, e2, e3, e4]
  by_cases h : t.age < t.max
  · rw [if_pos h, if_neg (by omega)]
  · rw [if_neg h, if_pos (by omega)]
theorem betV_eq (a b : Vec) : lessV a b = betV a b := less_betterM a b
theorem changes_eq (p : Port) : changesR p = changesP p := by
  unfold changesR changesP
  cases h1 : p.msg.change <;> cases h2 : p.msg.ack <;> simp
theorem agree_eq (rst : Bool) (p : Port) : agreementR rst p = agreementP rst p := by
  unfold agreementR agreementP
  generalize agrees rst p = D
  cases D
  · rw [Bool.not_false, Bool.and_true]; rfl
  · rw [Bool.not_true, Bool.and_false]; rfl
theorem noted_eq (p : Port) : notedR p = changesP (proposalP p) := by
  unfold notedR proposalP
  rw [changes_eq, changes_eq]
  have : propM p.msg = ((p.msg.kind == 2 && p.msg.role == 4) && p.msg.proposal) := by
    unfold propM tellsM
    by_cases h : p.msg.kind = 2
    · simp [h]
    · have hb : (p.msg.kind == 2) = false := by simpa using h
      rw [hb]; rfl
  rw [this]
  generalize ((p.msg.kind == 2 && p.msg.role == 4) && p.msg.proposal) = D
  cases D
  · rw [Bool.or_false]; rfl
  · rw [Bool.or_true]; rfl
theorem synced_if (u : Port) (X : Port → Port) (d : Bool) : (if (!d) = true then X { u with flags := { u.flags with synced := false } } else X u) = X { u with flags := { u.flags with synced := u.flags.synced && d } } := by
  cases d
  · rw [Bool.and_false]; rfl
  · rw [Bool.and_true]; rfl
theorem updB_eq (q : Port) : updB q = updC { q with flags := { q.flags with synced := q.flags.synced && q.flags.agreed } } := synced_if q updC q.flags.agreed
theorem if_and (U : Bool → Port) (a D : Bool) : (if (!D) = true then U false else U a) = U (a && D) := by cases D <;> simp
theorem update_eq (p : Port) : updateR p = updateP p := by
  unfold updateR updateP updAgreed
  rw [betV_eq, updB_eq, updB_eq]
  have e1 : (p.is_ != 2 || betV p.vec p.designated) = !(p.is_ == 2 && !betV p.vec p.designated) := by
    cases h : (p.is_ == 2) <;> cases betV p.vec p.designated <;> simp [bne, h]
  rw [e1, Bool.and_assoc]
  exact if_and (fun ag => updC { updA p with flags := { (updA p).flags with agreed := ag, synced := p.flags.synced && ag } }) p.flags.agreed _
theorem sup_eq (rst : Bool) (p : Port) (ht : waitsR p.msg.times = waitsI p.msg.times) : supR rst p = heardP (superiorP rst p) := by
  unfold supR superiorP
  have hs : supS p = supA p := by unfold supS supA; rw [noted_eq]
  rw [hs, betV_eq]
  have hm : (supA p).msg = p.msg := rfl
  have hB : (if ((supA p).is_ != 3 || betV (supA p).vec (supA p).msg.vec) = true then supD rst { supA p with flags := { (supA p).flags with agree := false } } else supD rst (supA p)) = supD rst (supB (supA p)) := by
    generalize supA p = q
    unfold supB
    have e1 : (q.is_ != 3 || betV q.vec q.msg.vec) = !(q.is_ == 3 && !betV q.vec q.msg.vec) := by
      cases h : (q.is_ == 3) <;> cases betV q.vec q.msg.vec <;> simp [bne, h]
    rw [e1, Bool.and_assoc]
    generalize (q.is_ == 3 && !betV q.vec q.msg.vec) = D
    cases D
    · rw [Bool.and_false]; rfl
    · rw [Bool.and_true]; rfl
  rw [hB]
  have hm2 : (supB (supA p)).msg = p.msg := rfl
  generalize supB (supA p) = q at hm2 ⊢
  unfold supD
  rw [agree_eq, synced_if _ supE]
  have hm3 : (agreementP rst q).msg = p.msg := hm2
  generalize agreementP rst q = u at hm3 ⊢
  unfold supE supC
  rw [show waitsR ({ u with flags := { u.flags with synced := u.flags.synced && u.flags.agreed } } : Port).msg.times = waitsI u.msg.times from by show waitsR u.msg.times = _; rw [hm3]; exact ht]
theorem hear_eq (rst : Bool) (p : Port) (hc : refClassI p = classI p) (ht : waitsR p.msg.times = waitsI p.msg.times) : hearR rst p = heardP (hearP rst p) := by
  unfold hearR hearP
  rw [hc, sup_eq rst p ht]
  have hr : repR rst p = heardP (repeatedP rst p) := by
    unfold repR repeatedP
    rw [noted_eq, agree_eq]
    have : (agreementP rst (changesP (proposalP p))).msg = p.msg := rfl
    simp only [this, ht]
  have ho : (if (p.msg.kind == 1) = true then heardP { p with flags := { p.flags with rcvdTcn := true } } else heardP p) = heardP (otherP p) := by
    unfold otherP
    generalize (p.msg.kind == 1) = D
    cases D
    · rw [Bool.or_false]; rfl
    · rw [Bool.or_true]; rfl
  rw [hr, changes_eq, agree_eq, ho, ← apply_ite heardP]
  rcases classI_cases p with h | h | h | h | h <;> rw [h] <;> simp [notDesP]
theorem step_eq (b : Bri) (p : Port) (hc : refClassI p = classI p) (ht : waitsR p.msg.times = waitsI p.msg.times) : infoF b p = refF b p := by
  unfold infoF refF toldP
  rw [update_eq, hear_eq b.rst p hc ht]
  generalize disableP p = D
  generalize ageP p = A
  generalize updateP p = U
  generalize heardP (hearP b.rst p) = K
  by_cases h0 : p.states.info = 0
  · cases p.enabled <;> cases p.flags.rcvdMsg <;> cases h : (p.is_ != 0) <;> simp [h0]
  · by_cases h1 : p.states.info = 1
    · cases p.enabled <;> cases h : (p.is_ != 0) <;> cases p.flags.selected <;> cases p.flags.updtInfo <;> simp [h1]
    · by_cases h2 : p.states.info = 2
      · cases p.enabled <;> cases h : (p.is_ != 0) <;> cases p.flags.selected <;> cases p.flags.updtInfo <;> cases p.flags.rcvdMsg <;> simp [h2]
      · cases p.enabled <;> cases h : (p.is_ != 0) <;> simp [h0, h1, h2]
end Go.Proofs.Ythhdfidenigcaaa
