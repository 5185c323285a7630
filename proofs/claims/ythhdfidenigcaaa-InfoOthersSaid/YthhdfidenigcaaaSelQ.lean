/- fordlaw14.SelSteps, in plain Lean. -/
import Derived.Test.YthhdfidenigcaaaSelR
import Derived.Test.YthhdfidenigcaaaVecL
set_option linter.unusedVariables false
set_option maxRecDepth 100000
namespace Go.Proofs.Ythhdfidenigcaaa
open Go Go.RowKit

structure Port.Wf (p : Port) : Prop where
  id : 0 ≤ p.id ∧ p.id < 65536
  cost : 0 ≤ p.cost ∧ p.cost < 4294967296
  vec : p.vec.Wf
  mvec : p.msg.vec.Wf
  des : p.designated.Wf
structure InP.Wf (q : InP) : Prop where
  id : 0 ≤ q.b.id ∧ q.b.id < 18446744073709551616
  ps : ∀ p ∈ q.ps, p.Wf
theorem addrR_eq {x : Int} (h : 0 ≤ x ∧ x < 18446744073709551616) : addrR x = addrI x := by
  rw [addrI_eq h, addrR, Int.tmod_eq_emod_of_nonneg h.1]
theorem ownR_eq {id : Int} {v : Vec} (h : 0 ≤ id ∧ id < 18446744073709551616) (hv : v.Wf) : ownR id v = ownV id v := by
  unfold ownR ownV
  rw [addrR_eq h, addrR_eq hv.bridge]
theorem refRootL_eq {id : Int} (h : 0 ≤ id ∧ id < 18446744073709551616) : ∀ (l : List Port) (i : Nat) (x : Vec × Int), (∀ p ∈ l, p.Wf) → refRootL id l i x = rootL id l i x
  | [], _, _, _ => rfl
  | p :: r, i, x, hw => by
    have hp := hw p List.mem_cons_self
    have hs : refRootStep id i p x = rootStep id i p x := by
      unfold refRootStep rootStep offBad
      have := ownR_eq h hp.vec
      unfold ownR at this
      rw [this, refCmpV_eq]
    rw [refRootL, rootL, hs]
    exact refRootL_eq h r (i + 1) _ (fun p hp => hw p (List.mem_cons_of_mem _ hp))
theorem refRootF_eq {id : Int} (h : 0 ≤ id ∧ id < 18446744073709551616) {l : List Port} (hw : ∀ p ∈ l, p.Wf) : refRootF id l = rootF id l := refRootL_eq h l 0 _ hw
theorem refStepB_eq {q : InP} (h : q.Wf) : refStepB q.b q.ps = stepB q.b q.ps := by
  unfold refStepB stepB
  rw [refRootF_eq h.id h.ps]
theorem less_better (p : Port) : lessV p.designated p.vec = betterP p := by
  rw [lessV_iff]
  unfold betterP
  congr 1
  have e : fourI (noRx p.designated) (noRx p.vec) = fourI p.designated p.vec := rfl
  unfold cmpV
  rw [e]
  by_cases h0 : fourI p.designated p.vec = 0
  · simp [h0, noRx, cmpI]
  · simp [h0]
theorem ne_differs (p : Port) : refNe p = differsP p := by
  unfold refNe differsP
  rw [sameV_iff, fourI_turn p.vec p.designated]
  congr 2
  rw [Bool.eq_iff_iff]
  simp only [beq_iff_eq]
  omega
theorem role_eq {b : Bri} {i : Int} {p : Port} (h : 0 ≤ b.id ∧ b.id < 18446744073709551616) (hp : p.vec.Wf) : refRoleF b i p = roleF b i p := by
  unfold refRoleF roleF
  rw [less_better, ne_differs, ownR_eq h hp]
  by_cases h0 : p.is_ = 0
  · simp [h0]
  · by_cases h1 : p.is_ = 1
    · simp [h1]
    · by_cases h2 : p.is_ = 2
      · cases hd : differsP p <;> simp [h2, setSel]
      · by_cases h3 : p.is_ = 3
        · cases betterP p <;> cases ownV b.id p.vec <;> cases (i == b.rootPort) <;> simp [h3]
        · simp [h0, h1, h2, h3]
theorem mapI_congr {f g : Nat → Port → Port} : ∀ (l : List Port) (i : Nat), (∀ p ∈ l, ∀ i, f i p = g i p) → mapI f l i = mapI g l i
  | [], _, _ => rfl
  | p :: r, i, h => by
    rw [mapI, mapI, h p List.mem_cons_self i, mapI_congr r (i + 1) (fun p hp i => h p (List.mem_cons_of_mem _ hp) i)]
theorem refSteps_eq {q : InP} (h : q.Wf) : mapI (refStepP (refStepB q.b q.ps)) q.ps 0 = mapI (stepP (stepB q.b q.ps)) q.ps 0 := by
  rw [refStepB_eq h]
  exact mapI_congr _ _ fun p hp i => role_eq h.id (h.ps p hp).vec
theorem zip_self {α : Type} {f : α × α → Bool} (h : ∀ x, f (x, x) = false) : ∀ l : List α, (l.zip l).any f = false
  | [] => rfl
  | x :: r => by rw [List.zip_cons_cons, List.any_cons, h, zip_self h r]; rfl
theorem sameF_self (b : Bri) (ps : List Port) (os : List Sent) (fs : List Int) (q1 q2 q3 q4 q5 q6 : Bool) : sameF ⟨b, b, ps, ps, os, os, fs, fs, q1, q2, q3, q4, q5, q6⟩ = true := by
  unfold sameF
  rw [zip_self (f := neqP) (by simp [neqP]), zip_self (f := neqS) (by simp [neqS]), zip_self (f := neqI) (by simp [neqI])]
  simp [headNe, lenNe]
theorem fewF_lens {q : InP} (h : fewF q = true) : q.ps.length ≤ 8 ∧ 1 ≤ q.ps.length ∧ q.os.length ≤ 20 ∧ q.fs.length ≤ 20 ∧ rightF q.b q.ps = true := by
  unfold fewF at h
  simp only [Bool.and_eq_true, decide_eq_true_eq] at h
  exact ⟨by omega, by omega, by omega, by omega, h.1.1.1.1⟩
theorem steps_true (S : Stat) (q : InP) (hl : q.ps.length < 9223372036854775808) (h : q.Wf) : ∃ v, (stepsO S q).sel = some v ∧ ∀ S E, v.den S E = .bool true := by
  cases hf : fewF q with
  | false => exact ⟨_, Out.way_sel (steps_no S q) (by simp [InP.len, hl, hf]), fun _ _ => rfl⟩
  | true =>
    obtain ⟨h1, h2, h3, h4, _⟩ := fewF_lens hf
    have b1 : q.ps.length ≤ 134217728 := by omega
    have b2 : q.os.length ≤ 134217728 := by omega
    have b3 : q.fs.length ≤ 134217728 := by omega
    have d1 : q.os.length < 9223372036854775808 := by omega
    have d2 : q.fs.length < 9223372036854775808 := by omega
    cases ha : q.ps.any askP with
    | true =>
      refine ⟨_, Out.way_sel (steps_ask S q) (by simp [InP.len, InP.big, stepTest, Rows.len, mapI_length, hl, hf, ha, b1, b2, b3, d1, d2]), fun S E => ?_⟩
      simp only [SV.den, stepSame, refRootF_eq h.id h.ps, refStepB_eq h, refSteps_eq h, sameF_self]
      rw [← refStepB_eq h, refSteps_eq h, refStepB_eq h, sameF_self]
      simp
    | false =>
      refine ⟨_, Out.way_sel (steps_not S q) (by simp [InP.len, InP.big, stepTest, Rows.len, mapI_length, hl, hf, ha, b1, b2, b3, d1, d2]), fun S E => ?_⟩
      simp only [SV.den, stepSame, refRootF_eq h.id h.ps, sameF_self]
      simp
end Go.Proofs.Ythhdfidenigcaaa
