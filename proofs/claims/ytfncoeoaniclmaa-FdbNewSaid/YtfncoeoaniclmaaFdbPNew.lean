/- 'fordlaw07.FdbNew' holds for every input: at any numbers the law returns true, and what was there when it was called is as it was. -/
import Derived.Test.YtfncoeoaniclmaaOpenI
import Derived.Test.YtfncoeoaniclmaaFdbN
set_option linter.unusedVariables false
set_option maxRecDepth 100000
namespace Go.Proofs.Ytfncoeoaniclmaa
open Go.ChangeShapes Go.WideShapes Go.ChangeAt Go.RowKit

set_option maxRecDepth 100000 in
theorem fdbNew_lifted (os : Os) (started : os.Started) (H : Type) (enc : TypeId × Value → H) :
    ReturnsInHanded {} Try.checked os 3 .any (Rows.fdbNewSpec.pre6 enc Try.prog Try.f3 Rows.fdbNewRow.domain false) (Rows.fdbNewSpec.post enc Try.prog Try.f3 false true false false) := by
  refine law_lifted (ts := [3, 3]) (tb := 4) Try.func3 (by kernel_rfl) (by kernel_rfl) (by intro t ht; simp only [List.mem_cons, List.not_mem_nil, or_false] at ht; rcases ht with rfl | rfl <;> exact ⟨by kernel_rfl, of_decide_eq_true (by kernel_rfl)⟩) (by kernel_rfl) Try.underlying4 rfl
    (by intro H ds hl; match ds, hl with | [d0, d1], _ => rfl) os started H enc
    (ChangeSpec.witness6 (enc := enc) (C := Try.checked) false ⟨#[], #[.int .i64 0, .int .i64 0], []⟩ 8 (by kernel_rfl) (by kernel_rfl) (by kernel_rfl) (by kernel_rfl)) ?_
  intro W args ds ps hval hA hlt hsz
  obtain ⟨v0, vs0, d0, ds0, p0, q0, hargs, rfl, rfl, h0, r0⟩ := trodAll_cons hA
  obtain ⟨v1, vs1, d1, ds1, p1, q1, rfl, rfl, rfl, h1, r1⟩ := trodAll_cons r0
  obtain ⟨rfl, rfl, rfl⟩ := trodAll_nil r1
  obtain rfl : args = #[v0, v1] := by cases args; simp_all
  obtain ⟨x0, rfl, w0⟩ := open_whole Try.underlying3 (hval 0 3 v0 rfl rfl) h0
  obtain ⟨x1, rfl, w1⟩ := open_whole Try.underlying3 (hval 1 3 v1 rfl rfl) h1
  obtain ⟨v, hv, hd⟩ := new_true S0 x0 x1
  have h := law_run cV_fam Try.func3 (by kernel_rfl) [] (by kernel_rfl) rfl S0 0 (fun i k g h => by simp at h) (args0 := [.v (.int .i64 x0), .v (.int .i64 x1)]) (H0 := []) rfl hv E0 W (hs_nil _ _ _)
  simp only [SV.dens, SV.den] at h
  exact h.mono fun e w' h => by rw [hd] at h; exact h
theorem fdbNew_holds : Rows.FdbNewSaid :=
  OpenClaim.holds_of_wide 3 Try.f3 rfl rfl rfl rfl rfl rfl rfl ⟨rfl, rfl, rfl, rfl, rfl⟩ rfl rfl rfl rfl rfl (by kernel_rfl) Try.func3 (by kernel_rfl)
    (of_decide_eq_true (by kernel_rfl)) (by unfold Func.isWrapper; first | (rw [if_pos (by decide +kernel)]; kernel_rfl) | (rw [if_neg (by decide +kernel)]; exact ⟨rfl, rfl⟩))
    (fun os started H enc _ => fdbNew_lifted os started H enc)

end Go.Proofs.Ytfncoeoaniclmaa
