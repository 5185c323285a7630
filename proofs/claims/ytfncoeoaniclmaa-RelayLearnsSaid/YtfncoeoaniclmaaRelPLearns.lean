/- 'fordlaw19.RelayLearns' holds for every input: at any numbers the law returns true, and what was there when it was called is as it was. -/
import Derived.Test.YtfncoeoaniclmaaOpenI
import Derived.Test.YtfncoeoaniclmaaRlL
set_option linter.unusedVariables false
set_option maxRecDepth 100000
namespace Go.Proofs.Ytfncoeoaniclmaa
open Go.ChangeShapes Go.WideShapes Go.ChangeAt Go.RowKit

set_option maxRecDepth 100000 in
theorem relayLearns_lifted (os : Os) (started : os.Started) (H : Type) (enc : TypeId × Value → H) :
    ReturnsInHanded {} Try.checked os 11 .any (Rows.relayLearnsSpec.pre6 enc Try.prog Try.f11 Rows.relayLearnsRow.domain false) (Rows.relayLearnsSpec.post enc Try.prog Try.f11 false true false false) := by
  refine law_lifted (ts := [5, 5, 5, 28, 28]) (tb := 4) Try.func11 (by kernel_rfl) (by kernel_rfl) (by intro t ht; simp only [List.mem_cons, List.not_mem_nil, or_false] at ht; rcases ht with rfl | rfl | rfl | rfl | rfl <;> exact ⟨by kernel_rfl, of_decide_eq_true (by kernel_rfl)⟩) (by kernel_rfl) Try.underlying4 rfl
    (by intro H ds hl; match ds, hl with | [d0, d1, d2, d3, d4], _ => rfl) os started H enc
    (ChangeSpec.witness6 (enc := enc) (C := Try.checked) false ⟨#[], #[.int .u8 0, .int .u8 0, .int .u8 0, .int .u64 0, .int .u64 0], []⟩ 8 (by kernel_rfl) (by kernel_rfl) (by kernel_rfl) (by kernel_rfl)) ?_
  intro W args ds ps hval hA hlt hsz
  obtain ⟨v0, vs0, d0, ds0, p0, q0, hargs, rfl, rfl, h0, r0⟩ := trodAll_cons hA
  obtain ⟨v1, vs1, d1, ds1, p1, q1, rfl, rfl, rfl, h1, r1⟩ := trodAll_cons r0
  obtain ⟨v2, vs2, d2, ds2, p2, q2, rfl, rfl, rfl, h2, r2⟩ := trodAll_cons r1
  obtain ⟨v3, vs3, d3, ds3, p3, q3, rfl, rfl, rfl, h3, r3⟩ := trodAll_cons r2
  obtain ⟨v4, vs4, d4, ds4, p4, q4, rfl, rfl, rfl, h4, r4⟩ := trodAll_cons r3
  obtain ⟨rfl, rfl, rfl⟩ := trodAll_nil r4
  obtain rfl : args = #[v0, v1, v2, v3, v4] := by cases args; simp_all
  obtain ⟨x0, rfl, w0⟩ := open_whole Try.underlying5 (hval 0 5 v0 rfl rfl) h0
  obtain ⟨x1, rfl, w1⟩ := open_whole Try.underlying5 (hval 1 5 v1 rfl rfl) h1
  obtain ⟨x2, rfl, w2⟩ := open_whole Try.underlying5 (hval 2 5 v2 rfl rfl) h2
  obtain ⟨x3, rfl, w3⟩ := open_whole Try.underlying28 (hval 3 28 v3 rfl rfl) h3
  obtain ⟨x4, rfl, w4⟩ := open_whole Try.underlying28 (hval 4 28 v4 rfl rfl) h4
  obtain ⟨v, hv, hd⟩ := learns_true S0 (range_u8 w0) (range_u8 w1) (range_u8 w2) (range_u64 w3) (range_u64 w4)
  have h := law_run cRl_fam Try.func11 (by kernel_rfl) [] (by kernel_rfl) rfl S0 0 (fun i k g h => by simp at h) (args0 := [.v (.int .u8 x0), .v (.int .u8 x1), .v (.int .u8 x2), .v (.int .u64 x3), .v (.int .u64 x4)]) (H0 := []) rfl hv E0 W (hs_nil _ _ _)
  simp only [SV.dens, SV.den] at h
  exact h.mono fun e w' h => by rw [hd] at h; exact h
theorem relayLearns_holds : Rows.RelayLearnsSaid :=
  OpenClaim.holds_of_wide 11 Try.f11 rfl rfl rfl rfl rfl rfl rfl ⟨rfl, rfl, rfl, rfl, rfl⟩ rfl rfl rfl rfl rfl (by kernel_rfl) Try.func11 (by kernel_rfl)
    (of_decide_eq_true (by kernel_rfl)) (by unfold Func.isWrapper; first | (rw [if_pos (by decide +kernel)]; kernel_rfl) | (rw [if_neg (by decide +kernel)]; exact ⟨rfl, rfl⟩))
    (fun os started H enc _ => relayLearns_lifted os started H enc)

end Go.Proofs.Ytfncoeoaniclmaa
