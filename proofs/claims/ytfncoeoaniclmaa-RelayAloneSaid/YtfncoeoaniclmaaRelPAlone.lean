/- 'fordlaw19.RelayAlone' holds for every input: at any numbers the law returns true, and what was there when it was called is as it was. -/
import Derived.Test.YtfncoeoaniclmaaOpenI
import Derived.Test.YtfncoeoaniclmaaRlAl
set_option linter.unusedVariables false
set_option maxRecDepth 100000
namespace Go.Proofs.Ytfncoeoaniclmaa
open Go.ChangeShapes Go.WideShapes Go.ChangeAt Go.RowKit

set_option maxRecDepth 100000 in
theorem relayAlone_lifted (os : Os) (started : os.Started) (H : Type) (enc : TypeId × Value → H) :
    ReturnsInHanded {} Try.checked os 12 .any (Rows.relayAloneSpec.pre6 enc Try.prog Try.f12 Rows.relayAloneRow.domain false) (Rows.relayAloneSpec.post enc Try.prog Try.f12 false true false false) := by
  refine law_lifted (ts := [5, 5, 4, 54, 54]) (tb := 4) Try.func12 (by kernel_rfl) (by kernel_rfl) (by intro t ht; simp only [List.mem_cons, List.not_mem_nil, or_false] at ht; rcases ht with rfl | rfl | rfl | rfl | rfl <;> exact ⟨by kernel_rfl, of_decide_eq_true (by kernel_rfl)⟩) (by kernel_rfl) Try.underlying4 rfl
    (by intro H ds hl; match ds, hl with | [d0, d1, d2, d3, d4], _ => rfl) os started H enc
    (ChangeSpec.witness6 (enc := enc) (C := Try.checked) false ⟨#[], #[.int .u8 0, .int .u8 0, .bool false, .int .u32 0, .int .u32 0], []⟩ 8 (by kernel_rfl) (by kernel_rfl) (by kernel_rfl) (by kernel_rfl)) ?_
  intro W args ds ps hval hA hlt hsz
  obtain ⟨v0, vs0, d0, ds0, p0, q0, hargs, rfl, rfl, h0, r0⟩ := trodAll_cons hA
  obtain ⟨v1, vs1, d1, ds1, p1, q1, rfl, rfl, rfl, h1, r1⟩ := trodAll_cons r0
  obtain ⟨v2, vs2, d2, ds2, p2, q2, rfl, rfl, rfl, h2, r2⟩ := trodAll_cons r1
  obtain ⟨v3, vs3, d3, ds3, p3, q3, rfl, rfl, rfl, h3, r3⟩ := trodAll_cons r2
  obtain ⟨v4, vs4, d4, ds4, p4, q4, rfl, rfl, rfl, h4, r4⟩ := trodAll_cons r3
  obtain ⟨rfl, rfl, rfl⟩ := trodAll_nil r4
  obtain rfl : args = #[v0, v1, v2, v3, v4] := by cases args; simp_all
  obtain ⟨x0, rfl, w0⟩ := open_whole Try.underlying5 (hval 0 5 v0 rfl rfl) h0
  obtain ⟨x1, rfl, w1⟩ := open_whole Try.underlying5 (hval 1 5 v1 rfl rfl) h1
  obtain ⟨x2, rfl, w2⟩ := open_whole_bool Try.underlying4 (hval 2 4 v2 rfl rfl) h2
  obtain ⟨x3, rfl, w3⟩ := open_whole Try.underlying54 (hval 3 54 v3 rfl rfl) h3
  obtain ⟨x4, rfl, w4⟩ := open_whole Try.underlying54 (hval 4 54 v4 rfl rfl) h4
  obtain ⟨v, hv, hd⟩ := alone_true S0 (range_u8 w0) (range_u8 w1) (range_u32 w3) (range_u32 w4)
  have h := law_run cRl_fam Try.func12 (by kernel_rfl) [] (by kernel_rfl) rfl S0 0 (fun i k g h => by simp at h) (args0 := [.v (.int .u8 x0), .v (.int .u8 x1), .v (.bool x2), .v (.int .u32 x3), .v (.int .u32 x4)]) (H0 := []) rfl hv E0 W (hs_nil _ _ _)
  simp only [SV.dens, SV.den] at h
  exact h.mono fun e w' h => by rw [hd] at h; exact h
theorem relayAlone_holds : Rows.RelayAloneSaid :=
  OpenClaim.holds_of_wide 12 Try.f12 rfl rfl rfl rfl rfl rfl rfl ⟨rfl, rfl, rfl, rfl, rfl⟩ rfl rfl rfl rfl rfl (by kernel_rfl) Try.func12 (by kernel_rfl)
    (of_decide_eq_true (by kernel_rfl)) (by unfold Func.isWrapper; first | (rw [if_pos (by decide +kernel)]; kernel_rfl) | (rw [if_neg (by decide +kernel)]; exact ⟨rfl, rfl⟩))
    (fun os started H enc _ => relayAlone_lifted os started H enc)

end Go.Proofs.Ytfncoeoaniclmaa
