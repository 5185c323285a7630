/- 'fordlaw07.FdbPlays' holds for every input: at any lists and numbers the law returns true, and what was there when it was called is as it was. -/
import Derived.Test.YtfncoeoaniclmaaOpenL
import Derived.Test.YtfncoeoaniclmaaFdbPl
set_option linter.unusedVariables false
set_option maxRecDepth 100000
namespace Go.Proofs.Ytfncoeoaniclmaa
open Go.ChangeShapes Go.WideShapes Go.ChangeAt Go.RowKit

set_option maxRecDepth 100000 in
theorem fdbPlays_lifted (os : Os) (started : os.Started) (H : Type) (enc : TypeId × Value → H) :
    ReturnsInHanded {} Try.checked os 7 .any (Rows.fdbPlaysSpec.pre6 enc Try.prog Try.f7 Rows.fdbPlaysRow.domain false) (Rows.fdbPlaysSpec.post enc Try.prog Try.f7 false true false false) := by
  refine law_lifted (ts := [5, 5, 32]) (tb := 4) Try.func7 (by kernel_rfl) (by kernel_rfl) (by intro t ht; simp only [List.mem_cons, List.not_mem_nil, or_false] at ht; rcases ht with rfl | rfl | rfl <;> exact ⟨by kernel_rfl, of_decide_eq_true (by kernel_rfl)⟩) (by kernel_rfl) Try.underlying4 rfl
    (by intro H ds hl; match ds, hl with | [d0, d1, d2], _ => rfl) os started H enc
    (ChangeSpec.witness6 (enc := enc) (C := Try.checked) false ⟨#[], #[.int .u8 0, .int .u8 0, .slice none 0 0], []⟩ 8 (by kernel_rfl) (by kernel_rfl) (by kernel_rfl) (by kernel_rfl)) ?_
  intro W args ds ps hval hA hlt hsz
  obtain ⟨v0, vs0, d0, ds0, p0, q0, hargs, rfl, rfl, h0, r0⟩ := trodAll_cons hA
  obtain ⟨v1, vs1, d1, ds1, p1, q1, rfl, rfl, rfl, h1, r1⟩ := trodAll_cons r0
  obtain ⟨v2, vs2, d2, ds2, p2, q2, rfl, rfl, rfl, h2, r2⟩ := trodAll_cons r1
  obtain ⟨rfl, rfl, rfl⟩ := trodAll_nil r2
  obtain rfl : args = #[v0, v1, v2] := by cases args; simp_all
  obtain ⟨x0, rfl, w0⟩ := open_whole Try.underlying5 (hval 0 5 v0 rfl rfl) h0
  obtain ⟨x1, rfl, w1⟩ := open_whole Try.underlying5 (hval 1 5 v1 rfl rfl) h1
  obtain ⟨L, a, c, hL, hm, hv0, hs⟩ := open_facts (hval 2 32 v2 rfl rfl) h2
  obtain ⟨v, hv, hd⟩ := plays_true S0 x0 x1 L (range_u8 w0) (range_u8 w1) hL
  have h := law_run cY_fam Try.func7 (by kernel_rfl) playsLs (by kernel_rfl) (by kernel_rfl) S0 1 (playsLs_ok S0) (args0 := [.v (.int .u8 x0), .v (.int .u8 x1), .slr 0 L.length 0 false]) (H0 := [(0, .rows (.fact L))]) rfl hv (oneE a c) W (hs S0)
  simp only [SV.dens, hv0] at h
  simp only [SV.den] at h
  exact h.mono fun e w' h => by rw [hd] at h; exact h
theorem fdbPlays_holds : Rows.FdbPlaysSaid :=
  OpenClaim.holds_of_wide 7 Try.f7 rfl rfl rfl rfl rfl rfl rfl ⟨rfl, rfl, rfl, rfl, rfl⟩ rfl rfl rfl rfl rfl (by kernel_rfl) Try.func7 (by kernel_rfl)
    (of_decide_eq_true (by kernel_rfl)) (by unfold Func.isWrapper; first | (rw [if_pos (by decide +kernel)]; kernel_rfl) | (rw [if_neg (by decide +kernel)]; exact ⟨rfl, rfl⟩))
    (fun os started H enc _ => fdbPlays_lifted os started H enc)

end Go.Proofs.Ytfncoeoaniclmaa
