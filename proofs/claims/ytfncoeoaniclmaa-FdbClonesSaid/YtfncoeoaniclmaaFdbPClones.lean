/- 'fordlaw07.FdbClones' holds for every input: at any lists and numbers the law returns true, and what was there when it was called is as it was. -/
import Derived.Test.YtfncoeoaniclmaaOpenL
import Derived.Test.YtfncoeoaniclmaaFdbRc
set_option linter.unusedVariables false
set_option maxRecDepth 100000
namespace Go.Proofs.Ytfncoeoaniclmaa
open Go.ChangeShapes Go.WideShapes Go.ChangeAt Go.RowKit

set_option maxRecDepth 100000 in
theorem fdbClones_lifted (os : Os) (started : os.Started) (H : Type) (enc : TypeId × Value → H) :
    ReturnsInHanded {} Try.checked os 9 .any (Rows.fdbClonesSpec.pre6 enc Try.prog Try.f9 Rows.fdbClonesRow.domain false) (Rows.fdbClonesSpec.post enc Try.prog Try.f9 false true false false) := by
  refine law_lifted (ts := [48, 28, 5]) (tb := 4) Try.func9 (by kernel_rfl) (by kernel_rfl) (by intro t ht; simp only [List.mem_cons, List.not_mem_nil, or_false] at ht; rcases ht with rfl | rfl | rfl <;> exact ⟨by kernel_rfl, of_decide_eq_true (by kernel_rfl)⟩) (by kernel_rfl) Try.underlying4 rfl
    (by intro H ds hl; match ds, hl with | [d0, d1, d2], _ => rfl) os started H enc
    (ChangeSpec.witness6 (enc := enc) (C := Try.checked) false ⟨#[], #[.slice none 0 0, .int .u64 0, .int .u8 0], []⟩ 8 (by kernel_rfl) (by kernel_rfl) (by kernel_rfl) (by kernel_rfl)) ?_
  intro W args ds ps hval hA hlt hsz
  obtain ⟨v0, vs0, d0, ds0, p0, q0, hargs, rfl, rfl, h0, r0⟩ := trodAll_cons hA
  obtain ⟨v1, vs1, d1, ds1, p1, q1, rfl, rfl, rfl, h1, r1⟩ := trodAll_cons r0
  obtain ⟨v2, vs2, d2, ds2, p2, q2, rfl, rfl, rfl, h2, r2⟩ := trodAll_cons r1
  obtain ⟨rfl, rfl, rfl⟩ := trodAll_nil r2
  obtain rfl : args = #[v0, v1, v2] := by cases args; simp_all
  obtain ⟨L, a, c, hL, hm, hv0, hs⟩ := open_u64s Try.underlying48 Try.underlying28 (by kernel_rfl) (by kernel_rfl) (hval 0 48 v0 rfl rfl) h0
  obtain ⟨x1, rfl, w1⟩ := open_whole Try.underlying28 (hval 1 28 v1 rfl rfl) h1
  obtain ⟨x2, rfl, w2⟩ := open_whole Try.underlying5 (hval 2 5 v2 rfl rfl) h2
  obtain ⟨v, hv, hd⟩ := clones_true S0 L x1 x2
  have h := law_run cX_fam Try.func9 (by kernel_rfl) clonesLs (by kernel_rfl) (by kernel_rfl) S0 1 (clonesLs_ok S0) (args0 := [.slr 0 L.length 0 false, .v (.int .u64 x1), .v (.int .u8 x2)]) (H0 := [(0, .rows (.int .u64 L))]) rfl hv (oneE a c) W (hs S0)
  simp only [SV.dens, hv0] at h
  simp only [SV.den] at h
  exact h.mono fun e w' h => by rw [hd] at h; exact h
theorem fdbClones_holds : Rows.FdbClonesSaid :=
  OpenClaim.holds_of_wide 9 Try.f9 rfl rfl rfl rfl rfl rfl rfl ⟨rfl, rfl, rfl, rfl, rfl⟩ rfl rfl rfl rfl rfl (by kernel_rfl) Try.func9 (by kernel_rfl)
    (of_decide_eq_true (by kernel_rfl)) (by unfold Func.isWrapper; first | (rw [if_pos (by decide +kernel)]; kernel_rfl) | (rw [if_neg (by decide +kernel)]; exact ⟨rfl, rfl⟩))
    (fun os started H enc _ => fdbClones_lifted os started H enc)

end Go.Proofs.Ytfncoeoaniclmaa
