/- 'fordlaw07.FdbPorts' holds for every input: at any lists and numbers the law returns true, and what was there when it was called is as it was. -/
import Derived.Test.YtfncoeoaniclmaaOpenL
import Derived.Test.YtfncoeoaniclmaaFdbR
set_option linter.unusedVariables false
set_option maxRecDepth 100000
namespace Go.Proofs.Ytfncoeoaniclmaa
open Go.ChangeShapes Go.WideShapes Go.ChangeAt Go.RowKit

set_option maxRecDepth 100000 in
theorem fdbPorts_lifted (os : Os) (started : os.Started) (H : Type) (enc : TypeId × Value → H) :
    ReturnsInHanded {} Try.checked os 8 .any (Rows.fdbPortsSpec.pre6 enc Try.prog Try.f8 Rows.fdbPortsRow.domain false) (Rows.fdbPortsSpec.post enc Try.prog Try.f8 false true false false) := by
  refine law_lifted (ts := [48, 5]) (tb := 4) Try.func8 (by kernel_rfl) (by kernel_rfl) (by intro t ht; simp only [List.mem_cons, List.not_mem_nil, or_false] at ht; rcases ht with rfl | rfl <;> exact ⟨by kernel_rfl, of_decide_eq_true (by kernel_rfl)⟩) (by kernel_rfl) Try.underlying4 rfl
    (by intro H ds hl; match ds, hl with | [d0, d1], _ => rfl) os started H enc
    (ChangeSpec.witness6 (enc := enc) (C := Try.checked) false ⟨#[], #[.slice none 0 0, .int .u8 0], []⟩ 8 (by kernel_rfl) (by kernel_rfl) (by kernel_rfl) (by kernel_rfl)) ?_
  intro W args ds ps hval hA hlt hsz
  obtain ⟨v0, vs0, d0, ds0, p0, q0, hargs, rfl, rfl, h0, r0⟩ := trodAll_cons hA
  obtain ⟨v1, vs1, d1, ds1, p1, q1, rfl, rfl, rfl, h1, r1⟩ := trodAll_cons r0
  obtain ⟨rfl, rfl, rfl⟩ := trodAll_nil r1
  obtain rfl : args = #[v0, v1] := by cases args; simp_all
  obtain ⟨L, a, c, hL, hm, hv0, hs⟩ := open_u64s Try.underlying48 Try.underlying28 (by kernel_rfl) (by kernel_rfl) (hval 0 48 v0 rfl rfl) h0
  obtain ⟨x1, rfl, w1⟩ := open_whole Try.underlying5 (hval 1 5 v1 rfl rfl) h1
  obtain ⟨v, hv, hd⟩ := ports_true S0 L x1
  have h := law_run cV_fam Try.func8 (by kernel_rfl) portsLs (by kernel_rfl) (by kernel_rfl) S0 1 (portsLs_ok S0) (args0 := [.slr 0 L.length 0 false, .v (.int .u8 x1)]) (H0 := [(0, .rows (.int .u64 L))]) rfl hv (oneE a c) W (hs S0)
  simp only [SV.dens, hv0] at h
  simp only [SV.den] at h
  exact h.mono fun e w' h => by rw [hd] at h; exact h
theorem fdbPorts_holds : Rows.FdbPortsSaid :=
  OpenClaim.holds_of_wide 8 Try.f8 rfl rfl rfl rfl rfl rfl rfl ⟨rfl, rfl, rfl, rfl, rfl⟩ rfl rfl rfl rfl rfl (by kernel_rfl) Try.func8 (by kernel_rfl)
    (of_decide_eq_true (by kernel_rfl)) (by unfold Func.isWrapper; first | (rw [if_pos (by decide +kernel)]; kernel_rfl) | (rw [if_neg (by decide +kernel)]; exact ⟨rfl, rfl⟩))
    (fun os started H enc _ => fdbPorts_lifted os started H enc)

end Go.Proofs.Ytfncoeoaniclmaa
