/- 'fordlaw19.RelayGoes' holds for every input: at any bridge, and any frames, the law returns true, and what was there when it was called is as it was. -/
import Derived.Test.YtfncoeoaniclmaaOpenG
import Derived.Test.YtfncoeoaniclmaaRlK
set_option linter.unusedVariables false
set_option maxRecDepth 100000
namespace Go.Proofs.Ytfncoeoaniclmaa
open Go.ChangeShapes Go.WideShapes Go.ChangeAt Go.RowKit

set_option maxRecDepth 100000 in
theorem relayGoes_lifted (os : Os) (started : os.Started) (H : Type) (enc : TypeId × Value → H) :
    ReturnsInHanded {} Try.checked os 14 .any (Rows.relayGoesSpec.pre6 enc Try.prog Try.f14 Rows.relayGoesRow.domain false) (Rows.relayGoesSpec.post enc Try.prog Try.f14 false true false false) := by
  refine law_lifted (ts := [62, 5, 63]) (tb := 4) Try.func14 (by kernel_rfl) (by kernel_rfl) (by intro t ht; simp only [List.mem_cons, List.not_mem_nil, or_false] at ht; rcases ht with rfl | rfl | rfl <;> exact ⟨by kernel_rfl, of_decide_eq_true (by kernel_rfl)⟩) (by kernel_rfl) Try.underlying4 rfl
    (by intro H ds hl; match ds, hl with | [d0, d1, d2], _ => rfl) os started H enc
    (ChangeSpec.witness6 (enc := enc) (C := Try.checked) false ⟨#[], #[.agg #[.int .u64 0, .bool false, .int .i64 0, .int .i64 0, .int .i64 0, .int .i64 0, .int .i64 0, .int .u64 0, .int .u32 0, .int .u64 0, .int .u16 0, .int .u16 0, .int .i64 0, .int .i64 0, .int .i64 0, .int .i64 0, .int .i64 0, .slice none 0 0, .slice none 0 0, .slice none 0 0], .int .u8 0, .slice none 0 0], []⟩ 8 (by kernel_rfl) (by kernel_rfl) (by kernel_rfl) (by kernel_rfl)) ?_
  intro W args ds ps hval hA hlt hsz
  obtain ⟨v0, vs0, d0, ds0, p0, q0, hargs, rfl, rfl, h0, r0⟩ := trodAll_cons hA
  obtain ⟨v1, vs1, d1, ds1, p1, q1, rfl, rfl, rfl, h1, r1⟩ := trodAll_cons r0
  obtain ⟨v2, vs2, d2, ds2, p2, q2, rfl, rfl, rfl, h2, r2⟩ := trodAll_cons r1
  obtain ⟨rfl, rfl, rfl⟩ := trodAll_nil r2
  obtain rfl : args = #[v0, v1, v2] := by cases args; simp_all
  obtain ⟨q, a0, a1, a2, c0, c1, c2, m0, m1, m2, hq, g0, g1, g2⟩ := open_bri (hval 0 62 v0 rfl rfl) h0
  obtain ⟨x1, rfl, w1⟩ := open_whole Try.underlying5 (hval 1 5 v1 rfl rfl) h1
  obtain ⟨L, a3, c3, hL, hm, hv0, g3⟩ := open_frames (hval 2 63 v2 rfl rfl) h2
  obtain ⟨v, hv, hd⟩ := goes_true S0 q x1 L (range_u8 w1) hL m0
  have h := law_run cGoB_fam Try.func14 (by kernel_rfl) goesLs (by kernel_rfl) (by kernel_rfl) S0 4 (goesLs_ok S0) (args0 := [q.arg, .v (.int .u8 x1), .slr 3 L.length 3 false]) (H0 := q.heap [(3, .rows (.frame L))]) rfl hv (fourE a0 a1 a2 a3 c0 c1 c2 c3) W (hs_briF g0 g1 g2 g3)
  have e0 := fun S => hq S (fourE a0 a1 a2 a3 c0 c1 c2 c3) rfl rfl rfl rfl rfl rfl
  have e1 := fun S => hv0 (fourE a0 a1 a2 a3 c0 c1 c2 c3) 3 S rfl rfl
  simp only [SV.dens, e0, e1] at h
  simp only [SV.den, Rec.cells] at h
  exact h.mono fun e w' h => by rw [hd] at h; exact h
theorem relayGoes_holds : Rows.RelayGoesSaid :=
  OpenClaim.holds_of_wide 14 Try.f14 rfl rfl rfl rfl rfl rfl rfl ⟨rfl, rfl, rfl, rfl, rfl⟩ rfl rfl rfl rfl rfl (by kernel_rfl) Try.func14 (by kernel_rfl)
    (of_decide_eq_true (by kernel_rfl)) (by unfold Func.isWrapper; first | (rw [if_pos (by decide +kernel)]; kernel_rfl) | (rw [if_neg (by decide +kernel)]; exact ⟨rfl, rfl⟩))
    (fun os started H enc _ => relayGoes_lifted os started H enc)

end Go.Proofs.Ytfncoeoaniclmaa
