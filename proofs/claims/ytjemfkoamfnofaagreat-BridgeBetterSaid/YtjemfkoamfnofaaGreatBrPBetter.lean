import Derived.Test.YtjemfkoamfnofaaGreatOpenL2
import Derived.Test.YtjemfkoamfnofaaGreatPt
set_option linter.unusedVariables false
set_option maxRecDepth 100000
namespace Go.Proofs.YtjemfkoamfnofaaGreat
open Go.ChangeShapes Go.WideShapes Go.ChangeAt Go.RowKit
set_option maxRecDepth 100000 in
theorem bridgeBetter_lifted (os : Os) (started : os.Started) (H : Type) (enc : TypeId × Value → H) :
   ReturnsInHanded {} Tryz.checked os 6 .any (Rows.bridgeBetterSpec.pre6 enc Tryz.prog Tryz.f6 Rows.bridgeBetterRow.domain false) (Rows.bridgeBetterSpec.post enc Tryz.prog Tryz.f6 false true false false) := by
 refine law_lifted (ts := [4, 25, 5, 5, 28]) (tb := 4) Tryz.func6 (by kernel_rfl) (by kernel_rfl) (by intro t ht; simp only [List.mem_cons, List.not_mem_nil, or_false] at ht; rcases ht with rfl | rfl | rfl | rfl | rfl <;> exact ⟨by kernel_rfl, of_decide_eq_true (by kernel_rfl)⟩) (by kernel_rfl) Tryz.underlying4 rfl
   (by intro H ds hl; match ds, hl with | [d0, d1, d2, d3, d4], _ => rfl) os started H enc
   (ChangeSpec.witness6 (enc := enc) (C := Tryz.checked) false ⟨#[], #[.bool false, .slice none 0 0, .int .u8 0, .int .u8 0, .int .u16 0], []⟩ 8 (by kernel_rfl) (by kernel_rfl) (by kernel_rfl) (by kernel_rfl)) ?_
 intro W args ds ps hval hA hlt hsz
 obtain ⟨v0, vs0, d0, ds0, p0, q0, hargs, rfl, rfl, h0, r0⟩ := trodAll_cons hA
 obtain ⟨v1, vs1, d1, ds1, p1, q1, rfl, rfl, rfl, h1, r1⟩ := trodAll_cons r0
 obtain ⟨v2, vs2, d2, ds2, p2, q2, rfl, rfl, rfl, h2, r2⟩ := trodAll_cons r1
 obtain ⟨v3, vs3, d3, ds3, p3, q3, rfl, rfl, rfl, h3, r3⟩ := trodAll_cons r2
 obtain ⟨v4, vs4, d4, ds4, p4, q4, rfl, rfl, rfl, h4, r4⟩ := trodAll_cons r3
 obtain ⟨rfl, rfl, rfl⟩ := trodAll_nil r4
 obtain rfl : args = #[v0, v1, v2, v3, v4] := by cases args; simp_all
 obtain ⟨x0, rfl, w0⟩ := open_whole_bool Tryz.underlying4 (hval 0 4 v0 rfl rfl) h0
 obtain ⟨L1, hW1, hm1, hc1⟩ := came_confs (hval 1 25 v1 rfl rfl) h1
 obtain ⟨x2, rfl, w2⟩ := open_whole Tryz.underlying5 (hval 2 5 v2 rfl rfl) h2
 obtain ⟨x3, rfl, w3⟩ := open_whole Tryz.underlying5 (hval 3 5 v3 rfl rfl) h3
 obtain ⟨x4, rfl, w4⟩ := open_whole Tryz.underlying28 (hval 4 28 v4 rfl rfl) h4
 obtain ⟨E, hE⟩ := hs_came1 hc1 rfl (Nat.succ_pos _)
 obtain ⟨v, hv, hd⟩ := better_true S0 ⟨L1, false, x0, x2, x3, x4⟩ (wf_u8 w2) (wf_u8 w3)
 have h := law_run cTl_fam Tryz.func6 (by kernel_rfl) bwLs (by kernel_rfl) (by kernel_rfl) S0 1 (bwLs_ok S0) (args0 := [.v (.bool x0), .slr 0 L1.length 0 false, .v (.int .u8 x2), .v (.int .u8 x3), .v (.int .u16 x4)]) (H0 := [(0, .rows (.conf L1))]) rfl hv E W (hE S0).2
 simp only [SV.dens, (hE (S0.rd 0 1)).1] at h
 simp only [SV.den] at h
 exact h.mono fun e w' h => by rw [hd] at h; exact h
theorem bridgeBetter_holds : Rows.BridgeBetterSaid :=
 OpenClaim.holds_of_wide 6 Tryz.f6 rfl rfl rfl rfl rfl rfl rfl ⟨rfl, rfl, rfl, rfl, rfl⟩ rfl rfl rfl rfl rfl (by kernel_rfl) Tryz.func6 (by kernel_rfl)
   (of_decide_eq_true (by kernel_rfl)) (by unfold Func.isWrapper; first | (rw [if_pos (by decide +kernel)]; kernel_rfl) | (rw [if_neg (by decide +kernel)]; exact ⟨rfl, rfl⟩))
   (fun os started H enc _ => bridgeBetter_lifted os started H enc)
end Go.Proofs.YtjemfkoamfnofaaGreat
