import Derived.Test.YtjemfkoamfnofaaGreatOpenL2
import Derived.Test.YtjemfkoamfnofaaGreatPw
set_option linter.unusedVariables false
set_option maxRecDepth 100000
namespace Go.Proofs.YtjemfkoamfnofaaGreat
open Go.ChangeShapes Go.WideShapes Go.ChangeAt Go.RowKit
set_option maxRecDepth 100000 in
theorem bridgeHold_lifted (os : Os) (started : os.Started) (H : Type) (enc : TypeId × Value → H) :
   ReturnsInHanded {} Tryz.checked os 9 .any (Rows.bridgeHoldSpec.pre6 enc Tryz.prog Tryz.f9 Rows.bridgeHoldRow.domain false) (Rows.bridgeHoldSpec.post enc Tryz.prog Tryz.f9 false true false false) := by
 refine law_lifted (ts := [4, 25, 43]) (tb := 4) Tryz.func9 (by kernel_rfl) (by kernel_rfl) (by intro t ht; simp only [List.mem_cons, List.not_mem_nil, or_false] at ht; rcases ht with rfl | rfl | rfl <;> exact ⟨by kernel_rfl, of_decide_eq_true (by kernel_rfl)⟩) (by kernel_rfl) Tryz.underlying4 rfl
   (by intro H ds hl; match ds, hl with | [d0, d1, d2], _ => rfl) os started H enc
   (ChangeSpec.witness6 (enc := enc) (C := Tryz.checked) false ⟨#[], #[.bool false, .slice none 0 0, .slice none 0 0], []⟩ 8 (by kernel_rfl) (by kernel_rfl) (by kernel_rfl) (by kernel_rfl)) ?_
 intro W args ds ps hval hA hlt hsz
 obtain ⟨v0, vs0, d0, ds0, p0, q0, hargs, rfl, rfl, h0, r0⟩ := trodAll_cons hA
 obtain ⟨v1, vs1, d1, ds1, p1, q1, rfl, rfl, rfl, h1, r1⟩ := trodAll_cons r0
 obtain ⟨v2, vs2, d2, ds2, p2, q2, rfl, rfl, rfl, h2, r2⟩ := trodAll_cons r1
 obtain ⟨rfl, rfl, rfl⟩ := trodAll_nil r2
 obtain rfl : args = #[v0, v1, v2] := by cases args; simp_all
 obtain ⟨x0, rfl, w0⟩ := open_whole_bool Tryz.underlying4 (hval 0 4 v0 rfl rfl) h0
 obtain ⟨L1, hW1, hm1, hc1⟩ := came_confs (hval 1 25 v1 rfl rfl) h1
 obtain ⟨L2, hW2, hm2, hc2⟩ := came_todos (hval 2 43 v2 rfl rfl) h2
 obtain ⟨E, hE⟩ := hs_came2 hc1 hc2 rfl rfl
 obtain ⟨v, hv, hd⟩ := hold_true S0 ⟨L1, L2, false, false, x0⟩ (fun a ha => (hW2 a ha).2.1)
 have h := law_run cTl_fam Tryz.func9 (by kernel_rfl) hwLs (by kernel_rfl) (by kernel_rfl) S0 2 (hwLs_ok S0) (args0 := [.v (.bool x0), .slr 0 L1.length 0 false, .slr 1 L2.length 1 false]) (H0 := [(0, .rows (.conf L1)), (1, .rows (.todo L2))]) rfl hv E W (hE S0).2.2
 simp only [SV.dens, (hE (S0.rd 0 2)).1, (hE (S0.rd 0 2)).2.1] at h
 simp only [SV.den] at h
 exact h.mono fun e w' h => by rw [hd] at h; exact h
theorem bridgeHold_holds : Rows.BridgeHoldSaid :=
 OpenClaim.holds_of_wide 9 Tryz.f9 rfl rfl rfl rfl rfl rfl rfl ⟨rfl, rfl, rfl, rfl, rfl⟩ rfl rfl rfl rfl rfl (by kernel_rfl) Tryz.func9 (by kernel_rfl)
   (of_decide_eq_true (by kernel_rfl)) (by unfold Func.isWrapper; first | (rw [if_pos (by decide +kernel)]; kernel_rfl) | (rw [if_neg (by decide +kernel)]; exact ⟨rfl, rfl⟩))
   (fun os started H enc _ => bridgeHold_lifted os started H enc)
end Go.Proofs.YtjemfkoamfnofaaGreat
