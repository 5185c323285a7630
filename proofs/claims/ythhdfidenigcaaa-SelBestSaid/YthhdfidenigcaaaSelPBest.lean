/- 'fordlaw14.SelBest' holds for every input: at any bridge the law returns true, and what was there when it was called is as it was. -/
import Derived.Test.YthhdfidenigcaaaOpenB
import Derived.Test.YthhdfidenigcaaaSelS
set_option linter.unusedVariables false
set_option maxRecDepth 100000
namespace Go.Proofs.Ythhdfidenigcaaa
open Go.ChangeShapes Go.WideShapes Go.ChangeAt Go.RowKit

set_option maxRecDepth 100000 in
theorem selBest_lifted (os : Os) (started : os.Started) (H : Type) (enc : TypeId × Value → H) :
    ReturnsInHanded {} Try.checked os 9 .any (Rows.selBestSpec.pre6 enc Try.prog Try.f9 Rows.selBestRow.domain false) (Rows.selBestSpec.post enc Try.prog Try.f9 false true false false) := by
  refine law_lifted (ts := [42]) (tb := 4) Try.func9 (by kernel_rfl) (by kernel_rfl) (by intro t ht; simp only [List.mem_cons, List.not_mem_nil, or_false] at ht; rcases ht with rfl <;> exact ⟨by kernel_rfl, of_decide_eq_true (by kernel_rfl)⟩) (by kernel_rfl) Try.underlying4 rfl
    (by intro H ds hl; match ds, hl with | [d0], _ => rfl) os started H enc
    (ChangeSpec.witness6 (enc := enc) (C := Try.checked) false ⟨#[], #[.agg #[.int .u64 0, .bool false, .int .i64 0, .int .i64 0, .int .i64 0, .int .i64 0, .int .i64 0, .int .u64 0, .int .u32 0, .int .u64 0, .int .u16 0, .int .u16 0, .int .i64 0, .int .i64 0, .int .i64 0, .int .i64 0, .int .i64 0, .slice none 0 0, .slice none 0 0, .slice none 0 0]], []⟩ 8 (by kernel_rfl) (by kernel_rfl) (by kernel_rfl) (by kernel_rfl)) ?_
  intro W args ds ps hval hA hlt hsz
  obtain ⟨v0, vs0, d0, ds0, p0, q0, hargs, rfl, rfl, h0, r0⟩ := trodAll_cons hA
  obtain ⟨rfl, rfl, rfl⟩ := trodAll_nil r0
  obtain rfl : args = #[v0] := by cases args; simp_all
  obtain ⟨q, E, hw, hl, hq⟩ := open_bri (hval 0 42 v0 rfl rfl) h0
  obtain ⟨v, hv, hd⟩ := bst_true S0 q hl hw
  have h := law_run cL_fam Try.func9 (by kernel_rfl) [(9, gBst1), (17, gBst2), (23, gBst3)] (by kernel_rfl) rfl S0 3 (fun i k g h => match i, h with | 0, h => by obtain ⟨rfl, rfl⟩ := Prod.mk.inj (Option.some.inj h); exact gBst1_ok _ _ | 1, h => by obtain ⟨rfl, rfl⟩ := Prod.mk.inj (Option.some.inj h); exact gBst2_ok _ _ | 2, h => by obtain ⟨rfl, rfl⟩ := Prod.mk.inj (Option.some.inj h); exact gBst3_ok _ _) (args0 := [q.arg]) (H0 := q.heap) rfl hv E W (hq S0).2
  simp only [SV.dens, (hq (S0.rd 0 3)).1] at h
  exact h.mono fun e w' h => by rw [hd] at h; exact h
theorem selBest_holds : Rows.SelBestSaid :=
  OpenClaim.holds_of_wide 9 Try.f9 rfl rfl rfl rfl rfl rfl rfl ⟨rfl, rfl, rfl, rfl, rfl⟩ rfl rfl rfl rfl rfl (by kernel_rfl) Try.func9 (by kernel_rfl)
    (of_decide_eq_true (by kernel_rfl)) (by unfold Func.isWrapper; first | (rw [if_pos (by decide +kernel)]; kernel_rfl) | (rw [if_neg (by decide +kernel)]; exact ⟨rfl, rfl⟩))
    (fun os started H enc _ => selBest_lifted os started H enc)

end Go.Proofs.Ythhdfidenigcaaa
