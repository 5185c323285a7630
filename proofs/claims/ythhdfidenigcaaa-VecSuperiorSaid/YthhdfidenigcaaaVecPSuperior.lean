/- 'fordlaw03.VecSuperior' holds for every input: the law returns true at any two vectors (and any numbers), and what was there when it was called is as it was. -/
import Derived.Test.YthhdfidenigcaaaVecP
set_option linter.unusedVariables false
set_option maxRecDepth 100000
namespace Go.Proofs.Ythhdfidenigcaaa
open Go.ChangeShapes Go.WideShapes Go.ChangeAt Go.RowKit


theorem superior_walk (a : Vec) (b : Vec) (hr : rSuperior a b = true) (w : World) : Calls Try.prog 6 #[.agg a.cells.toArray, .agg b.cells.toArray] w fun e w' => e = .returned (.bool true) ∧ Fr w w' (fun _ _ => False) := by
  have h := pure_join (S := S0) (rdCtx_ok psE_ok S0.free) (fuel := 20) Try.func6 (by kernel_rfl) (args := [.rcd (.vec a), .rcd (.vec b)]) (y := .v (.bool (rSuperior a b))) rfl (by kernel_rfl) rfl
  rw [hr] at h
  exact h.2 E0 w

set_option maxRecDepth 100000 in
theorem vecSuperior_lifted (os : Os) (started : os.Started) (H : Type) (enc : TypeId × Value → H) :
    ReturnsInHanded {} Try.checked os 6 .any (Rows.vecSuperiorSpec.pre6 enc Try.prog Try.f6 Rows.vecSuperiorRow.domain false) (Rows.vecSuperiorSpec.post enc Try.prog Try.f6 false true false false) := by
  refine law_lifted (ts := [26, 26]) (tb := 4) Try.func6 (by kernel_rfl) (by kernel_rfl) (by intro t ht; simp only [List.mem_cons, List.not_mem_nil, or_false] at ht; rcases ht with rfl | rfl <;> exact ⟨by kernel_rfl, of_decide_eq_true (by kernel_rfl)⟩) (by kernel_rfl) Try.underlying4 rfl
    (by intro H ds hl; match ds, hl with | [d0, d1], _ => rfl) os started H enc
    (ChangeSpec.witness6 (enc := enc) (C := Try.checked) false ⟨#[], #[.agg #[.int .u64 0, .int .u32 0, .int .u64 0, .int .u16 0, .int .u16 0], .agg #[.int .u64 0, .int .u32 0, .int .u64 0, .int .u16 0, .int .u16 0]], []⟩ 8 (by kernel_rfl) (by kernel_rfl) (by kernel_rfl) (by kernel_rfl)) ?_
  intro W args ds ps hval hA hlt hsz
  obtain ⟨v0, vs0, d0, ds0, p0, q0, hargs, rfl, rfl, h0, r0⟩ := trodAll_cons hA
  obtain ⟨v1, vs1, d1, ds1, p1, q1, rfl, rfl, rfl, h1, r1⟩ := trodAll_cons r0
  obtain ⟨rfl, rfl, rfl⟩ := trodAll_nil r1
  obtain rfl : args = #[v0, v1] := by cases args; simp_all
  obtain ⟨x0, rfl, w0⟩ := open_vec (hval 0 26 v0 rfl rfl) h0
  obtain ⟨x1, rfl, w1⟩ := open_vec (hval 1 26 v1 rfl rfl) h1
  exact superior_walk x0 x1 (rSuperior_true w0 w1) W
theorem vecSuperior_holds : Rows.VecSuperiorSaid :=
  OpenClaim.holds_of_wide 6 Try.f6 rfl rfl rfl rfl rfl rfl rfl ⟨rfl, rfl, rfl, rfl, rfl⟩ rfl rfl rfl rfl rfl (by kernel_rfl) Try.func6 (by kernel_rfl)
    (of_decide_eq_true (by kernel_rfl)) (by unfold Func.isWrapper; first | (rw [if_pos (by decide +kernel)]; kernel_rfl) | (rw [if_neg (by decide +kernel)]; exact ⟨rfl, rfl⟩))
    (fun os started H enc _ => vecSuperior_lifted os started H enc)

end Go.Proofs.Ythhdfidenigcaaa
