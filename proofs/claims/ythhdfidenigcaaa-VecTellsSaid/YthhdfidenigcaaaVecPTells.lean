/- 'fordlaw03.VecTells' holds for every input: the law returns true at any two vectors (and any numbers), and what was there when it was called is as it was. -/
import Derived.Test.YthhdfidenigcaaaVecP
set_option linter.unusedVariables false
set_option maxRecDepth 100000
namespace Go.Proofs.Ythhdfidenigcaaa
open Go.ChangeShapes Go.WideShapes Go.ChangeAt Go.RowKit


theorem tells_walk (a : Vec) (b : Vec) (x : Int) (y : Int) (hr : rTells a b x y = true) (w : World) : Calls Try.prog 7 #[.agg a.cells.toArray, .agg b.cells.toArray, .int .u32 x, .int .u16 y] w fun e w' => e = .returned (.bool true) ∧ Fr w w' (fun _ _ => False) := by
  have h := pure_join (S := S0) (rdCtx_ok psE_ok S0.free) (fuel := 20) Try.func7 (by kernel_rfl) (args := [.rcd (.vec a), .rcd (.vec b), .v (.int .u32 x), .v (.int .u16 y)]) (y := .v (.bool (rTells a b x y))) rfl (by kernel_rfl) rfl
  rw [hr] at h
  exact h.2 E0 w

set_option maxRecDepth 100000 in
theorem vecTells_lifted (os : Os) (started : os.Started) (H : Type) (enc : TypeId × Value → H) :
    ReturnsInHanded {} Try.checked os 7 .any (Rows.vecTellsSpec.pre6 enc Try.prog Try.f7 Rows.vecTellsRow.domain false) (Rows.vecTellsSpec.post enc Try.prog Try.f7 false true false false) := by
  refine law_lifted (ts := [26, 26, 23, 24]) (tb := 4) Try.func7 (by kernel_rfl) (by kernel_rfl) (by intro t ht; simp only [List.mem_cons, List.not_mem_nil, or_false] at ht; rcases ht with rfl | rfl | rfl | rfl <;> exact ⟨by kernel_rfl, of_decide_eq_true (by kernel_rfl)⟩) (by kernel_rfl) Try.underlying4 rfl
    (by intro H ds hl; match ds, hl with | [d0, d1, d2, d3], _ => rfl) os started H enc
    (ChangeSpec.witness6 (enc := enc) (C := Try.checked) false ⟨#[], #[.agg #[.int .u64 0, .int .u32 0, .int .u64 0, .int .u16 0, .int .u16 0], .agg #[.int .u64 0, .int .u32 0, .int .u64 0, .int .u16 0, .int .u16 0], .int .u32 0, .int .u16 0], []⟩ 8 (by kernel_rfl) (by kernel_rfl) (by kernel_rfl) (by kernel_rfl)) ?_
  intro W args ds ps hval hA hlt hsz
  obtain ⟨v0, vs0, d0, ds0, p0, q0, hargs, rfl, rfl, h0, r0⟩ := trodAll_cons hA
  obtain ⟨v1, vs1, d1, ds1, p1, q1, rfl, rfl, rfl, h1, r1⟩ := trodAll_cons r0
  obtain ⟨v2, vs2, d2, ds2, p2, q2, rfl, rfl, rfl, h2, r2⟩ := trodAll_cons r1
  obtain ⟨v3, vs3, d3, ds3, p3, q3, rfl, rfl, rfl, h3, r3⟩ := trodAll_cons r2
  obtain ⟨rfl, rfl, rfl⟩ := trodAll_nil r3
  obtain rfl : args = #[v0, v1, v2, v3] := by cases args; simp_all
  obtain ⟨x0, rfl, w0⟩ := open_vec (hval 0 26 v0 rfl rfl) h0
  obtain ⟨x1, rfl, w1⟩ := open_vec (hval 1 26 v1 rfl rfl) h1
  obtain ⟨x2, rfl, w2⟩ := open_whole Try.underlying23 (hval 2 23 v2 rfl rfl) h2
  obtain ⟨x3, rfl, w3⟩ := open_whole Try.underlying24 (hval 3 24 v3 rfl rfl) h3
  exact tells_walk x0 x1 x2 x3 (rTells_true w0 w1) W
theorem vecTells_holds : Rows.VecTellsSaid :=
  OpenClaim.holds_of_wide 7 Try.f7 rfl rfl rfl rfl rfl rfl rfl ⟨rfl, rfl, rfl, rfl, rfl⟩ rfl rfl rfl rfl rfl (by kernel_rfl) Try.func7 (by kernel_rfl)
    (of_decide_eq_true (by kernel_rfl)) (by unfold Func.isWrapper; first | (rw [if_pos (by decide +kernel)]; kernel_rfl) | (rw [if_neg (by decide +kernel)]; exact ⟨rfl, rfl⟩))
    (fun os started H enc _ => vecTells_lifted os started H enc)

end Go.Proofs.Ythhdfidenigcaaa
