/- 'fordlaw13.InfoHears' holds for every input: at any bridge, any number of a port, and any message the law returns true, and what was there when it was called is as it was. -/
import Derived.Test.YthhdfidenigcaaaOpenB
import Derived.Test.YthhdfidenigcaaaInfoY
set_option linter.unusedVariables false
set_option maxRecDepth 100000
namespace Go.Proofs.Ythhdfidenigcaaa
open Go.ChangeShapes Go.WideShapes Go.ChangeAt Go.RowKit

set_option maxRecDepth 100000 in
theorem infoHears_lifted (os : Os) (started : os.Started) (H : Type) (enc : TypeId × Value → H) :
    ReturnsInHanded {} Try.checked os 15 .any (Rows.infoHearsSpec.pre6 enc Try.prog Try.f15 Rows.infoHearsRow.domain false) (Rows.infoHearsSpec.post enc Try.prog Try.f15 false true false false) := by
  refine law_lifted (ts := [42, 5, 57]) (tb := 4) Try.func15 (by kernel_rfl) (by kernel_rfl) (by intro t ht; simp only [List.mem_cons, List.not_mem_nil, or_false] at ht; rcases ht with rfl | rfl | rfl <;> exact ⟨by kernel_rfl, of_decide_eq_true (by kernel_rfl)⟩) (by kernel_rfl) Try.underlying4 rfl
    (by intro H ds hl; match ds, hl with | [d0, d1, d2], _ => rfl) os started H enc
    (ChangeSpec.witness6 (enc := enc) (C := Try.checked) false ⟨#[], #[.agg #[.int .u64 0, .bool false, .int .i64 0, .int .i64 0, .int .i64 0, .int .i64 0, .int .i64 0, .int .u64 0, .int .u32 0, .int .u64 0, .int .u16 0, .int .u16 0, .int .i64 0, .int .i64 0, .int .i64 0, .int .i64 0, .int .i64 0, .slice none 0 0, .slice none 0 0, .slice none 0 0], .int .u8 0, .agg #[.int .i64 0, .bool false, .bool false, .bool false, .bool false, .bool false, .bool false, .int .i64 0, .int .u64 0, .int .u32 0, .int .u64 0, .int .u16 0, .int .u16 0, .int .i64 0, .int .i64 0, .int .i64 0, .int .i64 0]], []⟩ 8 (by kernel_rfl) (by kernel_rfl) (by kernel_rfl) (by kernel_rfl)) ?_
  intro W args ds ps hval hA hlt hsz
  obtain ⟨v0, vs0, d0, ds0, p0, q0, hargs, rfl, rfl, h0, r0⟩ := trodAll_cons hA
  obtain ⟨v1, vs1, d1, ds1, p1, q1, rfl, rfl, rfl, h1, r1⟩ := trodAll_cons r0
  obtain ⟨v2, vs2, d2, ds2, p2, q2, rfl, rfl, rfl, h2, r2⟩ := trodAll_cons r1
  obtain ⟨rfl, rfl, rfl⟩ := trodAll_nil r2
  obtain rfl : args = #[v0, v1, v2] := by cases args; simp_all
  obtain ⟨q, E, hw, hl, hq⟩ := open_bri (hval 0 42 v0 rfl rfl) h0
  obtain ⟨x1, rfl, w1⟩ := open_whole Try.underlying5 (hval 1 5 v1 rfl rfl) h1
  obtain ⟨x2, rfl, w2⟩ := open_msgA (hval 2 57 v2 rfl rfl) h2
  obtain ⟨v, hv, hd⟩ := ihe_true S0 q x1 x2 hl hw w1 w2
  have h := law_run cV_fam Try.func15 (by kernel_rfl) [] (by kernel_rfl) rfl S0 3 (fun i k g h => by simp at h) (args0 := [q.arg, .v (.int .u8 x1), .rcd (.msg x2)]) (H0 := q.heap) rfl hv E W (hq S0).2
  simp only [SV.dens, (hq (S0.rd 0 3)).1] at h
  exact h.mono fun e w' h => by rw [hd] at h; exact h
theorem infoHears_holds : Rows.InfoHearsSaid :=
  OpenClaim.holds_of_wide 15 Try.f15 rfl rfl rfl rfl rfl rfl rfl ⟨rfl, rfl, rfl, rfl, rfl⟩ rfl rfl rfl rfl rfl (by kernel_rfl) Try.func15 (by kernel_rfl)
    (of_decide_eq_true (by kernel_rfl)) (by unfold Func.isWrapper; first | (rw [if_pos (by decide +kernel)]; kernel_rfl) | (rw [if_neg (by decide +kernel)]; exact ⟨rfl, rfl⟩))
    (fun os started H enc _ => infoHears_lifted os started H enc)

end Go.Proofs.Ythhdfidenigcaaa
