/- 'fordlaw13.InfoOthers' holds for every input: at any bridge, and any number of a port, the law returns true, and what was there when it was called is as it was. -/
import Derived.Test.YthhdfidenigcaaaOpenB
import Derived.Test.YthhdfidenigcaaaInfoZ
set_option linter.unusedVariables false
set_option maxRecDepth 100000
namespace Go.Proofs.Ythhdfidenigcaaa
open Go.ChangeShapes Go.WideShapes Go.ChangeAt Go.RowKit

set_option maxRecDepth 100000 in
theorem infoOthers_lifted (os : Os) (started : os.Started) (H : Type) (enc : TypeId × Value → H) :
    ReturnsInHanded {} Try.checked os 18 .any (Rows.infoOthersSpec.pre6 enc Try.prog Try.f18 Rows.infoOthersRow.domain false) (Rows.infoOthersSpec.post enc Try.prog Try.f18 false true false false) := by
  refine law_lifted (ts := [42, 5]) (tb := 4) Try.func18 (by kernel_rfl) (by kernel_rfl) (by intro t ht; simp only [List.mem_cons, List.not_mem_nil, or_false] at ht; rcases ht with rfl | rfl <;> exact ⟨by kernel_rfl, of_decide_eq_true (by kernel_rfl)⟩) (by kernel_rfl) Try.underlying4 rfl
    (by intro H ds hl; match ds, hl with | [d0, d1], _ => rfl) os started H enc
    (ChangeSpec.witness6 (enc := enc) (C := Try.checked) false ⟨#[], #[.agg #[.int .u64 0, .bool false, .int .i64 0, .int .i64 0, .int .i64 0, .int .i64 0, .int .i64 0, .int .u64 0, .int .u32 0, .int .u64 0, .int .u16 0, .int .u16 0, .int .i64 0, .int .i64 0, .int .i64 0, .int .i64 0, .int .i64 0, .slice none 0 0, .slice none 0 0, .slice none 0 0], .int .u8 0], []⟩ 8 (by kernel_rfl) (by kernel_rfl) (by kernel_rfl) (by kernel_rfl)) ?_
  intro W args ds ps hval hA hlt hsz
  obtain ⟨v0, vs0, d0, ds0, p0, q0, hargs, rfl, rfl, h0, r0⟩ := trodAll_cons hA
  obtain ⟨v1, vs1, d1, ds1, p1, q1, rfl, rfl, rfl, h1, r1⟩ := trodAll_cons r0
  obtain ⟨rfl, rfl, rfl⟩ := trodAll_nil r1
  obtain rfl : args = #[v0, v1] := by cases args; simp_all
  obtain ⟨q, E, hw, hl, hq⟩ := open_bri (hval 0 42 v0 rfl rfl) h0
  obtain ⟨x1, rfl, w1⟩ := open_whole Try.underlying5 (hval 1 5 v1 rfl rfl) h1
  obtain ⟨v, hv, hd⟩ := iot_true S0 q x1 hl hw w1
  have h := law_run cV_fam Try.func18 (by kernel_rfl) [(9, gOth)] (by kernel_rfl) rfl S0 3 (fun i k g h => match i, h with | 0, h => by obtain ⟨rfl, rfl⟩ := Prod.mk.inj (Option.some.inj h); exact gOth_ok _ _) (args0 := [q.arg, .v (.int .u8 x1)]) (H0 := q.heap) rfl hv E W (hq S0).2
  simp only [SV.dens, (hq (S0.rd 0 3)).1] at h
  exact h.mono fun e w' h => by rw [hd] at h; exact h
theorem infoOthers_holds : Rows.InfoOthersSaid :=
  OpenClaim.holds_of_wide 18 Try.f18 rfl rfl rfl rfl rfl rfl rfl ⟨rfl, rfl, rfl, rfl, rfl⟩ rfl rfl rfl rfl rfl (by kernel_rfl) Try.func18 (by kernel_rfl)
    (of_decide_eq_true (by kernel_rfl)) (by unfold Func.isWrapper; first | (rw [if_pos (by decide +kernel)]; kernel_rfl) | (rw [if_neg (by decide +kernel)]; exact ⟨rfl, rfl⟩))
    (fun os started H enc _ => infoOthers_lifted os started H enc)

end Go.Proofs.Ythhdfidenigcaaa
