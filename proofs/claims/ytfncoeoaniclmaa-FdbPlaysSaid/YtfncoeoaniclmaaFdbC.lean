/- fdb: the contexts in which its functions are walked; who goes first. -/
import Derived.Test.YtfncoeoaniclmaaFdbM
set_option linter.unusedVariables false
set_option maxRecDepth 100000
namespace Go.Proofs.Ytfncoeoaniclmaa
open Go Go.RowKit

noncomputable def ssO (S : Stat) : List (Nat × SpecFn) := [(17, spc gAll S), (62, spc gMin S)]
theorem ssO_ok (S : Stat) : ∀ f g, (f, g) ∈ ssO S → SpecOk S [] f g := specs_cons (spc_ok all_ok S) <| specs_cons (spc_ok min_ok S) specs_nil
noncomputable def cO (S : Stat) : Ctx := mkCtx S [] (ps0 S) (ssO S) 20 2
theorem cO_fam : Fam cO := fam_of ps0_ok ssO_ok
def gOld : CanonFn := fun ro args H m => match args, H with
  | [.ptr 0 0], [(0, .agg [.v (.int .i64 x), .v (.int .i64 y), .mp 1]), (1, .tab (.place .u64 c l))] => .ite (decide (l.length ≤ 67108864) && decide (l.length = (allE l).length ∧ 1 ≤ (allE l).length ∧ (allE l).length ≤ 67108864)) (.ret (.v (.int .u64 (minE (allE l)).mac), H, m)) .bad
  | _, _ => .bad
theorem old_walk (S : Stat) (x y : Int) (c : Nat) (l : PL) : valF 2 (inline (withLoops (cO (S.rd 0 2)) []) 20 (fnOf 46) [.ptr 0 0] (fdbH x y c l) 2) =
    .ite (decide (l.length ≤ 67108864)) (.ite (decide (l.length = (allE l).length ∧ 1 ≤ (allE l).length ∧ (allE l).length ≤ 67108864)) (.ret (.v (.int .u64 (minE (allE l)).mac))) .bad) .bad := by kernel_rfl
theorem old_ok : CanonOk 46 gOld := by
  refine canon_rd cO_fam Try.func46 (by kernel_rfl) [] (by kernel_rfl) rfl 2 (fun S i k g hg => by simp at hg) ?_
  intro S args H m r hr
  unfold gOld at hr
  split at hr <;> (try cases hr)
  rename_i x y c l
  obtain ⟨hc, hr⟩ := Out.ite_bad hr
  simp only [Out.sel, Option.some.injEq] at hr
  subst hr
  simp only [Bool.and_eq_true] at hc
  refine ⟨rfl, rfl, fun E => ⟨S, 20, [.ptr 0 0], fdbH x y c l, _, rfl, by rw [old_walk, hc.1, hc.2]; rfl, by simp [SV.dens, SV.den], ⟨⟨_, rfl, by simp [SV.cells, SV.cellss], trivial⟩, ⟨_, rfl, by simp [SV.cells], trivial⟩, trivial⟩, rfl⟩⟩

noncomputable def psD (S : Stat) : List (Nat × ReadFn) := [auto ps0 S 44, auto ps0 S 45, (46, specRead (spc gOld) S 3)]
theorem psD_ok (S : Stat) : ReadsOk S [] (psD S) := .auto ps0_ok <| .auto ps0_ok <| .cons (specRead_ok (fun S' => spc_ok old_ok S') 3) <| .nil S []
noncomputable def ssD (S : Stat) : List (Nat × SpecFn) := [(17, spc gAll S), (47, spc gEach S)]
theorem ssD_ok (S : Stat) : ∀ f g, (f, g) ∈ ssD S → SpecOk S [] f g := specs_cons (spc_ok all_ok S) <| specs_cons (spc_ok each_ok S) specs_nil
noncomputable def cD (S : Stat) : Ctx := mkCtx S [] (psD S) (ssD S) 20 3
theorem cD_fam : Fam cD := fam_of psD_ok ssD_ok
end Go.Proofs.Ytfncoeoaniclmaa
