/- fordlaw13: the contexts of its laws. -/
import Derived.Test.YthhdfidenigcaaaInfoF
import Derived.Test.YthhdfidenigcaaaSelQ
set_option linter.unusedVariables false
set_option maxRecDepth 100000
namespace Go.Proofs.Ythhdfidenigcaaa
open Go Go.RowKit

noncomputable def psU (S : Stat) : List (Nat × ReadFn) := (43, pureR (pPort classI)) :: psM S
theorem psU_ok (S : Stat) : ReadsOk S [] (psU S) := by
  intro f g h
  rcases List.mem_cons.1 h with h | h
  · injection h with h1 h2; subst h1 h2; exact (infoClass S).read []
  · exact psM_ok S f g h
noncomputable def cAwI (S : Stat) : Ctx := mkCtx S [] (psU S) [(81, hearS S)] 20 8
theorem cAwI_fam : Fam cAwI := fam_of psU_ok fun S => specs_cons (hearS_ok S) specs_nil
theorem infoAwake (S : Stat) : PureOk S 40 pTrue := pTrue_sel (cAwI_fam.full (S.wt 0)) (cAwI_fam.win _) (cAwI_fam.loop _) (fuel := 20) Try.func40 (by kernel_rfl) (by kernel_rfl)
noncomputable def psV (S : Stat) : List (Nat × ReadFn) := (38, specRead (spc gSame) S 3) :: (40, pureR pTrue) :: psU S
theorem psV_ok (S : Stat) : ReadsOk S [] (psV S) := .cons (specRead_ok (fun S' => spc_ok same_ok S') 3) <| .pure (infoAwake S) <| psU_ok S
noncomputable def ssV (S : Stat) : List (Nat × SpecFn) := [(56, spc gRight S), (41, spc (gPort infoF) S), (42, spc (gPort refF) S)]
theorem ssV_ok (S : Stat) : ∀ f g, (f, g) ∈ ssV S → SpecOk S [] f g :=
  specs_cons (spc_ok right_ok S) <| specs_cons (spc_ok info_ok S) <| specs_cons (spc_ok ref_ok S) specs_nil
noncomputable def cV (S : Stat) : Ctx := mkCtx S [] (psV S) (ssV S) 20 6
theorem cV_fam : Fam cV := fam_of psV_ok ssV_ok
end Go.Proofs.Ythhdfidenigcaaa
