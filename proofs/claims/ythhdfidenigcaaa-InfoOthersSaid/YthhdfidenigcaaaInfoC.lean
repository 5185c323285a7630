/- info's machine: the contexts of its walks. -/
import Derived.Test.YthhdfidenigcaaaInfo
import Derived.Test.YthhdfidenigcaaaJoin
set_option linter.unusedVariables false
set_option maxRecDepth 100000
namespace Go.Proofs.Ythhdfidenigcaaa
open Go Go.RowKit

/-- what a context of this form is right by -/
theorem fam_of {ps : Stat → List (Nat × ReadFn)} {ss : Stat → List (Nat × SpecFn)} {fuel k : Nat} (hp : ∀ S, ReadsOk S [] (ps S)) (hs : ∀ S f g, (f, g) ∈ ss S → SpecOk S [] f g) : Fam (fun S => mkCtx S [] (ps S) (ss S) fuel k) :=
  mk_fam ps ss fuel k (fun S f g h => hp S f g h) hs
noncomputable def psN (S : Stat) : List (Nat × ReadFn) := auto psE S 99 :: auto psE S 47 :: psK S
theorem psN_ok (S : Stat) : ReadsOk S [] (psN S) := .auto psE_ok <| .auto psE_ok <| psK_ok S
noncomputable def cI0 (S : Stat) : Ctx := mkCtx S [] (psN S) [] 20 4
theorem cI0_fam : Fam cI0 := fam_of psN_ok (fun S f g h => by cases h)
noncomputable def hearT (S : Stat) : Ctx := tabCtx (cI0 S) [(43, pureR (pPort classI))] 89 5
theorem hearT_full (S : Stat) : CtxFull Try.prog (hearT S) := tabCtx_full (cI0_fam.full S) (by
  intro f g h
  rw [cI0_fam.S, cI0_fam.win]
  rcases List.mem_cons.1 h with h | h
  · injection h with h1 h2; subst h1 h2; exact (infoClass S).read []
  · cases h) _ _
noncomputable def hearS (S : Stat) : SpecFn := inl (hearT S) 20 81
theorem hearS_ok (S : Stat) : SpecOk S [] 81 (hearS S) := inl_ok (hearT_full S) (cI0_fam.S S) (cI0_fam.win S) (fun _ _ => rfl) Try.func81 (by kernel_rfl)
noncomputable def cI (S : Stat) : Ctx := mkCtx S [] (psN S) [(81, hearS S)] 20 4
theorem cI_fam : Fam cI := fam_of psN_ok (fun S f g h => by
  rcases List.mem_cons.1 h with h | h
  · injection h with h1 h2; subst h1 h2; exact hearS_ok S
  · cases h)
end Go.Proofs.Ythhdfidenigcaaa
