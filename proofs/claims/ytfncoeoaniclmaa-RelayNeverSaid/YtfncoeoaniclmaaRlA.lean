/- fordlaw19: its example. -/
import Derived.Test.YtfncoeoaniclmaaRlO
import Derived.Test.YtfncoeoaniclmaaRlN
import Derived.Test.YtfncoeoaniclmaaFdbW
set_option linter.unusedVariables false
set_option maxRecDepth 100000
namespace Go.Proofs.Ytfncoeoaniclmaa
open Go Go.RowKit

/-- arguments as they are not spelt -/
def unK : SV → SV
  | .ki k n => .v (.int k n)
  | .kb b => .v (.bool b)
  | x => x
theorem unK_den (x : SV) (S : Stat) (E : Env) : (unK x).den S E = x.den S E := by
  unfold unK
  split <;> rfl
def gN (g : CanonFn) : CanonFn := fun ro args H m => g ro (args.map unK) H m
theorem gN_ok {f : FuncId} {g : CanonFn} (h : CanonOk f g) : CanonOk f (gN g) := by
  intro S args H m v H' m' hr
  obtain ⟨h1, h2⟩ := h S (args.map unK) H m v H' m' hr
  refine ⟨h1, fun E w hs => ?_⟩
  have e : SV.dens S E args = SV.dens S E (args.map unK) := by
    induction args with
    | nil => rfl
    | cons x r ih =>
      simp only [List.map_cons, SV.dens, unK_den]
      congr 1
      simp [SV.dens_map, unK_den, Function.comp_def]
  rw [e]
  exact h2 E w hs
noncomputable def ssA (S : Stat) : List (Nat × SpecFn) := (31, spc (gN gOut) S) :: (32, spc gOpen S) :: ssW S
theorem ssA_ok (S : Stat) : ∀ f g, (f, g) ∈ ssA S → SpecOk S [] f g := specs_cons (spc_ok (gN_ok out_ok) S) <| specs_cons (spc_ok open_ok S) (ssW_ok S)
noncomputable def cAw (S : Stat) : Ctx := mkCtx S [] (psOt S) (ssA S) 20 4
theorem cAw_fam : Fam cAw := fam_of psOt_ok ssA_ok
theorem relayAwake (S : Stat) : PureOk S 29 pTrue := pTrue_sel (cAw_fam.full (S.wt 0)) (cAw_fam.win _) (cAw_fam.loop _) (fuel := 20) Try.func29 (by kernel_rfl) (by kernel_rfl)
end Go.Proofs.Ytfncoeoaniclmaa
