/- fordlaw07: its example; the contexts of its laws. -/
import Derived.Test.YtfncoeoaniclmaaFdbM
set_option linter.unusedVariables false
set_option maxRecDepth 100000
namespace Go.Proofs.Ytfncoeoaniclmaa
open Go Go.RowKit

def pTrue : PureFn := fun args => match args with | [] => some (.kb true) | _ => none
/-- what a call without arguments comes to, where nothing is open -/
def selB (o : Out (SV × Heap × Nat)) : Option Bool := match o.sel with
  | some (.kb b, _, _) => some b
  | some (.v (.bool b), _, _) => some b
  | _ => none
theorem pTrue_sel {c : Ctx} {S : Stat} (hc : CtxFull Try.prog c) (hwin : c.win = []) (hloop : ∀ q st, c.loop q st = none) {f : FuncId} {fn : Func} (hf : Try.prog.funcs[f]? = some fn) (hn : ((fnOf f).name == "runtime.NumGoroutine") = false) {fuel : Nat}
    (h : selB (inline c fuel (fnOf f) [] [] 0) = some true) : PureOk S f pTrue := by
  intro args y hy
  unfold pTrue at hy
  split at hy
  · injection hy with hy; subst hy
    unfold selB at h
    have key : ∃ v H' n', (inline c fuel (fnOf f) [] [] 0).sel = some (v, H', n') ∧ ∀ S E, v.den S E = .bool true := by
      split at h
      · rename_i b H' n' hs; injection h with h; subst h; exact ⟨_, _, _, hs, fun _ _ => rfl⟩
      · rename_i b H' n' hs; injection h with h; subst h; exact ⟨_, _, _, hs, fun _ _ => rfl⟩
      · cases h
    obtain ⟨v, H', n', hs, hv⟩ := key
    obtain ⟨hfn, hw⟩ := good_ok (fnOf_eq hf) hn ⟨hc, hwin, fun _ _ => LoopsOk.none hloop _⟩ hs
    refine ⟨hfn, fun E w => ?_⟩
    have hs0 : HS c.S E [] w := ⟨fun k x hk => by simp [Heap.get] at hk, fun k x hk => by simp [Heap.get] at hk, fun k k' x x' _ hk => by simp [Heap.get] at hk, fun k x hk => by simp [Heap.get] at hk⟩
    have := hw E w hs0
    refine this.mono ?_
    rintro e w' ⟨E', hu, hle, rfl, hs', hfr, hown⟩
    refine ⟨by rw [hv]; rfl, hfr.mono fun b j _ hm => ?_⟩
    obtain ⟨k, x, hk, _⟩ := hm
    simp [Heap.get] at hk
  · cases hy
/-- numbers and bools as they are spelt -/
def kbV : SV → SV
  | .v (.bool b) => .kb b
  | .v (.int k n) => .ki k n
  | .tup [.v (.int k n), .v (.bool b)] => .tup [.ki k n, .kb b]
  | x => x
theorem kbV_den (x : SV) (S : Stat) (E : Env) : (kbV x).den S E = x.den S E := by
  unfold kbV
  split <;> rfl
def gK (g : CanonFn) : CanonFn := fun ro args H m => (g ro args H m).bind fun r => .ret (kbV r.1, r.2)
theorem gK_ok {f : FuncId} {g : CanonFn} (h : CanonOk f g) : CanonOk f (gK g) := by
  intro S args H m v H' m' hr
  unfold gK at hr
  rw [Out.sel_bind] at hr
  cases hs : (g S.ro args H m).sel with
  | none => rw [hs] at hr; cases hr
  | some r =>
    obtain ⟨v0, H0, m0⟩ := r
    rw [hs] at hr
    simp only [Option.bind_some, Out.sel, Option.some.injEq, Prod.mk.injEq] at hr
    obtain ⟨rfl, rfl, rfl⟩ := hr
    obtain ⟨h1, h2⟩ := h S args H m v0 H0 m0 hs
    refine ⟨h1, fun E w hw => (h2 E w hw).mono ?_⟩
    rintro e w' ⟨E', hu, hle, rfl, h'⟩
    exact ⟨E', hu, hle, by rw [kbV_den], h'⟩
noncomputable def psK (S : Stat) : List (Nat × ReadFn) := [(20, specRead (spc (gK gFind)) S 3)]
theorem psK_ok (S : Stat) : ReadsOk S [] (psK S) := .cons (specRead_ok (fun S' => spc_ok (gK_ok find_ok) S') 3) <| .nil S []
noncomputable def ssK (S : Stat) : List (Nat × SpecFn) := [(17, spc gAll S), (18, spc (gK gLearn) S), (19, spc gTick S)]
theorem ssK_ok (S : Stat) : ∀ f g, (f, g) ∈ ssK S → SpecOk S [] f g := specs_cons (spc_ok all_ok S) <| specs_cons (spc_ok (gK_ok learn_ok) S) <| specs_cons (spc_ok tick_ok S) specs_nil
noncomputable def cK (S : Stat) : Ctx := mkCtx S [] (psK S) (ssK S) 20 4
theorem cK_fam : Fam cK := fam_of psK_ok ssK_ok
theorem fdbAwake (S : Stat) : PureOk S 15 pTrue := pTrue_sel (cK_fam.full (S.wt 0)) (cK_fam.win _) (cK_fam.loop _) (fuel := 20) Try.func15 (by kernel_rfl) (by kernel_rfl)
noncomputable def psV (S : Stat) : List (Nat × ReadFn) := (15, pureR pTrue) :: psW S
theorem psV_ok (S : Stat) : ReadsOk S [] (psV S) := .pure (fdbAwake S) <| psW_ok S
noncomputable def cV (S : Stat) : Ctx := mkCtx S [] (psV S) (ssW S) 20 4
theorem cV_fam : Fam cV := fam_of psV_ok ssW_ok
end Go.Proofs.Ytfncoeoaniclmaa
