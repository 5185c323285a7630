/- fordlaw14: what its laws come to. -/
import Derived.Test.YthhdfidenigcaaaSelRef
import Derived.Test.YthhdfidenigcaaaSame
set_option linter.unusedVariables false
set_option maxRecDepth 100000
namespace Go.Proofs.Ythhdfidenigcaaa
open Go Go.RowKit

/-- what a call without arguments comes to, where nothing is open -/
def selB (o : Out (SV × Heap × Nat)) : Option Bool := match o.sel with
  | some (.kb b, _, _) => some b
  | some (.v (.bool b), _, _) => some b
  | _ => none
theorem pTrue_sel {c : Ctx} {S : Stat} (hc : CtxFull Try.prog c) (hwin : c.win = []) (hloop : ∀ q st, c.loop q st = none) {f : FuncId} {fn : Func} (hf : Try.prog.funcs[f]? = some fn) (hn : ((fnOf f).name == "runtime.NumGoroutine") = false) {fuel : Nat}
    (h : selB (inline c fuel (fnOf f) [] [] 0) = some true) : PureOk S f pTrue := by
  intro args y hy
  unfold pTrue at hy
  split at hy
  · injection hy with hy; subst hy
    unfold selB at h
    have key : ∃ v H' n', (inline c fuel (fnOf f) [] [] 0).sel = some (v, H', n') ∧ ∀ S E, v.den S E = .bool true := by
      split at h
      · rename_i b H' n' hs; injection h with h; subst h; exact ⟨_, _, _, hs, fun _ _ => rfl⟩
      · rename_i b H' n' hs; injection h with h; subst h; exact ⟨_, _, _, hs, fun _ _ => rfl⟩
      · cases h
    obtain ⟨v, H', n', hs, hv⟩ := key
    obtain ⟨hfn, hw⟩ := good_ok (fnOf_eq hf) hn ⟨hc, hwin, fun _ _ => LoopsOk.none hloop _⟩ hs
    refine ⟨hfn, fun E w => ?_⟩
    have hs0 : HS c.S E [] w := ⟨fun k x hk => by simp [Heap.get] at hk, fun k x hk => by simp [Heap.get] at hk, fun k k' x x' _ hk => by simp [Heap.get] at hk, fun k x hk => by simp [Heap.get] at hk⟩
    have := hw E w hs0
    refine this.mono ?_
    rintro e w' ⟨E', hu, hle, rfl, hs', hfr, hown⟩
    refine ⟨by rw [hv]; rfl, hfr.mono fun b j _ hm => ?_⟩
    obtain ⟨k, x, hk, _⟩ := hm
    simp [Heap.get] at hk
  · cases hy
noncomputable def cAw (S : Stat) : Ctx := mkCtx S [] (psS S) [] 20 8
theorem cAw_fam : Fam cAw := mk_fam psS (fun _ => []) 20 8 psS_ok (fun _ _ _ h => by cases h)
theorem selAwake (S : Stat) : PureOk S 31 pTrue := pTrue_sel (cAw_fam.full (S.wt 0)) (cAw_fam.win _) (cAw_fam.loop _) (fuel := 20) Try.func31 (by kernel_rfl) (by kernel_rfl)
noncomputable def psL (S : Stat) : List (Nat × ReadFn) := (38, specRead (spc gSame) S 3) :: (31, pureR pTrue) :: psS S
theorem psL_ok (S : Stat) : ReadsOk S [] (psL S) := .cons (specRead_ok (fun S' => spc_ok same_ok S') 3) <| .pure (selAwake S) <| psS_ok S
noncomputable def ssL (S : Stat) : List (Nat × SpecFn) := [(56, spc gRight S), (33, spc gRoot S), (34, spc gRefRoot S), (36, spc (gStepOf stepB fun b ps => mapI (stepP (stepB b ps)) ps 0) S),
  (37, spc (gStepOf refStepB fun b ps => mapI (refStepP (refStepB b ps)) ps 0) S)]
theorem ssL_ok (S : Stat) : ∀ f g, (f, g) ∈ ssL S → SpecOk S [] f g := by
  intro f g h
  simp only [ssL, List.mem_cons, Prod.mk.injEq, List.not_mem_nil, or_false] at h
  rcases h with ⟨rfl, rfl⟩ | ⟨rfl, rfl⟩ | ⟨rfl, rfl⟩ | ⟨rfl, rfl⟩ | ⟨rfl, rfl⟩
  · exact spc_ok right_ok S
  · exact spc_ok root_ok S
  · exact spc_ok refRoot_ok S
  · exact spc_ok step_ok S
  · exact spc_ok refStep_ok S
noncomputable def cL (S : Stat) : Ctx := mkCtx S [] (psL S) (ssL S) 20 6
theorem cL_fam : Fam cL := mk_fam psL ssL 20 6 psL_ok ssL_ok
/-- a bridge that came in -/
structure InP where
  b : Bri
  ps : List Port
  os : List Sent
  fs : List Int
def InP.arg (q : InP) : SV := q.b.sv (.slr 0 q.ps.length 0 false) (.slr 1 q.os.length 1 false) (.slr 2 q.fs.length 2 false)
def InP.heap (q : InP) : Heap := [(0, .rows (.port q.ps)), (1, .rows (.sent q.os)), (2, .rows (.int .i64 q.fs))]
end Go.Proofs.Ythhdfidenigcaaa
