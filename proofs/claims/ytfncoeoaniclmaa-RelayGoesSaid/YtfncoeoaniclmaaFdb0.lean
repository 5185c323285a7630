/- fdb: the contexts of its walks; pieces of code, by number. -/
import Derived.Test.YtfncoeoaniclmaaIter
set_option linter.unusedVariables false
set_option maxRecDepth 100000
namespace Go.Proofs.Ytfncoeoaniclmaa
open Go Go.RowKit

/-- the regions of a code, in the text's order -/
def regsOf : Code → List (List Oper)
  | .region _ ops _ => [ops.toList]
  | .seq x y => regsOf x ++ regsOf y
  | .cond _ t e => regsOf t ++ regsOf e
  | .block _ x => regsOf x
  | .loop x => regsOf x
  | .scope x => regsOf x
  | _ => []
noncomputable def regL (f i : Nat) : List Oper := ((regsOf (codeOf f))[i]?).getD []
noncomputable def opAt (f i j : Nat) : Oper := ((regL f i)[j]?).getD default
theorem specs_nil0 {S : Stat} : ∀ f g, (f, g) ∈ ([] : List (Nat × SpecFn)) → SpecOk S [] f g := fun f g h => by cases h
noncomputable def cA (S : Stat) : Ctx := mkCtx S [] [] [] 20 2
theorem cA_fam : Fam cA := mk_fam (fun _ => []) (fun _ => []) 20 2 (fun S f g h => by cases h) (fun S f g h => by cases h)

section
variable {P : Program} {c : Ctx}
/-- a whole function, walked as one likes -/
theorem enter_ok {f : FuncId} {fn : Func} (hf : P.funcs[f]? = some fn) (hc : CtxFull P c) (hwin : c.win = []) {code : Code} (hbody : fn.body = some code) {args : List SV} {H H' : Heap} {nx nx' : Nat} {v : SV} (hle : args.length ≤ fn.ntmps) {E : Env} {w : World} (hs : HS c.S E H w)
    (hrun : ∀ a, Sat c fn.ntmps w (MH c.S E H) E ⟨argSlots args 0, H, nx⟩ a w → code.wp P (fun ex a' w' => (ex = .normal ∨ ex = .ret) ∧ ∃ E' st', Env.upto nx E E' ∧ Sat c fn.ntmps w (MH c.S E H) E' st' a' w' ∧ resOf c st' fn.results.toList = some v ∧ st'.heap = H' ∧ nx ≤ nx') a w) :
    Calls P f (SV.dens c.S E args).toArray w fun e w' =>
    ∃ E', Env.upto nx E E' ∧ nx ≤ nx' ∧ e = .returned (v.den c.S E') ∧ HS c.S E' H' w' ∧ Fr w w' (MH c.S E H) ∧
      ∀ k x, H'.get k = some x → c.S.ro k = false → (w.heap.size ≤ (E'.ad k).block ∨ ∀ j, j < x.size → MH c.S E H (E'.ad k).block ((E'.ad k).off + j)) := by
  have hdl : (SV.dens c.S E args).length = args.length := by simp [SV.dens_map]
  have sat : Sat c fn.ntmps w (MH c.S E H) E ⟨argSlots args 0, H, nx⟩ { tmps := (SV.dens c.S E args).toArray ++ Array.replicate (fn.ntmps - (SV.dens c.S E args).toArray.size) undef, defers := [] } w := by
    refine ⟨?_, hs, ?_, Fr.refl _ _, by rw [hwin]; intro n j k z hm; (cases hm), by rw [hwin]; intro n j k z hm; (cases hm), by simp [hdl]; omega, rfl⟩
    · intro d p x hx
      obtain ⟨hp, _, hl⟩ := argSlots_get args 0 d (p, x) hx
      dsimp only at hp hl
      subst hp
      refine ⟨fun _ => ?_, fun hh => absurd (fun t b hm => by cases hm) hh⟩
      have hlt : d < args.length := by
        have := (List.getElem?_eq_some_iff.1 hl).1
        omega
      rw [Array.getElem?_append_left (by simp [hdl]; omega)]
      simp only [List.getElem?_toArray, SV.dens_map, List.getElem?_map]
      rw [show d - 0 = d from rfl] at hl
      rw [hl]; rfl
    · intro k x hk hr
      exact .inr fun j hj => ⟨k, x, hk, hr, rfl, by omega, by omega⟩
  refine calls_of_wp hf hbody (wp_mono (hrun _ sat) ?_)
  rintro ex a' w' ⟨hex, E', st', hu, sat', hres, rfl, hnx⟩
  have hr := resOf_ok hc sat' hres
  have : a'.defers = [] ∧ ∃ u, (results fn a'.tmps).run P w' = .ok u w' ∧ (∃ E', Env.upto nx E E' ∧ nx ≤ nx' ∧ Ending.returned u = .returned (v.den c.S E') ∧ HS c.S E' st'.heap w' ∧ Fr w w' (MH c.S E H) ∧
      ∀ k x, st'.heap.get k = some x → c.S.ro k = false → (w.heap.size ≤ (E'.ad k).block ∨ ∀ j, j < x.size → MH c.S E H (E'.ad k).block ((E'.ad k).off + j))) :=
    ⟨sat'.defers, _, hr, E', hu, hnx, rfl, sat'.hs, sat'.fr, sat'.own⟩
  rcases hex with rfl | rfl
  · exact this
  · exact this
end
end Go.Proofs.Ytfncoeoaniclmaa
