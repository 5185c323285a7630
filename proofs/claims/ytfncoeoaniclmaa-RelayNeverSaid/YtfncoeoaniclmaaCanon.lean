/- Contracts off the walk of a text, with its own loops told by summaries. -/
import Derived.Test.YtfncoeoaniclmaaLift
set_option linter.unusedVariables false
namespace Go.Proofs.Ytfncoeoaniclmaa
open Go Go.RowKit

abbrev LoopFn := St → Option (Out (Ex × St))
def lookG : List (Nat × LoopFn) → Nat → St → Option (Out (Ex × St))
  | [], _, _ => none
  | (k, g) :: r, q, st => bif Nat.beq k q then g st else lookG r q st
def withLoops (c : Ctx) (ls : List (Nat × LoopFn)) : Ctx := { c with loop := lookG ls }
theorem withLoops_full {P : Program} {c : Ctx} (h : CtxFull P c) (ls : List (Nat × LoopFn)) : CtxFull P (withLoops c ls) :=
  { small := h.small, mixed := h.mixed, tys := h.tys, eqb := h.eqb, flds := h.flds, read := h.read, spec := h.spec }
/-- the i-th loop of a code -/
def loopAt (code : Code) (i : Nat) : Code := ((loopsOf code)[i]?).getD .skip
theorem LoopsOk.of {P : Program} {c : Ctx} {n : Nat} {code : Code} (h : ∀ i, i < (loopsOf code).length → LoopOk P c n (loopAt code i) (c.loop (firstId (loopAt code i)))) : LoopsOk P c n code := by
  intro b hb
  obtain ⟨i, hi, rfl⟩ := List.getElem_of_mem hb
  have := h i hi
  unfold loopAt at this
  rw [List.getElem?_eq_getElem hi] at this
  exact this

theorem walk_ok {f : FuncId} {fn : Func} (hf : Try.prog.funcs[f]? = some fn) (hname : (fn.name == "runtime.NumGoroutine") = false) {c : Ctx} {S : Stat} (hc : CtxFull Try.prog c) (hS : c.S = S) (hwin : c.win = []) (hl : ∀ code, fn.body = some code → LoopsOk Try.prog c fn.ntmps code)
    {fuel : Nat} {args : List SV} {H H' : Heap} {m m' : Nat} {v : SV} (h : (inline c fuel fn args H m).sel = some (v, H', m')) : FnIn Try.prog f ∧ ∀ E w, HS S E H w → Calls Try.prog f (SV.dens S E args).toArray w fun e w' =>
    ∃ E', Env.upto m E E' ∧ m ≤ m' ∧ e = .returned (v.den S E') ∧ HS S E' H' w' ∧ Fr w w' (MH S E H) ∧
      ∀ k x, H'.get k = some x → S.ro k = false → (w.heap.size ≤ (E'.ad k).block ∨ ∀ j, j < x.size → MH S E H (E'.ad k).block ((E'.ad k).off + j)) := by
  have hbody : fn.body.isNone = false := by
    unfold inline at h
    split at h
    · cases h
    · rename_i code hc; rw [hc]; rfl
  refine ⟨⟨fn, hf, hbody, hname⟩, fun E w hs => ?_⟩
  subst hS
  exact inline_ok (P := Try.prog) hc (fun n => draw_ok hc) hf hl h (E := E) (w := w) hs (by rw [hwin]; intro n j k z hm; cases hm) (by rw [hwin]; intro n j k z hm; cases hm)

def Stat.free' (S : Stat) : Stat := { S with ro := fun _ => false }
/-- all chunks may be written -/
def freeAll (ro : Nat → Bool) (H : Heap) : Bool := H.all fun e => !(ro e.1)
end Go.Proofs.Ytfncoeoaniclmaa
