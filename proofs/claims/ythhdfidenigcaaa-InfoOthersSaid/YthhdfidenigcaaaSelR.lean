/- A law's walk, way by way; the walk of SelSteps. -/
import Derived.Test.YthhdfidenigcaaaSelL
set_option linter.unusedVariables false
set_option maxRecDepth 100000
namespace Go.Proofs.Ythhdfidenigcaaa
open Go Go.RowKit

/-- one way through a tree, with its tests -/
def Out.way {α : Type} : List Bool → Out α → Option (List Bool × α)
  | [], .ret r => some ([], r)
  | true :: p, .ite c t _ => (match Out.way p t with | some q => some (c :: q.1, q.2) | none => none)
  | false :: p, .ite c _ e => (match Out.way p e with | some q => some (c :: q.1, q.2) | none => none)
  | _, _ => none
theorem Out.way_sel {α : Type} : ∀ {p : List Bool} {o : Out α} {r : α} {cs : List Bool}, Out.way p o = some (cs, r) → cs = p → o.sel = some r
  | [], .ret r', r, cs, h, hp => by
    simp only [Out.way, Option.some.injEq, Prod.mk.injEq] at h
    rw [← h.2]; rfl
  | true :: p, .ite c t e, r, cs, h, hp => by
    simp only [Out.way] at h
    split at h
    · rename_i q hq
      simp only [Option.some.injEq, Prod.mk.injEq] at h
      obtain ⟨rfl, rfl⟩ := h
      simp only [List.cons.injEq] at hp
      rw [hp.1]
      exact Out.way_sel (p := p) (o := t) (cs := q.1) hq hp.2
    · cases h
  | false :: p, .ite c t e, r, cs, h, hp => by
    simp only [Out.way] at h
    split at h
    · rename_i q hq
      simp only [Option.some.injEq, Prod.mk.injEq] at h
      obtain ⟨rfl, rfl⟩ := h
      simp only [List.cons.injEq] at hp
      rw [hp.1]
      exact Out.way_sel (p := p) (o := e) (cs := q.1) hq hp.2
    · cases h
  | [], .ite _ _ _, _, _, h, _ => by simp [Out.way] at h
  | [], .bad, _, _, h, _ => by simp [Out.way] at h
  | true :: _, .ret _, _, _, h, _ => by simp [Out.way] at h
  | true :: _, .bad, _, _, h, _ => by simp [Out.way] at h
  | false :: _, .ret _, _, _, h, _ => by simp [Out.way] at h
  | false :: _, .bad, _, _, h, _ => by simp [Out.way] at h

/-- a law that only reads what came in, off its walk -/
theorem law_run {mk : Stat → Ctx} (hm : Fam mk) {f : FuncId} {fn : Func} (hf : Try.prog.funcs[f]? = some fn) (hname : ((fnOf f).name == "runtime.NumGoroutine") = false) (l : List (Nat × LoopFn)) (hids : (loopsOf (codeOf f)).map firstId = l.map (·.1)) (hd : distinct (l.map (·.1)) = true)
    (S : Stat) (m0 : Nat) (hl : ∀ i k g, l[i]? = some (k, g) → LoopOk Try.prog (withLoops (mk (S.rd 0 m0)) l) (fnOf f).ntmps (lpOf f i) g)
    {fuel : Nat} {args0 : List SV} {H0 : Heap} {v : SV} (hro : (H0.all fun e => Nat.blt e.1 m0) = true) (hq : (valF m0 (inline (withLoops (mk (S.rd 0 m0)) l) fuel (fnOf f) args0 H0 m0)).sel = some v)
    (E : Env) (w : World) (hs : HS (S.rd 0 m0) E H0 w) : Calls Try.prog f (SV.dens (S.rd 0 m0) E args0).toArray w fun e w' => e = .returned (v.den (S.rd 0 m0) E) ∧ Fr w w' (fun _ _ => False) := by
  obtain ⟨⟨v1, H1, m1⟩, hrun, hb, he⟩ := valF_sel hq
  subst he
  have hS : (withLoops (mk (S.rd 0 m0)) l).S = S.rd 0 m0 := hm.S _
  obtain ⟨hfn, hw⟩ := good_ok (fnOf_eq hf) hname (good_loops hm (S.rd 0 m0) l hids hd hl) hrun
  have := hw E w (by rw [hS]; exact hs)
  rw [hS] at this
  refine this.mono ?_
  rintro e w' ⟨E', hu, hle, rfl, hs', hfr, hown⟩
  refine ⟨by rw [SV.den_upto _ hu _ hb], hfr.mono fun b j _ hm => ?_⟩
  obtain ⟨k, x, hk, hr, _⟩ := hm
  have : (S.rd 0 m0).ro k = true := heap_all hro hk
  rw [this] at hr
  cases hr

def fewF (q : InP) : Bool := rightF q.b q.ps && decide ((q.ps.length : Int) ≥ 1) && decide ((q.ps.length : Int) ≤ 8) && decide ((q.os.length : Int) ≤ 20) && decide ((q.fs.length : Int) ≤ 20)
def InP.len (q : InP) : Bool := decide (q.ps.length = q.ps.length ∧ q.ps.length < 9223372036854775808)
def InP.big (q : InP) : List Bool := [decide (q.ps.length = (Rows.port q.ps).len ∧ q.ps.length ≤ 134217728), decide (q.os.length = (Rows.sent q.os).len ∧ q.os.length ≤ 134217728), decide (q.fs.length = (Rows.int IntKind.i64 q.fs).len ∧ q.fs.length ≤ 134217728)]
def stepSame (q : InP) (d d' : Bool) (b b' : Bri) (ps ps' : List Port) : Bool :=
  decide ((rootF q.b.id q.ps).1 = (refRootF q.b.id q.ps).1) && (rootF q.b.id q.ps).2 == (refRootF q.b.id q.ps).2 && d == d' && sameF ⟨b, b', ps, ps', q.os, q.os, q.fs, q.fs, false, false, false, false, false, false⟩
def stepTest (q : InP) (ps ps' : List Port) : Bool := decide (q.ps.length = ps.length ∧ q.os.length = q.os.length ∧ q.fs.length = q.fs.length ∧ q.ps.length = ps'.length ∧ q.os.length = q.os.length ∧ q.fs.length = q.fs.length ∧ ps.length < 9223372036854775808 ∧ q.os.length < 9223372036854775808 ∧ q.fs.length < 9223372036854775808)
noncomputable def stepsO (S : Stat) (q : InP) : Out SV := valF 3 (inline (withLoops (cL (S.rd 0 3)) []) 20 (fnOf 8) [q.arg] q.heap 3)
theorem steps_no (S : Stat) (q : InP) : Out.way [true, true] (stepsO S q) = some ([q.len, !(fewF q)], .kb true) := by kernel_rfl
theorem steps_ask (S : Stat) (q : InP) : Out.way [true, false, true, true, true, true, true, true, true, true, true, true, true, true, true] (stepsO S q) =
    some ([q.len, !(fewF q), q.len, q.len] ++ q.big ++ q.big ++ [q.len, q.ps.any askP, q.len, q.ps.any askP, stepTest q (mapI (stepP (stepB q.b q.ps)) q.ps 0) (mapI (refStepP (refStepB q.b q.ps)) q.ps 0)],
      .v (.bool (stepSame q true true (stepB q.b q.ps) (refStepB q.b q.ps) (mapI (stepP (stepB q.b q.ps)) q.ps 0) (mapI (refStepP (refStepB q.b q.ps)) q.ps 0)))) := by kernel_rfl
theorem steps_not (S : Stat) (q : InP) : Out.way [true, false, true, true, true, true, true, true, true, true, true, false, true, false, true] (stepsO S q) =
    some ([q.len, !(fewF q), q.len, q.len] ++ q.big ++ q.big ++ [q.len, q.ps.any askP, q.len, q.ps.any askP, stepTest q q.ps q.ps],
      .v (.bool (stepSame q false false q.b q.b q.ps q.ps))) := by kernel_rfl
end Go.Proofs.Ythhdfidenigcaaa
