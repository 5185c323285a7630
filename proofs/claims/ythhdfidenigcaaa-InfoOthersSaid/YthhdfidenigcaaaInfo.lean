/- info and its reference: what a message is to a port. -/
import Derived.Test.YthhdfidenigcaaaSelQ
set_option linter.unusedVariables false
set_option maxRecDepth 100000
namespace Go.Proofs.Ythhdfidenigcaaa
open Go Go.RowKit

noncomputable def psK (S : Stat) : List (Nat × ReadFn) := auto psE S 68 :: auto psE S 67 :: auto psE S 69 :: psE S
theorem psK_ok (S : Stat) : ReadsOk S [] (psK S) := .auto psE_ok <| .auto psE_ok <| .auto psE_ok <| psE_ok S
def pPort (g : Port → Int) : PureFn := fun args => match args with
  | [.rcd (.port p)] => some (.v (.int .i64 (g p)))
  | _ => none
theorem pPort_ok {S : Stat} {c : Ctx} (hc : CtxFull Try.prog c ∧ c.S = S.free ∧ c.win = [] ∧ ∀ q st, c.loop q st = none) {f : FuncId} {fn : Func} (hf : Try.prog.funcs[f]? = some fn) (hn : (fn.name == "runtime.NumGoroutine") = false) {g : Port → Int} {fuel : Nat}
    (h : ∀ p, joinAll (inline c fuel fn [.rcd (.port p)] [] 0) = some (.v (.int .i64 (g p)))) : PureOk S f (pPort g) := by
  intro args y hy
  unfold pPort at hy
  split at hy
  · injection hy with hy; subst hy
    exact pure_join hc hf hn rfl (h _) rfl
  · cases hy
def tellsM (m : Msg) : Bool := m.kind == 0 || m.kind == 2 && m.role == 4
def betterM (p : Port) : Bool := decide (cmpV (noRx p.msg.vec) (noRx p.vec) < 0)
/-- what a port's message is to it -/
def classI (p : Port) : Int :=
  if (tellsM p.msg && fourI p.msg.vec p.vec == 0 && decide (p.msg.times = p.times)) = true then 1 else if (tellsM p.msg && supV p.msg.vec p.vec) = true then 0 else if tellsM p.msg = true then 2
  else if (p.msg.kind == 2 && decide (p.msg.role ≥ 1) && decide (p.msg.role ≤ 3) && !betterM p) = true then 3 else 4
theorem infoClass (S : Stat) : PureOk S 43 (pPort classI) := pPort_ok (rdCtx_ok psK_ok S.free) Try.func43 (by kernel_rfl) (fuel := 20) (fun p => by kernel_rfl)
def refClassI (p : Port) : Int :=
  if tellsM p.msg = true then (if (sameV p.msg.vec p.vec && decide (p.msg.times = p.times)) = true then 1 else if refSupV p.msg.vec p.vec = true then 0 else 2)
  else if (p.msg.kind == 2 && (p.msg.role == 1 || p.msg.role == 2 || p.msg.role == 3) && !lessV p.msg.vec p.vec) = true then 3 else 4
theorem refClass (S : Stat) : PureOk S 44 (pPort refClassI) := pPort_ok (rdCtx_ok psK_ok S.free) Try.func44 (by kernel_rfl) (fuel := 20) (fun p => by kernel_rfl)
theorem less_betterM (a b : Vec) : lessV a b = decide (cmpV (noRx a) (noRx b) < 0) := by
  rw [lessV_iff]
  congr 1
  have e : fourI (noRx a) (noRx b) = fourI a b := rfl
  unfold cmpV
  rw [e]
  by_cases h0 : fourI a b = 0
  · simp [h0, noRx, cmpI]
  · simp [h0]
theorem class_eq {p : Port} (h1 : p.vec.Wf) (h2 : p.msg.vec.Wf) : refClassI p = classI p := by
  unfold refClassI classI betterM
  rw [sameV_iff, refSupV_eq h2 h1, less_betterM]
  have hr : (p.msg.role == 1 || p.msg.role == 2 || p.msg.role == 3) = (decide (p.msg.role ≥ 1) && decide (p.msg.role ≤ 3)) := by
    rw [Bool.eq_iff_iff]
    simp only [Bool.or_eq_true, Bool.and_eq_true, beq_iff_eq, decide_eq_true_eq]
    omega
  rw [hr]
  cases tellsM p.msg <;> simp [Bool.and_assoc]
end Go.Proofs.Ythhdfidenigcaaa
