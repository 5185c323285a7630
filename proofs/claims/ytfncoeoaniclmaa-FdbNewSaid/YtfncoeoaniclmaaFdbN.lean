/- fordlaw07.FdbNew: its walk, and why it holds. -/
import Derived.Test.YtfncoeoaniclmaaFdbW
set_option linter.unusedVariables false
set_option maxRecDepth 100000
namespace Go.Proofs.Ytfncoeoaniclmaa
open Go Go.RowKit

def outN (x y : Int) : Bool := decide (x < 1) || decide (x > 4096) || decide (y < 1) || decide (y > 1000000)
noncomputable def newO (S : Stat) (x y : Int) : Out SV := valF 0 (inline (withLoops (cV (S.rd 0 0)) []) 20 (fnOf 3) [.v (.int .i64 x), .v (.int .i64 y)] [] 0)
def oneL (y : Int) : PL := learnL 0 y 0 [] 7 3
theorem new_out (S : Stat) (x y : Int) : Out.way [true, true] (newO S x y) = some ([outN x y, outN x y], .kb true) := by kernel_rfl
theorem new_in (S : Stat) (x y : Int) : Out.way [false, false, true, true, true, false, true, true] (newO S x y) = some ([outN x y, outN x y, decide (([] : PL).length ≤ 67108864), decide (1 ≤ ([] : PL).length ∧ ([] : PL).length ≤ 67108864) || (badF 7 3 || !(fullF x [] 7)),
    decide ((learnL x y 0 [] 7 3).length ≤ 67108864), ((learnL x y 0 [] 7 3).length : Int) != 1, decide ((0 : Int) ≤ 0) && decide ((0 : Int) < ((learnL x y 0 [] 7 3).length : Int)), decide ((0 : Int).toNat < (allE (learnL x y 0 [] 7 3)).length)],
  .v (.bool ((([] : PL).length : Int) == 0 && !(badF 7 3) && decide ((allE (learnL x y 0 [] 7 3)).getD (0 : Int).toNat Entry.dflt = ⟨7, 3, y⟩)))) := by kernel_rfl
theorem bad73 : badF 7 3 = false := by kernel_rfl
theorem addr7 : addrF 7 = 7 := by kernel_rfl
theorem new_true (S : Stat) (x y : Int) : ∃ v, (newO S x y).sel = some v ∧ ∀ S E, v.den S E = .bool true := by
  cases ho : outN x y with
  | true => exact ⟨_, Out.way_sel (new_out S x y) (by simp [ho]), fun _ _ => rfl⟩
  | false =>
    have hx : 1 ≤ x := by
      unfold outN at ho
      simp only [Bool.or_eq_false_iff, decide_eq_false_iff_not] at ho
      omega
    have hf : fullF x [] 7 = false := by
      have : ((0 : Int) == x) = false := by
        cases h : ((0 : Int) == x) with
        | false => rfl
        | true => have := beq_iff_eq.1 h; omega
      simp [fullF, hasK, this]
    have hl : learnL x y 0 [] 7 3 = [(7, 0, ⟨3, y⟩)] := by simp [learnL, bad73, hf, putK, addr7]
    refine ⟨_, Out.way_sel (new_in S x y) (by rw [hl, ho, bad73, hf]; rfl), fun S E => ?_⟩
    rw [hl, bad73]
    simp [SV.den, allE, sortE, insE, toE]
end Go.Proofs.Ytfncoeoaniclmaa
