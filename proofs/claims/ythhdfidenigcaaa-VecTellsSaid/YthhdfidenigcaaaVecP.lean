/- What a vector that came in is. -/
import Derived.Test.YthhdfidenigcaaaVecL
import Derived.Test.YthhdfidenigcaaaOpen
set_option linter.unusedVariables false
set_option maxRecDepth 100000
namespace Go.Proofs.Ythhdfidenigcaaa
open Go.ChangeShapes Go.WideShapes Go.ChangeAt Go.RowKit

theorem open_vec {H : Type} {enc : TypeId × Value → H} {w w' : World} {base : Nat} {spare : Nat → Bool} {held : Bool} {v : Value} {d : DataW H} {p : List MemPlace}
    (hok : ∃ b, Value.okWide Try.prog w' .any b 26 v) (h : DataW.Trod enc Try.prog w base spare held 26 v d p) : ∃ a : Vec, v = .agg a.cells.toArray ∧ a.Wf := by
  obtain ⟨cs, rfl, hf⟩ := open_flat (n := 9) (ks := [.int .u64, .int .u32, .int .u64, .int .u16, .int .u16]) Try.underlying26 (by kernel_rfl) hok h
  obtain ⟨l⟩ := cs
  simp only [List.toList_toArray] at hf
  match l, hf with
  | [_, _, _, _, _], ⟨⟨n1, e1, w1⟩, ⟨n2, e2, w2⟩, ⟨n3, e3, w3⟩, ⟨n4, e4, w4⟩, ⟨n5, e5, w5⟩, _⟩ =>
    subst e1 e2 e3 e4 e5
    exact ⟨⟨n1, n2, n3, n4, n5⟩, rfl, wf_u64 w1, wf_u32 w2, wf_u64 w3, wf_u16 w4, wf_u16 w5⟩

def E0 : Env := ⟨fun _ => default, fun _ => 0⟩
end Go.Proofs.Ythhdfidenigcaaa
