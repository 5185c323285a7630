import Derived.Test.YtjemfkoamfnofaaGreatFor
set_option linter.unusedVariables false
namespace Go.Proofs.YtjemfkoamfnofaaGreat
open Go Go.RowKit
def tabGo (sp : FuncId → List SV → Heap → Nat → Out (SV × Heap × Nat)) (f : FuncId) (args : List SV) (H : Heap) (nx : Nat) : Nat → Nat → Out (SV × Heap × Nat)
 | _, 0 => .bad
 | b, k + 1 => .ite (Nat.beq f b) (sp b args H nx) (tabGo sp f args H nx (Nat.add b 1) k)
theorem tabGo_sel {sp : FuncId → List SV → Heap → Nat → Out (SV × Heap × Nat)} {f : FuncId} {args : List SV} {H : Heap} {nx : Nat} {r : SV × Heap × Nat} : ∀ {k b : Nat}, (tabGo sp f args H nx b k).sel = some r → (sp f args H nx).sel = some r
 | 0, b, h => by cases h
 | k + 1, b, h => by
   unfold tabGo at h
   cases hb : Nat.beq f b with
   | true =>
     have := Nat.eq_of_beq_eq_true hb; subst this
     rw [hb] at h
     simpa [Out.sel] using h
   | false =>
     rw [hb] at h
     simp only [Out.sel, Bool.false_eq_true, if_false] at h
     exact tabGo_sel h
structure Alike (x z : SV) : Prop where
 den : ∀ S E, x.den S E = z.den S E
 cells : ∀ S E, x.cells S E = z.cells S E
 fo : ∀ S, x.foOk S → z.foOk S
end Go.Proofs.YtjemfkoamfnofaaGreat
