import Derived.Test.YtjemfkoamfnofaaGreatFor
set_option linter.unusedVariables false
namespace Go.Proofs.YtjemfkoamfnofaaGreat
open Go Go.RowKit
def tabGo (sp : FuncId → List SV → Heap → Nat → Out (SV × Heap × Nat)) (f : FuncId) (args : List SV) (H : Heap) (nx : Nat) : Nat → Nat → Out (SV × Heap × Nat)
 | _, 0 => .bad
 | b, k + 1 => .ite (Nat.beq f b) (sp b args H nx) (tabGo sp f args H nx (Nat.add b 1) k)
theorem tabGo_sel {sp : FuncId → List SV → Heap → Nat → Out (SV × Heap × Nat)} {f : FuncId} {args : List SV} {H : Heap} {nx : Nat} {r : SV × Heap × Nat} : ∀ {k b : Nat}, (tabGo sp f args H nx b k).sel = some r → (sp f args H nx).sel = some r
 | 0, b, h => by cases h
 | k + 1, b, h => by
   unfold tabGo at h
   cases hb : Nat.beq f b with
   | true =>
     have := Nat.eq_of_beq_eq_true hb; subst this
     rw [hb] at h
     simpa [Out.sel] using h
   | false =>
     rw [hb] at h
     simp only [Out.sel, Bool.false_eq_true, if_false] at h
     exact tabGo_sel h
structure Alike (x z : SV) : Prop where
 den : ∀ S E, x.den S E = z.den S E
 cells : ∀ S E, x.cells S E = z.cells S E
 fo : ∀ S, x.foOk S → z.foOk S
def AlikeL : List SV → List SV → Prop
 | [], [] => True
 | x :: r, z :: s => Alike x z ∧ AlikeL r s
 | _, _ => False
theorem Alike.trans {x y z : SV} (h : Alike x y) (k : Alike y z) : Alike x z := ⟨fun S E => (h.den S E).trans (k.den S E), fun S E => (h.cells S E).trans (k.cells S E), fun S hx => k.fo S (h.fo S hx)⟩
theorem AlikeL.trans : ∀ {x y z : List SV}, AlikeL x y → AlikeL y z → AlikeL x z
 | [], [], [], _, _ => trivial
 | _ :: _, _ :: _, _ :: _, h, k => ⟨h.1.trans k.1, h.2.trans k.2⟩
 | [], [], _ :: _, _, k => k.elim
 | [], _ :: _, _, h, _ => h.elim
 | _ :: _, [], _, h, _ => h.elim
 | _ :: _, _ :: _, [], _, k => k.elim
def Stat.only (S : Stat) (ks : List Nat) (nx : Nat) : Stat := { S with ro := fun k => bif Nat.blt k nx then (bif hasN ks k then S.ro k else true) else S.ro k }
theorem AlikeL.get : ∀ {l l' : List SV}, AlikeL l l' → ∀ {i : Nat} {x : SV}, l'[i]? = some x → ∃ x0, l[i]? = some x0 ∧ Alike x0 x
 | [], [], _, i, x, h => by simp at h
 | a :: l, b :: l', hh, i, x, h => by
   cases i with
   | zero => simp only [List.getElem?_cons_zero, Option.some.injEq] at h; subst h; exact ⟨a, rfl, hh.1⟩
   | succ i => simpa using hh.2.get (by simpa using h)
 | [], _ :: _, hh, _, _, _ => hh.elim
 | _ :: _, [], hh, _, _, _ => hh.elim
theorem AlikeL.len : ∀ {l l' : List SV}, AlikeL l l' → l'.length = l.length
 | [], [], _ => rfl
 | _ :: l, _ :: l', h => by simp [h.2.len]
 | [], _ :: _, h => h.elim
 | _ :: _, [], h => h.elim
end Go.Proofs.YtjemfkoamfnofaaGreat
