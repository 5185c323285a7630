/- The row of a law: out of a contract that says 'true, and nothing that was there has turned'; and how plain structs are opened. -/
import Derived.Test.YtfncoeoaniclmaaBase
import Derived.Test.YtfncoeoaniclmaaRows
import Derived.WalkKit
import Derived.ProofKit
import Derived.OpenShut
import Derived.ChangeOld
import Derived.Below
import Derived.Carry
import Derived.SizedLaws
set_option linter.unusedVariables false
set_option maxRecDepth 100000
namespace Go.Proofs.Ytfncoeoaniclmaa
open Go.ChangeShapes Go.WideShapes Go.ChangeAt Go.RowKit

theorem lawOwn : ownKnob Try.prog.godebug = none := by kernel_rfl
theorem lawLaid : laidOutB Try.prog = true := by kernel_rfl

theorem trodAll_length {H : Type} {enc : TypeId × Value → H} {P : Program} {w : World} {base : Nat} {spare : Nat → Bool} {held : Bool} : ∀ {ts : List TypeId} {vs : List Value} {ds : List (DataW H)} {ps : List MemPlace},
    DataW.TrodAll enc P w base spare held ts vs ds ps → ds.length = ts.length
  | [], vs, ds, ps, h => by obtain ⟨rfl, rfl, rfl⟩ := trodAll_nil h; rfl
  | t :: ts, vs, ds, ps, h => by
    obtain ⟨v, vs', d, ds', p, q, rfl, rfl, rfl, _, h2⟩ := trodAll_cons h
    simp [trodAll_length h2]

theorem trodAll_below {H : Type} {enc : TypeId × Value → H} {W W' : World} (hb : Below W.heap.size W W') : ∀ {ts : List TypeId} {vs : List Value} {ds : List (DataW H)} {ps : List MemPlace},
    (∀ t ∈ ts, Try.prog.readableRec t = true ∧ t < Try.prog.types.size) → DataW.TrodAll enc Try.prog W 0 (fun _ => true) true ts vs ds ps → (∀ x ∈ ps, x.block < W.heap.size) →
    DataW.TrodAll enc Try.prog W' 0 (fun b => decide (b < W.heap.size)) true ts vs ds ps
  | [], vs, ds, ps, _, h, _ => by obtain ⟨rfl, rfl, rfl⟩ := trodAll_nil h; exact trodAll_mk0
  | t :: ts, vs, ds, ps, hr, h, hlt => by
    obtain ⟨v, vs', d, ds', p, q, rfl, rfl, rfl, h1, h2⟩ := trodAll_cons h
    have h0 := hr t List.mem_cons_self
    exact trodAll_cons_mk (Below.trod lawLaid h0.1 h0.2 h1 hb fun x hx => hlt x (List.mem_append_left _ hx)) (trodAll_below hb (fun t ht => hr t (List.mem_cons_of_mem _ ht)) h2 fun x hx => hlt x (List.mem_append_right _ hx))

theorem law_lifted {f : FuncId} {fn : Func} {s : ChangeSpec} {dom : List PathCond} {tb : TypeId} {ts : List TypeId} (hfn : Try.checked.prog.funcs[f]? = some fn) (noInit : Try.checked.prog.inits.idxOf? f = none)
    (hps : fn.params.toList = ts) (hr : (∀ t ∈ ts, Try.prog.readableRec t = true ∧ t < Try.prog.types.size)) (hres : fn.resultTypes = #[tb]) (htb : Try.prog.underlying tb = some .bool) (hvars : s.vars = [])
    (hspec : ∀ (H : Type) (ds : List (DataW H)), ds.length = ts.length → s.fn H ds = { results := [.lit (.bool true)], args := ds })
    (os : Os) (started : os.Started) (H : Type) (enc : TypeId × Value → H)
    (witness : ∃ (w : World) (tape : Tape) (i : Input), w.os = os ∧ (w.forCall tape i).Shaped Try.checked.prog ∧ i.vars = [] ∧ Input.okWide Try.checked.prog (w.forCall tape i) .any w.heap.size f i ∧
      s.pre6 enc Try.checked.prog fn dom false (w.forCall tape i).memory i.args ∧ Assume.holds {} Try.checked.prog (lone (Frame.enter Try.checked.prog f i.args .normal) [] (w.forCall tape i)))
    (contract : ∀ (W : World) (args : Array Value) (ds : List (DataW H)) (ps : List MemPlace), (∀ (j : Nat) t v, ts[j]? = some t → args[j]? = some v → ∃ base, Value.okWide Try.prog W .any base t v) →
      DataW.TrodAll enc Try.prog W 0 (fun _ => true) true ts args.toList ds ps → (∀ x ∈ ps, x.block < W.heap.size) → (DataW.weightsEach Try.prog ts ds).all (· ≤ reachBytes) = true →
      Calls Try.prog f args W fun e W' => e = .returned (.bool true) ∧ Fr W W' (fun _ _ => False)) :
    ReturnsInHanded {} Try.checked os f .any (s.pre6 enc Try.prog fn dom false) (s.post enc Try.prog fn false true false false) := by
  refine returnsInHanded_of_change_sized (C := Try.checked) lawOwn started noInit hfn witness ?_
  intro W base args ds gs before hval hW _ hsz _
  have hW' := hW
  obtain ⟨p, q, hA0, hV, rfl, hfz, hnd⟩ := hW
  have hA : DataW.TrodAll enc Try.prog W 0 (fun _ => true) true ts args.toList ds p := by rw [← hps]; exact hA0
  rw [hvars] at hV
  obtain ⟨rfl, rfl⟩ := trodVars_none hV
  have hlt : ∀ x ∈ p, x.block < W.heap.size := fun x hx => by simpa using hW'.lt x (List.mem_append_left _ hx)
  have hsz' : (DataW.weightsEach Try.prog ts ds).all (· ≤ reachBytes) = true := by
    have e : s.plain.varTypes Try.checked.prog = [] := by
      have : s.plain.vars = [] := hvars
      simp [DataSpec.varTypes, this]
    rw [e, List.append_nil, List.append_nil, hps] at hsz
    exact hsz
  refine (contract W args ds p (fun j t v hj hv => ⟨base, hval j t v (by rw [← Array.getElem?_toList, hps]; exact hj) hv⟩) hA hlt hsz').mono fun e W' ⟨he, hfr⟩ => ?_
  have bel := hfr.below
  subst he
  have hs := hspec H (ds ++ []) (by rw [List.append_nil]; exact trodAll_length hA)
  refine ⟨_, rfl, ds, [], p ++ [], [], p, [], hW', ?_, ?_, ?_, bel.frame _, fun h => by cases h⟩
  · rw [hs, hres]
    exact trodAll_mk1 (shut_bool htb _)
  · rw [hs, List.append_nil]
    rw [show fn.params.toList = ts from hps]
    exact trodAll_below bel hr hA hlt
  · rw [hs, hvars]
    rfl
end Go.Proofs.Ytfncoeoaniclmaa
