/- Ranges over functions: what is walked without a fence is walked inside the widest one; activations that leave with a mark. -/
import Derived.Test.YtfncoeoaniclmaaBld
import Derived.RangeFuncNested
import Derived.RangeFuncBound
import Derived.RangeFuncCalls
import Derived.RangeFuncLeaves
import Derived.RangeFuncBox
import Derived.OwnWalkIn
import Derived.Maps.AppendAt
set_option linter.unusedVariables false
set_option maxRecDepth 100000
namespace Go.Proofs.Ytfncoeoaniclmaa
open Go Go.RowKit

section
variable {P : Program} {n : Nat}
theorem rows_wide {row : String} {args : Array Value} {w : World} {R : Value → World → Prop} (h : Go.Rows P row args w R) : RowsIn Fence.wide n P row args w R := by
  intro c cs _
  obtain ⟨v, w', hR, hs⟩ := h c cs
  exact ⟨v, w', hR, stepsIn_wide.2 hs⟩
theorem upon_wide {o : Oper} {a : Act} {next next' : Act → World → Prop} {Q1 Q : Exit → Act → World → Prop} (hn : ∀ a w, next a w → next' a w) (hL : ¬ LetsOut Q1) (hP : ∀ ch a w, ¬ Q1 (.panic ch) a w)
    {r : Result Go.Next} (h : o.upon P a next Q1 r) : o.uponIn Fence.wide n P a next' Q r := by
  unfold Oper.upon at h
  split at h
  · exact hn _ _ h
  · exact hn _ _ h
  · exact hn _ _ h
  · refine ⟨fun hd => by (cases hd), callsIn_wide.2 (Calls.mono h fun e w'' he => ?_)⟩
    cases e with
    | returned v => exact hn _ _ he
    | panicked ch => exact absurd he (hP _ _ _)
    | outgrown => exact absurd he hL
  · exact ⟨fun hd => by (cases hd), rows_wide (Rows.mono h fun v w'' he => hn _ _ he)⟩
  · exact absurd h (hP _ _ _)
  · exact h.elim
/-- what is walked without a fence, then inside the widest one -/
theorem list_wide {ops : Array Oper} {Q1 Q : Exit → Act → World → Prop} {l2 : List Oper} {R : Act → World → Prop} (hQ1 : ∀ e a w, Q1 e a w → e = .normal ∧ R a w) (hR : ∀ a w, R a w → wpListIn Fence.wide n P ops Q l2 a w) :
    ∀ (l : List Oper) (a : Act) (w : World), wpList P ops Q1 l a w → wpListIn Fence.wide n P ops Q (l ++ l2) a w
  | [], a, w, h => hR a w (hQ1 _ a w h).2
  | o :: r, a, w, h => by
    have hL : ¬ LetsOut Q1 := fun ⟨a, w, h⟩ => by cases (hQ1 _ a w h).1
    show wpListIn Fence.wide n P ops Q (o :: (r ++ l2)) a w
    unfold wpListIn
    unfold wpList at h
    split
    · rename_i hw
      rw [if_pos hw] at h
      rcases h with h | ⟨_, h⟩
      · refine ⟨fun _ _ => trivial, ?_⟩
        exact upon_wide (fun a w h => list_wide hQ1 hR r a w h) hL (fun ch a w h => by cases (hQ1 _ a w h).1) h
      · exact absurd h hL
    · rename_i hw
      rw [if_neg hw] at h
      exact ⟨fun _ _ => trivial, list_wide hQ1 hR r _ _ h⟩
theorem upon_round {lp : Nat} {o : Oper} {a : Act} {next next' : Act → World → Prop} {Q1 Q : Exit → Act → World → Prop} (hn : ∀ a w, next a w → next' a w) (hL : ¬ LetsOut Q1) (hP : ∀ ch a w, ¬ Q1 (.panic ch) a w)
    {r : Result Go.Next} (h : o.upon P a next Q1 r) : o.uponIn (Fence.wide.inRound lp) n P a next' Q r := by
  unfold Oper.upon at h
  split at h
  · exact hn _ _ h
  · exact hn _ _ h
  · exact hn _ _ h
  · refine ⟨fun hd => by (cases hd), CallsIn.inRound lp (callsIn_wide.2 (Calls.mono h fun e w'' he => ?_))⟩
    cases e with
    | returned v => exact hn _ _ he
    | panicked ch => exact absurd he (hP _ _ _)
    | outgrown => exact absurd he hL
  · exact ⟨fun hd => by (cases hd), rows_wide (Rows.mono h fun v w'' he => hn _ _ he)⟩
  · exact absurd h (hP _ _ _)
  · exact h.elim
/-- what is walked without a fence, then in a round -/
theorem list_round {lp : Nat} {ops : Array Oper} {Q1 Q : Exit → Act → World → Prop} (hQ1 : ∀ e a w, Q1 e a w → e = .normal ∧ Q .normal a w) :
    ∀ (l : List Oper) (a : Act) (w : World), (∀ o ∈ l, ∀ c, o.op ≠ .defer c) → wpList P ops Q1 l a w → wpListIn (Fence.wide.inRound lp) n P ops Q l a w
  | [], a, w, _, h => (hQ1 _ a w h).2
  | o :: r, a, w, hd, h => by
    have hL : ¬ LetsOut Q1 := fun ⟨a, w, h⟩ => by cases (hQ1 _ a w h).1
    unfold wpListIn
    unfold wpList at h
    split
    · rename_i hw
      rw [if_pos hw] at h
      rcases h with h | ⟨_, h⟩
      · refine ⟨fun _ _ => trivial, ?_⟩
        rw [Oper.semAt_eq _ _ _ (hd o List.mem_cons_self)]
        exact upon_round (fun a w h => list_round hQ1 r a w (fun o ho => hd o (List.mem_cons_of_mem _ ho)) h) hL (fun ch a w h => by cases (hQ1 _ a w h).1) h
      · exact absurd h hL
    · rename_i hw
      rw [if_neg hw] at h
      exact ⟨fun _ _ => trivial, list_round hQ1 r _ _ (fun o ho => hd o (List.mem_cons_of_mem _ ho)) h⟩
end

/-! ### activations that leave with marks -/
section
variable {P : Program}
def Act.and (a : Act) (d : List Deferred) : Act := ⟨a.tmps, a.defers ++ d⟩
theorem Act.and_put (a : Act) (d : List Deferred) (t : Option Nat) (v : Value) : (Act.and a d).put t v = Act.and (a.put t v) d := by
  cases t <;> rfl
theorem list_def {ops : Array Oper} {Q : Exit → Act → World → Prop} (d : List Deferred) : ∀ (l : List Oper) (a : Act) (w : World), wpList P ops Q l a w → wpList P ops (fun e a' w' => ∃ b, a' = Act.and b d ∧ Q e b w') l (Act.and a d) w
  | [], a, w, h => ⟨a, rfl, h⟩
  | o :: r, a, w, h => by
    have hL : LetsOut Q → LetsOut (fun e a' w' => ∃ b, a' = Act.and b d ∧ Q e b w') := fun ⟨a, w, h⟩ => ⟨_, w, a, rfl, h⟩
    have hn : ∀ t v a w, wpList P ops Q r (a.put t v) w → wpList P ops (fun e a' w' => ∃ b, a' = Act.and b d ∧ Q e b w') r ((Act.and a d).put t v) w := fun t v a w h => by
      rw [Act.and_put]; exact list_def d r _ w h
    unfold wpList at h ⊢
    split
    · rename_i hw
      have hw' : Region.wanted o (yielded ops a.tmps) = true := hw
      rw [if_pos hw'] at h
      rcases h with h | ⟨h1, h2⟩
      · refine .inl ?_
        have h' : o.upon P a (wpList P ops Q r) Q ((execOp a.eval o).run P w) := h
        show o.upon P (Act.and a d) _ _ ((execOp a.eval o).run P w)
        generalize (execOp a.eval o).run P w = res at h'
        unfold Oper.upon at h' ⊢
        split at h'
        · exact hn _ _ _ _ h'
        · exact hn _ _ _ _ h'
        · rename_i df w'
          have e1 : (({ tmps := (Act.and a d).tmps, defers := df :: (Act.and a d).defers } : Act).put o.dst undef) = Act.and (({ tmps := a.tmps, defers := df :: a.defers } : Act).put o.dst undef) d := by
            cases o.dst <;> rfl
          show wpList P ops _ r (({ tmps := (Act.and a d).tmps, defers := df :: (Act.and a d).defers } : Act).put o.dst undef) w'
          rw [e1]
          exact list_def d r _ _ h'
        · refine Calls.mono h' fun e w'' he => ?_
          cases e with
          | returned v => exact hn _ _ _ _ he
          | panicked ch => exact ⟨a, rfl, he⟩
          | outgrown => exact hL he
        · exact Rows.mono h' fun v w'' he => hn _ _ _ _ he
        · exact ⟨a, rfl, h'⟩
        · exact h'.elim
      · exact .inr ⟨h1, hL h2⟩
    · rename_i hw
      have hw' : ¬ Region.wanted o (yielded ops a.tmps) = true := hw
      rw [if_neg hw'] at h
      exact hn _ _ _ _ h
/-- code without loops, and draws -/
def plainC : Code → Bool
  | .skip => true
  | .region _ _ dr => !dr
  | .seq x y => plainC x && plainC y
  | .cond _ x y => plainC x && plainC y
  | .ret => true
  | _ => false
theorem exec_okD {c : Ctx} {n fuel : Nat} (hc : CtxFull P c) (d : List Deferred) (code : Code) : plainC code = true → ∀ (w0 : World) (M : Nat → Nat → Prop) (Q : Exit → Act → World → Prop) (st st' : St) (ex : Ex) (a : Act) (w : World) (E : Env),
    Sat c n w0 M E st a w → (exec c n fuel code st).sel = some (ex, st') →
    (∀ E' a' w', Env.upto st.next E E' → st.next ≤ st'.next → Sat c n w0 M E' st' a' w' → Q ex.out (Act.and a' d) w') → code.wp P Q (Act.and a d) w := by
  induction code with
  | skip =>
    intro _ w0 M Q st st' ex a w E sat h hK
    simp only [exec, Out.sel, Option.some.injEq, Prod.mk.injEq] at h
    obtain ⟨rfl, rfl⟩ := h
    exact wp_skip (hK E a w (Env.upto.refl _ _) (Nat.le_refl _) sat)
  | region id ops dr =>
    intro hp w0 M Q st st' ex a w E sat h hK
    cases dr with
    | false =>
      have h' : ((region c n ops.toList ops.toList st).bind fun st => .ret (Ex.nrm, { st with slots := dropGuarded st.slots })).sel = some (ex, st') := h
      rw [Out.sel_bind] at h'
      cases h1 : (region c n ops.toList ops.toList st).sel with
      | none => rw [h1] at h'; cases h'
      | some st1 =>
        rw [h1] at h'
        simp only [Option.bind_some, Out.sel, Option.some.injEq, Prod.mk.injEq] at h'
        obtain ⟨rfl, rfl⟩ := h'
        have h0 := region_ok hc (Q := fun e b w' => Q e (Act.and b d) w') ops.toList ops.toList st st1 a w E sat h1 fun E' a' w' hu hle sat' => hK E' a' w' hu hle sat'.drop
        have := wp_region_lit (id := id) (list_def d _ _ _ h0)
        have this2 : (Code.region id ops false).wp P (fun e a' w' => ∃ b, a' = Act.and b d ∧ Q e (Act.and b d) w') (Act.and a d) w := by simpa using this
        exact wp_mono this2 fun e a' w' ⟨b, hb, hq⟩ => by rw [hb]; exact hq
    | true => cases hp
  | seq x y ihx ihy =>
    intro hp w0 M Q st st' ex a w E sat h hK
    have hp' := Bool.and_eq_true_iff.1 hp
    have h' : ((exec c n fuel x st).bind fun r => match r.1 with | .nrm => exec c n fuel y r.2 | z => .ret (z, r.2)).sel = some (ex, st') := h
    rw [Out.sel_bind] at h'
    cases h1 : (exec c n fuel x st).sel with
    | none => rw [h1] at h'; cases h'
    | some r =>
      obtain ⟨e1, st1⟩ := r
      rw [h1] at h'
      simp only [Option.bind_some] at h'
      refine wp_seq (ihx hp'.1 w0 M _ st st1 e1 a w E sat h1 ?_)
      intro E' a' w' hu hle sat'
      cases e1 with
      | nrm => exact ihy hp'.2 w0 M Q st1 st' ex a' w' E' sat' h' fun E'' a'' w'' hu2 hle2 sat2 => hK E'' a'' w'' (hu.trans hu2 hle) (Nat.le_trans hle hle2) sat2
      | exit i => simp only [Out.sel, Option.some.injEq, Prod.mk.injEq] at h'; obtain ⟨rfl, rfl⟩ := h'; exact hK E' a' w' hu hle sat'
      | ret => simp only [Out.sel, Option.some.injEq, Prod.mk.injEq] at h'; obtain ⟨rfl, rfl⟩ := h'; exact hK E' a' w' hu hle sat'
      | goto l => simp only [Out.sel, Option.some.injEq, Prod.mk.injEq] at h'; obtain ⟨rfl, rfl⟩ := h'; exact hK E' a' w' hu hle sat'
  | cond x t e iht ihe =>
    intro hp w0 M Q st st' ex a w E sat h hK
    have hp' := Bool.and_eq_true_iff.1 hp
    have h' : (match ev st.slots [] x with
      | some (.kb true) => exec c n fuel t st
      | some (.kb false) => exec c n fuel e st
      | some (.v (.bool b)) => .ite b (exec c n fuel t (st.learn x true)) (exec c n fuel e (st.learn x false))
      | _ => .bad).sel = some (ex, st') := h
    have hnil : PathHolds a [] := fun _ _ hm => by cases hm
    have hev : ∀ x, (Act.and a d).eval x = a.eval x := fun x => rfl
    split at h'
    · rename_i hx
      exact wp_cond_true (ev_ok sat.slots hnil hx) (iht hp'.1 w0 M Q st st' ex a w E sat h' hK)
    · rename_i hx
      exact wp_cond_false (ev_ok sat.slots hnil hx) (ihe hp'.2 w0 M Q st st' ex a w E sat h' hK)
    · rename_i b hx
      have hv := ev_ok sat.slots hnil hx
      have hln : (st.learn x b).next = st.next := by cases x <;> rfl
      cases b with
      | true =>
        simp only [Out.sel, if_true] at h'
        exact wp_cond_true hv (iht hp'.1 w0 M Q (st.learn x true) st' ex a w E (sat.learn hx) h' (by rw [hln]; exact hK))
      | false =>
        simp only [Out.sel, Bool.false_eq_true, if_false] at h'
        exact wp_cond_false hv (ihe hp'.2 w0 M Q (st.learn x false) st' ex a w E (sat.learn hx) h' (by rw [hln]; exact hK))
    · cases h'
  | ret =>
    intro _ w0 M Q st st' ex a w E sat h hK
    simp only [exec, Out.sel, Option.some.injEq, Prod.mk.injEq] at h
    obtain ⟨rfl, rfl⟩ := h
    exact wp_ret (hK E a w (Env.upto.refl _ _) (Nat.le_refl _) sat)
  | _ => intro hp; cases hp
end
end Go.Proofs.Ytfncoeoaniclmaa
