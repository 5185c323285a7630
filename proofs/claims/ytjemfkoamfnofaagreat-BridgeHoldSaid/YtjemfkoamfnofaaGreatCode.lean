import Derived.Test.YtjemfkoamfnofaaGreatWalk
import Derived.Scope
set_option linter.unusedVariables false
namespace Go.Proofs.YtjemfkoamfnofaaGreat
open Go Go.RowKit
def DrawOk (P : Program) (c : Ctx) (n : Nat) : Prop :=
 ∀ (id : Nat) (ops : List Oper) (w0 : World) (M : Nat → Nat → Prop) (Q : Exit → Act → World → Prop) (st st' : St) (a : Act) (w : World) (E : Env),
   Sat c n w0 M E st a w → (drawRegion c n ops st).sel = some st' →
   (∀ E' a' w', Env.upto st.next E E' → st.next ≤ st'.next → Sat c n w0 M E' { st' with slots := dropGuarded st'.slots } a' w' → Q .normal a' w') → (Code.region id ops.toArray true).wp P Q a w
section
variable {P : Program} {c : Ctx} {n : Nat}
theorem Sat.drop {w0 : World} {M : Nat → Nat → Prop} {E : Env} {st : St} {a : Act} {w : World} (h : Sat c n w0 M E st a w) : Sat c n w0 M E { st with slots := dropGuarded st.slots } a w :=
 ⟨dropGuarded_ok h.slots, h.hs, h.own, h.fr, h.win, h.winb, h.size, h.defers⟩
theorem setSlot_get : ∀ (s : Slots) (t : Nat) (y : SV) (d : Nat), (setSlot s t y).get d = if d = t then (s.get t).map (fun q => (q.1, y)) else s.get d
 | [], t, y, d => by simp [setSlot, Slots.get]
 | (k, p, x) :: r, t, y, d => by
   unfold setSlot
   cases hk : Nat.beq k t with
   | true =>
     have := Nat.eq_of_beq_eq_true hk; subst this
     simp only [cond_true, Slots.get]
     by_cases hd : d = k
     · subst hd; simp
     · have : Nat.beq k d = false := by
         cases hb : Nat.beq k d with
         | false => rfl
         | true => exact absurd (Nat.eq_of_beq_eq_true hb).symm hd
       simp [this, hd]
   | false =>
     simp only [cond_false, Slots.get, hk]
     cases hkd : Nat.beq k d with
     | true =>
       have := Nat.eq_of_beq_eq_true hkd; subst this
       have hne : ¬ k = t := by intro he; subst he; simp at hk
       simp [hne]
     | false => simp only [cond_false]; exact setSlot_get r t y d
theorem Sat.learn {w0 : World} {M : Nat → Nat → Prop} {E : Env} {st : St} {a : Act} {w : World} (h : Sat c n w0 M E st a w) {x : Operand} {b : Bool} (hx : ev st.slots [] x = some (.v (.bool b))) : Sat c n w0 M E (st.learn x b) a w := by
 cases x with
 | tmp t =>
   refine ⟨?_, h.hs, h.own, h.fr, h.win, h.winb, h.size, h.defers⟩
   intro d p y hy
   have hy' : (setSlot st.slots t (.kb b)).get d = some (p, y) := hy
   rw [setSlot_get] at hy'
   split at hy'
   · rename_i he; subst he
     simp only [ev] at hx
     split at hx
     · rename_i q z hz
       rw [hz] at hy'
       simp only [Option.map_some, Option.some.injEq, Prod.mk.injEq] at hy'
       obtain ⟨rfl, rfl⟩ := hy'
       have hs := h.slots d q z hz
       cases hw : within q [] with
       | false => rw [hw] at hx; cases hx
       | true =>
         rw [hw] at hx
         injection hx with hx; subst hx
         exact hs
     · cases hx
   · exact h.slots d p y hy'
 | const v => exact h
 | func f => exact h
 | global g => exact h
def CodeOk (P : Program) (c : Ctx) (n : Nat) (f : St → Out (Ex × St)) (code : Code) : Prop :=
 ∀ (w0 : World) (M : Nat → Nat → Prop) (Q : Exit → Act → World → Prop) (st st' : St) (ex : Ex) (a : Act) (w : World) (E : Env),
   Sat c n w0 M E st a w → (f st).sel = some (ex, st') →
   (∀ E' a' w', Env.upto st.next E E' → st.next ≤ st'.next → Sat c n w0 M E' st' a' w' → Q ex.out a' w') → code.wp P Q a w
theorem loopN_ok {f : St → Out (Ex × St)} {code : Code} (hf : CodeOk P c n f code) : ∀ (k : Nat) (w0 : World) (M : Nat → Nat → Prop) (Q : Exit → Act → World → Prop) (st st' : St) (ex : Ex) (a : Act) (w : World) (E : Env),
   Sat c n w0 M E st a w → (loopN f k st).sel = some (ex, st') →
   (∀ E' a' w', Env.upto st.next E E' → st.next ≤ st'.next → Sat c n w0 M E' st' a' w' → Q ex.out a' w') → Code.rounds P code Q k a w
 | 0, w0, M, Q, st, st', ex, a, w, E, sat, h, hK => by simp [loopN, Out.sel] at h
 | k + 1, w0, M, Q, st, st', ex, a, w, E, sat, h, hK => by
   simp only [loopN, Out.sel_bind] at h
   rw [rounds_succ]
   cases h1 : (f st).sel with
   | none => rw [h1] at h; cases h
   | some r =>
     obtain ⟨e1, st1⟩ := r
     rw [h1] at h
     simp only [Option.bind_some] at h
     refine hf w0 M _ st st1 e1 a w E sat h1 ?_
     intro E' a' w' hu hle sat'
     cases e1 with
     | nrm => exact loopN_ok hf k w0 M Q st1 st' ex a' w' E' sat' h fun E'' a'' w'' hu2 hle2 sat2 => hK E'' a'' w'' (hu.trans hu2 hle) (Nat.le_trans hle hle2) sat2
     | exit i => simp only [Out.sel, Option.some.injEq, Prod.mk.injEq] at h; obtain ⟨rfl, rfl⟩ := h; exact hK E' a' w' hu hle sat'
     | ret => simp only [Out.sel, Option.some.injEq, Prod.mk.injEq] at h; obtain ⟨rfl, rfl⟩ := h; exact hK E' a' w' hu hle sat'
     | goto l => simp only [Out.sel, Option.some.injEq, Prod.mk.injEq] at h; obtain ⟨rfl, rfl⟩ := h; exact hK E' a' w' hu hle sat'
def loopsOf : Code → List Code
 | .seq x y => loopsOf x ++ loopsOf y
 | .cond _ t e => loopsOf t ++ loopsOf e
 | .block _ x => loopsOf x
 | .loop x => x :: loopsOf x
 | .scope x => loopsOf x
 | _ => []
def LoopOk (P : Program) (c : Ctx) (n : Nat) (b : Code) (g : St → Option (Out (Ex × St))) : Prop :=
 ∀ (st : St) (o : Out (Ex × St)), g st = some o → ∀ (w0 : World) (M : Nat → Nat → Prop) (Q : Exit → Act → World → Prop) (st' : St) (ex : Ex) (a : Act) (w : World) (E : Env),
   Sat c n w0 M E st a w → o.sel = some (ex, st') →
   (∀ E' a' w', Env.upto st.next E E' → st.next ≤ st'.next → Sat c n w0 M E' st' a' w' → Q ex.out a' w') → (Code.loop b).wp P Q a w
def LoopsOk (P : Program) (c : Ctx) (n : Nat) (code : Code) : Prop := ∀ b ∈ loopsOf code, LoopOk P c n b (c.loop (firstId b))
theorem LoopsOk.none (h : ∀ k st, c.loop k st = none) (code : Code) : LoopsOk P c n code := fun b _ st o ho => by rw [h] at ho; cases ho
theorem exec_ok (hc : CtxFull P c) {fuel : Nat} (hd : DrawOk P c n) (code : Code) : LoopsOk P c n code → CodeOk P c n (exec c n fuel code) code := by
 induction code with
 | skip =>
   intro hl w0 M Q st st' ex a w E sat h hK
   simp only [exec, Out.sel, Option.some.injEq, Prod.mk.injEq] at h
   obtain ⟨rfl, rfl⟩ := h
   exact wp_skip (hK E a w (Env.upto.refl _ _) (Nat.le_refl _) sat)
 | region id ops dr =>
   intro hl w0 M Q st st' ex a w E sat h hK
   cases dr with
   | false =>
     have h' : ((region c n ops.toList ops.toList st).bind fun st => .ret (Ex.nrm, { st with slots := dropGuarded st.slots })).sel = some (ex, st') := h
     rw [Out.sel_bind] at h'
     cases h1 : (region c n ops.toList ops.toList st).sel with
     | none => rw [h1] at h'; cases h'
     | some st1 =>
       rw [h1] at h'
       simp only [Option.bind_some, Out.sel, Option.some.injEq, Prod.mk.injEq] at h'
       obtain ⟨rfl, rfl⟩ := h'
       have := wp_region_lit (id := id) (region_ok hc (Q := Q) ops.toList ops.toList st st1 a w E sat h1 fun E' a' w' hu hle sat' => hK E' a' w' hu hle sat'.drop)
       simpa using this
   | true =>
     have h' : ((drawRegion c n ops.toList st).bind fun st => .ret (Ex.nrm, { st with slots := dropGuarded st.slots })).sel = some (ex, st') := h
     rw [Out.sel_bind] at h'
     cases h1 : (drawRegion c n ops.toList st).sel with
     | none => rw [h1] at h'; cases h'
     | some st1 =>
       rw [h1] at h'
       simp only [Option.bind_some, Out.sel, Option.some.injEq, Prod.mk.injEq] at h'
       obtain ⟨rfl, rfl⟩ := h'
       have := hd id ops.toList w0 M Q st st1 a w E sat h1 fun E' a' w' hu hle sat' => hK E' a' w' hu hle sat'
       simpa using this
 | seq x y ihx ihy =>
   intro hl w0 M Q st st' ex a w E sat h hK
   have h' : ((exec c n fuel x st).bind fun r => match r.1 with | .nrm => exec c n fuel y r.2 | z => .ret (z, r.2)).sel = some (ex, st') := h
   rw [Out.sel_bind] at h'
   cases h1 : (exec c n fuel x st).sel with
   | none => rw [h1] at h'; cases h'
   | some r =>
     obtain ⟨e1, st1⟩ := r
     rw [h1] at h'
     simp only [Option.bind_some] at h'
     refine wp_seq (ihx (fun b hb => hl b (List.mem_append_left _ hb)) w0 M _ st st1 e1 a w E sat h1 ?_)
     intro E' a' w' hu hle sat'
     cases e1 with
     | nrm => exact ihy (fun b hb => hl b (List.mem_append_right _ hb)) w0 M Q st1 st' ex a' w' E' sat' h' fun E'' a'' w'' hu2 hle2 sat2 => hK E'' a'' w'' (hu.trans hu2 hle) (Nat.le_trans hle hle2) sat2
     | exit i => simp only [Out.sel, Option.some.injEq, Prod.mk.injEq] at h'; obtain ⟨rfl, rfl⟩ := h'; exact hK E' a' w' hu hle sat'
     | ret => simp only [Out.sel, Option.some.injEq, Prod.mk.injEq] at h'; obtain ⟨rfl, rfl⟩ := h'; exact hK E' a' w' hu hle sat'
     | goto l => simp only [Out.sel, Option.some.injEq, Prod.mk.injEq] at h'; obtain ⟨rfl, rfl⟩ := h'; exact hK E' a' w' hu hle sat'
 | cond x t e iht ihe =>
   intro hl w0 M Q st st' ex a w E sat h hK
   have h' : (match ev st.slots [] x with
     | some (.kb true) => exec c n fuel t st
     | some (.kb false) => exec c n fuel e st
     | some (.v (.bool b)) => .ite b (exec c n fuel t (st.learn x true)) (exec c n fuel e (st.learn x false))
     | _ => .bad).sel = some (ex, st') := h
   have hnil : PathHolds a [] := fun _ _ hm => by cases hm
   split at h'
   · rename_i hx
     exact wp_cond_true (ev_ok sat.slots hnil hx) (iht (fun b hb => hl b (List.mem_append_left _ hb)) w0 M Q st st' ex a w E sat h' hK)
   · rename_i hx
     exact wp_cond_false (ev_ok sat.slots hnil hx) (ihe (fun b hb => hl b (List.mem_append_right _ hb)) w0 M Q st st' ex a w E sat h' hK)
   · rename_i b hx
     have hv := ev_ok sat.slots hnil hx
     have hln : (st.learn x b).next = st.next := by cases x <;> rfl
     cases b with
     | true =>
       simp only [Out.sel, if_true] at h'
       exact wp_cond_true hv (iht (fun b hb => hl b (List.mem_append_left _ hb)) w0 M Q (st.learn x true) st' ex a w E (sat.learn hx) h' (by rw [hln]; exact hK))
     | false =>
       simp only [Out.sel, Bool.false_eq_true, if_false] at h'
       exact wp_cond_false hv (ihe (fun b hb => hl b (List.mem_append_right _ hb)) w0 M Q (st.learn x false) st' ex a w E (sat.learn hx) h' (by rw [hln]; exact hK))
   · cases h'
 | block id x ih =>
   intro hl w0 M Q st st' ex a w E sat h hK
   have h' : ((exec c n fuel x st).bind fun r => match r.1 with | .exit i => (bif Nat.beq i id then .ret (.nrm, r.2) else .ret r) | _ => .ret r).sel = some (ex, st') := h
   rw [Out.sel_bind] at h'
   cases h1 : (exec c n fuel x st).sel with
   | none => rw [h1] at h'; cases h'
   | some r =>
     obtain ⟨e1, st1⟩ := r
     rw [h1] at h'
     simp only [Option.bind_some] at h'
     refine wp_block (ih hl w0 M _ st st1 e1 a w E sat h1 ?_)
     intro E' a' w' hu hle sat'
     cases e1 with
     | nrm => simp only [Out.sel, Option.some.injEq, Prod.mk.injEq] at h'; obtain ⟨rfl, rfl⟩ := h'; exact hK E' a' w' hu hle sat'
     | exit i =>
       cases hb : Nat.beq i id with
       | true =>
         dsimp only at h'
         rw [hb] at h'
         simp only [cond_true, Out.sel, Option.some.injEq, Prod.mk.injEq] at h'
         obtain ⟨rfl, rfl⟩ := h'
         have := Nat.eq_of_beq_eq_true hb
         simp only [Ex.out, Exit.inBlock, this, if_true]
         exact hK E' a' w' hu hle sat'
       | false =>
         dsimp only at h'
         rw [hb] at h'
         simp only [cond_false, Out.sel, Option.some.injEq, Prod.mk.injEq] at h'
         obtain ⟨rfl, rfl⟩ := h'
         have hne : i ≠ id := by intro he; subst he; simp at hb
         simp only [Ex.out, Exit.inBlock, if_neg hne]
         exact hK E' a' w' hu hle sat'
     | ret => simp only [Out.sel, Option.some.injEq, Prod.mk.injEq] at h'; obtain ⟨rfl, rfl⟩ := h'; exact hK E' a' w' hu hle sat'
     | goto l => simp only [Out.sel, Option.some.injEq, Prod.mk.injEq] at h'; obtain ⟨rfl, rfl⟩ := h'; exact hK E' a' w' hu hle sat'
 | loop x ih =>
   intro hl w0 M Q st st' ex a w E sat h hK
   have h' : (match c.loop (firstId x) st with | some o => o | none => loopN (exec c n fuel x) fuel st).sel = some (ex, st') := h
   split at h'
   · rename_i o ho
     exact hl x List.mem_cons_self st o ho w0 M Q st' ex a w E sat h' hK
   · exact wp_loop_rounds fuel (loopN_ok (ih fun b hb => hl b (List.mem_cons_of_mem _ hb)) fuel w0 M Q st st' ex a w E sat h' hK)
 | rangeFunc f ps x y _ _ =>
   intro hl w0 M Q st st' ex a w E sat h hK
   exact absurd h (by simp [exec, Out.sel])
 | exit id =>
   intro hl w0 M Q st st' ex a w E sat h hK
   simp only [exec, Out.sel, Option.some.injEq, Prod.mk.injEq] at h
   obtain ⟨rfl, rfl⟩ := h
   exact wp_exit (hK E a w (Env.upto.refl _ _) (Nat.le_refl _) sat)
 | scope x ih =>
   intro hl w0 M Q st st' ex a w E sat h hK
   have h' : ((exec c n fuel x st).bind fun r => match r.1 with | .goto _ => .bad | _ => .ret r).sel = some (ex, st') := h
   rw [Out.sel_bind] at h'
   cases h1 : (exec c n fuel x st).sel with
   | none => rw [h1] at h'; cases h'
   | some r =>
     obtain ⟨e1, st1⟩ := r
     rw [h1] at h'
     simp only [Option.bind_some] at h'
     refine wp_scope_straight (ih hl w0 M _ st st1 e1 a w E sat h1 ?_)
     intro E' a' w' hu hle sat'
     cases e1 with
     | nrm => simp only [Out.sel, Option.some.injEq, Prod.mk.injEq] at h'; obtain ⟨rfl, rfl⟩ := h'; exact hK E' a' w' hu hle sat'
     | exit i => simp only [Out.sel, Option.some.injEq, Prod.mk.injEq] at h'; obtain ⟨rfl, rfl⟩ := h'; exact hK E' a' w' hu hle sat'
     | ret => simp only [Out.sel, Option.some.injEq, Prod.mk.injEq] at h'; obtain ⟨rfl, rfl⟩ := h'; exact hK E' a' w' hu hle sat'
     | goto l => cases h'
 | label l =>
   intro hl w0 M Q st st' ex a w E sat h hK
   simp only [exec, Out.sel, Option.some.injEq, Prod.mk.injEq] at h
   obtain ⟨rfl, rfl⟩ := h
   exact wp_label (hK E a w (Env.upto.refl _ _) (Nat.le_refl _) sat)
 | goto l =>
   intro hl w0 M Q st st' ex a w E sat h hK
   simp only [exec, Out.sel, Option.some.injEq, Prod.mk.injEq] at h
   obtain ⟨rfl, rfl⟩ := h
   exact wp_goto (hK E a w (Env.upto.refl _ _) (Nat.le_refl _) sat)
 | ret =>
   intro hl w0 M Q st st' ex a w E sat h hK
   simp only [exec, Out.sel, Option.some.injEq, Prod.mk.injEq] at h
   obtain ⟨rfl, rfl⟩ := h
   exact wp_ret (hK E a w (Env.upto.refl _ _) (Nat.le_refl _) sat)
 | refuse why =>
   intro hl w0 M Q st st' ex a w E sat h hK
   exact absurd h (by simp [exec, Out.sel])
theorem execL_ok (hc : CtxFull P c) {fuel : Nat} (hd : DrawOk P c n) : ∀ (code : Code) (l : Nat), LoopsOk P c n code →
   (∀ f, execL c n fuel code l = some f → ∃ rest, findLabel code l = some rest ∧ CodeOk P c n f rest) ∧ (execL c n fuel code l = none → findLabel code l = none) := by
 intro code
 induction code with
 | seq a b iha ihb =>
   intro l hl
   have ha := iha l (fun x hx => hl x (List.mem_append_left _ hx))
   have hb := ihb l (fun x hx => hl x (List.mem_append_right _ hx))
   cases h : execL c n fuel a l with
   | none =>
     simp only [execL, findLabel, h, ha.2 h]
     exact hb
   | some f =>
     obtain ⟨rest, h1, h2⟩ := ha.1 f h
     simp only [execL, findLabel, h, h1]
     refine ⟨fun g hg => ?_, fun hn => by cases hn⟩
     injection hg with hg
     subst hg
     refine ⟨_, rfl, ?_⟩
     intro w0 M Q st st' ex a' w E sat h' hK
     rw [Out.sel_bind] at h'
     cases h3 : (f st).sel with
     | none => rw [h3] at h'; cases h'
     | some r =>
       obtain ⟨e1, st1⟩ := r
       rw [h3] at h'
       simp only [Option.bind_some] at h'
       refine wp_seq (h2 w0 M _ st st1 e1 a' w E sat h3 ?_)
       intro E' a' w' hu hle sat'
       cases e1 with
       | nrm => exact exec_ok hc hd b (fun x hx => hl x (List.mem_append_right _ hx)) w0 M Q st1 st' ex a' w' E' sat' h' fun E'' a'' w'' hu2 hle2 sat2 => hK E'' a'' w'' (hu.trans hu2 hle) (Nat.le_trans hle hle2) sat2
       | exit i => simp only [Out.sel, Option.some.injEq, Prod.mk.injEq] at h'; obtain ⟨rfl, rfl⟩ := h'; exact hK E' a' w' hu hle sat'
       | ret => simp only [Out.sel, Option.some.injEq, Prod.mk.injEq] at h'; obtain ⟨rfl, rfl⟩ := h'; exact hK E' a' w' hu hle sat'
       | goto l => simp only [Out.sel, Option.some.injEq, Prod.mk.injEq] at h'; obtain ⟨rfl, rfl⟩ := h'; exact hK E' a' w' hu hle sat'
 | label l' =>
   intro l hl
   simp only [execL, findLabel]
   cases hb : Nat.beq l' l with
   | true =>
     have := Nat.eq_of_beq_eq_true hb
     subst this
     simp only [cond_true, beq_self_eq_true, if_true]
     refine ⟨fun g hg => ?_, fun hn => by cases hn⟩
     injection hg with hg
     subst hg
     refine ⟨_, rfl, ?_⟩
     intro w0 M Q st st' ex a' w E sat h' hK
     simp only [Out.sel, Option.some.injEq, Prod.mk.injEq] at h'
     obtain ⟨rfl, rfl⟩ := h'
     exact wp_skip (hK E a' w (Env.upto.refl _ _) (Nat.le_refl _) sat)
   | false =>
     have hne : l' ≠ l := by intro he; subst he; simp at hb
     simp only [cond_false]
     exact ⟨fun g hg => (by cases hg), fun _ => by simp [hne]⟩
 | _ => intro l hl; exact ⟨fun g hg => (by cases hg), fun _ => rfl⟩
def Hops (P : Program) (body : Code) (Q : Exit → Act → World → Prop) : Nat → Code → Act → World → Prop
 | 0, _, _, _ => False
 | k + 1, x, a, w => x.wp P (fun e a' w' => match e with
   | .goto l => ∃ rest, findLabel body l = some rest ∧ Hops P body Q k rest a' w'
   | e => Q e a' w') a w
theorem hops_run {body : Code} {Q : Exit → Act → World → Prop} : ∀ (m : Nat) (x : Code) (a : Act) (w : World), Hops P body Q m x a w → ∀ b k cs, ∃ e a' w', Q e a' w' ∧ Arrives P (lone (b.at a (.code x :: .inScope body :: k)) cs w) b k cs e a' w'
 | 0, _, _, _, h, _, _, _ => h.elim
 | m + 1, x, a, w, h, b, k, cs => by
   obtain ⟨e, a₁, w₁, hq, harr⟩ := h b (.inScope body :: k) cs
   cases e with
   | normal => exact ⟨.normal, a₁, w₁, hq, Steps.trans harr (.one step_inScope)⟩
   | exit id => exact ⟨.exit id, a₁, w₁, hq, fun k' hk => harr k' (by simp [exitTo, hk])⟩
   | goto l =>
     obtain ⟨rest, hf, hr⟩ := hq
     have hg : gotoIn l (.inScope body :: k) = some (.code rest :: .inScope body :: k) := by simp [gotoIn, hf]
     obtain ⟨e₂, a₂, w₂, hq₂, harr₂⟩ := hops_run m rest a₁ w₁ hr b k cs
     exact ⟨e₂, a₂, w₂, hq₂, .of_steps (harr _ hg) harr₂⟩
   | ret => exact ⟨_, a₁, w₁, hq, harr⟩
   | panic ch => exact ⟨_, a₁, w₁, hq, harr⟩
   | outgrown => exact ⟨_, a₁, w₁, hq, harr⟩
theorem wp_hops {body : Code} {Q : Exit → Act → World → Prop} {m : Nat} {a : Act} {w : World} (h : Hops P body Q m body a w) : (Code.scope body).wp P Q a w := by
 intro b k cs
 obtain ⟨e, a', w', hq, harr⟩ := hops_run m body a w h b k cs
 exact ⟨e, a', w', hq, .of_steps (.one step_scope) harr⟩
theorem hops_ok {body : Code} {g : Nat → Option (St → Out (Ex × St))} (hg : ∀ l f, g l = some f → ∃ rest, findLabel body l = some rest ∧ CodeOk P c n f rest) : ∀ (m : Nat) (x : Code) (f : St → Out (Ex × St)), CodeOk P c n f x →
   ∀ (w0 : World) (M : Nat → Nat → Prop) (Q : Exit → Act → World → Prop) (st st' : St) (ex : Ex) (a : Act) (w : World) (E : Env),
   Sat c n w0 M E st a w → (hops g m f st).sel = some (ex, st') →
   (∀ E' a' w', Env.upto st.next E E' → st.next ≤ st'.next → Sat c n w0 M E' st' a' w' → Q ex.out a' w') → Hops P body Q m x a w
 | 0, _, _, _, _, _, _, _, _, _, _, _, _, _, h, _ => by simp [hops, Out.sel] at h
 | m + 1, x, f, hf, w0, M, Q, st, st', ex, a, w, E, sat, h, hK => by
   simp only [hops, Out.sel_bind] at h
   cases h1 : (f st).sel with
   | none => rw [h1] at h; cases h
   | some r =>
     obtain ⟨e1, st1⟩ := r
     rw [h1] at h
     simp only [Option.bind_some] at h
     refine hf w0 M _ st st1 e1 a w E sat h1 ?_
     intro E' a' w' hu hle sat'
     cases e1 with
     | nrm => simp only [Out.sel, Option.some.injEq, Prod.mk.injEq] at h; obtain ⟨rfl, rfl⟩ := h; exact hK E' a' w' hu hle sat'
     | exit i => simp only [Out.sel, Option.some.injEq, Prod.mk.injEq] at h; obtain ⟨rfl, rfl⟩ := h; exact hK E' a' w' hu hle sat'
     | ret => simp only [Out.sel, Option.some.injEq, Prod.mk.injEq] at h; obtain ⟨rfl, rfl⟩ := h; exact hK E' a' w' hu hle sat'
     | goto l =>
       dsimp only at h
       cases hl : g l with
       | none => rw [hl] at h; cases h
       | some f' =>
         rw [hl] at h
         obtain ⟨rest, h2, h3⟩ := hg l f' hl
         exact ⟨rest, h2, hops_ok hg m rest f' h3 w0 M Q st1 st' ex a' w' E' sat' h fun E'' a'' w'' hu2 hle2 sat2 => hK E'' a'' w'' (hu.trans hu2 hle) (Nat.le_trans hle hle2) sat2⟩
theorem execG_ok (hc : CtxFull P c) {fuel : Nat} (hd : DrawOk P c n) : ∀ code : Code, LoopsOk P c n code → CodeOk P c n (execG c n fuel code) code
 | .seq x y, hl => by
   intro w0 M Q st st' ex a w E sat h hK
   have h' : ((exec c n fuel x st).bind fun r => match r.1 with | .nrm => execG c n fuel y r.2 | z => .ret (z, r.2)).sel = some (ex, st') := h
   rw [Out.sel_bind] at h'
   cases h1 : (exec c n fuel x st).sel with
   | none => rw [h1] at h'; cases h'
   | some r =>
     obtain ⟨e1, st1⟩ := r
     rw [h1] at h'
     simp only [Option.bind_some] at h'
     refine wp_seq (exec_ok hc hd x (fun b hb => hl b (List.mem_append_left _ hb)) w0 M _ st st1 e1 a w E sat h1 ?_)
     intro E' a' w' hu hle sat'
     cases e1 with
     | nrm => exact execG_ok hc hd y (fun b hb => hl b (List.mem_append_right _ hb)) w0 M Q st1 st' ex a' w' E' sat' h' fun E'' a'' w'' hu2 hle2 sat2 => hK E'' a'' w'' (hu.trans hu2 hle) (Nat.le_trans hle hle2) sat2
     | exit i => simp only [Out.sel, Option.some.injEq, Prod.mk.injEq] at h'; obtain ⟨rfl, rfl⟩ := h'; exact hK E' a' w' hu hle sat'
     | ret => simp only [Out.sel, Option.some.injEq, Prod.mk.injEq] at h'; obtain ⟨rfl, rfl⟩ := h'; exact hK E' a' w' hu hle sat'
     | goto l => simp only [Out.sel, Option.some.injEq, Prod.mk.injEq] at h'; obtain ⟨rfl, rfl⟩ := h'; exact hK E' a' w' hu hle sat'
 | .scope b, hl => by
   intro w0 M Q st st' ex a w E sat h hK
   exact wp_hops (hops_ok (fun l f hf => (execL_ok hc hd b l hl).1 f hf) fuel b _ (exec_ok hc hd b hl) w0 M Q st st' ex a w E sat h hK)
 | .skip, hl => exec_ok hc hd _ hl
 | .region _ _ _, hl => exec_ok hc hd _ hl
 | .cond _ _ _, hl => exec_ok hc hd _ hl
 | .block _ _, hl => exec_ok hc hd _ hl
 | .loop _, hl => exec_ok hc hd _ hl
 | .rangeFunc _ _ _ _, hl => exec_ok hc hd _ hl
 | .exit _, hl => exec_ok hc hd _ hl
 | .label _, hl => exec_ok hc hd _ hl
 | .goto _, hl => exec_ok hc hd _ hl
 | .ret, hl => exec_ok hc hd _ hl
 | .refuse _, hl => exec_ok hc hd _ hl
theorem argSlots_get : ∀ (l : List SV) (k d : Nat) (q : Path × SV), (argSlots l k).get d = some q → q.1 = [] ∧ k ≤ d ∧ l[d - k]? = some q.2
 | [], k, d, q, h => by simp [argSlots, Slots.get] at h
 | x :: r, k, d, q, h => by
   simp only [argSlots, Slots.get] at h
   cases hb : Nat.beq k d with
   | true =>
     rw [hb] at h
     have := Nat.eq_of_beq_eq_true hb
     subst this
     simp only [cond_true, Option.some.injEq] at h
     subst h
     exact ⟨rfl, Nat.le_refl _, by simp⟩
   | false =>
     rw [hb] at h
     have hne : k ≠ d := by intro he; subst he; simp at hb
     obtain ⟨h1, h2, h3⟩ := argSlots_get r (Nat.add k 1) d q h
     have h2' : k + 1 ≤ d := h2
     refine ⟨h1, by omega, ?_⟩
     have h3' : r[d - (k + 1)]? = some q.2 := h3
     rw [show d - k = (d - (k + 1)) + 1 from by omega]
     simpa using h3'
def resRun (tmps : Array Value) : ResultVar → Sem Value
 | .tmp t => pure (tmps.getD t undef)
 | .cell a t => do loadVar t (← asAddr (tmps.getD a undef))
theorem resOne_ok (hc : CtxFull P c) {w0 : World} {M : Nat → Nat → Prop} {E : Env} {st : St} {a : Act} {w : World} (sat : Sat c n w0 M E st a w) {r : ResultVar} {y : SV} (h : resOne c st r = some y) :
   (resRun a.tmps r).run P w = .ok (y.den c.S E) w := by
 have hnil : PathHolds a [] := fun _ _ hm => by cases hm
 cases r with
 | tmp t =>
   have := ev_ok sat.slots hnil (show ev st.slots [] (.tmp t) = some y from h)
   simp only [Act.eval] at this
   simp only [resRun, this, Sem.run_pure]
 | cell p ty =>
   simp only [resOne] at h
   split at h <;> (try cases h)
   rename_i k o hk
   split at h <;> (try cases h)
   rename_i d hd
   split at h <;> (try cases h)
   rename_i x hx
   have hv := ev_ok sat.slots hnil hk
   simp only [Act.eval, SV.den] at hv
   have hdp : 0 < d.size ∧ x.part o d.size d.sh.agg = some y ∧ y.one = true := by
     cases hb : Nat.blt 0 d.size with
     | false => rw [hb] at h; cases h
     | true =>
       rw [hb] at h
       simp only [cond_true] at h
       split at h
       · rename_i y' hy'
         cases ho : y'.one with
         | false => rw [ho] at h; cases h
         | true => rw [ho] at h; injection h with h; subst h; exact ⟨by simpa using hb, hy', ho⟩
       · cases h
   obtain ⟨h1, h2, h3, h4⟩ := SV.part_ok c.S E hdp.2.1
   have hxl := SV.len c.S E x
   have hat := (sat.hs.at_ k x hx (by omega)).sub o d.size (by simpa using h4)
   rw [← h2] at hat
   have := run_loadVar_at (P := P) (c := c) (hc.tys _ _ hd) h1 h3 hdp.2.2 hat
   simp only [resRun, hv]
   rw [Sem.run_bind]
   simp only [asAddr, Sem.run_pure, Result.andThen_ok]
   exact this
theorem resMany_ok (hc : CtxFull P c) {w0 : World} {M : Nat → Nat → Prop} {E : Env} {st : St} {a : Act} {w : World} (sat : Sat c n w0 M E st a w) : ∀ {l : List ResultVar} {ys : List SV}, resMany c st l = some ys →
   (l.mapM (resRun a.tmps)).run P w = .ok (SV.dens c.S E ys) w
 | [], ys, h => by
   simp only [resMany, Option.some.injEq] at h
   subst h
   simp [SV.dens]
 | r :: l, ys, h => by
   simp only [resMany] at h
   split at h <;> (try cases h)
   rename_i y hy
   split at h <;> (try cases h)
   rename_i zs hzs
   have h1 := resOne_ok hc sat hy
   have h2 := resMany_ok hc sat hzs
   simp only [List.mapM_cons, Sem.run_bind, h1, Result.andThen_ok, h2, Sem.run_pure, SV.dens]
theorem resOf_ok (hc : CtxFull P c) {w0 : World} {M : Nat → Nat → Prop} {E : Env} {st : St} {a : Act} {w : World} (sat : Sat c n w0 M E st a w) {fn : Func} {y : SV} (h : resOf c st fn.results.toList = some y) :
   (results fn a.tmps).run P w = .ok (y.den c.S E) w := by
 have hfun : results fn a.tmps = (do
     let vs ← fn.results.mapM (resRun a.tmps)
     pure (if h : vs.size = 1 then vs[0] else .tuple vs)) := by
   rfl
 rw [hfun, Array.mapM_eq_mapM_toList]
 unfold resOf at h
 split at h
 · rename_i x hx
   have h1 := resOne_ok hc sat h
   rw [hx]
   simp only [List.mapM_cons, List.mapM_nil, Sem.run_bind, Sem.run_map, h1, Result.andThen_ok, Sem.run_pure]
   first | rfl | done
 · rename_i l hl
   split at h <;> (try cases h)
   rename_i ys hys
   have h1 := resMany_ok hc sat hys
   have hlen : ∀ (l : List ResultVar) (ys : List SV), resMany c st l = some ys → ys.length = l.length := by
     intro l
     induction l with
     | nil => intro ys h; simp only [resMany, Option.some.injEq] at h; subst h; rfl
     | cons r l ih =>
       intro ys h
       simp only [resMany] at h
       split at h <;> (try cases h)
       split at h <;> (try cases h)
       rename_i zs hzs
       simp [ih _ hzs]
   have hne : ys.length ≠ 1 := by
     rw [hlen _ _ hys]
     intro he
     match hm : fn.results.toList, he with
     | [x], _ => exact hl x hm
   simp only [Sem.run_bind, Sem.run_map, h1, Result.andThen_ok, Sem.run_pure]
   rw [dif_neg (by simpa [SV.dens_map] using hne)]
   rfl
theorem inline_ok (hc : CtxFull P c) {fuel : Nat} (hd : ∀ n, DrawOk P c n) {f : FuncId} {fn : Func} (hf : P.funcs[f]? = some fn) (hloop : ∀ code, fn.body = some code → LoopsOk P c fn.ntmps code)
   {args : List SV} {H H' : Heap} {nx nx' : Nat} {v : SV} (h : (inline c fuel fn args H nx).sel = some (v, H', nx')) {E : Env} {w : World} (hs : HS c.S E H w) (hw : WinOk c.S c.win E)
   (hwb : ∀ n j k z, (n, j, k, z) ∈ c.win → k < nx) :
   Calls P f (SV.dens c.S E args).toArray w fun e w' =>
   ∃ E', Env.upto nx E E' ∧ nx ≤ nx' ∧ e = .returned (v.den c.S E') ∧ HS c.S E' H' w' ∧ Fr w w' (MH c.S E H) ∧
     ∀ k x, H'.get k = some x → c.S.ro k = false → (w.heap.size ≤ (E'.ad k).block ∨ ∀ j, j < x.size → MH c.S E H (E'.ad k).block ((E'.ad k).off + j)) := by
 unfold inline at h
 split at h
 · cases h
 · rename_i code hbody
   cases hb : Nat.ble args.length fn.ntmps with
   | false => rw [hb] at h; cases h
   | true =>
     rw [hb] at h
     simp only [cond_true, Out.sel_bind] at h
     cases h1 : (execG c fn.ntmps fuel code ⟨argSlots args 0, H, nx⟩).sel with
     | none => rw [h1] at h; cases h
     | some r =>
       obtain ⟨ex, st'⟩ := r
       rw [h1] at h
       simp only [Option.bind_some] at h
       have hle : args.length ≤ fn.ntmps := by simpa using hb
       have hr : (ex = .nrm ∨ ex = .ret) ∧ resOf c st' fn.results.toList = some v ∧ H' = st'.heap ∧ nx' = st'.next := by
         cases ex with
         | nrm =>
           dsimp only at h
           split at h
           · rename_i v' hv'
             simp only [Out.sel, Option.some.injEq, Prod.mk.injEq] at h
             obtain ⟨rfl, rfl, rfl⟩ := h
             exact ⟨.inl rfl, hv', rfl, rfl⟩
           · cases h
         | ret =>
           dsimp only at h
           split at h
           · rename_i v' hv'
             simp only [Out.sel, Option.some.injEq, Prod.mk.injEq] at h
             obtain ⟨rfl, rfl, rfl⟩ := h
             exact ⟨.inr rfl, hv', rfl, rfl⟩
           · cases h
         | exit i => cases h
         | goto l => cases h
       obtain ⟨hex, hres, rfl, rfl⟩ := hr
       have hdl : (SV.dens c.S E args).length = args.length := by simp [SV.dens_map]
       have sat : Sat c fn.ntmps w (MH c.S E H) E ⟨argSlots args 0, H, nx⟩ { tmps := (SV.dens c.S E args).toArray ++ Array.replicate (fn.ntmps - (SV.dens c.S E args).toArray.size) undef, defers := [] } w := by
         refine ⟨?_, hs, ?_, Fr.refl _ _, hw, hwb, by simp [hdl]; omega, rfl⟩
         · intro d p x hx
           obtain ⟨hp, _, hl⟩ := argSlots_get args 0 d (p, x) hx
           dsimp only at hp hl
           subst hp
           refine ⟨fun _ => ?_, fun hh => absurd (fun t b hm => by cases hm) hh⟩
           have hlt : d < args.length := by
             have := (List.getElem?_eq_some_iff.1 hl).1
             omega
           rw [Array.getElem?_append_left (by simp [hdl]; omega)]
           simp only [List.getElem?_toArray, SV.dens_map, List.getElem?_map]
           rw [show d - 0 = d from rfl] at hl
           rw [hl]; rfl
         · intro k x hk hr
           exact .inr fun j hj => ⟨k, x, hk, hr, rfl, by omega, by omega⟩
       have hgo : ∀ (E' : Env) (a' : Act) (w' : World), Env.upto nx E E' → nx ≤ st'.next → Sat c fn.ntmps w (MH c.S E H) E' st' a' w' → bodyPost P fn (fun e w' =>
           ∃ E', Env.upto nx E E' ∧ nx ≤ st'.next ∧ e = .returned (v.den c.S E') ∧ HS c.S E' st'.heap w' ∧ Fr w w' (MH c.S E H) ∧
           ∀ k x, st'.heap.get k = some x → c.S.ro k = false → (w.heap.size ≤ (E'.ad k).block ∨ ∀ j, j < x.size → MH c.S E H (E'.ad k).block ((E'.ad k).off + j))) ex.out a' w' := by
         intro E' a' w' hu hle' sat'
         have hrun := resOf_ok hc sat' hres
         have : a'.defers = [] ∧ ∃ u, (results fn a'.tmps).run P w' = .ok u w' ∧ (∃ E', Env.upto nx E E' ∧ nx ≤ st'.next ∧ Ending.returned u = .returned (v.den c.S E') ∧ HS c.S E' st'.heap w' ∧ Fr w w' (MH c.S E H) ∧
           ∀ k x, st'.heap.get k = some x → c.S.ro k = false → (w.heap.size ≤ (E'.ad k).block ∨ ∀ j, j < x.size → MH c.S E H (E'.ad k).block ((E'.ad k).off + j))) :=
           ⟨sat'.defers, _, hrun, E', hu, hle', rfl, sat'.hs, sat'.fr, sat'.own⟩
         rcases hex with rfl | rfl
         · exact this
         · exact this
       exact calls_of_wp hf hbody (execG_ok hc (hd _) code (hloop code hbody) w (MH c.S E H) _ ⟨argSlots args 0, H, nx⟩ st' ex _ w E sat h1 hgo)
end
end Go.Proofs.YtjemfkoamfnofaaGreat
