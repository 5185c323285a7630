import Derived.Test.YtjemfkoamfnofaaGreatBj
set_option linter.unusedVariables false
set_option maxRecDepth 100000
namespace Go.Proofs.YtjemfkoamfnofaaGreat
open Go Go.RowKit
section
variable {P : Program} {c : Ctx}
theorem rounds_gen {τ : Type} {n fx nx fuel : Nat} {b : Code} (cx : τ → Ctx) (vw : τ → St) (inv : τ → Prop) (mu : τ → Nat) (res : τ → Ex × St)
   (hfull : ∀ x, CtxFull P (cx x)) (hwin : ∀ x, (cx x).win = []) (hl : ∀ x, LoopsOk P (cx x) n b) (hcw : c.win = []) (hnx : ∀ x, fx ≤ (vw x).next)
   (hstep : ∀ x, inv x → ∃ ts ks ex st1, (trimC ts ks (exec (cx x) n fuel b (vw x))).sel = some (ex, st1) ∧
     ((ex = .nrm ∧ ∃ y, inv y ∧ mu y < mu x ∧ res y = res x ∧ ∀ E1, ∃ E2 ρ, Env.upto fx E1 E2 ∧ ReN (cx x).S E1 st1 (cx y).S E2 ρ (vw y)) ∨
      (ex ≠ .nrm ∧ (res x).1 = ex ∧ ∀ E0 E1, Env.upto fx E0 E1 → ∃ E2 ρ, Env.upto nx E0 E2 ∧ ReN (cx x).S E1 st1 c.S E2 ρ (res x).2))) :
   ∀ (k : Nat) (x : τ), mu x < k → inv x → ∀ {w0 : World} {M : Nat → Nat → Prop} {Q : Exit → Act → World → Prop} {a : Act} {w : World} {E0 E : Env}, Env.upto fx E0 E → Sat (cx x) n w0 M E (vw x) a w →
     (∀ E' a' w', Env.upto nx E0 E' → Sat c n w0 M E' (res x).2 a' w' → Q (res x).1.out a' w') → Code.rounds P b Q k a w
 | 0, _, hlt, _, _, _, _, _, _, _, _, _, _, _ => absurd hlt (Nat.not_lt_zero _)
 | k + 1, x, hlt, hI, w0, M, Q, a, w, E0, E, hu0, sat, hK => by
   rw [rounds_succ]
   obtain ⟨ts, ks, ex, s1, h1, hor⟩ := hstep x hI
   obtain ⟨s0, h0, rfl⟩ := trimC_sel h1
   refine exec_ok (hfull x) (draw_ok (hfull x)) b (hl x) _ _ _ _ _ _ a w E sat h0 ?_
   intro E' a' w' hu hle' sat'
   have hux : Env.upto fx E E' := fun k hk => hu k (Nat.lt_of_lt_of_le hk (hnx x))
   rcases hor with ⟨rfl, y, hy, hmu, hres, hre⟩ | ⟨hne, hex, hre⟩
   · obtain ⟨E2, ρ, hu2, r⟩ := hre E'
     have satn : Sat (cx y) n w0 M E2 (vw y) a' w' := sat'.reN ⟨r.slots.of_trim, r.heap.of_trim, r.inj⟩ (hwin _)
     refine rounds_gen cx vw inv mu res hfull hwin hl hcw hnx hstep k y (by omega) hy ((hu0.trans hux (Nat.le_refl _)).trans hu2 (Nat.le_refl _)) satn ?_
     rw [hres]
     exact hK
   · obtain ⟨E2, ρ, hu2, r⟩ := hre E0 E' (hu0.trans hux (Nat.le_refl _))
     have satn : Sat c n w0 M E2 (res x).2 a' w' := sat'.reN ⟨r.slots.of_trim, r.heap.of_trim, r.inj⟩ hcw
     have := hK E2 a' w' hu2 satn
     rw [hex] at this
     cases ex with
     | nrm => exact absurd rfl hne
     | exit i => exact this
     | ret => exact this
     | goto l => exact this
end
theorem reN_trim {S S' : Stat} {E E' : Env} {ρ : Nat → Nat} {nx : Nat} {st : St} : ∀ {l : Heap}, ReHeapN (keepH nx st.heap) S E S' E' ρ l → ReHeapN st.heap S E S' E' ρ l
 | [], _ => trivial
 | e :: t, hr => ⟨⟨hr.1.1, hr.1.2.imp (fun h => h) fun ⟨x, h1, h2⟩ => ⟨x, keepH_get h1, h2⟩⟩, reN_trim hr.2⟩
theorem loop_gen {mk : Stat → Ctx} (hm : Fam mk) {ls : List (Nat × LoopFn)} {n fx nx fuel : Nat} {b : Code} {ts0 : List Nat} {τ : Type} (Sc : Stat) (cx : τ → Ctx) (vw : τ → St) (inv : τ → Prop) (mu : τ → Nat) (res : τ → Ex × St) {f : St → Option (Out (Ex × St))}
   (hcx : ∀ x, CtxFull Tryz.prog (cx x) ∧ (cx x).win = [] ∧ LoopsOk Tryz.prog (cx x) n b) (hnx : ∀ x, fx ≤ (vw x).next)
   (hg : ∀ st o r, f st = some o → o.sel = some r → ∃ x, inv x ∧ r = res x ∧ nx ≤ r.2.next ∧ ∀ E, ∃ E2 ρ, Env.upto fx E E2 ∧ ReN Sc E st (cx x).S E2 ρ (vw x))
   (hstep : ∀ x, inv x → ∃ ts ks ex st1, (trimC ts ks (exec (cx x) n fuel b (vw x))).sel = some (ex, st1) ∧
     ((ex = .nrm ∧ ∃ y, inv y ∧ mu y < mu x ∧ res y = res x ∧ ∀ E1, ∃ E2 ρ, Env.upto fx E1 E2 ∧ ReN (cx x).S E1 st1 (cx y).S E2 ρ (vw y)) ∨
      (ex ≠ .nrm ∧ (res x).1 = ex ∧ ∀ E0 E1, Env.upto fx E0 E1 → ∃ E2 ρ, Env.upto nx E0 E2 ∧ ReN (cx x).S E1 st1 Sc E2 ρ (res x).2))) :
   LoopOk Tryz.prog (withLoops (mk Sc) ls) n b (onTrimB nx ts0 f) := by
 intro st o ho w0 M Q st' ex' a w E sat hsel hK
 obtain ⟨h1, hbnd, h2⟩ := onTrimB_some ho
 obtain ⟨x, hI, hr, hle, hre⟩ := hg _ o _ h2 hsel
 have hS : (withLoops (mk Sc) ls).S = Sc := hm.S Sc
 have hw : (withLoops (mk Sc) ls).win = [] := hm.win Sc
 obtain ⟨E2, ρ, hu2, r⟩ := hre E
 have sat2 : Sat (cx x) n w0 M E2 (vw x) a w := sat.reN (c' := cx x) (st' := vw x) (ρ := ρ) (by rw [hS]; exact ⟨r.slots.of_trim, reN_trim r.heap, r.inj⟩) (hcx x).2.1
 refine wp_loop_rounds (mu x + 1) ?_
 refine rounds_gen (P := Tryz.prog) (c := withLoops (mk Sc) ls) (fx := fx) (nx := nx) (fuel := fuel) cx vw inv mu res (fun i => (hcx i).1) (fun i => (hcx i).2.1) (fun i => (hcx i).2.2) hw hnx
   (fun y hy => by rw [hS]; exact hstep y hy) (mu x + 1) x (Nat.lt_succ_self _) hI hu2 sat2 ?_
 intro E' a' w' hu sat'
 have h3 : (res x).1 = ex' := by rw [← hr]
 have h4 : (res x).2 = st' := by rw [← hr]
 rw [h3]
 rw [h4] at sat'
 exact hK E' a' w' (by rw [h1]; exact hu) (by rw [h1]; exact hle) sat'
end Go.Proofs.YtjemfkoamfnofaaGreat
