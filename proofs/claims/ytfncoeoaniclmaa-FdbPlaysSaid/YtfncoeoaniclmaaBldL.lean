/- Loops that append to a list of their own. -/
import Derived.Test.YtfncoeoaniclmaaBld
set_option linter.unusedVariables false
set_option maxRecDepth 100000
namespace Go.Proofs.Ytfncoeoaniclmaa
open Go Go.RowKit

/-- what a list is gone by with -/
def goL {α τ : Type} (stp : Nat → α → τ → τ) : List α → Nat → τ → τ
  | [], _, x => x
  | a :: r, i, x => goL stp r (i + 1) (stp i a x)
def trimB (ts : List Nat) (nx : Nat) (o : Out (Ex × BSt)) : Out (Ex × BSt) := o.bind fun r => .ret (r.1, ⟨trimSt ts nx r.2.st, r.2.b, r.2.R⟩)
theorem trimB_sel {ts : List Nat} {nx : Nat} {o : Out (Ex × BSt)} {ex : Ex} {s1 : BSt} (h : (trimB ts nx o).sel = some (ex, s1)) : ∃ s0, o.sel = some (ex, s0) ∧ s1 = ⟨trimSt ts nx s0.st, s0.b, s0.R⟩ := by
  unfold trimB at h
  rw [Out.sel_bind] at h
  cases h0 : o.sel with
  | none => rw [h0] at h; cases h
  | some r =>
    rw [h0] at h
    simp only [Option.bind_some, Out.sel, Option.some.injEq, Prod.mk.injEq] at h
    obtain ⟨rfl, rfl⟩ := h
    exact ⟨r.2, rfl, rfl⟩
theorem ReSlots2.of_trim {s : Slots} {ts : List Nat} {S S' : Stat} {E E' : Env} : ∀ {l : Slots}, ReSlots2 (keepT s ts) S E S' E' l → ReSlots2 s S E S' E' l
  | [], _ => trivial
  | (t, p, x') :: r, h => ⟨by obtain ⟨x, h1, h2⟩ := h.1; exact ⟨x, keepT_get h1, h2⟩, ReSlots2.of_trim h.2⟩
theorem ReHeap2.of_trim {s : Heap} {nx : Nat} {S S' : Stat} {E E' : Env} : ∀ {l : Heap}, ReHeap2 (keepH nx s) S E S' E' l → ReHeap2 s S E S' E' l
  | [], _ => trivial
  | (t, x') :: r, h => ⟨by obtain ⟨x, h1, h2⟩ := h.1; exact ⟨x, keepH_get h1, h2⟩, ReHeap2.of_trim h.2⟩
theorem ReD2.of_trim {S S' : Stat} {st st' : St} {ts : List Nat} {nx : Nat} {E E' : Env} (h : ReD2 S E (trimSt ts nx st) S' E' st') : ReD2 S E st S' E' st' := ⟨h.slots.of_trim, h.heap.of_trim⟩
/-- one place under another number -/
theorem Env.alias (E : Env) (nx b : Nat) : ∃ E2 : Env, Env.upto nx E E2 ∧ E2.ad nx = E.ad b ∧ E2.cp nx = E.cp b := by
  refine ⟨{ ad := fun k => if k = nx then E.ad b else E.ad k, cp := fun k => if k = nx then E.cp b else E.cp k }, fun k hk => ?_, by simp, by simp⟩
  have : k ≠ nx := by omega
  simp [this]

section
variable {P : Program}
theorem rounds_bld {α τ : Type} {nx n fuel : Nat} {b : Code} {e : TypeId} {c : Ctx} {ts : List Nat} (cx : Nat → Ctx) (L : List α) (vw : Nat → τ → BSt) (inv : Nat → τ → Prop) (stp : Nat → α → τ → τ) (ex : Ex) (fin : τ → BSt)
    (hfull : ∀ i, CtxFull P (cx i)) (hwin : ∀ i, (cx i).win = []) (hl : ∀ i, LoopsOk P (cx i) n b) (hro : ∀ i, (cx i).S.ro = c.S.ro) (hcw : c.win = [])
    (hvb : ∀ i x, (vw i x).b = nx ∧ (vw i x).st.next = nx + 1) (hfb : ∀ x, (fin x).b = nx ∧ (fin x).st.next = nx + 1)
    (hstep : ∀ i a x, L[i]? = some a → inv i x → ∃ s1, (trimB ts nx (execB (cx i) n fuel e b (vw i x))).sel = some (.nrm, s1) ∧ inv (i + 1) (stp i a x) ∧ (vw (i + 1) (stp i a x)).R = s1.R ∧
      ∀ E1 E2, Env.upto nx E1 E2 → E2.ad nx = E1.ad s1.b → E2.cp nx = E1.cp s1.b → ReD2 (cx i).S E1 s1.st (cx (i + 1)).S E2 (vw (i + 1) (stp i a x)).st)
    (hend : ∀ x, inv L.length x → ∃ s1, (trimB ts nx (execB (cx L.length) n fuel e b (vw L.length x))).sel = some (ex, s1) ∧ ex ≠ .nrm ∧ (fin x).R = s1.R ∧
      ∀ E1 E2, Env.upto nx E1 E2 → E2.ad nx = E1.ad s1.b → E2.cp nx = E1.cp s1.b → ReD2 (cx L.length).S E1 s1.st c.S E2 (fin x).st) :
    ∀ (k i : Nat) (x : τ), i ≤ L.length → L.length - i < k → inv i x → ∀ {w0 : World} {M : Nat → Nat → Prop} {Q : Exit → Act → World → Prop} {a : Act} {w : World} {E : Env}, SatB (cx i) n w0 M e E (vw i x) a w →
      (∀ E' a' w', Env.upto nx E E' → SatB c n w0 M e E' (fin (goL stp (L.drop i) i x)) a' w' → Q ex.out a' w') → Code.rounds P b Q k a w
  | 0, _, _, _, hlt, _, _, _, _, _, _, _, _, _ => absurd hlt (Nat.not_lt_zero _)
  | k + 1, i, x, hle, hlt, hI, w0, M, Q, a, w, E, sat, hK => by
    rw [rounds_succ]
    obtain ⟨vb1, vb2⟩ := hvb i x
    by_cases hi : i < L.length
    · obtain ⟨s1, h1, hI', hR, hre⟩ := hstep i L[i] x (List.getElem?_eq_getElem hi) hI
      obtain ⟨s0, h0, rfl⟩ := trimB_sel h1
      refine execB_ok (hfull i) b (hl i) sat h0 ?_
      intro E' a' w' hu hle' sat'
      rw [vb2] at hu
      obtain ⟨E2, hu2, ha2, hc2⟩ := Env.alias E' nx s0.b
      obtain ⟨nb1, nb2⟩ := hvb (i + 1) (stp i L[i] x)
      have satn : SatB (cx (i + 1)) n w0 M e E2 (vw (i + 1) (stp i L[i] x)) a' w' := sat'.re2 (hre E' E2 hu2 ha2 hc2).of_trim ((hro (i + 1)).trans (hro i).symm) (hwin _) hR (by rw [nb1]; exact ⟨ha2, hc2⟩) (by rw [nb1, nb2]; exact Nat.lt_succ_self _)
      refine rounds_bld (ts := ts) cx L vw inv stp ex fin hfull hwin hl hro hcw hvb hfb hstep hend k (i + 1) _ hi (by omega) hI' satn ?_
      intro E3 a3 w3 hu3 sat3
      rw [List.drop_eq_getElem_cons hi] at hK
      exact hK E3 a3 w3 (((show Env.upto nx E E' from fun k hk => hu k (by omega)).trans hu2 (Nat.le_refl _)).trans hu3 (Nat.le_refl _)) sat3
    · have hi' : i = L.length := by omega
      subst hi'
      obtain ⟨s1, h1, hne, hR, hre⟩ := hend x hI
      obtain ⟨s0, h0, rfl⟩ := trimB_sel h1
      refine execB_ok (hfull _) b (hl _) sat h0 ?_
      intro E' a' w' hu hle' sat'
      rw [vb2] at hu
      obtain ⟨E2, hu2, ha2, hc2⟩ := Env.alias E' nx s0.b
      obtain ⟨nb1, nb2⟩ := hfb x
      have satn : SatB c n w0 M e E2 (fin x) a' w' := sat'.re2 (hre E' E2 hu2 ha2 hc2).of_trim (hro _).symm hcw hR (by rw [nb1]; exact ⟨ha2, hc2⟩) (by rw [nb1, nb2]; exact Nat.lt_succ_self _)
      rw [List.drop_length] at hK
      have := hK E2 a' w' ((show Env.upto nx E E' from fun k hk => hu k (by omega)).trans hu2 (Nat.le_refl _)) satn
      cases ex with
      | nrm => exact absurd rfl hne
      | exit i => exact this
      | ret => exact this
      | goto l => exact this
end

/-- what is built as a chunk -/
def BSt.adopt (s : BSt) : St := ⟨s.st.slots, (s.b, .rows s.R) :: s.st.heap, s.st.next⟩
def onTrimB (nx : Nat) (ts : List Nat) (f : St → Option (Out (Ex × St))) : LoopFn := fun st => bif Nat.beq st.next nx && st.bnd then f (trimSt ts nx st) else none
theorem onTrimB_some {nx : Nat} {ts : List Nat} {f : St → Option (Out (Ex × St))} {st : St} {o : Out (Ex × St)} (h : onTrimB nx ts f st = some o) : st.next = nx ∧ st.bnd = true ∧ f (trimSt ts nx st) = some o := by
  unfold onTrimB at h
  cases hn : Nat.beq st.next nx && st.bnd with
  | false => rw [hn] at h; cases h
  | true =>
    rw [hn] at h
    simp only [Bool.and_eq_true] at hn
    exact ⟨Nat.eq_of_beq_eq_true hn.1, hn.2, h⟩
/-- a loop that appends, one element of a list by the other -/
theorem loop_build {mk : Stat → Ctx} (hm : Fam mk) {ls : List (Nat × LoopFn)} {n nx fuel : Nat} {b : Code} {e : TypeId} {ts ts0 : List Nat} {π α τ : Type} (Sc : Stat) (Sx : π → Nat → Stat) (hro : ∀ p i, (Sx p i).ro = Sc.ro) (L : π → List α) (vw : π → Nat → τ → BSt) (inv : π → Nat → τ → Prop)
    (stp : π → Nat → α → τ → τ) (ex : Ex) (fin : π → τ → BSt) {f : St → Option (Out (Ex × St))} (hvb : ∀ p i x, (vw p i x).b = nx ∧ (vw p i x).st.next = nx + 1) (hfb : ∀ p x, (fin p x).b = nx ∧ (fin p x).st.next = nx + 1) (hfh : ∀ p x, ((fin p x).st.heap.all fun k => Nat.blt k.1 nx) = true)
    (hg : ∀ st o r, f st = some o → o.sel = some r → ∃ p x, inv p 0 x ∧ (vw p 0 x).R.len = 0 ∧ r = (ex, (fin p (goL (stp p) (L p) 0 x)).adopt) ∧ ∀ E, E.cp nx = (0, true) → ReD2 Sc E st (Sx p 0) E (vw p 0 x).st)
    (hstep : ∀ p i a x, (L p)[i]? = some a → inv p i x → ∃ s1, (trimB ts nx (execB (mk (Sx p i)) n fuel e b (vw p i x))).sel = some (.nrm, s1) ∧ inv p (i + 1) (stp p i a x) ∧ (vw p (i + 1) (stp p i a x)).R = s1.R ∧
      ∀ E1 E2, Env.upto nx E1 E2 → E2.ad nx = E1.ad s1.b → E2.cp nx = E1.cp s1.b → ReD2 (Sx p i) E1 s1.st (Sx p (i + 1)) E2 (vw p (i + 1) (stp p i a x)).st)
    (hend : ∀ p x, inv p (L p).length x → ∃ s1, (trimB ts nx (execB (mk (Sx p (L p).length)) n fuel e b (vw p (L p).length x))).sel = some (ex, s1) ∧ ex ≠ .nrm ∧ (fin p x).R = s1.R ∧
      ∀ E1 E2, Env.upto nx E1 E2 → E2.ad nx = E1.ad s1.b → E2.cp nx = E1.cp s1.b → ReD2 (Sx p (L p).length) E1 s1.st Sc E2 (fin p x).st) :
    LoopOk Try.prog (withLoops (mk Sc) ls) n b (onTrimB nx ts0 f) := by
  intro st o ho w0 M Q st' ex' a w E sat hsel hK
  obtain ⟨h1, hbnd, h2⟩ := onTrimB_some ho
  obtain ⟨p, x, hI, h0, hr, hre⟩ := hg _ o _ h2 hsel
  have hr' := hr
  simp only [Prod.mk.injEq] at hr
  obtain ⟨rfl, rfl⟩ := hr
  obtain ⟨E1, hu1, hc1, sat1⟩ := SatB.start (e := e) (R := (vw p 0 x).R) sat hbnd h0
  rw [h1] at hu1 hc1
  have hS : (withLoops (mk Sc) ls).S = Sc := hm.S Sc
  have hw : (withLoops (mk Sc) ls).win = [] := hm.win Sc
  obtain ⟨vb1, vb2⟩ := hvb p 0 x
  have hh : ReD2 Sc E1 st (Sx p 0) E1 (vw p 0 x).st := (hre E1 hc1).of_trim
  have sat2 : SatB (mk (Sx p 0)) n w0 M e E1 (vw p 0 x) a w := sat1.re2 (by rw [hS, hm.S]; exact ⟨hh.slots, hh.heap⟩) (by rw [hS, hm.S, hro]) (hm.win _) rfl (by rw [vb1, h1]; exact ⟨rfl, rfl⟩) (by rw [vb1, vb2]; exact Nat.lt_succ_self _)
  refine wp_loop_rounds ((L p).length + 1) ?_
  refine rounds_bld (P := Try.prog) (c := withLoops (mk Sc) ls) (ts := ts) (nx := nx) (fuel := fuel) (fun i => mk (Sx p i)) (L p) (vw p) (inv p) (stp p) ex' (fin p) (fun i => hm.full _) (fun i => hm.win _) (fun i => LoopsOk.none (hm.loop _) _) (fun i => by rw [hm.S, hS, hro]) hw (hvb p) (hfb p)
    (fun i a x ha hi => by rw [hm.S, hm.S]; exact hstep p i a x ha hi) (fun x hi => by rw [hm.S, hS]; exact hend p x hi) ((L p).length + 1) 0 x (Nat.zero_le _) (by omega) hI sat2 ?_
  intro E' a' w' hu sat'
  rw [List.drop_zero] at sat'
  obtain ⟨fb1, fb2⟩ := hfb p (goL (stp p) (L p) 0 x)
  have hlt := hfh p (goL (stp p) (L p) 0 x)
  have := sat'.adopt fun k y hk => by
    have := heap_all hlt hk
    have hk : k < nx := by simpa using this
    omega
  exact hK E' a' w' (by rw [h1]; exact hu1.trans hu (Nat.le_refl _)) (by rw [h1]; show nx ≤ (fin p _).st.next; rw [fb2]; exact Nat.le_succ _) this

open Go Go.RowKit

/-- of a state what is looked at alone: some slots, some chunks, in this order -/
def keepC (H : Heap) : List Nat → Heap
  | [] => []
  | k :: r => match H.get k with | some x => (k, x) :: keepC H r | none => keepC H r
theorem keepC_get {H : Heap} : ∀ {ks : List Nat} {k : Nat} {x : SV}, (keepC H ks).get k = some x → H.get k = some x
  | [], k, x, h => by simp [keepC, Heap.get] at h
  | u :: r, k, x, h => by
    unfold keepC at h
    split at h
    · rename_i y hy
      rw [Heap.get_cons] at h
      split at h
      · rename_i he; subst he; injection h with h; subst h; exact hy
      · exact keepC_get h
    · exact keepC_get h
def trimC (ts ks : List Nat) (o : Out (Ex × St)) : Out (Ex × St) := o.bind fun r => .ret (r.1, ⟨keepT r.2.slots ts, keepC r.2.heap ks, 0⟩)
theorem trimC_sel {ts ks : List Nat} {o : Out (Ex × St)} {ex : Ex} {st1 : St} (h : (trimC ts ks o).sel = some (ex, st1)) : ∃ st0, o.sel = some (ex, st0) ∧ st1 = ⟨keepT st0.slots ts, keepC st0.heap ks, 0⟩ := by
  unfold trimC at h
  rw [Out.sel_bind] at h
  cases h0 : o.sel with
  | none => rw [h0] at h; cases h
  | some r =>
    rw [h0] at h
    simp only [Option.bind_some, Out.sel, Option.some.injEq, Prod.mk.injEq] at h
    obtain ⟨rfl, rfl⟩ := h
    exact ⟨r.2, rfl, rfl⟩
def ReHeapN (h : Heap) (S : Stat) (E : Env) (S' : Stat) (E' : Env) (ρ : Nat → Nat) : Heap → Prop
  | [] => True
  | (k, x') :: r => (x'.foOk S' ∧ (x'.size = 0 ∨ ∃ x, h.get (ρ k) = some x ∧ x.cells S E = x'.cells S' E' ∧ E'.ad k = E.ad (ρ k) ∧ S'.ro k = S.ro (ρ k))) ∧ ReHeapN h S E S' E' ρ r
theorem ReHeapN.get {h : Heap} {S S' : Stat} {E E' : Env} {ρ : Nat → Nat} : ∀ {l : Heap}, ReHeapN h S E S' E' ρ l → ∀ k x', l.get k = some x' → x'.foOk S' ∧ (x'.size = 0 ∨ ∃ x, h.get (ρ k) = some x ∧ x.cells S E = x'.cells S' E' ∧ E'.ad k = E.ad (ρ k) ∧ S'.ro k = S.ro (ρ k))
  | [], _, k, x', h => by simp [Heap.get] at h
  | (j, y) :: r, hr, k, x', h => by
    rw [Heap.get_cons] at h
    split at h
    · rename_i he; subst he; injection h with h; subst h; exact hr.1
    · exact ReHeapN.get hr.2 k x' h
theorem ReHeapN.of_trim {h : Heap} {ks : List Nat} {S S' : Stat} {E E' : Env} {ρ : Nat → Nat} : ∀ {l : Heap}, ReHeapN (keepC h ks) S E S' E' ρ l → ReHeapN h S E S' E' ρ l
  | [], _ => trivial
  | (k, x') :: r, hr => ⟨⟨hr.1.1, hr.1.2.imp id fun ⟨x, h1, h2⟩ => ⟨x, keepC_get h1, h2⟩⟩, ReHeapN.of_trim hr.2⟩
def injOn (ρ : Nat → Nat) (H : Heap) : Bool := H.all fun e => H.all fun f => !(Nat.beq (ρ e.1) (ρ f.1)) || Nat.beq e.1 f.1
theorem injOn_ok {ρ : Nat → Nat} {H : Heap} (h : injOn ρ H = true) {k k' : Nat} {x x' : SV} (hk : H.get k = some x) (hk' : H.get k' = some x') (he : ρ k = ρ k') : k = k' := by
  have h1 := heap_all h hk
  dsimp only at h1
  have h2 := heap_all h1 hk'
  dsimp only at h2
  rw [he] at h2
  have : Nat.beq (ρ k') (ρ k') = true := Nat.beq_refl _
  rw [this] at h2
  simpa using h2
/-- told anew, chunks under other numbers -/
structure ReN (S : Stat) (E : Env) (st : St) (S' : Stat) (E' : Env) (ρ : Nat → Nat) (st' : St) : Prop where
  slots : ReSlots2 st.slots S E S' E' st'.slots
  heap : ReHeapN st.heap S E S' E' ρ st'.heap
  inj : injOn ρ st'.heap = true

section
variable {P : Program} {c : Ctx} {n : Nat} {w0 w : World} {M : Nat → Nat → Prop} {E : Env} {a : Act}
theorem Sat.reN {c' : Ctx} {E' : Env} {st st' : St} {ρ : Nat → Nat} (h : Sat c n w0 M E st a w) (r : ReN c.S E st c'.S E' ρ st') (hwin : c'.win = []) : Sat c' n w0 M E' st' a w := by
  have src : ∀ k x', st'.heap.get k = some x' → 0 < x'.size → ∃ x, st.heap.get (ρ k) = some x ∧ x.cells c.S E = x'.cells c'.S E' ∧ E'.ad k = E.ad (ρ k) ∧ c'.S.ro k = c.S.ro (ρ k) := by
    intro k x' hk hp
    rcases (r.heap.get k x' hk).2 with h0 | h1
    · omega
    · exact h1
  refine ⟨?_, ⟨?_, ?_, ?_, fun k x' hk => (r.heap.get k x' hk).1⟩, ?_, h.fr, by rw [hwin]; intro n j k z hm; (cases hm), by rw [hwin]; intro n j k z hm; (cases hm), h.size, h.defers⟩
  · intro t p x' hx
    obtain ⟨x, hx1, hd⟩ := r.slots.get t p x' hx
    rw [← hd]; exact h.slots t p x hx1
  · intro k x' hk hp
    obtain ⟨x, hx, hc, he, _⟩ := src k x' hk hp
    rw [← hc, he]; exact h.hs.at_ (ρ k) x hx (by rw [size_of_cells2 hc]; exact hp)
  · intro k x' hk hp hnt hr
    obtain ⟨x, hx, hc, he, hro⟩ := src k x' hk hp
    rw [he]
    exact h.hs.wr (ρ k) x hx (by rw [size_of_cells2 hc]; exact hp) (by rw [hc]; exact hnt) (by rw [← hro]; exact hr)
  · intro k k' x1 x2 hne h1 h2 p1 p2 hr
    obtain ⟨y1, hy1, hc1, he1, hro1⟩ := src k x1 h1 p1
    obtain ⟨y2, hy2, hc2, he2, _⟩ := src k' x2 h2 p2
    have e1 := size_of_cells2 hc1
    have e2 := size_of_cells2 hc2
    rw [← e1, ← e2, he1, he2]
    exact h.hs.dis (ρ k) (ρ k') y1 y2 (fun he => hne (injOn_ok r.inj h1 h2 he)) hy1 hy2 (by omega) (by omega) (by rw [← hro1]; exact hr)
  · intro k x' hk hr
    rcases Nat.eq_zero_or_pos x'.size with h0 | hp
    · exact .inr fun j hj => by omega
    · obtain ⟨x, hx, hc, he, hro⟩ := src k x' hk hp
      rw [← size_of_cells2 hc, he]
      exact h.own (ρ k) x hx (by rw [← hro]; exact hr)
/-- one number stands for another chunk -/
def swp (nx b : Nat) : Nat → Nat := fun k => bif Nat.beq k nx then b else k
theorem rounds_ren {α τ : Type} {nx fuel : Nat} {b : Code} (cx : Nat → Ctx) (L : List α) (vw : Nat → τ → St) (inv : Nat → τ → Prop) (stp : Nat → α → τ → τ) (ex : Ex) (fin : τ → St)
    (hfull : ∀ i, CtxFull P (cx i)) (hwin : ∀ i, (cx i).win = []) (hl : ∀ i, LoopsOk P (cx i) n b) (hcw : c.win = []) (hnx : ∀ i x, (vw i x).next = nx + 1)
    (hstep : ∀ i a x, L[i]? = some a → inv i x → ∃ ts ks st1 b1, (trimC ts ks (exec (cx i) n fuel b (vw i x))).sel = some (.nrm, st1) ∧ inv (i + 1) (stp i a x) ∧
      ∀ E1 E2, Env.upto nx E1 E2 → E2.ad nx = E1.ad b1 → E2.cp nx = E1.cp b1 → ReN (cx i).S E1 st1 (cx (i + 1)).S E2 (swp nx b1) (vw (i + 1) (stp i a x)))
    (hend : ∀ x, inv L.length x → ∃ ts ks st1 b1, (trimC ts ks (exec (cx L.length) n fuel b (vw L.length x))).sel = some (ex, st1) ∧ ex ≠ .nrm ∧
      ∀ E1 E2, Env.upto nx E1 E2 → E2.ad nx = E1.ad b1 → E2.cp nx = E1.cp b1 → ReN (cx L.length).S E1 st1 c.S E2 (swp nx b1) (fin x)) :
    ∀ (k i : Nat) (x : τ), i ≤ L.length → L.length - i < k → inv i x → ∀ {w0 : World} {M : Nat → Nat → Prop} {Q : Exit → Act → World → Prop} {a : Act} {w : World} {E : Env}, Sat (cx i) n w0 M E (vw i x) a w →
      (∀ E' a' w', Env.upto nx E E' → Sat c n w0 M E' (fin (goL stp (L.drop i) i x)) a' w' → Q ex.out a' w') → Code.rounds P b Q k a w
  | 0, _, _, _, hlt, _, _, _, _, _, _, _, _, _ => absurd hlt (Nat.not_lt_zero _)
  | k + 1, i, x, hle, hlt, hI, w0, M, Q, a, w, E, sat, hK => by
    rw [rounds_succ]
    have vb2 := hnx i x
    by_cases hi : i < L.length
    · obtain ⟨ts, ks, s1, b1, h1, hI', hre⟩ := hstep i L[i] x (List.getElem?_eq_getElem hi) hI
      obtain ⟨s0, h0, rfl⟩ := trimC_sel h1
      refine exec_ok (hfull i) (draw_ok (hfull i)) b (hl i) _ _ _ _ _ _ a w E sat h0 ?_
      intro E' a' w' hu hle' sat'
      rw [vb2] at hu
      obtain ⟨E2, hu2, ha2, hc2⟩ := Env.alias E' nx b1
      have r := hre E' E2 hu2 ha2 hc2
      have satn : Sat (cx (i + 1)) n w0 M E2 (vw (i + 1) (stp i L[i] x)) a' w' := sat'.reN ⟨r.slots.of_trim, r.heap.of_trim, r.inj⟩ (hwin _)
      refine rounds_ren cx L vw inv stp ex fin hfull hwin hl hcw hnx hstep hend k (i + 1) _ hi (by omega) hI' satn ?_
      intro E3 a3 w3 hu3 sat3
      rw [List.drop_eq_getElem_cons hi] at hK
      exact hK E3 a3 w3 (((show Env.upto nx E E' from fun k hk => hu k (by omega)).trans hu2 (Nat.le_refl _)).trans hu3 (Nat.le_refl _)) sat3
    · have hi' : i = L.length := by omega
      subst hi'
      obtain ⟨ts, ks, s1, b1, h1, hne, hre⟩ := hend x hI
      obtain ⟨s0, h0, rfl⟩ := trimC_sel h1
      refine exec_ok (hfull _) (draw_ok (hfull _)) b (hl _) _ _ _ _ _ _ a w E sat h0 ?_
      intro E' a' w' hu hle' sat'
      rw [vb2] at hu
      obtain ⟨E2, hu2, ha2, hc2⟩ := Env.alias E' nx b1
      have r := hre E' E2 hu2 ha2 hc2
      have satn : Sat c n w0 M E2 (fin x) a' w' := sat'.reN ⟨r.slots.of_trim, r.heap.of_trim, r.inj⟩ hcw
      rw [List.drop_length] at hK
      have := hK E2 a' w' ((show Env.upto nx E E' from fun k hk => hu k (by omega)).trans hu2 (Nat.le_refl _)) satn
      cases ex with
      | nrm => exact absurd rfl hne
      | exit i => exact this
      | ret => exact this
      | goto l => exact this
end
/-- a loop of that kind; what the name stands for is nil at the start -/
theorem loop_ren {mk : Stat → Ctx} (hm : Fam mk) {ls : List (Nat × LoopFn)} {n nx fuel : Nat} {b : Code} {ts0 : List Nat} {π α τ : Type} (Sc : Stat) (cx : π → Nat → Ctx) (hcx : ∀ p i, CtxFull Try.prog (cx p i) ∧ (cx p i).win = [] ∧ LoopsOk Try.prog (cx p i) n b) (L : π → List α) (vw : π → Nat → τ → St) (inv : π → Nat → τ → Prop)
    (stp : π → Nat → α → τ → τ) (ex : Ex) (fin : π → τ → St) {f : St → Option (Out (Ex × St))} (hnx : ∀ p i x, (vw p i x).next = nx + 1) (hfx : ∀ p x, nx ≤ (fin p x).next)
    (hg : ∀ st o r, f st = some o → o.sel = some r → ∃ p x, inv p 0 x ∧ r = (ex, fin p (goL (stp p) (L p) 0 x)) ∧ ∀ E, E.cp nx = (0, true) → ReN Sc E st (cx p 0).S E id (vw p 0 x))
    (hstep : ∀ p i a x, (L p)[i]? = some a → inv p i x → ∃ ts ks st1 b1, (trimC ts ks (exec (cx p i) n fuel b (vw p i x))).sel = some (.nrm, st1) ∧ inv p (i + 1) (stp p i a x) ∧
      ∀ E1 E2, Env.upto nx E1 E2 → E2.ad nx = E1.ad b1 → E2.cp nx = E1.cp b1 → ReN (cx p i).S E1 st1 (cx p (i + 1)).S E2 (swp nx b1) (vw p (i + 1) (stp p i a x)))
    (hend : ∀ p x, inv p (L p).length x → ∃ ts ks st1 b1, (trimC ts ks (exec (cx p (L p).length) n fuel b (vw p (L p).length x))).sel = some (ex, st1) ∧ ex ≠ .nrm ∧
      ∀ E1 E2, Env.upto nx E1 E2 → E2.ad nx = E1.ad b1 → E2.cp nx = E1.cp b1 → ReN (cx p (L p).length).S E1 st1 Sc E2 (swp nx b1) (fin p x)) :
    LoopOk Try.prog (withLoops (mk Sc) ls) n b (onTrimB nx ts0 f) := by
  intro st o ho w0 M Q st' ex' a w E sat hsel hK
  obtain ⟨h1, hbnd, h2⟩ := onTrimB_some ho
  obtain ⟨p, x, hI, hr, hre⟩ := hg _ o _ h2 hsel
  simp only [Prod.mk.injEq] at hr
  obtain ⟨rfl, rfl⟩ := hr
  have hu1 : Env.upto st.next E { ad := E.ad, cp := fun k => if k = st.next then (0, true) else E.cp k } := by
    intro k hk
    have : k ≠ st.next := by omega
    simp [this]
  have hS : (withLoops (mk Sc) ls).S = Sc := hm.S Sc
  have hw : (withLoops (mk Sc) ls).win = [] := hm.win Sc
  have sat1 := sat.env hbnd hu1
  have r := hre { ad := E.ad, cp := fun k => if k = st.next then (0, true) else E.cp k } (by simp [h1])
  have rk : ReHeapN st.heap Sc { ad := E.ad, cp := fun k => if k = st.next then (0, true) else E.cp k } (cx p 0).S { ad := E.ad, cp := fun k => if k = st.next then (0, true) else E.cp k } id (vw p 0 x).heap := by
    have key : ∀ (l : Heap), ReHeapN (keepH nx st.heap) Sc { ad := E.ad, cp := fun k => if k = st.next then (0, true) else E.cp k } (cx p 0).S { ad := E.ad, cp := fun k => if k = st.next then (0, true) else E.cp k } id l → ReHeapN st.heap Sc { ad := E.ad, cp := fun k => if k = st.next then (0, true) else E.cp k } (cx p 0).S { ad := E.ad, cp := fun k => if k = st.next then (0, true) else E.cp k } id l := by
      intro l
      induction l with
      | nil => intro _; trivial
      | cons e t ih => intro hr; exact ⟨⟨hr.1.1, hr.1.2.imp (fun h => h) fun ⟨x, h1, h2⟩ => ⟨x, keepH_get h1, h2⟩⟩, ih hr.2⟩
    exact key _ r.heap
  have sat2 : Sat (cx p 0) n w0 M _ (vw p 0 x) a w := sat1.reN (c' := cx p 0) (st' := vw p 0 x) (ρ := id) (by rw [hS]; exact ⟨r.slots.of_trim, rk, r.inj⟩) (hcx p 0).2.1
  refine wp_loop_rounds ((L p).length + 1) ?_
  refine rounds_ren (P := Try.prog) (c := withLoops (mk Sc) ls) (nx := nx) (fuel := fuel) (cx p) (L p) (vw p) (inv p) (stp p) ex' (fin p) (fun i => (hcx p i).1) (fun i => (hcx p i).2.1) (fun i => (hcx p i).2.2) hw (hnx p)
    (fun i a x ha hi => hstep p i a x ha hi) (fun x hi => by rw [hS]; exact hend p x hi) ((L p).length + 1) 0 x (Nat.zero_le _) (by omega) hI sat2 ?_
  intro E' a' w' hu sat'
  rw [List.drop_zero] at sat'
  have hu1' : Env.upto nx E { ad := E.ad, cp := fun k => if k = st.next then (0, true) else E.cp k } := by
    intro k hk
    exact hu1 k (by omega)
  exact hK E' a' w' (by rw [h1]; exact hu1'.trans hu (Nat.le_refl _)) (by rw [h1]; exact hfx p _) sat'
end Go.Proofs.Ytfncoeoaniclmaa
