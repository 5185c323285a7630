/- Loops of a length that is told by a name: a state is described anew each time round. -/
import Derived.Test.YtfncoeoaniclmaaAuto
set_option linter.unusedVariables false
namespace Go.Proofs.Ytfncoeoaniclmaa
open Go Go.RowKit

/-- what a description says, another one says, too -/
def ReSlots (s : Slots) (S S' : Stat) (E : Env) : Slots → Prop
  | [] => True
  | (t, p, x') :: r => (∃ x, s.get t = some (p, x) ∧ x.den S E = x'.den S' E) ∧ ReSlots s S S' E r
def ReHeap (h : Heap) (S S' : Stat) (E : Env) : Heap → Prop
  | [] => True
  | (k, x') :: r => (∃ x, h.get k = some x ∧ x.cells S E = x'.cells S' E ∧ x'.foOk S') ∧ ReHeap h S S' E r
structure Redesc (c : Ctx) (st : St) (c' : Ctx) (st' : St) (E : Env) : Prop where
  slots : ReSlots st.slots c.S c'.S E st'.slots
  heap : ReHeap st.heap c.S c'.S E st'.heap
  ro : c'.S.ro = c.S.ro
  win : c'.win = []

theorem ReSlots.get {s : Slots} {S S' : Stat} {E : Env} : ∀ {l : Slots}, ReSlots s S S' E l → ∀ t p x', l.get t = some (p, x') → ∃ x, s.get t = some (p, x) ∧ x.den S E = x'.den S' E
  | [], _, t, p, x', h => by simp [Slots.get] at h
  | (k, q, y) :: r, hr, t, p, x', h => by
    simp only [Slots.get] at h
    cases hb : Nat.beq k t with
    | true =>
      rw [hb] at h
      have := Nat.eq_of_beq_eq_true hb; subst this
      simp only [cond_true, Option.some.injEq, Prod.mk.injEq] at h
      obtain ⟨rfl, rfl⟩ := h
      exact hr.1
    | false => rw [hb] at h; exact ReSlots.get hr.2 t p x' h
theorem ReHeap.get {s : Heap} {S S' : Stat} {E : Env} : ∀ {l : Heap}, ReHeap s S S' E l → ∀ k x', l.get k = some x' → ∃ x, s.get k = some x ∧ x.cells S E = x'.cells S' E ∧ x'.foOk S'
  | [], _, k, x', h => by simp [Heap.get] at h
  | (j, y) :: r, hr, k, x', h => by
    simp only [Heap.get] at h
    cases hb : Nat.beq j k with
    | true =>
      rw [hb] at h
      have := Nat.eq_of_beq_eq_true hb; subst this
      simp only [cond_true, Option.some.injEq] at h
      subst h
      exact hr.1
    | false => rw [hb] at h; exact ReHeap.get hr.2 k x' h
theorem size_of_cells {S S' : Stat} {E : Env} {x y : SV} (h : x.cells S E = y.cells S' E) : x.size = y.size := by
  rw [← SV.len S E x, ← SV.len S' E y, h]

section
variable {P : Program} {c c' : Ctx} {n : Nat} {w0 : World} {M : Nat → Nat → Prop} {E : Env} {st st' : St} {a : Act} {w : World}
theorem Sat.re (h : Sat c n w0 M E st a w) (r : Redesc c st c' st' E) : Sat c' n w0 M E st' a w := by
  refine ⟨?_, ⟨?_, ?_, ?_, fun k x' hk => (r.heap.get k x' hk).choose_spec.2.2⟩, ?_, h.fr, by rw [r.win]; intro n j k z hm; (cases hm), by rw [r.win]; intro n j k z hm; (cases hm), h.size, h.defers⟩
  · intro t p x' hx
    obtain ⟨x, hx1, hd⟩ := r.slots.get t p x' hx
    rw [← hd]; exact h.slots t p x hx1
  · intro k x' hk hp
    obtain ⟨x, hx, hc, _⟩ := r.heap.get k x' hk
    rw [← hc]; exact h.hs.at_ k x hx (by rw [size_of_cells hc]; exact hp)
  · intro k x' hk hp hnt hro
    obtain ⟨x, hx, hc, _⟩ := r.heap.get k x' hk
    exact h.hs.wr k x hx (by rw [size_of_cells hc]; exact hp) (by rw [hc]; exact hnt) (by rw [← r.ro]; exact hro)
  · intro k k' x1 x2 hne h1 h2 p1 p2 hro
    obtain ⟨y1, hy1, hc1, _⟩ := r.heap.get k x1 h1
    obtain ⟨y2, hy2, hc2, _⟩ := r.heap.get k' x2 h2
    have e1 := size_of_cells hc1
    have e2 := size_of_cells hc2
    rw [← e1, ← e2]
    exact h.hs.dis k k' y1 y2 hne hy1 hy2 (by omega) (by omega) (by rw [← r.ro]; exact hro)
  · intro k x' hk hro
    obtain ⟨x, hx, hc, _⟩ := r.heap.get k x' hk
    rw [← size_of_cells hc]
    exact h.own k x hx (by rw [← r.ro]; exact hro)
end

/-- of a state what is looked at alone: some slots; the chunks ahead of nx -/
def keepT (s : Slots) : List Nat → Slots
  | [] => []
  | t :: r => match s.get t with | some q => (t, q) :: keepT s r | none => keepT s r
def keepH (nx : Nat) : Heap → Heap
  | [] => []
  | (k, x) :: r => bif Nat.blt k nx then (k, x) :: keepH nx r else keepH nx r
def trimSt (ts : List Nat) (nx : Nat) (st : St) : St := ⟨keepT st.slots ts, keepH nx st.heap, nx⟩
def trimO (ts : List Nat) (nx : Nat) (o : Out (Ex × St)) : Out (Ex × St) := o.bind fun r => .ret (r.1, trimSt ts nx r.2)
theorem keepT_get {s : Slots} : ∀ {ts : List Nat} {t : Nat} {q : Path × SV}, (keepT s ts).get t = some q → s.get t = some q
  | [], t, q, h => by simp [keepT, Slots.get] at h
  | u :: r, t, q, h => by
    unfold keepT at h
    split at h
    · rename_i q' hq
      simp only [Slots.get] at h
      cases hb : Nat.beq u t with
      | true =>
        rw [hb] at h
        have := Nat.eq_of_beq_eq_true hb; subst this
        simp only [cond_true, Option.some.injEq] at h
        subst h; exact hq
      | false => rw [hb] at h; exact keepT_get h
    · exact keepT_get h
theorem keepH_get {nx : Nat} : ∀ {h : Heap} {k : Nat} {x : SV}, (keepH nx h).get k = some x → h.get k = some x
  | [], k, x, h => by simp [keepH, Heap.get] at h
  | (j, y) :: r, k, x, h => by
    unfold keepH at h
    simp only [Heap.get]
    cases hb : Nat.blt j nx with
    | true =>
      rw [hb] at h
      simp only [cond_true, Heap.get] at h
      cases hj : Nat.beq j k with
      | true => rw [hj] at h; simpa using h
      | false => rw [hj] at h; simpa using keepH_get h
    | false =>
      rw [hb] at h
      simp only [cond_false] at h
      have h1 := keepH_get h
      cases hj : Nat.beq j k with
      | true =>
        exfalso
        have := Nat.eq_of_beq_eq_true hj; subst this
        -- a chunk that is kept lies ahead of nx
        have key : ∀ {h : Heap} {k : Nat} {x : SV}, (keepH nx h).get k = some x → Nat.blt k nx = true := by
          intro h
          induction h with
          | nil => intro k x h; simp [keepH, Heap.get] at h
          | cons p r ih =>
            obtain ⟨i, z⟩ := p
            intro k x h
            unfold keepH at h
            cases hi : Nat.blt i nx with
            | true =>
              rw [hi] at h
              simp only [cond_true, Heap.get] at h
              cases hk : Nat.beq i k with
              | true => have := Nat.eq_of_beq_eq_true hk; subst this; exact hi
              | false => rw [hk] at h; exact ih h
            | false => rw [hi] at h; exact ih h
        rw [key h] at hb; cases hb
      | false => simpa using h1

section
variable {P : Program} {c : Ctx} {n : Nat} {w0 : World} {M : Nat → Nat → Prop} {E : Env} {st : St} {a : Act} {w : World}
theorem Sat.trim (h : Sat c n w0 M E st a w) (hwin : c.win = []) (ts : List Nat) (nx : Nat) : Sat c n w0 M E (trimSt ts nx st) a w := by
  refine ⟨fun t p x hx => h.slots t p x (keepT_get hx), ⟨fun k x hk hp => h.hs.at_ k x (keepH_get hk) hp, fun k x hk hp hnt hro => h.hs.wr k x (keepH_get hk) hp hnt hro, fun k k' x x' hne hk hk' hp hp' hro => h.hs.dis k k' x x' hne (keepH_get hk) (keepH_get hk') hp hp' hro, fun k x hk => h.hs.fo k x (keepH_get hk)⟩,
    fun k x hk hro => h.own k x (keepH_get hk) hro, h.fr, h.win, ?_, h.size, h.defers⟩
  rw [hwin]
  intro n j k z hm
  cases hm
theorem trimO_sel {ts : List Nat} {nx : Nat} {o : Out (Ex × St)} {ex : Ex} {st1 : St} (h : (trimO ts nx o).sel = some (ex, st1)) : ∃ st0, o.sel = some (ex, st0) ∧ st1 = trimSt ts nx st0 := by
  unfold trimO at h
  rw [Out.sel_bind] at h
  cases h0 : o.sel with
  | none => rw [h0] at h; cases h
  | some r =>
    rw [h0] at h
    simp only [Option.bind_some, Out.sel, Option.some.injEq, Prod.mk.injEq] at h
    obtain ⟨rfl, rfl⟩ := h
    exact ⟨r.2, rfl, rfl⟩

/-- a loop, by what it knows each time round -/
theorem fold_rounds {σ : Type} {nx fuel : Nat} {b : Code} {ts : List Nat} (cx : σ → Ctx) (vw : σ → St) (mu : σ → Nat) (I : σ → Prop) (res : σ → Ex × St)
    (hfull : ∀ s, I s → CtxFull P (cx s)) (hwin : ∀ s, (cx s).win = []) (hl : ∀ s, I s → LoopsOk P (cx s) n b) (hnx : ∀ s, (vw s).next = nx)
    (hstep : ∀ s, I s → ∃ ex1 st1, (trimO ts nx (exec (cx s) n fuel b (vw s))).sel = some (ex1, st1) ∧
      ((ex1 = .nrm ∧ ∃ s', I s' ∧ mu s' < mu s ∧ res s' = res s ∧ ∀ E, Redesc (cx s) st1 (cx s') (vw s') E) ∨
       (ex1 ≠ .nrm ∧ (res s).1 = ex1 ∧ ∀ E, Redesc (cx s) st1 c (res s).2 E))) :
    ∀ (k : Nat) (s : σ), I s → mu s < k → ∀ {w0 : World} {M : Nat → Nat → Prop} {Q : Exit → Act → World → Prop} {a : Act} {w : World} {E : Env}, Sat (cx s) n w0 M E (vw s) a w →
      (∀ E' a' w', Env.upto nx E E' → Sat c n w0 M E' (res s).2 a' w' → Q (res s).1.out a' w') → Code.rounds P b Q k a w
  | 0, s, _, hlt, _, _, _, _, _, _, _, _ => absurd hlt (Nat.not_lt_zero _)
  | k + 1, s, hI, hlt, w0, M, Q, a, w, E, sat, hK => by
    rw [rounds_succ]
    obtain ⟨ex1, st1, hsel, hcase⟩ := hstep s hI
    obtain ⟨st0, h0, rfl⟩ := trimO_sel hsel
    refine exec_ok (hfull s hI) (draw_ok (hfull s hI)) b (hl s hI) w0 M _ (vw s) st0 ex1 a w E sat h0 ?_
    intro E' a' w' hu hle sat'
    rw [hnx] at hu
    have satt := sat'.trim (hwin s) ts nx
    rcases hcase with ⟨rfl, s', hI', hmu, hres, hre⟩ | ⟨hne, hex, hre⟩
    · refine fold_rounds cx vw mu I res hfull hwin hl hnx hstep k s' hI' (by omega) (satt.re (hre E')) ?_
      intro E'' a'' w'' hu2 sat2
      rw [hres] at sat2 ⊢
      exact hK E'' a'' w'' (hu.trans hu2 (Nat.le_refl _)) sat2
    · have := hK E' a' w' hu (satt.re (hre E'))
      rw [hex] at this
      cases ex1 with
      | nrm => exact absurd rfl hne
      | exit i => exact this
      | ret => exact this
      | goto l => exact this

/-- a loop's summary is right -/
theorem loop_fold {σ : Type} {nx fuel : Nat} {b : Code} {ts : List Nat} (cx : σ → Ctx) (vw : σ → St) (mu : σ → Nat) (I : σ → Prop) (res : σ → Ex × St) {g : St → Option (Out (Ex × St))}
    (hg : ∀ st o, g st = some o → ∃ s, I s ∧ o = .ret (res s) ∧ st.next = nx ∧ nx ≤ (res s).2.next ∧ ∀ E, Redesc c st (cx s) (vw s) E)
    (hfull : ∀ s, I s → CtxFull P (cx s)) (hwin : ∀ s, (cx s).win = []) (hl : ∀ s, I s → LoopsOk P (cx s) n b) (hnx : ∀ s, (vw s).next = nx)
    (hstep : ∀ s, I s → ∃ ex1 st1, (trimO ts nx (exec (cx s) n fuel b (vw s))).sel = some (ex1, st1) ∧
      ((ex1 = .nrm ∧ ∃ s', I s' ∧ mu s' < mu s ∧ res s' = res s ∧ ∀ E, Redesc (cx s) st1 (cx s') (vw s') E) ∨
       (ex1 ≠ .nrm ∧ (res s).1 = ex1 ∧ ∀ E, Redesc (cx s) st1 c (res s).2 E))) : LoopOk P c n b g := by
  intro st o ho w0 M Q st' ex a w E sat hsel hK
  obtain ⟨s, hI, rfl, hn, hle, hre⟩ := hg st o ho
  simp only [Out.sel, Option.some.injEq] at hsel
  have e1 : (res s).1 = ex := by rw [hsel]
  have e2 : (res s).2 = st' := by rw [hsel]
  subst e1 e2
  refine wp_loop_rounds (mu s + 1) ?_
  refine fold_rounds cx vw mu I res hfull hwin hl hnx hstep (mu s + 1) s hI (Nat.lt_succ_self _) (sat.re (hre E)) ?_
  intro E' a' w' hu sat'
  exact hK E' a' w' (by rw [hn]; exact hu) (by rw [hn]; exact hle) sat'
end
end Go.Proofs.Ytfncoeoaniclmaa
