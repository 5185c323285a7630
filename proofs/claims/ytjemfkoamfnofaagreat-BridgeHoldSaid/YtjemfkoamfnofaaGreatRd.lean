import Derived.Test.YtjemfkoamfnofaaGreatFor
set_option linter.unusedVariables false
set_option maxRecDepth 100000
namespace Go.Proofs.YtjemfkoamfnofaaGreat
open Go Go.RowKit
def ReadsOk (S : Stat) (win : List (Nat × Nat × Nat × Nat)) (ps : List (Nat × ReadFn)) : Prop := ∀ f g, (f, g) ∈ ps → ReadOk S win f g
theorem ReadsOk.nil (S : Stat) (win) : ReadsOk S win [] := fun _ _ h => by cases h
theorem ReadsOk.cons {S : Stat} {win} {f : Nat} {g : ReadFn} {ps} (h : ReadOk S win f g) (hs : ReadsOk S win ps) : ReadsOk S win ((f, g) :: ps) := by
 intro f' g' hm
 rcases List.mem_cons.1 hm with he | he
 · injection he with h1 h2; subst h1 h2; exact h
 · exact hs f' g' he
noncomputable def rdCtx (ps : Stat → List (Nat × ReadFn)) (S : Stat) : Ctx := mkCtx S [] (ps S) [] 20 8
theorem rdCtx_ok {ps : Stat → List (Nat × ReadFn)} (h : ∀ S, ReadsOk S [] (ps S)) (S : Stat) : CtxFull Tryz.prog (rdCtx ps S) ∧ (rdCtx ps S).S = S ∧ (rdCtx ps S).win = [] ∧ ∀ q st, (rdCtx ps S).loop q st = none :=
 ⟨mk_full S [] (ps S) [] 20 (h S) (fun _ _ h => by cases h) 8, mkCtx_S .., mkCtx_win .., mkCtx_loop _ _ _ _ _ _⟩
noncomputable def auto (ps : Stat → List (Nat × ReadFn)) (S : Stat) (f : Nat) : Nat × ReadFn := (f, autoRead (rdCtx ps) S [] 2 20 f)
theorem ReadsOk.auto {S : Stat} {ps : Stat → List (Nat × ReadFn)} (h : ∀ S, ReadsOk S [] (ps S)) {f : Nat} {qs} (hs : ReadsOk S [] qs) : ReadsOk S [] (auto ps S f :: qs) :=
 ReadsOk.cons (autoRead_ok fun S' _ _ => rdCtx_ok h S') hs
theorem ReadsOk.pure {S : Stat} {f : Nat} {g : PureFn} {qs} (h : PureOk S f g) (hs : ReadsOk S [] qs) : ReadsOk S [] ((f, pureR g) :: qs) := ReadsOk.cons (h.read []) hs
def ps0 (_ : Stat) : List (Nat × ReadFn) := []
theorem ps0_ok (S : Stat) : ReadsOk S [] (ps0 S) := ReadsOk.nil S []
theorem specs_nil {S : Stat} : ∀ f g, (f, g) ∈ ([] : List (Nat × SpecFn)) → SpecOk S [] f g := fun f g h => by cases h
theorem specs_cons {S : Stat} {f : Nat} {g : SpecFn} {l : List (Nat × SpecFn)} (h : SpecOk S [] f g) (hs : ∀ f g, (f, g) ∈ l → SpecOk S [] f g) : ∀ f' g', (f', g') ∈ (f, g) :: l → SpecOk S [] f' g' := by
 intro f' g' hm
 rcases List.mem_cons.1 hm with he | he
 · injection he with h1 h2; subst h1 h2; exact h
 · exact hs f' g' he
theorem fam_of {ps : Stat → List (Nat × ReadFn)} {ss : Stat → List (Nat × SpecFn)} {fuel k : Nat} (hp : ∀ S, ReadsOk S [] (ps S)) (hs : ∀ S f g, (f, g) ∈ ss S → SpecOk S [] f g) : Fam (fun S => mkCtx S [] (ps S) (ss S) fuel k) :=
 mk_fam ps ss fuel k (fun S f g h => hp S f g h) hs
def Out.way {α : Type} : List Bool → Out α → Option (List Bool × α)
 | [], .ret r => some ([], r)
 | true :: p, .ite c t _ => (match Out.way p t with | some q => some (c :: q.1, q.2) | none => none)
 | false :: p, .ite c _ e => (match Out.way p e with | some q => some (c :: q.1, q.2) | none => none)
 | _, _ => none
theorem Out.way_sel {α : Type} : ∀ {p : List Bool} {o : Out α} {r : α} {cs : List Bool}, Out.way p o = some (cs, r) → cs = p → o.sel = some r
 | [], .ret r', r, cs, h, hp => by
   simp only [Out.way, Option.some.injEq, Prod.mk.injEq] at h
   rw [← h.2]; rfl
 | true :: p, .ite c t e, r, cs, h, hp => by
   simp only [Out.way] at h
   split at h
   · rename_i q hq
     simp only [Option.some.injEq, Prod.mk.injEq] at h
     obtain ⟨rfl, rfl⟩ := h
     simp only [List.cons.injEq] at hp
     rw [hp.1]
     exact Out.way_sel (p := p) (o := t) (cs := q.1) hq hp.2
   · cases h
 | false :: p, .ite c t e, r, cs, h, hp => by
   simp only [Out.way] at h
   split at h
   · rename_i q hq
     simp only [Option.some.injEq, Prod.mk.injEq] at h
     obtain ⟨rfl, rfl⟩ := h
     simp only [List.cons.injEq] at hp
     rw [hp.1]
     exact Out.way_sel (p := p) (o := e) (cs := q.1) hq hp.2
   · cases h
 | [], .ite _ _ _, _, _, h, _ => by simp [Out.way] at h
 | [], .bad, _, _, h, _ => by simp [Out.way] at h
 | true :: _, .ret _, _, _, h, _ => by simp [Out.way] at h
 | true :: _, .bad, _, _, h, _ => by simp [Out.way] at h
 | false :: _, .ret _, _, _, h, _ => by simp [Out.way] at h
 | false :: _, .bad, _, _, h, _ => by simp [Out.way] at h
theorem law_run {mk : Stat → Ctx} (hm : Fam mk) {f : FuncId} {fn : Func} (hf : Tryz.prog.funcs[f]? = some fn) (hname : ((fnOf f).name == "runtime.NumGoroutine") = false) (l : List (Nat × LoopFn)) (hids : (loopsOf (codeOf f)).map firstId = l.map (·.1)) (hd : distinct (l.map (·.1)) = true)
   (S : Stat) (m0 : Nat) (hl : ∀ i k g, l[i]? = some (k, g) → LoopOk Tryz.prog (withLoops (mk (S.rd 0 m0)) l) (fnOf f).ntmps (lpOf f i) g)
   {fuel : Nat} {args0 : List SV} {H0 : Heap} {v : SV} (hro : (H0.all fun e => Nat.blt e.1 m0) = true) (hq : (valF m0 (inline (withLoops (mk (S.rd 0 m0)) l) fuel (fnOf f) args0 H0 m0)).sel = some v)
   (E : Env) (w : World) (hs : HS (S.rd 0 m0) E H0 w) : Calls Tryz.prog f (SV.dens (S.rd 0 m0) E args0).toArray w fun e w' => e = .returned (v.den (S.rd 0 m0) E) ∧ Fr w w' (fun _ _ => False) := by
 obtain ⟨⟨v1, H1, m1⟩, hrun, hb, he⟩ := valF_sel hq
 subst he
 have hS : (withLoops (mk (S.rd 0 m0)) l).S = S.rd 0 m0 := hm.S _
 obtain ⟨hfn, hw⟩ := good_ok (fnOf_eq hf) hname (good_loops hm (S.rd 0 m0) l hids hd hl) hrun
 have := hw E w (by rw [hS]; exact hs)
 rw [hS] at this
 refine this.mono ?_
 rintro e w' ⟨E', hu, hle, rfl, hs', hfr, hown⟩
 refine ⟨by rw [SV.den_upto _ hu _ hb], hfr.mono fun b j _ hm => ?_⟩
 obtain ⟨k, x, hk, hr, _⟩ := hm
 have : (S.rd 0 m0).ro k = true := heap_all hro hk
 rw [this] at hr
 cases hr
section
open Go Go.RowKit
end
def sureC (c : Ctx) (l : List (Nat × Bool)) : Ctx := { c with sure := l }
theorem sureC_full {P : Program} {c : Ctx} (h : CtxFull P c) (l : List (Nat × Bool)) : CtxFull P (sureC c l) :=
 { small := h.small, mixed := h.mixed, tys := h.tys, eqb := h.eqb, flds := h.flds, read := h.read, spec := h.spec, make := h.make, tail := fun n ops l st r st' hr hs w0 M Q tl a w E sat hK => h.tail n ops l st r st' hr hs w0 M Q tl a w E ⟨sat.slots, sat.hs, sat.own, sat.fr, sat.win, sat.winb, sat.size, sat.defers⟩ fun E' a' w' hu hle s => hK E' a' w' hu hle ⟨s.slots, s.hs, s.own, s.fr, s.win, s.winb, s.size, s.defers⟩ }
theorem sure_fam {mk : Stat → Ctx} (h : Fam mk) (l : List (Nat × Bool)) : Fam fun S => sureC (mk S) l :=
 { S := h.S, win := h.win, loop := h.loop, full := fun S => sureC_full (h.full S) l }
def lookM : List (Nat × (Stat → SpecFn)) → Nat → Option (Stat → SpecFn)
 | [], _ => none
 | (k, g) :: r, f => bif Nat.beq k f then some g else lookM r f
theorem lookM_mem : ∀ {ms : List (Nat × (Stat → SpecFn))} {f : Nat} {g : Stat → SpecFn}, lookM ms f = some g → (f, g) ∈ ms
 | [], _, _, h => by simp [lookM] at h
 | (k, g) :: r, f, g', h => by
   unfold lookM at h
   cases hb : Nat.beq k f with
   | true => rw [hb] at h; have := Nat.eq_of_beq_eq_true hb; subst this; simp only [cond_true, Option.some.injEq] at h; subst h; exact List.mem_cons_self
   | false => rw [hb] at h; exact List.mem_cons_of_mem _ (lookM_mem h)
noncomputable def withMake (c : Ctx) (ms : List (Nat × (Stat → SpecFn))) : Ctx := { c with make := fun f args H nx => match lookM ms f with | some g => g (c.S.still nx) args H nx | none => .bad }
theorem withMake_full {c : Ctx} (h : CtxFull Tryz.prog c) (hwin : c.win = []) {ms : List (Nat × (Stat → SpecFn))} (hms : ∀ f g, (f, g) ∈ ms → ∀ S, SpecOk S [] f (g S)) : CtxFull Tryz.prog (withMake c ms) :=
 { small := h.small, mixed := h.mixed, tys := h.tys, eqb := h.eqb, flds := h.flds, read := h.read, spec := h.spec, tail := fun n ops l st r st' hr hs w0 M Q tl a w E sat hK => h.tail n ops l st r st' hr hs w0 M Q tl a w E ⟨sat.slots, sat.hs, sat.own, sat.fr, sat.win, sat.winb, sat.size, sat.defers⟩ fun E' a' w' hu hle s => hK E' a' w' hu hle ⟨s.slots, s.hs, s.own, s.fr, s.win, s.winb, s.size, s.defers⟩, make := by
     intro f args H nx v H' nx' hh
     have hh : (match lookM ms f with | some g => g (c.S.still nx) args H nx | none => .bad).sel = some (v, H', nx') := hh
     split at hh
     · rename_i g hg
       obtain ⟨hfn, hc⟩ := hms f g (lookM_mem hg) (c.S.still nx) args H nx v H' nx' hh
       refine ⟨hfn, fun E w hs hw _ hb => ?_⟩
       have := hc E w hs (fun n j k z hm => by cases hm) (fun n j k z hm => by cases hm) hb
       rw [SV.dens_stat (S := c.S.still nx) (S' := c.S) rfl rfl] at this
       refine this.mono ?_
       rintro e w' ⟨E', hu, hle, rfl, hs', hfr, hown⟩
       exact ⟨E', hu, hle, by rw [SV.den_stat (S := c.S.still nx) (S' := c.S) rfl rfl]; rfl, hs', hfr, hown⟩
     · cases hh }
theorem make_fam {mk : Stat → Ctx} (h : Fam mk) {ms : List (Nat × (Stat → SpecFn))} (hms : ∀ f g, (f, g) ∈ ms → ∀ S, SpecOk S [] f (g S)) : Fam fun S => withMake (mk S) ms :=
 { S := h.S, win := h.win, loop := h.loop, full := fun S => withMake_full (h.full S) (h.win S) hms }
theorem makes_nil : ∀ f g, (f, g) ∈ ([] : List (Nat × (Stat → SpecFn))) → ∀ S, SpecOk S [] f (g S) := fun f g h => by cases h
theorem makes_cons {f : Nat} {g : Stat → SpecFn} {l : List (Nat × (Stat → SpecFn))} (h : ∀ S, SpecOk S [] f (g S)) (hs : ∀ f g, (f, g) ∈ l → ∀ S, SpecOk S [] f (g S)) : ∀ f' g', (f', g') ∈ (f, g) :: l → ∀ S, SpecOk S [] f' (g' S) := by
 intro f' g' hm
 rcases List.mem_cons.1 hm with he | he
 · injection he with h1 h2; subst h1 h2; exact h
 · exact hs f' g' he
end Go.Proofs.YtjemfkoamfnofaaGreat
