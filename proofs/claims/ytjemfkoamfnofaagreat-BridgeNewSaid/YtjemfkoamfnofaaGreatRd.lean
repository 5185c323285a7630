/- Lists of readers, laid one upon the other; contracts off a walk from just the chunks that a contract names. -/
import Derived.Test.YtjemfkoamfnofaaGreatFor
set_option linter.unusedVariables false
set_option maxRecDepth 100000
namespace Go.Proofs.YtjemfkoamfnofaaGreat
open Go Go.RowKit

/-- lists of readers, laid one upon the other -/
def ReadsOk (S : Stat) (win : List (Nat × Nat × Nat × Nat)) (ps : List (Nat × ReadFn)) : Prop := ∀ f g, (f, g) ∈ ps → ReadOk S win f g
theorem ReadsOk.nil (S : Stat) (win) : ReadsOk S win [] := fun _ _ h => by cases h
theorem ReadsOk.cons {S : Stat} {win} {f : Nat} {g : ReadFn} {ps} (h : ReadOk S win f g) (hs : ReadsOk S win ps) : ReadsOk S win ((f, g) :: ps) := by
  intro f' g' hm
  rcases List.mem_cons.1 hm with he | he
  · injection he with h1 h2; subst h1 h2; exact h
  · exact hs f' g' he
/-- a context over readers -/
noncomputable def rdCtx (ps : Stat → List (Nat × ReadFn)) (S : Stat) : Ctx := mkCtx S [] (ps S) [] 20 8
theorem rdCtx_ok {ps : Stat → List (Nat × ReadFn)} (h : ∀ S, ReadsOk S [] (ps S)) (S : Stat) : CtxFull Tryz.prog (rdCtx ps S) ∧ (rdCtx ps S).S = S ∧ (rdCtx ps S).win = [] ∧ ∀ q st, (rdCtx ps S).loop q st = none :=
  ⟨mk_full S [] (ps S) [] 20 (h S) (fun _ _ h => by cases h) 8, mkCtx_S .., mkCtx_win .., mkCtx_loop _ _ _ _ _ _⟩
noncomputable def auto (ps : Stat → List (Nat × ReadFn)) (S : Stat) (f : Nat) : Nat × ReadFn := (f, autoRead (rdCtx ps) S [] 2 20 f)
theorem ReadsOk.auto {S : Stat} {ps : Stat → List (Nat × ReadFn)} (h : ∀ S, ReadsOk S [] (ps S)) {f : Nat} {qs} (hs : ReadsOk S [] qs) : ReadsOk S [] (auto ps S f :: qs) :=
  ReadsOk.cons (autoRead_ok fun S' _ _ => rdCtx_ok h S') hs
theorem ReadsOk.pure {S : Stat} {f : Nat} {g : PureFn} {qs} (h : PureOk S f g) (hs : ReadsOk S [] qs) : ReadsOk S [] ((f, pureR g) :: qs) := ReadsOk.cons (h.read []) hs
def ps0 (_ : Stat) : List (Nat × ReadFn) := []
theorem ps0_ok (S : Stat) : ReadsOk S [] (ps0 S) := ReadsOk.nil S []
theorem specs_nil {S : Stat} : ∀ f g, (f, g) ∈ ([] : List (Nat × SpecFn)) → SpecOk S [] f g := fun f g h => by cases h
theorem specs_cons {S : Stat} {f : Nat} {g : SpecFn} {l : List (Nat × SpecFn)} (h : SpecOk S [] f g) (hs : ∀ f g, (f, g) ∈ l → SpecOk S [] f g) : ∀ f' g', (f', g') ∈ (f, g) :: l → SpecOk S [] f' g' := by
  intro f' g' hm
  rcases List.mem_cons.1 hm with he | he
  · injection he with h1 h2; subst h1 h2; exact h
  · exact hs f' g' he
theorem fam_of {ps : Stat → List (Nat × ReadFn)} {ss : Stat → List (Nat × SpecFn)} {fuel k : Nat} (hp : ∀ S, ReadsOk S [] (ps S)) (hs : ∀ S f g, (f, g) ∈ ss S → SpecOk S [] f g) : Fam (fun S => mkCtx S [] (ps S) (ss S) fuel k) :=
  mk_fam ps ss fuel k (fun S f g h => hp S f g h) hs

-- nothing that is told by names
mutual
def SV.flat : SV → Bool
  | .ix _ => false
  | .sl _ => false
  | .elt _ i _ _ => (match i with | .tok _ => false | .val _ => true)
  | .foc _ _ _ _ => false
  | .fn _ a b => SV.flats a && SV.flats b
  | .agg l => SV.flats l
  | .tup l => SV.flats l
  | _ => true
def SV.flats : List SV → Bool
  | [] => true
  | x :: r => SV.flat x && SV.flats r
end
mutual
theorem SV.flat_cells (S S' : Stat) (E : Env) : ∀ x : SV, x.flat = true → x.cells S E = x.cells S' E
  | .fn _ a b, h => by
    have h' : SV.flats a = true ∧ SV.flats b = true := by simpa [SV.flat] using h
    simp [SV.cells, SV.flats_dens S S' E a h'.1, SV.flats_dens S S' E b h'.2]
  | .agg l, h => by simp [SV.cells, SV.flats_cells S S' E l (by simpa [SV.flat] using h)]
  | .tup l, h => by simp [SV.cells, SV.flats_dens S S' E l (by simpa [SV.flat] using h)]
  | .elt _ i _ _, h => by cases i with | tok j => cases h | val n => simp [SV.cells, Ix.int]
  | .ix _, h | .sl _, h | .foc _ _ _ _, h => by cases h
  | .tab _, _ | .mp _, _ | .v _, _ | .kb _, _ | .ki _ _, _ | .ptr _ _, _ | .slc _ _ _ _, _ | .slu _ _ _ _, _ | .rcd _, _ | .slr _ _ _ _, _ | .rows _, _ => by simp [SV.cells]
theorem SV.flats_cells (S S' : Stat) (E : Env) : ∀ l : List SV, SV.flats l = true → SV.cellss S E l = SV.cellss S' E l
  | [], _ => by simp [SV.cellss]
  | x :: r, h => by
    have h' : x.flat = true ∧ SV.flats r = true := by simpa [SV.flats] using h
    simp [SV.cellss, SV.flat_cells S S' E x h'.1, SV.flats_cells S S' E r h'.2]
theorem SV.flat_den (S S' : Stat) (E : Env) : ∀ x : SV, x.flat = true → x.den S E = x.den S' E
  | .fn _ a b, h => by
    have h' : SV.flats a = true ∧ SV.flats b = true := by simpa [SV.flat] using h
    simp [SV.den, SV.flats_dens S S' E a h'.1, SV.flats_dens S S' E b h'.2]
  | .agg l, h => by simp [SV.den, SV.flats_cells S S' E l (by simpa [SV.flat] using h)]
  | .tup l, h => by simp [SV.den, SV.flats_dens S S' E l (by simpa [SV.flat] using h)]
  | .elt _ i _ _, h => by cases i with | tok j => cases h | val n => simp [SV.den, Ix.int]
  | .ix _, h | .sl _, h | .foc _ _ _ _, h => by cases h
  | .tab _, _ | .mp _, _ | .v _, _ | .kb _, _ | .ki _ _, _ | .ptr _ _, _ | .slc _ _ _ _, _ | .slu _ _ _ _, _ | .rcd _, _ | .slr _ _ _ _, _ | .rows _, _ => by simp [SV.den]
theorem SV.flats_dens (S S' : Stat) (E : Env) : ∀ l : List SV, SV.flats l = true → SV.dens S E l = SV.dens S' E l
  | [], _ => by simp [SV.dens]
  | x :: r, h => by
    have h' : x.flat = true ∧ SV.flats r = true := by simpa [SV.flats] using h
    simp [SV.dens, SV.flat_den S S' E x h'.1, SV.flats_dens S S' E r h'.2]
end
theorem SV.flat_fo {S : Stat} {x : SV} (h : x.flat = true) : x.foOk S := by
  cases x <;> first | trivial | cases h
def flatH (H : Heap) : Bool := H.all fun e => e.2.flat
theorem HS.stat {S S' : Stat} {E : Env} {H : Heap} {w : World} (h : HS S E H w) (hf : flatH H = true) (hro : ∀ k x, H.get k = some x → S'.ro k = false → S.ro k = false) : HS S' E H w := by
  have hc : ∀ k x, H.get k = some x → x.cells S' E = x.cells S E := fun k x hk => SV.flat_cells S' S E x (heap_all hf hk)
  exact ⟨fun k x hk hp => by rw [hc k x hk]; exact h.at_ k x hk hp, fun k x hk hp hnt hr => h.wr k x hk hp (by rw [← hc k x hk]; exact hnt) (hro k x hk hr), fun k k' x x' hne hk hk' hp hp' hr => h.dis k k' x x' hne hk hk' hp hp' (hro k x hk hr), fun k x hk => SV.flat_fo (heap_all hf hk)⟩
/-- a contract that names all chunks that it needs -/
theorem canon_ex {mk : Stat → Ctx} (hm : Fam mk) {f : FuncId} {fn : Func} (hf : Tryz.prog.funcs[f]? = some fn) (hname : ((fnOf f).name == "runtime.NumGoroutine") = false) {g : CanonFn} (l : List (Nat × LoopFn)) (hids : (loopsOf (codeOf f)).map firstId = l.map (·.1)) (hd : distinct (l.map (·.1)) = true)
    (hl : ∀ (S : Stat) i k g, l[i]? = some (k, g) → LoopOk Tryz.prog (withLoops (mk (S.wt 0)) l) (fnOf f).ntmps (lpOf f i) g)
    (h : ∀ (S : Stat) args H m r, (g S.ro args H m).sel = some r → (∀ k x, H.get k = some x → S.ro k = false) ∧ SV.flats args = true ∧ flatH H = true ∧ r.1.flat = true ∧ flatH r.2.1 = true ∧ m ≤ r.2.2 ∧
      ∃ fuel r0, (trimF r.2.2 (inline (withLoops (mk (S.wt 0)) l) fuel (fnOf f) args H m)).sel = some r0 ∧ r0.2.1 = r.2.1 ∧ r0.1.flat = true ∧ ∀ S E, r0.1.den S E = r.1.den S E) : CanonOk f g := by
  intro S args H m v H' m' hr
  obtain ⟨hro, hfa, hfH, hfv, hfH', hmm, fuel, r0, hq, hr2, hr1f, hr1⟩ := h S args H m _ hr
  dsimp only at hfv hfH' hmm hq hr2 hr1
  obtain ⟨q, hq1, hq2, hq3⟩ := trimF_sel hq
  subst hq3
  dsimp only at hr2 hr1 hr1f
  have e2 := hr2.symm
  have hgood := good_ok (fnOf_eq hf) hname (good_loops hm (S.wt 0) l hids hd (fun i k g hg => hl S i k g hg)) (v := q.1) (H' := q.2.1) (m' := q.2.2) hq1
  have hS : (withLoops (mk (S.wt 0)) l).S = S.wt 0 := hm.S _
  rw [hS] at hgood
  refine ⟨hgood.1, fun E w hs => ?_⟩
  have hMH : ∀ b j, MH (S.wt 0) E H b j → MH S E H b j := by
    rintro b j ⟨k, z, hk, _, h'⟩
    exact ⟨k, z, hk, hro k z hk, h'⟩
  rw [SV.flats_dens S (S.wt 0) E args hfa]
  refine (hgood.2 E w (hs.stat hfH fun k x hk _ => hro k x hk)).mono ?_
  rintro e w' ⟨E', hu, hle, rfl, hs', hfr, hown⟩
  subst e2
  refine ⟨E', hu, hmm, by rw [hr1, SV.flat_den S (S.wt 0) E' _ hfv], ?_, hfr.mono fun b j _ h => hMH b j h, fun k x hk hr => ?_⟩
  · have : HS (S.wt 0) E' (keepH m' q.2.1) w' := ⟨fun k x hk hp => hs'.at_ k x (keepH_get hk) hp, fun k x hk hp hnt hr => hs'.wr k x (keepH_get hk) hp hnt hr, fun k k' x x' hne hk hk' hp hp' hr => hs'.dis k k' x x' hne (keepH_get hk) (keepH_get hk') hp hp' hr, fun k x hk => hs'.fo k x (keepH_get hk)⟩
    exact this.stat hfH' fun _ _ _ _ => rfl
  · rcases hown k x (keepH_get hk) rfl with h | h
    · exact .inl h
    · exact .inr fun j hj => hMH _ _ (h j hj)
/-- one way through a tree, with its tests -/
def Out.way {α : Type} : List Bool → Out α → Option (List Bool × α)
  | [], .ret r => some ([], r)
  | true :: p, .ite c t _ => (match Out.way p t with | some q => some (c :: q.1, q.2) | none => none)
  | false :: p, .ite c _ e => (match Out.way p e with | some q => some (c :: q.1, q.2) | none => none)
  | _, _ => none
theorem Out.way_sel {α : Type} : ∀ {p : List Bool} {o : Out α} {r : α} {cs : List Bool}, Out.way p o = some (cs, r) → cs = p → o.sel = some r
  | [], .ret r', r, cs, h, hp => by
    simp only [Out.way, Option.some.injEq, Prod.mk.injEq] at h
    rw [← h.2]; rfl
  | true :: p, .ite c t e, r, cs, h, hp => by
    simp only [Out.way] at h
    split at h
    · rename_i q hq
      simp only [Option.some.injEq, Prod.mk.injEq] at h
      obtain ⟨rfl, rfl⟩ := h
      simp only [List.cons.injEq] at hp
      rw [hp.1]
      exact Out.way_sel (p := p) (o := t) (cs := q.1) hq hp.2
    · cases h
  | false :: p, .ite c t e, r, cs, h, hp => by
    simp only [Out.way] at h
    split at h
    · rename_i q hq
      simp only [Option.some.injEq, Prod.mk.injEq] at h
      obtain ⟨rfl, rfl⟩ := h
      simp only [List.cons.injEq] at hp
      rw [hp.1]
      exact Out.way_sel (p := p) (o := e) (cs := q.1) hq hp.2
    · cases h
  | [], .ite _ _ _, _, _, h, _ => by simp [Out.way] at h
  | [], .bad, _, _, h, _ => by simp [Out.way] at h
  | true :: _, .ret _, _, _, h, _ => by simp [Out.way] at h
  | true :: _, .bad, _, _, h, _ => by simp [Out.way] at h
  | false :: _, .ret _, _, _, h, _ => by simp [Out.way] at h
  | false :: _, .bad, _, _, h, _ => by simp [Out.way] at h

/-- a law that only reads what came in, off its walk -/
theorem law_run {mk : Stat → Ctx} (hm : Fam mk) {f : FuncId} {fn : Func} (hf : Tryz.prog.funcs[f]? = some fn) (hname : ((fnOf f).name == "runtime.NumGoroutine") = false) (l : List (Nat × LoopFn)) (hids : (loopsOf (codeOf f)).map firstId = l.map (·.1)) (hd : distinct (l.map (·.1)) = true)
    (S : Stat) (m0 : Nat) (hl : ∀ i k g, l[i]? = some (k, g) → LoopOk Tryz.prog (withLoops (mk (S.rd 0 m0)) l) (fnOf f).ntmps (lpOf f i) g)
    {fuel : Nat} {args0 : List SV} {H0 : Heap} {v : SV} (hro : (H0.all fun e => Nat.blt e.1 m0) = true) (hq : (valF m0 (inline (withLoops (mk (S.rd 0 m0)) l) fuel (fnOf f) args0 H0 m0)).sel = some v)
    (E : Env) (w : World) (hs : HS (S.rd 0 m0) E H0 w) : Calls Tryz.prog f (SV.dens (S.rd 0 m0) E args0).toArray w fun e w' => e = .returned (v.den (S.rd 0 m0) E) ∧ Fr w w' (fun _ _ => False) := by
  obtain ⟨⟨v1, H1, m1⟩, hrun, hb, he⟩ := valF_sel hq
  subst he
  have hS : (withLoops (mk (S.rd 0 m0)) l).S = S.rd 0 m0 := hm.S _
  obtain ⟨hfn, hw⟩ := good_ok (fnOf_eq hf) hname (good_loops hm (S.rd 0 m0) l hids hd hl) hrun
  have := hw E w (by rw [hS]; exact hs)
  rw [hS] at this
  refine this.mono ?_
  rintro e w' ⟨E', hu, hle, rfl, hs', hfr, hown⟩
  refine ⟨by rw [SV.den_upto _ hu _ hb], hfr.mono fun b j _ hm => ?_⟩
  obtain ⟨k, x, hk, hr, _⟩ := hm
  have : (S.rd 0 m0).ro k = true := heap_all hro hk
  rw [this] at hr
  cases hr
section
open Go Go.RowKit
/-- a loop whose rounds have loops of their own, told by some slots -/
theorem loop_trimL {mk : Stat → Ctx} (hm : Fam mk) {ls ls' : List (Nat × LoopFn)} {n nx fuel : Nat} {b : Code} {ts ts0 : List Nat} {π α τ : Type} (Sc : Stat) (Sx : π → Nat → Stat) (hro : ∀ p i, (Sx p i).ro = Sc.ro) (hin : ∀ p i, LoopsOk Tryz.prog (withLoops (mk (Sx p i)) ls') n b) (L : π → List α) (vw : π → Nat → τ → St) (inv : π → Nat → τ → Prop)
    (stp : π → Nat → α → τ → Step τ) (fin : π → τ → Ex × St) {f : St → Option (Out (Ex × St))} (hnx : ∀ p i x, (vw p i x).next = nx)
    (hg : ∀ st o r, f st = some o → o.sel = some r → ∃ p x, inv p 0 x ∧ r = runL (stp p) (fin p) (L p) 0 x ∧ nx ≤ r.2.next ∧ ∀ E, ReD Sc st (Sx p 0) (vw p 0 x) E)
    (hstep : ∀ p i a x, (L p)[i]? = some a → inv p i x → ∃ ex1 st1, (trimO ts nx (exec (withLoops (mk (Sx p i)) ls') n fuel b (vw p i x))).sel = some (ex1, st1) ∧
      match stp p i a x with
      | .go y => ex1 = .nrm ∧ inv p (i + 1) y ∧ ∀ E, ReD (Sx p i) st1 (Sx p (i + 1)) (vw p (i + 1) y) E
      | .out e s => ex1 = e ∧ e ≠ .nrm ∧ ∀ E, ReD (Sx p i) st1 Sc s E)
    (hend : ∀ p x, inv p (L p).length x → ∃ ex1 st1, (trimO ts nx (exec (withLoops (mk (Sx p (L p).length)) ls') n fuel b (vw p (L p).length x))).sel = some (ex1, st1) ∧ ex1 = (fin p x).1 ∧ ex1 ≠ .nrm ∧ ∀ E, ReD (Sx p (L p).length) st1 Sc (fin p x).2 E) :
    LoopOk Tryz.prog (withLoops (mk Sc) ls) n b (onTrim nx ts0 f) := by
  refine loop_list Sc Sx L (fun p i => withLoops (mk (Sx p i)) ls') vw inv stp fin (hm.S Sc) (hm.win Sc) (fun p i => ⟨withLoops_full (hm.full _) ls', hm.S _, hm.win _, hro p i⟩) hin hnx (fun st o r ho hr => ?_) hstep hend
  obtain ⟨h1, h2⟩ := onTrim_some ho
  obtain ⟨p, x, a1, a2, a3, a4⟩ := hg _ o r h2 hr
  exact ⟨p, x, a1, a2, h1, by rw [← a2]; exact a3, fun E => ReD.of_trim rfl (a4 E)⟩

def biJ (j : Nat) : SV := match j with | 0 => .ki .i64 0 | j + 1 => .v (.int .i64 ((j + 1 : Nat) : Int))
theorem runL_goU {α : Type} (fin : Ex × St) : ∀ (l : List α) (i : Nat), runL (fun i (p : α) (x : Unit) => Step.go ()) (fun _ => fin) l i () = fin
  | [], i => rfl
  | p :: r, i => by rw [runL]; exact runL_goU fin r (i + 1)
def bdX (x : Int) : Int := IntKind.i64.wrap (1 + IntKind.i64.wrap (x.tmod 8))
end
/-- slots that are demanded to be so -/
def sureC (c : Ctx) (l : List (Nat × Bool)) : Ctx := { c with sure := l }
theorem sureC_full {P : Program} {c : Ctx} (h : CtxFull P c) (l : List (Nat × Bool)) : CtxFull P (sureC c l) :=
  { small := h.small, mixed := h.mixed, tys := h.tys, eqb := h.eqb, flds := h.flds, read := h.read, spec := h.spec, make := h.make, tail := fun n ops l st r st' hr hs w0 M Q tl a w E sat hK => h.tail n ops l st r st' hr hs w0 M Q tl a w E ⟨sat.slots, sat.hs, sat.own, sat.fr, sat.win, sat.winb, sat.size, sat.defers⟩ fun E' a' w' hu hle s => hK E' a' w' hu hle ⟨s.slots, s.hs, s.own, s.fr, s.win, s.winb, s.size, s.defers⟩ }
theorem sure_fam {mk : Stat → Ctx} (h : Fam mk) (l : List (Nat × Bool)) : Fam fun S => sureC (mk S) l :=
  { S := h.S, win := h.win, loop := h.loop, full := fun S => sureC_full (h.full S) l }
/-- calls that turn nothing of what was there -/
def lookM : List (Nat × (Stat → SpecFn)) → Nat → Option (Stat → SpecFn)
  | [], _ => none
  | (k, g) :: r, f => bif Nat.beq k f then some g else lookM r f
theorem lookM_mem : ∀ {ms : List (Nat × (Stat → SpecFn))} {f : Nat} {g : Stat → SpecFn}, lookM ms f = some g → (f, g) ∈ ms
  | [], _, _, h => by simp [lookM] at h
  | (k, g) :: r, f, g', h => by
    unfold lookM at h
    cases hb : Nat.beq k f with
    | true => rw [hb] at h; have := Nat.eq_of_beq_eq_true hb; subst this; simp only [cond_true, Option.some.injEq] at h; subst h; exact List.mem_cons_self
    | false => rw [hb] at h; exact List.mem_cons_of_mem _ (lookM_mem h)
noncomputable def withMake (c : Ctx) (ms : List (Nat × (Stat → SpecFn))) : Ctx := { c with make := fun f args H nx => match lookM ms f with | some g => g (c.S.still nx) args H nx | none => .bad }
theorem withMake_full {c : Ctx} (h : CtxFull Tryz.prog c) (hwin : c.win = []) {ms : List (Nat × (Stat → SpecFn))} (hms : ∀ f g, (f, g) ∈ ms → ∀ S, SpecOk S [] f (g S)) : CtxFull Tryz.prog (withMake c ms) :=
  { small := h.small, mixed := h.mixed, tys := h.tys, eqb := h.eqb, flds := h.flds, read := h.read, spec := h.spec, tail := fun n ops l st r st' hr hs w0 M Q tl a w E sat hK => h.tail n ops l st r st' hr hs w0 M Q tl a w E ⟨sat.slots, sat.hs, sat.own, sat.fr, sat.win, sat.winb, sat.size, sat.defers⟩ fun E' a' w' hu hle s => hK E' a' w' hu hle ⟨s.slots, s.hs, s.own, s.fr, s.win, s.winb, s.size, s.defers⟩, make := by
      intro f args H nx v H' nx' hh
      have hh : (match lookM ms f with | some g => g (c.S.still nx) args H nx | none => .bad).sel = some (v, H', nx') := hh
      split at hh
      · rename_i g hg
        obtain ⟨hfn, hc⟩ := hms f g (lookM_mem hg) (c.S.still nx) args H nx v H' nx' hh
        refine ⟨hfn, fun E w hs hw _ hb => ?_⟩
        have := hc E w hs (fun n j k z hm => by cases hm) (fun n j k z hm => by cases hm) hb
        rw [SV.dens_stat (S := c.S.still nx) (S' := c.S) rfl rfl] at this
        refine this.mono ?_
        rintro e w' ⟨E', hu, hle, rfl, hs', hfr, hown⟩
        exact ⟨E', hu, hle, by rw [SV.den_stat (S := c.S.still nx) (S' := c.S) rfl rfl]; rfl, hs', hfr, hown⟩
      · cases hh }
theorem make_fam {mk : Stat → Ctx} (h : Fam mk) {ms : List (Nat × (Stat → SpecFn))} (hms : ∀ f g, (f, g) ∈ ms → ∀ S, SpecOk S [] f (g S)) : Fam fun S => withMake (mk S) ms :=
  { S := h.S, win := h.win, loop := h.loop, full := fun S => withMake_full (h.full S) (h.win S) hms }
theorem makes_nil : ∀ f g, (f, g) ∈ ([] : List (Nat × (Stat → SpecFn))) → ∀ S, SpecOk S [] f (g S) := fun f g h => by cases h
theorem makes_cons {f : Nat} {g : Stat → SpecFn} {l : List (Nat × (Stat → SpecFn))} (h : ∀ S, SpecOk S [] f (g S)) (hs : ∀ f g, (f, g) ∈ l → ∀ S, SpecOk S [] f (g S)) : ∀ f' g', (f', g') ∈ (f, g) :: l → ∀ S, SpecOk S [] f' (g' S) := by
  intro f' g' hm
  rcases List.mem_cons.1 hm with he | he
  · injection he with h1 h2; subst h1 h2; exact h
  · exact hs f' g' he
end Go.Proofs.YtjemfkoamfnofaaGreat
