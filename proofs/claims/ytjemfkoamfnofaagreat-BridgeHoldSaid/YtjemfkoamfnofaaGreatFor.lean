import Derived.Test.YtjemfkoamfnofaaGreatLoop
set_option linter.unusedVariables false
namespace Go.Proofs.YtjemfkoamfnofaaGreat
open Go Go.RowKit
inductive Step (τ : Type) where
 | go (x : τ)
 | out (e : Ex) (s : St)
def runL {α τ : Type} (stp : Nat → α → τ → Step τ) (fin : τ → Ex × St) : List α → Nat → τ → Ex × St
 | [], _, x => fin x
 | a :: r, i, x => match stp i a x with
   | .go y => runL stp fin r (i + 1) y
   | .out e s => (e, s)
structure ReD (S : Stat) (st : St) (S' : Stat) (st' : St) (E : Env) : Prop where
 slots : ReSlots st.slots S S' E st'.slots
 heap : ReHeap st.heap S S' E st'.heap
theorem ReD.ctx {c c' : Ctx} {S S' : Stat} {st st' : St} {E : Env} (h : ReD S st S' st' E) (hc : c.S = S) (hc' : c'.S = S') (hro : S'.ro = S.ro) (hwin : c'.win = []) : Redesc c st c' st' E := by
 subst hc hc'
 exact ⟨h.slots, h.heap, hro, hwin⟩
theorem loop_list {P : Program} {c : Ctx} {n nx fuel : Nat} {b : Code} {ts : List Nat} {π α τ : Type} (Sc : Stat) (Sx : π → Nat → Stat) (L : π → List α) (cx : π → Nat → Ctx) (vw : π → Nat → τ → St) (inv : π → Nat → τ → Prop)
   (stp : π → Nat → α → τ → Step τ) (fin : π → τ → Ex × St) {g : St → Option (Out (Ex × St))} (hc : c.S = Sc) (hcw : c.win = []) (hcx : ∀ p i, CtxFull P (cx p i) ∧ (cx p i).S = Sx p i ∧ (cx p i).win = [] ∧ (Sx p i).ro = Sc.ro)
   (hl : ∀ p i, LoopsOk P (cx p i) n b) (hnx : ∀ p i x, (vw p i x).next = nx)
   (hg : ∀ st o r, g st = some o → o.sel = some r → ∃ p x, inv p 0 x ∧ r = runL (stp p) (fin p) (L p) 0 x ∧ st.next = nx ∧ nx ≤ (runL (stp p) (fin p) (L p) 0 x).2.next ∧ ∀ E, ReD Sc st (Sx p 0) (vw p 0 x) E)
   (hstep : ∀ p i a x, (L p)[i]? = some a → inv p i x → ∃ ex1 st1, (trimO ts nx (exec (cx p i) n fuel b (vw p i x))).sel = some (ex1, st1) ∧
     match stp p i a x with
     | .go y => ex1 = .nrm ∧ inv p (i + 1) y ∧ ∀ E, ReD (Sx p i) st1 (Sx p (i + 1)) (vw p (i + 1) y) E
     | .out e s => ex1 = e ∧ e ≠ .nrm ∧ ∀ E, ReD (Sx p i) st1 Sc s E)
   (hend : ∀ p x, inv p (L p).length x → ∃ ex1 st1, (trimO ts nx (exec (cx p (L p).length) n fuel b (vw p (L p).length x))).sel = some (ex1, st1) ∧ ex1 = (fin p x).1 ∧ ex1 ≠ .nrm ∧ ∀ E, ReD (Sx p (L p).length) st1 Sc (fin p x).2 E) :
   LoopOk P c n b g := by
 intro st o ho w0 M Q st' ex a w E sat hsel hK
 obtain ⟨p, x, hinv, hres, hn, hle, hre⟩ := hg st o _ ho hsel
 have e1 : (runL (stp p) (fin p) (L p) 0 x).1 = ex := by rw [← hres]
 have e2 : (runL (stp p) (fin p) (L p) 0 x).2 = st' := by rw [← hres]
 refine wp_loop_rounds ((L p).length + 1) ?_
 let σ := { q : Nat × τ // q.1 ≤ (L p).length ∧ inv p q.1 q.2 ∧ runL (stp p) (fin p) ((L p).drop q.1) q.1 q.2 = runL (stp p) (fin p) (L p) 0 x }
 let s0 : σ := ⟨(0, x), Nat.zero_le _, hinv, by simp⟩
 refine fold_rounds (σ := σ) (nx := nx) (fuel := fuel) (ts := ts) (c := c) (fun s => cx p s.1.1) (fun s => vw p s.1.1 s.1.2) (fun s => (L p).length - s.1.1) (fun _ => True) (fun _ => (ex, st'))
   (fun s _ => (hcx p s.1.1).1) (fun s => (hcx p s.1.1).2.2.1) (fun s _ => hl p s.1.1) (fun s => hnx p s.1.1 s.1.2) ?_ ((L p).length + 1) s0 trivial (by show (L p).length - 0 < _; omega) (sat.re ((hre E).ctx hc (hcx p 0).2.1 (hcx p 0).2.2.2 (hcx p 0).2.2.1)) ?_
 · rintro ⟨⟨i, y⟩, hle', hinv', hrun⟩ _
   dsimp only at hle' hinv' hrun ⊢
   by_cases hi : i < (L p).length
   · have hget : (L p)[i]? = some (L p)[i] := List.getElem?_eq_getElem hi
     obtain ⟨ex1, st1, hs, hm⟩ := hstep p i _ y hget hinv'
     refine ⟨ex1, st1, hs, ?_⟩
     rw [List.drop_eq_getElem_cons hi] at hrun
     simp only [runL] at hrun
     split at hm
     · rename_i z hz
       rw [hz] at hrun
       obtain ⟨h1, h2, h3⟩ := hm
       exact .inl ⟨h1, ⟨(i + 1, z), hi, h2, hrun⟩, trivial, by show (L p).length - (i + 1) < (L p).length - i; omega, rfl, fun E => (h3 E).ctx (hcx p i).2.1 (hcx p (i + 1)).2.1 ((hcx p (i + 1)).2.2.2.trans (hcx p i).2.2.2.symm) (hcx p (i + 1)).2.2.1⟩
     · rename_i e s hz
       rw [hz] at hrun
       obtain ⟨h1, h2, h3⟩ := hm
       dsimp only at hrun
       rw [← hres] at hrun
       injection hrun with q1 q2
       subst q1 q2
       exact .inr ⟨by rw [h1]; exact h2, h1.symm, fun E => (h3 E).ctx (hcx p i).2.1 hc (hcx p i).2.2.2.symm hcw⟩
   · have hi' : i = (L p).length := by omega
     subst hi'
     obtain ⟨ex1, st1, hs, h1, h2, h3⟩ := hend p y hinv'
     refine ⟨ex1, st1, hs, .inr ⟨h2, ?_, ?_⟩⟩
     · rw [List.drop_length, runL] at hrun
       rw [h1, hrun, ← hres]
     · rw [List.drop_length, runL] at hrun
       rw [show st' = (fin p y).2 by rw [hrun, ← hres]]
       exact fun E => (h3 E).ctx (hcx p _).2.1 hc (hcx p _).2.2.2.symm hcw
 · intro E' a' w' hu sat'
   exact hK E' a' w' (by rw [hn]; exact hu) (by rw [hn, ← e2]; exact hle) sat'
structure Fam (mk : Stat → Ctx) : Prop where
 full : ∀ S, CtxFull Tryz.prog (mk S)
 S : ∀ S, (mk S).S = S
 win : ∀ S, (mk S).win = []
 loop : ∀ S q st, (mk S).loop q st = none
theorem mk_fam (ps : Stat → List (Nat × ReadFn)) (ss : Stat → List (Nat × SpecFn)) (fuel k : Nat) (hp : ∀ S f g, (f, g) ∈ ps S → ReadOk S [] f g) (hs : ∀ S f g, (f, g) ∈ ss S → SpecOk S [] f g) : Fam (fun S => mkCtx S [] (ps S) (ss S) fuel k) :=
 ⟨fun S => mk_full S [] _ _ fuel (hp S) (hs S) k, fun S => mkCtx_S .., fun S => mkCtx_win .., fun S => mkCtx_loop _ _ _ _ _ _⟩
theorem loop_plain {mk : Stat → Ctx} (hm : Fam mk) {ls : List (Nat × LoopFn)} {n nx fuel : Nat} {b : Code} {ts : List Nat} {π α τ : Type} (Sc : Stat) (Sx : π → Nat → Stat) (hro : ∀ p i, (Sx p i).ro = Sc.ro) (L : π → List α) (vw : π → Nat → τ → St) (inv : π → Nat → τ → Prop)
   (stp : π → Nat → α → τ → Step τ) (fin : π → τ → Ex × St) {g : St → Option (Out (Ex × St))} (hnx : ∀ p i x, (vw p i x).next = nx)
   (hg : ∀ st o r, g st = some o → o.sel = some r → ∃ p x, inv p 0 x ∧ r = runL (stp p) (fin p) (L p) 0 x ∧ st.next = nx ∧ nx ≤ (runL (stp p) (fin p) (L p) 0 x).2.next ∧ ∀ E, ReD Sc st (Sx p 0) (vw p 0 x) E)
   (hstep : ∀ p i a x, (L p)[i]? = some a → inv p i x → ∃ ex1 st1, (trimO ts nx (exec (mk (Sx p i)) n fuel b (vw p i x))).sel = some (ex1, st1) ∧
     match stp p i a x with
     | .go y => ex1 = .nrm ∧ inv p (i + 1) y ∧ ∀ E, ReD (Sx p i) st1 (Sx p (i + 1)) (vw p (i + 1) y) E
     | .out e s => ex1 = e ∧ e ≠ .nrm ∧ ∀ E, ReD (Sx p i) st1 Sc s E)
   (hend : ∀ p x, inv p (L p).length x → ∃ ex1 st1, (trimO ts nx (exec (mk (Sx p (L p).length)) n fuel b (vw p (L p).length x))).sel = some (ex1, st1) ∧ ex1 = (fin p x).1 ∧ ex1 ≠ .nrm ∧ ∀ E, ReD (Sx p (L p).length) st1 Sc (fin p x).2 E) :
   LoopOk Tryz.prog (withLoops (mk Sc) ls) n b g :=
 loop_list Sc Sx L (fun p i => mk (Sx p i)) vw inv stp fin (hm.S Sc) (hm.win Sc) (fun p i => ⟨hm.full _, hm.S _, hm.win _, hro p i⟩) (fun p i => LoopsOk.none (hm.loop _) _) hnx hg hstep hend
theorem ReSlots.of_trim {s : Slots} {ts : List Nat} {S S' : Stat} {E : Env} : ∀ {l : Slots}, ReSlots (keepT s ts) S S' E l → ReSlots s S S' E l
 | [], _ => trivial
 | (t, p, x') :: r, h => ⟨by obtain ⟨x, h1, h2⟩ := h.1; exact ⟨x, keepT_get h1, h2⟩, ReSlots.of_trim h.2⟩
theorem ReHeap.of_trim {s : Heap} {nx : Nat} {S S' : Stat} {E : Env} : ∀ {l : Heap}, ReHeap (keepH nx s) S S' E l → ReHeap s S S' E l
 | [], _ => trivial
 | (t, x') :: r, h => ⟨by obtain ⟨x, h1, h2⟩ := h.1; exact ⟨x, keepH_get h1, h2⟩, ReHeap.of_trim h.2⟩
theorem ReD.of_trim {S S' : Stat} {st st1 st' : St} {ts : List Nat} {nx : Nat} {E : Env} (he : trimSt ts nx st = st1) (h : ReD S st1 S' st' E) : ReD S st S' st' E := by
 subst he
 exact ⟨h.slots.of_trim, h.heap.of_trim⟩
theorem wrap_succ {i n : Nat} (h : i < n) (hn : n < 9223372036854775808) : IntKind.i64.wrap ((i : Int) + 1) = ((i + 1 : Nat) : Int) := by
 rw [IntKind.wrap_i64]
 omega
theorem Out.ite_bad {α : Type} {b : Bool} {o : Out α} {r : α} (h : (Out.ite b o .bad).sel = some r) : b = true ∧ o.sel = some r := by
 cases b with
 | true => exact ⟨rfl, by simpa [Out.sel] using h⟩
 | false => simp [Out.sel] at h
def noLoop : LoopFn := fun _ => none
theorem noLoop_ok {P : Program} {c : Ctx} {n : Nat} {b : Code} : LoopOk P c n b noLoop := fun st o h => by cases h
def onTrim (nx : Nat) (ts : List Nat) (f : St → Option (Out (Ex × St))) : LoopFn := fun st => bif Nat.beq st.next nx then f (trimSt ts nx st) else none
theorem onTrim_some {nx : Nat} {ts : List Nat} {f : St → Option (Out (Ex × St))} {st : St} {o : Out (Ex × St)} (h : onTrim nx ts f st = some o) : st.next = nx ∧ f (trimSt ts nx st) = some o := by
 unfold onTrim at h
 cases hn : Nat.beq st.next nx with
 | false => rw [hn] at h; cases h
 | true => rw [hn] at h; exact ⟨Nat.eq_of_beq_eq_true hn, h⟩
theorem loop_trim {mk : Stat → Ctx} (hm : Fam mk) {ls : List (Nat × LoopFn)} {n nx fuel : Nat} {b : Code} {ts ts0 : List Nat} {π α τ : Type} (Sc : Stat) (Sx : π → Nat → Stat) (hro : ∀ p i, (Sx p i).ro = Sc.ro) (L : π → List α) (vw : π → Nat → τ → St) (inv : π → Nat → τ → Prop)
   (stp : π → Nat → α → τ → Step τ) (fin : π → τ → Ex × St) {f : St → Option (Out (Ex × St))} (hnx : ∀ p i x, (vw p i x).next = nx)
   (hg : ∀ st o r, f st = some o → o.sel = some r → ∃ p x, inv p 0 x ∧ r = runL (stp p) (fin p) (L p) 0 x ∧ nx ≤ r.2.next ∧ ∀ E, ReD Sc st (Sx p 0) (vw p 0 x) E)
   (hstep : ∀ p i a x, (L p)[i]? = some a → inv p i x → ∃ ex1 st1, (trimO ts nx (exec (mk (Sx p i)) n fuel b (vw p i x))).sel = some (ex1, st1) ∧
     match stp p i a x with
     | .go y => ex1 = .nrm ∧ inv p (i + 1) y ∧ ∀ E, ReD (Sx p i) st1 (Sx p (i + 1)) (vw p (i + 1) y) E
     | .out e s => ex1 = e ∧ e ≠ .nrm ∧ ∀ E, ReD (Sx p i) st1 Sc s E)
   (hend : ∀ p x, inv p (L p).length x → ∃ ex1 st1, (trimO ts nx (exec (mk (Sx p (L p).length)) n fuel b (vw p (L p).length x))).sel = some (ex1, st1) ∧ ex1 = (fin p x).1 ∧ ex1 ≠ .nrm ∧ ∀ E, ReD (Sx p (L p).length) st1 Sc (fin p x).2 E) :
   LoopOk Tryz.prog (withLoops (mk Sc) ls) n b (onTrim nx ts0 f) := by
 refine loop_plain hm Sc Sx hro L vw inv stp fin hnx (fun st o r ho hr => ?_) hstep hend
 obtain ⟨h1, h2⟩ := onTrim_some ho
 obtain ⟨p, x, a1, a2, a3, a4⟩ := hg _ o r h2 hr
 exact ⟨p, x, a1, a2, h1, by rw [← a2]; exact a3, fun E => ReD.of_trim rfl (a4 E)⟩
def trimF (nx : Nat) (o : Out (SV × Heap × Nat)) : Out (SV × Heap × Nat) := o.bind fun r => bif r.1.bnd nx then .ret (r.1, keepH nx r.2.1, nx) else .bad
theorem trimF_sel {nx : Nat} {o : Out (SV × Heap × Nat)} {r : SV × Heap × Nat} (h : (trimF nx o).sel = some r) : ∃ q, o.sel = some q ∧ q.1.bnd nx = true ∧ r = (q.1, keepH nx q.2.1, nx) := by
 unfold trimF at h
 rw [Out.sel_bind] at h
 cases h0 : o.sel with
 | none => rw [h0] at h; cases h
 | some q =>
   rw [h0] at h
   simp only [Option.bind_some] at h
   cases hb : q.1.bnd nx with
   | false => rw [hb] at h; cases h
   | true =>
     rw [hb] at h
     simp only [cond_true, Out.sel, Option.some.injEq] at h
     exact ⟨q, rfl, hb, h.symm⟩
def valF (nx : Nat) (o : Out (SV × Heap × Nat)) : Out SV := o.bind fun r => bif r.1.bnd nx then .ret r.1 else .bad
theorem valF_sel {nx : Nat} {o : Out (SV × Heap × Nat)} {v : SV} (h : (valF nx o).sel = some v) : ∃ q, o.sel = some q ∧ q.1.bnd nx = true ∧ v = q.1 := by
 unfold valF at h
 rw [Out.sel_bind] at h
 cases h0 : o.sel with
 | none => rw [h0] at h; cases h
 | some q =>
   rw [h0] at h
   simp only [Option.bind_some] at h
   cases hb : q.1.bnd nx with
   | false => rw [hb] at h; cases h
   | true =>
     rw [hb] at h
     simp only [cond_true, Out.sel, Option.some.injEq] at h
     exact ⟨q, rfl, hb, h.symm⟩
structure GoodCtx (c : Ctx) (fn : Func) : Prop where
 full : CtxFull Tryz.prog c
 win : c.win = []
 loops : ∀ code, fn.body = some code → LoopsOk Tryz.prog c fn.ntmps code
def bndH (m : Nat) (H : Heap) : Bool := H.all fun e => Nat.blt e.1 m && e.2.bnd m
theorem good_ok {c : Ctx} {f : FuncId} {fn : Func} (hf : Tryz.prog.funcs[f]? = some fn) (hname : (fn.name == "runtime.NumGoroutine") = false) (hc : GoodCtx c fn) {fuel : Nat} {args : List SV} {H H' : Heap} {m m' : Nat} {v : SV}
   (h : (inline c fuel fn args H m).sel = some (v, H', m')) : FnIn Tryz.prog f ∧ ∀ E w, HS c.S E H w → Calls Tryz.prog f (SV.dens c.S E args).toArray w fun e w' =>
   ∃ E', Env.upto m E E' ∧ m ≤ m' ∧ e = .returned (v.den c.S E') ∧ HS c.S E' H' w' ∧ Fr w w' (MH c.S E H) ∧
     ∀ k x, H'.get k = some x → c.S.ro k = false → (w.heap.size ≤ (E'.ad k).block ∨ ∀ j, j < x.size → MH c.S E H (E'.ad k).block ((E'.ad k).off + j)) :=
 walk_ok hf hname hc.full rfl hc.win hc.loops h
theorem HS.re {S S' : Stat} {E : Env} {H H0 : Heap} {w : World} (h : HS S E H w) (r : ReHeap H S S' E H0) (hro : ∀ k x, H0.get k = some x → S'.ro k = false → S.ro k = false) : HS S' E H0 w := by
 refine ⟨fun k x' hk hp => ?_, fun k x' hk hp hnt hr => ?_, fun k k' x1 x2 hne h1 h2 p1 p2 hr => ?_, fun k x' hk => (r.get k x' hk).choose_spec.2.2⟩
 · obtain ⟨x, hx, hc, _⟩ := r.get k x' hk
   rw [← hc]; exact h.at_ k x hx (by rw [size_of_cells hc]; exact hp)
 · obtain ⟨x, hx, hc, _⟩ := r.get k x' hk
   exact h.wr k x hx (by rw [size_of_cells hc]; exact hp) (by rw [hc]; exact hnt) (hro k x' hk hr)
 · obtain ⟨y1, hy1, hc1, _⟩ := r.get k x1 h1
   obtain ⟨y2, hy2, hc2, _⟩ := r.get k' x2 h2
   rw [← size_of_cells hc1, ← size_of_cells hc2]
   exact h.dis k k' y1 y2 hne hy1 hy2 (by rw [size_of_cells hc1]; exact p1) (by rw [size_of_cells hc2]; exact p2) (hro k x1 h1 hr)
theorem size_of_cells' {S S' : Stat} {E E' : Env} {x y : SV} (h : x.cells S E = y.cells S' E') : x.size = y.size := by
 rw [← SV.len S E x, ← SV.len S' E' y, h]
theorem canon_read {f : FuncId} {fn : Func} (hf : Tryz.prog.funcs[f]? = some fn) (hname : (fn.name == "runtime.NumGoroutine") = false) {g : CanonFn}
   (h : ∀ (S : Stat) args H m r, (g S.ro args H m).sel = some r → r.2.1 = H ∧ r.2.2 = m ∧ ∀ E, ∃ c fuel args0 H0 m0 v H1 m1, GoodCtx c fn ∧ (∀ k x, H0.get k = some x → c.S.ro k = true) ∧
     (inline c fuel fn args0 H0 m0).sel = some (v, H1, m1) ∧ SV.dens S E args = SV.dens c.S E args0 ∧ ReHeap H S c.S E H0 ∧ ∀ E', Env.upto m0 E E' → v.den c.S E' = r.1.den S E) : CanonOk f g := by
 intro S args H m v H' m' hs
 obtain ⟨e1, e2, hE⟩ := h S args H m _ hs
 dsimp only at e1 e2 hE
 subst e1 e2
 have hfn : FnIn Tryz.prog f := by
   obtain ⟨c, fuel, args0, H0, m0, v0, H1, m1, hc, _, hrun, _⟩ := hE ⟨fun _ => default, fun _ => default⟩
   exact (good_ok hf hname hc hrun).1
 refine ⟨hfn, fun E w hH => ?_⟩
 obtain ⟨c, fuel, args0, H0, m0, v0, H1, m1, hc, hro, hrun, hargs, hre, hv⟩ := hE E
 have := (good_ok hf hname hc hrun).2 E w (hH.re hre fun k x hk hr => by rw [hro k x hk] at hr; cases hr)
 rw [hargs]
 refine this.mono ?_
 rintro e w' ⟨E', hu, hle, rfl, hs1, hfr0, hown⟩
 have hfr : Fr w w' (fun _ _ => False) := hfr0.mono fun b j _ hm => by
   obtain ⟨k, x, h1, h2, h3⟩ := hm
   rw [hro k x h1] at h2; cases h2
 refine ⟨E, Env.upto.refl _ _, Nat.le_refl _, by rw [hv E' hu], ⟨fun k x hk hp => ?_, fun k x hk hp hnt hro => (hH.wr k x hk hp hnt hro).fr hfr, fun k k' x x' hne hk hk' hp hp' hro => hH.dis k k' x x' hne hk hk' hp hp' hro, hH.fo⟩, hfr.mono fun b j _ h => h.elim, fun k x hk hro => .inr fun j hj => ⟨k, x, hk, hro, rfl, by omega, by omega⟩⟩
 exact (hH.at_ k x hk hp).fr hfr fun j _ h => h
def kOf (m m0 k : Nat) : Nat := if k < m then k else k - m + m0
def Env.glue (m m0 : Nat) (E E' : Env) : Env := ⟨fun k => if k < m then E.ad k else E'.ad (k - m + m0), fun k => if k < m then E.cp k else E'.cp (k - m + m0)⟩
theorem Env.glue_upto (m m0 : Nat) (E E' : Env) : Env.upto m E (Env.glue m m0 E E') := fun k hk => by simp [Env.glue, hk]
theorem Env.glue_ad {m m0 : Nat} {E E' : Env} (hu : Env.upto m0 E E') {k : Nat} (hk : k < m ∧ k < m0 ∨ m ≤ k) : (Env.glue m m0 E E').ad k = E'.ad (kOf m m0 k) ∧ (Env.glue m m0 E E').cp k = E'.cp (kOf m m0 k) := by
 rcases hk with ⟨h1, h2⟩ | h
 · simp only [Env.glue, kOf, h1, if_true]; exact ⟨(hu k h2).1.symm, (hu k h2).2.symm⟩
 · have : ¬ k < m := by omega
   simp [Env.glue, kOf, this]
theorem canon_write {f : FuncId} {fn : Func} (hf : Tryz.prog.funcs[f]? = some fn) (hname : (fn.name == "runtime.NumGoroutine") = false) {g : CanonFn}
   (h : ∀ (S : Stat) args H m r, (g S.ro args H m).sel = some r → bndH m H = true ∧ m ≤ r.2.2 ∧ ∀ E, ∃ c fuel args0 H0 m0 v H1 m1, GoodCtx c fn ∧ (∀ k, c.S.ro k = false) ∧ (∀ k x, H0.get k = some x → S.ro k = false) ∧
     (inline c fuel fn args0 H0 m0).sel = some (v, H1, m1) ∧ SV.dens S E args = SV.dens c.S E args0 ∧ ReHeap H S c.S E H0 ∧ ∀ E', Env.upto m0 E E' → v.den c.S E' = r.1.den S (Env.glue m m0 E E') ∧
     ∀ k x', r.2.1.get k = some x' → ((k < m ∧ k < m0 ∨ m ≤ k) ∧ ∃ x, H1.get (kOf m m0 k) = some x ∧ x.cells c.S E' = x'.cells S (Env.glue m m0 E E') ∧ x'.foOk S) ∨ (H.get k = some x' ∧ H0.get k = none)) : CanonOk f g := by
 intro S args H m v H' m' hs
 obtain ⟨hbnd, hmm, hE⟩ := h S args H m _ hs
 dsimp only at hmm hE
 have hfn : FnIn Tryz.prog f := by
   obtain ⟨c, fuel, args0, H0, m0, v0, H1, m1, hc, _, _, hrun, _⟩ := hE ⟨fun _ => default, fun _ => default⟩
   exact (good_ok hf hname hc hrun).1
 refine ⟨hfn, fun E w hH => ?_⟩
 obtain ⟨c, fuel, args0, H0, m0, v0, H1, m1, hc, hcro, hro, hrun, hargs, hre, hout⟩ := hE E
 have := (good_ok hf hname hc hrun).2 E w (hH.re hre fun k x hk _ => hro k x hk)
 rw [hargs]
 refine this.mono ?_
 rintro e w' ⟨E0, hu0, hle, rfl, hs1, hfr0, hown⟩
 obtain ⟨hv, hcell⟩ := hout E0 hu0
 have hu := Env.glue_upto m m0 E E0
 have hga : ∀ {k}, (k < m ∧ k < m0 ∨ m ≤ k) → (Env.glue m m0 E E0).ad k = E0.ad (kOf m m0 k) := fun hk => (Env.glue_ad hu0 hk).1
 generalize hEg : Env.glue m m0 E E0 = E' at hv hcell hu hga ⊢
 have hb : ∀ k x, H.get k = some x → k < m ∧ x.bnd m = true := fun k x hk => by
   have := heap_all hbnd hk
   simp only [Bool.and_eq_true] at this
   exact ⟨by simpa using this.1, this.2⟩
 have hMH : ∀ b j, MH c.S E H0 b j → ∃ k x, H.get k = some x ∧ S.ro k = false ∧ H0.get k ≠ none ∧ b = (E.ad k).block ∧ (E.ad k).off ≤ j ∧ j < (E.ad k).off + x.size := by
   rintro b j ⟨k, x, h1, h2, h3, h4, h5⟩
   obtain ⟨y, hy, hcy, _⟩ := hre.get k x h1
   refine ⟨k, y, hy, hro k x h1, by rw [h1]; simp, h3, h4, by rw [size_of_cells hcy]; exact h5⟩
 have hclear : ∀ k x, H.get k = some x → H0.get k = none → ∀ j, j < x.size → ¬ MH c.S E H0 (E.ad k).block ((E.ad k).off + j) := by
   intro k x hk hno j hj hm
   obtain ⟨k1, x1, e1, e2, e3, e4, e5, e6⟩ := hMH _ _ hm
   have hne : k1 ≠ k := fun he => e3 (by rw [he]; exact hno)
   rcases hH.dis k1 k x1 x hne e1 hk (by omega) (by omega) e2 with hd | hd | hd
   · exact hd e4.symm
   · omega
   · omega
 have hother : ∀ k x, H1.get k = some x → 0 < x.size → ∀ k' x', H.get k' = some x' → H0.get k' = none → 0 < x'.size → apart (E0.ad k) x.size (E.ad k') x'.size := by
   intro k x hk hp k' x' hk' hno hp'
   rcases hown k x hk (hcro k) with hge | hm
   · refine .inl ?_
     have := (hH.at_ k' x' hk' hp').lt
     omega
   · refine apart_of (fun j hj hbl h1 h2 => ?_) hp hp'
     have := hm j hj
     rw [hbl] at this
     exact hclear k' x' hk' hno ((E0.ad k).off + j - (E.ad k').off) (by omega) (by rw [show (E.ad k').off + ((E0.ad k).off + j - (E.ad k').off) = (E0.ad k).off + j from by omega]; exact this)
 refine ⟨E', hu, hmm, by rw [hv], ⟨fun k x' hk hp => ?_, fun k x' hk hp hnt hr => ?_, fun k k' x1 x2 hne hk hk' hp hp' hr => ?_, fun k x' hk => (hcell k x' hk).elim (fun h => h.2.choose_spec.2.2) (fun h => hH.fo k x' h.1)⟩, hfr0.mono fun b j _ hm => ?_, fun k x' hk hr => ?_⟩
 · rcases hcell k x' hk with ⟨hkm, x, hx, hc1, _⟩ | ⟨hx, hno⟩
   · rw [← hc1, hga hkm]; exact hs1.at_ _ x hx (by rw [size_of_cells' hc1]; exact hp)
   · obtain ⟨b1, b2⟩ := hb k x' hx
     rw [SV.cells_upto S hu x' b2, (hu k b1).1]
     exact (hH.at_ k x' hx hp).fr hfr0 fun j hj => hclear k x' hx hno j (by rw [SV.len] at hj; exact hj)
 · rcases hcell k x' hk with ⟨hkm, x, hx, hc1, _⟩ | ⟨hx, hno⟩
   · rw [hga hkm]; exact hs1.wr _ x hx (by rw [size_of_cells' hc1]; exact hp) (by rw [hc1]; exact hnt) (hcro _)
   · rw [(hu k (hb k x' hx).1).1]
     rw [SV.cells_upto S hu x' (hb k x' hx).2] at hnt
     exact (hH.wr k x' hx hp hnt hr).fr hfr0
 · rcases hcell k x1 hk with ⟨hkm, y1, hy1, hc1, _⟩ | ⟨hx1, hno1⟩
   · rcases hcell k' x2 hk' with ⟨hkm', y2, hy2, hc2, _⟩ | ⟨hx2, hno2⟩
     · have a1 := size_of_cells' hc1
       have a2 := size_of_cells' hc2
       rw [← a1, ← a2, hga hkm, hga hkm']
       refine hs1.dis _ _ y1 y2 ?_ hy1 hy2 (by omega) (by omega) (hcro _)
       unfold kOf
       split <;> split <;> omega
     · have a1 := size_of_cells' hc1
       rw [← a1, hga hkm, (hu k' (hb k' x2 hx2).1).1]
       exact hother _ y1 hy1 (by omega) k' x2 hx2 hno2 hp'
   · rcases hcell k' x2 hk' with ⟨hkm', y2, hy2, hc2, _⟩ | ⟨hx2, hno2⟩
     · have a2 := size_of_cells' hc2
       rw [← a2, hga hkm', (hu k (hb k x1 hx1).1).1]
       exact (hother _ y2 hy2 (by omega) k x1 hx1 hno1 hp).symm
     · rw [(hu k (hb k x1 hx1).1).1, (hu k' (hb k' x2 hx2).1).1]
       exact hH.dis k k' x1 x2 hne hx1 hx2 hp hp' hr
 · obtain ⟨k1, x1, e1, e2, _, e4, e5, e6⟩ := hMH _ _ hm
   exact ⟨k1, x1, e1, e2, e4, e5, e6⟩
 · rcases hcell k x' hk with ⟨hkm, x, hx, hc1, _⟩ | ⟨hx, hno⟩
   · rw [← size_of_cells' hc1, hga hkm]
     rcases hown _ x hx (hcro _) with hge | hm
     · exact .inl hge
     · refine .inr fun j hj => ?_
       obtain ⟨k1, x1, e1, e2, _, e4, e5, e6⟩ := hMH _ _ (hm j hj)
       exact ⟨k1, x1, e1, e2, e4, e5, e6⟩
   · rw [(hu k (hb k x' hx).1).1]
     exact .inr fun j hj => ⟨k, x', hx, hr, rfl, by omega, by omega⟩
mutual
def SV.nrm (S : Stat) : SV → SV
 | .kb b => .v (.bool b)
 | .ki k n => .v (.int k n)
 | .ix j => .v (.int .i64 (S.ix j))
 | .elt c i z o => .elt c (.val (i.int S)) z o
 | .foc j a x b => (match x.rv with
   | some y => (match a.glue y b with | some R => .rows R | none => .foc j a x b)
   | none => .foc j a x b)
 | .fn q a b => .fn q (SV.nrms S a) (SV.nrms S b)
 | .agg l => .agg (SV.nrms S l)
 | .tup l => .tup (SV.nrms S l)
 | x => x
def SV.nrms (S : Stat) : List SV → List SV
 | [] => []
 | x :: r => SV.nrm S x :: SV.nrms S r
end
mutual
theorem SV.nrm_cells (S : Stat) (E : Env) : ∀ x : SV, (x.nrm S).cells S E = x.cells S E
 | .foc j a x b => by
   unfold SV.nrm
   split
   · rename_i y hy
     split
     · rename_i R hR
       simp only [SV.cells]
       rw [Rows.glue_ok hR, SV.rv_cells S E hy]
     · rfl
   · rfl
 | .fn _ a b => by simp [SV.nrm, SV.cells, SV.nrms_dens S E a, SV.nrms_dens S E b]
 | .agg l => by simp [SV.nrm, SV.cells, SV.nrms_cells S E l]
 | .tup l => by simp [SV.nrm, SV.cells, SV.nrms_dens S E l]
 | .tab _ | .mp _ | .ptr _ _ | .slc _ _ _ _ | .slu _ _ _ _ | .elt _ _ _ _ | .slr _ _ _ _ | .v _ | .kb _ | .ki _ _ | .ix _ | .sl _ | .rcd _ | .rows _ => by simp [SV.nrm, SV.cells, Ix.int]
theorem SV.nrms_cells (S : Stat) (E : Env) : ∀ l : List SV, SV.cellss S E (SV.nrms S l) = SV.cellss S E l
 | [] => by simp [SV.nrms, SV.cellss]
 | x :: r => by simp [SV.nrms, SV.cellss, SV.nrm_cells S E x, SV.nrms_cells S E r]
theorem SV.nrm_den (S : Stat) (E : Env) : ∀ x : SV, (x.nrm S).den S E = x.den S E
 | .foc j a x b => by
   unfold SV.nrm
   split
   · rename_i y hy
     split
     · rename_i R hR
       simp only [SV.den]
       rw [Rows.glue_ok hR, SV.rv_cells S E hy]
     · rfl
   · rfl
 | .fn _ a b => by simp [SV.nrm, SV.den, SV.nrms_dens S E a, SV.nrms_dens S E b]
 | .agg l => by simp [SV.nrm, SV.den, SV.nrms_cells S E l]
 | .tup l => by simp [SV.nrm, SV.den, SV.nrms_dens S E l]
 | .tab _ | .mp _ | .ptr _ _ | .slc _ _ _ _ | .slu _ _ _ _ | .elt _ _ _ _ | .slr _ _ _ _ | .v _ | .kb _ | .ki _ _ | .ix _ | .sl _ | .rcd _ | .rows _ => by simp [SV.nrm, SV.den, Ix.int]
theorem SV.nrms_dens (S : Stat) (E : Env) : ∀ l : List SV, SV.dens S E (SV.nrms S l) = SV.dens S E l
 | [] => by simp [SV.nrms, SV.dens]
 | x :: r => by simp [SV.nrms, SV.dens, SV.nrm_den S E x, SV.nrms_dens S E r]
end
theorem SV.nrm_size (S : Stat) (x : SV) : (x.nrm S).size = x.size := by
 have E : Env := ⟨fun _ => default, fun _ => default⟩
 rw [← SV.len S E, ← SV.len S E, SV.nrm_cells]
mutual
theorem SV.nrm_kall (S : Stat) (f : Nat → Bool) : ∀ x : SV, x.kall f = true → (x.nrm S).kall f = true
 | .foc j a x b, h => by
   unfold SV.nrm
   split
   · split
     · rfl
     · exact h
   · exact h
 | .fn _ a b, h => by
   have hc : SV.kalls f a = true ∧ SV.kalls f b = true := by simpa [SV.kall] using h
   simp [SV.nrm, SV.kall, SV.nrms_kalls S f a hc.1, SV.nrms_kalls S f b hc.2]
 | .agg l, h => by
   have hc : SV.kalls f l = true := by simpa [SV.kall] using h
   simp [SV.nrm, SV.kall, SV.nrms_kalls S f l hc]
 | .tup l, h => by
   have hc : SV.kalls f l = true := by simpa [SV.kall] using h
   simp [SV.nrm, SV.kall, SV.nrms_kalls S f l hc]
 | .kb _, h | .ki _ _, h | .ix _, h => by simp [SV.nrm, SV.kall]
 | .tab _, h | .mp _, h | .ptr _ _, h | .slc _ _ _ _, h | .slu _ _ _ _, h | .elt _ _ _ _, h | .slr _ _ _ _, h | .v _, h | .sl _, h | .rcd _, h | .rows _, h => by unfold SV.nrm; exact h
theorem SV.nrms_kalls (S : Stat) (f : Nat → Bool) : ∀ l : List SV, SV.kalls f l = true → SV.kalls f (SV.nrms S l) = true
 | [], h => by simp [SV.nrms, SV.kalls]
 | x :: r, h => by
   have hc : x.kall f = true ∧ SV.kalls f r = true := by simpa [SV.kalls] using h
   simp [SV.nrms, SV.kalls, SV.nrm_kall S f x hc.1, SV.nrms_kalls S f r hc.2]
end
def nrmH (S : Stat) : Heap → Heap
 | [] => []
 | (k, x) :: r => (k, x.nrm S) :: nrmH S r
theorem nrmH_get {S : Stat} : ∀ {H : Heap} {k : Nat}, (nrmH S H).get k = (H.get k).map (SV.nrm S)
 | [], k => rfl
 | (j, x) :: r, k => by
   simp only [nrmH, Heap.get]
   cases Nat.beq j k with
   | true => rfl
   | false => simpa using nrmH_get (H := r) (k := k)
theorem nrmH_some {S : Stat} {H : Heap} {k : Nat} {y : SV} (h : (nrmH S H).get k = some y) : ∃ x, H.get k = some x ∧ y = x.nrm S := by
 rw [nrmH_get] at h
 cases hx : H.get k with
 | none => rw [hx] at h; cases h
 | some x => rw [hx] at h; injection h with h; exact ⟨x, rfl, h.symm⟩
theorem SV.nrm_foOk {S : Stat} {x : SV} (h : x.foOk S) : (x.nrm S).foOk S := by
 cases x <;> first | trivial | skip
 unfold SV.nrm
 split
 · split
   · trivial
   · exact h
 · exact h
def specN (S : Stat) (g : SpecFn) : SpecFn := fun args H nx => g (SV.nrms S args) (nrmH S H) nx
theorem specN_ok {S : Stat} {win : List (Nat × Nat × Nat × Nat)} {f : FuncId} {g : SpecFn} (h : SpecOk S win f g) : SpecOk S win f (specN S g) := by
 intro args H nx v H' nx' hs
 obtain ⟨hfn, hc⟩ := h _ _ _ _ _ _ hs
 refine ⟨hfn, fun E w hH hw hwb hb => ?_⟩
 have hN : HS S E (nrmH S H) w := by
   refine ⟨fun k y hk hp => ?_, fun k y hk hp hnt hr => ?_, fun k k' y y' hne hk hk' hp hp' hr => ?_, fun k y hk => ?_⟩
   · obtain ⟨x, hx, rfl⟩ := nrmH_some hk
     rw [SV.nrm_cells]; rw [SV.nrm_size] at hp; exact hH.at_ k x hx hp
   · obtain ⟨x, hx, rfl⟩ := nrmH_some hk
     rw [SV.nrm_size] at hp; rw [SV.nrm_cells] at hnt; exact hH.wr k x hx hp hnt hr
   · obtain ⟨x, hx, rfl⟩ := nrmH_some hk
     obtain ⟨x', hx', rfl⟩ := nrmH_some hk'
     rw [SV.nrm_size] at hp hp' ⊢
     rw [SV.nrm_size]
     exact hH.dis k k' x x' hne hx hx' hp hp' hr
   · obtain ⟨x, hx, rfl⟩ := nrmH_some hk
     exact SV.nrm_foOk (hH.fo k x hx)
 have hM : ∀ b j, MH S E (nrmH S H) b j → MH S E H b j := by
   rintro b j ⟨k, y, hk, h2, h3, h4, h5⟩
   obtain ⟨x, hx, rfl⟩ := nrmH_some hk
   rw [SV.nrm_size] at h5
   exact ⟨k, x, hx, h2, h3, h4, h5⟩
 have := hc E w hN hw hwb fun k y hk => by
   obtain ⟨x, hx, rfl⟩ := nrmH_some hk
   obtain ⟨b1, b2⟩ := hb k x hx
   exact ⟨b1, SV.nrm_kall S _ x b2⟩
 rw [SV.nrms_dens] at this
 refine this.mono ?_
 rintro e w' ⟨E', hu, hle, rfl, hs1, hfr, hown⟩
 exact ⟨E', hu, hle, rfl, hs1, hfr.mono fun b j _ h => hM b j h, fun k x hk hr => (hown k x hk hr).imp id fun h j hj => hM _ _ (h j hj)⟩
noncomputable def spc (g : CanonFn) (S : Stat) : SpecFn := specN S (lift g S.ro 3)
theorem spc_ok {f : FuncId} {g : CanonFn} (h : CanonOk f g) (S : Stat) : SpecOk S [] f (spc g S) := specN_ok (lift_ok h S 3)
noncomputable def fnOf (f : Nat) : Func := (Tryz.prog.funcs[f]?).getD default
noncomputable def codeOf (f : Nat) : Code := (fnOf f).body.getD .skip
noncomputable def lpOf (f i : Nat) : Code := loopAt (codeOf f) i
def distinct : List Nat → Bool
 | [] => true
 | x :: r => !(hasN r x) && distinct r
theorem lookG_at : ∀ {l : List (Nat × LoopFn)} {i k : Nat} {g : LoopFn}, distinct (l.map (·.1)) = true → l[i]? = some (k, g) → lookG l k = g
 | [], i, k, g, _, h => by simp at h
 | (q, g') :: r, 0, k, g, _, h => by
   simp only [List.getElem?_cons_zero, Option.some.injEq, Prod.mk.injEq] at h
   obtain ⟨rfl, rfl⟩ := h
   funext st
   simp [lookG]
 | (q, g') :: r, i + 1, k, g, hd, h => by
   simp only [List.map_cons, distinct, Bool.and_eq_true, Bool.not_eq_true'] at hd
   rw [List.getElem?_cons_succ] at h
   have hne : Nat.beq q k = false := by
     cases hb : Nat.beq q k with
     | false => rfl
     | true =>
       have := Nat.eq_of_beq_eq_true hb; subst this
       have hm : q ∈ r.map (·.1) := List.mem_map.2 ⟨(q, g), List.mem_of_getElem? h, rfl⟩
       exact absurd hm (hasN_false hd.1)
   funext st
   simp only [lookG, hne, cond_false]
   rw [lookG_at hd.2 h]
theorem good_loops {mk : Stat → Ctx} (hm : Fam mk) {f : Nat} (S : Stat) (l : List (Nat × LoopFn)) (hids : (loopsOf (codeOf f)).map firstId = l.map (·.1)) (hd : distinct (l.map (·.1)) = true)
   (h : ∀ i k g, l[i]? = some (k, g) → LoopOk Tryz.prog (withLoops (mk S) l) (fnOf f).ntmps (lpOf f i) g) : GoodCtx (withLoops (mk S) l) (fnOf f) := by
 refine ⟨withLoops_full (hm.full S) l, hm.win S, fun code hc => LoopsOk.of fun i hi => ?_⟩
 have hcode : codeOf f = code := by unfold codeOf; rw [hc]; rfl
 rw [← hcode] at hi ⊢
 have hlen : i < l.length := by have := congrArg List.length hids; simp at this; omega
 have hk : firstId (loopAt (codeOf f) i) = (l[i]).1 := by
   have h1 : ((loopsOf (codeOf f)).map firstId)[i]? = (l.map (·.1))[i]? := by rw [hids]
   rw [List.getElem?_map, List.getElem?_map, List.getElem?_eq_getElem hi, List.getElem?_eq_getElem hlen] at h1
   simp only [Option.map_some, Option.some.injEq] at h1
   unfold loopAt
   rw [List.getElem?_eq_getElem hi]
   exact h1
 have hg : l[i]? = some ((l[i]).1, (l[i]).2) := List.getElem?_eq_getElem hlen
 have := h i _ _ hg
 rw [hk]
 show LoopOk _ _ _ _ (lookG l (l[i]).1)
 rw [lookG_at hd hg]
 exact this
theorem good_none {mk : Stat → Ctx} (hm : Fam mk) {f : Nat} (S : Stat) : GoodCtx (mk S) (fnOf f) := ⟨hm.full S, hm.win S, fun _ _ => LoopsOk.none (hm.loop S) _⟩
theorem fnOf_eq {f : Nat} {fn : Func} (h : Tryz.prog.funcs[f]? = some fn) : Tryz.prog.funcs[f]? = some (fnOf f) := by unfold fnOf; rw [h]; rfl
def Stat.rd (S : Stat) (i : Int) (m : Nat) : Stat := { sl := S.sl, ix := fun _ => i, ro := fun k => Nat.blt k m }
def Stat.wt (S : Stat) (i : Int) : Stat := { sl := S.sl, ix := fun _ => i, ro := fun _ => false }
theorem canon_rd {mk : Stat → Ctx} (hm : Fam mk) {f : FuncId} {fn : Func} (hf : Tryz.prog.funcs[f]? = some fn) (hname : ((fnOf f).name == "runtime.NumGoroutine") = false) {g : CanonFn} (l : List (Nat × LoopFn)) (hids : (loopsOf (codeOf f)).map firstId = l.map (·.1)) (hd : distinct (l.map (·.1)) = true)
   (m0 : Nat) (hl : ∀ (S : Stat) i k g, l[i]? = some (k, g) → LoopOk Tryz.prog (withLoops (mk (S.rd 0 m0)) l) (fnOf f).ntmps (lpOf f i) g)
   (h : ∀ (S : Stat) args H m r, (g S.ro args H m).sel = some r → r.2.1 = H ∧ r.2.2 = m ∧ ∀ E, ∃ (S' : Stat) (fuel : Nat) (args0 : List SV) (H0 : Heap) (v : SV), (H0.all fun e => Nat.blt e.1 m0) = true ∧
     (valF m0 (inline (withLoops (mk (S'.rd 0 m0)) l) fuel (fnOf f) args0 H0 m0)).sel = some v ∧ SV.dens S E args = SV.dens (S'.rd 0 m0) E args0 ∧ ReHeap H S (S'.rd 0 m0) E H0 ∧ v.den (S'.rd 0 m0) E = r.1.den S E) : CanonOk f g := by
 refine canon_read (fnOf_eq hf) hname ?_
 intro S args H m r hr
 obtain ⟨h1, h2, hE⟩ := h S args H m r hr
 refine ⟨h1, h2, fun E => ?_⟩
 obtain ⟨S', fuel, args0, H0, v0, hro, hq, hargs, hre, hv⟩ := hE E
 obtain ⟨⟨v, H1, m1⟩, hrun, hb, he⟩ := valF_sel hq
 subst he
 have hS : (withLoops (mk (S'.rd 0 m0)) l).S = S'.rd 0 m0 := hm.S _
 refine ⟨_, fuel, args0, H0, m0, v0, H1, m1, good_loops hm (S'.rd 0 m0) l hids hd (fun i k g hg => hl S' i k g hg), fun k x hk => ?_, hrun, by rw [hS]; exact hargs, by rw [hS]; exact hre, fun E' hu => ?_⟩
 · rw [hS]; exact heap_all hro hk
 · rw [hS, SV.den_upto _ hu v0 hb]; exact hv
theorem canon_wt {mk : Stat → Ctx} (hm : Fam mk) {f : FuncId} {fn : Func} (hf : Tryz.prog.funcs[f]? = some fn) (hname : ((fnOf f).name == "runtime.NumGoroutine") = false) {g : CanonFn} (l : List (Nat × LoopFn)) (hids : (loopsOf (codeOf f)).map firstId = l.map (·.1)) (hd : distinct (l.map (·.1)) = true)
   (m0 : Nat) (hl : ∀ (S : Stat) i k g, l[i]? = some (k, g) → LoopOk Tryz.prog (withLoops (mk (S.wt 0)) l) (fnOf f).ntmps (lpOf f i) g)
   (h : ∀ (S : Stat) args H m r, (g S.ro args H m).sel = some r → bndH m H = true ∧ bndH m r.2.1 = true ∧ r.1.bnd m = true ∧ r.2.2 = m ∧ ∀ E, ∃ (S' : Stat) (fuel : Nat) (args0 : List SV) (H0 : Heap) (q : SV × Heap × Nat), (H0.all fun e => !(S.ro e.1)) = true ∧
     (trimF m0 (inline (withLoops (mk (S'.wt 0)) l) fuel (fnOf f) args0 H0 m0)).sel = some q ∧ bndH m0 q.2.1 = true ∧ SV.dens S E args = SV.dens (S'.wt 0) E args0 ∧ ReHeap H S (S'.wt 0) E H0 ∧ q.1.den (S'.wt 0) E = r.1.den S E ∧
     ∀ k x', r.2.1.get k = some x' → (∃ x, q.2.1.get k = some x ∧ x.cells (S'.wt 0) E = x'.cells S E ∧ x'.foOk S) ∨ (H.get k = some x' ∧ H0.get k = none)) : CanonOk f g := by
 refine canon_write (fnOf_eq hf) hname ?_
 intro S args H m r hr
 obtain ⟨h1, h1', hvb, h2, hE⟩ := h S args H m r hr
 refine ⟨h1, by omega, fun E => ?_⟩
 obtain ⟨S', fuel, args0, H0, q, hro, hq, hqb, hargs, hre, hv, hc⟩ := hE E
 obtain ⟨⟨v, H1, m1⟩, hrun, hb, he⟩ := trimF_sel hq
 subst he
 have hS : (withLoops (mk (S'.wt 0)) l).S = S'.wt 0 := hm.S _
 refine ⟨_, fuel, args0, H0, m0, v, H1, m1, good_loops hm (S'.wt 0) l hids hd (fun i k g hg => hl S' i k g hg), fun k => by rw [hS]; rfl, fun k x hk => by have := heap_all hro hk; simpa using this, hrun, by rw [hS]; exact hargs, by rw [hS]; exact hre, fun E' hu => ⟨?_, fun k x' hk => ?_⟩⟩
 · rw [hS, SV.den_upto _ hu v hb, SV.den_upto S (Env.glue_upto m m0 E E') r.1 hvb]; exact hv
 · have hkb := heap_all h1' hk
   simp only [Bool.and_eq_true] at hkb
   rcases hc k x' hk with ⟨x, hx, hcc, hff⟩ | h
   · have hkx := heap_all hqb hx
     simp only [Bool.and_eq_true] at hkx
     have e1 : k < m := by simpa using hkb.1
     have e2 : k < m0 := by simpa using hkx.1
     refine .inl ⟨.inl ⟨e1, e2⟩, x, by rw [show kOf m m0 k = k from by simp [kOf, e1]]; exact keepH_get hx, ?_⟩
     refine ⟨?_, hff⟩
     rw [hS, SV.cells_upto _ hu x hkx.2, SV.cells_upto S (Env.glue_upto m m0 E E') x' hkb.2]
     exact hcc
   · exact .inr h
def chk {α : Type} : List Bool → Out α → Out α → Out α
 | [], _, b => b
 | c :: r, a, b => .ite c a (chk r a b)
theorem chk_sel {α : Type} (a b : Out α) : ∀ l : List Bool, (chk l a b).sel = if l.any id = true then a.sel else b.sel
 | [] => by simp [chk]
 | c :: r => by cases c <;> simp [chk, Out.sel, chk_sel a b r]
theorem runL_any {α : Type} {stp : Nat → α → Unit → Step Unit} {fin : Unit → Ex × St} {bad : α → Bool} {e : Ex} {s : St} (h : ∀ i a, stp i a () = if bad a = true then .out e s else .go ()) : ∀ (l : List α) (i : Nat), runL stp fin l i () = if l.any bad = true then (e, s) else fin ()
 | [], i => by simp [runL]
 | a :: r, i => by
   rw [runL, h]
   cases hb : bad a with
   | true => simp [hb]
   | false => simp [hb, runL_any h r (i + 1)]
theorem dens_nil (S S' : Stat) (E E' : Env) : SV.dens S E [] = SV.dens S' E' [] := by simp [SV.dens]
theorem dens_cons {S S' : Stat} {E E' : Env} {x y : SV} {l r : List SV} (h : x.den S E = y.den S' E') (hl : SV.dens S E l = SV.dens S' E' r) : SV.dens S E (x :: l) = SV.dens S' E' (y :: r) := by simp [SV.dens, h, hl]
def Out.els {α : Type} : Out α → Option (Bool × Out α)
 | .ite b _ e => some (b, e)
 | _ => none
theorem Out.els_sel {α : Type} {o e : Out α} {b : Bool} (h : o.els = some (b, e)) (hb : b = false) : o.sel = e.sel := by
 cases o with
 | ite c t f =>
   simp only [Out.els, Option.some.injEq, Prod.mk.injEq] at h
   obtain ⟨rfl, rfl⟩ := h
   subst hb
   rfl
 | ret x => cases h
 | bad => cases h
noncomputable def inl (c : Ctx) (fuel f : Nat) : SpecFn := fun args H nx => inline c fuel (fnOf f) args H nx
theorem inl_ok {S : Stat} {c : Ctx} (hc : CtxFull Tryz.prog c) (hS : c.S = S) (hwin : c.win = []) (hloop : ∀ q st, c.loop q st = none) {fuel f : Nat} {fn : Func} (hf : Tryz.prog.funcs[f]? = some fn) (hname : ((fnOf f).name == "runtime.NumGoroutine") = false) : SpecOk S [] f (inl c fuel f) := by
 intro args H nx v H' nx' h
 obtain ⟨h1, h2⟩ := walk_ok (fnOf_eq hf) hname hc hS hwin (fun code _ => LoopsOk.none hloop code) (show (inline c fuel (fnOf f) args H nx).sel = some (v, H', nx') from h)
 exact ⟨h1, fun E w hs _ _ _ => h2 E w hs⟩
end Go.Proofs.YtjemfkoamfnofaaGreat
