import Derived.Test.YtjemfkoamfnofaaGreatBase
set_option linter.unusedVariables false
namespace Go.Proofs.YtjemfkoamfnofaaGreat
open Go Go.RowKit
def asInt : SV → Option (IntKind × Int)
 | .ki k n => some (k, n)
 | .v (.int k n) => some (k, n)
 | _ => none
def asBool : SV → Option Bool
 | .kb b => some b
 | .v (.bool b) => some b
 | _ => none
def joinRec (b : Bool) : Rec → Rec → Option Rec
 | .vec x, .vec y => some (.vec (if b = true then x else y))
 | .times x, .times y => some (.times (if b = true then x else y))
 | .clocks x, .clocks y => some (.clocks (if b = true then x else y))
 | .states x, .states y => some (.states (if b = true then x else y))
 | .flags x, .flags y => some (.flags (if b = true then x else y))
 | .msg x, .msg y => some (.msg (if b = true then x else y))
 | .port x, .port y => some (.port (if b = true then x else y))
 | _, _ => none
def joinTwo (b : Bool) (x y : SV) : Option SV :=
 match asInt x, asInt y with
 | some (k, n), some (k', m) => bif k == k' then some (.v (.int k (if b = true then n else m))) else none
 | _, _ => match asBool x, asBool y with
   | some p, some q => some (.v (.bool (if b = true then p else q)))
   | _, _ => match x, y with
     | .rcd r, .rcd s => (match joinRec b r s with | some t => some (.rcd t) | none => none)
     | _, _ => none
theorem joinRec_ok {b : Bool} {x y z : Rec} (h : joinRec b x y = some z) : z = if b = true then x else y := by
 unfold joinRec at h
 split at h <;> first | cases h | skip
 all_goals (cases b <;> rfl)
def joinAll : Out (SV × Heap × Nat) → Option SV
 | .ret r => some r.1
 | .ite b t e => match joinAll t, joinAll e with
   | some x, some y => joinTwo b x y
   | _, _ => none
 | .bad => none
theorem asInt_den {x : SV} {k : IntKind} {n : Int} (h : asInt x = some (k, n)) (S : Stat) (E : Env) : x.den S E = .int k n := by
 unfold asInt at h
 split at h
 · injection h with h; injection h with h1 h2; subst h1 h2; rfl
 · injection h with h; injection h with h1 h2; subst h1 h2; rfl
 · cases h
theorem asBool_den {x : SV} {b : Bool} (h : asBool x = some b) (S : Stat) (E : Env) : x.den S E = .bool b := by
 unfold asBool at h
 split at h
 · injection h with h; subst h; rfl
 · injection h with h; subst h; rfl
 · cases h
theorem joinTwo_den {b : Bool} {x y z : SV} (h : joinTwo b x y = some z) (S : Stat) (E : Env) : z.den S E = if b = true then x.den S E else y.den S E := by
 unfold joinTwo at h
 split at h
 · rename_i k n k' m hx hy
   cases hb : (k == k') with
   | false => rw [hb] at h; cases h
   | true =>
     rw [hb] at h
     simp only [cond_true, Option.some.injEq] at h
     subst h
     have := beq_iff_eq.1 hb; subst this
     rw [asInt_den hx, asInt_den hy]
     cases b <;> rfl
 · split at h
   · rename_i p q hx hy
     injection h with h; subst h
     rw [asBool_den hx, asBool_den hy]
     cases b <;> rfl
   · split at h
     · split at h
       · rename_i t ht
         injection h with h; subst h
         rw [joinRec_ok ht]
         cases b <;> rfl
       · cases h
     · cases h
theorem joinAll_sel : ∀ {o : Out (SV × Heap × Nat)} {y : SV}, joinAll o = some y → ∃ r, o.sel = some r ∧ ∀ S E, r.1.den S E = y.den S E
 | .ret r, y, h => by
   injection h with h; subst h
   exact ⟨r, rfl, fun _ _ => rfl⟩
 | .ite b t e, y, h => by
   unfold joinAll at h
   split at h
   · rename_i x1 x2 h1 h2
     obtain ⟨r1, e1, d1⟩ := joinAll_sel h1
     obtain ⟨r2, e2, d2⟩ := joinAll_sel h2
     cases b with
     | true => exact ⟨r1, by simpa [Out.sel] using e1, fun S E => by rw [joinTwo_den h, d1]; rfl⟩
     | false => exact ⟨r2, by simpa [Out.sel] using e2, fun S E => by rw [joinTwo_den h, d2]; rfl⟩
   · cases h
 | .bad, y, h => by cases h
def joinT : Out (SV × Heap × Nat) → Option (SV × Option Bool)
 | .ret r => some (r.1, none)
 | .ite b t e => match e with
   | .bad => (match joinT t with
     | some (y, none) => some (y, some b)
     | some (y, some c) => some (y, some (b && c))
     | none => none)
   | e => (match joinT t, joinT e with
     | some (x, none), some (y, none) => (match joinTwo b x y with | some z => some (z, none) | none => none)
     | _, _ => none)
 | .bad => none
theorem joinT_sel : ∀ {o : Out (SV × Heap × Nat)} {y : SV} {cd : Option Bool}, joinT o = some (y, cd) → okC cd = true → ∃ r, o.sel = some r ∧ ∀ S E, r.1.den S E = y.den S E
 | .ret r, y, cd, h, hc => by
   obtain ⟨rfl, rfl⟩ := Prod.mk.inj (Option.some.inj h)
   exact ⟨r, rfl, fun _ _ => rfl⟩
 | .ite b t e, y, cd, h, hc => by
   unfold joinT at h
   split at h
   · split at h
     · rename_i y' h1
       obtain ⟨rfl, rfl⟩ := Prod.mk.inj (Option.some.inj h)
       obtain ⟨r1, e1, d1⟩ := joinT_sel h1 rfl
       have hb : b = true := hc
       subst hb
       exact ⟨r1, by simpa [Out.sel] using e1, d1⟩
     · rename_i y' c h1
       obtain ⟨rfl, rfl⟩ := Prod.mk.inj (Option.some.inj h)
       have hb : (b && c) = true := hc
       simp only [Bool.and_eq_true] at hb
       obtain ⟨r1, e1, d1⟩ := joinT_sel h1 (show okC (some c) = true from hb.2)
       rw [hb.1]
       exact ⟨r1, by simpa [Out.sel] using e1, d1⟩
     · cases h
   · split at h
     · rename_i x1 x2 h1 h2
       split at h
       · rename_i z hz
         obtain ⟨rfl, rfl⟩ := Prod.mk.inj (Option.some.inj h)
         obtain ⟨r1, e1, d1⟩ := joinT_sel h1 rfl
         obtain ⟨r2, e2, d2⟩ := joinT_sel h2 rfl
         cases b with
         | true => exact ⟨r1, by simpa [Out.sel] using e1, fun S E => by rw [joinTwo_den hz, d1]; rfl⟩
         | false => exact ⟨r2, by simpa [Out.sel] using e2, fun S E => by rw [joinTwo_den hz, d2]; rfl⟩
       · cases h
     · cases h
 | .bad, y, cd, h, hc => by cases h
noncomputable def autoRead (mk : Stat → Ctx) (S : Stat) (win : List (Nat × Nat × Nat × Nat)) (depth fuel f : Nat) : ReadFn := fun args H nx =>
 match Tryz.prog.funcs[f]? with
 | some fn =>
   bif fn.name == "runtime.NumGoroutine" then none else
   (let ks := closure H depth (SV.keyss args)
    let sub := heapOf ks H
    bif SV.bnds nx args && ((sub.all fun e => Nat.blt e.1 nx && e.2.bnd nx) && win.all fun q => Nat.blt q.2.2.1 nx) then
     (match joinT (inline (mk (S.still nx)) fuel fn args sub nx) with
     | some (y, cd) => bif y.bnd nx then some (y, ks, cd) else none
     | none => none)
    else none)
 | none => none
theorem autoRead_ok {mk : Stat → Ctx} {S : Stat} {win : List (Nat × Nat × Nat × Nat)} (hmk : ∀ S', S'.sl = S.sl → S'.ix = S.ix → CtxFull Tryz.prog (mk S') ∧ (mk S').S = S' ∧ (mk S').win = win ∧ ∀ q st, (mk S').loop q st = none) {depth fuel f : Nat} : ReadOk S win f (autoRead mk S win depth fuel f) := by
 intro args H nx y ks cd h hcd
 unfold autoRead at h
 split at h
 · rename_i fn hfn
   cases hb : (fn.name == "runtime.NumGoroutine") with
   | true => rw [hb] at h; cases h
   | false =>
     rw [hb] at h
     simp only [cond_false] at h
     cases hg : (SV.bnds nx args && (((heapOf (closure H depth (SV.keyss args)) H).all fun e => Nat.blt e.1 nx && e.2.bnd nx) && win.all fun q => Nat.blt q.2.2.1 nx)) with
     | false => rw [hg] at h; cases h
     | true =>
       rw [hg] at h
       simp only [cond_true] at h
       simp only [Bool.and_eq_true] at hg
       split at h
       · rename_i y' cd' hy
         cases hyb : y'.bnd nx with
         | false => rw [hyb] at h; cases h
         | true =>
           rw [hyb] at h
           simp only [cond_true, Option.some.injEq, Prod.mk.injEq] at h
           obtain ⟨rfl, rfl, rfl⟩ := h
           obtain ⟨r, hr, hden⟩ := joinT_sel hy hcd
           obtain ⟨v, H', nx'⟩ := r
           have hbody : fn.body.isNone = false := by
             unfold inline at hr
             split at hr
             · cases hr
             · rename_i code hc; rw [hc]; rfl
           refine ⟨⟨fn, hfn, hbody, hb⟩, fun E w hat hwin => ?_⟩
           obtain ⟨hc, hS, hW, hL⟩ := hmk (S.still nx) rfl rfl
           have hwin' : WinOk (mk (S.still nx)).S (mk (S.still nx)).win E := by rw [hS, hW]; exact hwin
           have hs : HS (mk (S.still nx)).S E (heapOf (closure H depth (SV.keyss args)) H) w := by
             rw [hS]
             refine ⟨fun k x hk hxp => ?_, fun k x hk _ _ hro => ?_, fun k k' x x' _ hk _ _ _ hro => ?_, fun k x hk => ?_⟩
             · obtain ⟨h1, h2⟩ := heapOf_get hk
               rw [SV.cells_stat (S := S.still nx) (S' := S) rfl rfl]
               exact (hat k x h2 h1).1 hxp
             · have := heap_all hg.2.1 hk
               simp only [Bool.and_eq_true] at this
               rw [show (S.still nx).ro k = Nat.blt k nx from rfl, this.1] at hro
               cases hro
             · have := heap_all hg.2.1 hk
               simp only [Bool.and_eq_true] at this
               rw [show (S.still nx).ro k = Nat.blt k nx from rfl, this.1] at hro
               cases hro
             · obtain ⟨h1, h2⟩ := heapOf_get hk
               exact SV.foOk_stat (S := S) (S' := S.still nx) rfl (hat k x h2 h1).2
           have := inline_ok (P := Tryz.prog) hc (fun n => draw_ok hc) hfn (fun code _ => LoopsOk.none hL code) hr (E := E) (w := w) hs hwin' (by
             rw [hW]; intro n j k z hm
             have := List.all_eq_true.1 hg.2.2 _ hm
             simpa using this)
           rw [hS] at this
           rw [SV.dens_stat (S' := S) (S := S.still nx) rfl rfl] at this
           refine this.mono ?_
           rintro e w' ⟨E', hu, hle, rfl, hs', hfr, hown⟩
           refine ⟨?_, hfr.mono fun b j _ hm => ?_⟩
           · rw [hden (S.still nx) E', SV.den_upto _ hu y' hyb, SV.den_stat (S' := S) (S := S.still nx) rfl rfl]
           · obtain ⟨k, x, hk, hro, _⟩ := hm
             have := heap_all hg.2.1 hk
             simp only [Bool.and_eq_true] at this
             rw [show (S.still nx).ro k = Nat.blt k nx from rfl, this.1] at hro
             cases hro
       · cases h
 · cases h
noncomputable def specRead (g : Stat → SpecFn) (S : Stat) (depth : Nat) : ReadFn := fun args H nx =>
   (let ks := closure H depth (SV.keyss args)
    let sub := heapOf ks H
    bif SV.bnds nx args && (sub.all fun e => Nat.blt e.1 nx && e.2.bnd nx) then
     (match joinT (g (S.still nx) args sub nx) with
     | some (y, cd) => bif y.bnd nx then some (y, ks, cd) else none
     | none => none)
    else none)
theorem specRead_ok {g : Stat → SpecFn} {S : Stat} {f : FuncId} (hg : ∀ S', SpecOk S' [] f (g S')) (depth : Nat) : ReadOk S [] f (specRead g S depth) := by
 intro args H nx y ks cd h hcd
 unfold specRead at h
 cases hb : (SV.bnds nx args && ((heapOf (closure H depth (SV.keyss args)) H).all fun e => Nat.blt e.1 nx && e.2.bnd nx)) with
 | false => simp only [hb] at h; cases h
 | true =>
   simp only [hb, cond_true] at h
   simp only [Bool.and_eq_true] at hb
   split at h
   · rename_i y' cd' hy
     cases hyb : y'.bnd nx with
     | false => rw [hyb] at h; cases h
     | true =>
       rw [hyb] at h
       simp only [cond_true, Option.some.injEq, Prod.mk.injEq] at h
       obtain ⟨rfl, rfl, rfl⟩ := h
       obtain ⟨r, hr, hden⟩ := joinT_sel hy hcd
       obtain ⟨v, H', nx'⟩ := r
       obtain ⟨hfn, hcall⟩ := hg (S.still nx) args (heapOf (closure H depth (SV.keyss args)) H) nx v H' nx' hr
       refine ⟨hfn, fun E w hat hwin => ?_⟩
       have hs : HS (S.still nx) E (heapOf (closure H depth (SV.keyss args)) H) w := by
         refine ⟨fun k x hk hxp => ?_, fun k x hk _ _ hro => ?_, fun k k' x x' _ hk _ _ _ hro => ?_, fun k x hk => ?_⟩
         · obtain ⟨h1, h2⟩ := heapOf_get hk
           rw [SV.cells_stat (S := S.still nx) (S' := S) rfl rfl]
           exact (hat k x h2 h1).1 hxp
         · have := heap_all hb.2 hk
           simp only [Bool.and_eq_true] at this
           rw [show (S.still nx).ro k = Nat.blt k nx from rfl, this.1] at hro
           cases hro
         · have := heap_all hb.2 hk
           simp only [Bool.and_eq_true] at this
           rw [show (S.still nx).ro k = Nat.blt k nx from rfl, this.1] at hro
           cases hro
         · obtain ⟨h1, h2⟩ := heapOf_get hk
           exact SV.foOk_stat (S := S) (S' := S.still nx) rfl (hat k x h2 h1).2
       have := hcall E w hs (fun n j k z hm => by cases hm) (fun n j k z hm => by cases hm) (fun k x hk => by
         have := heap_all hb.2 hk
         simp only [Bool.and_eq_true] at this
         exact ⟨by simpa using this.1, this.2⟩)
       rw [SV.dens_stat (S' := S) (S := S.still nx) rfl rfl] at this
       refine this.mono ?_
       rintro e w' ⟨E', hu, hle, rfl, hs', hfr, hown⟩
       refine ⟨?_, hfr.mono fun b j _ hm => ?_⟩
       · rw [hden (S.still nx) E', SV.den_upto _ hu y' hyb, SV.den_stat (S' := S) (S := S.still nx) rfl rfl]
       · obtain ⟨k, x, hk, hro, _⟩ := hm
         have := heap_all hb.2 hk
         simp only [Bool.and_eq_true] at this
         rw [show (S.still nx).ro k = Nat.blt k nx from rfl, this.1] at hro
         cases hro
   · cases h
end Go.Proofs.YtjemfkoamfnofaaGreat
