import Derived.Test.YtjemfkoamfnofaaGreatEq
import Derived.Test.YtjemfkoamfnofaaGreatDraw3
set_option linter.unusedVariables false
namespace Go.Proofs.YtjemfkoamfnofaaGreat
open Go Go.RowKit
def eqb (t : TypeId) (x y : SV) : Option Bool :=
 match x, y with
 | .rcd r, .rcd q => (match tys t with
   | some ⟨_, .strct _, _⟩ => bif matchTy 64 t r.cells q.cells then r.same q else none
   | _ => none)
 | .fn _ _ _, .v .nilFunc => (match tys t with | some ⟨_, .func, _⟩ => some false | _ => none)
 | .v .nilFunc, .v .nilFunc => (match tys t with | some ⟨_, .func, _⟩ => some true | _ => none)
 | .ptr _ _, .v (.pointer none) => (match tys t with | some ⟨_, .ptr _, _⟩ => some false | _ => none)
 | .v (.pointer none), .v (.pointer none) => (match tys t with | some ⟨_, .ptr _, _⟩ => some true | _ => none)
 | _, _ => none
theorem shape_func {u : TypeDesc} (h : shapeOf u = .func) : ∃ a b c, u = .func a b c := by
 cases u <;> simp only [shapeOf, reduceCtorEq] at h
 exact ⟨_, _, _, rfl⟩
theorem shape_ptr {u : TypeDesc} {e : TypeId} (h : shapeOf u = .ptr e) : u = .pointer e := by
 cases u <;> simp only [shapeOf, reduceCtorEq, Sh.ptr.injEq] at h
 rw [h]
section
variable {P : Program} {t : TypeId} (w : World) (d : Nat)
theorem eqn_fn {a b : Array TypeId} {c : Bool} (hu : P.underlying t = some (.func a b c)) (f : Fn) (l r : Array Value) : (Op.equalIn (d + 1) t (.func f l r) .nilFunc).run P w = .ok false w := by simp [Op.equalIn, run_underlying hu]
theorem eqn_nn {a b : Array TypeId} {c : Bool} (hu : P.underlying t = some (.func a b c)) : (Op.equalIn (d + 1) t .nilFunc .nilFunc).run P w = .ok true w := by simp [Op.equalIn, run_underlying hu]
theorem eqn_pn {e : TypeId} (hu : P.underlying t = some (.pointer e)) (a : Addr) : (Op.equalIn (d + 1) t (.pointer (some a)) (.pointer none)).run P w = .ok false w := by simp [Op.equalIn, run_underlying hu]
theorem eqn_np {e : TypeId} (hu : P.underlying t = some (.pointer e)) : (Op.equalIn (d + 1) t (.pointer none) (.pointer none)).run P w = .ok true w := by simp [Op.equalIn, run_underlying hu]
theorem eqg_fn (op : BinOp) (ox oy : Operand) (f : Fn) (l r : Array Value) (v : Value) : eqGuard op t ox oy (.func f l r) v = pure () := by cases op <;> rfl
theorem eqg_n (op : BinOp) (ox oy : Operand) (v : Value) : eqGuard op t ox oy .nilFunc v = pure () := by cases op <;> rfl
theorem eqg_p (op : BinOp) (ox oy : Operand) (a : Option Addr) (v : Value) : eqGuard op t ox oy (.pointer a) v = pure () := by cases op <;> rfl
end
theorem eqb_ok (S : Stat) (t : TypeId) (x y : SV) (b : Bool) (h : eqb t x y = some b) (E : Env) (ox oy : Operand) (w : World) :
   (do eqGuard .eql t ox oy (x.den S E) (y.den S E); binOp .eql t (x.den S E) (y.den S E)).run Tryz.prog w = .ok (.bool b) w ∧
   (do eqGuard .neq t ox oy (x.den S E) (y.den S E); binOp .neq t (x.den S E) (y.den S E)).run Tryz.prog w = .ok (.bool (!b)) w := by
 unfold eqb at h
 split at h
 · rename_i r q
   split at h
   · rename_i z fs zero ht
     cases hm : matchTy 64 t r.cells q.cells with
     | false => rw [hm] at h; cases h
     | true =>
       rw [hm] at h
       simp only [cond_true] at h
       obtain ⟨b', hb', h1, h2⟩ := eq_rec ht rfl hm ox oy w
       have : b = b' := by
         rw [Bool.eq_iff_iff, Rec.same_ok h, hb']
       subst this
       exact ⟨h1, h2⟩
   · cases h
 · split at h
   · rename_i z zero ht
     injection h with h; subst h
     obtain ⟨i, u, hi, hu, hsz, hsh⟩ := (tys_ok _ _ ht).info
     obtain ⟨a, b, c, rfl⟩ := shape_func hsh
     constructor <;> (simp only [SV.den, eqg_fn, binOp, Op.equal, Op.maxDepth]; simp [eqn_fn (P := Tryz.prog) w 9999 hu _ _ _])
   · cases h
 · split at h
   · rename_i z zero ht
     injection h with h; subst h
     obtain ⟨i, u, hi, hu, hsz, hsh⟩ := (tys_ok _ _ ht).info
     obtain ⟨a, b, c, rfl⟩ := shape_func hsh
     constructor <;> (simp only [SV.den, eqg_n, binOp, Op.equal, Op.maxDepth]; simp [eqn_nn (P := Tryz.prog) w 9999 hu])
   · cases h
 · split at h
   · rename_i z e zero ht
     injection h with h; subst h
     obtain ⟨i, u, hi, hu, hsz, hsh⟩ := (tys_ok _ _ ht).info
     have := shape_ptr hsh; subst this
     constructor <;> (simp only [SV.den, eqg_p, binOp, Op.equal, Op.maxDepth]; simp [eqn_pn (P := Tryz.prog) w 9999 hu _])
   · cases h
 · split at h
   · rename_i z e zero ht
     injection h with h; subst h
     obtain ⟨i, u, hi, hu, hsz, hsh⟩ := (tys_ok _ _ ht).info
     have := shape_ptr hsh; subst this
     constructor <;> (simp only [SV.den, eqg_p, binOp, Op.equal, Op.maxDepth]; simp [eqn_np (P := Tryz.prog) w 9999 hu])
   · cases h
 · cases h
abbrev PureFn := List SV → Option SV
abbrev ReadFn := List SV → Heap → Nat → Option (SV × List Nat × Option Bool)
def pureR (g : PureFn) : ReadFn := fun args _ _ => match g args with | some y => some (y, [], none) | none => none
abbrev SpecFn := List SV → Heap → Nat → Out (SV × Heap × Nat)
def lookP : List (Nat × ReadFn) → Nat → List SV → Heap → Nat → Option (SV × List Nat × Option Bool)
 | [], _, _, _, _ => none
 | (k, g) :: r, f, args, H, nx => bif Nat.beq k f then g args H nx else lookP r f args H nx
def lookS : List (Nat × SpecFn) → Nat → Option SpecFn
 | [], _ => none
 | (k, g) :: r, f => bif Nat.beq k f then some g else lookS r f
def PureOk (S : Stat) (f : FuncId) (g : PureFn) : Prop := ∀ args y, g args = some y → FnIn Tryz.prog f ∧ ∀ E w, Calls Tryz.prog f (SV.dens S E args).toArray w fun e w' =>
 e = .returned (y.den S E) ∧ Fr w w' (fun _ _ => False)
def ReadOk (S : Stat) (win : List (Nat × Nat × Nat × Nat)) (f : FuncId) (g : ReadFn) : Prop := ∀ args H nx y ks cd, g args H nx = some (y, ks, cd) → okC cd = true → FnIn Tryz.prog f ∧
 ∀ E w, (∀ k x, k ∈ ks → H.get k = some x → (0 < x.size → At w (E.ad k) (x.cells S E)) ∧ x.foOk S) → WinOk S win E → Calls Tryz.prog f (SV.dens S E args).toArray w fun e w' => e = .returned (y.den S E) ∧ Fr w w' (fun _ _ => False)
theorem PureOk.read {S : Stat} {f : FuncId} {g : PureFn} (h : PureOk S f g) (win : List (Nat × Nat × Nat × Nat)) : ReadOk S win f (pureR g) := by
 intro args H nx y ks cd hg _
 unfold pureR at hg
 split at hg
 · rename_i y' hy
   injection hg with hg; injection hg with h1 h2; injection h2 with h2 h3; subst h1 h2 h3
   exact ⟨(h args _ hy).1, fun E w _ _ => (h args _ hy).2 E w⟩
 · cases hg
def SpecOk (S : Stat) (win : List (Nat × Nat × Nat × Nat)) (f : FuncId) (g : SpecFn) : Prop := ∀ args H nx v H' nx', (g args H nx).sel = some (v, H', nx') → FnIn Tryz.prog f ∧ ∀ E w, HS S E H w → WinOk S win E → (∀ n j k z, (n, j, k, z) ∈ win → k < nx) →
   (∀ k x, H.get k = some x → k < nx ∧ x.bnd nx = true) → Calls Tryz.prog f (SV.dens S E args).toArray w fun e w' =>
   ∃ E', Env.upto nx E E' ∧ nx ≤ nx' ∧ e = .returned (v.den S E') ∧ HS S E' H' w' ∧ Fr w w' (MH S E H) ∧
     ∀ k x, H'.get k = some x → S.ro k = false → (w.heap.size ≤ (E'.ad k).block ∨ ∀ j, j < x.size → MH S E H (E'.ad k).block ((E'.ad k).off + j))
noncomputable def mkCtx (S : Stat) (win : List (Nat × Nat × Nat × Nat)) (ps : List (Nat × ReadFn)) (ss : List (Nat × SpecFn)) (fuel : Nat) : Nat → Ctx
 | 0 => { S, win, tys, eqb, read := lookP ps, spec := fun _ _ _ _ => .bad, loop := fun _ _ => none }
 | k + 1 => { S, win, tys, eqb, read := lookP ps, spec := fun f args H nx => match lookS ss f with
     | some g => g args H nx
     | none => match Tryz.prog.funcs[f]? with
       | some fn => bif fn.name == "runtime.NumGoroutine" then .bad else inline (mkCtx S win ps ss fuel k) fuel fn args H nx
       | none => .bad, loop := fun _ _ => none }
theorem mkCtx_S (S : Stat) (win : List (Nat × Nat × Nat × Nat)) (ps : List (Nat × ReadFn)) (ss : List (Nat × SpecFn)) (fuel k : Nat) : (mkCtx S win ps ss fuel k).S = S := by cases k <;> rfl
theorem mkCtx_win (S : Stat) (win : List (Nat × Nat × Nat × Nat)) (ps : List (Nat × ReadFn)) (ss : List (Nat × SpecFn)) (fuel k : Nat) : (mkCtx S win ps ss fuel k).win = win := by cases k <;> rfl
theorem mkCtx_loop (S : Stat) (win : List (Nat × Nat × Nat × Nat)) (ps : List (Nat × ReadFn)) (ss : List (Nat × SpecFn)) (fuel k : Nat) : ∀ q st, (mkCtx S win ps ss fuel k).loop q st = none := by cases k <;> exact fun _ _ => rfl
theorem lookP_mem : ∀ {ps : List (Nat × ReadFn)} {f : Nat} {args : List SV} {H : Heap} {nx : Nat} {y : SV × List Nat × Option Bool}, lookP ps f args H nx = some y → ∃ g, (f, g) ∈ ps ∧ g args H nx = some y
 | [], _, _, _, _, _, h => by simp [lookP] at h
 | (k, g) :: r, f, args, H, nx, y, h => by
   unfold lookP at h
   cases hb : Nat.beq k f with
   | true => rw [hb] at h; have := Nat.eq_of_beq_eq_true hb; subst this; exact ⟨g, List.mem_cons_self, h⟩
   | false => rw [hb] at h; obtain ⟨g', h1, h2⟩ := lookP_mem h; exact ⟨g', List.mem_cons_of_mem _ h1, h2⟩
theorem lookS_mem : ∀ {ss : List (Nat × SpecFn)} {f : Nat} {g : SpecFn}, lookS ss f = some g → (f, g) ∈ ss
 | [], _, _, h => by simp [lookS] at h
 | (k, g) :: r, f, g', h => by
   unfold lookS at h
   cases hb : Nat.beq k f with
   | true => rw [hb] at h; have := Nat.eq_of_beq_eq_true hb; subst this; simp only [cond_true, Option.some.injEq] at h; subst h; exact List.mem_cons_self
   | false => rw [hb] at h; exact List.mem_cons_of_mem _ (lookS_mem h)
section
variable (S : Stat) (win : List (Nat × Nat × Nat × Nat)) (ps : List (Nat × ReadFn)) (ss : List (Nat × SpecFn)) (fuel : Nat)
theorem mk_full (hp : ∀ f g, (f, g) ∈ ps → ReadOk S win f g) (hs : ∀ f g, (f, g) ∈ ss → SpecOk S win f g) : ∀ k, CtxFull Tryz.prog (mkCtx S win ps ss fuel k)
 | 0 => by
   refine { small := tys_small, mixed := mixed, tys := tys_ok, eqb := fun t x y b h E => eqb_ok S t x y b h E, flds := tys_flds, read := ?_, spec := ?_ }
   · intro f args H nx y ks cd h hcd
     obtain ⟨g, hg, hy⟩ := lookP_mem h
     have := hp f g hg args H nx y ks cd hy hcd
     first | exact this | (rw [mkCtx_S, mkCtx_win]; exact this)
   · intro f args H nx v H' nx' h
     cases h
 | k + 1 => by
   have ih := mk_full hp hs k
   refine { small := tys_small, mixed := mixed, tys := tys_ok, eqb := fun t x y b h E => eqb_ok S t x y b h E, flds := tys_flds, read := ?_, spec := ?_ }
   · intro f args H nx y ks cd h hcd
     obtain ⟨g, hg, hy⟩ := lookP_mem h
     have := hp f g hg args H nx y ks cd hy hcd
     first | exact this | (rw [mkCtx_S, mkCtx_win]; exact this)
   · intro f args H nx v H' nx' h
     have h' : (match lookS ss f with
       | some g => g args H nx
       | none => match Tryz.prog.funcs[f]? with
         | some fn => bif fn.name == "runtime.NumGoroutine" then .bad else inline (mkCtx S win ps ss fuel k) fuel fn args H nx
         | none => .bad).sel = some (v, H', nx') := h
     split at h'
     · rename_i g hg
       exact hs f g (lookS_mem hg) args H nx v H' nx' h'
     · split at h'
       · rename_i fn hfn
         cases hb : (fn.name == "runtime.NumGoroutine") with
         | true => rw [hb] at h'; cases h'
         | false =>
           rw [hb] at h'
           simp only [cond_false] at h'
           have hbody : fn.body.isNone = false := by
             unfold inline at h'
             split at h'
             · cases h'
             · rename_i code hc; rw [hc]; rfl
           refine ⟨⟨fn, hfn, hbody, hb⟩, fun E w hhs hw hwb _ => ?_⟩
           have := inline_ok (P := Tryz.prog) ih (fun n => draw_ok ih) hfn (fun code _ => LoopsOk.none (mkCtx_loop _ _ _ _ _ _) code) h' (E := E) (w := w) (by rw [mkCtx_S]; exact hhs) (by rw [mkCtx_S, mkCtx_win]; exact hw) (by rw [mkCtx_win]; exact hwb)
           rw [mkCtx_S] at this
           exact this
       · cases h'
end
theorem pure_of {S : Stat} {c : Ctx} (hc : CtxFull Tryz.prog c) (hS : c.S = S) (hwin : c.win = []) (hloop : ∀ q st, c.loop q st = none) {fuel : Nat} {f : FuncId} {fn : Func} (hf : Tryz.prog.funcs[f]? = some fn) (hname : (fn.name == "runtime.NumGoroutine") = false)
   {args : List SV} {y y' : SV} {H' : Heap} {nx' : Nat} (hargs : SV.kalls (fun _ => false) args = true) (h : (inline c fuel fn args [] 0).sel = some (y', H', nx')) (hy : ∀ E, y'.den S E = y.den S E) (hyk : y.kall (fun _ => false) = true) :
   FnIn Tryz.prog f ∧ ∀ E w, Calls Tryz.prog f (SV.dens S E args).toArray w fun e w' => e = .returned (y.den S E) ∧ Fr w w' (fun _ _ => False) := by
 have hbody : fn.body.isNone = false := by
   unfold inline at h
   split at h
   · cases h
   · rename_i code hc; rw [hc]; rfl
 refine ⟨⟨fn, hf, hbody, hname⟩, fun E w => ?_⟩
 have hs : HS c.S E [] w := ⟨fun k x hk => by simp [Heap.get] at hk, fun k x hk => by simp [Heap.get] at hk, fun k k' x x' _ hk => by simp [Heap.get] at hk, fun k x hk => by simp [Heap.get] at hk⟩
 have := inline_ok (P := Tryz.prog) hc (fun n => draw_ok hc) hf (fun code _ => LoopsOk.none hloop code) h (E := E) (w := w) hs (by rw [hwin]; intro n j k z hm; cases hm) (by rw [hwin]; intro n j k z hm; cases hm)
 rw [hS] at this
 refine this.mono ?_
 rintro e w' ⟨E', hu, hle, rfl, hs', hfr, hown⟩
 · refine ⟨?_, hfr.mono fun b j _ hm => ?_⟩
   · rw [hy, SV.den_agree S (f := fun _ => false) (E := E) (E' := E') (fun c hc => by cases hc) y hyk]
   · obtain ⟨k, x, hk, _⟩ := hm
     simp [Heap.get] at hk
end Go.Proofs.YtjemfkoamfnofaaGreat
