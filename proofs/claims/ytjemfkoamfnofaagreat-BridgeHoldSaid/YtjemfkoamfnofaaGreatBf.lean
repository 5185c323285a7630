import Derived.Test.YtjemfkoamfnofaaGreatBk
import Derived.Test.YtjemfkoamfnofaaGreatBu
set_option linter.unusedVariables false
set_option maxRecDepth 100000
namespace Go.Proofs.YtjemfkoamfnofaaGreat
section
open Go Go.RowKit
structure Told (S0 S : Stat) (q r : SV × Heap × Nat) (m : Nat) (E' E'' : Env) (ρ : Nat → Nat) : Prop where
 up : Env.upto m E' E''
 den : q.1.den S0 E' = r.1.den S E''
 get : ∀ k x, r.2.1.get k = some x → x.foOk S ∧ (x.size = 0 ∨ ∃ x', q.2.1.get (ρ k) = some x' ∧ x'.size = x.size ∧ x'.cells S0 E' = x.cells S E'' ∧ E'.ad (ρ k) = E''.ad k)
 inj : ∀ k k' x x', k ≠ k' → r.2.1.get k = some x → r.2.1.get k' = some x' → 0 < x.size → 0 < x'.size → ρ k ≠ ρ k'
theorem canon_free {f : FuncId} {fn : Func} (hf : Tryz.prog.funcs[f]? = some fn) (hname : ((fnOf f).name == "runtime.NumGoroutine") = false) {g : CanonFn}
   (h : ∀ (S : Stat) args H m r, (g S.ro args H m).sel = some r → m ≤ r.2.2 ∧ ∀ E, ∃ (c : Ctx) (fuel : Nat) (args0 : List SV) (H0 : Heap) (q : SV × Heap × Nat), GoodCtx c (fnOf f) ∧ (∀ k, c.S.ro k = false) ∧ (∀ k x, H0.get k = some x → S.ro k = false) ∧
     (inline c fuel (fnOf f) args0 H0 m).sel = some q ∧ SV.dens S E args = SV.dens c.S E args0 ∧ ReHeap H S c.S E H0 ∧ ∀ E', Env.upto m E E' → ∃ E'' ρ, Told c.S S q r m E' E'' ρ) : CanonOk f g := by
 intro S args H m v H' m' hr
 obtain ⟨hmm, hE⟩ := h S args H m _ hr
 dsimp only at hmm
 have hfn : FnIn Tryz.prog f := by
   have E0 : Env := ⟨fun _ => default, fun _ => default⟩
   obtain ⟨c, fuel, args0, H0, q, hgood, _, _, hq, _⟩ := hE E0
   exact (good_ok (fnOf_eq hf) hname hgood (v := q.1) (H' := q.2.1) (m' := q.2.2) hq).1
 refine ⟨hfn, fun E w hs => ?_⟩
 obtain ⟨c, fuel, args0, H0, q, hgood, hcro, hro, hq, hargs, hre, hfin⟩ := hE E
 have hw := (good_ok (fnOf_eq hf) hname hgood (v := q.1) (H' := q.2.1) (m' := q.2.2) hq).2
 have hMH : ∀ b j, MH c.S E H0 b j → MH S E H b j := by
   rintro b j ⟨k, z, hk, _, h1, h2, h3⟩
   obtain ⟨x, hx, hc, _⟩ := hre.get k z hk
   have hsz := size_of_cells hc
   exact ⟨k, x, hx, hro k z hk, h1, h2, by omega⟩
 rw [hargs]
 refine (hw E w (hs.re hre fun k x hk _ => hro k x hk)).mono ?_
 rintro e w' ⟨E', hu, hle, rfl, hs', hfr, hown⟩
 obtain ⟨E'', ρ, F⟩ := hfin E' hu
 refine ⟨E'', hu.trans F.up (Nat.le_refl _), hmm, by rw [← F.den], ⟨fun k x hk hp => ?_, fun k x hk hp hnt hr => ?_, fun k k' x x' hne hk hk' hp hp' hr => ?_, fun k x hk => (F.get k x hk).1⟩, hfr.mono fun b j _ h => hMH b j h, fun k x hk hr => ?_⟩
 · rcases (F.get k x hk).2 with h0 | ⟨x', h1, h2, h3, h4⟩
   · omega
   · rw [← h4, ← h3]; exact hs'.at_ _ x' h1 (by omega)
 · rcases (F.get k x hk).2 with h0 | ⟨x', h1, h2, h3, h4⟩
   · omega
   · rw [← h4]; exact hs'.wr _ x' h1 (by omega) (by rw [h3]; exact hnt) (hcro _)
 · rcases (F.get k x hk).2 with h0 | ⟨y, h1, h2, h3, h4⟩
   · omega
   · rcases (F.get k' x' hk').2 with h0 | ⟨y', g1, g2, g3, g4⟩
     · omega
     · rw [← h4, ← g4, ← h2, ← g2]
       exact hs'.dis _ _ y y' (F.inj k k' x x' hne hk hk' hp hp') h1 g1 (by omega) (by omega) (hcro _)
 · rcases (F.get k x hk).2 with h0 | ⟨y, h1, h2, h3, h4⟩
   · exact .inr fun j hj => by omega
   · rw [← h4, ← h2]
     rcases hown _ y h1 (hcro _) with h | h
     · exact .inl h
     · exact .inr fun j hj => hMH _ _ (h j hj)
end
section
open Go Go.RowKit
theorem canon_more {f : FuncId} {g g' : CanonFn} (hg : CanonOk f g)
   (h : ∀ (S : Stat) args H m r', (g' S.ro args H m).sel = some r' → m ≤ r'.2.2 ∧ ∃ r, (g S.ro args H m).sel = some r ∧ ∀ E E', Env.upto m E E' → ∃ E'' ρ, Told S S r r' m E' E'' ρ ∧ ∀ k x, r'.2.1.get k = some x → 0 < x.size → S.ro (ρ k) = false) : CanonOk f g' := by
 intro S args H m v H' m' hr
 obtain ⟨hmm, r, hrg, hE⟩ := h S args H m _ hr
 dsimp only at hmm
 obtain ⟨hfn, hw⟩ := hg S args H m r.1 r.2.1 r.2.2 hrg
 refine ⟨hfn, fun E w hs => ?_⟩
 refine (hw E w hs).mono ?_
 rintro e w' ⟨E', hu, hle, rfl, hs', hfr, hown⟩
 obtain ⟨E'', ρ, F, hro⟩ := hE E E' hu
 refine ⟨E'', hu.trans F.up (Nat.le_refl _), hmm, by rw [← F.den], ⟨fun k x hk hp => ?_, fun k x hk hp hnt hr => ?_, fun k k' x x' hne hk hk' hp hp' hr => ?_, fun k x hk => (F.get k x hk).1⟩, hfr, fun k x hk hr => ?_⟩
 · rcases (F.get k x hk).2 with h0 | ⟨x', h1, h2, h3, h4⟩
   · omega
   · rw [← h4, ← h3]; exact hs'.at_ _ x' h1 (by omega)
 · rcases (F.get k x hk).2 with h0 | ⟨x', h1, h2, h3, h4⟩
   · omega
   · rw [← h4]; exact hs'.wr _ x' h1 (by omega) (by rw [h3]; exact hnt) (hro k x hk hp)
 · rcases (F.get k x hk).2 with h0 | ⟨y, h1, h2, h3, h4⟩
   · omega
   · rcases (F.get k' x' hk').2 with h0 | ⟨y', g1, g2, g3, g4⟩
     · omega
     · rw [← h4, ← g4, ← h2, ← g2]
       exact hs'.dis _ _ y y' (F.inj k k' x x' hne hk hk' hp hp') h1 g1 (by omega) (by omega) (hro k x hk hp)
 · rcases (F.get k x hk).2 with h0 | ⟨y, h1, h2, h3, h4⟩
   · exact .inr fun j hj => by omega
   · rcases Nat.eq_zero_or_pos x.size with h0 | hp
     · exact .inr fun j hj => by omega
     · rw [← h4, ← h2]
       exact hown _ y h1 (hro k x hk hp)
structure BS where
 b : Bri
 ps : List Port
 out : List Sent
 fl : List Int
def bsH (s : BS) (q : Bool) : Heap := [(0, s.b.sv (.slr 1 s.ps.length 1 q) (.slr 2 s.out.length 2 false) (.slr 3 s.fl.length 3 false)), (1, .rows (.port s.ps)), (2, .rows (.sent s.out)), (3, .rows (.int .i64 s.fl))]
def bsH' (s : BS) (n : Nat) (q : Bool) : Heap := [(0, s.b.sv (.slr 1 n 1 q) (.slr 4 s.out.length 4 false) (.slr 5 s.fl.length 5 false)), (1, .rows (.port s.ps)), (2, .rows (.sent [])), (3, .rows (.int .i64 [])), (4, .rows (.sent s.out)), (5, .rows (.int .i64 s.fl))]
def gBS {α : Type} (arg : List SV → Option α) (C : BS → α → Bool) (F : BS → α → BS × SV) : CanonFn := fun ro args H m => match args, H with
 | .ptr 0 0 :: rest, [(0, bx), (1, .rows (.port ps)), (2, .rows (.sent out)), (3, .rows (.int .i64 fl))] => (match arg rest, unBri bx with
   | some a, some (b, .slr 1 n 1 q, .slr 2 lo 2 false, .slr 3 lf 3 false) => bif Nat.beq m 4 && freeAll ro H then
       .ite (decide (n = ps.length ∧ lo = out.length ∧ lf = fl.length) && (C ⟨b, ps, out, fl⟩ a && decide ((F ⟨b, ps, out, fl⟩ a).1.ps.length = ps.length)))
         (.ret ((F ⟨b, ps, out, fl⟩ a).2, bsH' (F ⟨b, ps, out, fl⟩ a).1 n q, 6)) .bad else .bad
   | _, _ => .bad)
 | _, _ => .bad
theorem gBS_some {α : Type} {arg : List SV → Option α} {C : BS → α → Bool} {F : BS → α → BS × SV} {ro : Nat → Bool} {args : List SV} {H : Heap} {m : Nat} {r : SV × Heap × Nat} (h : (gBS arg C F ro args H m).sel = some r) :
   ∃ rest a s q, args = .ptr 0 0 :: rest ∧ arg rest = some a ∧ H = bsH s q ∧ m = 4 ∧ freeAll ro (bsH s q) = true ∧ C s a = true ∧ (F s a).1.ps.length = s.ps.length ∧ r = ((F s a).2, bsH' (F s a).1 s.ps.length q, 6) := by
 unfold gBS at h
 split at h
 · rename_i rest bx ps out fl
   split at h
   · rename_i a b n q lo lf ha hb
     obtain ⟨rfl, _, _⟩ := unBri_ok hb
     cases hc : (Nat.beq m 4 && freeAll ro [(0, b.sv (.slr 1 n 1 q) (.slr 2 lo 2 false) (.slr 3 lf 3 false)), (1, .rows (.port ps)), (2, .rows (.sent out)), (3, .rows (.int .i64 fl))]) with
     | false => rw [hc] at h; cases h
     | true =>
       rw [hc] at h
       simp only [cond_true] at h
       obtain ⟨ht, h2⟩ := Out.ite_bad h
       simp only [Bool.and_eq_true, decide_eq_true_eq, Nat.beq_eq] at ht hc
       obtain ⟨⟨rfl, rfl, rfl⟩, hC, hl⟩ := ht
       obtain rfl := Option.some.inj h2
       exact ⟨rest, a, ⟨b, ps, out, fl⟩, q, rfl, ha, rfl, hc.1, hc.2, hC, hl, rfl⟩
   · cases h
 · cases h
def movE (E : Env) (k2 k3 : Nat) : Env := { ad := fun k => if k = 4 then E.ad k2 else if k = 5 then E.ad k3 else E.ad k, cp := fun k => if k = 4 then E.cp k2 else if k = 5 then E.cp k3 else E.cp k }
theorem movE_upto (E : Env) (k2 k3 : Nat) : Env.upto 4 E (movE E k2 k3) := by
 intro k hk
 have h4 : k ≠ 4 := by omega
 have h5 : k ≠ 5 := by omega
 simp [movE, h4, h5]
def movR (k2 k3 k : Nat) : Nat := if k = 4 then k2 else if k = 5 then k3 else k
theorem told_bs {S S0 : Stat} {E' : Env} {r : SV × Heap × Nat} {v : SV} {s' : BS} {n : Nat} {q : Bool} {k2 k3 : Nat} {x0 x1 x2 x3 : SV} (hk : k2 ≠ k3 ∧ 1 < k2 ∧ 1 < k3)
   (hv : ∀ E'', r.1.den S0 E' = v.den S E'')
   (g0 : r.2.1.get 0 = some x0) (c0 : x0.cells S0 E' = (s'.b.sv (.slr 1 n 1 q) (.slr 4 s'.out.length 4 false) (.slr 5 s'.fl.length 5 false)).cells S (movE E' k2 k3))
   (g1 : r.2.1.get 1 = some x1) (c1 : x1.cells S0 E' = (SV.rows (.port s'.ps)).cells S (movE E' k2 k3))
   (g2 : s'.out = [] ∨ r.2.1.get k2 = some x2 ∧ x2.cells S0 E' = (SV.rows (.sent s'.out)).cells S (movE E' k2 k3))
   (g3 : s'.fl = [] ∨ r.2.1.get k3 = some x3 ∧ x3.cells S0 E' = (SV.rows (.int .i64 s'.fl)).cells S (movE E' k2 k3)) : Told S0 S r (v, bsH' s' n q, 6) 4 E' (movE E' k2 k3) (movR k2 k3) := by
 have z0 : ∀ (x : SV) (hc : x.cells S0 E' = (SV.rows (.sent [])).cells S E'), True := fun _ _ => trivial
 have gets : ∀ k x, (bsH' s' n q).get k = some x → (k = 0 ∧ x = s'.b.sv (.slr 1 n 1 q) (.slr 4 s'.out.length 4 false) (.slr 5 s'.fl.length 5 false)) ∨ (k = 1 ∧ x = .rows (.port s'.ps)) ∨ x.size = 0 ∨ (k = 4 ∧ x = .rows (.sent s'.out)) ∨ (k = 5 ∧ x = .rows (.int .i64 s'.fl)) := by
   intro k x hk
   unfold bsH' at hk
   simp only [Heap.get_cons] at hk
   split at hk
   · rename_i he; exact .inl ⟨he, (Option.some.inj hk).symm⟩
   · split at hk
     · rename_i he; exact .inr (.inl ⟨he, (Option.some.inj hk).symm⟩)
     · split at hk
       · rename_i he; obtain rfl := Option.some.inj hk; exact .inr (.inr (.inl rfl))
       · split at hk
         · rename_i he; obtain rfl := Option.some.inj hk; exact .inr (.inr (.inl rfl))
         · split at hk
           · rename_i he; exact .inr (.inr (.inr (.inl ⟨he, (Option.some.inj hk).symm⟩)))
           · split at hk
             · rename_i he; exact .inr (.inr (.inr (.inr ⟨he, (Option.some.inj hk).symm⟩)))
             · cases hk
 have fo : ∀ k x, (bsH' s' n q).get k = some x → x.foOk S := by
   intro k x hk
   unfold bsH' at hk
   simp only [Heap.get_cons] at hk
   repeat' split at hk
   all_goals first | (obtain rfl := Option.some.inj hk; exact trivial) | cases hk
 refine ⟨movE_upto _ _ _, hv _, fun k x hk => ⟨fo k x hk, ?_⟩, fun k k' x x' hne h1 h2 p1 p2 => ?_⟩
 · rcases gets k x hk with ⟨rfl, rfl⟩ | ⟨rfl, rfl⟩ | h0 | ⟨rfl, rfl⟩ | ⟨rfl, rfl⟩
   · exact .inr ⟨x0, g0, size_of_cells2 c0, c0, rfl⟩
   · exact .inr ⟨x1, g1, size_of_cells2 c1, c1, rfl⟩
   · exact .inl h0
   · rcases g2 with h | ⟨h, hc⟩
     · rw [h]; exact .inl rfl
     · exact .inr ⟨x2, h, size_of_cells2 hc, hc, rfl⟩
   · rcases g3 with h | ⟨h, hc⟩
     · rw [h]; exact .inl rfl
     · exact .inr ⟨x3, h, size_of_cells2 hc, hc, rfl⟩
 · rcases gets k x h1 with ⟨rfl, rfl⟩ | ⟨rfl, rfl⟩ | h0 | ⟨rfl, rfl⟩ | ⟨rfl, rfl⟩ <;> rcases gets k' x' h2 with ⟨rfl, rfl⟩ | ⟨rfl, rfl⟩ | h0' | ⟨rfl, rfl⟩ | ⟨rfl, rfl⟩ <;> first | omega | (simp [movR] <;> omega)
theorem bri_mov (S : Stat) (E : Env) (b : Bri) (n lo lf k2 k3 : Nat) (q : Bool) : (b.sv (.slr 1 n 1 q) (.slr k2 lo k2 false) (.slr k3 lf k3 false)).cells S E = (b.sv (.slr 1 n 1 q) (.slr 4 lo 4 false) (.slr 5 lf 5 false)).cells S (movE E k2 k3) := by
 simp [Bri.sv, SV.cells, SV.cellss, SV.den, Env.place, movE]
def argI : List SV → Option Int
 | [.v (.int .i64 k)] => some k
 | _ => none
def argN : List SV → Option Unit
 | [] => some ()
 | _ => none
theorem argI_some {l : List SV} {k : Int} (h : argI l = some k) : l = [.v (.int .i64 k)] := by
 unfold argI at h
 split at h
 · rw [Option.some.inj h]
 · cases h
theorem argN_some {l : List SV} {k : Unit} (h : argN l = some k) : l = [] := by
 unfold argN at h
 split at h
 · rfl
 · cases h
def roomB (s : BS) : Bool := decide (s.ps.length < 134217728) && decide (s.out.length < 134217727 ∧ s.fl.length < 134217727)
def cK (s : BS) (k : Int) : Bool := roomB s && (decide (0 ≤ k) && decide (k < s.ps.length))
def gM (F : BS → Int → BS × Bool) : CanonFn := gBS argI cK fun s k => ((F s k).1, .v (.bool (F s k).2))
def ofP (F : Bri → Port → Port × Bool) (s : BS) (k : Int) : BS × Bool := ({ s with ps := s.ps.set k.toNat (F s.b (s.ps.getD k.toNat Port.dflt)).1 }, (F s.b (s.ps.getD k.toNat Port.dflt)).2)
def ofPs (F : Bri → List Port → Int → List Port × Bool) (s : BS) (k : Int) : BS × Bool := ({ s with ps := (F s.b s.ps k).1 }, (F s.b s.ps k).2)
theorem free_lt {ro : Nat → Bool} {s : BS} {q : Bool} (h : freeAll ro (bsH s q) = true) : ∀ k, k < 4 → ro k = false := by
 simp [freeAll, bsH] at h
 intro k hk
 have : k = 0 ∨ k = 1 ∨ k = 2 ∨ k = 3 := by omega
 rcases this with rfl | rfl | rfl | rfl <;> simp [h]
theorem movR_lt {k2 k3 k : Nat} {s' : BS} {n : Nat} {q : Bool} {x : SV} (h2 : k2 < 4) (h3 : k3 < 4) (hk : (bsH' s' n q).get k = some x) : movR k2 k3 k < 4 := by
 unfold bsH' at hk
 unfold movR
 by_cases h4 : k = 4
 · simp [h4, h2]
 · by_cases h5 : k = 5
   · simp [h5, h3]
   · simp only [h4, h5, if_false]
     simp only [Heap.get_cons, h4, h5, if_false] at hk
     by_cases e0 : k = 0
     · omega
     · by_cases e1 : k = 1
       · omega
       · by_cases e2 : k = 2
         · omega
         · by_cases e3 : k = 3
           · omega
           · simp [e0, e1, e2, e3, Heap.get] at hk
theorem ofP_ok {f : FuncId} {F : Bri → Port → Port × Bool} (hg : CanonOk f (gPort F)) : CanonOk f (gM (ofP F)) := by
 refine canon_more hg fun S args H m r' hr => ?_
 obtain ⟨rest, k, s, q, rfl, ha, rfl, rfl, hfree, hC, hl, rfl⟩ := gBS_some hr
 obtain rfl := argI_some ha
 simp only [cK, roomB, Bool.and_eq_true, decide_eq_true_eq] at hC
 refine ⟨Nat.le_add_right 4 2, (.v (.bool (ofP F s k).2), [(0, s.b.sv (.slr 1 s.ps.length 1 q) (.slr 2 s.out.length 2 false) (.slr 3 s.fl.length 3 false)), (1, .rows (.port (ofP F s k).1.ps)), (2, .rows (.sent s.out)), (3, .rows (.int .i64 s.fl))], 4), ?_, fun E E' hu => ⟨movE E' 2 3, movR 2 3, ?_, fun k x hk hp => free_lt hfree _ (movR_lt (by decide) (by decide) hk)⟩⟩
 · unfold gPort bsH
   have hb : unBri (s.b.sv (.slr 1 s.ps.length 1 q) (.slr 2 s.out.length 2 false) (.slr 3 s.fl.length 3 false)) = some (s.b, .slr 1 s.ps.length 1 q, .slr 2 s.out.length 2 false, .slr 3 s.fl.length 3 false) := rfl
   simp only [Heap.get_cons, if_true, show ¬((1 : Nat) = 0) from by decide, if_false, hb]
   have h1 : freeAll S.ro [(0, s.b.sv (.slr 1 s.ps.length 1 q) (.slr 2 s.out.length 2 false) (.slr 3 s.fl.length 3 false)), (1, .rows (.port s.ps)), (2, .rows (.sent s.out)), (3, .rows (.int .i64 s.fl))] = true := hfree
   have h2 : bndH 4 [(0, s.b.sv (.slr 1 s.ps.length 1 q) (.slr 2 s.out.length 2 false) (.slr 3 s.fl.length 3 false)), (1, .rows (.port s.ps)), (2, .rows (.sent s.out)), (3, .rows (.int .i64 s.fl))] = true := rfl
   rw [h1, h2]
   simp only [Bool.and_self, cond_true, Out.sel, decide_true, hC.2.1, hC.2.2, Bool.and_true, if_true]
   rfl
 · refine told_bs (x2 := .rows (.sent s.out)) (x3 := .rows (.int .i64 s.fl)) (by decide) (fun _ => rfl) rfl ?_ rfl rfl (.inr ⟨rfl, rfl⟩) (.inr ⟨rfl, rfl⟩)
   exact bri_mov S E' s.b s.ps.length s.out.length s.fl.length 2 3 q
theorem ofPs_ok {f : FuncId} {F : Bri → List Port → Int → List Port × Bool} (hg : CanonOk f (gPorts F)) : CanonOk f (gM (ofPs F)) := by
 refine canon_more hg fun S args H m r' hr => ?_
 obtain ⟨rest, k, s, q, rfl, ha, rfl, rfl, hfree, hC, hl, rfl⟩ := gBS_some hr
 obtain rfl := argI_some ha
 simp only [cK, roomB, Bool.and_eq_true, decide_eq_true_eq] at hC
 refine ⟨Nat.le_add_right 4 2, (.v (.bool (ofPs F s k).2), [(0, s.b.sv (.slr 1 s.ps.length 1 q) (.slr 2 s.out.length 2 false) (.slr 3 s.fl.length 3 false)), (1, .rows (.port (ofPs F s k).1.ps)), (2, .rows (.sent s.out)), (3, .rows (.int .i64 s.fl))], 4), ?_, fun E E' hu => ⟨movE E' 2 3, movR 2 3, ?_, fun k x hk hp => free_lt hfree _ (movR_lt (by decide) (by decide) hk)⟩⟩
 · unfold gPorts bsH
   have hb : unBri (s.b.sv (.slr 1 s.ps.length 1 q) (.slr 2 s.out.length 2 false) (.slr 3 s.fl.length 3 false)) = some (s.b, .slr 1 s.ps.length 1 q, .slr 2 s.out.length 2 false, .slr 3 s.fl.length 3 false) := rfl
   simp only [Heap.get_cons, if_true, show ¬((1 : Nat) = 0) from by decide, if_false, hb]
   have h1 : freeAll S.ro [(0, s.b.sv (.slr 1 s.ps.length 1 q) (.slr 2 s.out.length 2 false) (.slr 3 s.fl.length 3 false)), (1, .rows (.port s.ps)), (2, .rows (.sent s.out)), (3, .rows (.int .i64 s.fl))] = true := hfree
   have h2 : bndH 4 [(0, s.b.sv (.slr 1 s.ps.length 1 q) (.slr 2 s.out.length 2 false) (.slr 3 s.fl.length 3 false)), (1, .rows (.port s.ps)), (2, .rows (.sent s.out)), (3, .rows (.int .i64 s.fl))] = true := rfl
   rw [h1, h2]
   have h3 : s.ps.length < 9223372036854775808 := by omega
   simp only [Bool.and_self, cond_true, Out.sel, decide_true, hC.2.1, hC.2.2, h3, Bool.and_true, if_true]
   rfl
 · refine told_bs (x2 := .rows (.sent s.out)) (x3 := .rows (.int .i64 s.fl)) (by decide) (fun _ => rfl) rfl ?_ rfl rfl (.inr ⟨rfl, rfl⟩) (.inr ⟨rfl, rfl⟩)
   exact bri_mov S E' s.b s.ps.length s.out.length s.fl.length 2 3 q
def gN (F : BS → BS × Bool) : CanonFn := gBS argN (fun s _ => roomB s) fun s _ => ((F s).1, .v (.bool (F s).2))
def selF (s : BS) : BS × Bool := if s.ps.any askP = true then ({ s with b := stepB s.b s.ps, ps := mapI (stepP (stepB s.b s.ps)) s.ps 0 }, true) else (s, false)
theorem selM_ok : CanonOk 36 (gN selF) := by
 refine canon_more step_ok fun S args H m r' hr => ?_
 obtain ⟨rest, k, s, q, rfl, ha, rfl, rfl, hfree, hC, hl, rfl⟩ := gBS_some hr
 obtain rfl := argN_some ha
 simp only [roomB, Bool.and_eq_true, decide_eq_true_eq] at hC
 refine ⟨Nat.le_add_right 4 2, (.v (.bool (selF s).2), [(0, (selF s).1.b.sv (.slr 1 s.ps.length 1 q) (.slr 2 s.out.length 2 false) (.slr 3 s.fl.length 3 false)), (1, .rows (.port (selF s).1.ps)), (2, .rows (.sent s.out)), (3, .rows (.int .i64 s.fl))], 4), ?_, fun E E' hu => ⟨movE E' 2 3, movR 2 3, ?_, fun k x hk hp => free_lt hfree _ (movR_lt (by decide) (by decide) hk)⟩⟩
 · unfold gStepOf bsH
   have hb : unBri (s.b.sv (.slr 1 s.ps.length 1 q) (.slr 2 s.out.length 2 false) (.slr 3 s.fl.length 3 false)) = some (s.b, .slr 1 s.ps.length 1 q, .slr 2 s.out.length 2 false, .slr 3 s.fl.length 3 false) := rfl
   simp only [Heap.get_cons, if_true, show ¬((1 : Nat) = 0) from by decide, if_false, hb]
   have h1 : freeAll S.ro [(0, s.b.sv (.slr 1 s.ps.length 1 q) (.slr 2 s.out.length 2 false) (.slr 3 s.fl.length 3 false)), (1, .rows (.port s.ps)), (2, .rows (.sent s.out)), (3, .rows (.int .i64 s.fl))] = true := hfree
   have h2 : bndH 4 [(0, s.b.sv (.slr 1 s.ps.length 1 q) (.slr 2 s.out.length 2 false) (.slr 3 s.fl.length 3 false)), (1, .rows (.port s.ps)), (2, .rows (.sent s.out)), (3, .rows (.int .i64 s.fl))] = true := rfl
   rw [h1, h2]
   have h3 : s.ps.length < 9223372036854775808 := by omega
   simp only [Bool.and_self, cond_true, Out.sel, decide_true, h3, and_self, if_true]
   unfold selF
   split
   · rfl
   · rfl
 · have hs : (selF s).1.out = s.out ∧ (selF s).1.fl = s.fl := by unfold selF; split <;> exact ⟨rfl, rfl⟩
   refine told_bs (x2 := .rows (.sent s.out)) (x3 := .rows (.int .i64 s.fl)) (by decide) (fun _ => rfl) rfl ?_ rfl rfl (.inr ⟨rfl, by rw [hs.1]; rfl⟩) (.inr ⟨rfl, by rw [hs.2]; rfl⟩)
   rw [hs.1, hs.2]
   exact bri_mov S E' _ s.ps.length s.out.length s.fl.length 2 3 q
end
end Go.Proofs.YtjemfkoamfnofaaGreat
