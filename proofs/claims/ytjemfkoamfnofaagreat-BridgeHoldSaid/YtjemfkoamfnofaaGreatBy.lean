import Derived.Test.YtjemfkoamfnofaaGreatBx
set_option linter.unusedVariables false
set_option maxRecDepth 100000
namespace Go.Proofs.YtjemfkoamfnofaaGreat
open Go Go.RowKit
def Stat.w2 (S : Stat) (k j : Int) : Stat := { sl := S.sl, ix := fun n => match n with | 0 => k | _ => j, ro := fun _ => false }
def focV1 (x r : List Port) : SV := match r with
 | [] => .rows (.port x)
 | a :: r => .foc 1 (.port x) (.rcd (.port a)) (.port r)
theorem focV1_cells (S : Stat) (E : Env) (x r : List Port) : (focV1 x r).cells S E = (SV.rows (.port (x ++ r))).cells S E := by
 cases r with
 | nil => simp [focV1]
 | cons a r => simp only [focV1, SV.cells, Rows.cells, Rec.cells]; rw [List.flatMap_append, List.flatMap_cons]
theorem focV1_fo {S : Stat} {x r : List Port} (h : (S.ix 1).toNat = x.length) : (focV1 x r).foOk S := by
 cases r with
 | nil => trivial
 | cons a r => exact h
structure MpP where
 b : Bri
 a : List Port
 p : Port
 r : List Port
 q : Bool
def MpP.ps (p : MpP) : List Port := p.a ++ p.p :: p.r
theorem mapI_append (f : Nat → Port → Port) : ∀ (a b : List Port) (i : Nat), mapI f (a ++ b) i = mapI f a i ++ mapI f b (i + a.length)
 | [], b, i => by simp [mapI]
 | x :: a, b, i => by simp only [List.cons_append, mapI, mapI_append f a b (i + 1), List.length_cons]; rw [Nat.add_assoc, Nat.add_comm 1]
def focM (f : Nat → Port → Port) (p : MpP) : SV := .foc 0 (.port (mapI f p.a 0)) (.rcd (.port (f p.a.length p.p))) (.port (mapI f p.r (p.a.length + 1)))
theorem focM_cells (S : Stat) (E : Env) (f : Nat → Port → Port) (p : MpP) : (focM f p).cells S E = (SV.rows (.port (mapI f p.ps 0))).cells S E := by
 unfold focM MpP.ps
 rw [mapI_append, mapI, Nat.zero_add]
 simp only [SV.cells, Rows.cells, Rec.cells]
 rw [List.flatMap_append, List.flatMap_cons]
theorem focM_fo {S : Stat} {f : Nat → Port → Port} {p : MpP} (h : (S.ix 0).toNat = p.a.length) : (focM f p).foOk S := by
 show (S.ix 0).toNat = (mapI f p.a 0).length
 rw [mapI_length]; exact h
theorem map_loop {mk : Stat → Ctx} (hm : Fam mk) {ls : List (Nat × LoopFn)} {n fuel nx : Nat} {b : Code} {ts ts0 : List Nat} {g : St → Option (Out (Ex × St))} (S : Stat) (k : Int)
   (sl : MpP → SV → Slots) (hp : MpP → SV → Heap) (f : Nat → Port → Port)
   (hsl : ∀ p S S' E x y, S.ix 0 = S'.ix 0 → S.sl = S'.sl → x.den S E = y.den S' E → ReSlots (sl p x) S S' E (sl p y))
   (hhp : ∀ p S S' E x y, S.ix 0 = S'.ix 0 → S.sl = S'.sl → x.cells S E = y.cells S' E → y.foOk S' → ReHeap (hp p x) S S' E (hp p y))
   (hround : ∀ (p : MpP) (i : Nat) x r pt, i < p.ps.length → p.ps.length < 9223372036854775808 → (trimO ts nx (exec (mk (S.w2 k i)) n fuel b ⟨sl p (.ix 1), hp p (.foc 1 (.port x) (.rcd (.port pt)) (.port r)), nx⟩)).sel =
     some (.nrm, ⟨sl p (.v (.int .i64 (IntKind.i64.wrap (i + 1)))), hp p (.foc 1 (.port x) (.rcd (.port (f i pt))) (.port r)), nx⟩))
   (hover : ∀ (p : MpP) x, (trimO ts nx (exec (mk (S.w2 k p.ps.length)) n fuel b ⟨sl p (.ix 1), hp p (.rows (.port x)), nx⟩)).sel = some (.exit 0, ⟨sl p (.ix 1), hp p (.rows (.port x)), nx⟩))
   (hg : ∀ st o r, g st = some o → o.sel = some r → ∃ p : MpP, p.ps.length < 9223372036854775808 ∧ p.a.length = k.toNat ∧ r = (.exit 0, ⟨sl p (.v (.int .i64 p.ps.length)), hp p (focM f p), nx⟩) ∧ ∀ E, ReD (S.w2 k 0) st (S.w2 k 0) ⟨sl p (.ix 1), hp p (focV1 [] p.ps), nx⟩ E) :
   LoopOk Tryz.prog (withLoops (mk (S.w2 k 0)) ls) n b (onTrim nx ts0 g) := by
 refine loop_trim hm (nx := nx) (fuel := fuel) (ts := ts) (π := MpP) (τ := List Port) (S.w2 k 0) (fun _ i => S.w2 k i) (fun _ _ => rfl) (fun p => p.ps) (fun p i x => ⟨sl p (.ix 1), hp p (focV1 x (p.ps.drop i)), nx⟩)
   (fun p i x => x.length = i ∧ p.ps.length < 9223372036854775808 ∧ p.a.length = k.toNat ∧ x = mapI f (p.ps.take i) 0) (fun p i pt x => .go (x ++ [f i pt])) (fun p x => (.exit 0, ⟨sl p (.v (.int .i64 p.ps.length)), hp p (focM f p), nx⟩)) (fun _ _ _ => rfl) ?_ ?_ ?_
 · intro st o r ho hr
   obtain ⟨p, h1, h2, h4, h5⟩ := hg st o r ho hr
   refine ⟨p, [], ⟨rfl, h1, h2, by simp [mapI]⟩, ?_, ?_, h5⟩
   · rw [h4]; exact (runL_map f (fun x => (Ex.exit 0, (⟨sl p (.v (.int .i64 p.ps.length)), hp p (focM f p), nx⟩ : St))) p.ps 0 []).symm
   · rw [h4]; exact Nat.le_refl _
 · intro p i pt x hp' hinv
   obtain ⟨hx, hlt, ha, hxe⟩ := hinv
   have hi := (List.getElem?_eq_some_iff.1 hp').1
   have hpt : p.ps[i] = pt := Option.some.inj ((List.getElem?_eq_getElem hi).symm.trans hp')
   have hd : p.ps.drop i = pt :: p.ps.drop (i + 1) := by rw [List.drop_eq_getElem_cons hi, hpt]
   refine ⟨.nrm, ⟨sl p (.v (.int .i64 (IntKind.i64.wrap (i + 1)))), hp p (.foc 1 (.port x) (.rcd (.port (f i pt))) (.port (p.ps.drop (i + 1)))), nx⟩, ?_, rfl, ⟨by simp [hx], hlt, ha, ?_⟩, fun E => ?_⟩
   · rw [hd]
     exact hround p i x _ pt hi hlt
   · rw [List.take_succ_eq_append_getElem hi, mapI_append, hxe, hpt]
     simp [mapI, Nat.min_eq_left (Nat.le_of_lt hi)]
   · rw [wrap_succ hi hlt]
     refine ⟨hsl p _ _ E _ _ rfl rfl rfl, hhp p _ _ E _ _ rfl rfl ?_ (focV1_fo (by show ((i + 1 : Nat) : Int).toNat = _; simp [hx]))⟩
     rw [focV1_cells]
     simp only [SV.cells, Rows.cells, Rec.cells, List.flatMap_append, List.flatMap_cons, List.flatMap_nil, List.append_nil, List.append_assoc]
 · intro p x hinv
   obtain ⟨hx, hlt, ha, hxe⟩ := hinv
   dsimp only
   rw [List.drop_length]
   refine ⟨.exit 0, _, hover p x, rfl, by simp, fun E => ⟨hsl p _ _ E _ _ rfl rfl rfl, hhp p _ _ E _ _ rfl rfl ?_ (focM_fo (by show k.toNat = _; rw [ha]))⟩⟩
   rw [focM_cells, hxe, List.take_length]
   rfl
theorem inlL_ok {S : Stat} {c : Ctx} {fuel f : Nat} {fn : Func} (hc : GoodCtx c (fnOf f)) (hS : c.S = S) (hf : Tryz.prog.funcs[f]? = some fn) (hname : ((fnOf f).name == "runtime.NumGoroutine") = false) : SpecOk S [] f (inl c fuel f) := by
 subst hS
 intro args H nx v H' nx' h
 obtain ⟨h1, h2⟩ := good_ok (fnOf_eq hf) hname hc (show (inline c fuel (fnOf f) args H nx).sel = some (v, H', nx') from h)
 exact ⟨h1, fun E w hs _ _ _ => h2 E w hs⟩
def eltB (k : Int) (o : Nat) : SV → Option Bool
 | .elt c (.val k1) z o' => bif Nat.beq c 1 && (Nat.beq z 89 && Nat.beq o o') then some (decide (k1 = k)) else none
 | _ => none
theorem eltB_ok {k : Int} {o : Nat} {x : SV} (h : eltB k o x = some true) : x = .elt 1 (.val k) 89 o := by
 unfold eltB at h
 split at h
 · rename_i c k1 z o'
   cases hb : (Nat.beq c 1 && (Nat.beq z 89 && Nat.beq o o')) with
   | false => rw [hb] at h; cases h
   | true =>
     rw [hb] at h
     simp only [cond_true, Option.some.injEq, decide_eq_true_eq] at h
     simp only [Bool.and_eq_true, Nat.beq_eq] at hb
     obtain ⟨rfl, rfl, rfl⟩ := hb
     rw [h]
 · cases h
def eltsB (k : Int) : List Nat → List SV → Option Bool
 | [], [] => some true
 | o :: os, x :: r => (match eltB k o x, eltsB k os r with | some a, some b => some (a && b) | _, _ => none)
 | _, _ => none
def eltsK (k : Int) (os : List Nat) : List SV := os.map fun o => .elt 1 (.val k) 89 o
theorem eltsB_ok {k : Int} : ∀ {os : List Nat} {l : List SV}, eltsB k os l = some true → l = eltsK k os
 | [], [], _ => rfl
 | o :: os, x :: r, h => by
   unfold eltsB at h
   split at h
   · rename_i a b ha hb
     simp only [Option.some.injEq, Bool.and_eq_true] at h
     obtain ⟨rfl, rfl⟩ := h
     rw [eltB_ok ha, eltsB_ok hb]; rfl
   · cases h
 | [], _ :: _, h => by cases h
 | _ :: _, [], h => by cases h
def argK (os : List Nat) : SV := .agg (.ptr 0 0 :: .ix 0 :: os.map fun o => .elt 1 (.tok 0) 89 o)
theorem eltsK_cells (S S' : Stat) (E : Env) {k : Int} (h : S'.ix 0 = k) : ∀ os : List Nat, SV.cellss S E (eltsK k os) = SV.cellss S' E (os.map fun o => .elt 1 (.tok 0) 89 o)
 | [] => by simp [eltsK, SV.cellss]
 | o :: os => by
   have := eltsK_cells S S' E h os
   unfold eltsK at this ⊢
   simp only [List.map_cons, SV.cellss, this]
   simp [SV.cells, Ix.int, h]
def gAll (os : List Nat) (F : Int → List Port → List Port) : CanonFn := fun ro args H m => match args, H.get 0, H.get 1 with
 | [.agg (.ptr 0 0 :: .v (.int .i64 k) :: l)], some bx, some (.rows (.port ps)) => (match eltsB k os l, unBri bx with
   | some t, some (b, .slr 1 n 1 q, o, f) => bif bndH m H && freeAll ro H then .ite ((decide (n = ps.length) && decide (ps.length < 9223372036854775808)) && ((decide (0 ≤ k) && decide (k < n)) && t))
       (bif bndH m (H.put 1 (.rows (.port (F k ps)))) then .ret (.tup [], H.put 1 (.rows (.port (F k ps))), m) else .bad) .bad else .bad
   | _, _ => .bad)
 | _, _, _ => .bad
theorem all_ok {os : List Nat} {F : Int → List Port → List Port} {fk : FuncId} {fn : Func} (hfn : Tryz.prog.funcs[fk]? = some fn) (hname : ((fnOf fk).name == "runtime.NumGoroutine") = false)
   (hrun : ∀ (S : Stat) (k : Int) (p : MpP), 0 ≤ k → p.a.length = k.toNat → p.ps.length < 9223372036854775808 → ∃ c fuel x', GoodCtx c (fnOf fk) ∧ c.S = S.w2 k 0 ∧ (trimF 2 (inline c fuel (fnOf fk) [argK os] (focH p.b p.a p.r p.p p.ps.length p.q) 2)).sel = some (.tup [], [(0, p.b.sv (.slr 1 p.ps.length 1 p.q) (.sl 0) (.sl 1)), (1, x')], 2) ∧
     (∀ S' E, S'.ix 0 = k → x'.cells S' E = (SV.rows (.port (F k p.ps))).cells S' E) ∧ x'.bnd 2 = true) : CanonOk fk (gAll os F) := by
 refine canon_any hfn hname ?_
 intro S args H m r hr
 unfold gAll at hr
 split at hr
 · rename_i k l bx ps h0 h1
   split at hr
   · rename_i t b n q o f hes hb
     obtain ⟨rfl, ho, hf⟩ := unBri_ok hb
     cases hbf : (bndH m H && freeAll S.ro H) with
     | false => rw [hbf] at hr; cases hr
     | true =>
       rw [hbf] at hr
       simp only [cond_true] at hr
       simp only [Bool.and_eq_true] at hbf
       obtain ⟨ht, hr2⟩ := Out.ite_bad hr
       simp only [Bool.and_eq_true, decide_eq_true_eq] at ht
       obtain ⟨⟨rfl, hlen⟩, ⟨hk0, hkn⟩, rfl⟩ := ht
       obtain rfl := eltsB_ok hes
       have hlt : k.toNat < ps.length := by omega
       obtain ⟨a, p, r', hps, hal⟩ : ∃ a p r', ps = a ++ p :: r' ∧ a.length = k.toNat := ⟨ps.take k.toNat, ps[k.toNat], ps.drop (k.toNat + 1), by rw [← List.drop_eq_getElem_cons hlt, List.take_append_drop], by simp; omega⟩
       have hlf : ∀ E, ∃ l, ∀ S', S'.sl = (S.names l).sl → ∀ b' : Bri, (b'.sv (.slr 1 ps.length 1 q) o f).cells S E = (b'.sv (.slr 1 ps.length 1 q) (.sl 0) (.sl 1)).cells S' E := by
         intro E
         obtain ⟨q1, e1, g1⟩ := isSl_den ho S E
         obtain ⟨q2, e2, g2⟩ := isSl_den hf S E
         refine ⟨[q1, q2], fun S' hS' b' => ?_⟩
         have f0 : S'.sl 0 = q1 := by rw [hS']; rfl
         have f1 : S'.sl 1 = q2 := by rw [hS']; rfl
         simp [Bri.sv, SV.cells, SV.cellss, SV.cells_flat S E o g1, SV.cells_flat S E f g2, e1, e2, f0, f1]
       cases hb2 : bndH m (H.put 1 (.rows (.port (F k ps)))) with
       | false => rw [hb2] at hr2; cases hr2
       | true =>
         rw [hb2] at hr2
         obtain rfl := Option.some.inj hr2
         refine ⟨hbf.1, hb2, rfl, rfl, fun E => ?_⟩
         obtain ⟨l, hl⟩ := hlf E
         have hP : (⟨b, a, p, r', q⟩ : MpP).ps = ps := hps.symm
         obtain ⟨c, fuel, x', hgood, hcS, hv, hx', hxb⟩ := hrun (S.names l) k ⟨b, a, p, r', q⟩ hk0 hal (by rw [hP]; exact hlen)
         rw [hP] at hv hx'
         refine ⟨c, fuel, [argK os], focH b a r' p ps.length q, 2, _, hgood, fun k => by rw [hcS]; rfl, ?_, hv, ?_, ?_, ?_, rfl, fun j x1 hj => ?_⟩
         · simp [focH, free_get hbf.2 h0, free_get hbf.2 h1]
         · simp [bndH, Bri.sv, SV.bnd, SV.kall, SV.kalls, show SV.kall (fun c => c.blt 2) x' = true from hxb]
         · rw [hcS]
           refine dens_cons ?_ (dens_nil _ _ _ _)
           unfold argK
           rw [SV.den_agg S E _ rfl, SV.den_agg _ E _ rfl]
           simp only [SV.cells, SV.cellss]
           rw [eltsK_cells (k := k) S ((S.names l).w2 k 0) E rfl]
           rfl
         · rw [hcS]
           refine ⟨⟨_, h0, hl _ rfl b, trivial⟩, ⟨_, h1, ?_, ?_⟩, trivial⟩
           · rw [hps]
             simp only [SV.cells, Rows.cells, Rec.cells]
             rw [List.flatMap_append, List.flatMap_cons]
           · exact hal.symm
         · rw [hcS]
           dsimp only at hj ⊢
           rw [Heap.get_put] at hj
           by_cases e1 : j = 1
           · subst e1
             simp only [if_true, Option.some.injEq] at hj
             subst hj
             exact .inl ⟨_, rfl, by rw [hx' _ E rfl]; rfl, trivial⟩
           · simp only [e1, if_false] at hj
             by_cases e0 : j = 0
             · subst e0
               rw [h0] at hj; injection hj with hj; subst hj
               exact .inl ⟨_, rfl, (hl _ rfl b).symm, trivial⟩
             · exact .inr ⟨hj, by unfold focH; rw [Heap.get_cons, if_neg e0, Heap.get_cons, if_neg e1]; rfl⟩
   · cases hr
 · cases hr
def briH (p : MpP) : SV := p.b.sv (.slr 1 p.ps.length 1 p.q) (.sl 0) (.sl 1)
def sySl (p : MpP) (i : SV) : Slots := [(1, [], .ptr 2 0), (8, [], .v (.int .i64 p.ps.length)), (9, [], i)]
def syH (os : List Nat) (p : MpP) (y : SV) : Heap := [(2, argK os), (0, briH p), (1, y)]
def syU (_ : Nat) (p : Port) : Port := { p with flags := { p.flags with sync := true } }
def rrU (_ : Nat) (p : Port) : Port := { p with flags := { p.flags with reRoot := true } }
theorem sySl_re (p : MpP) (S S' : Stat) (E : Env) (x y : SV) (h : x.den S E = y.den S' E) : ReSlots (sySl p x) S S' E (sySl p y) := ⟨⟨_, rfl, rfl⟩, ⟨_, rfl, rfl⟩, ⟨_, rfl, h⟩, trivial⟩
theorem argK_cells (os : List Nat) (S S' : Stat) (E : Env) (h : S.ix 0 = S'.ix 0) : (argK os).cells S E = (argK os).cells S' E := by
 have key : ∀ os : List Nat, SV.cellss S E (os.map fun o => .elt 1 (.tok 0) 89 o) = SV.cellss S' E (os.map fun o => .elt 1 (.tok 0) 89 o) := by
   intro os
   induction os with
   | nil => rfl
   | cons o r ih => simp only [List.map_cons, SV.cellss, ih]; simp [SV.cells, Ix.int, h]
 simp only [argK, SV.cells, SV.cellss, key, h]
theorem briH_cells (p : MpP) (S S' : Stat) (E : Env) (h : S.sl = S'.sl) : (briH p).cells S E = (briH p).cells S' E := by
 simp [briH, Bri.sv, SV.cells, SV.cellss, h]
theorem syH_re (os : List Nat) (p : MpP) (S S' : Stat) (E : Env) (x y : SV) (h0 : S.ix 0 = S'.ix 0) (h1 : S.sl = S'.sl) (h : x.cells S E = y.cells S' E) (hf : y.foOk S') : ReHeap (syH os p x) S S' E (syH os p y) :=
 ⟨⟨_, rfl, argK_cells os S S' E h0, trivial⟩, ⟨_, rfl, briH_cells p S S' E h1, trivial⟩, ⟨_, rfl, h, hf⟩, trivial⟩
def trOs : List Nat := [0, 22, 6]
def toOs : List Nat := [0, 22]
theorem cells_foc (S S' : Stat) (E : Env) (p : MpP) : (SV.foc 0 (.port p.a) (.rcd (.port p.p)) (.port p.r)).cells S E = (focV1 [] p.ps).cells S' E := by
 rw [focV1_cells]
 unfold MpP.ps
 simp only [SV.cells, Rows.cells, Rec.cells, List.nil_append]
 rw [List.flatMap_append, List.flatMap_cons]
noncomputable def gSyL (k : Int) (f : Nat → Port → Port) : St → Option (Out (Ex × St)) := fun st => match st with
 | ⟨[(1, [], .ptr 2 0), (8, [], .v (.int .i64 n')), (9, [], .ki .i64 0)], [(2, .agg [.ptr 0 0, .ix 0, .elt 1 (.tok 0) 89 0, .elt 1 (.tok 0) 89 22, .elt 1 (.tok 0) 89 6]), (0, bx), (1, .foc 0 (.port a) (.rcd (.port p)) (.port r))], _⟩ =>
   (match unBri bx with
   | some (b, .slr 1 n 1 q, .sl 0, .sl 1) =>
     some (.ite (decide (n = (⟨b, a, p, r, q⟩ : MpP).ps.length ∧ n' = (⟨b, a, p, r, q⟩ : MpP).ps.length ∧ a.length = k.toNat ∧ (⟨b, a, p, r, q⟩ : MpP).ps.length < 9223372036854775808)) (.ret (.exit 0, ⟨sySl ⟨b, a, p, r, q⟩ (.v (.int .i64 (⟨b, a, p, r, q⟩ : MpP).ps.length)), syH trOs ⟨b, a, p, r, q⟩ (focM f ⟨b, a, p, r, q⟩), 3⟩)) .bad)
   | _ => none)
 | _ => none
theorem gSyL_ok (f : Nat → Port → Port) {fk : Nat} (S : Stat) (k : Int) (ls : List (Nat × LoopFn))
   (hround : ∀ (S : Stat) (k : Int) (p : MpP) (i : Nat) x r pt, trimO [1, 8, 9] 3 (exec (cR0 (S.w2 k i)) (fnOf fk).ntmps 20 (lpOf fk 0) ⟨sySl p (.ix 1), syH trOs p (.foc 1 (.port x) (.rcd (.port pt)) (.port r)), 3⟩) =
     .ite (decide ((i : Int) < p.ps.length)) (.ite (decide (0 ≤ (i : Int)) && decide ((i : Int) < p.ps.length)) (.ret (.nrm, ⟨sySl p (.v (.int .i64 (IntKind.i64.wrap (i + 1)))), syH trOs p (.foc 1 (.port x) (.rcd (.port (f i pt))) (.port r)), 3⟩)) .bad)
       (.ret (.exit 0, ⟨sySl p (.ix 1), syH trOs p (.foc 1 (.port x) (.rcd (.port pt)) (.port r)), 3⟩)))
   (hover : ∀ (S : Stat) (k : Int) (p : MpP) (i : Nat) x, (trimO [1, 8, 9] 3 (exec (cR0 (S.w2 k i)) (fnOf fk).ntmps 20 (lpOf fk 0) ⟨sySl p (.ix 1), syH trOs p (.rows (.port x)), 3⟩)).els = some (decide ((i : Int) < p.ps.length), .ret (.exit 0, ⟨sySl p (.ix 1), syH trOs p (.rows (.port x)), 3⟩))) :
   LoopOk Tryz.prog (withLoops (cR0 (S.w2 k 0)) ls) (fnOf fk).ntmps (lpOf fk 0) (onTrim 3 [1, 8, 9] (gSyL k f)) := by
 refine map_loop (ts := [1, 8, 9]) (fuel := 20) cR0_fam S k sySl (syH trOs) f (fun p S S' E x y _ _ h => sySl_re p S S' E x y h) (fun p S S' E x y h0 h1 h hf => syH_re trOs p S S' E x y h0 h1 h hf) ?_ ?_ ?_
 · intro p i x r pt hi hlt
   rw [hround]
   simp [Out.sel, hi]
 · intro p x
   rw [Out.els_sel (hover S k p p.ps.length x) (by simp)]
   rfl
 · intro st o r ho hr
   unfold gSyL at ho
   split at ho
   · split at ho
     · rename_i hb
       injection ho with ho
       subst ho
       obtain ⟨rfl, _, _⟩ := unBri_ok hb
       have hh := Out.ite_bad hr
       obtain ⟨rfl, rfl, hak, hlt⟩ := of_decide_eq_true hh.1
       obtain rfl := Option.some.inj hh.2
       refine ⟨⟨_, _, _, _, _⟩, hlt, hak, rfl, fun E => ⟨⟨⟨_, rfl, rfl⟩, ⟨_, rfl, rfl⟩, ⟨_, rfl, rfl⟩, trivial⟩, ⟨⟨_, rfl, rfl, trivial⟩, ⟨_, rfl, rfl, trivial⟩, ⟨_, rfl, cells_foc _ _ E ⟨_, _, _, _, _⟩, focV1_fo rfl⟩, trivial⟩⟩⟩
     · cases ho
   · cases ho
def syncsF (k : Int) (ps : List Port) : List Port := ((mapI syU ps 0).set k.toNat { (syU 0 (ps.getD k.toNat Port.dflt)) with flags := { (syU 0 (ps.getD k.toNat Port.dflt)).flags with proposed := false } })
def reRootsF (_ : Int) (ps : List Port) : List Port := mapI rrU ps 0
def focW (p : MpP) (f : Nat → Port → Port) (x : Port) : SV := .foc 0 (.port (mapI f p.a 0)) (.rcd (.port x)) (.port (mapI f p.r (p.a.length + 1)))
theorem focW_cells (p : MpP) (f : Nat → Port → Port) (x : Port) (k : Int) (hk : p.a.length = k.toNat) (S : Stat) (E : Env) : (focW p f x).cells S E = (SV.rows (.port ((mapI f p.ps 0).set k.toNat x))).cells S E := by
 have : (mapI f p.ps 0).set k.toNat x = mapI f p.a 0 ++ x :: mapI f p.r (p.a.length + 1) := by
   unfold MpP.ps
   rw [mapI_append, mapI, ← hk, List.set_append_right _ _ (by rw [mapI_length]; exact Nat.le_refl _), mapI_length]
   simp
 rw [this]
 unfold focW
 simp only [SV.cells, Rows.cells, Rec.cells]
 rw [List.flatMap_append, List.flatMap_cons]
theorem syncs_run (S : Stat) (k : Int) (p : MpP) : trimF 2 (inline (withLoops (cR0 (S.w2 k 0)) [(2, onTrim 3 [1, 8, 9] (gSyL k syU))]) 20 (fnOf 151) [argK trOs] (focH p.b p.a p.r p.p p.ps.length p.q) 2) =
   .ite (decide (p.ps.length = p.ps.length ∧ (p.ps.length : Int) = p.ps.length ∧ p.a.length = k.toNat ∧ p.ps.length < 9223372036854775808)) (.ret (.tup [], [(0, p.b.sv (.slr 1 p.ps.length 1 p.q) (.sl 0) (.sl 1)), (1, focW p syU { (syU 0 p.p) with flags := { (syU 0 p.p).flags with proposed := false } })], 2)) .bad := by kernel_rfl
theorem reRoots_run (S : Stat) (k : Int) (p : MpP) : trimF 2 (inline (withLoops (cR0 (S.w2 k 0)) [(2, onTrim 3 [1, 8, 9] (gSyL k rrU))]) 20 (fnOf 129) [argK trOs] (focH p.b p.a p.r p.p p.ps.length p.q) 2) =
   .ite (decide (p.ps.length = p.ps.length ∧ (p.ps.length : Int) = p.ps.length ∧ p.a.length = k.toNat ∧ p.ps.length < 9223372036854775808)) (.ret (.tup [], [(0, p.b.sv (.slr 1 p.ps.length 1 p.q) (.sl 0) (.sl 1)), (1, focM rrU p)], 2)) .bad := by kernel_rfl
theorem getD_mid (a r : List Port) (p d : Port) : (a ++ p :: r).getD a.length d = p := by
 rw [List.getD_eq_getElem?_getD, List.getElem?_append_right (Nat.le_refl _)]; simp
theorem syncs_ok : CanonOk 151 (gAll trOs syncsF) := by
 refine all_ok Tryz.func151 (by kernel_rfl) fun S k p hk ha hlt => ?_
 have hgood : GoodCtx (withLoops (cR0 (S.w2 k 0)) [(2, onTrim 3 [1, 8, 9] (gSyL k syU))]) (fnOf 151) := good_loops cR0_fam (S.w2 k 0) [(2, onTrim 3 [1, 8, 9] (gSyL k syU))] (by kernel_rfl) rfl fun i k' g hg => by
   match i, hg with
   | 0, hg => obtain ⟨rfl, rfl⟩ := Prod.mk.inj (Option.some.inj hg); exact gSyL_ok syU S k _ (fun S k p i x r pt => by kernel_rfl) (fun S k p i x => by kernel_rfl)
 refine ⟨withLoops (cR0 (S.w2 k 0)) [(2, onTrim 3 [1, 8, 9] (gSyL k syU))], 20, focW p syU { (syU 0 p.p) with flags := { (syU 0 p.p).flags with proposed := false } }, hgood, cR0_fam.S _, ?_, ?_, rfl⟩
 · rw [syncs_run]; simp only [Out.sel, ha, hlt, and_self, decide_true, if_true]
 · intro S' E hS'
   rw [focW_cells p syU _ k ha]
   unfold syncsF
   rw [show p.ps.getD k.toNat Port.dflt = p.p from by rw [← ha]; exact getD_mid _ _ _ _]
theorem reRoots_ok : CanonOk 129 (gAll trOs reRootsF) := by
 refine all_ok Tryz.func129 (by kernel_rfl) fun S k p hk ha hlt => ?_
 have hgood : GoodCtx (withLoops (cR0 (S.w2 k 0)) [(2, onTrim 3 [1, 8, 9] (gSyL k rrU))]) (fnOf 129) := good_loops cR0_fam (S.w2 k 0) [(2, onTrim 3 [1, 8, 9] (gSyL k rrU))] (by kernel_rfl) rfl fun i k' g hg => by
   match i, hg with
   | 0, hg => obtain ⟨rfl, rfl⟩ := Prod.mk.inj (Option.some.inj hg); exact gSyL_ok rrU S k _ (fun S k p i x r pt => by kernel_rfl) (fun S k p i x => by kernel_rfl)
 refine ⟨withLoops (cR0 (S.w2 k 0)) [(2, onTrim 3 [1, 8, 9] (gSyL k rrU))], 20, focM rrU p, hgood, cR0_fam.S _, ?_, ?_, rfl⟩
 · rw [reRoots_run]; simp only [Out.sel, ha, hlt, and_self, decide_true, if_true]
 · intro S' E hS'
   exact focM_cells S' E rrU p
def otSl (p : MpP) (i : SV) : Slots := [(1, [], .fn (.func 141) [] [.ptr 3 0]), (2, [], .ptr 4 0), (10, [], .v (.int .i64 p.ps.length)), (11, [], i)]
def otH (p : MpP) (y : SV) : Heap := [(4, argK toOs), (3, .kb true), (0, briH p), (1, y)]
def otU (k : Int) (i : Nat) (p : Port) : Port := if ((i : Int) != k) = true then { p with flags := { p.flags with tcProp := true } } else p
theorem otSl_re (p : MpP) (S S' : Stat) (E : Env) (x y : SV) (h : x.den S E = y.den S' E) : ReSlots (otSl p x) S S' E (otSl p y) := ⟨⟨_, rfl, rfl⟩, ⟨_, rfl, rfl⟩, ⟨_, rfl, rfl⟩, ⟨_, rfl, h⟩, trivial⟩
theorem otH_re (p : MpP) (S S' : Stat) (E : Env) (x y : SV) (h0 : S.ix 0 = S'.ix 0) (h1 : S.sl = S'.sl) (h : x.cells S E = y.cells S' E) (hf : y.foOk S') : ReHeap (otH p x) S S' E (otH p y) :=
 ⟨⟨_, rfl, argK_cells toOs S S' E h0, trivial⟩, ⟨_, rfl, rfl, trivial⟩, ⟨_, rfl, briH_cells p S S' E h1, trivial⟩, ⟨_, rfl, h, hf⟩, trivial⟩
noncomputable def gOtL (k : Int) : St → Option (Out (Ex × St)) := fun st => match st with
 | ⟨[(1, [], .fn (.func fk) [] [.ptr 3 0]), (2, [], .ptr 4 0), (10, [], .v (.int .i64 n')), (11, [], .ki .i64 0)], [(4, .agg [.ptr 0 0, .ix 0, .elt 1 (.tok 0) 89 0, .elt 1 (.tok 0) 89 22]), (3, .kb true), (2, _), (0, bx), (1, .foc 0 (.port a) (.rcd (.port p)) (.port r))], _⟩ =>
   bif Nat.beq fk 141 then (match unBri bx with
   | some (b, .slr 1 n 1 q, .sl 0, .sl 1) =>
     some (.ite (decide (n = (⟨b, a, p, r, q⟩ : MpP).ps.length ∧ n' = (⟨b, a, p, r, q⟩ : MpP).ps.length ∧ a.length = k.toNat ∧ (⟨b, a, p, r, q⟩ : MpP).ps.length < 9223372036854775808)) (.ret (.exit 0, ⟨otSl ⟨b, a, p, r, q⟩ (.v (.int .i64 (⟨b, a, p, r, q⟩ : MpP).ps.length)), otH ⟨b, a, p, r, q⟩ (focM (otU k) ⟨b, a, p, r, q⟩), 5⟩)) .bad)
   | _ => none) else none
 | _ => none
theorem ot_round (S : Stat) (k : Int) (p : MpP) (i : Nat) (x r : List Port) (pt : Port) : trimO [1, 2, 10, 11] 5 (exec (cR0 (S.w2 k i)) (fnOf 140).ntmps 20 (lpOf 140 0) ⟨otSl p (.ix 1), otH p (.foc 1 (.port x) (.rcd (.port pt)) (.port r)), 5⟩) =
      .ite (decide ((i : Int) < p.ps.length)) (.ite ((i : Int) != k) (.ite (decide (0 ≤ (i : Int)) && decide ((i : Int) < p.ps.length)) (.ret (.nrm, ⟨otSl p (.v (.int .i64 (IntKind.i64.wrap (i + 1)))), otH p (.foc 1 (.port x) (.rcd (.port { pt with flags := { pt.flags with tcProp := true } })) (.port r)), 5⟩)) .bad)
        (.ret (.nrm, ⟨otSl p (.v (.int .i64 (IntKind.i64.wrap (i + 1)))), otH p (.foc 1 (.port x) (.rcd (.port pt)) (.port r)), 5⟩)))
        (.ret (.exit 0, ⟨otSl p (.ix 1), otH p (.foc 1 (.port x) (.rcd (.port pt)) (.port r)), 5⟩)) := by kernel_rfl
theorem ot_over (S : Stat) (k : Int) (p : MpP) (i : Nat) (x : List Port) : (trimO [1, 2, 10, 11] 5 (exec (cR0 (S.w2 k i)) (fnOf 140).ntmps 20 (lpOf 140 0) ⟨otSl p (.ix 1), otH p (.rows (.port x)), 5⟩)).els = some (decide ((i : Int) < p.ps.length), .ret (.exit 0, ⟨otSl p (.ix 1), otH p (.rows (.port x)), 5⟩)) := by kernel_rfl
theorem gOtL_ok (S : Stat) (k : Int) (ls : List (Nat × LoopFn)) : LoopOk Tryz.prog (withLoops (cR0 (S.w2 k 0)) ls) (fnOf 140).ntmps (lpOf 140 0) (onTrim 5 [1, 2, 10, 11] (gOtL k)) := by
 refine map_loop (ts := [1, 2, 10, 11]) (fuel := 20) cR0_fam S k otSl otH (otU k) (fun p S S' E x y _ _ h => otSl_re p S S' E x y h) (fun p S S' E x y h0 h1 h hf => otH_re p S S' E x y h0 h1 h hf) ?_ ?_ ?_
 · intro p i x r pt hi hlt
   rw [ot_round]
   unfold otU
   cases hb : ((i : Int) != k) <;> simp [Out.sel, hi]
 · intro p x
   rw [Out.els_sel (ot_over S k p p.ps.length x) (by simp)]
   rfl
 · intro st o r ho hr
   unfold gOtL at ho
   split at ho
   · rename_i fk n' x2 bx a p r' nx
     cases hk : Nat.beq fk 141 with
     | false => rw [hk] at ho; cases ho
     | true =>
       rw [hk] at ho
       obtain rfl := Nat.eq_of_beq_eq_true hk
       simp only [cond_true] at ho
       split at ho
       · rename_i hb
         injection ho with ho
         subst ho
         obtain ⟨rfl, _, _⟩ := unBri_ok hb
         have hh := Out.ite_bad hr
         obtain ⟨rfl, rfl, hak, hlt⟩ := of_decide_eq_true hh.1
         obtain rfl := Option.some.inj hh.2
         refine ⟨⟨_, _, _, _, _⟩, hlt, hak, rfl, fun E => ⟨⟨⟨_, rfl, rfl⟩, ⟨_, rfl, rfl⟩, ⟨_, rfl, rfl⟩, ⟨_, rfl, rfl⟩, trivial⟩, ⟨⟨_, rfl, rfl, trivial⟩, ⟨_, rfl, rfl, trivial⟩, ⟨_, rfl, rfl, trivial⟩, ⟨_, rfl, cells_foc _ _ E ⟨_, _, _, _, _⟩, focV1_fo rfl⟩, trivial⟩⟩⟩
       · cases ho
   · cases ho
noncomputable def cOt (S : Stat) (k : Int) : Ctx := withLoops (cR0 (S.w2 k 0)) [(2, onTrim 5 [1, 2, 10, 11] (gOtL k))]
theorem cOt_good (S : Stat) (k : Int) : GoodCtx (cOt S k) (fnOf 140) := good_loops cR0_fam (S.w2 k 0) [(2, onTrim 5 [1, 2, 10, 11] (gOtL k))] (by kernel_rfl) rfl fun i k' g hg => by
 match i, hg with
 | 0, hg => obtain ⟨rfl, rfl⟩ := Prod.mk.inj (Option.some.inj hg); exact gOtL_ok S k _
noncomputable def ssTo (S : Stat) (k : Int) : List (Nat × SpecFn) := (140, inl (cOt S k) 20 140) :: []
theorem ssTo_ok (S : Stat) (k : Int) : ∀ f g, (f, g) ∈ ssTo S k → SpecOk (S.w2 k 0) [] f g := specs_cons (inlL_ok (cOt_good S k) (cR0_fam.S _) Tryz.func140 (by kernel_rfl)) specs_nil
noncomputable def cTo (S : Stat) (k : Int) : Ctx := mkCtx (S.w2 k 0) [] [] (ssTo S k) 20 6
theorem cTo_good (S : Stat) (k : Int) : GoodCtx (cTo S k) (fnOf 104) := ⟨mk_full (S.w2 k 0) [] [] (ssTo S k) 20 (fun _ _ h => by cases h) (ssTo_ok S k) 6, mkCtx_win _ _ _ _ _ _, fun _ _ => LoopsOk.none (mkCtx_loop _ _ _ _ _ _) _⟩
def toldF (k : Int) (ps : List Port) : List Port := mapI (otU k) ps 0
theorem told_run (S : Stat) (k : Int) (p : MpP) : trimF 2 (inline (cTo S k) 20 (fnOf 104) [argK toOs] (focH p.b p.a p.r p.p p.ps.length p.q) 2) =
   .ite (decide (p.ps.length = p.ps.length ∧ (p.ps.length : Int) = p.ps.length ∧ p.a.length = k.toNat ∧ p.ps.length < 9223372036854775808)) (.ret (.tup [], [(0, p.b.sv (.slr 1 p.ps.length 1 p.q) (.sl 0) (.sl 1)), (1, focM (otU k) p)], 2)) .bad := by kernel_rfl
theorem told_ok : CanonOk 104 (gAll toOs toldF) := by
 refine all_ok Tryz.func104 (by kernel_rfl) fun S k p hk ha hlt => ?_
 refine ⟨cTo S k, 20, focM (otU k) p, cTo_good S k, mkCtx_S _ _ _ _ _ _, ?_, ?_, rfl⟩
 · rw [told_run]; simp only [Out.sel, ha, hlt, and_self, decide_true, if_true]
 · intro S' E hS'
   exact focM_cells S' E (otU k) p
end Go.Proofs.YtjemfkoamfnofaaGreat
