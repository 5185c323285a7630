import Derived.Test.YtjemfkoamfnofaaGreatBt
set_option linter.unusedVariables false
set_option maxRecDepth 100000
namespace Go.Proofs.YtjemfkoamfnofaaGreat
open Go Go.RowKit
def gPorts (F : Bri → List Port → Int → List Port × Bool) : CanonFn := fun ro args H m => match args, H.get 0, H.get 1 with
 | [.ptr 0 0, .v (.int .i64 k)], some bx, some (.rows (.port ps)) => (match unBri bx with
   | some (b, .slr 1 n 1 q, o, f) => bif bndH m H && freeAll ro H then .ite ((decide (n = ps.length) && decide (ps.length < 9223372036854775808)) && (decide (0 ≤ k) && decide (k < n)))
       (bif bndH m (H.put 1 (.rows (.port (F b ps k).1))) then .ret (.v (.bool (F b ps k).2), H.put 1 (.rows (.port (F b ps k).1)), m) else .bad) .bad else .bad
   | _ => .bad)
 | _, _, _ => .bad
theorem portM_ok {F : Bri → List Port → Int → List Port × Bool} {fk : FuncId} {fn : Func} (hfn : Tryz.prog.funcs[fk]? = some fn) (hname : ((fnOf fk).name == "runtime.NumGoroutine") = false)
   (hrun : ∀ (S : Stat) (b : Bri) (a r : List Port) (k : Int) (p : Port) (q : Bool), 0 ≤ k → k.toNat = a.length → (a ++ p :: r).length < 9223372036854775808 → ∃ c fuel x' v, GoodCtx c (fnOf fk) ∧ c.S = S.wt k ∧
     (trimF 2 (inline c fuel (fnOf fk) [.ptr 0 0, .ix 0] (focH b a r p (a ++ p :: r).length q) 2)).sel = some (v, [(0, b.sv (.slr 1 (a ++ p :: r).length 1 q) (.sl 0) (.sl 1)), (1, x')], 2) ∧
     (∀ S E, v.den S E = .bool (F b (a ++ p :: r) k).2) ∧ (∀ S E, x'.cells S E = (SV.rows (.port (F b (a ++ p :: r) k).1)).cells S E) ∧ x'.bnd 2 = true) : CanonOk fk (gPorts F) := by
 refine canon_any hfn hname ?_
 intro S args H m r hr
 unfold gPorts at hr
 split at hr
 · rename_i k bx ps h0 h1
   split at hr
   · rename_i b n q o f hb
     obtain ⟨rfl, ho, hf⟩ := unBri_ok hb
     cases hbf : (bndH m H && freeAll S.ro H) with
     | false => rw [hbf] at hr; cases hr
     | true =>
       rw [hbf] at hr
       simp only [cond_true] at hr
       simp only [Bool.and_eq_true] at hbf
       obtain ⟨ht, hr2⟩ := Out.ite_bad hr
       simp only [Bool.and_eq_true, decide_eq_true_eq] at ht
       obtain ⟨⟨rfl, hlen⟩, hk0, hkn⟩ := ht
       have hlt : k.toNat < ps.length := by omega
       obtain ⟨a, p, r', hps, hal⟩ : ∃ a p r', ps = a ++ p :: r' ∧ a.length = k.toNat := ⟨ps.take k.toNat, ps[k.toNat], ps.drop (k.toNat + 1), by rw [← List.drop_eq_getElem_cons hlt, List.take_append_drop], by simp; omega⟩
       have hlf : ∀ E, ∃ l, ∀ S', S'.sl = (S.names l).sl → ∀ b' : Bri, (b'.sv (.slr 1 ps.length 1 q) o f).cells S E = (b'.sv (.slr 1 ps.length 1 q) (.sl 0) (.sl 1)).cells S' E := by
         intro E
         obtain ⟨q1, e1, g1⟩ := isSl_den ho S E
         obtain ⟨q2, e2, g2⟩ := isSl_den hf S E
         refine ⟨[q1, q2], fun S' hS' b' => ?_⟩
         have f0 : S'.sl 0 = q1 := by rw [hS']; rfl
         have f1 : S'.sl 1 = q2 := by rw [hS']; rfl
         simp [Bri.sv, SV.cells, SV.cellss, SV.cells_flat S E o g1, SV.cells_flat S E f g2, e1, e2, f0, f1]
       cases hb2 : bndH m (H.put 1 (.rows (.port (F b ps k).1))) with
       | false => rw [hb2] at hr2; cases hr2
       | true =>
         rw [hb2] at hr2
         obtain rfl := Option.some.inj hr2
         refine ⟨hbf.1, hb2, rfl, rfl, fun E => ?_⟩
         obtain ⟨l, hl⟩ := hlf E
         obtain ⟨c, fuel, x', v, hgood, hcS, hv, hvd, hx', hxb⟩ := hrun (S.names l) b a r' k p q hk0 hal.symm (by rw [← hps]; exact hlen)
         rw [← hps] at hv hvd hx'
         refine ⟨c, fuel, [.ptr 0 0, .ix 0], focH b a r' p ps.length q, 2, _, hgood, fun k => by rw [hcS]; rfl, ?_, hv, ?_, ?_, ?_, hvd _ _, fun j x1 hj => ?_⟩
         · simp [focH, free_get hbf.2 h0, free_get hbf.2 h1]
         · simp [bndH, Bri.sv, SV.bnd, SV.kall, SV.kalls, show SV.kall (fun c => c.blt 2) x' = true from hxb]
         · rw [hcS]; exact dens_cons rfl (dens_cons rfl (dens_nil _ _ _ _))
         · rw [hcS]
           refine ⟨⟨_, h0, hl _ rfl b, trivial⟩, ⟨_, h1, ?_, hal.symm⟩, trivial⟩
           rw [hps]
           simp only [SV.cells, Rows.cells, Rec.cells]
           rw [List.flatMap_append, List.flatMap_cons]
         · rw [hcS]
           dsimp only at hj ⊢
           rw [Heap.get_put] at hj
           by_cases e1 : j = 1
           · subst e1
             simp only [if_true, Option.some.injEq] at hj
             subst hj
             exact .inl ⟨_, rfl, by rw [hx' _ E]; rfl, trivial⟩
           · simp only [e1, if_false] at hj
             by_cases e0 : j = 0
             · subst e0
               rw [h0] at hj; injection hj with hj; subst hj
               exact .inl ⟨_, rfl, (hl _ rfl b).symm, trivial⟩
             · exact .inr ⟨hj, by unfold focH; rw [Heap.get_cons, if_neg e0, Heap.get_cons, if_neg e1]; rfl⟩
   · cases hr
 · cases hr
def stE (p : Port) : Nat := if p.states.trans = 0 then 0 else if p.states.trans = 1 then 1 else if p.states.trans = 2 then 2 else if p.states.trans = 3 then 3 else if p.states.trans = 4 then 4 else if p.states.trans = 5 then 5 else 6
def trR (b : Bri) (ps : List Port) (k : Int) (p : Port) : TrR := if (!p.flags.selected || p.flags.updtInfo) = true then .no else pick (rolesL b p ++ statesL (stE p) b ps k p)
def trX (k : Int) (ps : List Port) : TrR → List Port × Bool
 | .no => (ps, false)
 | .one p => (ps.set k.toNat p, true)
 | .oneT p => (ps.set k.toNat p, true)
 | .syncs => (syncsF k ps, true)
 | .reRoots => (reRootsF k ps, true)
def transF (b : Bri) (ps : List Port) (k : Int) : List Port × Bool := trX k ps (trR b ps k (ps.getD k.toNat Port.dflt))
theorem foc_set (S S' : Stat) (E : Env) (a r : List Port) (p x : Port) (k : Int) (hk : k.toNat = a.length) : (SV.foc 0 (.port a) (.rcd (.port x)) (.port r)).cells S E = (SV.rows (.port ((a ++ p :: r).set k.toNat x))).cells S' E := by
 rw [hk, List.set_append_right _ _ (Nat.le_refl _)]
 simp only [Nat.sub_self, List.set_cons_zero, SV.cells, Rows.cells, Rec.cells]
 rw [List.flatMap_append, List.flatMap_cons]
def trV (a r : List Port) (k : Int) (p : Port) : TrR → SV
 | .no => .foc 0 (.port a) (.rcd (.port p)) (.port r)
 | .one p' => .foc 0 (.port a) (.rcd (.port p')) (.port r)
 | .oneT p' => .foc 0 (.port a) (.rcd (.port p')) (.port r)
 | .syncs => .rows (.port (syncsF k (a ++ p :: r)))
 | .reRoots => .rows (.port (reRootsF k (a ++ p :: r)))
theorem tr_sel (e : Nat) (b : Bri) (a r : List Port) (k : Int) (p : Port) (q : Bool) (h0 : 0 ≤ k) (hk : k.toNat = a.length) (hlt : (a ++ p :: r).length < 9223372036854775808) (he : stE p = e) :
   ∃ x', (trT e b a r k p (a ++ p :: r).length q).sel = some (.kb (transF b (a ++ p :: r) k).2, [(0, b.sv (.slr 1 (a ++ p :: r).length 1 q) (.sl 0) (.sl 1)), (1, x')], 2) ∧
     (∀ S E, x'.cells S E = (SV.rows (.port (transF b (a ++ p :: r) k).1)).cells S E) ∧ x'.bnd 2 = true := by
 have hn : k < ((a ++ p :: r).length : Int) := by simp only [List.length_append, List.length_cons]; omega
 have h1 : tkB (a ++ p :: r).length k = true := by simp only [tkB, h0, hn, decide_true, Bool.and_self]
 have h2 : tlB (a ++ p :: r).length (a ++ p :: r) = true := by simp only [tlB, true_and, decide_eq_true_eq]; exact hlt
 have h3 : taB (a ++ p :: r).length k (a ++ p :: r) = true := by simp only [taB, h1, decide_true, Bool.true_and, Bool.and_true, decide_eq_true_eq]; exact hlt
 have hs : sureB e (a ++ p :: r).length (a ++ p :: r) k p.states.trans = true := by
   subst he
   unfold stE
   repeat' split
   all_goals (simp_all [sureB])
 have hp : (a ++ p :: r).getD k.toNat Port.dflt = p := by rw [hk]; exact getD_mid _ _ _ _
 have key : ∀ x, (trK b a r k p (a ++ p :: r).length q x).sel = some (.kb (trX k (a ++ p :: r) x).2, [(0, b.sv (.slr 1 (a ++ p :: r).length 1 q) (.sl 0) (.sl 1)), (1, trV a r k p x)], 2) := by
   intro x
   cases x <;> simp only [trK, Out.sel, h1, h3, if_true] <;> rfl
 refine ⟨trV a r k p (trR b (a ++ p :: r) k p), ?_, ?_, ?_⟩
 rotate_left
 · intro S E
   unfold transF
   rw [hp]
   cases trR b (a ++ p :: r) k p with
   | no =>
     simp only [trV, trX, SV.cells, Rows.cells, Rec.cells]
     rw [List.flatMap_append, List.flatMap_cons]
   | one x => exact foc_set S S E a r p x k hk
   | oneT x => exact foc_set S S E a r p x k hk
   | syncs => rfl
   | reRoots => rfl
 · cases trR b (a ++ p :: r) k p <;> rfl
 · unfold trT transF
   rw [hp]
   simp only [Out.sel, h1, hs, if_true, chainT_sel]
   unfold trR
   rw [he]
   split
   · exact key .no
   · exact key _
theorem trans_ok : CanonOk 51 (gPorts transF) := by
 refine portM_ok Tryz.func51 (by kernel_rfl) fun S b a r k p q h0 hk hlt => ?_
 obtain ⟨x', hx, hc, hb⟩ := tr_sel (stE p) b a r k p q h0 hk hlt rfl
 refine ⟨cT3 (stE p) (S.wt k), 60, x', .kb (transF b (a ++ p :: r) k).2, good_none (cT3_fam (stE p)) (S.wt k), (cT3_fam (stE p)).S _, ?_, fun _ _ => rfl, hc, hb⟩
 rw [← hx]
 have : stE p = 0 ∨ stE p = 1 ∨ stE p = 2 ∨ stE p = 3 ∨ stE p = 4 ∨ stE p = 5 ∨ stE p = 6 := by
   unfold stE
   repeat' split
   all_goals simp
 rcases this with h | h | h | h | h | h | h <;> rw [h]
 · rw [tr_run0]
 · rw [tr_run1]
 · rw [tr_run2]
 · rw [tr_run3]
 · rw [tr_run4]
 · rw [tr_run5]
 · rw [tr_run6]
end Go.Proofs.YtjemfkoamfnofaaGreat
