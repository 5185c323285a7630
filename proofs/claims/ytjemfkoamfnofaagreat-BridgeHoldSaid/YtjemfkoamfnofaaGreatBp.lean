import Derived.Test.YtjemfkoamfnofaaGreatBs
set_option linter.unusedVariables false
set_option maxRecDepth 100000
namespace Go.Proofs.YtjemfkoamfnofaaGreat
open Go Go.RowKit
theorem canon_wi {mk : Stat → Ctx} (hm : Fam mk) {f : FuncId} {fn : Func} (hf : Tryz.prog.funcs[f]? = some fn) (hname : ((fnOf f).name == "runtime.NumGoroutine") = false) {g : CanonFn}
   (h : ∀ (S : Stat) args H m r, (g S.ro args H m).sel = some r → bndH m H = true ∧ bndH m r.2.1 = true ∧ r.1.bnd m = true ∧ r.2.2 = m ∧ ∀ E, ∃ (S' : Stat) (i : Int) (fuel : Nat) (args0 : List SV) (H0 : Heap) (m0 : Nat) (q : SV × Heap × Nat), (H0.all fun e => !(S.ro e.1)) = true ∧
     (trimF m0 (inline (mk (S'.wt i)) fuel (fnOf f) args0 H0 m0)).sel = some q ∧ bndH m0 q.2.1 = true ∧ SV.dens S E args = SV.dens (S'.wt i) E args0 ∧ ReHeap H S (S'.wt i) E H0 ∧ q.1.den (S'.wt i) E = r.1.den S E ∧
     ∀ k x', r.2.1.get k = some x' → (∃ x, q.2.1.get k = some x ∧ x.cells (S'.wt i) E = x'.cells S E ∧ x'.foOk S) ∨ (H.get k = some x' ∧ H0.get k = none)) : CanonOk f g := by
 refine canon_write (fnOf_eq hf) hname ?_
 intro S args H m r hr
 obtain ⟨h1, h1', hvb, h2, hE⟩ := h S args H m r hr
 refine ⟨h1, by omega, fun E => ?_⟩
 obtain ⟨S', i, fuel, args0, H0, m0, q, hro, hq, hqb, hargs, hre, hv, hc⟩ := hE E
 obtain ⟨⟨v, H1, m1⟩, hrun, hb, he⟩ := trimF_sel hq
 subst he
 have hS : (mk (S'.wt i)).S = S'.wt i := hm.S _
 refine ⟨_, fuel, args0, H0, m0, v, H1, m1, good_none hm (S'.wt i), fun k => by rw [hS]; rfl, fun k x hk => by have := heap_all hro hk; simpa using this, hrun, by rw [hS]; exact hargs, by rw [hS]; exact hre, fun E' hu => ⟨?_, fun k x' hk => ?_⟩⟩
 · rw [hS, SV.den_upto _ hu v hb, SV.den_upto S (Env.glue_upto m m0 E E') r.1 hvb]; exact hv
 · have hkb := heap_all h1' hk
   simp only [Bool.and_eq_true] at hkb
   rcases hc k x' hk with ⟨x, hx, hcc, hff⟩ | h
   · have hkx := heap_all hqb hx
     simp only [Bool.and_eq_true] at hkx
     have e1 : k < m := by simpa using hkb.1
     have e2 : k < m0 := by simpa using hkx.1
     refine .inl ⟨.inl ⟨e1, e2⟩, x, by rw [show kOf m m0 k = k from by simp [kOf, e1]]; exact keepH_get hx, ?_⟩
     refine ⟨?_, hff⟩
     rw [hS, SV.cells_upto _ hu x hkx.2, SV.cells_upto S (Env.glue_upto m m0 E E') x' hkb.2]
     exact hcc
   · exact .inr h
def focH (b : Bri) (a r : List Port) (p : Port) (n : Nat) (q : Bool) : Heap := [(0, b.sv (.slr 1 n 1 q) (.sl 0) (.sl 1)), (1, .foc 0 (.port a) (.rcd (.port p)) (.port r))]
def gPort (F : Bri → Port → Port × Bool) : CanonFn := fun ro args H m => match args, H.get 0, H.get 1 with
 | [.ptr 0 0, .v (.int .i64 k)], some bx, some (.rows (.port ps)) => (match unBri bx with
   | some (b, .slr 1 n 1 q, o, f) => bif bndH m H && freeAll ro H then .ite (decide (n = ps.length) && (decide (0 ≤ k) && decide (k < n)))
       (bif bndH m (H.put 1 (.rows (.port (ps.set k.toNat (F b (ps.getD k.toNat Port.dflt)).1)))) then
         .ret (.v (.bool (F b (ps.getD k.toNat Port.dflt)).2), H.put 1 (.rows (.port (ps.set k.toNat (F b (ps.getD k.toNat Port.dflt)).1))), m) else .bad) .bad else .bad
   | _ => .bad)
 | _, _, _ => .bad
theorem portStep_ok {F : Bri → Port → Port × Bool} {mk : Stat → Ctx} (hm : Fam mk) {fk : FuncId} {fn : Func} (hfn : Tryz.prog.funcs[fk]? = some fn) (hname : ((fnOf fk).name == "runtime.NumGoroutine") = false) {fuel : Nat}
   (hrun : ∀ (S : Stat) (b : Bri) (a r : List Port) (k : Int) (p : Port) (n : Nat) (q : Bool), 0 ≤ k → k < n → ∃ v, (trimF 2 (inline (mk (S.wt k)) fuel (fnOf fk) [.ptr 0 0, .ix 0] (focH b a r p n q) 2)).sel = some (v, focH b a r (F b p).1 n q, 2) ∧ ∀ S E, v.den S E = .bool (F b p).2) : CanonOk fk (gPort F) := by
 refine canon_wi hm hfn hname ?_
 intro S args H m r hr
 unfold gPort at hr
 split at hr
 · rename_i k bx ps h0 h1
   split at hr
   · rename_i b n q o f hb
     obtain ⟨rfl, ho, hf⟩ := unBri_ok hb
     cases hbf : (bndH m H && freeAll S.ro H) with
     | false => rw [hbf] at hr; cases hr
     | true =>
       rw [hbf] at hr
       simp only [cond_true] at hr
       simp only [Bool.and_eq_true] at hbf
       obtain ⟨ht, hr2⟩ := Out.ite_bad hr
       simp only [Bool.and_eq_true, decide_eq_true_eq] at ht
       obtain ⟨rfl, hk0, hkn⟩ := ht
       have hlt : k.toNat < ps.length := by omega
       obtain ⟨a, p, r', hps, hal⟩ : ∃ a p r', ps = a ++ p :: r' ∧ a.length = k.toNat := ⟨ps.take k.toNat, ps[k.toNat], ps.drop (k.toNat + 1), by rw [← List.drop_eq_getElem_cons hlt, List.take_append_drop], by simp; omega⟩
       have hget : ps.getD k.toNat Port.dflt = p := by
         rw [hps, List.getD_eq_getElem?_getD, List.getElem?_append_right (by omega), hal]; simp
       rw [hget] at hr2
       have hset : ps.set k.toNat (F b p).1 = a ++ (F b p).1 :: r' := by
         rw [hps, ← hal, List.set_append_right _ _ (Nat.le_refl _)]; simp
       have hfoc : ∀ (S' : Stat) (E : Env) (x : Port), (SV.foc 0 (.port a) (.rcd (.port x)) (.port r')).cells S' E = (SV.rows (.port (a ++ x :: r'))).cells S E := by
         intro S' E x
         simp only [SV.cells, Rows.cells, Rec.cells]
         rw [List.flatMap_append, List.flatMap_cons]
       have hlf : ∀ E, ∃ l, ∀ S', S'.sl = (S.names l).sl → ∀ b' : Bri, (b'.sv (.slr 1 ps.length 1 q) o f).cells S E = (b'.sv (.slr 1 ps.length 1 q) (.sl 0) (.sl 1)).cells S' E := by
         intro E
         obtain ⟨q1, e1, g1⟩ := isSl_den ho S E
         obtain ⟨q2, e2, g2⟩ := isSl_den hf S E
         refine ⟨[q1, q2], fun S' hS' b' => ?_⟩
         have f0 : S'.sl 0 = q1 := by rw [hS']; rfl
         have f1 : S'.sl 1 = q2 := by rw [hS']; rfl
         simp [Bri.sv, SV.cells, SV.cellss, SV.cells_flat S E o g1, SV.cells_flat S E f g2, e1, e2, f0, f1]
       cases hb2 : bndH m (H.put 1 (.rows (.port (ps.set k.toNat (F b p).1)))) with
       | false => rw [hb2] at hr2; cases hr2
       | true =>
         rw [hb2] at hr2
         obtain rfl := Option.some.inj hr2
         refine ⟨hbf.1, hb2, rfl, rfl, fun E => ?_⟩
         obtain ⟨l, hl⟩ := hlf E
         obtain ⟨v, hv, hvd⟩ := hrun (S.names l) b a r' k p ps.length q hk0 hkn
         have hfo : ∀ x : Port, (SV.foc 0 (.port a) (.rcd (.port x)) (.port r')).foOk ((S.names l).wt k) := fun x => by
           show (k : Int).toNat = a.length
           exact hal.symm
         refine ⟨S.names l, k, fuel, [.ptr 0 0, .ix 0], focH b a r' p ps.length q, 2, _, ?_, hv, rfl, dens_cons rfl (dens_cons rfl (dens_nil _ _ _ _)), ⟨⟨_, h0, hl _ rfl b, trivial⟩, ⟨_, h1, ?_, hfo p⟩, trivial⟩, hvd _ _, fun j x' hj => ?_⟩
         · simp [focH, free_get hbf.2 h0, free_get hbf.2 h1]
         · rw [hfoc ((S.names l).wt k) E p, ← hps]
         · dsimp only at hj ⊢
           rw [Heap.get_put] at hj
           by_cases e1 : j = 1
           · subst e1
             simp only [if_true, Option.some.injEq] at hj
             subst hj
             exact .inl ⟨_, rfl, by rw [hfoc _ E, ← hset], trivial⟩
           · simp only [e1, if_false] at hj
             by_cases e0 : j = 0
             · subst e0
               rw [h0] at hj; injection hj with hj; subst hj
               exact .inl ⟨_, rfl, (hl _ rfl b).symm, trivial⟩
             · exact .inr ⟨hj, by unfold focH; rw [Heap.get_cons, if_neg e0, Heap.get_cons, if_neg e1]; rfl⟩
   · cases hr
 · cases hr
end Go.Proofs.YtjemfkoamfnofaaGreat
