import Derived.Test.YtjemfkoamfnofaaGreatBi
set_option linter.unusedVariables false
set_option maxRecDepth 100000
namespace Go.Proofs.YtjemfkoamfnofaaGreat
section
open Go Go.RowKit
def Out.tot {α : Type} : Out α → Bool
 | .ret _ => true
 | .ite _ t e => t.tot && e.tot
 | .bad => false
def Out.get {α : Type} (d : α) : Out α → α
 | .ret x => x
 | .ite b t e => if b = true then t.get d else e.get d
 | .bad => d
theorem Out.tot_sel {α : Type} (d : α) : ∀ {o : Out α}, o.tot = true → o.sel = some (o.get d)
 | .ret _, _ => rfl
 | .ite b t e, h => by
   simp only [Out.tot, Bool.and_eq_true] at h
   cases b
   · simpa [Out.sel, Out.get] using Out.tot_sel d h.2
   · simpa [Out.sel, Out.get] using Out.tot_sel d h.1
 | .bad, h => by cases h
theorem portT_ok {T : Bri → Port → Out (Port × Bool)} (htot : ∀ b p, (T b p).tot = true) {mk : Stat → Ctx} (hm : Fam mk) {fk : FuncId} {fn : Func} (hfn : Tryz.prog.funcs[fk]? = some fn) (hname : ((fnOf fk).name == "runtime.NumGoroutine") = false) {fuel : Nat}
   (hrun : ∀ (S : Stat) (b : Bri) (a r : List Port) (k : Int) (p : Port) (n : Nat) (q : Bool), trimF 2 (inline (mk (S.wt k)) fuel (fnOf fk) [.ptr 0 0, .ix 0] (focH b a r p n q) 2) = .ite (decide (0 ≤ k) && decide (k < n)) ((T b p).bind (stepOut b a r n q)) .bad) :
   CanonOk fk (gPort fun b p => (T b p).get (p, false)) := portStep_ok hm hfn hname (fuel := fuel) (by
 intro S b a r k p n q h0 h1
 refine ⟨.kb ((T b p).get (p, false)).2, ?_, fun _ _ => rfl⟩
 rw [hrun]
 simp only [Out.sel, h0, h1, decide_true, Bool.and_self, if_true, Out.sel_bind, Out.tot_sel (p, false) (htot b p), Option.bind_some]
 rfl)
noncomputable def psM (S : Stat) : List (Nat × ReadFn) := auto psE S 81 :: auto psE S 83 :: auto psE S 85 :: auto psE S 86 :: auto psE S 88 :: auto psE S 63 :: auto psE S 64 :: auto psE S 69 :: psE S
theorem psM_ok (S : Stat) : ReadsOk S [] (psM S) := .auto psE_ok <| .auto psE_ok <| .auto psE_ok <| .auto psE_ok <| .auto psE_ok <| .auto psE_ok <| .auto psE_ok <| .auto psE_ok <| psE_ok S
noncomputable def cM (S : Stat) : Ctx := mkCtx S [] (psM S) [] 20 6
theorem cM_fam : Fam cM := fam_of (ss := fun _ => []) psM_ok (fun S f g h => by cases h)
def discardP (p : Port) : Port := { p with flags := { p.flags with rcvdBpdu := false, rcvdRst := false, rcvdStp := false, rcvdMsg := false }, clocks := { p.clocks with edgeDelay := 3 }, states := { p.states with rx := 0 } }
def receiveP (p : Port) : Port := { p with flags := { p.flags with operEdge := false, rcvdBpdu := false, rcvdMsg := true }, clocks := { p.clocks with edgeDelay := 3 }, states := { p.states with rx := 1 } }
def receiveT (p : Port) : Out (Port × Bool) := .ite (p.msg.kind == 2) (.ret (receiveP { p with flags := { p.flags with rcvdRst := true } }, true)) (.ret (receiveP { p with flags := { p.flags with rcvdStp := true } }, true))
def rxT (_ : Bri) (p : Port) : Out (Port × Bool) :=
 .ite (!p.enabled && (p.flags.rcvdBpdu || p.clocks.edgeDelay != 3)) (.ret (discardP p, true))
 (.ite (p.states.rx == 0 && p.flags.rcvdBpdu && p.enabled) (receiveT p)
 (.ite (p.states.rx == 1 && p.flags.rcvdBpdu && p.enabled && !p.flags.rcvdMsg) (receiveT p) (.ret (p, false))))
theorem rx_ok : CanonOk 47 (gPort fun b p => (rxT b p).get (p, false)) := portT_ok (fun _ _ => rfl) cM_fam Tryz.func47 (by kernel_rfl) (fuel := 20) (fun S b a r k p n q => by kernel_rfl)
def checkP (rst : Bool) (p : Port) : Port := { p with flags := { p.flags with mcheck := false, sendRst := rst }, clocks := { p.clocks with mdelay := 3 }, states := { p.states with mig := 0 } }
def senseP (p : Port) : Port := { p with flags := { p.flags with rcvdRst := false, rcvdStp := false }, states := { p.states with mig := 2 } }
def chooseP (p : Port) : Port := { p with flags := { p.flags with sendRst := false }, clocks := { p.clocks with mdelay := 3 }, states := { p.states with mig := 1 } }
def migT (b : Bri) (p : Port) : Out (Port × Bool) :=
 .ite (p.states.mig == 0 && p.clocks.mdelay == 0) (.ret (senseP p, true))
 (.ite (p.states.mig == 0 && (p.clocks.mdelay != 3 && !p.enabled)) (.ret (checkP b.rst p, true))
 (.ite (p.states.mig == 2 && (!p.enabled || p.flags.mcheck || b.rst && p.flags.rcvdRst && !p.flags.sendRst)) (.ret (checkP b.rst p, true))
 (.ite (p.states.mig == 2 && (p.flags.sendRst && p.flags.rcvdStp)) (.ret (chooseP p, true))
 (.ite (p.states.mig == 1 && (p.clocks.mdelay == 0 || !p.enabled || p.flags.mcheck)) (.ret (senseP p, true)) (.ret (p, false))))))
theorem mig_ok : CanonOk 48 (gPort fun b p => (migT b p).get (p, false)) := portT_ok (fun _ _ => rfl) cM_fam Tryz.func48 (by kernel_rfl) (fuel := 20) (fun S b a r k p n q => by kernel_rfl)
def passP (p : Port) (l f : Bool) (s : Int) : Port := { p with flags := { p.flags with learning := l, forwarding := f }, states := { p.states with pass := s } }
def passT (_ : Bri) (p : Port) : Out (Port × Bool) :=
 .ite (p.states.pass == 0 && p.flags.learn) (.ret (passP p true p.flags.forwarding 1, true))
 (.ite (p.states.pass == 1 && !p.flags.learn) (.ret (passP p false false 0, true))
 (.ite (p.states.pass == 1 && p.flags.forward) (.ret (passP p p.flags.learning true 2, true))
 (.ite (p.states.pass == 2 && !p.flags.forward) (.ret (passP p false false 0, true)) (.ret (p, false)))))
theorem pass_ok : CanonOk 52 (gPort fun b p => (passT b p).get (p, false)) := portT_ok (fun _ _ => rfl) cM_fam Tryz.func52 (by kernel_rfl) (fuel := 20) (fun S b a r k p n q => by kernel_rfl)
end
section
open Go Go.RowKit
theorem canon_any {f : FuncId} {fn : Func} (hf : Tryz.prog.funcs[f]? = some fn) (hname : ((fnOf f).name == "runtime.NumGoroutine") = false) {g : CanonFn}
   (h : ∀ (S : Stat) args H m r, (g S.ro args H m).sel = some r → bndH m H = true ∧ bndH m r.2.1 = true ∧ r.1.bnd m = true ∧ r.2.2 = m ∧ ∀ E, ∃ (c : Ctx) (fuel : Nat) (args0 : List SV) (H0 : Heap) (m0 : Nat) (q : SV × Heap × Nat), GoodCtx c (fnOf f) ∧ (∀ k, c.S.ro k = false) ∧ (H0.all fun e => !(S.ro e.1)) = true ∧
     (trimF m0 (inline c fuel (fnOf f) args0 H0 m0)).sel = some q ∧ bndH m0 q.2.1 = true ∧ SV.dens S E args = SV.dens c.S E args0 ∧ ReHeap H S c.S E H0 ∧ q.1.den c.S E = r.1.den S E ∧
     ∀ k x', r.2.1.get k = some x' → (∃ x, q.2.1.get k = some x ∧ x.cells c.S E = x'.cells S E ∧ x'.foOk S) ∨ (H.get k = some x' ∧ H0.get k = none)) : CanonOk f g := by
 refine canon_write (fnOf_eq hf) hname ?_
 intro S args H m r hr
 obtain ⟨h1, h1', hvb, h2, hE⟩ := h S args H m r hr
 refine ⟨h1, by omega, fun E => ?_⟩
 obtain ⟨c, fuel, args0, H0, m0, q, hgood, hcro, hro, hq, hqb, hargs, hre, hv, hc⟩ := hE E
 obtain ⟨⟨v, H1, m1⟩, hrun, hb, he⟩ := trimF_sel hq
 subst he
 refine ⟨c, fuel, args0, H0, m0, v, H1, m1, hgood, hcro, fun k x hk => by have := heap_all hro hk; simpa using this, hrun, hargs, hre, fun E' hu => ⟨?_, fun k x' hk => ?_⟩⟩
 · rw [SV.den_upto _ hu v hb, SV.den_upto S (Env.glue_upto m m0 E E') r.1 hvb]; exact hv
 · have hkb := heap_all h1' hk
   simp only [Bool.and_eq_true] at hkb
   rcases hc k x' hk with ⟨x, hx, hcc, hff⟩ | h
   · have hkx := heap_all hqb hx
     simp only [Bool.and_eq_true] at hkx
     have e1 : k < m := by simpa using hkb.1
     have e2 : k < m0 := by simpa using hkx.1
     refine .inl ⟨.inl ⟨e1, e2⟩, x, by rw [show kOf m m0 k = k from by simp [kOf, e1]]; exact keepH_get hx, ?_⟩
     refine ⟨?_, hff⟩
     rw [SV.cells_upto _ hu x hkx.2, SV.cells_upto S (Env.glue_upto m m0 E E') x' hkb.2]
     exact hcc
   · exact .inr h
def focX (b : Bri) (a r : List Port) (x : SV) (n : Nat) (q : Bool) : Heap := [(0, b.sv (.slr 1 n 1 q) (.sl 0) (.sl 1)), (1, .foc 0 (.port a) x (.port r))]
theorem portX_ok {F : Bri → Port → Port × Bool} {fk : FuncId} {fn : Func} (hfn : Tryz.prog.funcs[fk]? = some fn) (hname : ((fnOf fk).name == "runtime.NumGoroutine") = false)
   (hrun : ∀ (S : Stat) (b : Bri) (a r : List Port) (k : Int) (p : Port) (n : Nat) (q : Bool), 0 ≤ k → k < n → ∃ c fuel x x' v, GoodCtx c (fnOf fk) ∧ c.S = S.wt k ∧ (trimF 2 (inline c fuel (fnOf fk) [.ptr 0 0, .ix 0] (focX b a r x n q) 2)).sel = some (v, focX b a r x' n q, 2) ∧
     (∀ S E, v.den S E = .bool (F b p).2) ∧ (∀ S E, x.cells S E = (SV.rcd (.port p)).cells S E) ∧ (∀ S E, x'.cells S E = (SV.rcd (.port (F b p).1)).cells S E) ∧ x'.bnd 2 = true) : CanonOk fk (gPort F) := by
 refine canon_any hfn hname ?_
 intro S args H m r hr
 unfold gPort at hr
 split at hr
 · rename_i k bx ps h0 h1
   split at hr
   · rename_i b n q o f hb
     obtain ⟨rfl, ho, hf⟩ := unBri_ok hb
     cases hbf : (bndH m H && freeAll S.ro H) with
     | false => rw [hbf] at hr; cases hr
     | true =>
       rw [hbf] at hr
       simp only [cond_true] at hr
       simp only [Bool.and_eq_true] at hbf
       obtain ⟨ht, hr2⟩ := Out.ite_bad hr
       simp only [Bool.and_eq_true, decide_eq_true_eq] at ht
       obtain ⟨rfl, hk0, hkn⟩ := ht
       have hlt : k.toNat < ps.length := by omega
       obtain ⟨a, p, r', hps, hal⟩ : ∃ a p r', ps = a ++ p :: r' ∧ a.length = k.toNat := ⟨ps.take k.toNat, ps[k.toNat], ps.drop (k.toNat + 1), by rw [← List.drop_eq_getElem_cons hlt, List.take_append_drop], by simp; omega⟩
       have hget : ps.getD k.toNat Port.dflt = p := by
         rw [hps, List.getD_eq_getElem?_getD, List.getElem?_append_right (by omega), hal]; simp
       rw [hget] at hr2
       have hset : ps.set k.toNat (F b p).1 = a ++ (F b p).1 :: r' := by
         rw [hps, ← hal, List.set_append_right _ _ (Nat.le_refl _)]; simp
       have hfoc : ∀ (S' : Stat) (E : Env) (y : SV) (x : Port), (∀ S E, y.cells S E = (SV.rcd (.port x)).cells S E) → (SV.foc 0 (.port a) y (.port r')).cells S' E = (SV.rows (.port (a ++ x :: r'))).cells S E := by
         intro S' E y x hy
         simp only [SV.cells, Rows.cells]
         rw [hy]
         simp only [SV.cells, Rec.cells]
         rw [List.flatMap_append, List.flatMap_cons]
       have hlf : ∀ E, ∃ l, ∀ S', S'.sl = (S.names l).sl → ∀ b' : Bri, (b'.sv (.slr 1 ps.length 1 q) o f).cells S E = (b'.sv (.slr 1 ps.length 1 q) (.sl 0) (.sl 1)).cells S' E := by
         intro E
         obtain ⟨q1, e1, g1⟩ := isSl_den ho S E
         obtain ⟨q2, e2, g2⟩ := isSl_den hf S E
         refine ⟨[q1, q2], fun S' hS' b' => ?_⟩
         have f0 : S'.sl 0 = q1 := by rw [hS']; rfl
         have f1 : S'.sl 1 = q2 := by rw [hS']; rfl
         simp [Bri.sv, SV.cells, SV.cellss, SV.cells_flat S E o g1, SV.cells_flat S E f g2, e1, e2, f0, f1]
       cases hb2 : bndH m (H.put 1 (.rows (.port (ps.set k.toNat (F b p).1)))) with
       | false => rw [hb2] at hr2; cases hr2
       | true =>
         rw [hb2] at hr2
         obtain rfl := Option.some.inj hr2
         refine ⟨hbf.1, hb2, rfl, rfl, fun E => ?_⟩
         obtain ⟨l, hl⟩ := hlf E
         obtain ⟨c, fuel, x, x', v, hgood, hcS, hv, hvd, hx, hx', hxb⟩ := hrun (S.names l) b a r' k p ps.length q hk0 hkn
         have hfo : ∀ y, (SV.foc 0 (.port a) y (.port r')).foOk ((S.names l).wt k) := fun y => by
           show (k : Int).toNat = a.length
           exact hal.symm
         refine ⟨c, fuel, [.ptr 0 0, .ix 0], focX b a r' x ps.length q, 2, _, hgood, fun k => by rw [hcS]; rfl, ?_, hv, ?_, ?_, ?_, hvd _ _, fun j x1 hj => ?_⟩
         · simp [focX, free_get hbf.2 h0, free_get hbf.2 h1]
         · simp [bndH, focX, Bri.sv, SV.bnd, SV.kall, SV.kalls, show SV.kall (fun c => c.blt 2) x' = true from hxb]
         · rw [hcS]; exact dens_cons rfl (dens_cons rfl (dens_nil _ _ _ _))
         · rw [hcS]
           refine ⟨⟨_, h0, hl _ rfl b, trivial⟩, ⟨_, h1, ?_, hfo x⟩, trivial⟩
           rw [hfoc ((S.names l).wt k) E x p hx, ← hps]
         · rw [hcS]
           dsimp only at hj ⊢
           rw [Heap.get_put] at hj
           by_cases e1 : j = 1
           · subst e1
             simp only [if_true, Option.some.injEq] at hj
             subst hj
             exact .inl ⟨_, rfl, by rw [hfoc _ E x' _ hx', ← hset], trivial⟩
           · simp only [e1, if_false] at hj
             by_cases e0 : j = 0
             · subst e0
               rw [h0] at hj; injection hj with hj; subst hj
               exact .inl ⟨_, rfl, (hl _ rfl b).symm, trivial⟩
             · exact .inr ⟨hj, by unfold focX; rw [Heap.get_cons, if_neg e0, Heap.get_cons, if_neg e1]; rfl⟩
   · cases hr
 · cases hr
def edgeV (p : Port) (e : Int) : SV := .agg [.v (.int .u16 p.id), .v (.int .u32 p.cost), .v (.bool p.enabled), .v (.bool p.shared), .v (.bool p.admin), .v (.bool p.auto), .rcd (.clocks p.clocks),
 .agg [.v (.int .i64 p.states.rx), .v (.int .i64 p.states.mig), .ki .i64 e, .v (.int .i64 p.states.info), .v (.int .i64 p.states.trans), .v (.int .i64 p.states.pass), .v (.int .i64 p.states.topo)],
 .rcd (.flags p.flags), .rcd (.msg p.msg), .rcd (.vec p.vec), .rcd (.vec p.designated), .rcd (.times p.times), .rcd (.times p.desTimes), .v (.int .i64 p.is_), .v (.int .i64 p.role), .v (.int .i64 p.selected)]
def leavesB (p : Port) : Bool := !p.flags.operEdge || !p.enabled && !p.admin
def entersB (p : Port) : Bool := if (!p.enabled && p.admin) = true then true else p.clocks.edgeDelay == 0 && p.auto && p.flags.sendRst && p.flags.proposing
def edgeP (p : Port) (e : Int) (o : Bool) : Port := { p with states := { p.states with edge := e }, flags := { p.flags with operEdge := o } }
def edgeT (_ : Bri) (p : Port) : Out (Port × Bool) :=
 .ite (p.states.edge == 0) (.ite (leavesB p) (.ret (edgeP p 1 false, true)) (.ret (p, false)))
 (.ite (p.states.edge == 1) (.ite (entersB p) (.ret (edgeP p 0 true, true)) (.ret (p, false))) (.ret (p, false)))
theorem edge_run0 (S : Stat) (b : Bri) (a r : List Port) (k : Int) (p : Port) (n : Nat) (q : Bool) : trimF 2 (inline (cM (S.wt k)) 20 (fnOf 49) [.ptr 0 0, .ix 0] (focX b a r (edgeV p 0) n q) 2) =
   .ite (decide (0 ≤ k) && decide (k < n)) (.ite (!(leavesB p)) (.ret (.kb false, focX b a r (edgeV p 0) n q, 2)) (.ret (.kb true, focX b a r (edgeV (edgeP p 1 false) 1) n q, 2))) .bad := by kernel_rfl
theorem edge_run1 (S : Stat) (b : Bri) (a r : List Port) (k : Int) (p : Port) (n : Nat) (q : Bool) : trimF 2 (inline (cM (S.wt k)) 20 (fnOf 49) [.ptr 0 0, .ix 0] (focX b a r (edgeV p 1) n q) 2) =
   .ite (decide (0 ≤ k) && decide (k < n)) (.ite (!(entersB p)) (.ret (.kb false, focX b a r (edgeV p 1) n q, 2)) (.ret (.kb true, focX b a r (edgeV (edgeP p 0 true) 0) n q, 2))) .bad := by kernel_rfl
theorem edge_run2 (S : Stat) (b : Bri) (a r : List Port) (k : Int) (p : Port) (n : Nat) (q : Bool) : trimF 2 (inline (sureC (cM (S.wt k)) [(25, true)]) 20 (fnOf 49) [.ptr 0 0, .ix 0] (focX b a r (.rcd (.port p)) n q) 2) =
   .ite (decide (0 ≤ k) && decide (k < n)) (.ite ((decide (p.states.edge < 0) || decide (p.states.edge ≥ 2)) == true) (.ret (.kb false, focX b a r (.rcd (.port p)) n q, 2)) .bad) .bad := by kernel_rfl
theorem edgeV_cells (p : Port) (S : Stat) (E : Env) : (edgeV p p.states.edge).cells S E = (SV.rcd (.port p)).cells S E := by kernel_rfl
theorem edge_ok : CanonOk 49 (gPort fun b p => (edgeT b p).get (p, false)) := by
 refine portX_ok Tryz.func49 (by kernel_rfl) fun S b a r k p n q h0 h1 => ?_
 have hk : (decide (0 ≤ k) && decide (k < n)) = true := by simp [h0, h1]
 have hg := good_none (f := 49) cM_fam (S.wt k)
 by_cases e0 : p.states.edge = 0
 · have hx : ∀ S E, (edgeV p 0).cells S E = (SV.rcd (.port p)).cells S E := fun S E => by rw [← e0]; exact edgeV_cells p S E
   have hT : edgeT b p = .ite true (.ite (leavesB p) (.ret (edgeP p 1 false, true)) (.ret (p, false))) (.ite (p.states.edge == 1) (.ite (entersB p) (.ret (edgeP p 0 true, true)) (.ret (p, false))) (.ret (p, false))) := by unfold edgeT; rw [e0]; rfl
   cases hl : leavesB p with
   | true =>
     have hr : (edgeT b p).get (p, false) = (edgeP p 1 false, true) := by rw [hT, hl]; rfl
     refine ⟨_, 20, edgeV p 0, edgeV (edgeP p 1 false) 1, .kb true, hg, cM_fam.S _, ?_, fun _ _ => by rw [hr]; rfl, hx, fun S E => by rw [hr]; exact edgeV_cells (edgeP p 1 false) S E, rfl⟩
     rw [edge_run0, hk, hl]; rfl
   | false =>
     have hr : (edgeT b p).get (p, false) = (p, false) := by rw [hT, hl]; rfl
     refine ⟨_, 20, edgeV p 0, edgeV p 0, .kb false, hg, cM_fam.S _, ?_, fun _ _ => by rw [hr]; rfl, hx, fun S E => by rw [hr]; exact hx S E, rfl⟩
     rw [edge_run0, hk, hl]; rfl
 · have b0 : (p.states.edge == 0) = false := by simpa using e0
   by_cases e1 : p.states.edge = 1
   · have hx : ∀ S E, (edgeV p 1).cells S E = (SV.rcd (.port p)).cells S E := fun S E => by rw [← e1]; exact edgeV_cells p S E
     have hT : edgeT b p = .ite false (.ite (leavesB p) (.ret (edgeP p 1 false, true)) (.ret (p, false))) (.ite true (.ite (entersB p) (.ret (edgeP p 0 true, true)) (.ret (p, false))) (.ret (p, false))) := by unfold edgeT; rw [b0, e1]; rfl
     cases hl : entersB p with
     | true =>
       have hr : (edgeT b p).get (p, false) = (edgeP p 0 true, true) := by rw [hT, hl]; rfl
       refine ⟨_, 20, edgeV p 1, edgeV (edgeP p 0 true) 0, .kb true, hg, cM_fam.S _, ?_, fun _ _ => by rw [hr]; rfl, hx, fun S E => by rw [hr]; exact edgeV_cells (edgeP p 0 true) S E, rfl⟩
       rw [edge_run1, hk, hl]; rfl
     | false =>
       have hr : (edgeT b p).get (p, false) = (p, false) := by rw [hT, hl]; rfl
       refine ⟨_, 20, edgeV p 1, edgeV p 1, .kb false, hg, cM_fam.S _, ?_, fun _ _ => by rw [hr]; rfl, hx, fun S E => by rw [hr]; exact hx S E, rfl⟩
       rw [edge_run1, hk, hl]; rfl
   · have b1 : (p.states.edge == 1) = false := by simpa using e1
     have hr : (edgeT b p).get (p, false) = (p, false) := by unfold edgeT; rw [b0, b1]; rfl
     have ht : ((decide (p.states.edge < 0) || decide (p.states.edge ≥ 2)) == true) = true := by
       simp only [beq_true, Bool.or_eq_true, decide_eq_true_eq]; omega
     refine ⟨_, 20, .rcd (.port p), .rcd (.port p), .kb false, good_none (f := 49) (sure_fam cM_fam [(25, true)]) (S.wt k), (sure_fam cM_fam [(25, true)]).S _, ?_, fun _ _ => by rw [hr]; rfl, fun _ _ => rfl, fun S E => by rw [hr], rfl⟩
     rw [edge_run2, hk, ht]; rfl
end
end Go.Proofs.YtjemfkoamfnofaaGreat
