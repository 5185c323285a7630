import Derived.Test.YtjemfkoamfnofaaGreatBf
import Derived.Test.YtjemfkoamfnofaaGreatBk
set_option linter.unusedVariables false
set_option maxRecDepth 100000
namespace Go.Proofs.YtjemfkoamfnofaaGreat
open Go Go.RowKit
def fullH (b : Bri) (a r : List Port) (p : Port) (n : Nat) (q : Bool) (out : List Sent) (fl : List Int) : Heap := [(0, b.sv (.slr 1 n 1 q) (.slr 2 out.length 2 false) (.slr 3 fl.length 3 false)), (1, .foc 0 (.port a) (.rcd (.port p)) (.port r)), (2, .rows (.sent out)), (3, .rows (.int .i64 fl))]
def trimR (ks : List Nat) (o : Out (SV × Heap × Nat)) : Out (SV × Heap × Nat) := o.bind fun r => .ret (r.1, keepC r.2.1 ks, 0)
theorem trimR_sel {ks : List Nat} {o : Out (SV × Heap × Nat)} {v : SV} {H : Heap} (h : (trimR ks o).sel = some (v, H, 0)) : ∃ H1 m1, o.sel = some (v, H1, m1) ∧ ∀ k x, H.get k = some x → H1.get k = some x := by
 unfold trimR at h
 rw [Out.sel_bind] at h
 cases h0 : o.sel with
 | none => rw [h0] at h; cases h
 | some r =>
   rw [h0] at h
   simp only [Option.bind_some, Out.sel, Option.some.injEq, Prod.mk.injEq] at h
   obtain ⟨rfl, rfl, _⟩ := h
   exact ⟨r.2.1, r.2.2, rfl, fun k x hk => keepC_get hk⟩
theorem full_ok {F : BS → Int → BS × Bool} {fk : FuncId} {fn : Func} (hfn : Tryz.prog.funcs[fk]? = some fn) (hname : ((fnOf fk).name == "runtime.NumGoroutine") = false)
   (hrun : ∀ (S : Stat) (s : BS) (a r : List Port) (k : Int) (p : Port) (q : Bool), 0 ≤ k → k.toNat = a.length → s.ps = a ++ p :: r → roomB s = true → ∃ c fuel v H1 m1 k2 k3, GoodCtx c (fnOf fk) ∧ c.S = S.wt k ∧
     (inline c fuel (fnOf fk) [.ptr 0 0, .ix 0] (fullH s.b a r p s.ps.length q s.out s.fl) 4).sel = some (v, H1, m1) ∧
     ∀ S' E', Told (S.wt k) S' (v, H1, m1) (.v (.bool (F s k).2), bsH' (F s k).1 s.ps.length q, 6) 4 E' (movE E' k2 k3) (movR k2 k3)) : CanonOk fk (gM F) := by
 refine canon_free hfn hname fun S args H m r' hr => ?_
 obtain ⟨rest, k, s, q, rfl, ha, rfl, rfl, hfree, hC, hl, rfl⟩ := gBS_some hr
 obtain rfl := argI_some ha
 simp only [cK, Bool.and_eq_true, decide_eq_true_eq] at hC
 obtain ⟨hroom, h0, hn⟩ := hC
 refine ⟨Nat.le_add_right 4 2, fun E => ?_⟩
 have hlt : k.toNat < s.ps.length := by omega
 obtain ⟨a, p, r, hps, hal⟩ : ∃ a p r', s.ps = a ++ p :: r' ∧ a.length = k.toNat := ⟨s.ps.take k.toNat, s.ps[k.toNat], s.ps.drop (k.toNat + 1), by rw [← List.drop_eq_getElem_cons hlt, List.take_append_drop], by simp; omega⟩
 obtain ⟨c, fuel, v, H1, m1, k2, k3, hgood, hcS, hrn, hT⟩ := hrun S s a r k p q h0 hal.symm hps hroom
 refine ⟨c, fuel, [.ptr 0 0, .ix 0], fullH s.b a r p s.ps.length q s.out s.fl, _, hgood, fun k => by rw [hcS]; rfl, fun j x hj => ?_, hrn, ?_, ?_, fun E' hu => ⟨movE E' k2 k3, movR k2 k3, ?_⟩⟩
 · refine free_lt hfree j ?_
   unfold fullH at hj
   simp only [Heap.get_cons] at hj
   by_cases e0 : j = 0
   · omega
   · by_cases e1 : j = 1
     · omega
     · by_cases e2 : j = 2
       · omega
       · by_cases e3 : j = 3
         · omega
         · simp [e0, e1, e2, e3, Heap.get] at hj
 · rw [hcS]; exact dens_cons rfl (dens_cons rfl (dens_nil _ _ _ _))
 · rw [hcS]
   refine ⟨⟨_, rfl, rfl, trivial⟩, ⟨_, rfl, ?_, hal.symm⟩, ⟨_, rfl, rfl, trivial⟩, ⟨_, rfl, rfl, trivial⟩, trivial⟩
   rw [hps]
   simp only [SV.cells, Rows.cells, Rec.cells]
   rw [List.flatMap_append, List.flatMap_cons]
 · rw [hcS]
   exact hT S E'
noncomputable def psX (S : Stat) : List (Nat × ReadFn) := auto ps0 S 75 :: []
theorem psX_ok (S : Stat) : ReadsOk S [] (psX S) := .auto ps0_ok <| .nil S []
noncomputable def cX (S : Stat) : Ctx := mkCtx S [] (psX S) [] 60 4
theorem cX_fam : Fam cX := mk_fam psX (fun _ => []) 60 4 psX_ok (fun _ _ _ h => by cases h)
def sdR (k : Int) (p : Port) : Sent := ⟨k, ⟨2, p.clocks.tc != 0, false, p.flags.proposing, p.flags.agree, p.flags.learning, p.flags.forwarding, p.role, ⟨p.designated.root, p.designated.cost, p.designated.bridge, p.designated.port, 0⟩, p.desTimes⟩⟩
def sdC (k : Int) (p : Port) : Sent := ⟨k, ⟨0, p.clocks.tc != 0, p.flags.tcAck, false, false, false, false, 4, ⟨p.designated.root, p.designated.cost, p.designated.bridge, p.designated.port, 0⟩, p.desTimes⟩⟩
def sdT (k : Int) (p : Port) : Sent := ⟨k, ⟨1, false, false, false, false, false, false, 0, ⟨0, 0, 0, 0, 0⟩, ⟨0, 0, 0, 0⟩⟩⟩
inductive TxR where
 | no
 | one (p : Port)
 | send (ack : Bool) (d : Sent)
def txAsk (b : Bri) (p : Port) : Port := { p with flags := { p.flags with newInfo := p.flags.newInfo || p.role == 4 || p.role == 3 && p.clocks.tc != 0 }, clocks := { p.clocks with hello := b.times.hello } }
def txSent (b : Bri) (p : Port) (ack : Bool) : Port := { p with flags := { p.flags with newInfo := false, tcAck := ack }, clocks := { p.clocks with hello := b.times.hello, txCount := IntKind.i64.wrap (p.clocks.txCount + 1) } }
def txRoom (H : Heap) (out : List Sent) (i n : Int) (p : Port) (sd : Sent) : Bool := (decide ((out.length : Int) = out.length) && decide ((out.length : Int) = out.length)) && (((decide (0 ≤ i) && decide (i < n)) && (decide (0 ≤ i) && decide (i < n))) &&
 (decide (out.length = out.length ∧ out.length + 1 ≤ 134217728) && sizesT (heapOf [2, 5] ((5, .rcd (.sent sd)) :: (4, .rcd (.port p)) :: H)) 6 (keepW (fun _ => false) 6 ((6, .agg ([.rows (.sent out)] ++ [.rcd (.sent sd)])) :: heapOf [2, 5] ((5, .rcd (.sent sd)) :: (4, .rcd (.port p)) :: H)))))
def txH (b : Bri) (a r : List Port) (p : Port) (n : Nat) (q : Bool) (out : List Sent) (fl : List Int) (ack : Bool) (sd : Sent) : Heap := [(0, b.sv (.slr 1 n 1 q) (.slu 6 0 (out.length + 1) 6) (.slr 3 fl.length 3 false)), (1, .foc 0 (.port a) (.rcd (.port (txSent b p ack))) (.port r)), (2, .rows (.sent out)), (3, .rows (.int .i64 fl)), (6, .agg ([.rows (.sent out)] ++ [.rcd (.sent sd)]))]
def txK (b : Bri) (a r : List Port) (k : Int) (p : Port) (n : Nat) (q : Bool) (out : List Sent) (fl : List Int) : TxR → Out (SV × Heap × Nat)
 | .no => .ret (.kb false, fullH b a r p n q out fl, 0)
 | .one p' => .ret (.kb true, fullH b a r p' n q out fl, 0)
 | .send ack sd => .ite (txRoom (fullH b a r p n q out fl) out k n p sd) (.ret (.kb true, txH b a r p n q out fl ack sd, 0)) .bad
noncomputable def txB (b : Bri) (a r : List Port) (k : Int) (p : Port) (n : Nat) (q : Bool) (out : List Sent) (fl : List Int) (mayNot ack : Bool) (sd : Sent) : Out (SV × Heap × Nat) :=
 .ite (!p.flags.selected || p.flags.updtInfo) (txK b a r k p n q out fl .no) (.ite (p.clocks.hello == 0) (txK b a r k p n q out fl (.one (txAsk b p)))
   (.ite ((!p.flags.newInfo || decide (p.clocks.txCount ≥ b.hold)) || mayNot) (txK b a r k p n q out fl .no) (txK b a r k p n q out fl (.send ack sd))))
noncomputable def txTree (b : Bri) (a r : List Port) (k : Int) (p : Port) (n : Nat) (q : Bool) (out : List Sent) (fl : List Int) : Out (SV × Heap × Nat) := .ite (decide (0 ≤ k) && decide (k < n)) (.ite p.flags.sendRst (txB b a r k p n q out fl (!p.role != 0) (!p.flags.tcAck && false) (sdR k p))
 (.ite (p.role == 4) (txB b a r k p n q out fl (!true) (!p.flags.tcAck && false) (sdC k p)) (txB b a r k p n q out fl (!p.role == 3) (p.flags.tcAck && true) (sdT k p)))) .bad
theorem tx_run (S : Stat) (b : Bri) (a r : List Port) (k : Int) (p : Port) (n : Nat) (q : Bool) (out : List Sent) (fl : List Int) : trimR [0, 1, 2, 3, 6] (inline (cX (S.wt k)) 60 (fnOf 54) [.ptr 0 0, .ix 0] (fullH b a r p n q out fl) 4) = txTree b a r k p n q out fl := by kernel_rfl
def txPick (b : Bri) (p : Port) (mayNot ack : Bool) (sd : Sent) : TxR :=
 if (!p.flags.selected || p.flags.updtInfo) = true then .no else if (p.clocks.hello == 0) = true then .one (txAsk b p) else if ((!p.flags.newInfo || decide (p.clocks.txCount ≥ b.hold)) || mayNot) = true then .no else .send ack sd
def txR (b : Bri) (k : Int) (p : Port) : TxR := if p.flags.sendRst = true then txPick b p (!p.role != 0) false (sdR k p) else if (p.role == 4) = true then txPick b p false false (sdC k p) else txPick b p (!p.role == 3) p.flags.tcAck (sdT k p)
def txX (s : BS) (k : Int) (p : Port) : TxR → BS × Bool
 | .no => (s, false)
 | .one p' => ({ s with ps := s.ps.set k.toNat p' }, true)
 | .send ack sd => ({ s with ps := s.ps.set k.toNat (txSent s.b p ack), out := s.out ++ [sd] }, true)
def txF (s : BS) (k : Int) : BS × Bool := txX s k (s.ps.getD k.toNat Port.dflt) (txR s.b k (s.ps.getD k.toNat Port.dflt))
theorem txB_sel (b : Bri) (a r : List Port) (k : Int) (p : Port) (n : Nat) (q : Bool) (out : List Sent) (fl : List Int) (mayNot ack : Bool) (sd : Sent) : (txB b a r k p n q out fl mayNot ack sd).sel = (txK b a r k p n q out fl (txPick b p mayNot ack sd)).sel := by
 unfold txB txPick
 simp only [Out.sel]
 split
 · rfl
 · split
   · rfl
   · split <;> rfl
theorem txTree_sel (b : Bri) (a r : List Port) (k : Int) (p : Port) (n : Nat) (q : Bool) (out : List Sent) (fl : List Int) (h0 : 0 ≤ k) (hn : k < n) : (txTree b a r k p n q out fl).sel = (txK b a r k p n q out fl (txR b k p)).sel := by
 unfold txTree txR
 simp only [Out.sel, h0, hn, decide_true, Bool.and_self, if_true, Bool.and_false, Bool.and_true, Bool.not_true]
 split
 · exact txB_sel ..
 · split
   · exact txB_sel ..
   · exact txB_sel ..
theorem txRoom_ok (b : Bri) (a r : List Port) (k : Int) (p : Port) (n : Nat) (q : Bool) (out : List Sent) (fl : List Int) (sd : Sent) (h0 : 0 ≤ k) (hn : k < n) (hr : out.length < 134217727) : txRoom (fullH b a r p n q out fl) out k n p sd = true := by
 have h1 : out.length + 1 ≤ 134217728 := by omega
 simp only [txRoom, h0, hn, h1, decide_true, Bool.and_self, Bool.true_and]
 have : sizesT (heapOf [2, 5] ((5, .rcd (.sent sd)) :: (4, .rcd (.port p)) :: fullH b a r p n q out fl)) 6 (keepW (fun _ => false) 6 ((6, .agg ([.rows (.sent out)] ++ [.rcd (.sent sd)])) :: heapOf [2, 5] ((5, .rcd (.sent sd)) :: (4, .rcd (.port p)) :: fullH b a r p n q out fl))) =
   (true && ((true && Nat.beq (SV.rcd (.sent sd)).size (SV.rcd (.sent sd)).size) && ((true && Nat.beq (SV.rows (.sent out)).size (SV.rows (.sent out)).size) && true))) := rfl
 rw [this]
 simp
theorem tx_ok : CanonOk 54 (gM txF) := by
 refine full_ok Tryz.func54 (by kernel_rfl) fun S s a r k p q h0 hk hps hroom => ?_
 have hn : k < (s.ps.length : Int) := by rw [hps]; simp only [List.length_append, List.length_cons]; omega
 simp only [roomB, Bool.and_eq_true, decide_eq_true_eq] at hroom
 have hp : s.ps.getD k.toNat Port.dflt = p := by rw [hk, hps]; exact getD_mid _ _ _ _
 have hset : ∀ (x : Port) (S S' : Stat) (E E' : Env), (SV.foc 0 (.port a) (.rcd (.port x)) (.port r)).cells S E = (SV.rows (.port (s.ps.set k.toNat x))).cells S' E' := fun x S S' E E' => by
   rw [hps]
   have := foc_set S S' E a r p x k hk
   exact this
 have hsame : ∀ (S S' : Stat) (E E' : Env), (SV.foc 0 (.port a) (.rcd (.port p)) (.port r)).cells S E = (SV.rows (.port s.ps)).cells S' E' := fun S S' E E' => by
   rw [hps]
   simp only [SV.cells, Rows.cells, Rec.cells]
   rw [List.flatMap_append, List.flatMap_cons]
 have hsel := congrArg Out.sel (tx_run S s.b a r k p s.ps.length q s.out s.fl)
 rw [txTree_sel _ _ _ _ _ _ _ _ _ h0 hn] at hsel
 cases hR : txR s.b k p with
 | no =>
   rw [hR] at hsel
   obtain ⟨H1, m1, hrun, hget⟩ := trimR_sel hsel
   refine ⟨cX (S.wt k), 60, _, H1, m1, 2, 3, good_none cX_fam (S.wt k), cX_fam.S _, hrun, fun S' E' => ?_⟩
   unfold txF
   rw [hp, hR]
   exact told_bs (by decide) (fun _ => rfl) (hget 0 _ rfl) (bri_mov _ _ _ _ _ _ 2 3 q) (hget 1 _ rfl) (hsame _ _ _ _) (.inr ⟨hget 2 _ rfl, rfl⟩) (.inr ⟨hget 3 _ rfl, rfl⟩)
 | one p' =>
   rw [hR] at hsel
   obtain ⟨H1, m1, hrun, hget⟩ := trimR_sel hsel
   refine ⟨cX (S.wt k), 60, _, H1, m1, 2, 3, good_none cX_fam (S.wt k), cX_fam.S _, hrun, fun S' E' => ?_⟩
   unfold txF
   rw [hp, hR]
   exact told_bs (by decide) (fun _ => rfl) (hget 0 _ rfl) (bri_mov _ _ _ _ _ _ 2 3 q) (hget 1 _ rfl) (hset _ _ _ _ _) (.inr ⟨hget 2 _ rfl, rfl⟩) (.inr ⟨hget 3 _ rfl, rfl⟩)
 | send ack sd =>
   rw [hR] at hsel
   unfold txK at hsel
   simp only [Out.sel, txRoom_ok s.b a r k p s.ps.length q s.out s.fl sd h0 hn hroom.2.1, if_true] at hsel
   obtain ⟨H1, m1, hrun, hget⟩ := trimR_sel hsel
   refine ⟨cX (S.wt k), 60, _, H1, m1, 6, 3, good_none cX_fam (S.wt k), cX_fam.S _, hrun, fun S' E' => ?_⟩
   unfold txF
   rw [hp, hR]
   refine told_bs (by decide) (fun _ => rfl) (hget 0 _ rfl) ?_ (hget 1 _ rfl) (hset _ _ _ _ _) (.inr ⟨hget 6 _ rfl, ?_⟩) (.inr ⟨hget 3 _ rfl, rfl⟩)
   · simp [txX, Bri.sv, SV.cells, SV.cellss, SV.den, Env.place, movE, show (s.out.length + 1).beq 0 = false from rfl]
   · simp [txX, SV.cells, SV.cellss, Rows.cells, Rec.cells]
end Go.Proofs.YtjemfkoamfnofaaGreat
