import Derived.Test.YtjemfkoamfnofaaGreatBh
import Derived.Test.YtjemfkoamfnofaaGreatBy
set_option linter.unusedVariables false
set_option maxRecDepth 100000
namespace Go.Proofs.YtjemfkoamfnofaaGreat
open Go Go.RowKit
def notRcd : SV → Bool
 | .rcd _ => false
 | _ => true
def keepL (H : Heap) : List Nat → Heap
 | [] => []
 | k :: r => match H.get k with | some x => bif notRcd x then (k, x) :: keepL H r else keepL H r | none => keepL H r
theorem keepL_get {H : Heap} : ∀ {ks : List Nat} {k : Nat} {x : SV}, (keepL H ks).get k = some x → H.get k = some x
 | [], k, x, h => by simp [keepL, Heap.get] at h
 | u :: r, k, x, h => by
   unfold keepL at h
   split at h
   · rename_i y hy
     cases hn : notRcd y with
     | false => rw [hn] at h; exact keepL_get h
     | true =>
       rw [hn] at h
       simp only [cond_true] at h
       rw [Heap.get_cons] at h
       split at h
       · rename_i he; subst he; injection h with h; subst h; exact hy
       · exact keepL_get h
   · exact keepL_get h
def trimL (ks : List Nat) (o : Out (SV × Heap × Nat)) : Out (SV × Heap × Nat) := o.bind fun r => .ret (r.1, keepL r.2.1 ks, 0)
theorem trimL_sel {ks : List Nat} {o : Out (SV × Heap × Nat)} {v : SV} {H : Heap} (h : (trimL ks o).sel = some (v, H, 0)) : ∃ H1 m1, o.sel = some (v, H1, m1) ∧ ∀ k x, H.get k = some x → H1.get k = some x := by
 unfold trimL at h
 rw [Out.sel_bind] at h
 cases h0 : o.sel with
 | none => rw [h0] at h; cases h
 | some r =>
   rw [h0] at h
   simp only [Option.bind_some, Out.sel, Option.some.injEq, Prod.mk.injEq] at h
   obtain ⟨rfl, rfl, _⟩ := h
   exact ⟨r.2.1, r.2.2, rfl, fun k x hk => keepL_get hk⟩
noncomputable def psO (S : Stat) : List (Nat × ReadFn) := auto ps0 S 105 :: []
theorem psO_ok (S : Stat) : ReadsOk S [] (psO S) := .auto ps0_ok <| .nil S []
noncomputable def ssO (S : Stat) : List (Nat × SpecFn) := (104, spc (gAll toOs toldF) S) :: []
theorem ssO_ok (S : Stat) : ∀ f g, (f, g) ∈ ssO S → SpecOk S [] f g := specs_cons (spc_ok told_ok S) specs_nil
noncomputable def cO0 (S : Stat) : Ctx := mkCtx S [] (psO S) (ssO S) 60 5
theorem cO0_fam : Fam cO0 := mk_fam psO ssO 60 5 psO_ok ssO_ok
noncomputable def cO (S : Stat) : Ctx := withTail (cO0 S)
theorem cO_fam : Fam cO := tail_fam cO0_fam
inductive ToR where
 | no
 | one (p : Port)
 | told (p : Port)
 | both (p : Port)
 | flush
def fourP (p : Port) : Bool := ((p.flags.rcvdTc || p.flags.rcvdTcn) || p.flags.rcvdTcAck) || p.flags.tcProp
def clearsP (p : Port) : Port := { p with flags := { p.flags with rcvdTc := false, rcvdTcn := false, rcvdTcAck := false, tcProp := false }, states := { p.states with topo := 1 } }
def begA (b : Bri) (p : Port) : Port := { p with clocks := { p.clocks with tc := IntKind.i64.wrap (b.times.hello + 1) }, flags := { p.flags with newInfo := true } }
def begB (b : Bri) (p : Port) : Port := { p with clocks := { p.clocks with tc := IntKind.i64.wrap (b.times.max + b.times.delay) } }
def notesP (p : Port) : Port := { p with flags := { p.flags with rcvdTc := false, rcvdTcn := false, tcAck := p.flags.tcAck || p.role == 4 } }
def propP (p : Port) : Port := { p with flags := { p.flags with flush := true, tcProp := false } }
def quietP (p : Port) : Port := { p with flags := { p.flags with flush := true, tcAck := false }, clocks := { p.clocks with tc := 0 }, states := { p.states with topo := 0 } }
def ackP (p : Port) : Port := { p with clocks := { p.clocks with tc := 0 }, flags := { p.flags with rcvdTcAck := false } }
def newsP (p : Port) : Port := { p with flags := { p.flags with newInfo := true } }
def activeP (p : Port) : Port := { p with states := { p.states with topo := 2 } }
def modI (k : Int) (f : Port → Port) (ps : List Port) : List Port := ps.set k.toNat (f (ps.getD k.toNat Port.dflt))
def rowsH (b : Bri) (n : Nat) (q : Bool) (out : List Sent) (fl : List Int) (ps : List Port) : Heap := [(0, b.sv (.slr 1 n 1 q) (.slr 2 out.length 2 false) (.slr 3 fl.length 3 false)), (1, .rows (.port ps)), (2, .rows (.sent out)), (3, .rows (.int .i64 fl))]
def flushH (b : Bri) (a r : List Port) (p : Port) (n : Nat) (q : Bool) (out : List Sent) (fl : List Int) (k : Int) : Heap := [(0, b.sv (.slr 1 n 1 q) (.slr 2 out.length 2 false) (.slr 7 (fl ++ [k]).length 7 false)), (1, .foc 0 (.port a) (.rcd (.port { p with flags := { p.flags with flush := false } })) (.port r)), (2, .rows (.sent out)), (3, .rows (.int .i64 fl)), (7, .rows (.int .i64 (fl ++ [k])))]
def toA (n : Nat) (k : Int) (ps : List Port) : Bool := (decide (n = ps.length) && decide (ps.length < 9223372036854775808)) && ((decide (0 ≤ k) && decide (k < n)) && (decide (k = k) && (decide (k = k) && true)))
def toK (b : Bri) (a r : List Port) (k : Int) (p : Port) (n : Nat) (q : Bool) (out : List Sent) (fl : List Int) : ToR → Out (SV × Heap × Nat)
 | .no => .ret (.kb false, fullH b a r p n q out fl, 0)
 | .one p' => .ret (.kb true, fullH b a r p' n q out fl, 0)
 | .told p' => .ite (toA n k (a ++ p' :: r)) (.ret (.kb true, rowsH b n q out fl (toldF k (a ++ p' :: r)), 0)) .bad
 | .both p' => .ite (toA n k (a ++ p' :: r)) (.ite (decide (k.toNat < (Rows.port (toldF k (a ++ p' :: r))).len)) (.ite (decide (k.toNat < (Rows.port (modI k newsP (toldF k (a ++ p' :: r)))).len))
     (.ret (.kb true, rowsH b n q out fl (modI k activeP (modI k newsP (toldF k (a ++ p' :: r)))), 0)) .bad) .bad) .bad
 | .flush => .ite (decide (fl.length = fl.length ∧ fl.length ≤ 134217727)) (.ite (decide (fl.length = (Rows.int .i64 fl).len ∧ (Rows.int .i64 fl).len ≤ 134217727)) (.ret (.kb true, flushH b a r p n q out fl k, 0)) .bad) .bad
inductive ToT where
 | end_ (x : ToR)
 | ask (c : Bool) (t e : ToT)
def ToT.out (b : Bri) (a r : List Port) (k : Int) (p : Port) (n : Nat) (q : Bool) (out : List Sent) (fl : List Int) : ToT → Out (SV × Heap × Nat)
 | .end_ x => toK b a r k p n q out fl x
 | .ask c t e => .ite c (t.out b a r k p n q out fl) (e.out b a r k p n q out fl)
def ToT.get : ToT → ToR
 | .end_ x => x
 | .ask c t e => if c = true then t.get else e.get
def begT (b : Bri) (p : Port) (f : Port → ToR) : ToT := .ask (p.clocks.tc != 0) (.end_ (f p)) (.ask p.flags.sendRst (.end_ (f (begA b p))) (.end_ (f (begB b p))))
def toT (b : Bri) (p : Port) : ToT := .ask p.flags.flush (.end_ .flush) <| .ask (p.states.topo == 0 && p.flags.learn) (.end_ (.one (clearsP p))) <|
 .ask (p.states.topo == 1) (.ask (((p.role == 3 || p.role == 4) && p.flags.forward) && !p.flags.operEdge) (begT b p .both) <|
   .ask (((!(p.role == 3 || p.role == 4) && !p.flags.learn) && !p.flags.learning) && !(fourP p)) (.end_ (.one (quietP p))) <| .ask (fourP p) (.end_ (.one (clearsP p))) (.end_ .no)) <|
 .ask (p.states.topo == 2) (.ask (!(p.role == 3 || p.role == 4) || p.flags.operEdge) (.end_ (.one (clearsP p))) <|
   .ask p.flags.rcvdTcn (begT b p fun p => .told (notesP p)) <| .ask p.flags.rcvdTc (.end_ (.told (notesP p))) <|
   .ask p.flags.tcProp (begT b p fun p => .one (propP p)) <| .ask p.flags.rcvdTcAck (.end_ (.one (ackP p))) (.end_ .no)) (.end_ .no)
noncomputable def toTree (b : Bri) (a r : List Port) (k : Int) (p : Port) (n : Nat) (q : Bool) (out : List Sent) (fl : List Int) : Out (SV × Heap × Nat) := .ite (decide (0 ≤ k) && decide (k < n)) ((toT b p).out b a r k p n q out fl) .bad
theorem to_run (S : Stat) (b : Bri) (a r : List Port) (k : Int) (p : Port) (n : Nat) (q : Bool) (out : List Sent) (fl : List Int) : trimL [0, 1, 2, 3, 7] (inline (cO (S.wt k)) 60 (fnOf 53) [.ptr 0 0, .ix 0] (fullH b a r p n q out fl) 4) = toTree b a r k p n q out fl := by kernel_rfl
theorem ToT.out_sel (b : Bri) (a r : List Port) (k : Int) (p : Port) (n : Nat) (q : Bool) (out : List Sent) (fl : List Int) : ∀ t : ToT, (t.out b a r k p n q out fl).sel = (toK b a r k p n q out fl t.get).sel
 | .end_ x => rfl
 | .ask c t e => by
   simp only [ToT.out, ToT.get, Out.sel]
   split
   · exact ToT.out_sel b a r k p n q out fl t
   · exact ToT.out_sel b a r k p n q out fl e
def toX (s : BS) (k : Int) (p : Port) : ToR → BS × Bool
 | .no => (s, false)
 | .one p' => ({ s with ps := s.ps.set k.toNat p' }, true)
 | .told p' => ({ s with ps := toldF k (s.ps.set k.toNat p') }, true)
 | .both p' => ({ s with ps := modI k activeP (modI k newsP (toldF k (s.ps.set k.toNat p'))) }, true)
 | .flush => ({ s with ps := s.ps.set k.toNat { p with flags := { p.flags with flush := false } }, fl := s.fl ++ [k] }, true)
def topoF (s : BS) (k : Int) : BS × Bool := toX s k (s.ps.getD k.toNat Port.dflt) (toT s.b (s.ps.getD k.toNat Port.dflt)).get
theorem topo_ok : CanonOk 53 (gM topoF) := by
 refine full_ok Tryz.func53 (by kernel_rfl) fun S s a r k p q h0 hk hps hroom => ?_
 have hn : k < (s.ps.length : Int) := by rw [hps]; simp only [List.length_append, List.length_cons]; omega
 simp only [roomB, Bool.and_eq_true, decide_eq_true_eq] at hroom
 have hp : s.ps.getD k.toNat Port.dflt = p := by rw [hk, hps]; exact getD_mid _ _ _ _
 have hset : ∀ (x : Port) (S S' : Stat) (E E' : Env), (SV.foc 0 (.port a) (.rcd (.port x)) (.port r)).cells S E = (SV.rows (.port (s.ps.set k.toNat x))).cells S' E' := fun x S S' E E' => by
   rw [hps]
   exact foc_set S S' E a r p x k hk
 have hsame : ∀ (S S' : Stat) (E E' : Env), (SV.foc 0 (.port a) (.rcd (.port p)) (.port r)).cells S E = (SV.rows (.port s.ps)).cells S' E' := fun S S' E E' => by
   rw [hps]
   simp only [SV.cells, Rows.cells, Rec.cells]
   rw [List.flatMap_append, List.flatMap_cons]
 have hl : ∀ x : Port, (a ++ x :: r) = s.ps.set k.toNat x := fun x => by
   rw [hps, hk, List.set_append_right _ _ (Nat.le_refl _)]; simp
 have hlen : ∀ x : Port, (s.ps.set k.toNat x).length = s.ps.length := fun x => List.length_set
 have hA : ∀ x : Port, toA s.ps.length k (a ++ x :: r) = true := fun x => by
   rw [hl]
   have : s.ps.length < 9223372036854775808 := by omega
   simp [toA, hlen, this, h0, hn]
 have htl : ∀ l : List Port, (toldF k l).length = l.length := fun l => by unfold toldF; exact mapI_length _ _ _
 have hlt : k.toNat < s.ps.length := by omega
 have hsel := congrArg Out.sel (to_run S s.b a r k p s.ps.length q s.out s.fl)
 unfold toTree at hsel
 simp only [Out.sel, h0, hn, decide_true, Bool.and_self, if_true, ToT.out_sel] at hsel
 cases hR : (toT s.b p).get with
 | no =>
   rw [hR] at hsel
   obtain ⟨H1, m1, hrun, hget⟩ := trimL_sel hsel
   refine ⟨cO (S.wt k), 60, _, H1, m1, 2, 3, good_none cO_fam (S.wt k), cO_fam.S _, hrun, fun S' E' => ?_⟩
   unfold topoF
   rw [hp, hR]
   exact told_bs (by decide) (fun _ => rfl) (hget 0 _ rfl) (bri_mov _ _ _ _ _ _ 2 3 q) (hget 1 _ rfl) (hsame _ _ _ _) (.inr ⟨hget 2 _ rfl, rfl⟩) (.inr ⟨hget 3 _ rfl, rfl⟩)
 | one p' =>
   rw [hR] at hsel
   obtain ⟨H1, m1, hrun, hget⟩ := trimL_sel hsel
   refine ⟨cO (S.wt k), 60, _, H1, m1, 2, 3, good_none cO_fam (S.wt k), cO_fam.S _, hrun, fun S' E' => ?_⟩
   unfold topoF
   rw [hp, hR]
   exact told_bs (by decide) (fun _ => rfl) (hget 0 _ rfl) (bri_mov _ _ _ _ _ _ 2 3 q) (hget 1 _ rfl) (hset _ _ _ _ _) (.inr ⟨hget 2 _ rfl, rfl⟩) (.inr ⟨hget 3 _ rfl, rfl⟩)
 | told p' =>
   rw [hR] at hsel
   unfold toK at hsel
   simp only [Out.sel, hA, if_true] at hsel
   obtain ⟨H1, m1, hrun, hget⟩ := trimL_sel hsel
   refine ⟨cO (S.wt k), 60, _, H1, m1, 2, 3, good_none cO_fam (S.wt k), cO_fam.S _, hrun, fun S' E' => ?_⟩
   unfold topoF
   rw [hp, hR]
   refine told_bs (by decide) (fun _ => rfl) (hget 0 _ rfl) (bri_mov _ _ _ _ _ _ 2 3 q) (hget 1 _ rfl) ?_ (.inr ⟨hget 2 _ rfl, rfl⟩) (.inr ⟨hget 3 _ rfl, rfl⟩)
   rw [hl]; rfl
 | both p' =>
   rw [hR] at hsel
   have hB : k.toNat < (Rows.port (toldF k (a ++ p' :: r))).len := by show k.toNat < (toldF k _).length; rw [htl, hl, hlen]; exact hlt
   have hC : k.toNat < (Rows.port (modI k newsP (toldF k (a ++ p' :: r)))).len := by show k.toNat < (modI k newsP (toldF k _)).length; unfold modI; rw [List.length_set, htl, hl, hlen]; exact hlt
   unfold toK at hsel
   simp only [Out.sel, hA, hB, hC, decide_true, if_true] at hsel
   obtain ⟨H1, m1, hrun, hget⟩ := trimL_sel hsel
   refine ⟨cO (S.wt k), 60, _, H1, m1, 2, 3, good_none cO_fam (S.wt k), cO_fam.S _, hrun, fun S' E' => ?_⟩
   unfold topoF
   rw [hp, hR]
   refine told_bs (by decide) (fun _ => rfl) (hget 0 _ rfl) (bri_mov _ _ _ _ _ _ 2 3 q) (hget 1 _ rfl) ?_ (.inr ⟨hget 2 _ rfl, rfl⟩) (.inr ⟨hget 3 _ rfl, rfl⟩)
   rw [hl]; rfl
 | flush =>
   rw [hR] at hsel
   have hB : s.fl.length = (Rows.int .i64 s.fl).len ∧ (Rows.int .i64 s.fl).len ≤ 134217727 := ⟨rfl, by show s.fl.length ≤ _; omega⟩
   have hC : s.fl.length ≤ 134217727 := by omega
   unfold toK at hsel
   simp only [Out.sel, hB.2, hB.1.symm, hC, and_self, decide_true, if_true] at hsel
   obtain ⟨H1, m1, hrun, hget⟩ := trimL_sel hsel
   refine ⟨cO (S.wt k), 60, _, H1, m1, 2, 7, good_none cO_fam (S.wt k), cO_fam.S _, hrun, fun S' E' => ?_⟩
   unfold topoF
   rw [hp, hR]
   exact told_bs (by decide) (fun _ => rfl) (hget 0 _ rfl) (bri_mov _ _ _ _ _ _ 2 7 q) (hget 1 _ rfl) (hset _ _ _ _ _) (.inr ⟨hget 2 _ rfl, rfl⟩) (.inr ⟨hget 7 _ rfl, rfl⟩)
end Go.Proofs.YtjemfkoamfnofaaGreat
