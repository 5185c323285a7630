import Derived.Test.YtjemfkoamfnofaaGreatBy
set_option linter.unusedVariables false
set_option maxRecDepth 100000
namespace Go.Proofs.YtjemfkoamfnofaaGreat
open Go Go.RowKit
noncomputable def psT (S : Stat) : List (Nat × ReadFn) := auto psY1 S 152 :: (127, specRead (spc gRr) S 3) :: auto ps0 S 96 :: auto ps0 S 135 :: auto ps0 S 95 :: []
theorem psT_ok (S : Stat) : ReadsOk S [] (psT S) := .auto psY1_ok <| .cons (specRead_ok (fun S' => spc_ok rr_ok S') 3) <| .auto ps0_ok <| .auto ps0_ok <| .auto ps0_ok <| .nil S []
noncomputable def cT0 (S : Stat) : Ctx := mkCtx S [] (psT S) [] 60 3
theorem cT0_fam : Fam cT0 := fam_of (ss := fun _ => []) psT_ok (fun S f g h => by cases h)
noncomputable def mT0 : List (Nat × (Stat → SpecFn)) := (124, fun S => inl (cT0 S) 60 124) :: []
theorem mT0_ok : ∀ f g, (f, g) ∈ mT0 → ∀ S, SpecOk S [] f (g S) := makes_cons (fun S => inl_ok (cT0_fam.full S) (cT0_fam.S S) (cT0_fam.win S) (cT0_fam.loop S) Tryz.func124 (by kernel_rfl)) makes_nil
noncomputable def cT1 (S : Stat) : Ctx := withMake (cT0 S) mT0
theorem cT1_fam : Fam cT1 := make_fam cT0_fam mT0_ok
noncomputable def ssU (S : Stat) : List (Nat × SpecFn) := (97, inl (cT1 S) 60 97) :: (98, inl (cT1 S) 60 98) :: (99, inl (cT1 S) 60 99) :: []
theorem ssU_ok (S : Stat) : ∀ f g, (f, g) ∈ ssU S → SpecOk S [] f g := specs_cons (inl_ok (cT1_fam.full S) (cT1_fam.S S) (cT1_fam.win S) (cT1_fam.loop S) Tryz.func97 (by kernel_rfl)) <| specs_cons (inl_ok (cT1_fam.full S) (cT1_fam.S S) (cT1_fam.win S) (cT1_fam.loop S) Tryz.func98 (by kernel_rfl)) <|
 specs_cons (inl_ok (cT1_fam.full S) (cT1_fam.S S) (cT1_fam.win S) (cT1_fam.loop S) Tryz.func99 (by kernel_rfl)) specs_nil
def sures : Nat → List (Nat × Bool)
 | 0 => [(32, true)]
 | 1 => [(32, false), (40, true)]
 | 2 => [(32, false), (40, false), (50, false), (64, false), (68, true)]
 | 3 => [(32, false), (40, false), (50, false), (64, false), (68, false), (72, true)]
 | 4 => [(32, false), (40, false), (50, true)]
 | 5 => [(32, false), (40, false), (50, false), (64, true)]
 | _ => [(32, false), (40, false), (50, false), (64, false), (68, false), (72, false)]
noncomputable def cT2 (e : Nat) (S : Stat) : Ctx := sureC (mkCtx S [] (psT S) (ssU S) 60 3) (sures e)
theorem cT2_fam (e : Nat) : Fam (cT2 e) := sure_fam (fam_of psT_ok ssU_ok) (sures e)
noncomputable def mT3 (e : Nat) : List (Nat × (Stat → SpecFn)) := (66, fun S => inl (cT0 S) 60 66) :: (67, fun S => inl (cT2 e S) 60 67) :: []
theorem mT3_ok (e : Nat) : ∀ f g, (f, g) ∈ mT3 e → ∀ S, SpecOk S [] f (g S) := makes_cons (fun S => inl_ok (cT0_fam.full S) (cT0_fam.S S) (cT0_fam.win S) (cT0_fam.loop S) Tryz.func66 (by kernel_rfl)) <|
 makes_cons (fun S => inl_ok ((cT2_fam e).full S) ((cT2_fam e).S S) ((cT2_fam e).win S) ((cT2_fam e).loop S) Tryz.func67 (by kernel_rfl)) makes_nil
noncomputable def ssT (S : Stat) : List (Nat × SpecFn) := (151, spc (gAll trOs syncsF) S) :: (129, spc (gAll trOs reRootsF) S) :: []
theorem ssT_ok (S : Stat) : ∀ f g, (f, g) ∈ ssT S → SpecOk S [] f g := specs_cons (spc_ok syncs_ok S) <| specs_cons (spc_ok reRoots_ok S) specs_nil
noncomputable def cT3 (e : Nat) (S : Stat) : Ctx := withMake (mkCtx S [] (psT S) (ssT S) 60 4) (mT3 e)
theorem cT3_fam (e : Nat) : Fam (cT3 e) := make_fam (fam_of psT_ok ssT_ok) (mT3_ok e)
inductive TrR where
 | no
 | one (p : Port)
 | oneT (p : Port)
 | syncs
 | reRoots
def pick : List (Bool × TrR) → TrR
 | [] => .no
 | (c, x) :: r => if c = true then x else pick r
def chainT {α : Type} (K : TrR → Out α) : List (Bool × TrR) → Out α
 | [] => K .no
 | (c, x) :: r => .ite (!c) (chainT K r) (K x)
theorem chainT_sel {α : Type} (K : TrR → Out α) : ∀ l, (chainT K l).sel = (K (pick l)).sel
 | [] => rfl
 | (c, x) :: r => by cases c <;> simp [chainT, pick, Out.sel, chainT_sel K r]
def enterA (p : Port) (s : Int) : Port := { p with role := p.selected, states := { p.states with trans := s }, flags := { p.flags with learn := false, forward := false } }
def enterB (b : Bri) (p : Port) (s : Int) : Port := { p with role := p.selected, states := { p.states with trans := s }, clocks := { p.clocks with rr := b.times.delay } }
def enterC (p : Port) (s : Int) : Port := { p with role := p.selected, states := { p.states with trans := s } }
def restP (p : Port) (s fd : Int) : Port := { p with clocks := { p.clocks with fd := fd, rr := 0 }, flags := { p.flags with synced := true, sync := false, reRoot := false }, states := { p.states with trans := s } }
def restless (p : Port) (fd : Int) : Bool := p.clocks.fd != fd || p.flags.sync || p.flags.reRoot || !p.flags.synced
def fwdI (b : Bri) (p : Port) : Int := if p.flags.sendRst = true then b.times.hello else b.times.delay
def edI (b : Bri) (p : Port) : Int := if p.shared = true then b.times.max else 3
def agreesP (p : Port) : Port := { p with flags := { p.flags with proposed := false, agree := true, newInfo := true } }
def agreesR (p : Port) : Port := { p with flags := { p.flags with proposed := false, agree := true, newInfo := true, sync := false } }
def learnsP (b : Bri) (p : Port) : Port := { p with flags := { p.flags with learn := true }, clocks := { p.clocks with fd := fwdI b p } }
def allSynced (ps : List Port) : Bool := !(decide (findI unsyncedB ps 0 ≥ 0))
def rolesL (b : Bri) (p : Port) : List (Bool × TrR) :=
 [(p.role != p.selected && p.selected == 0, .one (enterA p 0)), (p.role != p.selected && p.selected == 3, .one (enterB b p 2)), (p.role != p.selected && p.selected == 4, .one (enterC p 3)), (p.role != p.selected && (p.selected == 1 || p.selected == 2), .one (enterA p 4))]
def setsL (ps : List Port) (p : Port) (ag : Port) : List (Bool × TrR) :=
 [(p.flags.proposed && !p.flags.agree, .syncs), (allSynced ps && !p.flags.agree || p.flags.proposed && p.flags.agree, .one ag)]
def altL (b : Bri) (ps : List Port) (p : Port) : List (Bool × TrR) := setsL ps p (agreesP p) ++
 [(p.role == 2 && p.clocks.rb != IntKind.i64.wrap (2 * b.times.hello), .one { p with clocks := { p.clocks with rb := IntKind.i64.wrap (2 * b.times.hello) } }), (restless p (fwdI b p), .one (restP p 5 (fwdI b p)))]
def onRoot (b : Bri) (ps : List Port) (k : Int) (p : Port) : Bool := p.clocks.fd == 0 || b.rst && reF ps k && p.clocks.rb == 0
def trRootL (b : Bri) (ps : List Port) (k : Int) (p : Port) : List (Bool × TrR) := setsL ps p (agreesR p) ++
 [(!p.flags.forward && !p.flags.reRoot, .reRoots), (onRoot b ps k p && !p.flags.learn, .oneT (learnsP b p)), (onRoot b ps k p && p.flags.learn && !p.flags.forward, .one { p with clocks := { p.clocks with fd := 0 }, flags := { p.flags with forward := true } }),
  (p.flags.reRoot && p.flags.forward, .one { p with flags := { p.flags with reRoot := false } }), (p.clocks.rr != b.times.delay, .one { p with clocks := { p.clocks with rr := b.times.delay } })]
def onDes (p : Port) : Bool := (p.clocks.fd == 0 || p.flags.agreed || p.flags.operEdge) && (!p.flags.reRoot || p.clocks.rr == 0) && !p.flags.sync
def desL (b : Bri) (p : Port) : List (Bool × TrR) :=
 [(!p.flags.forward && !p.flags.agreed && !p.flags.proposing && !p.flags.operEdge, .oneT { p with flags := { p.flags with proposing := true, newInfo := true }, clocks := { p.clocks with edgeDelay := edI b p } }),
  (!p.flags.synced && (!p.flags.learning && !p.flags.forwarding || p.flags.agreed || p.flags.operEdge) || p.flags.synced && p.flags.sync, .one { p with clocks := { p.clocks with rr := 0 }, flags := { p.flags with synced := true, sync := false } }),
  (p.flags.reRoot && p.clocks.rr == 0, .one { p with flags := { p.flags with reRoot := false } }),
  ((p.flags.learn || p.flags.forward) && !p.flags.operEdge && (p.flags.sync && !p.flags.synced || p.flags.reRoot && p.clocks.rr != 0 || p.flags.disputed), .oneT { p with flags := { p.flags with learn := false, forward := false, disputed := false }, clocks := { p.clocks with fd := fwdI b p } }),
  (onDes p && !p.flags.learn, .oneT (learnsP b p)),
  (onDes p && p.flags.learn && !p.flags.forward, .one { p with flags := { p.flags with forward := true, agreed := p.flags.sendRst }, clocks := { p.clocks with fd := 0 } })]
def statesL (e : Nat) (b : Bri) (ps : List Port) (k : Int) (p : Port) : List (Bool × TrR) := match e with
 | 0 => [(!p.flags.learning && !p.flags.forwarding, .one (restP p 1 b.times.max))]
 | 1 => [(restless p b.times.max, .one (restP p 1 b.times.max))]
 | 2 => trRootL b ps k p
 | 3 => desL b p
 | 4 => [(!p.flags.learning && !p.flags.forwarding, .one (restP p 5 (fwdI b p)))]
 | 5 => altL b ps p
 | _ => []
def tkB (n : Nat) (k : Int) : Bool := decide (0 ≤ k) && decide (k < n)
def tlB (n : Nat) (ps : List Port) : Bool := decide (n = ps.length ∧ ps.length < 9223372036854775808)
def taB (n : Nat) (k : Int) (ps : List Port) : Bool := (decide (n = ps.length) && decide (ps.length < 9223372036854775808)) && (tkB n k && (decide (k = k) && (decide (k = k) && (decide (k = k) && true))))
def sureB (e : Nat) (n : Nat) (ps : List Port) (k : Int) (s : Int) : Bool := match e with
 | 0 => (s == 0) == true && true
 | 1 => ((s == 0) == false && (s == 1) == true) && true
 | 2 => ((s == 0) == false && ((s == 1) == false && ((s == 4) == false && ((s == 5) == false && ((s == 2) == true && (tlB n ps && (tlB n ps && true))))))) && true
 | 3 => ((s == 0) == false && ((s == 1) == false && ((s == 4) == false && ((s == 5) == false && ((s == 2) == false && (s == 3) == true))))) && true
 | 4 => ((s == 0) == false && ((s == 1) == false && ((s == 4) == true && tkB n k))) && true
 | 5 => ((s == 0) == false && ((s == 1) == false && ((s == 4) == false && ((s == 5) == true && (tkB n k && (tlB n ps && true)))))) && true
 | _ => (s == 0) == false && ((s == 1) == false && ((s == 4) == false && ((s == 5) == false && ((s == 2) == false && (s == 3) == false))))
def trK (b : Bri) (a r : List Port) (k : Int) (p : Port) (n : Nat) (q : Bool) : TrR → Out (SV × Heap × Nat)
 | .no => .ret (.kb false, focH b a r p n q, 2)
 | .one p' => .ret (.kb true, focH b a r p' n q, 2)
 | .oneT p' => .ite (tkB n k) (.ret (.kb true, focH b a r p' n q, 2)) .bad
 | .syncs => .ite (taB n k (a ++ p :: r)) (.ret (.kb true, [(0, b.sv (.slr 1 n 1 q) (.sl 0) (.sl 1)), (1, .rows (.port (syncsF k (a ++ p :: r))))], 2)) .bad
 | .reRoots => .ite (taB n k (a ++ p :: r)) (.ret (.kb true, [(0, b.sv (.slr 1 n 1 q) (.sl 0) (.sl 1)), (1, .rows (.port (reRootsF k (a ++ p :: r))))], 2)) .bad
def trT (e : Nat) (b : Bri) (a r : List Port) (k : Int) (p : Port) (n : Nat) (q : Bool) : Out (SV × Heap × Nat) :=
 .ite (tkB n k) (.ite (!p.flags.selected || p.flags.updtInfo) (trK b a r k p n q .no) (.ite (sureB e n (a ++ p :: r) k p.states.trans) (chainT (trK b a r k p n q) (rolesL b p ++ statesL e b (a ++ p :: r) k p)) .bad)) .bad
theorem tr_run0 (S : Stat) (b : Bri) (a r : List Port) (k : Int) (p : Port) (n : Nat) (q : Bool) : trimF 2 (inline (cT3 0 (S.wt k)) 60 (fnOf 51) [.ptr 0 0, .ix 0] (focH b a r p n q) 2) = trT 0 b a r k p n q := by kernel_rfl
theorem tr_run1 (S : Stat) (b : Bri) (a r : List Port) (k : Int) (p : Port) (n : Nat) (q : Bool) : trimF 2 (inline (cT3 1 (S.wt k)) 60 (fnOf 51) [.ptr 0 0, .ix 0] (focH b a r p n q) 2) = trT 1 b a r k p n q := by kernel_rfl
theorem tr_run2 (S : Stat) (b : Bri) (a r : List Port) (k : Int) (p : Port) (n : Nat) (q : Bool) : trimF 2 (inline (cT3 2 (S.wt k)) 60 (fnOf 51) [.ptr 0 0, .ix 0] (focH b a r p n q) 2) = trT 2 b a r k p n q := by kernel_rfl
theorem tr_run3 (S : Stat) (b : Bri) (a r : List Port) (k : Int) (p : Port) (n : Nat) (q : Bool) : trimF 2 (inline (cT3 3 (S.wt k)) 60 (fnOf 51) [.ptr 0 0, .ix 0] (focH b a r p n q) 2) = trT 3 b a r k p n q := by kernel_rfl
theorem tr_run4 (S : Stat) (b : Bri) (a r : List Port) (k : Int) (p : Port) (n : Nat) (q : Bool) : trimF 2 (inline (cT3 4 (S.wt k)) 60 (fnOf 51) [.ptr 0 0, .ix 0] (focH b a r p n q) 2) = trT 4 b a r k p n q := by kernel_rfl
theorem tr_run5 (S : Stat) (b : Bri) (a r : List Port) (k : Int) (p : Port) (n : Nat) (q : Bool) : trimF 2 (inline (cT3 5 (S.wt k)) 60 (fnOf 51) [.ptr 0 0, .ix 0] (focH b a r p n q) 2) = trT 5 b a r k p n q := by kernel_rfl
theorem tr_run6 (S : Stat) (b : Bri) (a r : List Port) (k : Int) (p : Port) (n : Nat) (q : Bool) : trimF 2 (inline (cT3 6 (S.wt k)) 60 (fnOf 51) [.ptr 0 0, .ix 0] (focH b a r p n q) 2) = trT 6 b a r k p n q := by kernel_rfl
end Go.Proofs.YtjemfkoamfnofaaGreat
