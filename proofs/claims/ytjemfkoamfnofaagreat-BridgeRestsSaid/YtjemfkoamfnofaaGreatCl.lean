/- BridgeRests: its loops, and its walk. -/
import Derived.Test.YtjemfkoamfnofaaGreatCi
set_option linter.unusedVariables false
set_option maxRecDepth 100000
namespace Go.Proofs.YtjemfkoamfnofaaGreat
open Go Go.RowKit

noncomputable def psTl (S : Stat) : List (Nat × ReadFn) := (10, specRead (spc gAw) S 3) :: auto ps0 S 15 :: []
theorem psTl_ok (S : Stat) : ReadsOk S [] (psTl S) := .cons (specRead_ok (fun S' => spc_ok aw_ok S') 3) <| .auto ps0_ok <| .nil S []
noncomputable def ssTl (S : Stat) : List (Nat × SpecFn) := (16, spc gLive S) :: (17, spc gRun S) :: (19, spc gTick S) :: (18, spc gEnable S) :: (20, spc gHear S) :: []
theorem ssTl_ok (S : Stat) : ∀ f g, (f, g) ∈ ssTl S → SpecOk S [] f g := specs_cons (spc_ok live_ok S) <| specs_cons (spc_ok run_ok S) <| specs_cons (spc_ok tick_ok S) <| specs_cons (spc_ok enable_ok S) <| specs_cons (spc_ok hear_ok S) specs_nil
noncomputable def cTl (S : Stat) : Ctx := mkCtx S [] (psTl S) (ssTl S) 60 5
theorem cTl_fam : Fam cTl := mk_fam psTl ssTl 60 5 psTl_ok ssTl_ok
def toldM (m : Msg) : Bool := decide (m.times.age ≥ 0) && decide (m.times.age ≤ 256) && decide (m.times.max ≥ 0) && decide (m.times.max ≤ 256) && decide (m.times.hello ≥ 0) && decide (m.times.hello ≤ 256) && decide (m.times.delay ≥ 0) && decide (m.times.delay ≤ 256)
def noTold (a : Todo) : Bool := !(toldM a.msg)
structure TlP where
  L : List Conf
  A : List Todo
  q : Bool
  r : Bool
  rst : Bool
def tlHp (p : TlP) : Heap := [(0, .rows (.conf p.L)), (1, .rows (.todo p.A))]
def ixT (A : List Todo) (i : Nat) : List Bool := [decide ((i : Int) < A.length), decide (0 ≤ (i : Int)) && decide ((i : Int) < A.length), decide ((i : Int).toNat < (Rows.todo A).len)]
theorem ixT_true {A : List Todo} {i : Nat} (h : i < A.length) : ixT A i = [true, true, true] := by
  have e1 : (i : Int) < A.length := by omega
  have e3 : (i : Int).toNat < (Rows.todo A).len := by show (i : Int).toNat < A.length; omega
  simp only [ixT, e1, e3, decide_true, show decide (0 ≤ (i : Int)) = true from by simp, Bool.and_self]
theorem getT {A : List Todo} {i : Nat} {a : Todo} (h : A[i]? = some a) : A.getD (i : Int).toNat Todo.dflt = a := by
  show A.getD i Todo.dflt = a
  simp [List.getD, h]

/-! ### are all messages such as can be told? -/
def tlSl (p : TlP) (i : SV) : Slots := [(0, [], .v (.bool p.rst)), (1, [], .slr 0 p.L.length 0 p.q), (2, [], .slr 1 p.A.length 1 p.r), (7, [], .kb true), (8, [], i)]
noncomputable def tlT (S : Stat) (p : TlP) (i : Nat) : Out (Ex × St) := trimO [0, 1, 2, 6, 7, 8] 2 (exec (cTl (S.rd 0 2)) (fnOf 4).ntmps 60 (lpOf 4 0) ⟨tlSl p (.v (.int .i64 i)), tlHp p, 2⟩)
theorem tl_go (S : Stat) (p : TlP) (i : Nat) : Out.way [true, true, true, false] (tlT S p i) = some (ixT p.A i ++ [noTold (p.A.getD (i : Int).toNat Todo.dflt)], (.nrm, ⟨tlSl p (.v (.int .i64 (IntKind.i64.wrap (i + 1)))), tlHp p, 2⟩)) := by kernel_rfl
theorem tl_no (S : Stat) (p : TlP) (i : Nat) : Out.way [true, true, true, true] (tlT S p i) = some (ixT p.A i ++ [noTold (p.A.getD (i : Int).toNat Todo.dflt)], (.ret, ⟨[(0, [], .v (.bool p.rst)), (1, [], .slr 0 p.L.length 0 p.q), (2, [], .slr 1 p.A.length 1 p.r), (6, [], .kb true), (7, [], .kb true), (8, [], .v (.int .i64 i))], tlHp p, 2⟩)) := by kernel_rfl
theorem tl_end (S : Stat) (p : TlP) (i : Nat) : Out.way [false] (tlT S p i) = some ([decide ((i : Int) < p.A.length)], (.exit 0, ⟨tlSl p (.v (.int .i64 i)), tlHp p, 2⟩)) := by kernel_rfl
def tlFin (p : TlP) : St := ⟨[(0, [], .v (.bool p.rst)), (1, [], .slr 0 p.L.length 0 p.q), (2, [], .slr 1 p.A.length 1 p.r), (7, [], .kb true)], tlHp p, 2⟩
def tlOut : St := ⟨[(6, [], .kb true)], [], 2⟩
def gToldL : LoopFn := onTrim 2 [0, 1, 2, 7, 8] fun st => match st with
  | ⟨[(0, [], .v (.bool rst)), (1, [], .slr 0 n 0 q), (2, [], .slr 1 k 1 r), (7, [], .kb true), (8, [], .ki .i64 0)], [(0, .rows (.conf L)), (1, .rows (.todo A))], _⟩ => some (.ite (decide (n = L.length ∧ k = A.length ∧ k ≤ 1000)) (.ite (A.any noTold) (.ret (.ret, tlOut)) (.ret (.exit 0, tlFin ⟨L, A, q, r, rst⟩))) .bad)
  | _ => none
theorem tlHp_re {S S' : Stat} (p : TlP) (E : Env) : ReHeap (tlHp p) S S' E (tlHp p) := ⟨⟨_, rfl, rfl, trivial⟩, ⟨_, rfl, rfl, trivial⟩, trivial⟩
theorem gToldL_ok (S : Stat) (ls : List (Nat × LoopFn)) : LoopOk Tryz.prog (withLoops (cTl (S.rd 0 2)) ls) (fnOf 4).ntmps (lpOf 4 0) gToldL := by
  have hrun : ∀ (p : TlP) (l : List Todo) (i : Nat), runL (fun i a x => if noTold a = true then Step.out .ret tlOut else .go ()) (fun _ => (Ex.exit 0, tlFin p)) l i () = if l.any noTold = true then (.ret, tlOut) else (.exit 0, tlFin p) := fun p => runL_any fun i a => rfl
  refine loop_trim cTl_fam (nx := 2) (fuel := 60) (ts := [0, 1, 2, 6, 7, 8]) (π := TlP) (α := Todo) (τ := Unit) (S.rd 0 2) (fun _ i => S.rd 0 2) (fun _ _ => rfl) (fun p => p.A) (fun p i _ => ⟨tlSl p (.v (.int .i64 i)), tlHp p, 2⟩)
    (fun p i _ => p.A.length ≤ 1000) (fun p i a _ => if noTold a = true then .out .ret tlOut else .go ()) (fun p _ => (.exit 0, tlFin p)) (fun _ _ _ => rfl) ?_ ?_ ?_
  · intro st o r ho hr
    split at ho
    · rename_i rst n q k r' L A _
      injection ho with ho
      subst ho
      have hh := Out.ite_bad hr
      obtain ⟨rfl, rfl, hlt⟩ := of_decide_eq_true hh.1
      have hr2 := hh.2
      refine ⟨⟨L, A, q, r', rst⟩, (), hlt, ?_, ?_, fun E => ⟨⟨⟨_, rfl, rfl⟩, ⟨_, rfl, rfl⟩, ⟨_, rfl, rfl⟩, ⟨_, rfl, rfl⟩, ⟨_, rfl, rfl⟩, trivial⟩, tlHp_re ⟨L, A, q, r', rst⟩ E⟩⟩
      · rw [hrun]
        simp only [Out.sel] at hr2
        split at hr2
        · rename_i hb; rw [if_pos hb]; exact (Option.some.inj hr2).symm
        · rename_i hb; rw [if_neg hb]; exact (Option.some.inj hr2).symm
      · simp only [Out.sel] at hr2
        split at hr2
        · obtain rfl := Option.some.inj hr2; exact Nat.le_refl 2
        · obtain rfl := Option.some.inj hr2; exact Nat.le_refl 2
    · cases ho
  · intro p i a x ha hinv
    have hi := (List.getElem?_eq_some_iff.1 ha).1
    have hx := ixT_true hi
    cases hb : noTold a with
    | true =>
      simp only [if_true]
      exact ⟨.ret, _, Out.way_sel (tl_no S p i) (by rw [hx, getT ha, hb]; rfl), rfl, by simp, fun E => ⟨⟨⟨_, rfl, rfl⟩, trivial⟩, trivial⟩⟩
    | false =>
      simp only [Bool.false_eq_true, if_false]
      refine ⟨.nrm, _, Out.way_sel (tl_go S p i) (by rw [hx, getT ha, hb]; rfl), rfl, hinv, fun E => ?_⟩
      rw [wrap_succ (n := 1001) (by omega) (by omega)]
      exact ⟨⟨⟨_, rfl, rfl⟩, ⟨_, rfl, rfl⟩, ⟨_, rfl, rfl⟩, ⟨_, rfl, rfl⟩, ⟨_, rfl, rfl⟩, trivial⟩, tlHp_re _ E⟩
  · intro p x hinv
    have hn : ¬ ((p.A.length : Nat) : Int) < p.A.length := by omega
    exact ⟨.exit 0, _, Out.way_sel (tl_end S p p.A.length) (by rw [decide_eq_false hn]), rfl, by simp, fun E => ⟨⟨⟨_, rfl, rfl⟩, ⟨_, rfl, rfl⟩, ⟨_, rfl, rfl⟩, ⟨_, rfl, rfl⟩, trivial⟩, tlHp_re _ E⟩⟩

/-! ### does anything wait? -/
def waitP (p : Port) : Bool := p.flags.rcvdBpdu || p.flags.rcvdMsg || p.flags.reselect || !p.flags.selected || p.flags.updtInfo || p.flags.flush
structure FgP where
  b : Bri
  ps : List Port
  lo : Nat
  lf : Nat
  q : Bool
  rest : Bool
  n : Int
  still : Bool
def fgB (p : FgP) : SV := p.b.sv (.slr 2 p.ps.length 2 p.q) (.slr 6 p.lo 6 false) (.slr 7 p.lf 7 false)
def fgHp (p : FgP) : Heap := [(5, fgB p), (2, .rows (.port p.ps))]
def fgSl (p : FgP) (i : SV) : Slots := [(7, [], .kb true), (10, [], .ptr 5 0), (11, [], .v (.bool p.rest)), (12, [], .v (.int .i64 p.n)), (13, [], .v (.bool p.still)), (14, [], i)]
noncomputable def fgT (S : Stat) (p : FgP) (i : Nat) : Out (Ex × St) := trimO [6, 7, 10, 11, 12, 13, 14] 8 (exec (cTl (S.rd 0 2)) (fnOf 4).ntmps 60 (lpOf 4 1) ⟨fgSl p (.v (.int .i64 i)), fgHp p, 8⟩)
def ixP (ps : List Port) (i : Nat) : List Bool := [decide ((i : Int) < ps.length), decide (0 ≤ (i : Int)) && decide ((i : Int) < ps.length), decide ((i : Int).toNat < (Rows.port ps).len)]
theorem ixP_true {ps : List Port} {i : Nat} (h : i < ps.length) : ixP ps i = [true, true, true] := by
  have e1 : (i : Int) < ps.length := by omega
  have e3 : (i : Int).toNat < (Rows.port ps).len := by show (i : Int).toNat < ps.length; omega
  simp only [ixP, e1, e3, decide_true, show decide (0 ≤ (i : Int)) = true from by simp, Bool.and_self]
theorem getP {ps : List Port} {i : Nat} {a : Port} (h : ps[i]? = some a) : ps.getD (i : Int).toNat Port.dflt = a := by
  show ps.getD i Port.dflt = a
  simp [List.getD, h]
theorem fg_go (S : Stat) (p : FgP) (i : Nat) : Out.way [true, true, true, false] (fgT S p i) = some (ixP p.ps i ++ [waitP (p.ps.getD (i : Int).toNat Port.dflt)], (.nrm, ⟨fgSl p (.v (.int .i64 (IntKind.i64.wrap (i + 1)))), fgHp p, 8⟩)) := by kernel_rfl
theorem fg_no (S : Stat) (p : FgP) (i : Nat) : Out.way [true, true, true, true] (fgT S p i) = some (ixP p.ps i ++ [waitP (p.ps.getD (i : Int).toNat Port.dflt)], (.ret, ⟨(6, [], .kb false) :: fgSl p (.v (.int .i64 i)), fgHp p, 8⟩)) := by kernel_rfl
theorem fg_end (S : Stat) (p : FgP) (i : Nat) : Out.way [false] (fgT S p i) = some ([decide ((i : Int) < p.ps.length)], (.exit 2, ⟨fgSl p (.v (.int .i64 i)), fgHp p, 8⟩)) := by kernel_rfl
def fgFin (p : FgP) : St := ⟨[(7, [], .kb true), (11, [], .v (.bool p.rest)), (12, [], .v (.int .i64 p.n)), (13, [], .v (.bool p.still))], [], 8⟩
def fgOut : St := ⟨[(6, [], .kb false)], [], 8⟩
def gFlagL : LoopFn := onTrim 8 [7, 10, 11, 12, 13, 14] fun st => match st with
  | ⟨[(7, [], .kb true), (10, [], .ptr 5 0), (11, [], .v (.bool rest)), (12, [], .v (.int .i64 n)), (13, [], .v (.bool still)), (14, [], .ki .i64 0)], [(5, bx), (0, _), (1, _), (4, _), (3, _), (2, .rows (.port ps)), (7, _), (6, _)], _⟩ =>
    (match unBri bx with
    | some (b, .slr 2 k 2 q, .slr 6 lo 6 false, .slr 7 lf 7 false) => some (.ite (decide (k = ps.length ∧ k ≤ 1000)) (.ite (ps.any waitP) (.ret (.ret, fgOut)) (.ret (.exit 2, fgFin ⟨b, ps, lo, lf, q, rest, n, still⟩))) .bad)
    | _ => none)
  | _ => none
theorem fgHp_re {S S' : Stat} (p : FgP) (E : Env) : ReHeap (fgHp p) S S' E (fgHp p) := ⟨⟨_, rfl, rfl, trivial⟩, ⟨_, rfl, rfl, trivial⟩, trivial⟩
theorem gFlagL_ok (S : Stat) (ls : List (Nat × LoopFn)) : LoopOk Tryz.prog (withLoops (cTl (S.rd 0 2)) ls) (fnOf 4).ntmps (lpOf 4 1) gFlagL := by
  have hrun : ∀ (p : FgP) (l : List Port) (i : Nat), runL (fun i a x => if waitP a = true then Step.out .ret fgOut else .go ()) (fun _ => (Ex.exit 2, fgFin p)) l i () = if l.any waitP = true then (.ret, fgOut) else (.exit 2, fgFin p) := fun p => runL_any fun i a => rfl
  refine loop_trim cTl_fam (nx := 8) (fuel := 60) (ts := [6, 7, 10, 11, 12, 13, 14]) (π := FgP) (α := Port) (τ := Unit) (S.rd 0 2) (fun _ i => S.rd 0 2) (fun _ _ => rfl) (fun p => p.ps) (fun p i _ => ⟨fgSl p (.v (.int .i64 i)), fgHp p, 8⟩)
    (fun p i _ => p.ps.length ≤ 1000) (fun p i a _ => if waitP a = true then .out .ret fgOut else .go ()) (fun p _ => (.exit 2, fgFin p)) (fun _ _ _ => rfl) ?_ ?_ ?_
  · intro st o r ho hr
    split at ho
    · rename_i rest n still bx _ _ _ _ ps _ _ _
      split at ho
      · rename_i b k q lo lf hb
        injection ho with ho
        subst ho
        have hh := Out.ite_bad hr
        obtain ⟨rfl, hlt⟩ := of_decide_eq_true hh.1
        have hr2 := hh.2
        obtain ⟨rfl, _, _⟩ := unBri_ok hb
        refine ⟨⟨b, ps, lo, lf, q, rest, n, still⟩, (), hlt, ?_, ?_, fun E => ⟨⟨⟨_, rfl, rfl⟩, ⟨_, rfl, rfl⟩, ⟨_, rfl, rfl⟩, ⟨_, rfl, rfl⟩, ⟨_, rfl, rfl⟩, ⟨_, rfl, rfl⟩, trivial⟩, ?_⟩⟩
        · rw [hrun]
          simp only [Out.sel] at hr2
          split at hr2
          · rename_i hb; rw [if_pos hb]; exact (Option.some.inj hr2).symm
          · rename_i hb; rw [if_neg hb]; exact (Option.some.inj hr2).symm
        · simp only [Out.sel] at hr2
          split at hr2
          · obtain rfl := Option.some.inj hr2; exact Nat.le_refl 8
          · obtain rfl := Option.some.inj hr2; exact Nat.le_refl 8
        · exact ⟨⟨_, rfl, rfl, trivial⟩, ⟨_, rfl, rfl, trivial⟩, trivial⟩
      · cases ho
    · cases ho
  · intro p i a x ha hinv
    have hi := (List.getElem?_eq_some_iff.1 ha).1
    have hx := ixP_true hi
    cases hb : waitP a with
    | true =>
      simp only [if_true]
      exact ⟨.ret, _, Out.way_sel (fg_no S p i) (by rw [hx, getP ha, hb]; rfl), rfl, by simp, fun E => ⟨⟨⟨_, rfl, rfl⟩, trivial⟩, trivial⟩⟩
    | false =>
      simp only [Bool.false_eq_true, if_false]
      refine ⟨.nrm, _, Out.way_sel (fg_go S p i) (by rw [hx, getP ha, hb]; rfl), rfl, hinv, fun E => ?_⟩
      rw [wrap_succ (n := 1001) (by omega) (by omega)]
      exact ⟨⟨⟨_, rfl, rfl⟩, ⟨_, rfl, rfl⟩, ⟨_, rfl, rfl⟩, ⟨_, rfl, rfl⟩, ⟨_, rfl, rfl⟩, ⟨_, rfl, rfl⟩, trivial⟩, fgHp_re _ E⟩
  · intro p x hinv
    have hn : ¬ ((p.ps.length : Nat) : Int) < p.ps.length := by omega
    exact ⟨.exit 2, _, Out.way_sel (fg_end S p p.ps.length) (by rw [decide_eq_false hn]), rfl, by simp, fun E => ⟨⟨⟨_, rfl, rfl⟩, ⟨_, rfl, rfl⟩, ⟨_, rfl, rfl⟩, ⟨_, rfl, rfl⟩, trivial⟩, trivial⟩⟩

/-! ### the law's walk -/
noncomputable def rsT (S : Stat) (p : TlP) : Out SV := valF 2 (inline (withLoops (cTl (S.rd 0 2)) [(5, gToldL), (13, gFlagL)]) 60 (fnOf 4) [.v (.bool p.rst), .slr 0 p.L.length 0 p.q, .slr 1 p.A.length 1 p.r] (tlHp p) 2)
def rsG (p : TlP) : Bool := decide ((p.L.length : Int) > 5) || decide ((p.L.length : Int) < 1) || decide ((p.A.length : Int) > 40)
def rsL (p : TlP) : Bool := decide (p.L.length = p.L.length ∧ p.A.length = p.A.length ∧ p.A.length ≤ 1000)
def rsV (p : TlP) : Bool := decide (p.L.length = p.L.length ∧ p.A.length = p.A.length) && lvOk p.rst p.L p.A
def rsS (p : TlP) : BS := (liveF p.rst p.L p.A).1
theorem rs_far (S : Stat) (p : TlP) : Out.way [true] (rsT S p) = some ([rsG p], .kb true) := by kernel_rfl
theorem rs_told (S : Stat) (p : TlP) : Out.way [false, true, true] (rsT S p) = some ([rsG p, rsL p, p.A.any noTold], .kb true) := by kernel_rfl
theorem rs_end (S : Stat) (p : TlP) : Out.way [false, true, false, true, true, true, false] (rsT S p) = some ([rsG p, rsL p, p.A.any noTold, rsV p, bsT (rsS p).ps.length (rsS p) (roomRun (rsS p)) (runF (rsS p)).1.ps.length,
    decide ((rsS p).ps.length = (runF (rsS p)).1.ps.length ∧ (rsS p).ps.length ≤ 1000), (runF (rsS p)).1.ps.any waitP], .v (.bool (((liveF p.rst p.L p.A).2 && (runF (rsS p)).2.2) && (runF (rsS p)).2.1 == 0))) := by kernel_rfl
end Go.Proofs.YtjemfkoamfnofaaGreat
