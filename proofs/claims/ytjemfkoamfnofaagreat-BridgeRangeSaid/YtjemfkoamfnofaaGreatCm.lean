/- BridgeRange: its loops, and its walk. -/
import Derived.Test.YtjemfkoamfnofaaGreatCl
set_option linter.unusedVariables false
set_option maxRecDepth 100000
namespace Go.Proofs.YtjemfkoamfnofaaGreat
open Go Go.RowKit

noncomputable def psRg (S : Stat) : List (Nat × ReadFn) := (10, specRead (spc gAw) S 3) :: (21, specRead (spc gRight) S 3) :: auto ps0 S 15 :: []
theorem psRg_ok (S : Stat) : ReadsOk S [] (psRg S) := .cons (specRead_ok (fun S' => spc_ok aw_ok S') 3) <| .cons (specRead_ok (fun S' => spc_ok right_ok S') 3) <| .auto ps0_ok <| .nil S []
noncomputable def cRg (S : Stat) : Ctx := mkCtx S [] (psRg S) (ssTl S) 60 5
theorem cRg_fam : Fam cRg := mk_fam psRg ssTl 60 5 psRg_ok ssTl_ok
/-- the loop over messages, in any law whose code does as that of BridgeRests -/
theorem told_loop {mk : Stat → Ctx} (hm : Fam mk) {n fuel : Nat} {b : Code} (S : Stat) (ls : List (Nat × LoopFn))
    (hgo : ∀ (p : TlP) (i : Nat), Out.way [true, true, true, false] (trimO [0, 1, 2, 6, 7, 8] 2 (exec (mk (S.rd 0 2)) n fuel b ⟨tlSl p (.v (.int .i64 i)), tlHp p, 2⟩)) = some (ixT p.A i ++ [noTold (p.A.getD (i : Int).toNat Todo.dflt)], (.nrm, ⟨tlSl p (.v (.int .i64 (IntKind.i64.wrap (i + 1)))), tlHp p, 2⟩)))
    (hno : ∀ (p : TlP) (i : Nat), Out.way [true, true, true, true] (trimO [0, 1, 2, 6, 7, 8] 2 (exec (mk (S.rd 0 2)) n fuel b ⟨tlSl p (.v (.int .i64 i)), tlHp p, 2⟩)) = some (ixT p.A i ++ [noTold (p.A.getD (i : Int).toNat Todo.dflt)], (.ret, ⟨[(0, [], .v (.bool p.rst)), (1, [], .slr 0 p.L.length 0 p.q), (2, [], .slr 1 p.A.length 1 p.r), (6, [], .kb true), (7, [], .kb true), (8, [], .v (.int .i64 i))], tlHp p, 2⟩)))
    (hend : ∀ (p : TlP) (i : Nat), Out.way [false] (trimO [0, 1, 2, 6, 7, 8] 2 (exec (mk (S.rd 0 2)) n fuel b ⟨tlSl p (.v (.int .i64 i)), tlHp p, 2⟩)) = some ([decide ((i : Int) < p.A.length)], (.exit 0, ⟨tlSl p (.v (.int .i64 i)), tlHp p, 2⟩))) :
    LoopOk Tryz.prog (withLoops (mk (S.rd 0 2)) ls) n b gToldL := by
  have hrun : ∀ (p : TlP) (l : List Todo) (i : Nat), runL (fun i a x => if noTold a = true then Step.out .ret tlOut else .go ()) (fun _ => (Ex.exit 0, tlFin p)) l i () = if l.any noTold = true then (.ret, tlOut) else (.exit 0, tlFin p) := fun p => runL_any fun i a => rfl
  refine loop_trim hm (nx := 2) (fuel := fuel) (ts := [0, 1, 2, 6, 7, 8]) (π := TlP) (α := Todo) (τ := Unit) (S.rd 0 2) (fun _ i => S.rd 0 2) (fun _ _ => rfl) (fun p => p.A) (fun p i _ => ⟨tlSl p (.v (.int .i64 i)), tlHp p, 2⟩)
    (fun p i _ => p.A.length ≤ 1000) (fun p i a _ => if noTold a = true then .out .ret tlOut else .go ()) (fun p _ => (.exit 0, tlFin p)) (fun _ _ _ => rfl) ?_ ?_ ?_
  · intro st o r ho hr
    split at ho
    · rename_i rst n q k r' L A _
      injection ho with ho
      subst ho
      have hh := Out.ite_bad hr
      obtain ⟨rfl, rfl, hlt⟩ := of_decide_eq_true hh.1
      have hr2 := hh.2
      refine ⟨⟨L, A, q, r', rst⟩, (), hlt, ?_, ?_, fun E => ⟨⟨⟨_, rfl, rfl⟩, ⟨_, rfl, rfl⟩, ⟨_, rfl, rfl⟩, ⟨_, rfl, rfl⟩, ⟨_, rfl, rfl⟩, trivial⟩, tlHp_re ⟨L, A, q, r', rst⟩ E⟩⟩
      · rw [hrun]
        simp only [Out.sel] at hr2
        split at hr2
        · rename_i hb; rw [if_pos hb]; exact (Option.some.inj hr2).symm
        · rename_i hb; rw [if_neg hb]; exact (Option.some.inj hr2).symm
      · simp only [Out.sel] at hr2
        split at hr2
        · obtain rfl := Option.some.inj hr2; exact Nat.le_refl 2
        · obtain rfl := Option.some.inj hr2; exact Nat.le_refl 2
    · cases ho
  · intro p i a x ha hinv
    have hi := (List.getElem?_eq_some_iff.1 ha).1
    have hx := ixT_true hi
    cases hb : noTold a with
    | true =>
      simp only [if_true]
      exact ⟨.ret, _, Out.way_sel (hno p i) (by rw [hx, getT ha, hb]; rfl), rfl, by simp, fun E => ⟨⟨⟨_, rfl, rfl⟩, trivial⟩, trivial⟩⟩
    | false =>
      simp only [Bool.false_eq_true, if_false]
      refine ⟨.nrm, _, Out.way_sel (hgo p i) (by rw [hx, getT ha, hb]; rfl), rfl, hinv, fun E => ?_⟩
      rw [wrap_succ (n := 1001) (by omega) (by omega)]
      exact ⟨⟨⟨_, rfl, rfl⟩, ⟨_, rfl, rfl⟩, ⟨_, rfl, rfl⟩, ⟨_, rfl, rfl⟩, ⟨_, rfl, rfl⟩, trivial⟩, tlHp_re _ E⟩
  · intro p x hinv
    have hn : ¬ ((p.A.length : Nat) : Int) < p.A.length := by omega
    exact ⟨.exit 0, _, Out.way_sel (hend p p.A.length) (by rw [decide_eq_false hn]), rfl, by simp, fun E => ⟨⟨⟨_, rfl, rfl⟩, ⟨_, rfl, rfl⟩, ⟨_, rfl, rfl⟩, ⟨_, rfl, rfl⟩, trivial⟩, tlHp_re _ E⟩⟩
theorem rgTold_ok (S : Stat) (ls : List (Nat × LoopFn)) : LoopOk Tryz.prog (withLoops (cRg (S.rd 0 2)) ls) (fnOf 7).ntmps (lpOf 7 0) gToldL :=
  told_loop cRg_fam (fuel := 60) S ls (fun p i => by kernel_rfl) (fun p i => by kernel_rfl) (fun p i => by kernel_rfl)

/-! ### is each port where it may be? -/
def outP (p : Port) : Bool := decide (p.role < 0) || decide (p.role > 4) || p.role != p.selected || decide (p.is_ < 0) || decide (p.is_ > 3) || decide (p.states.rx < 0) || decide (p.states.rx > 1) || decide (p.states.mig < 0) || decide (p.states.mig > 2) || decide (p.states.edge < 0) || decide (p.states.edge > 1) || decide (p.states.info < 0) || decide (p.states.info > 2) ||
  decide (p.states.trans < 0) || decide (p.states.trans > 5) || decide (p.states.pass < 0) || decide (p.states.pass > 2) || decide (p.states.topo < 0) || decide (p.states.topo > 2)
def out2P (b : Bri) (p : Port) : Bool := decide (p.clocks.txCount > b.hold) || (p.flags.forwarding && decide (p.role < 3)) || (p.role == 0) == p.enabled
structure RgP where
  b : Bri
  ps : List Port
  lo : Nat
  lf : Nat
  q : Bool
  rest : Bool
  right : Bool
def rgHp (p : RgP) : Heap := [(5, p.b.sv (.slr 2 p.ps.length 2 p.q) (.slr 3 p.lo 3 false) (.slr 4 p.lf 4 false)), (2, .rows (.port p.ps))]
def rgSl (p : RgP) (x : Int) (i : SV) : Slots := [(7, [], .kb true), (10, [], .ptr 5 0), (11, [], .v (.bool p.rest)), (12, [], .v (.bool p.right)), (13, [], .v (.int .i64 x)), (14, [], i)]
noncomputable def rgT (S : Stat) (p : RgP) (x : Int) (i : Nat) : Out (Ex × St) := trimO [6, 7, 10, 11, 12, 13, 14] 6 (exec (cRg (S.rd 0 2)) (fnOf 7).ntmps 60 (lpOf 7 1) ⟨rgSl p x (.v (.int .i64 i)), rgHp p, 6⟩)
def rgNx (p : RgP) (x : Int) (i : Nat) : Ex × St := (.nrm, ⟨rgSl p x (.v (.int .i64 (IntKind.i64.wrap (i + 1)))), rgHp p, 6⟩)
theorem rg_1 (S : Stat) (p : RgP) (x : Int) (i : Nat) : Out.way [true, true, true, false, true, false] (rgT S p x i) = some (ixP p.ps i ++ [outP (p.ps.getD (i : Int).toNat Port.dflt), (p.ps.getD (i : Int).toNat Port.dflt).role == 3, out2P p.b (p.ps.getD (i : Int).toNat Port.dflt)], rgNx p (IntKind.i64.wrap (x + 1)) i) := by kernel_rfl
theorem rg_0 (S : Stat) (p : RgP) (x : Int) (i : Nat) : Out.way [true, true, true, false, false, false] (rgT S p x i) = some (ixP p.ps i ++ [outP (p.ps.getD (i : Int).toNat Port.dflt), (p.ps.getD (i : Int).toNat Port.dflt).role == 3, out2P p.b (p.ps.getD (i : Int).toNat Port.dflt)], rgNx p x i) := by kernel_rfl
theorem rg_end (S : Stat) (p : RgP) (x : Int) (i : Nat) : Out.way [false] (rgT S p x i) = some ([decide ((i : Int) < p.ps.length)], (.exit 2, ⟨rgSl p x (.v (.int .i64 i)), rgHp p, 6⟩)) := by kernel_rfl
/-- what is counted, if no port is out of its place -/
def rgCnt : List Port → Int → Int
  | [], x => x
  | p :: r, x => rgCnt r (if (p.role == 3) = true then IntKind.i64.wrap (x + 1) else x)
def rgOut (b : Bri) (p : Port) : Bool := outP p || out2P b p
def rgFin (p : RgP) (x : Int) : St := ⟨[(7, [], .kb true), (11, [], .v (.bool p.rest)), (12, [], .v (.bool p.right)), (13, [], .v (.int .i64 x))], [], 6⟩
/-- all ports are in their places: that they are is demanded -/
def gRgL : LoopFn := onTrim 6 [7, 10, 11, 12, 13, 14] fun st => match st with
  | ⟨[(7, [], .kb true), (10, [], .ptr 5 0), (11, [], .v (.bool rest)), (12, [], .v (.bool right)), (13, [], .ki .i64 0), (14, [], .ki .i64 0)], [(5, bx), (0, _), (1, _), (4, _), (3, _), (2, .rows (.port ps))], _⟩ =>
    (match unBri bx with
    | some (b, .slr 2 k 2 q, .slr 3 lo 3 false, .slr 4 lf 4 false) => some (.ite (decide (k = ps.length ∧ k ≤ 1000) && !(ps.any (rgOut b))) (.ret (.exit 2, rgFin ⟨b, ps, lo, lf, q, rest, right⟩ (rgCnt ps 0))) .bad)
    | _ => none)
  | _ => none
theorem runL_cnt (fin : Int → Ex × St) : ∀ (l : List Port) (i : Nat) (x : Int), runL (fun i (p : Port) (x : Int) => Step.go (if (p.role == 3) = true then IntKind.i64.wrap (x + 1) else x)) fin l i x = fin (rgCnt l x)
  | [], i, x => rfl
  | p :: r, i, x => by rw [runL]; exact runL_cnt fin r (i + 1) _
theorem rgHp_re {S S' : Stat} (p : RgP) (E : Env) : ReHeap (rgHp p) S S' E (rgHp p) := ⟨⟨_, rfl, rfl, trivial⟩, ⟨_, rfl, rfl, trivial⟩, trivial⟩
theorem gRgL_ok (S : Stat) (ls : List (Nat × LoopFn)) : LoopOk Tryz.prog (withLoops (cRg (S.rd 0 2)) ls) (fnOf 7).ntmps (lpOf 7 1) gRgL := by
  refine loop_trim cRg_fam (nx := 6) (fuel := 60) (ts := [6, 7, 10, 11, 12, 13, 14]) (π := RgP) (α := Port) (τ := Int) (S.rd 0 2) (fun _ i => S.rd 0 2) (fun _ _ => rfl) (fun p => p.ps) (fun p i x => ⟨rgSl p x (.v (.int .i64 i)), rgHp p, 6⟩)
    (fun p i x => p.ps.length ≤ 1000 ∧ p.ps.any (rgOut p.b) = false) (fun p i a x => .go (if (a.role == 3) = true then IntKind.i64.wrap (x + 1) else x)) (fun p x => (.exit 2, rgFin p x)) (fun _ _ _ => rfl) ?_ ?_ ?_
  · intro st o r ho hr
    split at ho
    · rename_i rest right bx _ _ _ _ ps _
      split at ho
      · rename_i b k q lo lf hb
        injection ho with ho
        subst ho
        have hh := Out.ite_bad hr
        have ht := hh.1
        simp only [Bool.and_eq_true, decide_eq_true_eq, Bool.not_eq_true'] at ht
        obtain ⟨⟨rfl, hlt⟩, hno⟩ := ht
        obtain rfl := Option.some.inj hh.2
        obtain ⟨rfl, _, _⟩ := unBri_ok hb
        refine ⟨⟨b, ps, lo, lf, q, rest, right⟩, 0, ⟨hlt, hno⟩, (runL_cnt (fun x => (Ex.exit 2, rgFin ⟨b, ps, lo, lf, q, rest, right⟩ x)) ps 0 0).symm, Nat.le_refl 6, fun E => ⟨⟨⟨_, rfl, rfl⟩, ⟨_, rfl, rfl⟩, ⟨_, rfl, rfl⟩, ⟨_, rfl, rfl⟩, ⟨_, rfl, rfl⟩, ⟨_, rfl, rfl⟩, trivial⟩, ⟨⟨_, rfl, rfl, trivial⟩, ⟨_, rfl, rfl, trivial⟩, trivial⟩⟩⟩
      · cases ho
    · cases ho
  · intro p i a x ha hinv
    obtain ⟨hlt, hno⟩ := hinv
    have hi := (List.getElem?_eq_some_iff.1 ha).1
    have hx := ixP_true hi
    have hb : rgOut p.b a = false := by
      cases h : rgOut p.b a with
      | false => rfl
      | true =>
        have : p.ps.any (rgOut p.b) = true := List.any_eq_true.2 ⟨a, List.mem_of_getElem? ha, h⟩
        rw [hno] at this; cases this
    simp only [rgOut, Bool.or_eq_false_iff] at hb
    dsimp only
    cases h3 : (a.role == 3) with
    | true =>
      refine ⟨.nrm, _, Out.way_sel (rg_1 S p x i) (by rw [hx, getP ha, hb.1, h3, hb.2]; rfl), rfl, ⟨hlt, hno⟩, fun E => ?_⟩
      rw [wrap_succ (n := 1001) (by omega) (by omega), if_pos rfl]
      exact ⟨⟨⟨_, rfl, rfl⟩, ⟨_, rfl, rfl⟩, ⟨_, rfl, rfl⟩, ⟨_, rfl, rfl⟩, ⟨_, rfl, rfl⟩, ⟨_, rfl, rfl⟩, trivial⟩, rgHp_re _ E⟩
    | false =>
      refine ⟨.nrm, _, Out.way_sel (rg_0 S p x i) (by rw [hx, getP ha, hb.1, h3, hb.2]; rfl), rfl, ⟨hlt, hno⟩, fun E => ?_⟩
      rw [wrap_succ (n := 1001) (by omega) (by omega), if_neg (by decide)]
      exact ⟨⟨⟨_, rfl, rfl⟩, ⟨_, rfl, rfl⟩, ⟨_, rfl, rfl⟩, ⟨_, rfl, rfl⟩, ⟨_, rfl, rfl⟩, ⟨_, rfl, rfl⟩, trivial⟩, rgHp_re _ E⟩
  · intro p x hinv
    have hn : ¬ ((p.ps.length : Nat) : Int) < p.ps.length := by omega
    exact ⟨.exit 2, _, Out.way_sel (rg_end S p x p.ps.length) (by rw [decide_eq_false hn]), rfl, by simp, fun E => ⟨⟨⟨_, rfl, rfl⟩, ⟨_, rfl, rfl⟩, ⟨_, rfl, rfl⟩, ⟨_, rfl, rfl⟩, trivial⟩, trivial⟩⟩

/-! ### the law's walk -/
noncomputable def rgW (S : Stat) (p : TlP) : Out SV := valF 2 (inline (withLoops (cRg (S.rd 0 2)) [(5, gToldL), (14, gRgL)]) 60 (fnOf 7) [.v (.bool p.rst), .slr 0 p.L.length 0 p.q, .slr 1 p.A.length 1 p.r] (tlHp p) 2)
theorem rgw_far (S : Stat) (p : TlP) : Out.way [true] (rgW S p) = some ([rsG p], .kb true) := by kernel_rfl
theorem rgw_told (S : Stat) (p : TlP) : Out.way [false, true, true] (rgW S p) = some ([rsG p, rsL p, p.A.any noTold], .kb true) := by kernel_rfl
theorem rgw_end (S : Stat) (p : TlP) : Out.way [false, true, false, true, true, true] (rgW S p) = some ([rsG p, rsL p, p.A.any noTold, rsV p, decide ((rsS p).ps.length = (rsS p).ps.length ∧ (rsS p).ps.length < 9223372036854775808),
    decide ((rsS p).ps.length = (rsS p).ps.length ∧ (rsS p).ps.length ≤ 1000) && !((rsS p).ps.any (rgOut (rsS p).b))], .v (.bool (((liveF p.rst p.L p.A).2 && rightF (rsS p).b (rsS p).ps) && decide (rgCnt (rsS p).ps 0 ≤ 1)))) := by kernel_rfl
noncomputable def rgLs : List (Nat × LoopFn) := [(5, gToldL), (14, gRgL)]
theorem rgLs_ok (S : Stat) : ∀ i k g, rgLs[i]? = some (k, g) → LoopOk Tryz.prog (withLoops (cRg (S.rd 0 2)) rgLs) (fnOf 7).ntmps (lpOf 7 i) g := by
  intro i k g hg
  match i, hg with
  | 0, hg => obtain ⟨rfl, rfl⟩ := Prod.mk.inj (Option.some.inj hg); exact rgTold_ok S _
  | 1, hg => obtain ⟨rfl, rfl⟩ := Prod.mk.inj (Option.some.inj hg); exact gRgL_ok S _
end Go.Proofs.YtjemfkoamfnofaaGreat
