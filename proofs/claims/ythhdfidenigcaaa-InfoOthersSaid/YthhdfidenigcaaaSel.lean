/- sel and its reference: what they compute. -/
import Derived.Test.YthhdfidenigcaaaClk
set_option linter.unusedVariables false
set_option maxRecDepth 100000
namespace Go.Proofs.Ythhdfidenigcaaa
open Go Go.RowKit

noncomputable def psF (S : Stat) : List (Nat × ReadFn) := auto psE S 57 :: psE S
theorem psF_ok (S : Stat) : ReadsOk S [] (psF S) := .auto psE_ok <| psE_ok S

/-- does a bridge itself tell it? -/
def ownV (id : Int) (v : Vec) : Bool := addrI v.bridge == addrI id
def rootStep (id : Int) (i : Nat) (p : Port) (x : Vec × Int) : Vec × Int :=
  if (p.is_ != 3 || ownV id p.vec) = true then x else if decide (cmpV (thrV p.vec p.cost p.id) x.1 < 0) = true then (thrV p.vec p.cost p.id, i) else x
def rootL (id : Int) : List Port → Nat → Vec × Int → Vec × Int
  | [], _, x => x
  | p :: r, i, x => rootL id r (i + 1) (rootStep id i p x)
def ownOf (id : Int) : Vec := ⟨id, 0, id, 0, 0⟩
/-- the best that there is, and where it was heard -/
def rootF (id : Int) (ps : List Port) : Vec × Int := rootL id ps 0 (ownOf id, -1)

noncomputable def cRoot (S : Stat) : Ctx := mkCtx S [] (psF S) [] 20 6
def rootSt (q : BriP) (i : SV) (x : Vec × Int) : St :=
  ⟨[(1, [], .ptr 1 0), (2, [], .ptr 2 0), (3, [], .v (.int .i64 x.2)), (11, [], .slr 0 q.ps.length 0 q.q), (12, [], .v (.int .i64 q.ps.length)), (13, [], i)],
   [(2, .rcd (.vec x.1)), (1, q.b.sv (.slr 0 q.ps.length 0 q.q) (.sl 0) (.sl 1)), (0, .rows (.port q.ps))], 3⟩
def rootTs : List Nat := [1, 2, 3, 11, 12, 13]
theorem root_round (S : Stat) (q : BriP) (i : Nat) (x : Vec × Int) : trimO rootTs 3 (exec (cRoot (S.rd i 1)) (fnOf 33).ntmps 20 (lpOf 33 0) (rootSt q (.v (.int .i64 i)) x)) =
    let p := q.ps.getD i Port.dflt
    let nx := Out.ret (Ex.nrm, rootSt q (.v (.int .i64 (IntKind.i64.wrap (i + 1)))) x)
    .ite (decide ((i : Int) < q.ps.length)) (.ite (decide (0 ≤ (i : Int)) && decide ((i : Int) < q.ps.length)) (.ite (decide (i < q.ps.length)) (.ite (p.is_ != 3 || ownV q.b.id p.vec) nx
      (.ite (decide (cmpV (thrV p.vec p.cost p.id) x.1 < 0)) (.ret (.nrm, rootSt q (.v (.int .i64 (IntKind.i64.wrap (i + 1)))) (thrV p.vec p.cost p.id, i))) nx)) .bad) .bad)
      (.ret (.exit 0, rootSt q (.v (.int .i64 i)) x)) := by kernel_rfl

noncomputable def rootOut (q : BriP) (x : Vec × Int) : Out (Ex × St) :=
  .ret (.exit 0, rootSt q (.v (.int .i64 q.ps.length)) (rootL q.b.id q.ps 0 x))
noncomputable def gRootL : LoopFn := onTrim 3 rootTs fun st => match st with
  | ⟨[(1, [], .ptr 1 0), (2, [], .ptr 2 0), (3, [], .ki .i64 y), (11, [], .slr 0 n 0 q1), (12, [], .v (.int .i64 n')), (13, [], .ki .i64 0)], [(2, .rcd (.vec v)), (1, bx), (0, .rows (.port ps))], _⟩ =>
    (match unBri bx with
    | some (b, .slr 0 n'' 0 q2, .sl 0, .sl 1) => some (.ite (decide (n = ps.length ∧ n' = ps.length ∧ n'' = ps.length ∧ q1 = q2 ∧ ps.length < 9223372036854775808)) (rootOut ⟨b, ps, q2⟩ (v, y)) .bad)
    | _ => none)
  | _ => none
theorem rootL_run (q : BriP) : ∀ (r : List Port) (i : Nat) (x : Vec × Int), runL (fun i p x => Step.go (rootStep q.b.id i p x)) (fun x => (Ex.exit 0, rootSt q (.v (.int .i64 q.ps.length)) x)) r i x = (.exit 0, rootSt q (.v (.int .i64 q.ps.length)) (rootL q.b.id r i x))
  | [], i, x => rfl
  | p :: r, i, x => by rw [runL, rootL]; exact rootL_run q r (i + 1) _
theorem cRoot_fam : Fam cRoot := mk_fam psF (fun _ => []) 20 6 psF_ok (fun _ _ _ h => by cases h)
theorem gRootL_ok (S : Stat) : LoopOk Try.prog (withLoops (cRoot (S.rd 0 1)) [(3, gRootL)]) (fnOf 33).ntmps (lpOf 33 0) gRootL := by
  refine loop_trim cRoot_fam (nx := 3) (fuel := 20) (ts := rootTs) (π := BriP) (S.rd 0 1) (fun _ i => S.rd i 1) (fun _ _ => rfl) (fun q => q.ps) (fun q i x => rootSt q (.v (.int .i64 i)) x) (fun q i x => q.ps.length < 9223372036854775808)
    (fun q i p x => .go (rootStep q.b.id i p x)) (fun q x => (.exit 0, rootSt q (.v (.int .i64 q.ps.length)) x)) (fun _ _ _ => rfl) ?_ ?_ ?_
  · intro st o r ho hr
    split at ho
    · split at ho
      · rename_i hb
        injection ho with ho
        subst ho
        obtain ⟨rfl, _, _⟩ := unBri_ok hb
        have hh := Out.ite_bad hr
        obtain ⟨rfl, rfl, rfl, rfl, hlt⟩ := of_decide_eq_true hh.1
        obtain rfl := Option.some.inj hh.2
        exact ⟨⟨_, _, _⟩, (_, _), hlt, (rootL_run _ _ _ _).symm, Nat.le_refl _, fun E => ⟨⟨⟨_, rfl, rfl⟩, ⟨_, rfl, rfl⟩, ⟨_, rfl, rfl⟩, ⟨_, rfl, rfl⟩, ⟨_, rfl, rfl⟩, ⟨_, rfl, rfl⟩, trivial⟩, ⟨⟨_, rfl, rfl, trivial⟩, ⟨_, rfl, rfl, trivial⟩, ⟨_, rfl, rfl, trivial⟩, trivial⟩⟩⟩
      · cases ho
    · cases ho
  · intro q i p x hp hinv
    have hi := (List.getElem?_eq_some_iff.1 hp).1
    rw [root_round]
    have hg : q.ps.getD i Port.dflt = p := by simp [List.getD, hp]
    refine ⟨.nrm, rootSt q (.v (.int .i64 (IntKind.i64.wrap (i + 1)))) (rootStep q.b.id i p x), ?_, rfl, hinv, fun E => ?_⟩
    · simp only [hg, rootStep]
      simp [Out.sel, hi]
      split
      · simp_all [Out.sel]
      · split <;> simp_all [Out.sel]
    · rw [wrap_succ hi hinv]
      exact ⟨⟨⟨_, rfl, rfl⟩, ⟨_, rfl, rfl⟩, ⟨_, rfl, rfl⟩, ⟨_, rfl, rfl⟩, ⟨_, rfl, rfl⟩, ⟨_, rfl, rfl⟩, trivial⟩, ⟨⟨_, rfl, rfl, trivial⟩, ⟨_, rfl, rfl, trivial⟩, ⟨_, rfl, rfl, trivial⟩, trivial⟩⟩
  · intro q x hinv
    rw [root_round]
    exact ⟨.exit 0, rootSt q (.v (.int .i64 q.ps.length)) x, by simp [Out.sel], rfl, by simp, fun E => ⟨⟨⟨_, rfl, rfl⟩, ⟨_, rfl, rfl⟩, ⟨_, rfl, rfl⟩, ⟨_, rfl, rfl⟩, ⟨_, rfl, rfl⟩, ⟨_, rfl, rfl⟩, trivial⟩, ⟨⟨_, rfl, rfl, trivial⟩, ⟨_, rfl, rfl, trivial⟩, ⟨_, rfl, rfl, trivial⟩, trivial⟩⟩⟩

def gRoot : CanonFn := fun ro args H m => match args, H.get 0 with
  | [bx], some (.rows (.port ps)) => (match unBri bx with
    | some (b, .slr 0 n 0 _, _, _) => .ite (decide (n = ps.length ∧ ps.length < 9223372036854775808)) (.ret (.tup [.rcd (.vec (rootF b.id ps).1), .v (.int .i64 (rootF b.id ps).2)], H, m)) .bad
    | _ => .bad)
  | _, _ => .bad
theorem root_run (S : Stat) (b : Bri) (ps : List Port) (qq : Bool) : valF 1 (inline (withLoops (cRoot (S.rd 0 1)) [(3, gRootL)]) 20 (fnOf 33) [b.sv (.slr 0 ps.length 0 qq) (.sl 0) (.sl 1)] [(0, .rows (.port ps))] 1) =
    .ite (decide (ps.length = ps.length ∧ (ps.length : Int) = ps.length ∧ ps.length = ps.length ∧ qq = qq ∧ ps.length < 9223372036854775808)) (.ret (.tup [.rcd (.vec (rootF b.id ps).1), .v (.int .i64 (rootF b.id ps).2)])) .bad := by kernel_rfl
theorem root_ok : CanonOk 33 gRoot := by
  refine canon_rd cRoot_fam Try.func33 (by kernel_rfl) [(3, gRootL)] (by kernel_rfl) rfl 1 (fun S i k g hg => ?_) ?_
  · match i, hg with
    | 0, hg => obtain ⟨rfl, rfl⟩ := Prod.mk.inj (Option.some.inj hg); exact gRootL_ok _
  intro S args H m r hr
  unfold gRoot at hr
  split at hr
  · rename_i bx ps hH
    split at hr
    · rename_i b n qq o f hb
      obtain ⟨rfl, ho, hf⟩ := unBri_ok hb
      have hh := Out.ite_bad hr
      obtain ⟨rfl, hlt⟩ := of_decide_eq_true hh.1
      obtain rfl := Option.some.inj hh.2
      refine ⟨rfl, rfl, fun E => ?_⟩
      obtain ⟨l, hl⟩ := Bri.sv_named (S := S) (E := E) (b := b) (p := .slr 0 ps.length 0 qq) ho hf
      have hs := congrArg Out.sel (root_run (S.names l) b ps qq)
      simp only [Out.sel, hlt, and_self, decide_true, if_true] at hs
      exact ⟨S.names l, 20, [b.sv (.slr 0 ps.length 0 qq) (.sl 0) (.sl 1)], [(0, .rows (.port ps))], _, rfl, hs, dens_cons (hl ((S.names l).rd 0 1) rfl rfl).1 (dens_nil _ _ _ _), ⟨⟨_, hH, rfl, trivial⟩, trivial⟩, rfl⟩
    · cases hr
  · cases hr
end Go.Proofs.Ythhdfidenigcaaa
