/- fordref14: what the reference computes. -/
import Derived.Test.YthhdfidenigcaaaSelStep
set_option linter.unusedVariables false
set_option maxRecDepth 100000
namespace Go.Proofs.Ythhdfidenigcaaa
open Go Go.RowKit

/-! ### Root -/
def addrR (x : Int) : Int := x.tmod 281474976710656
def offBad (id : Int) (p : Port) : Bool := p.is_ != 3 || addrR p.vec.bridge == addrR id
def refRootStep (id : Int) (i : Nat) (p : Port) (x : Vec × Int) : Vec × Int :=
  if offBad id p = true then x else if decide (refCmpV (thrV p.vec p.cost p.id) x.1 < 0) = true then (thrV p.vec p.cost p.id, i) else x
def refRootL (id : Int) : List Port → Nat → Vec × Int → Vec × Int
  | [], _, x => x
  | p :: r, i, x => refRootL id r (i + 1) (refRootStep id i p x)
def refRootF (id : Int) (ps : List Port) : Vec × Int := refRootL id ps 0 (ownOf id, -1)
noncomputable def cRef (S : Stat) : Ctx := mkCtx S [] (psE S) [] 20 6
theorem cRef_fam : Fam cRef := mk_fam psE (fun _ => []) 20 6 psE_ok (fun _ _ _ h => by cases h)
def refRootSt (q : BriP) (i : SV) (x : Vec × Int) : St :=
  ⟨[(1, [], .ptr 1 0), (2, [], .ptr 2 0), (4, [], .ptr 3 0), (5, [], .v (.int .i64 x.2)), (6, [], i)],
   [(3, .rcd (.vec x.1)), (2, .rcd (.vec Vec.dflt)), (1, q.b.sv (.slr 0 q.ps.length 0 q.q) (.sl 0) (.sl 1)), (0, .rows (.port q.ps))], 4⟩
def refRootTs : List Nat := [1, 2, 4, 5, 6]
theorem refRoot_round (S : Stat) (q : BriP) (i : Nat) (x : Vec × Int) : trimO refRootTs 4 (exec (cRef (S.rd 0 1)) (fnOf 34).ntmps 20 (lpOf 34 0) (refRootSt q (.v (.int .i64 i)) x)) =
    let p := q.ps.getD i Port.dflt
    let nx := Out.ret (Ex.nrm, refRootSt q (.v (.int .i64 (IntKind.i64.wrap (i + 1)))) x)
    .ite (decide ((i : Int) < q.ps.length)) (.ite (decide (0 ≤ (i : Int)) && decide ((i : Int) < q.ps.length)) (.ite (decide (i < q.ps.length)) (.ite (offBad q.b.id p) nx
      (.ite (decide (refCmpV (thrV p.vec p.cost p.id) x.1 < 0)) (.ret (.nrm, refRootSt q (.v (.int .i64 (IntKind.i64.wrap (i + 1)))) (thrV p.vec p.cost p.id, i))) nx)) .bad) .bad)
      (.ret (.exit 0, refRootSt q (.v (.int .i64 i)) x)) := by kernel_rfl
noncomputable def refRootOut (q : BriP) (x : Vec × Int) : Out (Ex × St) := .ret (.exit 0, refRootSt q (.v (.int .i64 q.ps.length)) (refRootL q.b.id q.ps 0 x))
noncomputable def gRefRootL : LoopFn := onTrim 4 refRootTs fun st => match st with
  | ⟨[(1, [], .ptr 1 0), (2, [], .ptr 2 0), (4, [], .ptr 3 0), (5, [], .ki .i64 y), (6, [], .ki .i64 0)], [(3, .rcd (.vec v)), (2, .rcd (.vec v0)), (1, bx), (0, .rows (.port ps))], _⟩ =>
    (match unBri bx with
    | some (b, .slr 0 n 0 qq, .sl 0, .sl 1) => some (.ite (decide (n = ps.length ∧ v0 = Vec.dflt ∧ ps.length < 9223372036854775808)) (refRootOut ⟨b, ps, qq⟩ (v, y)) .bad)
    | _ => none)
  | _ => none
theorem refRootL_run (q : BriP) : ∀ (r : List Port) (i : Nat) (x : Vec × Int), runL (fun i p x => Step.go (refRootStep q.b.id i p x)) (fun x => (Ex.exit 0, refRootSt q (.v (.int .i64 q.ps.length)) x)) r i x = (.exit 0, refRootSt q (.v (.int .i64 q.ps.length)) (refRootL q.b.id r i x))
  | [], i, x => rfl
  | p :: r, i, x => by rw [runL, refRootL]; exact refRootL_run q r (i + 1) _
theorem gRefRootL_ok (S : Stat) (ls : List (Nat × LoopFn)) : LoopOk Try.prog (withLoops (cRef (S.rd 0 1)) ls) (fnOf 34).ntmps (lpOf 34 0) gRefRootL := by
  refine loop_trim cRef_fam (nx := 4) (fuel := 20) (ts := refRootTs) (π := BriP) (S.rd 0 1) (fun _ i => S.rd 0 1) (fun _ _ => rfl) (fun q => q.ps) (fun q i x => refRootSt q (.v (.int .i64 i)) x) (fun q i x => q.ps.length < 9223372036854775808)
    (fun q i p x => .go (refRootStep q.b.id i p x)) (fun q x => (.exit 0, refRootSt q (.v (.int .i64 q.ps.length)) x)) (fun _ _ _ => rfl) ?_ ?_ ?_
  · intro st o r ho hr
    split at ho
    · split at ho
      · rename_i hb
        injection ho with ho
        subst ho
        obtain ⟨rfl, _, _⟩ := unBri_ok hb
        have hh := Out.ite_bad hr
        obtain ⟨rfl, rfl, hlt⟩ := of_decide_eq_true hh.1
        obtain rfl := Option.some.inj hh.2
        exact ⟨⟨_, _, _⟩, (_, _), hlt, (refRootL_run _ _ _ _).symm, Nat.le_refl _, fun E => ⟨⟨⟨_, rfl, rfl⟩, ⟨_, rfl, rfl⟩, ⟨_, rfl, rfl⟩, ⟨_, rfl, rfl⟩, ⟨_, rfl, rfl⟩, trivial⟩, ⟨⟨_, rfl, rfl, trivial⟩, ⟨_, rfl, rfl, trivial⟩, ⟨_, rfl, rfl, trivial⟩, ⟨_, rfl, rfl, trivial⟩, trivial⟩⟩⟩
      · cases ho
    · cases ho
  · intro q i p x hp hinv
    have hi := (List.getElem?_eq_some_iff.1 hp).1
    rw [refRoot_round]
    have hg : q.ps.getD i Port.dflt = p := by simp [List.getD, hp]
    refine ⟨.nrm, refRootSt q (.v (.int .i64 (IntKind.i64.wrap (i + 1)))) (refRootStep q.b.id i p x), ?_, rfl, hinv, fun E => ?_⟩
    · simp only [hg, refRootStep]
      simp [Out.sel, hi]
      split
      · simp_all [Out.sel]
      · split <;> simp_all [Out.sel]
    · rw [wrap_succ hi hinv]
      exact ⟨⟨⟨_, rfl, rfl⟩, ⟨_, rfl, rfl⟩, ⟨_, rfl, rfl⟩, ⟨_, rfl, rfl⟩, ⟨_, rfl, rfl⟩, trivial⟩, ⟨⟨_, rfl, rfl, trivial⟩, ⟨_, rfl, rfl, trivial⟩, ⟨_, rfl, rfl, trivial⟩, ⟨_, rfl, rfl, trivial⟩, trivial⟩⟩
  · intro q x hinv
    rw [refRoot_round]
    exact ⟨.exit 0, refRootSt q (.v (.int .i64 q.ps.length)) x, by simp [Out.sel], rfl, by simp, fun E => ⟨⟨⟨_, rfl, rfl⟩, ⟨_, rfl, rfl⟩, ⟨_, rfl, rfl⟩, ⟨_, rfl, rfl⟩, ⟨_, rfl, rfl⟩, trivial⟩, ⟨⟨_, rfl, rfl, trivial⟩, ⟨_, rfl, rfl, trivial⟩, ⟨_, rfl, rfl, trivial⟩, ⟨_, rfl, rfl, trivial⟩, trivial⟩⟩⟩
def gRefRoot : CanonFn := fun ro args H m => match args, H.get 0 with
  | [bx], some (.rows (.port ps)) => (match unBri bx with
    | some (b, .slr 0 n 0 _, _, _) => .ite (decide (n = ps.length ∧ ps.length < 9223372036854775808)) (.ret (.tup [.rcd (.vec (refRootF b.id ps).1), .v (.int .i64 (refRootF b.id ps).2)], H, m)) .bad
    | _ => .bad)
  | _, _ => .bad
theorem refRoot_run (S : Stat) (b : Bri) (ps : List Port) (qq : Bool) : valF 1 (inline (withLoops (cRef (S.rd 0 1)) [(4, gRefRootL)]) 20 (fnOf 34) [b.sv (.slr 0 ps.length 0 qq) (.sl 0) (.sl 1)] [(0, .rows (.port ps))] 1) =
    .ite (decide (ps.length = ps.length ∧ Vec.dflt = Vec.dflt ∧ ps.length < 9223372036854775808)) (.ret (.tup [.rcd (.vec (refRootF b.id ps).1), .v (.int .i64 (refRootF b.id ps).2)])) .bad := by kernel_rfl
theorem refRoot_ok : CanonOk 34 gRefRoot := by
  refine canon_rd cRef_fam Try.func34 (by kernel_rfl) [(4, gRefRootL)] (by kernel_rfl) rfl 1 (fun S i k g hg => ?_) ?_
  · match i, hg with
    | 0, hg => obtain ⟨rfl, rfl⟩ := Prod.mk.inj (Option.some.inj hg); exact gRefRootL_ok _ _
  intro S args H m r hr
  unfold gRefRoot at hr
  split at hr
  · rename_i bx ps hH
    split at hr
    · rename_i b n qq o f hb
      obtain ⟨rfl, ho, hf⟩ := unBri_ok hb
      have hh := Out.ite_bad hr
      obtain ⟨rfl, hlt⟩ := of_decide_eq_true hh.1
      obtain rfl := Option.some.inj hh.2
      refine ⟨rfl, rfl, fun E => ?_⟩
      obtain ⟨l, hl⟩ := Bri.sv_named (S := S) (E := E) (b := b) (p := .slr 0 ps.length 0 qq) ho hf
      have hs := congrArg Out.sel (refRoot_run (S.names l) b ps qq)
      simp only [Out.sel, hlt, and_self, decide_true, if_true] at hs
      exact ⟨S.names l, 20, [b.sv (.slr 0 ps.length 0 qq) (.sl 0) (.sl 1)], [(0, .rows (.port ps))], _, rfl, hs, dens_cons (hl ((S.names l).rd 0 1) rfl rfl).1 (dens_nil _ _ _ _), ⟨⟨_, hH, rfl, trivial⟩, trivial⟩, rfl⟩
    · cases hr
  · cases hr
theorem refRootL_bnd (id : Int) : ∀ (r : List Port) (i : Nat) (x : Vec × Int) (n : Nat), i + r.length = n → -1 ≤ x.2 → x.2 < n → -1 ≤ (refRootL id r i x).2 ∧ (refRootL id r i x).2 < n
  | [], i, x, n, _, h1, h2 => ⟨h1, h2⟩
  | p :: r, i, x, n, hn, h1, h2 => by
    rw [refRootL]
    simp only [List.length_cons] at hn
    have h0 : refRootStep id i p x = x ∨ (refRootStep id i p x).2 = i := by
      unfold refRootStep
      split
      · exact .inl rfl
      · split
        · exact .inr rfl
        · exact .inl rfl
    refine refRootL_bnd id r (i + 1) _ n (by omega) ?_ ?_ <;> rcases h0 with h0 | h0 <;> rw [h0] <;> omega
theorem refRootF_bnd (id : Int) (ps : List Port) : -1 ≤ (refRootF id ps).2 ∧ (refRootF id ps).2 < ps.length :=
  refRootL_bnd id ps 0 _ _ (by simp) (by simp) (by simp; omega)

/-! ### Step -/
noncomputable def ssR (S : Stat) : List (Nat × SpecFn) := [(34, spc gRefRoot S)]
theorem ssR_ok (S : Stat) : ∀ f g, (f, g) ∈ ssR S → SpecOk S [] f g := by
  intro f g h
  simp only [ssR, List.mem_cons, Prod.mk.injEq, List.not_mem_nil, or_false] at h
  obtain ⟨rfl, rfl⟩ := h
  exact spc_ok refRoot_ok S
noncomputable def cRefStep (S : Stat) : Ctx := mkCtx S [] (psE S) (ssR S) 20 6
theorem cRefStep_fam : Fam cRefStep := mk_fam psE ssR 20 6 psE_ok ssR_ok
def anySt (q : BriP) (x i : SV) : St := ⟨[(0, [], .ptr 0 0), (3, [], x), (4, [], i)], [(0, q.b.sv (.slr 1 q.ps.length 1 q.q) (.sl 0) (.sl 1)), (1, .rows (.port q.ps))], 2⟩
def anyFin (q : BriP) (x : SV) : St := ⟨[(0, [], .ptr 0 0), (3, [], x)], [(0, q.b.sv (.slr 1 q.ps.length 1 q.q) (.sl 0) (.sl 1)), (1, .rows (.port q.ps))], 2⟩
theorem any_round (S : Stat) (q : BriP) (i : Nat) (x : Bool) : trimO [0, 3, 4] 2 (exec (cRefStep (S.wt 0)) (fnOf 37).ntmps 20 (lpOf 37 0) (anySt q (.v (.bool x)) (.v (.int .i64 i)))) =
    .ite (decide ((i : Int) < q.ps.length)) (.ite (decide (0 ≤ (i : Int)) && decide ((i : Int) < q.ps.length)) (.ite (decide (i < q.ps.length))
      (.ite (askP (q.ps.getD i Port.dflt)) (.ret (.nrm, anySt q (.kb true) (.v (.int .i64 (IntKind.i64.wrap (i + 1)))))) (.ret (.nrm, anySt q (.v (.bool x)) (.v (.int .i64 (IntKind.i64.wrap (i + 1))))))) .bad) .bad)
      (.ret (.exit 0, anySt q (.v (.bool x)) (.v (.int .i64 i)))) := by kernel_rfl
noncomputable def gAnyL : LoopFn := onTrim 2 [0, 3, 4] fun st => match st with
  | ⟨[(0, [], .ptr 0 0), (3, [], .kb false), (4, [], .ki .i64 0)], [(0, bx), (1, .rows (.port ps))], _⟩ =>
    (match unBri bx with
    | some (b, .slr 1 n 1 q, .sl 0, .sl 1) => some (.ite (decide (n = ps.length ∧ ps.length < 9223372036854775808)) (.ret (.exit 0, anyFin ⟨b, ps, q⟩ (.v (.bool (ps.any askP))))) .bad)
    | _ => none)
  | _ => none
theorem any_run (fin : Bool → Ex × St) : ∀ (l : List Port) (i : Nat) (x : Bool), runL (fun i p x => Step.go (x || askP p)) fin l i x = fin (x || l.any askP)
  | [], i, x => by simp [runL]
  | p :: r, i, x => by rw [runL]; dsimp only; rw [any_run fin r (i + 1)]; simp [Bool.or_assoc]
theorem gAnyL_ok (S : Stat) (ls : List (Nat × LoopFn)) : LoopOk Try.prog (withLoops (cRefStep (S.wt 0)) ls) (fnOf 37).ntmps (lpOf 37 0) gAnyL := by
  refine loop_trim cRefStep_fam (nx := 2) (fuel := 20) (ts := [0, 3, 4]) (π := BriP) (τ := Bool) (S.wt 0) (fun _ i => S.wt 0) (fun _ _ => rfl) (fun q => q.ps) (fun q i x => anySt q (.v (.bool x)) (.v (.int .i64 i))) (fun q i x => q.ps.length < 9223372036854775808)
    (fun q i p x => .go (x || askP p)) (fun q x => (.exit 0, anyFin q (.v (.bool x)))) (fun _ _ _ => rfl) ?_ ?_ ?_
  · intro st o r ho hr
    split at ho
    · rename_i bx ps nx
      split at ho
      · rename_i b n qq hb
        injection ho with ho
        subst ho
        obtain ⟨rfl, _, _⟩ := unBri_ok hb
        have hh := Out.ite_bad hr
        obtain ⟨rfl, hlt⟩ := of_decide_eq_true hh.1
        obtain rfl := Option.some.inj hh.2
        exact ⟨⟨b, ps, qq⟩, false, hlt, by rw [any_run]; rfl, Nat.le_refl _, fun E => ⟨⟨⟨_, rfl, rfl⟩, ⟨_, rfl, rfl⟩, ⟨_, rfl, rfl⟩, trivial⟩, ⟨⟨_, rfl, rfl, trivial⟩, ⟨_, rfl, rfl, trivial⟩, trivial⟩⟩⟩
      · cases ho
    · cases ho
  · intro q i p x hp hinv
    have hi := (List.getElem?_eq_some_iff.1 hp).1
    rw [any_round]
    have hg : q.ps.getD i Port.dflt = p := by simp [List.getD, hp]
    rw [hg]
    cases ha : askP p with
    | true =>
      refine ⟨.nrm, anySt q (.kb true) (.v (.int .i64 (IntKind.i64.wrap (i + 1)))), by simp [Out.sel, hi], rfl, hinv, fun E => ?_⟩
      rw [wrap_succ hi hinv, Bool.or_true]
      exact ⟨⟨⟨_, rfl, rfl⟩, ⟨_, rfl, rfl⟩, ⟨_, rfl, rfl⟩, trivial⟩, ⟨⟨_, rfl, rfl, trivial⟩, ⟨_, rfl, rfl, trivial⟩, trivial⟩⟩
    | false =>
      refine ⟨.nrm, anySt q (.v (.bool x)) (.v (.int .i64 (IntKind.i64.wrap (i + 1)))), by simp [Out.sel, hi], rfl, hinv, fun E => ?_⟩
      rw [wrap_succ hi hinv, Bool.or_false]
      exact ⟨⟨⟨_, rfl, rfl⟩, ⟨_, rfl, rfl⟩, ⟨_, rfl, rfl⟩, trivial⟩, ⟨⟨_, rfl, rfl, trivial⟩, ⟨_, rfl, rfl, trivial⟩, trivial⟩⟩
  · intro q x hinv
    rw [any_round]
    exact ⟨.exit 0, anySt q (.v (.bool x)) (.v (.int .i64 q.ps.length)), by simp [Out.sel], rfl, by simp, fun E => ⟨⟨⟨_, rfl, rfl⟩, ⟨_, rfl, rfl⟩, trivial⟩, ⟨⟨_, rfl, rfl, trivial⟩, ⟨_, rfl, rfl, trivial⟩, trivial⟩⟩⟩

def ownR (id : Int) (v : Vec) : Bool := addrR v.bridge == addrR id
def refNe (p : Port) : Bool := !(sameV p.designated p.vec) || !(decide (p.times = p.desTimes))
def refRoleT (b : Bri) (i : Int) (p : Port) (k : Port → Out (Ex × St)) : Out (Ex × St) :=
  .ite (p.is_ == 0) (k { p with selected := 0 }) (.ite (p.is_ == 1) (k (setSel p 4 true)) (.ite (p.is_ == 2) (.ite (refNe p) (k (setSel p 4 true)) (k { p with selected := 4 }))
    (.ite (p.is_ == 3) (.ite (i == b.rootPort) (k (setSel p 3 false)) (.ite (lessV p.designated p.vec) (k (setSel p 4 true)) (.ite (ownR b.id p.vec) (k (setSel p 2 false)) (k (setSel p 1 false))))) (k p))))
def refRoleF (b : Bri) (i : Int) (p : Port) : Port :=
  if p.is_ == 0 then { p with selected := 0 } else if p.is_ == 1 then setSel p 4 true else if p.is_ == 2 then (if refNe p then setSel p 4 true else { p with selected := 4 })
  else if p.is_ == 3 then (if i == b.rootPort then setSel p 3 false else if lessV p.designated p.vec then setSel p 4 true else if ownR b.id p.vec then setSel p 2 false else setSel p 1 false) else p
theorem refRoleT_sel (b : Bri) (i : Int) (p : Port) (k : Port → Out (Ex × St)) : (refRoleT b i p k).sel = (k (refRoleF b i p)).sel := by
  unfold refRoleT refRoleF
  simp only [Out.sel]
  repeat' split
  all_goals simp_all
def refStepSt (q : BriP) (x r : List Port) (i : SV) : St := ⟨[(0, [], .ptr 0 0), (5, [], i)], [(0, q.b.sv (.slr 1 q.ps.length 1 q.q) (.sl 0) (.sl 1)), (1, focV x r)], 2⟩
def refStepNx (q : BriP) (x r : List Port) (i : Int) (p' : Port) : St := ⟨[(0, [], .ptr 0 0), (5, [], .v (.int .i64 (IntKind.i64.wrap (i + 1))))], [(0, q.b.sv (.slr 1 q.ps.length 1 q.q) (.sl 0) (.sl 1)), (1, .foc 0 (.port x) (.rcd (.port p')) (.port r))], 2⟩
theorem refStep_round (S : Stat) (q : BriP) (i : Int) (x r : List Port) (p : Port) : trimO [0, 5] 2 (exec (cRefStep (S.wt i)) (fnOf 37).ntmps 20 (lpOf 37 1) (refStepSt q x (p :: r) (.ix 0))) =
    .ite (decide (i < q.ps.length)) (.ite (decide (0 ≤ i) && decide (i < q.ps.length))
      (refRoleT q.b i (baseP q.b p) fun p' => .ite (decide (0 ≤ i) && decide (i < q.ps.length)) (.ret (.nrm, refStepNx q x r i p')) .bad) .bad)
      (.ret (.exit 2, refStepSt q x (p :: r) (.ix 0))) := by kernel_rfl
theorem refStep_over (S : Stat) (q : BriP) (i : Int) (x : List Port) : (trimO [0, 5] 2 (exec (cRefStep (S.wt i)) (fnOf 37).ntmps 20 (lpOf 37 1) (refStepSt q x [] (.ix 0)))).els = some (decide (i < q.ps.length), .ret (.exit 2, refStepSt q x [] (.ix 0))) := by kernel_rfl
def refStepP (b : Bri) (i : Nat) (p : Port) : Port := refRoleF b i (baseP b p)
noncomputable def gRefStepL : LoopFn := onTrim 2 [0, 5] fun st => match st with
  | ⟨[(0, [], .ptr 0 0), (5, [], .ki .i64 0)], [(0, bx), (1, .rows (.port ps))], _⟩ =>
    (match unBri bx with
    | some (b, .slr 1 n 1 q, .sl 0, .sl 1) => some (.ite (decide (n = ps.length ∧ ps.length < 9223372036854775808)) (.ret (.exit 2, stepFin ⟨b, ps, q⟩ (mapI (refStepP b) ps 0))) .bad)
    | _ => none)
  | _ => none
theorem gRefStepL_ok (S : Stat) (ls : List (Nat × LoopFn)) : LoopOk Try.prog (withLoops (cRefStep (S.wt 0)) ls) (fnOf 37).ntmps (lpOf 37 1) gRefStepL := by
  refine loop_trim cRefStep_fam (nx := 2) (fuel := 20) (ts := [0, 5]) (π := BriP) (τ := List Port) (S.wt 0) (fun _ i => S.wt i) (fun _ _ => rfl) (fun q => q.ps) (fun q i x => refStepSt q x (q.ps.drop i) (.ix 0)) (fun q i x => x.length = i ∧ q.ps.length < 9223372036854775808)
    (fun q i p x => .go (x ++ [refStepP q.b i p])) (fun q x => (.exit 2, stepFin q x)) (fun _ _ _ => rfl) ?_ ?_ ?_
  · intro st o r ho hr
    split at ho
    · rename_i bx ps nx
      split at ho
      · rename_i b n qq hb
        injection ho with ho
        subst ho
        obtain ⟨rfl, _, _⟩ := unBri_ok hb
        have hh := Out.ite_bad hr
        obtain ⟨rfl, hlt⟩ := of_decide_eq_true hh.1
        obtain rfl := Option.some.inj hh.2
        refine ⟨⟨b, ps, qq⟩, [], ⟨rfl, hlt⟩, ?_, Nat.le_refl _, fun E => ⟨⟨⟨_, rfl, rfl⟩, ⟨_, rfl, rfl⟩, trivial⟩, ⟨⟨_, rfl, rfl, trivial⟩, ⟨_, rfl, ?_, focV_fo rfl⟩, trivial⟩⟩⟩
        · exact (runL_map (refStepP b) (fun x => (Ex.exit 2, stepFin ⟨b, ps, qq⟩ x)) ps 0 []).symm
        · rw [focV_cells]; rfl
      · cases ho
    · cases ho
  · intro q i p x hp hinv
    obtain ⟨hx, hlt⟩ := hinv
    have hi := (List.getElem?_eq_some_iff.1 hp).1
    have hd : q.ps.drop i = p :: q.ps.drop (i + 1) := by rw [List.drop_eq_getElem_cons hi]; congr 1; exact Option.some.inj ((List.getElem?_eq_getElem hi).symm.trans hp)
    rw [hd, refStep_round]
    have hii : (i : Int) < q.ps.length := by omega
    refine ⟨.nrm, refStepNx q x (q.ps.drop (i + 1)) i (refStepP q.b i p), ?_, rfl, ⟨by simp [hx], hlt⟩, fun E => ?_⟩
    · simp only [Out.sel, hii, decide_true, if_true, Bool.and_true, show (0 : Int) ≤ i from by omega, refRoleT_sel]
      rfl
    · unfold refStepNx
      rw [wrap_succ hi hlt]
      refine ⟨⟨⟨_, rfl, rfl⟩, ⟨_, rfl, rfl⟩, trivial⟩, ⟨⟨_, rfl, rfl, trivial⟩, ⟨_, rfl, ?_, focV_fo (by show ((i + 1 : Nat) : Int).toNat = _; simp [hx])⟩, trivial⟩⟩
      rw [focV_cells]
      simp only [SV.cells, Rows.cells, Rec.cells, List.flatMap_append, List.flatMap_cons, List.flatMap_nil, List.append_nil, List.append_assoc]
  · intro q x hinv
    obtain ⟨hx, hlt⟩ := hinv
    dsimp only
    rw [List.drop_length]
    refine ⟨.exit 2, refStepSt q x [] (.ix 0), ?_, rfl, by simp, fun E => ⟨⟨⟨_, rfl, rfl⟩, trivial⟩, ⟨⟨_, rfl, rfl, trivial⟩, ⟨_, rfl, rfl, trivial⟩, trivial⟩⟩⟩
    rw [Out.els_sel (refStep_over S q q.ps.length x) (by simp)]
    rfl
def refStepB (b : Bri) (ps : List Port) : Bri :=
  let r := refRootF b.id ps
  let t := (ps.getD r.2.toNat Port.dflt).times
  { b with root := r.1, rootPort := r.2, rootT := if decide (r.2 ≥ 0) = true then { t with age := IntKind.i64.wrap (t.age + 1) } else b.times }
def refStepRun (b : Bri) (ps : List Port) (q : Bool) : Out (SV × Heap × Nat) :=
  let r := refRootF b.id ps
  let t := (ps.getD r.2.toNat Port.dflt).times
  let ok := decide (ps.length = ps.length ∧ ps.length < 9223372036854775808)
  let fin (b' : Bri) : Out (SV × Heap × Nat) := .ite ok (.ret (.kb true, [(0, b'.sv (.slr 1 ps.length 1 q) (.sl 0) (.sl 1)), (1, .rows (.port (mapI (refStepP b') ps 0)))], 2)) .bad
  .ite ok (.ite (!(ps.any askP)) (.ret (.kb false, [(0, b.sv (.slr 1 ps.length 1 q) (.sl 0) (.sl 1)), (1, .rows (.port ps))], 2))
    (.ite ok (.ite (decide (r.2 ≥ 0)) (.ite ((decide (0 ≤ r.2) && decide (r.2 < ps.length)) && decide (r.2.toNat < ps.length)) (fin { b with root := r.1, rootPort := r.2, rootT := { t with age := IntKind.i64.wrap (t.age + 1) } }) .bad)
        (fin { b with root := r.1, rootPort := r.2, rootT := b.times })) .bad)) .bad
theorem refStep_run (S : Stat) (b : Bri) (ps : List Port) (q : Bool) : trimF 2 (inline (withLoops (cRefStep (S.wt 0)) [(3, gAnyL), (15, gRefStepL)]) 20 (fnOf 37) [.ptr 0 0] [(0, b.sv (.slr 1 ps.length 1 q) (.sl 0) (.sl 1)), (1, .rows (.port ps))] 2) = refStepRun b ps q := by kernel_rfl
theorem refStepRun_sel (b : Bri) (ps : List Port) (q : Bool) (hlt : ps.length < 9223372036854775808) : (refStepRun b ps q).sel = some (if ps.any askP = true then (.kb true, [(0, (refStepB b ps).sv (.slr 1 ps.length 1 q) (.sl 0) (.sl 1)), (1, .rows (.port (mapI (refStepP (refStepB b ps)) ps 0)))], 2)
    else (.kb false, [(0, b.sv (.slr 1 ps.length 1 q) (.sl 0) (.sl 1)), (1, .rows (.port ps))], 2)) := by
  obtain ⟨h1, h2⟩ := refRootF_bnd b.id ps
  unfold refStepRun
  simp only [Out.sel, hlt, and_self, decide_true, if_true]
  cases ha : ps.any askP with
  | false => simp [Out.sel]
  | true =>
    by_cases h0 : (refRootF b.id ps).2 ≥ 0
    · have e1 : (refRootF b.id ps).2.toNat < ps.length := by omega
      have h0' : 0 ≤ (refRootF b.id ps).2 := h0
      simp [Out.sel, h0, h0', h2, e1, refStepB]
    · simp [Out.sel, h0, refStepB]
theorem refStep_ok : CanonOk 37 (gStepOf refStepB fun b ps => mapI (refStepP (refStepB b ps)) ps 0) :=
  stepOf_ok cRefStep_fam Try.func37 (by kernel_rfl) [(3, gAnyL), (15, gRefStepL)] (by kernel_rfl) rfl (fun S i k g hg => match i, hg with
    | 0, hg => by obtain ⟨rfl, rfl⟩ := Prod.mk.inj (Option.some.inj hg); exact gAnyL_ok _ _
    | 1, hg => by obtain ⟨rfl, rfl⟩ := Prod.mk.inj (Option.some.inj hg); exact gRefStepL_ok _ _)
    (fun S b ps q hlt => by rw [refStep_run]; exact refStepRun_sel b ps q hlt)
end Go.Proofs.Ythhdfidenigcaaa
