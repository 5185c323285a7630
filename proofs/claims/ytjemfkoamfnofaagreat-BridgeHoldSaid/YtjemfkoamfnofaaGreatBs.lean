import Derived.Test.YtjemfkoamfnofaaGreatBv
set_option linter.unusedVariables false
set_option maxRecDepth 100000
namespace Go.Proofs.YtjemfkoamfnofaaGreat
open Go Go.RowKit
noncomputable def psF (S : Stat) : List (Nat × ReadFn) := auto psE S 56 :: psE S
theorem psF_ok (S : Stat) : ReadsOk S [] (psF S) := .auto psE_ok <| psE_ok S
def ownV (id : Int) (v : Vec) : Bool := addrI v.bridge == addrI id
def rootStep (id : Int) (i : Nat) (p : Port) (x : Vec × Int) : Vec × Int :=
 if (p.is_ != 3 || ownV id p.vec) = true then x else if decide (cmpV (thrV p.vec p.cost p.id) x.1 < 0) = true then (thrV p.vec p.cost p.id, i) else x
def rootL (id : Int) : List Port → Nat → Vec × Int → Vec × Int
 | [], _, x => x
 | p :: r, i, x => rootL id r (i + 1) (rootStep id i p x)
def ownOf (id : Int) : Vec := ⟨id, 0, id, 0, 0⟩
def rootF (id : Int) (ps : List Port) : Vec × Int := rootL id ps 0 (ownOf id, -1)
noncomputable def cRoot (S : Stat) : Ctx := mkCtx S [] (psF S) [] 20 6
def rootSt (q : BriP) (i : SV) (x : Vec × Int) : St :=
 ⟨[(1, [], .ptr 1 0), (2, [], .ptr 2 0), (3, [], .v (.int .i64 x.2)), (11, [], .slr 0 q.ps.length 0 q.q), (12, [], .v (.int .i64 q.ps.length)), (13, [], i)],
  [(2, .rcd (.vec x.1)), (1, q.b.sv (.slr 0 q.ps.length 0 q.q) (.sl 0) (.sl 1)), (0, .rows (.port q.ps))], 3⟩
def rootTs : List Nat := [1, 2, 3, 11, 12, 13]
theorem root_round (S : Stat) (q : BriP) (i : Nat) (x : Vec × Int) : trimO rootTs 3 (exec (cRoot (S.rd i 1)) (fnOf 44).ntmps 20 (lpOf 44 0) (rootSt q (.v (.int .i64 i)) x)) =
   let p := q.ps.getD i Port.dflt
   let nx := Out.ret (Ex.nrm, rootSt q (.v (.int .i64 (IntKind.i64.wrap (i + 1)))) x)
   .ite (decide ((i : Int) < q.ps.length)) (.ite (decide (0 ≤ (i : Int)) && decide ((i : Int) < q.ps.length)) (.ite (decide (i < q.ps.length)) (.ite (p.is_ != 3 || ownV q.b.id p.vec) nx
     (.ite (decide (cmpV (thrV p.vec p.cost p.id) x.1 < 0)) (.ret (.nrm, rootSt q (.v (.int .i64 (IntKind.i64.wrap (i + 1)))) (thrV p.vec p.cost p.id, i))) nx)) .bad) .bad)
     (.ret (.exit 0, rootSt q (.v (.int .i64 i)) x)) := by kernel_rfl
noncomputable def rootOut (q : BriP) (x : Vec × Int) : Out (Ex × St) :=
 .ret (.exit 0, rootSt q (.v (.int .i64 q.ps.length)) (rootL q.b.id q.ps 0 x))
noncomputable def gRootL : LoopFn := onTrim 3 rootTs fun st => match st with
 | ⟨[(1, [], .ptr 1 0), (2, [], .ptr 2 0), (3, [], .ki .i64 y), (11, [], .slr 0 n 0 q1), (12, [], .v (.int .i64 n')), (13, [], .ki .i64 0)], [(2, .rcd (.vec v)), (1, bx), (0, .rows (.port ps))], _⟩ =>
   (match unBri bx with
   | some (b, .slr 0 n'' 0 q2, .sl 0, .sl 1) => some (.ite (decide (n = ps.length ∧ n' = ps.length ∧ n'' = ps.length ∧ q1 = q2 ∧ ps.length < 9223372036854775808)) (rootOut ⟨b, ps, q2⟩ (v, y)) .bad)
   | _ => none)
 | _ => none
theorem rootL_run (q : BriP) : ∀ (r : List Port) (i : Nat) (x : Vec × Int), runL (fun i p x => Step.go (rootStep q.b.id i p x)) (fun x => (Ex.exit 0, rootSt q (.v (.int .i64 q.ps.length)) x)) r i x = (.exit 0, rootSt q (.v (.int .i64 q.ps.length)) (rootL q.b.id r i x))
 | [], i, x => rfl
 | p :: r, i, x => by rw [runL, rootL]; exact rootL_run q r (i + 1) _
theorem cRoot_fam : Fam cRoot := mk_fam psF (fun _ => []) 20 6 psF_ok (fun _ _ _ h => by cases h)
theorem gRootL_ok (S : Stat) : LoopOk Tryz.prog (withLoops (cRoot (S.rd 0 1)) [(3, gRootL)]) (fnOf 44).ntmps (lpOf 44 0) gRootL := by
 refine loop_trim cRoot_fam (nx := 3) (fuel := 20) (ts := rootTs) (π := BriP) (S.rd 0 1) (fun _ i => S.rd i 1) (fun _ _ => rfl) (fun q => q.ps) (fun q i x => rootSt q (.v (.int .i64 i)) x) (fun q i x => q.ps.length < 9223372036854775808)
   (fun q i p x => .go (rootStep q.b.id i p x)) (fun q x => (.exit 0, rootSt q (.v (.int .i64 q.ps.length)) x)) (fun _ _ _ => rfl) ?_ ?_ ?_
 · intro st o r ho hr
   split at ho
   · split at ho
     · rename_i hb
       injection ho with ho
       subst ho
       obtain ⟨rfl, _, _⟩ := unBri_ok hb
       have hh := Out.ite_bad hr
       obtain ⟨rfl, rfl, rfl, rfl, hlt⟩ := of_decide_eq_true hh.1
       obtain rfl := Option.some.inj hh.2
       exact ⟨⟨_, _, _⟩, (_, _), hlt, (rootL_run _ _ _ _).symm, Nat.le_refl _, fun E => ⟨⟨⟨_, rfl, rfl⟩, ⟨_, rfl, rfl⟩, ⟨_, rfl, rfl⟩, ⟨_, rfl, rfl⟩, ⟨_, rfl, rfl⟩, ⟨_, rfl, rfl⟩, trivial⟩, ⟨⟨_, rfl, rfl, trivial⟩, ⟨_, rfl, rfl, trivial⟩, ⟨_, rfl, rfl, trivial⟩, trivial⟩⟩⟩
     · cases ho
   · cases ho
 · intro q i p x hp hinv
   have hi := (List.getElem?_eq_some_iff.1 hp).1
   rw [root_round]
   have hg : q.ps.getD i Port.dflt = p := by simp [List.getD, hp]
   refine ⟨.nrm, rootSt q (.v (.int .i64 (IntKind.i64.wrap (i + 1)))) (rootStep q.b.id i p x), ?_, rfl, hinv, fun E => ?_⟩
   · simp only [hg, rootStep]
     simp [Out.sel, hi]
     split
     · simp_all [Out.sel]
     · split <;> simp_all [Out.sel]
   · rw [wrap_succ hi hinv]
     exact ⟨⟨⟨_, rfl, rfl⟩, ⟨_, rfl, rfl⟩, ⟨_, rfl, rfl⟩, ⟨_, rfl, rfl⟩, ⟨_, rfl, rfl⟩, ⟨_, rfl, rfl⟩, trivial⟩, ⟨⟨_, rfl, rfl, trivial⟩, ⟨_, rfl, rfl, trivial⟩, ⟨_, rfl, rfl, trivial⟩, trivial⟩⟩
 · intro q x hinv
   rw [root_round]
   exact ⟨.exit 0, rootSt q (.v (.int .i64 q.ps.length)) x, by simp [Out.sel], rfl, by simp, fun E => ⟨⟨⟨_, rfl, rfl⟩, ⟨_, rfl, rfl⟩, ⟨_, rfl, rfl⟩, ⟨_, rfl, rfl⟩, ⟨_, rfl, rfl⟩, ⟨_, rfl, rfl⟩, trivial⟩, ⟨⟨_, rfl, rfl, trivial⟩, ⟨_, rfl, rfl, trivial⟩, ⟨_, rfl, rfl, trivial⟩, trivial⟩⟩⟩
def gRoot : CanonFn := fun ro args H m => match args, H.get 0 with
 | [bx], some (.rows (.port ps)) => (match unBri bx with
   | some (b, .slr 0 n 0 _, _, _) => .ite (decide (n = ps.length ∧ ps.length < 9223372036854775808)) (.ret (.tup [.rcd (.vec (rootF b.id ps).1), .v (.int .i64 (rootF b.id ps).2)], H, m)) .bad
   | _ => .bad)
 | _, _ => .bad
theorem root_run (S : Stat) (b : Bri) (ps : List Port) (qq : Bool) : valF 1 (inline (withLoops (cRoot (S.rd 0 1)) [(3, gRootL)]) 20 (fnOf 44) [b.sv (.slr 0 ps.length 0 qq) (.sl 0) (.sl 1)] [(0, .rows (.port ps))] 1) =
   .ite (decide (ps.length = ps.length ∧ (ps.length : Int) = ps.length ∧ ps.length = ps.length ∧ qq = qq ∧ ps.length < 9223372036854775808)) (.ret (.tup [.rcd (.vec (rootF b.id ps).1), .v (.int .i64 (rootF b.id ps).2)])) .bad := by kernel_rfl
theorem root_ok : CanonOk 44 gRoot := by
 refine canon_rd cRoot_fam Tryz.func44 (by kernel_rfl) [(3, gRootL)] (by kernel_rfl) rfl 1 (fun S i k g hg => ?_) ?_
 · match i, hg with
   | 0, hg => obtain ⟨rfl, rfl⟩ := Prod.mk.inj (Option.some.inj hg); exact gRootL_ok _
 intro S args H m r hr
 unfold gRoot at hr
 split at hr
 · rename_i bx ps hH
   split at hr
   · rename_i b n qq o f hb
     obtain ⟨rfl, ho, hf⟩ := unBri_ok hb
     have hh := Out.ite_bad hr
     obtain ⟨rfl, hlt⟩ := of_decide_eq_true hh.1
     obtain rfl := Option.some.inj hh.2
     refine ⟨rfl, rfl, fun E => ?_⟩
     obtain ⟨l, hl⟩ := Bri.sv_named (S := S) (E := E) (b := b) (p := .slr 0 ps.length 0 qq) ho hf
     have hs := congrArg Out.sel (root_run (S.names l) b ps qq)
     simp only [Out.sel, hlt, and_self, decide_true, if_true] at hs
     exact ⟨S.names l, 20, [b.sv (.slr 0 ps.length 0 qq) (.sl 0) (.sl 1)], [(0, .rows (.port ps))], _, rfl, hs, dens_cons (hl ((S.names l).rd 0 1) rfl rfl).1 (dens_nil _ _ _ _), ⟨⟨_, hH, rfl, trivial⟩, trivial⟩, rfl⟩
   · cases hr
 · cases hr
def findI (f : Port → Bool) : List Port → Nat → Int
 | [], _ => -1
 | p :: r, i => if f p = true then (i : Int) else findI f r (i + 1)
theorem findI_any (f : Port → Bool) : ∀ (l : List Port) (i : Nat), decide (findI f l i ≥ 0) = l.any f
 | [], i => by simp [findI]
 | p :: r, i => by
   unfold findI
   cases h : f p with
   | true => simp [h]
   | false => simp only [h, Bool.false_eq_true, if_false, List.any_cons, Bool.false_or]; exact findI_any f r (i + 1)
def askP (p : Port) : Bool := p.flags.reselect
noncomputable def psI (S : Stat) : List (Nat × ReadFn) := auto psE S 43 :: psE S
theorem psI_ok (S : Stat) : ReadsOk S [] (psI S) := .auto psE_ok <| psE_ok S
noncomputable def cIdx (S : Stat) : Ctx := mkCtx S [] (psI S) [] 20 6
theorem cIdx_fam : Fam cIdx := mk_fam psI (fun _ => []) 20 6 psI_ok (fun _ _ _ h => by cases h)
structure IdxP where
 ps : List Port
 q : Bool
def idxSt (q : IdxP) (i : SV) : St := ⟨[(0, [], .slr 0 q.ps.length 0 q.q), (1, [], .fn (.func 43) [] []), (7, [], .v (.int .i64 q.ps.length)), (8, [], i)], [(0, .rows (.port q.ps))], 1⟩
def idxYes (q : IdxP) (i : SV) : St := ⟨[(0, [], .slr 0 q.ps.length 0 q.q), (1, [], .fn (.func 43) [] []), (4, [], i), (7, [], .v (.int .i64 q.ps.length)), (8, [], i)], [(0, .rows (.port q.ps))], 1⟩
def idxHit (i : SV) : St := ⟨[(4, [], i)], [], 1⟩
theorem idx_round (S : Stat) (q : IdxP) (i : Nat) : trimO [0, 1, 4, 7, 8] 1 (exec (cIdx (S.rd 0 1)) (fnOf 42).ntmps 20 (lpOf 42 0) (idxSt q (.v (.int .i64 i)))) =
   .ite (decide ((i : Int) < q.ps.length)) (.ite (decide (0 ≤ (i : Int)) && decide ((i : Int) < q.ps.length)) (.ite (decide (i < q.ps.length))
     (.ite (askP (q.ps.getD i Port.dflt)) (.ret (.ret, idxYes q (.v (.int .i64 i))))
       (.ret (.nrm, idxSt q (.v (.int .i64 (IntKind.i64.wrap (i + 1))))))) .bad) .bad)
     (.ret (.exit 0, idxSt q (.v (.int .i64 i)))) := by kernel_rfl
noncomputable def gIdxL : LoopFn := onTrim 1 [0, 1, 7, 8] fun st => match st with
 | ⟨[(0, [], .slr 0 n 0 q), (1, [], .fn (.func fk) [] []), (7, [], .v (.int .i64 n')), (8, [], .ki .i64 0)], [(0, .rows (.port ps))], _⟩ =>
   bif Nat.beq fk 43 then some (.ite (decide (n = ps.length ∧ n' = ps.length ∧ ps.length < 9223372036854775808)) (.ite (ps.any askP) (.ret (.ret, idxHit (.v (.int .i64 (findI askP ps 0))))) (.ret (.exit 0, ⟨[], [], 1⟩))) .bad) else none
 | _ => none
theorem idx_run0 (q : IdxP) : ∀ (l : List Port) (i : Nat), runL (fun i p _ => if askP p = true then Step.out .ret (idxHit (.v (.int .i64 (i : Int)))) else .go ()) (fun _ => (Ex.exit 0, (⟨[], [], 1⟩ : St))) l i () =
   if l.any askP = true then (.ret, idxHit (.v (.int .i64 (findI askP l i)))) else (.exit 0, ⟨[], [], 1⟩)
 | [], i => by simp [runL]
 | p :: r, i => by
   rw [runL, findI]
   cases h : askP p with
   | true => simp [h]
   | false => simp [h, idx_run0 q r (i + 1)]
theorem gIdxL_ok (S : Stat) (ls : List (Nat × LoopFn)) : LoopOk Tryz.prog (withLoops (cIdx (S.rd 0 1)) ls) (fnOf 42).ntmps (lpOf 42 0) gIdxL := by
 refine loop_trim cIdx_fam (nx := 1) (fuel := 20) (ts := [0, 1, 4, 7, 8]) (π := IdxP) (τ := Unit) (S.rd 0 1) (fun _ i => S.rd 0 1) (fun _ _ => rfl) (fun q => q.ps) (fun q i x => idxSt q (.v (.int .i64 i))) (fun q i x => q.ps.length < 9223372036854775808)
   (fun q i p _ => if askP p = true then .out .ret (idxHit (.v (.int .i64 (i : Int)))) else .go ()) (fun q x => (.exit 0, ⟨[], [], 1⟩)) (fun _ _ _ => rfl) ?_ ?_ ?_
 · intro st o r ho hr
   split at ho
   · rename_i fk n' ps nx
     cases hk : Nat.beq fk 43 with
     | false => rw [hk] at ho; cases ho
     | true =>
       rw [hk] at ho
       injection ho with ho
       subst ho
       obtain rfl := Nat.eq_of_beq_eq_true hk
       have hh := Out.ite_bad hr
       obtain ⟨rfl, rfl, hlt⟩ := of_decide_eq_true hh.1
       have h2 := hh.2
       refine ⟨⟨ps, _⟩, (), hlt, ?_, ?_, fun E => ⟨⟨⟨_, rfl, rfl⟩, ⟨_, rfl, rfl⟩, ⟨_, rfl, rfl⟩, ⟨_, rfl, rfl⟩, trivial⟩, ⟨⟨_, rfl, rfl, trivial⟩, trivial⟩⟩⟩
       · rw [idx_run0 ⟨ps, true⟩]
         simp only [Out.sel] at h2
         split at h2 <;> simp_all
       · simp only [Out.sel] at h2
         split at h2 <;> cases h2 <;> exact Nat.le_refl _
   · cases ho
 · intro q i p x hp hinv
   have hi := (List.getElem?_eq_some_iff.1 hp).1
   have hg : q.ps.getD i Port.dflt = p := by simp [List.getD, hp]
   rw [idx_round, hg]
   cases hb : askP p with
   | true =>
     exact ⟨.ret, idxYes q (.v (.int .i64 i)), by simp [Out.sel, hi], rfl, by simp, fun E => ⟨⟨⟨_, rfl, rfl⟩, trivial⟩, trivial⟩⟩
   | false =>
     refine ⟨_, idxSt q (.v (.int .i64 (IntKind.i64.wrap (i + 1)))), ?_, rfl, hinv, fun E => ?_⟩
     · simp [Out.sel, hi]
     · rw [wrap_succ hi hinv]
       exact ⟨⟨⟨_, rfl, rfl⟩, ⟨_, rfl, rfl⟩, ⟨_, rfl, rfl⟩, ⟨_, rfl, rfl⟩, trivial⟩, ⟨⟨_, rfl, rfl, trivial⟩, trivial⟩⟩
 · intro q x hinv
   rw [idx_round]
   exact ⟨.exit 0, idxSt q (.v (.int .i64 q.ps.length)), by simp [Out.sel], rfl, by simp, fun E => ⟨trivial, trivial⟩⟩
def gIdx : CanonFn := fun ro args H m => match args, H.get 0 with
 | [.slr 0 n 0 q, .fn (.func fk) [] []], some (.rows (.port ps)) => bif Nat.beq fk 43 then .ite (decide (n = ps.length ∧ ps.length < 9223372036854775808)) (.ret (.v (.int .i64 (findI askP ps 0)), H, m)) .bad else .bad
 | _, _ => .bad
theorem idx_run (S : Stat) (ps : List Port) (q : Bool) : valF 1 (inline (withLoops (cIdx (S.rd 0 1)) [(2, gIdxL)]) 20 (fnOf 42) [.slr 0 ps.length 0 q, .fn (.func 43) [] []] [(0, .rows (.port ps))] 1) =
   .ite (decide (ps.length = ps.length ∧ (ps.length : Int) = ps.length ∧ ps.length < 9223372036854775808)) (.ite (ps.any askP) (.ret (.v (.int .i64 (findI askP ps 0)))) (.ret (.ki .i64 (-1)))) .bad := by kernel_rfl
theorem findI_none {f : Port → Bool} : ∀ {l : List Port} {i : Nat}, l.any f = false → findI f l i = -1
 | [], i, _ => rfl
 | p :: r, i, h => by
   simp only [List.any_cons, Bool.or_eq_false_iff] at h
   simp [findI, h.1, findI_none h.2]
theorem idx_ok : CanonOk 42 gIdx := by
 refine canon_rd cIdx_fam Tryz.func42 (by kernel_rfl) [(2, gIdxL)] (by kernel_rfl) rfl 1 (fun S i k g hg => ?_) ?_
 · match i, hg with
   | 0, hg => obtain ⟨rfl, rfl⟩ := Prod.mk.inj (Option.some.inj hg); exact gIdxL_ok _ _
 intro S args H m r hr
 unfold gIdx at hr
 split at hr
 · rename_i n q fk ps hH
   cases hk : Nat.beq fk 43 with
   | false => rw [hk] at hr; cases hr
   | true =>
     rw [hk] at hr
     obtain rfl := Nat.eq_of_beq_eq_true hk
     have hh := Out.ite_bad hr
     obtain ⟨rfl, hlt⟩ := of_decide_eq_true hh.1
     obtain rfl := Option.some.inj hh.2
     refine ⟨rfl, rfl, fun E => ?_⟩
     have hs := congrArg Out.sel (idx_run S ps q)
     simp only [Out.sel, hlt, and_self, decide_true, if_true] at hs
     cases ha : ps.any askP with
     | true =>
       rw [ha] at hs
       exact ⟨S, 20, [.slr 0 ps.length 0 q, .fn (.func 43) [] []], [(0, .rows (.port ps))], _, rfl, hs, dens_cons rfl (dens_cons rfl (dens_nil _ _ _ _)), ⟨⟨_, hH, rfl, trivial⟩, trivial⟩, rfl⟩
     | false =>
       rw [ha] at hs
       refine ⟨S, 20, [.slr 0 ps.length 0 q, .fn (.func 43) [] []], [(0, .rows (.port ps))], _, rfl, hs, dens_cons rfl (dens_cons rfl (dens_nil _ _ _ _)), ⟨⟨_, hH, rfl, trivial⟩, trivial⟩, ?_⟩
       simp only [SV.den]
       rw [findI_none ha]
 · cases hr
def focV (x r : List Port) : SV := match r with
 | [] => .rows (.port x)
 | a :: r => .foc 0 (.port x) (.rcd (.port a)) (.port r)
theorem focV_cells (S : Stat) (E : Env) (x r : List Port) : (focV x r).cells S E = (SV.rows (.port (x ++ r))).cells S E := by
 cases r with
 | nil => simp [focV]
 | cons a r => simp only [focV, SV.cells, Rows.cells, Rec.cells]; rw [List.flatMap_append, List.flatMap_cons]
theorem focV_fo {S : Stat} {x r : List Port} (h : (S.ix 0).toNat = x.length) : (focV x r).foOk S := by
 cases r with
 | nil => trivial
 | cons a r => exact h
def mapI (f : Nat → Port → Port) : List Port → Nat → List Port
 | [], _ => []
 | p :: r, i => f i p :: mapI f r (i + 1)
theorem mapI_length (f : Nat → Port → Port) : ∀ (l : List Port) (i : Nat), (mapI f l i).length = l.length
 | [], i => rfl
 | p :: r, i => by simp [mapI, mapI_length f r]
theorem runL_map (f : Nat → Port → Port) (fin : List Port → Ex × St) : ∀ (l : List Port) (i : Nat) (x : List Port), runL (fun i p x => Step.go (x ++ [f i p])) fin l i x = fin (x ++ mapI f l i)
 | [], i, x => by simp [runL, mapI]
 | p :: r, i, x => by rw [runL, mapI]; dsimp only; rw [runL_map f fin r (i + 1)]; simp
def baseP (b : Bri) (p : Port) : Port := { p with flags := { p.flags with reselect := false, selected := true }, designated := ⟨b.root.root, b.root.cost, b.id, p.id, 0⟩, desTimes := { b.rootT with hello := b.times.hello } }
def differsP (p : Port) : Bool := !(fourI p.vec p.designated == 0) || !(decide (p.times = p.desTimes))
def noRx (v : Vec) : Vec := { v with rx := 0 }
def betterP (p : Port) : Bool := decide (cmpV (noRx p.designated) (noRx p.vec) < 0)
def setSel (p : Port) (r : Int) (u : Bool) : Port := { p with selected := r, flags := { p.flags with updtInfo := u } }
def roleT (b : Bri) (i : Int) (p : Port) (k : Port → Out (Ex × St)) : Out (Ex × St) :=
 .ite (p.is_ == 0) (k { p with selected := 0 }) (.ite (p.is_ == 3 && i == b.rootPort) (k (setSel p 3 false)) (.ite (p.is_ == 3 && !(betterP p)) (.ite (ownV b.id p.vec) (k (setSel p 2 false)) (k (setSel p 1 false)))
   (.ite (p.is_ == 1) (k (setSel p 4 (p.flags.updtInfo || true)))
     (.ite (p.is_ == 3) (k (setSel p 4 (p.flags.updtInfo || true))) (.ite (p.is_ == 2) (k (setSel p 4 (p.flags.updtInfo || differsP p))) (k p))))))
def roleF (b : Bri) (i : Int) (p : Port) : Port :=
 if p.is_ == 0 then { p with selected := 0 } else if p.is_ == 3 && i == b.rootPort then setSel p 3 false else if p.is_ == 3 && !(betterP p) then (if ownV b.id p.vec then setSel p 2 false else setSel p 1 false)
 else if p.is_ == 1 || p.is_ == 3 then setSel p 4 true else if p.is_ == 2 then setSel p 4 (p.flags.updtInfo || differsP p) else p
theorem roleT_sel (b : Bri) (i : Int) (p : Port) (k : Port → Out (Ex × St)) : (roleT b i p k).sel = (k (roleF b i p)).sel := by
 unfold roleT roleF
 simp only [Out.sel, Bool.or_true]
 repeat' split
 all_goals simp_all
noncomputable def psS (S : Stat) : List (Nat × ReadFn) := auto psF S 60 :: auto psE S 45 :: psF S
theorem psS_ok (S : Stat) : ReadsOk S [] (psS S) := .auto psF_ok <| .auto psE_ok <| psF_ok S
noncomputable def ssS (S : Stat) : List (Nat × SpecFn) := [(42, spc gIdx S), (44, spc gRoot S)]
theorem ssS_ok (S : Stat) : ∀ f g, (f, g) ∈ ssS S → SpecOk S [] f g := by
 intro f g h
 simp only [ssS, List.mem_cons, Prod.mk.injEq, List.not_mem_nil, or_false] at h
 rcases h with ⟨rfl, rfl⟩ | ⟨rfl, rfl⟩
 · exact spc_ok idx_ok S
 · exact spc_ok root_ok S
noncomputable def cStep (S : Stat) : Ctx := mkCtx S [] (psS S) (ssS S) 20 6
theorem cStep_fam : Fam cStep := mk_fam psS ssS 20 6 psS_ok ssS_ok
def stepSt (q : BriP) (x r : List Port) (i : SV) : St := ⟨[(0, [], .ptr 0 0), (55, [], .v (.int .i64 q.ps.length)), (56, [], i)], [(0, q.b.sv (.slr 1 q.ps.length 1 q.q) (.sl 0) (.sl 1)), (1, focV x r)], 2⟩
def stepNx (q : BriP) (x r : List Port) (i : Int) (p' : Port) : St := ⟨[(0, [], .ptr 0 0), (55, [], .v (.int .i64 q.ps.length)), (56, [], .v (.int .i64 (IntKind.i64.wrap (i + 1))))], [(0, q.b.sv (.slr 1 q.ps.length 1 q.q) (.sl 0) (.sl 1)), (1, .foc 0 (.port x) (.rcd (.port p')) (.port r))], 2⟩
theorem step_round (S : Stat) (q : BriP) (i : Int) (x r : List Port) (p : Port) : trimO [0, 55, 56] 2 (exec (cStep (S.wt i)) (fnOf 36).ntmps 20 (lpOf 36 0) (stepSt q x (p :: r) (.ix 0))) =
   .ite (decide (i < q.ps.length)) (.ite (decide (0 ≤ i) && decide (i < q.ps.length)) (.ite (decide (0 ≤ i) && decide (i < q.ps.length))
     (roleT q.b i (baseP q.b p) fun p' => .ret (.nrm, stepNx q x r i p')) .bad) .bad)
     (.ret (.exit 0, stepSt q x (p :: r) (.ix 0))) := by kernel_rfl
theorem step_over (S : Stat) (q : BriP) (i : Int) (x : List Port) : (trimO [0, 55, 56] 2 (exec (cStep (S.wt i)) (fnOf 36).ntmps 20 (lpOf 36 0) (stepSt q x [] (.ix 0)))).els = some (decide (i < q.ps.length), .ret (.exit 0, stepSt q x [] (.ix 0))) := by kernel_rfl
def stepP (b : Bri) (i : Nat) (p : Port) : Port := roleF b i (baseP b p)
def stepFin (q : BriP) (x : List Port) : St := ⟨[(0, [], .ptr 0 0)], [(0, q.b.sv (.slr 1 q.ps.length 1 q.q) (.sl 0) (.sl 1)), (1, .rows (.port x))], 2⟩
noncomputable def gStepL : LoopFn := onTrim 2 [0, 55, 56] fun st => match st with
 | ⟨[(0, [], .ptr 0 0), (55, [], .v (.int .i64 n')), (56, [], .ki .i64 0)], [(0, bx), (1, .rows (.port ps))], _⟩ =>
   (match unBri bx with
   | some (b, .slr 1 n 1 q, .sl 0, .sl 1) => some (.ite (decide (n = ps.length ∧ n' = ps.length ∧ ps.length < 9223372036854775808)) (.ret (.exit 0, stepFin ⟨b, ps, q⟩ (mapI (stepP b) ps 0))) .bad)
   | _ => none)
 | _ => none
theorem gStepL_ok (S : Stat) (ls : List (Nat × LoopFn)) : LoopOk Tryz.prog (withLoops (cStep (S.wt 0)) ls) (fnOf 36).ntmps (lpOf 36 0) gStepL := by
 refine loop_trim cStep_fam (nx := 2) (fuel := 20) (ts := [0, 55, 56]) (π := BriP) (τ := List Port) (S.wt 0) (fun _ i => S.wt i) (fun _ _ => rfl) (fun q => q.ps) (fun q i x => stepSt q x (q.ps.drop i) (.ix 0)) (fun q i x => x.length = i ∧ q.ps.length < 9223372036854775808)
   (fun q i p x => .go (x ++ [stepP q.b i p])) (fun q x => (.exit 0, stepFin q x)) (fun _ _ _ => rfl) ?_ ?_ ?_
 · intro st o r ho hr
   split at ho
   · rename_i n' bx ps nx
     split at ho
     · rename_i b n qq hb
       injection ho with ho
       subst ho
       obtain ⟨rfl, _, _⟩ := unBri_ok hb
       have hh := Out.ite_bad hr
       obtain ⟨rfl, rfl, hlt⟩ := of_decide_eq_true hh.1
       obtain rfl := Option.some.inj hh.2
       refine ⟨⟨b, ps, qq⟩, [], ⟨rfl, hlt⟩, ?_, Nat.le_refl _, fun E => ⟨⟨⟨_, rfl, rfl⟩, ⟨_, rfl, rfl⟩, ⟨_, rfl, rfl⟩, trivial⟩, ⟨⟨_, rfl, rfl, trivial⟩, ⟨_, rfl, ?_, focV_fo rfl⟩, trivial⟩⟩⟩
       · exact (runL_map (stepP b) (fun x => (Ex.exit 0, stepFin ⟨b, ps, qq⟩ x)) ps 0 []).symm
       · rw [focV_cells]; rfl
     · cases ho
   · cases ho
 · intro q i p x hp hinv
   obtain ⟨hx, hlt⟩ := hinv
   have hi := (List.getElem?_eq_some_iff.1 hp).1
   have hd : q.ps.drop i = p :: q.ps.drop (i + 1) := by rw [List.drop_eq_getElem_cons hi]; congr 1; exact Option.some.inj ((List.getElem?_eq_getElem hi).symm.trans hp)
   rw [hd, step_round]
   have hii : (i : Int) < q.ps.length := by omega
   refine ⟨.nrm, stepNx q x (q.ps.drop (i + 1)) i (stepP q.b i p), ?_, rfl, ⟨by simp [hx], hlt⟩, fun E => ?_⟩
   · simp only [Out.sel, hii, decide_true, if_true, Bool.and_true, show (0 : Int) ≤ i from by omega, roleT_sel]
     rfl
   · unfold stepNx
     rw [wrap_succ hi hlt]
     refine ⟨⟨⟨_, rfl, rfl⟩, ⟨_, rfl, rfl⟩, ⟨_, rfl, rfl⟩, trivial⟩, ⟨⟨_, rfl, rfl, trivial⟩, ⟨_, rfl, ?_, focV_fo (by show ((i + 1 : Nat) : Int).toNat = _; simp [hx])⟩, trivial⟩⟩
     rw [focV_cells]
     simp only [SV.cells, Rows.cells, Rec.cells, List.flatMap_append, List.flatMap_cons, List.flatMap_nil, List.append_nil, List.append_assoc]
 · intro q x hinv
   obtain ⟨hx, hlt⟩ := hinv
   dsimp only
   rw [List.drop_length]
   refine ⟨.exit 0, stepSt q x [] (.ix 0), ?_, rfl, by simp, fun E => ⟨⟨⟨_, rfl, rfl⟩, trivial⟩, ⟨⟨_, rfl, rfl, trivial⟩, ⟨_, rfl, rfl, trivial⟩, trivial⟩⟩⟩
   rw [Out.els_sel (step_over S q q.ps.length x) (by simp)]
   rfl
theorem rootL_bnd (id : Int) : ∀ (r : List Port) (i : Nat) (x : Vec × Int) (n : Nat), i + r.length = n → -1 ≤ x.2 → x.2 < n → -1 ≤ (rootL id r i x).2 ∧ (rootL id r i x).2 < n
 | [], i, x, n, _, h1, h2 => ⟨h1, h2⟩
 | p :: r, i, x, n, hn, h1, h2 => by
   rw [rootL]
   simp only [List.length_cons] at hn
   have h0 : rootStep id i p x = x ∨ (rootStep id i p x).2 = i := by
     unfold rootStep
     split
     · exact .inl rfl
     · split
       · exact .inr rfl
       · exact .inl rfl
   refine rootL_bnd id r (i + 1) _ n (by omega) ?_ ?_ <;> rcases h0 with h0 | h0 <;> rw [h0] <;> omega
theorem rootF_bnd (id : Int) (ps : List Port) : -1 ≤ (rootF id ps).2 ∧ (rootF id ps).2 < ps.length :=
 rootL_bnd id ps 0 _ _ (by simp) (by simp) (by simp; omega)
def stepB (b : Bri) (ps : List Port) : Bri :=
 let r := rootF b.id ps
 let t := (ps.getD r.2.toNat Port.dflt).times
 { b with root := r.1, rootPort := r.2, rootT := if decide (r.2 ≥ 0) = true then { t with age := IntKind.i64.wrap (t.age + 1) } else b.times }
def stepRun (b : Bri) (ps : List Port) (q : Bool) : Out (SV × Heap × Nat) :=
 let r := rootF b.id ps
 let t := (ps.getD r.2.toNat Port.dflt).times
 let fin (b' : Bri) : Out (SV × Heap × Nat) := .ite (decide (ps.length = ps.length ∧ (ps.length : Int) = ps.length ∧ ps.length < 9223372036854775808)) (.ret (.kb true, [(0, b'.sv (.slr 1 ps.length 1 q) (.sl 0) (.sl 1)), (1, .rows (.port (mapI (stepP b') ps 0)))], 2)) .bad
 .ite (decide (ps.length = ps.length ∧ ps.length < 9223372036854775808))
   (.ite (!(decide (findI askP ps 0 ≥ 0))) (.ret (.kb false, [(0, b.sv (.slr 1 ps.length 1 q) (.sl 0) (.sl 1)), (1, .rows (.port ps))], 2))
   (.ite (decide (ps.length = ps.length ∧ ps.length < 9223372036854775808))
     (.ite (decide (r.2 ≥ 0)) (.ite ((decide (0 ≤ r.2) && decide (r.2 < ps.length)) && decide (r.2.toNat < ps.length)) (fin { b with root := r.1, rootPort := r.2, rootT := { t with age := IntKind.i64.wrap (t.age + 1) } }) .bad)
       (fin { b with root := r.1, rootPort := r.2, rootT := b.times })) .bad)) .bad
theorem step_run (S : Stat) (b : Bri) (ps : List Port) (q : Bool) : trimF 2 (inline (withLoops (cStep (S.wt 0)) [(8, gStepL)]) 20 (fnOf 36) [.ptr 0 0] [(0, b.sv (.slr 1 ps.length 1 q) (.sl 0) (.sl 1)), (1, .rows (.port ps))] 2) = stepRun b ps q := by kernel_rfl
theorem stepRun_sel (b : Bri) (ps : List Port) (q : Bool) (hlt : ps.length < 9223372036854775808) : (stepRun b ps q).sel = some (if ps.any askP = true then (.kb true, [(0, (stepB b ps).sv (.slr 1 ps.length 1 q) (.sl 0) (.sl 1)), (1, .rows (.port (mapI (stepP (stepB b ps)) ps 0)))], 2)
   else (.kb false, [(0, b.sv (.slr 1 ps.length 1 q) (.sl 0) (.sl 1)), (1, .rows (.port ps))], 2)) := by
 obtain ⟨h1, h2⟩ := rootF_bnd b.id ps
 unfold stepRun
 simp only [Out.sel, hlt, and_self, decide_true, if_true, findI_any]
 cases ha : ps.any askP with
 | false => simp [Out.sel]
 | true =>
   by_cases h0 : (rootF b.id ps).2 ≥ 0
   · have e1 : (rootF b.id ps).2.toNat < ps.length := by omega
     have h0' : 0 ≤ (rootF b.id ps).2 := h0
     simp [Out.sel, h0, h0', h2, e1, stepB]
   · simp [Out.sel, h0, stepB]
def gStepOf (nB : Bri → List Port → Bri) (nP : Bri → List Port → List Port) : CanonFn := fun ro args H m => match args, H.get 0, H.get 1 with
 | [.ptr 0 0], some bx, some (.rows (.port ps)) => (match unBri bx with
   | some (b, .slr 1 n 1 q, o, f) => bif bndH m H && freeAll ro H then .ite (decide (n = ps.length ∧ ps.length < 9223372036854775808)) (.ite (ps.any askP)
       (bif bndH m ((H.put 0 ((nB b ps).sv (.slr 1 ps.length 1 q) o f)).put 1 (.rows (.port (nP b ps)))) then
         .ret (.v (.bool true), (H.put 0 ((nB b ps).sv (.slr 1 ps.length 1 q) o f)).put 1 (.rows (.port (nP b ps))), m) else .bad) (.ret (.v (.bool false), H, m))) .bad else .bad
   | _ => .bad)
 | _, _, _ => .bad
theorem free_get {ro : Nat → Bool} {H : Heap} (h : freeAll ro H = true) {k : Nat} {x : SV} (hk : H.get k = some x) : ro k = false := by
 have := heap_all h hk
 simpa using this
theorem stepOf_ok {nB : Bri → List Port → Bri} {nP : Bri → List Port → List Port} {mk : Stat → Ctx} (hm : Fam mk) {fk : FuncId} {fn : Func} (hfn : Tryz.prog.funcs[fk]? = some fn) (hname : ((fnOf fk).name == "runtime.NumGoroutine") = false) (ll : List (Nat × LoopFn)) (hids : (loopsOf (codeOf fk)).map firstId = ll.map (·.1)) (hd : distinct (ll.map (·.1)) = true)
   (hll : ∀ (S : Stat) i k g, ll[i]? = some (k, g) → LoopOk Tryz.prog (withLoops (mk (S.wt 0)) ll) (fnOf fk).ntmps (lpOf fk i) g)
   (hrun : ∀ (S : Stat) b ps q, ps.length < 9223372036854775808 → (trimF 2 (inline (withLoops (mk (S.wt 0)) ll) 20 (fnOf fk) [.ptr 0 0] [(0, Bri.sv b (.slr 1 ps.length 1 q) (.sl 0) (.sl 1)), (1, .rows (.port ps))] 2)).sel = some (if ps.any askP = true then (.kb true, [(0, (nB b ps).sv (.slr 1 ps.length 1 q) (.sl 0) (.sl 1)), (1, .rows (.port (nP b ps)))], 2)
     else (.kb false, [(0, b.sv (.slr 1 ps.length 1 q) (.sl 0) (.sl 1)), (1, .rows (.port ps))], 2))) : CanonOk fk (gStepOf nB nP) := by
 refine canon_wt hm hfn hname ll hids hd 2 hll ?_
 intro S args H m r hr
 unfold gStepOf at hr
 split at hr
 · rename_i bx ps h0 h1
   split at hr
   · rename_i b n q o f hb
     obtain ⟨rfl, ho, hf⟩ := unBri_ok hb
     cases hbf : (bndH m H && freeAll S.ro H) with
     | false => rw [hbf] at hr; cases hr
     | true =>
       rw [hbf] at hr
       simp only [cond_true] at hr
       simp only [Bool.and_eq_true] at hbf
       have hh := Out.ite_bad hr
       obtain ⟨rfl, hlt⟩ := of_decide_eq_true hh.1
       have hr2 := hh.2
       have hro : (([(0, b.sv (.slr 1 ps.length 1 q) (.sl 0) (.sl 1)), (1, .rows (.port ps))] : Heap).all fun e => !(S.ro e.1)) = true := by
         simp [free_get hbf.2 h0, free_get hbf.2 h1]
       have hlf : ∀ E, ∃ l, ∀ S', S'.sl = (S.names l).sl → ∀ b' : Bri, (b'.sv (.slr 1 ps.length 1 q) o f).cells S E = (b'.sv (.slr 1 ps.length 1 q) (.sl 0) (.sl 1)).cells S' E := by
         intro E
         obtain ⟨q1, e1, g1⟩ := isSl_den ho S E
         obtain ⟨q2, e2, g2⟩ := isSl_den hf S E
         refine ⟨[q1, q2], fun S' hS' b' => ?_⟩
         have f0 : S'.sl 0 = q1 := by rw [hS']; rfl
         have f1 : S'.sl 1 = q2 := by rw [hS']; rfl
         simp [Bri.sv, SV.cells, SV.cellss, SV.cells_flat S E o g1, SV.cells_flat S E f g2, e1, e2, f0, f1]
       cases ha : ps.any askP with
       | false =>
         rw [ha] at hr2
         obtain rfl := Option.some.inj hr2
         refine ⟨hbf.1, hbf.1, rfl, rfl, fun E => ?_⟩
         obtain ⟨l, hl⟩ := hlf E
         refine ⟨S.names l, 20, [.ptr 0 0], [(0, b.sv (.slr 1 ps.length 1 q) (.sl 0) (.sl 1)), (1, .rows (.port ps))], (.kb false, [(0, b.sv (.slr 1 ps.length 1 q) (.sl 0) (.sl 1)), (1, .rows (.port ps))], 2), hro, ?_, rfl, dens_cons rfl (dens_nil _ _ _ _),
           ⟨⟨_, h0, hl _ rfl b, trivial⟩, ⟨_, h1, rfl, trivial⟩, trivial⟩, rfl, fun k x' hk => ?_⟩
         · rw [hrun _ _ _ _ hlt, ha]; rfl
         · dsimp only at hk ⊢
           by_cases e0 : k = 0
           · subst e0; rw [h0] at hk; injection hk with hk; subst hk; exact .inl ⟨_, rfl, (hl _ rfl b).symm, trivial⟩
           · by_cases e1 : k = 1
             · subst e1; rw [h1] at hk; injection hk with hk; subst hk; exact .inl ⟨_, rfl, rfl, trivial⟩
             · exact .inr ⟨hk, by rw [Heap.get_cons, if_neg e0, Heap.get_cons, if_neg e1]; rfl⟩
       | true =>
         rw [ha] at hr2
         cases hb2 : bndH m ((H.put 0 ((nB b ps).sv (.slr 1 ps.length 1 q) o f)).put 1 (.rows (.port (nP b ps)))) with
         | false => rw [hb2] at hr2; cases hr2
         | true =>
           rw [hb2] at hr2
           obtain rfl := Option.some.inj hr2
           refine ⟨hbf.1, hb2, rfl, rfl, fun E => ?_⟩
           obtain ⟨l, hl⟩ := hlf E
           refine ⟨S.names l, 20, [.ptr 0 0], [(0, b.sv (.slr 1 ps.length 1 q) (.sl 0) (.sl 1)), (1, .rows (.port ps))], (.kb true, [(0, (nB b ps).sv (.slr 1 ps.length 1 q) (.sl 0) (.sl 1)), (1, .rows (.port (nP b ps)))], 2), hro, ?_, rfl, dens_cons rfl (dens_nil _ _ _ _),
             ⟨⟨_, h0, hl _ rfl b, trivial⟩, ⟨_, h1, rfl, trivial⟩, trivial⟩, rfl, fun k x' hk => ?_⟩
           · rw [hrun _ _ _ _ hlt, ha]; rfl
           · dsimp only at hk ⊢
             rw [Heap.get_put, Heap.get_put] at hk
             by_cases e1 : k = 1
             · subst e1; simp only [if_true, Option.some.injEq] at hk; subst hk; exact .inl ⟨_, rfl, rfl, trivial⟩
             · by_cases e0 : k = 0
               · subst e0; simp only [e1, if_false, if_true, Option.some.injEq] at hk; subst hk; exact .inl ⟨_, rfl, (hl _ rfl _).symm, trivial⟩
               · simp only [e0, e1, if_false] at hk
                 exact .inr ⟨hk, by rw [Heap.get_cons, if_neg e0, Heap.get_cons, if_neg e1]; rfl⟩
   · cases hr
 · cases hr
theorem step_ok : CanonOk 36 (gStepOf stepB fun b ps => mapI (stepP (stepB b ps)) ps 0) :=
 stepOf_ok cStep_fam Tryz.func36 (by kernel_rfl) [(8, gStepL)] (by kernel_rfl) rfl (fun S i k g hg => match i, hg with | 0, hg => by obtain ⟨rfl, rfl⟩ := Prod.mk.inj (Option.some.inj hg); exact gStepL_ok _ _)
   (fun S b ps q hlt => by rw [step_run]; exact stepRun_sel b ps q hlt)
end Go.Proofs.YtjemfkoamfnofaaGreat
