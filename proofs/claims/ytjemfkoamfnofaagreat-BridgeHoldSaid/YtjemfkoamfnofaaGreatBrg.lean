import Derived.Test.YtjemfkoamfnofaaGreatRd
set_option linter.unusedVariables false
set_option maxRecDepth 100000
namespace Go.Proofs.YtjemfkoamfnofaaGreat
open Go Go.RowKit
structure Bri where
 id : Int
 rst : Bool
 times : Times
 hold : Int
 root : Vec
 rootPort : Int
 rootT : Times
def Bri.sv (b : Bri) (p o f : SV) : SV := .agg [.v (.int .u64 b.id), .v (.bool b.rst), .rcd (.times b.times), .v (.int .i64 b.hold), .rcd (.vec b.root), .v (.int .i64 b.rootPort), .rcd (.times b.rootT), p, o, f]
def isSl : SV → Bool
 | .v (.slice _ _ _) | .slr _ _ _ _ | .slc _ _ _ _ | .slu _ _ _ _ | .sl _ => true
 | _ => false
theorem isSl_den {x : SV} (h : isSl x = true) (S : Stat) (E : Env) : ∃ q : Option Addr × Nat × Nat, x.den S E = .slice q.1 q.2.1 q.2.2 ∧ x.aggr = false := by
 unfold isSl at h
 split at h
 · exact ⟨(_, _, _), rfl, rfl⟩
 · exact ⟨(_, _, _), rfl, rfl⟩
 · exact ⟨(_, _, _), rfl, rfl⟩
 · exact ⟨(_, _, _), rfl, rfl⟩
 · exact ⟨(_, _, _), rfl, rfl⟩
 · cases h
def unBri : SV → Option (Bri × SV × SV × SV)
 | .agg [.v (.int .u64 id), .v (.bool rst), .rcd (.times t), .v (.int .i64 hold), .rcd (.vec root), .v (.int .i64 rp), .rcd (.times rt), p, o, f] => bif isSl o && isSl f then some (⟨id, rst, t, hold, root, rp, rt⟩, p, o, f) else none
 | _ => none
theorem unBri_ok {x : SV} {b : Bri} {p o f : SV} (h : unBri x = some (b, p, o, f)) : x = b.sv p o f ∧ isSl o = true ∧ isSl f = true := by
 unfold unBri at h
 split at h
 · rename_i o' f'
   cases ho : (isSl o' && isSl f') with
   | false => rw [ho] at h; cases h
   | true =>
     rw [ho] at h
     simp only [cond_true, Option.some.injEq, Prod.mk.injEq] at h
     obtain ⟨rfl, rfl, rfl, rfl⟩ := h
     exact ⟨rfl, by simpa using ho⟩
 · cases h
def Stat.names (S : Stat) (l : List (Option Addr × Nat × Nat)) : Stat := { S with sl := fun n => l.getD n (none, 0, 0) }
theorem Bri.sv_named {S : Stat} {E : Env} {b : Bri} {p o f : SV} (ho : isSl o = true) (hf : isSl f = true) : ∃ l, ∀ S', S'.sl = (S.names l).sl → p.cells S E = p.cells S' E →
   (b.sv p o f).den S E = (b.sv p (.sl 0) (.sl 1)).den S' E ∧ (b.sv p o f).cells S E = (b.sv p (.sl 0) (.sl 1)).cells S' E := by
 obtain ⟨q1, h1, g1⟩ := isSl_den ho S E
 obtain ⟨q2, h2, g2⟩ := isSl_den hf S E
 refine ⟨[q1, q2], fun S' hS' hp => ?_⟩
 have e0 : S'.sl 0 = q1 := by rw [hS']; rfl
 have e1 : S'.sl 1 = q2 := by rw [hS']; rfl
 have hc : (b.sv p o f).cells S E = (b.sv p (.sl 0) (.sl 1)).cells S' E := by
   simp [Bri.sv, SV.cells, SV.cellss, SV.cells_flat S E o g1, SV.cells_flat S E f g2, hp, h1, h2, e0, e1]
 exact ⟨by rw [SV.den_agg S E _ rfl, SV.den_agg S' E _ rfl, hc], hc⟩
def fewT (t : Times) : Bool := decide (t.age ≥ 0) && decide (t.age ≤ 65535) && decide (t.max ≥ 0) && decide (t.max ≤ 65535) && decide (t.hello ≥ 0) && decide (t.hello ≤ 65535) && decide (t.delay ≥ 0) && decide (t.delay ≤ 65535)
def rightT (t : Times) : Bool := if (decide (t.age < 0) || decide (t.age > 255) || decide (t.max < 6) || decide (t.max > 40) || decide (t.hello < 1) || decide (t.hello > 10) || decide (t.delay < 4) || decide (t.delay > 30)) = true then false else
 decide (IntKind.i64.wrap (2 * IntKind.i64.wrap (t.delay - 1)) ≥ t.max) && decide (t.max ≥ IntKind.i64.wrap (2 * IntKind.i64.wrap (t.hello + 1)))
def clkBad (n : Int) : Bool := decide (n < 0) || decide (n > 1000)
def portBads (p : Port) : List Bool := [clkBad p.clocks.edgeDelay, clkBad p.clocks.fd, clkBad p.clocks.hello, clkBad p.clocks.mdelay, clkBad p.clocks.rb, clkBad p.clocks.rcvdInfo, clkBad p.clocks.rr, clkBad p.clocks.tc, clkBad p.clocks.txCount, !(fewT p.times) || !(fewT p.desTimes) || !(fewT p.msg.times)]
def portBad (p : Port) : Bool := (portBads p).any id
def headBad (b : Bri) (n : Int) : Bool := !(rightT b.times) || !(fewT b.rootT) || b.times.age != 0 || decide (b.hold < 1) || decide (b.hold > 10) || decide (n > 32) || decide (b.rootPort < -1) || decide (b.rootPort ≥ n)
def rightF (b : Bri) (ps : List Port) : Bool := !(headBad b ps.length) && !(ps.any portBad)
noncomputable def psR (S : Stat) : List (Nat × ReadFn) := auto ps0 S 31 :: auto ps0 S 30 :: ps0 S
theorem psR_ok (S : Stat) : ReadsOk S [] (psR S) := .auto ps0_ok <| .auto ps0_ok <| ps0_ok S
noncomputable def cRight (S : Stat) : Ctx := mkCtx S [] (psR S) [] 20 6
theorem cRight_fam : Fam cRight := mk_fam psR (fun _ => []) 20 6 psR_ok (fun _ _ _ h => by cases h)
structure BriP where
 b : Bri
 ps : List Port
 q : Bool
def rightSt (q : BriP) (i : SV) : St := ⟨[(1, [], .ptr 1 0), (5, [], i)], [(1, q.b.sv (.slr 0 q.ps.length 0 q.q) (.sl 0) (.sl 1)), (0, .rows (.port q.ps))], 2⟩
def rightNo (q : BriP) (i : SV) : St := ⟨[(1, [], .ptr 1 0), (2, [], .kb false), (5, [], i)], [(1, q.b.sv (.slr 0 q.ps.length 0 q.q) (.sl 0) (.sl 1)), (0, .rows (.port q.ps))], 2⟩
def outNo : St := ⟨[(2, [], .kb false)], [], 2⟩
theorem right_round (S : Stat) (q : BriP) (i : Nat) : trimO [1, 2, 5] 2 (exec (cRight (S.rd 0 1)) (fnOf 21).ntmps 20 (lpOf 21 0) (rightSt q (.v (.int .i64 i)))) =
   .ite (decide ((i : Int) < q.ps.length)) (.ite (decide (0 ≤ (i : Int)) && decide ((i : Int) < q.ps.length)) (.ite (decide (i < q.ps.length))
     (chk (portBads (q.ps.getD i Port.dflt)) (.ret (.ret, rightNo q (.v (.int .i64 i)))) (.ret (.nrm, rightSt q (.v (.int .i64 (IntKind.i64.wrap (i + 1))))))) .bad) .bad)
     (.ret (.exit 0, rightSt q (.v (.int .i64 i)))) := by kernel_rfl
def rightFin : St := ⟨[], [], 2⟩
noncomputable def gRightL : LoopFn := onTrim 2 [1, 5] fun st => match st with
 | ⟨[(1, [], .ptr 1 0), (5, [], .ki .i64 0)], [(1, bx), (0, .rows (.port ps))], _⟩ =>
   (match unBri bx with
   | some (b, .slr 0 n 0 qq, .sl 0, .sl 1) => some (.ite (decide (n = ps.length ∧ ps.length < 9223372036854775808)) (.ite (ps.any portBad) (.ret (.ret, outNo)) (.ret (.exit 0, rightFin))) .bad)
   | _ => none)
 | _ => none
theorem gRightL_ok (S : Stat) (ls : List (Nat × LoopFn)) : LoopOk Tryz.prog (withLoops (cRight (S.rd 0 1)) ls) (fnOf 21).ntmps (lpOf 21 0) gRightL := by
 have hrun : ∀ (l : List Port) (i : Nat), runL (fun i p x => if portBad p = true then Step.out .ret outNo else .go ()) (fun _ => (Ex.exit 0, rightFin)) l i () = if l.any portBad = true then (.ret, outNo) else (.exit 0, rightFin) := runL_any fun i a => rfl
 refine loop_trim cRight_fam (nx := 2) (fuel := 20) (ts := [1, 2, 5]) (π := BriP) (τ := Unit) (S.rd 0 1) (fun _ i => S.rd 0 1) (fun _ _ => rfl) (fun q => q.ps) (fun q i x => rightSt q (.v (.int .i64 i))) (fun q i x => q.ps.length < 9223372036854775808)
   (fun q i p x => if portBad p = true then .out .ret outNo else .go ()) (fun q x => (.exit 0, rightFin)) (fun _ _ _ => rfl) ?_ ?_ ?_
 · intro st o r ho hr
   split at ho
   · split at ho
     · rename_i hb
       injection ho with ho
       subst ho
       obtain ⟨rfl, _, _⟩ := unBri_ok hb
       have hh := Out.ite_bad hr
       obtain ⟨rfl, hlt⟩ := of_decide_eq_true hh.1
       have h2 := hh.2
       refine ⟨⟨_, _, _⟩, (), hlt, ?_, ?_, fun E => ⟨⟨⟨_, rfl, rfl⟩, ⟨_, rfl, rfl⟩, trivial⟩, ⟨⟨_, rfl, rfl, trivial⟩, ⟨_, rfl, rfl, trivial⟩, trivial⟩⟩⟩
       · rw [hrun]
         simp only [Out.sel] at h2
         split at h2 <;> simp_all
       · simp only [Out.sel] at h2
         split at h2 <;> cases h2 <;> exact Nat.le_refl _
     · cases ho
   · cases ho
 · intro q i p x hp hinv
   have hi := (List.getElem?_eq_some_iff.1 hp).1
   have hg : q.ps.getD i Port.dflt = p := by simp [List.getD, hp]
   rw [right_round, hg]
   cases hb : portBad p with
   | true =>
     refine ⟨_, rightNo q (.v (.int .i64 i)), ?_, rfl, by simp, fun E => ⟨⟨⟨_, rfl, rfl⟩, trivial⟩, trivial⟩⟩
     simp [Out.sel, hi, chk_sel, show (portBads p).any id = true from hb]
   | false =>
     refine ⟨_, rightSt q (.v (.int .i64 (IntKind.i64.wrap (i + 1)))), ?_, rfl, hinv, fun E => ?_⟩
     · simp [Out.sel, hi, chk_sel, show (portBads p).any id = false from hb]
     · rw [wrap_succ hi hinv]
       exact ⟨⟨⟨_, rfl, rfl⟩, ⟨_, rfl, rfl⟩, trivial⟩, ⟨⟨_, rfl, rfl, trivial⟩, ⟨_, rfl, rfl, trivial⟩, trivial⟩⟩
 · intro q x hinv
   rw [right_round]
   exact ⟨.exit 0, rightSt q (.v (.int .i64 q.ps.length)), by simp [Out.sel], rfl, by simp, fun E => ⟨trivial, trivial⟩⟩
def gRight : CanonFn := fun ro args H m => match args, H.get 0 with
 | [bx], some (.rows (.port ps)) => (match unBri bx with
   | some (b, .slr 0 n 0 _, _, _) => .ite (decide (n = ps.length ∧ ps.length < 9223372036854775808)) (.ret (.v (.bool (rightF b ps)), H, m)) .bad
   | _ => .bad)
 | _, _ => .bad
theorem right_run (S : Stat) (b : Bri) (ps : List Port) (qq : Bool) : valF 1 (inline (withLoops (cRight (S.rd 0 1)) [(6, gRightL), (12, noLoop)]) 20 (fnOf 21) [b.sv (.slr 0 ps.length 0 qq) (.sl 0) (.sl 1)] [(0, .rows (.port ps))] 1) =
   .ite (headBad b ps.length) (.ret (.kb false)) (.ite (decide (ps.length = ps.length ∧ ps.length < 9223372036854775808)) (.ite (ps.any portBad) (.ret (.kb false)) (.ret (.kb true))) .bad) := by kernel_rfl
theorem right_ok : CanonOk 21 gRight := by
 refine canon_rd cRight_fam Tryz.func21 (by kernel_rfl) [(6, gRightL), (12, noLoop)] (by kernel_rfl) rfl 1 (fun S i k g hg => ?_) ?_
 · match i, hg with
   | 0, hg => obtain ⟨rfl, rfl⟩ := Prod.mk.inj (Option.some.inj hg); exact gRightL_ok _ _
   | 1, hg => obtain ⟨rfl, rfl⟩ := Prod.mk.inj (Option.some.inj hg); exact noLoop_ok
 intro S args H m r hr
 unfold gRight at hr
 split at hr
 · rename_i bx ps hH
   split at hr
   · rename_i b n qq o f hb
     obtain ⟨rfl, ho, hf⟩ := unBri_ok hb
     have hh := Out.ite_bad hr
     obtain ⟨rfl, hlt⟩ := of_decide_eq_true hh.1
     obtain rfl := Option.some.inj hh.2
     refine ⟨rfl, rfl, fun E => ?_⟩
     obtain ⟨l, hl⟩ := Bri.sv_named (S := S) (E := E) (b := b) (p := .slr 0 ps.length 0 qq) ho hf
     have hs := congrArg Out.sel (right_run (S.names l) b ps qq)
     simp only [Out.sel, hlt, and_self, decide_true, if_true] at hs
     refine ⟨S.names l, 20, [b.sv (.slr 0 ps.length 0 qq) (.sl 0) (.sl 1)], [(0, .rows (.port ps))], .kb (rightF b ps), rfl, ?_, dens_cons (hl ((S.names l).rd 0 1) rfl rfl).1 (dens_nil _ _ _ _), ⟨⟨_, hH, rfl, trivial⟩, trivial⟩, rfl⟩
     · rw [hs]
       unfold rightF
       cases headBad b ps.length <;> cases ps.any portBad <;> rfl
   · cases hr
 · cases hr
end Go.Proofs.YtjemfkoamfnofaaGreat
