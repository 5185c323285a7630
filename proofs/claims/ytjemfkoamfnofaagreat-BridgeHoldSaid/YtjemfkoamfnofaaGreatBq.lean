import Derived.Test.YtjemfkoamfnofaaGreatBn
set_option linter.unusedVariables false
set_option maxRecDepth 100000
namespace Go.Proofs.YtjemfkoamfnofaaGreat
open Go Go.RowKit
noncomputable def ssRun (S : Stat) : List (Nat × SpecFn) := (26, spc gRound S) :: []
theorem ssRun_ok (S : Stat) : ∀ f g, (f, g) ∈ ssRun S → SpecOk S [] f g := specs_cons (spc_ok round_ok S) specs_nil
noncomputable def cRun (S : Stat) : Ctx := mkCtx S [] [] (ssRun S) 60 5
theorem cRun_fam : Fam cRun := mk_fam (fun _ => []) ssRun 60 5 (fun _ _ _ h => by cases h) ssRun_ok
def runN : Nat → BS → Int → BS × Int × Bool
 | 0, s, c => (s, c, false)
 | n + 1, s, c => if ((roundF s).2 == 0) = true then ((roundF s).1, c, true) else runN n (roundF s).1 (IntKind.i64.wrap (c + (roundF s).2))
def runF (s : BS) : BS × Int × Bool := runN 1000 s 0
theorem runN_len : ∀ (n : Nat) (s : BS) (c : Int), s.ps.length ≤ 1000 → (runN n s c).1.ps.length = s.ps.length ∧ (runN n s c).1.out.length ≤ s.out.length + 8000 * n ∧ (runN n s c).1.fl.length ≤ s.fl.length + 8000 * n
 | 0, s, c, _ => ⟨rfl, Nat.le_refl _, Nat.le_refl _⟩
 | n + 1, s, c, h => by
   obtain ⟨h1, h2, h3⟩ := roundF_len s
   unfold runN
   split
   · dsimp only; omega
   · obtain ⟨g1, g2, g3⟩ := runN_len n (roundF s).1 (IntKind.i64.wrap (c + (roundF s).2)) (by omega)
     omega
def ruSt (s : BS) (q : Bool) (c : Int) (i : SV) : St := ⟨[(0, [], .ptr 0 0), (2, [], .v (.int .i64 c)), (5, [], i)], bsH s q, 4⟩
structure RunX where
 s : BS
 q : Bool
 c : Int
 i : Nat
def runOf (x : RunX) : BS × Int × Bool := runN (1000 - x.i) x.s x.c
def runRes (x : RunX) : Ex × St := match (runOf x).2.2 with
 | true => (.ret, ⟨[(2, [], .v (.int .i64 (runOf x).2.1)), (3, [], .kb true)], finH (runOf x).1 x.q 4 5, 6⟩)
 | false => (.exit 0, ⟨[(2, [], .v (.int .i64 (runOf x).2.1))], finH (runOf x).1 x.q 4 5, 6⟩)
def runInv (x : RunX) : Prop := x.i ≤ 1000 ∧ x.s.ps.length ≤ 1000 ∧ x.s.out.length + 8000 * (1000 - x.i) ≤ 108000000 ∧ x.s.fl.length + 8000 * (1000 - x.i) ≤ 108000000
def rdOk (s : BS) : Bool := decide (s.ps.length = s.ps.length ∧ s.out.length = s.out.length ∧ s.fl.length = s.fl.length) && (roomR s && decide ((roundF s).1.ps.length = s.ps.length))
def rdH (s : BS) (n : Nat) (q : Bool) : Heap := [(0, s.b.sv (.slr 1 n 1 q) (.slr 4 s.out.length 4 false) (.slr 5 s.fl.length 5 false)), (1, .rows (.port s.ps)), (2, .rows (.sent [])), (3, .rows (.int .i64 [])), (4, .rows (.sent s.out)), (5, .rows (.int .i64 s.fl))]
theorem runL_run (S : Stat) (s : BS) (q : Bool) (c : Int) (i : Nat) : trimC [0, 2, 5, 3] [0, 1, 2, 3, 4, 5] (exec (cRun (S.wt 0)) (fnOf 17).ntmps 60 (lpOf 17 0) (ruSt s q c (.v (.int .i64 i)))) =
   .ite (decide ((i : Int) < 1000)) (.ite (rdOk s) (.ite ((roundF s).2 == 0) (.ret (.ret, ⟨[(0, [], .ptr 0 0), (2, [], .v (.int .i64 c)), (5, [], .v (.int .i64 i)), (3, [], .kb true)], rdH (roundF s).1 s.ps.length q, 0⟩))
       (.ret (.nrm, ⟨[(0, [], .ptr 0 0), (2, [], .v (.int .i64 (IntKind.i64.wrap (c + (roundF s).2)))), (5, [], .v (.int .i64 (IntKind.i64.wrap (i + 1))))], rdH (roundF s).1 s.ps.length q, 0⟩))) .bad)
     (.ret (.exit 0, ⟨(ruSt s q c (.v (.int .i64 i))).slots, bsH s q, 0⟩)) := by kernel_rfl
def gRunL : LoopFn := onTrimB 4 [0, 2, 5] fun st => match st with
 | ⟨[(0, [], .ptr 0 0), (2, [], cx), (5, [], .ki .i64 0)], [(0, bx), (1, .rows (.port ps)), (2, .rows (.sent out)), (3, .rows (.int .i64 fl))], _⟩ =>
   (match numOf cx, unBri bx with
   | some c, some (b, .slr 1 n 1 q, .slr 2 lo 2 false, .slr 3 lf 3 false) =>
       some (.ite (decide (n = ps.length ∧ lo = out.length ∧ lf = fl.length) && decide (ps.length ≤ 1000 ∧ out.length ≤ 100000000 ∧ fl.length ≤ 100000000)) (.ite (runOf ⟨⟨b, ps, out, fl⟩, q, c, 0⟩).2.2
         (.ret (.ret, ⟨[(2, [], .v (.int .i64 (runOf ⟨⟨b, ps, out, fl⟩, q, c, 0⟩).2.1)), (3, [], .kb true)], finH (runOf ⟨⟨b, ps, out, fl⟩, q, c, 0⟩).1 q 4 5, 6⟩))
         (.ret (.exit 0, ⟨[(2, [], .v (.int .i64 (runOf ⟨⟨b, ps, out, fl⟩, q, c, 0⟩).2.1))], finH (runOf ⟨⟨b, ps, out, fl⟩, q, c, 0⟩).1 q 4 5, 6⟩))) .bad)
   | _, _ => none)
 | _ => none
theorem gRunL_ok (S : Stat) (ls : List (Nat × LoopFn)) : LoopOk Tryz.prog (withLoops (cRun (S.wt 0)) ls) (fnOf 17).ntmps (lpOf 17 0) gRunL := by
 have hS : ∀ S, (cRun S).S = S := cRun_fam.S
 refine loop_gen cRun_fam (fx := 2) (nx := 4) (fuel := 60) (S.wt 0) (fun _ => cRun (S.wt 0)) (fun x : RunX => ruSt x.s x.q x.c (.v (.int .i64 x.i))) runInv (fun x => 1000 - x.i) runRes (fun x => ⟨cRun_fam.full _, cRun_fam.win _, LoopsOk.none (cRun_fam.loop _) _⟩) (fun x => by show 2 ≤ 4; decide) ?_ ?_
 · intro st o r ho hr
   split at ho
   · rename_i cx bx ps out fl _
     split at ho
     · rename_i c b n q lo lf hc hb
       injection ho with ho
       subst ho
       obtain ⟨ht, hr2⟩ := Out.ite_bad hr
       simp only [Bool.and_eq_true, decide_eq_true_eq] at ht
       obtain ⟨⟨rfl, rfl, rfl⟩, hp, h1, h2⟩ := ht
       obtain ⟨rfl, _, _⟩ := unBri_ok hb
       have hr3 : r = runRes ⟨⟨b, ps, out, fl⟩, q, c, 0⟩ := by
         unfold runRes
         simp only [Out.sel] at hr2
         split at hr2
         · rename_i hx; rw [hx]; exact (Option.some.inj hr2).symm
         · rename_i hx; rw [show (runOf ⟨⟨b, ps, out, fl⟩, q, c, 0⟩).2.2 = false from by simpa using hx]; exact (Option.some.inj hr2).symm
       subst hr3
       refine ⟨⟨⟨b, ps, out, fl⟩, q, c, 0⟩, ⟨Nat.zero_le _, hp, by show out.length + 8000 * 1000 ≤ _; omega, by show fl.length + 8000 * 1000 ≤ _; omega⟩, rfl, by unfold runRes; split <;> (show 4 ≤ 6; decide), fun E => ⟨renE E E 2 3 2 3, renR 2 3 2 3, renE_upto _ _ (by decide) (by decide), ?_, ?_, ?_⟩⟩
       · exact ⟨⟨_, rfl, rfl⟩, ⟨_, rfl, numOf_den hc _ _⟩, ⟨_, rfl, rfl⟩, trivial⟩
       · rw [hS]
         exact ren_bs (s := ⟨b, ps, out, fl⟩) rfl (fun _ => rfl) (by decide) (Env.upto.refl _ _) rfl rfl rfl rfl
       · exact ren_inj (s := ⟨b, ps, out, fl⟩) (by decide) (by decide)
     · cases ho
   · cases ho
 · intro x hI
   obtain ⟨hi, hp, h1, h2⟩ := hI
   have hsel := congrArg Out.sel (runL_run S x.s x.q x.c x.i)
   rcases Nat.lt_or_ge x.i 1000 with hlt | hge
   · have hlt' : (x.i : Int) < 1000 := by omega
     obtain ⟨g1, g2, g3⟩ := roundF_len x.s
     have hok : rdOk x.s = true := by
       have e0 : x.s.ps.length < 134217728 := by omega
       have e1 : x.s.out.length + 8 * x.s.ps.length < 134217727 := by omega
       have e2 : x.s.fl.length + 8 * x.s.ps.length < 134217727 := by omega
       simp [rdOk, roomR, g1, e0, e1, e2]
     have hrun : runOf x = if ((roundF x.s).2 == 0) = true then ((roundF x.s).1, x.c, true) else runN (1000 - (x.i + 1)) (roundF x.s).1 (IntKind.i64.wrap (x.c + (roundF x.s).2)) := by
       unfold runOf
       rw [show 1000 - x.i = (1000 - (x.i + 1)) + 1 from by omega]
       rfl
     simp only [Out.sel, hlt', hok, decide_true, if_true] at hsel
     by_cases hz : ((roundF x.s).2 == 0) = true
     · simp only [hz, if_true] at hsel
       rw [if_pos hz] at hrun
       refine ⟨_, _, _, _, hsel, .inr ⟨by simp, by unfold runRes; rw [hrun], fun E0 E1 hu => ⟨renE E0 E1 4 5 4 5, renR 4 5 4 5, renE_upto _ _ (by decide) (by decide), ?_, ?_, ?_⟩⟩⟩
       all_goals (unfold runRes; rw [hrun])
       · exact ⟨⟨_, rfl, rfl⟩, ⟨_, rfl, rfl⟩, trivial⟩
       · rw [hS]
         refine ren_bs (s := (roundF x.s).1) rfl (fun _ => rfl) (by decide) hu ?_ rfl rfl rfl
         rw [g1]; rfl
       · exact ren_inj (s := (roundF x.s).1) (by decide) (by decide)
     · simp only [hz, if_false] at hsel
       rw [if_neg hz] at hrun
       refine ⟨_, _, _, _, hsel, .inl ⟨rfl, ⟨(roundF x.s).1, x.q, IntKind.i64.wrap (x.c + (roundF x.s).2), x.i + 1⟩, ⟨hlt, by show _ ≤ 1000; rw [g1]; exact hp, ?_, ?_⟩, ?_, ?_, fun E1 => ⟨renE E1 E1 2 3 4 5, renR 2 3 4 5, renE_upto _ _ (by decide) (by decide), ?_, ?_, ?_⟩⟩⟩
       · show (roundF x.s).1.out.length + 8000 * (1000 - (x.i + 1)) ≤ _; omega
       · show (roundF x.s).1.fl.length + 8000 * (1000 - (x.i + 1)) ≤ _; omega
       · show 1000 - (x.i + 1) < _; omega
       · have : runOf ⟨(roundF x.s).1, x.q, IntKind.i64.wrap (x.c + (roundF x.s).2), x.i + 1⟩ = runOf x := by rw [hrun]; rfl
         unfold runRes
         rw [this]
       · have hw : IntKind.i64.wrap ((x.i : Int) + 1) = ((x.i + 1 : Nat) : Int) := wrap_succ (n := 1000) hlt (by omega)
         refine ⟨⟨_, rfl, rfl⟩, ⟨_, rfl, rfl⟩, ⟨_, rfl, ?_⟩, trivial⟩
         simp only [SV.den, hw]
       · rw [hS]
         refine ren_bs (s := (roundF x.s).1) rfl (fun _ => rfl) (by decide) (Env.upto.refl _ _) ?_ rfl rfl rfl
         rw [g1]; rfl
       · exact ren_inj (s := (roundF x.s).1) (by decide) (by decide)
   · have hle : ¬ (x.i : Int) < 1000 := by omega
     have hrun : runOf x = (x.s, x.c, false) := by unfold runOf; rw [show 1000 - x.i = 0 from by omega]; rfl
     simp only [Out.sel, hle, decide_false, if_false, Bool.false_eq_true] at hsel
     refine ⟨_, _, _, _, hsel, .inr ⟨by simp, by unfold runRes; rw [hrun], fun E0 E1 hu => ⟨renE E0 E1 4 5 2 3, renR 4 5 2 3, renE_upto _ _ (by decide) (by decide), ?_, ?_, ?_⟩⟩⟩
     all_goals (unfold runRes; rw [hrun])
     · exact ⟨⟨_, rfl, rfl⟩, trivial⟩
     · rw [hS]
       exact ren_bs (s := x.s) rfl (fun _ => rfl) (by decide) hu rfl rfl rfl rfl
     · exact ren_inj (s := x.s) (by decide) (by decide)
def roomRun (s : BS) : Bool := decide (s.ps.length ≤ 1000 ∧ s.out.length ≤ 100000000 ∧ s.fl.length ≤ 100000000)
def gRun : CanonFn := gBS argN (fun s _ => roomRun s) fun s _ => ((runF s).1, .tup [.v (.int .i64 (runF s).2.1), .v (.bool (runF s).2.2)])
def runOk (s : BS) : Bool := decide (s.ps.length = s.ps.length ∧ s.out.length = s.out.length ∧ s.fl.length = s.fl.length) && decide (s.ps.length ≤ 1000 ∧ s.out.length ≤ 100000000 ∧ s.fl.length ≤ 100000000)
theorem run_run (S : Stat) (s : BS) (q : Bool) : trimR [0, 1, 4, 5] (inline (withLoops (cRun (S.wt 0)) [(2, gRunL)]) 60 (fnOf 17) [.ptr 0 0] (bsH s q) 4) =
   .ite (runOk s) (.ite (runF s).2.2 (.ret (.tup [.v (.int .i64 (runF s).2.1), .kb true], finH (runF s).1 q 4 5, 0)) (.ret (.tup [.v (.int .i64 (runF s).2.1), .kb false], finH (runF s).1 q 4 5, 0))) .bad := by kernel_rfl
theorem run_ok : CanonOk 17 gRun := by
 refine whole_ok Tryz.func17 (by kernel_rfl) fun S s q rest a ha hC => ?_
 obtain rfl := argN_some ha
 simp only [roomRun, decide_eq_true_eq] at hC
 have hA : runOk s = true := by simp [runOk, hC]
 have hlen := (runN_len 1000 s 0 hC.1).1
 have hgood : GoodCtx (withLoops (cRun (S.wt 0)) [(2, gRunL)]) (fnOf 17) := good_loops cRun_fam _ _ (by kernel_rfl) rfl fun i k g hg => by
   match i, hg with
   | 0, hg => obtain ⟨rfl, rfl⟩ := Prod.mk.inj (Option.some.inj hg); exact gRunL_ok S _
 have hsel := congrArg Out.sel (run_run S s q)
 simp only [Out.sel, hA, if_true] at hsel
 have key : ∃ v, (trimR [0, 1, 4, 5] (inline (withLoops (cRun (S.wt 0)) [(2, gRunL)]) 60 (fnOf 17) [.ptr 0 0] (bsH s q) 4)).sel = some (v, finH (runF s).1 q 4 5, 0) ∧ ∀ S S' E E', v.den S E = (SV.tup [.v (.int .i64 (runF s).2.1), .v (.bool (runF s).2.2)]).den S' E' := by
   rw [hsel]
   cases (runF s).2.2
   · exact ⟨_, rfl, fun _ _ _ _ => rfl⟩
   · exact ⟨_, rfl, fun _ _ _ _ => rfl⟩
 obtain ⟨v, hv, hvd⟩ := key
 obtain ⟨H1, m1, hrun, hget⟩ := trimR_sel hv
 refine ⟨_, 60, [], _, H1, m1, 4, 5, hgood, cRun_fam.S _, fun E => rfl, hrun, fun S' E' => ?_⟩
 refine told_bs (by decide) (fun _ => hvd _ _ _ _) (hget 0 _ rfl) ?_ (hget 1 _ rfl) rfl (.inr ⟨hget 4 _ rfl, rfl⟩) (.inr ⟨hget 5 _ rfl, rfl⟩)
 rw [show (runF s).1.ps.length = s.ps.length from hlen]
 exact bri_mov _ _ _ _ _ _ 4 5 q
end Go.Proofs.YtjemfkoamfnofaaGreat
