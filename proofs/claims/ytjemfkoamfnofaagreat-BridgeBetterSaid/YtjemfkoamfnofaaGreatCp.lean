import Derived.Test.YtjemfkoamfnofaaGreatCl
set_option linter.unusedVariables false
set_option maxRecDepth 100000
namespace Go.Proofs.YtjemfkoamfnofaaGreat
open Go Go.RowKit
structure UpP where
 L : List Conf
 q : Bool
 q4 : Bool
 a : Int
 r : Int
 c : Int
 rest : Bool
def upF (p : UpP) : Heap := [(0, .rows (.conf p.L))]
def upE (p : UpP) (_ : Bool) : Slots := [(1, [], .slr 0 p.L.length 0 p.q), (2, [], .v (.int .u8 p.a)), (3, [], .v (.int .u8 p.r)), (4, [], .v (.int .u16 p.c)), (11, [], .kb true), (12, [], .ptr 4 0), (13, [], .v (.bool p.rest))]
def upSl (p : UpP) (x : Bool) (i : SV) : Slots := upE p x ++ [(14, [], i)]
def upL : Nat → Nat → BS → BS
 | 0, _, s => s
 | n + 1, i, s => upL n (i + 1) (enableF s i true).1
noncomputable def upT (S : Stat) (p : UpP) (s : BS) (i : Nat) (ks : List Nat) : Out (Ex × St) := trimC [1, 2, 3, 4, 11, 12, 13, 14] ks (exec (cTl (S.rd 0 1)) (fnOf 6).ntmps 60 (lpOf 6 0) ⟨upSl p true (.v (.int .i64 i)), brH (upF p) 4 1 5 6 s p.q4, 7⟩)
theorem up_go (S : Stat) (p : UpP) (s : BS) (i : Nat) : Out.way [true, true] (upT S p s i [0, 4, 1, 7, 8]) = some ([decide ((i : Int) < p.L.length), bsT s.ps.length s (ixB s i) (enableF s i true).1.ps.length],
   (.nrm, ⟨upSl p true (.v (.int .i64 (IntKind.i64.wrap (i + 1)))), [(0, .rows (.conf p.L)), (4, (enableF s i true).1.b.sv (.slr 1 s.ps.length 1 p.q4) (.slr 7 (enableF s i true).1.out.length 7 false) (.slr 8 (enableF s i true).1.fl.length 8 false)), (1, .rows (.port (enableF s i true).1.ps)), (7, .rows (.sent (enableF s i true).1.out)), (8, .rows (.int .i64 (enableF s i true).1.fl))], 0⟩)) := by kernel_rfl
theorem up_end (S : Stat) (p : UpP) (s : BS) (i : Nat) : Out.way [false] (upT S p s i [0, 4, 1, 5, 6]) = some ([decide ((i : Int) < p.L.length)], (.exit 0, ⟨upSl p true (.v (.int .i64 i)), brH (upF p) 4 1 5 6 s p.q4, 0⟩)) := by kernel_rfl
def gUpL : LoopFn := onTrimB 5 [1, 2, 3, 4, 11, 12, 13, 14] fun st => match st with
 | ⟨[(1, [], .slr 0 n 0 q), (2, [], .v (.int .u8 a)), (3, [], .v (.int .u8 r)), (4, [], .v (.int .u16 c)), (11, [], .kb true), (12, [], .ptr 4 0), (13, [], .v (.bool rest)), (14, [], .ki .i64 0)], [(4, bx), (0, .rows (.conf L)), (3, .rows (.int .i64 fl)), (2, .rows (.sent out)), (1, .rows (.port ps))], _⟩ =>
   (match unBri bx with
   | some (b, .slr 1 n4 1 q4, .slr 2 n8 2 false, .slr 3 n9 3 false) =>
       some (.ite (decide (n = L.length ∧ n4 = ps.length ∧ n8 = out.length ∧ n9 = fl.length) && decide (L.length ≤ 1000 ∧ ps.length = L.length)) (.ret (.exit 0, ⟨upE ⟨L, q, q4, a, r, c, rest⟩ true, brH (upF ⟨L, q, q4, a, r, c, rest⟩) 4 1 5 6 (upL L.length 0 ⟨b, ps, out, fl⟩) q4, 7⟩)) .bad)
   | _ => none)
 | _ => none
theorem rd_ro1 (S : Stat) (i : Int) {m : Nat} (hm : 1 ≤ m) : ∀ k, m ≤ k → (S.rd i 1).ro k = false := by
 intro k hk
 show Nat.blt k 1 = false
 cases h : Nat.blt k 1 with
 | false => rfl
 | true => have := (by simpa using h : k < 1); omega
theorem fix_conf1 {fx : Nat} (h : 0 < fx) (L : List Conf) : FixH fx [(0, .rows (.conf L))] := by
 intro k x hm
 simp only [List.mem_cons, List.not_mem_nil, or_false, Prod.mk.injEq] at hm
 obtain ⟨rfl, rfl⟩ := hm
 exact ⟨h, fun _ _ _ _ => rfl, fun _ => trivial⟩
theorem gUpL_ok (S : Stat) (ls : List (Nat × LoopFn)) : LoopOk Tryz.prog (withLoops (cTl (S.rd 0 1)) ls) (fnOf 6).ntmps (lpOf 6 0) gUpL := by
 refine loop_bs (π := UpP) cTl_fam (fuel := 60) (S.rd 0 1) (kb := 4) (kp := 1) (n2 := 5) (n3 := 6) (m2 := 5) (m3 := 6) (fx := 5) (nx := 5) (nx2 := 7) (ny := 7) (lo := 1) upF (fun p => p.q4) upSl upE (.exit 0) (fun p s x i => x = true ∧ p.L.length ≤ 1000 ∧ s.ps.length = p.L.length ∧ i ≤ p.L.length) (fun p s x i => p.L.length - i)
   (fun p s x i => (upL (p.L.length - i) i s, true)) (fun p => fix_conf1 (by decide) p.L) (fun _ _ _ => rfl) (fun _ _ => rfl) (by decide) (by decide) (by decide) (by decide) (rd_ro1 S 0 (by decide)) ?_ ?_
 · intro st o r ho hr
   split at ho
   · rename_i n q a r' c rest bx L fl out ps _
     split at ho
     · rename_i b n4 q4 n8 n9 hb
       injection ho with ho
       subst ho
       obtain ⟨ht, hr2⟩ := Out.ite_bad hr
       simp only [Bool.and_eq_true, decide_eq_true_eq] at ht
       obtain ⟨⟨rfl, rfl, rfl, rfl⟩, h1, h2⟩ := ht
       obtain ⟨rfl, _, _⟩ := unBri_ok hb
       obtain rfl := Option.some.inj hr2
       refine ⟨⟨L, q, q4, a, r', c, rest⟩, ⟨b, ps, out, fl⟩, true, .at_ 2, .at_ 3, ⟨rfl, h1, h2, Nat.zero_le _⟩, rfl, fun E => ⟨⟨_, rfl, rfl⟩, ⟨_, rfl, rfl⟩, ⟨_, rfl, rfl⟩, ⟨_, rfl, rfl⟩, ⟨_, rfl, rfl⟩, ⟨_, rfl, rfl⟩, ⟨_, rfl, rfl⟩, ⟨_, rfl, rfl⟩, trivial⟩, ⟨fun k y hm => ?_, rfl, rfl, ⟨by decide, rfl⟩, ⟨by decide, rfl⟩, by decide, fun k hk => ?_⟩⟩
       · simp only [upF, List.mem_cons, List.not_mem_nil, or_false, Prod.mk.injEq] at hm
         obtain ⟨rfl, rfl⟩ := hm
         rfl
       · show k ≠ 2 ∧ k ≠ 3
         rcases hk with rfl | rfl | ⟨x, hk⟩
         · decide
         · decide
         · simp only [upF, List.mem_cons, List.not_mem_nil, or_false, Prod.mk.injEq] at hk
           obtain ⟨rfl, _⟩ := hk
           decide
     · cases ho
   · cases ho
 · rintro p s x i ⟨rfl, h1, h2, hi⟩
   rcases Nat.lt_or_ge i p.L.length with hlt | hge
   · have hl := enable_len s i true
     have hix : ixB s i = true := by simp only [ixB, Bool.and_eq_true, decide_eq_true_eq]; omega
     have hsel := Out.way_sel (up_go S p s i) (by rw [decide_eq_true (by omega), bsT_true rfl hix hl.1])
     refine ⟨[1, 2, 3, 4, 11, 12, 13, 14], [0, 4, 1, 7, 8], .nrm, _, _, hsel, .inl ⟨rfl, (enableF s i true).1, true, .at_ 7, .at_ 8, ⟨rfl, h1, hl.1.trans h2, hlt⟩, by show p.L.length - (i + 1) < p.L.length - i; omega, ?_, fun E => ?_, ?_⟩⟩
     · rw [show p.L.length - i = (p.L.length - (i + 1)) + 1 from by omega]
       rfl
     · rw [wrap_succ (n := 1001) (by omega) (by omega)]
       exact ⟨⟨_, rfl, rfl⟩, ⟨_, rfl, rfl⟩, ⟨_, rfl, rfl⟩, ⟨_, rfl, rfl⟩, ⟨_, rfl, rfl⟩, ⟨_, rfl, rfl⟩, ⟨_, rfl, rfl⟩, ⟨_, rfl, rfl⟩, trivial⟩
     · refine ⟨fun k y hm => ?_, ?_, rfl, ⟨by decide, rfl⟩, ⟨by decide, rfl⟩, by decide⟩
       · simp only [upF, List.mem_cons, List.not_mem_nil, or_false, Prod.mk.injEq] at hm
         obtain ⟨rfl, rfl⟩ := hm
         rfl
       · show some _ = some _
         rw [hl.1]
         rfl
   · have hsel := Out.way_sel (up_end S p s i) (by rw [decide_eq_false (by omega)])
     refine ⟨[1, 2, 3, 4, 11, 12, 13, 14], [0, 4, 1, 5, 6], .exit 0, _, _, hsel, .inr ⟨rfl, by simp, ?_, fun E => ⟨⟨_, rfl, rfl⟩, ⟨_, rfl, rfl⟩, ⟨_, rfl, rfl⟩, ⟨_, rfl, rfl⟩, ⟨_, rfl, rfl⟩, ⟨_, rfl, rfl⟩, ⟨_, rfl, rfl⟩, trivial⟩, ⟨fun k y hm => ?_, rfl, rfl, ⟨by decide, rfl⟩, ⟨by decide, rfl⟩, by decide⟩⟩⟩
     · rw [show p.L.length - i = 0 from by omega]; rfl
     · simp only [upF, List.mem_cons, List.not_mem_nil, or_false, Prod.mk.injEq] at hm
       obtain ⟨rfl, rfl⟩ := hm
       rfl
structure BtP where
 b : Bri
 ps : List Port
 lo : Nat
 lf : Nat
 q4 : Bool
 q : Bool
 n : Nat
 r : Int
 k : Int
def btHp (p : BtP) : Heap := [(4, p.b.sv (.slr 1 p.ps.length 1 p.q4) (.slr 12 p.lo 12 false) (.slr 13 p.lf 13 false)), (1, .rows (.port p.ps))]
def btE (p : BtP) : Slots := [(1, [], .slr 0 p.n 0 p.q), (3, [], .v (.int .u8 p.r)), (11, [], .kb true), (12, [], .ptr 4 0), (17, [], .v (.int .i64 p.k))]
def btSl (p : BtP) (i : SV) : Slots := btE p ++ [(22, [], i)]
noncomputable def btT (S : Stat) (p : BtP) (i : Nat) : Out (Ex × St) := trimO [1, 3, 10, 11, 12, 17, 22] 14 (exec (cTl (S.rd 0 1)) (fnOf 6).ntmps 60 (lpOf 6 1) ⟨btSl p (.v (.int .i64 i)), btHp p, 14⟩)
def btBad (r k : Int) (i : Nat) (a : Port) : Bool := ((i : Int) == k && a.role != 3) || ((i : Int) != k && (a.role != 4 || a.vec.root != IntKind.u64.wrap (r.tmod 7)))
theorem bt_go (S : Stat) (p : BtP) (i : Nat) : Out.way [true, true, true, false] (btT S p i) = some ([decide ((i : Int) < p.n), decide (0 ≤ (i : Int)) && decide ((i : Int) < p.ps.length), decide ((i : Int).toNat < p.ps.length), btBad p.r p.k i (p.ps.getD (i : Int).toNat Port.dflt)], (.nrm, ⟨btSl p (.v (.int .i64 (IntKind.i64.wrap (i + 1)))), btHp p, 14⟩)) := by kernel_rfl
theorem bt_end (S : Stat) (p : BtP) (i : Nat) : Out.way [false] (btT S p i) = some ([decide ((i : Int) < p.n)], (.exit 2, ⟨btSl p (.v (.int .i64 i)), btHp p, 14⟩)) := by kernel_rfl
def gBtL : LoopFn := onTrim 14 [1, 3, 11, 12, 17, 22] fun st => match st with
 | ⟨[(1, [], .slr 0 n 0 q), (3, [], .v (.int .u8 r)), (11, [], .kb true), (12, [], .ptr 4 0), (17, [], .v (.int .i64 k)), (22, [], .ki .i64 0)], [(9, _), (0, _), (4, bx), (1, .rows (.port ps)), (5, _), (6, _), (8, _), (7, _), (11, _), (10, _), (13, _), (12, _)], _⟩ =>
   (match unBri bx with
   | some (b, .slr 1 n4 1 q4, .slr 12 lo 12 false, .slr 13 lf 13 false) => some (.ite (decide (n = ps.length ∧ n4 = ps.length ∧ ps.length ≤ 1000) && decide (∀ i, i < ps.length → btBad r k i (ps.getD i Port.dflt) = false)) (.ret (.exit 2, ⟨btE ⟨b, ps, lo, lf, q4, q, n, r, k⟩, btHp ⟨b, ps, lo, lf, q4, q, n, r, k⟩, 14⟩)) .bad)
   | _ => none)
 | _ => none
theorem runL_go (fin : Unit → Ex × St) : ∀ (l : List Port) (i : Nat) (x : Unit), runL (fun i (p : Port) (x : Unit) => Step.go ()) fin l i x = fin ()
 | [], i, x => rfl
 | p :: r, i, x => by rw [runL]; exact runL_go fin r (i + 1) _
theorem btHp_re {S S' : Stat} (p : BtP) (E : Env) : ReHeap (btHp p) S S' E (btHp p) := ⟨⟨_, rfl, rfl, trivial⟩, ⟨_, rfl, rfl, trivial⟩, trivial⟩
theorem gBtL_ok (S : Stat) (ls : List (Nat × LoopFn)) : LoopOk Tryz.prog (withLoops (cTl (S.rd 0 1)) ls) (fnOf 6).ntmps (lpOf 6 1) gBtL := by
 refine loop_trim cTl_fam (nx := 14) (fuel := 60) (ts := [1, 3, 10, 11, 12, 17, 22]) (π := BtP) (α := Port) (τ := Unit) (S.rd 0 1) (fun _ i => S.rd 0 1) (fun _ _ => rfl) (fun p => p.ps) (fun p i x => ⟨btSl p (.v (.int .i64 i)), btHp p, 14⟩)
   (fun p i x => p.n = p.ps.length ∧ p.ps.length ≤ 1000 ∧ ∀ i, i < p.ps.length → btBad p.r p.k i (p.ps.getD i Port.dflt) = false) (fun p i a x => .go ()) (fun p x => (.exit 2, ⟨btE p, btHp p, 14⟩)) (fun _ _ _ => rfl) ?_ ?_ ?_
 · intro st o r ho hr
   split at ho
   · rename_i n q r' k y9 y0 bx ps y5 y6 y8 y7 y11 y10 y13 y12 _
     split at ho
     · rename_i b n4 q4 lo lf hb
       injection ho with ho
       subst ho
       have hh := Out.ite_bad hr
       have ht := hh.1
       simp only [Bool.and_eq_true, decide_eq_true_eq] at ht
       obtain ⟨⟨rfl, rfl, hlt⟩, hno⟩ := ht
       obtain rfl := Option.some.inj hh.2
       obtain ⟨rfl, _, _⟩ := unBri_ok hb
       refine ⟨⟨b, ps, lo, lf, q4, q, ps.length, r', k⟩, (), ⟨rfl, hlt, hno⟩, (runL_go (fun x => (Ex.exit 2, (⟨btE ⟨b, ps, lo, lf, q4, q, ps.length, r', k⟩, btHp ⟨b, ps, lo, lf, q4, q, ps.length, r', k⟩, 14⟩ : St))) ps 0 ()).symm, Nat.le_refl 14, fun E => ⟨⟨⟨_, rfl, rfl⟩, ⟨_, rfl, rfl⟩, ⟨_, rfl, rfl⟩, ⟨_, rfl, rfl⟩, ⟨_, rfl, rfl⟩, ⟨_, rfl, rfl⟩, trivial⟩, ⟨⟨_, rfl, rfl, trivial⟩, ⟨_, rfl, rfl, trivial⟩, trivial⟩⟩⟩
     · cases ho
   · cases ho
 · intro p i a x ha hinv
   obtain ⟨hn, hlt, hno⟩ := hinv
   have hi := (List.getElem?_eq_some_iff.1 ha).1
   have hb := hno i hi
   refine ⟨.nrm, _, Out.way_sel (bt_go S p i) (by rw [decide_eq_true (by omega), decide_eq_true (by omega), decide_eq_true (by omega), decide_eq_true (by omega), show (i : Int).toNat = i from rfl, hb]; rfl), rfl, ⟨hn, hlt, hno⟩, fun E => ?_⟩
   rw [wrap_succ (n := 1001) (by omega) (by omega)]
   exact ⟨⟨⟨_, rfl, rfl⟩, ⟨_, rfl, rfl⟩, ⟨_, rfl, rfl⟩, ⟨_, rfl, rfl⟩, ⟨_, rfl, rfl⟩, ⟨_, rfl, rfl⟩, trivial⟩, btHp_re _ E⟩
 · intro p x hinv
   exact ⟨.exit 2, _, Out.way_sel (bt_end S p p.ps.length) (by rw [decide_eq_false (by have := hinv.1; omega)]), rfl, by simp, fun E => ⟨⟨⟨_, rfl, rfl⟩, ⟨_, rfl, rfl⟩, ⟨_, rfl, rfl⟩, ⟨_, rfl, rfl⟩, ⟨_, rfl, rfl⟩, trivial⟩, btHp_re _ E⟩⟩
structure BwP where
 L : List Conf
 q : Bool
 rst : Bool
 a : Int
 r : Int
 c : Int
noncomputable def bwW (S : Stat) (y : BwP) : Out SV := valF 1 (inline (withLoops (cTl (S.rd 0 1)) [(6, gUpL), (17, gBtL)]) 60 (fnOf 6) [.v (.bool y.rst), .slr 0 y.L.length 0 y.q, .v (.int .u8 y.a), .v (.int .u8 y.r), .v (.int .u16 y.c)] [(0, .rows (.conf y.L))] 1)
def bwK (y : BwP) : Int := (IntKind.i64.wrap y.a).tmod y.L.length
def bwM (y : BwP) : Msg := ⟨0, false, false, false, false, false, false, 4, ⟨IntKind.u64.wrap (y.r.tmod 7), IntKind.u32.wrap y.c, 9, 1, 0⟩, ⟨1, 20, 2, 15⟩⟩
def bw0 (y : BwP) : BS := (liveF y.rst y.L []).1
def bwU (y : BwP) : BS := upL y.L.length 0 (bw0 y)
def bw1 (y : BwP) : BS := (runF (bwU y)).1
def bwH (y : BwP) : BS := (hearF (bw1 y) (bwK y) (bwM y)).1
def bw2 (y : BwP) : BS := (runF (bwH y)).1
def bwG (y : BwP) : Bool := decide ((y.L.length : Int) > 5) || decide ((y.L.length : Int) < 1)
theorem bw_far (S : Stat) (y : BwP) : Out.way [true] (bwW S y) = some ([bwG y], .kb true) := by kernel_rfl
theorem bw_end (S : Stat) (y : BwP) : Out.way [false, true, true, true, true, true, true, false, true] (bwW S y) = some ([bwG y, decide (y.L.length = y.L.length) && lvOk y.rst y.L [],
   decide (y.L.length = y.L.length ∧ (bw0 y).ps.length = (bw0 y).ps.length ∧ (bw0 y).out.length = (bw0 y).out.length ∧ (bw0 y).fl.length = (bw0 y).fl.length) && decide (y.L.length ≤ 1000 ∧ (bw0 y).ps.length = y.L.length),
   bsT (bwU y).ps.length (bwU y) (roomRun (bwU y)) (bw1 y).ps.length, !((y.L.length : Int) == 0), bsT (bwU y).ps.length (bw1 y) (ixB (bw1 y) (bwK y)) (bwH y).ps.length, bsT (bwU y).ps.length (bwH y) (roomRun (bwH y)) (bw2 y).ps.length,
   (((!(liveF y.rst y.L []).2 || !(runF (bwU y)).2.2) || !(runF (bwH y)).2.2) || !(hearF (bw1 y) (bwK y) (bwM y)).2) || ((bwU y).ps.length : Int) != y.L.length,
   decide (y.L.length = (bw2 y).ps.length ∧ (bwU y).ps.length = (bw2 y).ps.length ∧ (bw2 y).ps.length ≤ 1000) && decide (∀ i, i < (bw2 y).ps.length → btBad y.r (bwK y) i ((bw2 y).ps.getD i Port.dflt) = false)],
   .v (.bool (((bw2 y).b.root.root == IntKind.u64.wrap (y.r.tmod 7) && (bw2 y).b.rootPort == bwK y) && (bw2 y).b.rootT.age == 2))) := by kernel_rfl
noncomputable def bwLs : List (Nat × LoopFn) := [(6, gUpL), (17, gBtL)]
theorem bwLs_ok (S : Stat) : ∀ i k g, bwLs[i]? = some (k, g) → LoopOk Tryz.prog (withLoops (cTl (S.rd 0 1)) bwLs) (fnOf 6).ntmps (lpOf 6 i) g := by
 intro i k g hg
 match i, hg with
 | 0, hg => obtain ⟨rfl, rfl⟩ := Prod.mk.inj (Option.some.inj hg); exact gUpL_ok S _
 | 1, hg => obtain ⟨rfl, rfl⟩ := Prod.mk.inj (Option.some.inj hg); exact gBtL_ok S _
end Go.Proofs.YtjemfkoamfnofaaGreat
