import Derived.Test.YtjemfkoamfnofaaGreatCl
set_option linter.unusedVariables false
set_option maxRecDepth 100000
namespace Go.Proofs.YtjemfkoamfnofaaGreat
open Go Go.RowKit
structure T2P where
 p : TlP
 x : Int
def t2Sl (y : T2P) (i : SV) : Slots := [(0, [], .v (.bool y.p.rst)), (1, [], .slr 0 y.p.L.length 0 y.p.q), (2, [], .slr 1 y.p.A.length 1 y.p.r), (3, [], .v (.int .u8 y.x)), (9, [], .kb true), (10, [], i)]
noncomputable def t2T (S : Stat) (y : T2P) (i : Nat) : Out (Ex × St) := trimO [0, 1, 2, 3, 8, 9, 10] 2 (exec (cTl (S.rd 0 2)) (fnOf 8).ntmps 60 (lpOf 8 0) ⟨t2Sl y (.v (.int .i64 i)), tlHp y.p, 2⟩)
theorem t2_go (S : Stat) (y : T2P) (i : Nat) : Out.way [true, true, true, false] (t2T S y i) = some (ixT y.p.A i ++ [noTold (y.p.A.getD (i : Int).toNat Todo.dflt)], (.nrm, ⟨t2Sl y (.v (.int .i64 (IntKind.i64.wrap (i + 1)))), tlHp y.p, 2⟩)) := by kernel_rfl
theorem t2_no (S : Stat) (y : T2P) (i : Nat) : Out.way [true, true, true, true] (t2T S y i) = some (ixT y.p.A i ++ [noTold (y.p.A.getD (i : Int).toNat Todo.dflt)], (.ret, ⟨[(0, [], .v (.bool y.p.rst)), (1, [], .slr 0 y.p.L.length 0 y.p.q), (2, [], .slr 1 y.p.A.length 1 y.p.r), (3, [], .v (.int .u8 y.x)), (8, [], .kb true), (9, [], .kb true), (10, [], .v (.int .i64 i))], tlHp y.p, 2⟩)) := by kernel_rfl
theorem t2_end (S : Stat) (y : T2P) (i : Nat) : Out.way [false] (t2T S y i) = some ([decide ((i : Int) < y.p.A.length)], (.exit 0, ⟨t2Sl y (.v (.int .i64 i)), tlHp y.p, 2⟩)) := by kernel_rfl
def t2Fin (y : T2P) : St := ⟨[(0, [], .v (.bool y.p.rst)), (1, [], .slr 0 y.p.L.length 0 y.p.q), (2, [], .slr 1 y.p.A.length 1 y.p.r), (3, [], .v (.int .u8 y.x)), (9, [], .kb true)], tlHp y.p, 2⟩
def t2Out : St := ⟨[(8, [], .kb true)], [], 2⟩
def gTold2 : LoopFn := onTrim 2 [0, 1, 2, 3, 9, 10] fun st => match st with
 | ⟨[(0, [], .v (.bool rst)), (1, [], .slr 0 n 0 q), (2, [], .slr 1 k 1 r), (3, [], .v (.int .u8 x)), (9, [], .kb true), (10, [], .ki .i64 0)], [(0, .rows (.conf L)), (1, .rows (.todo A))], _⟩ => some (.ite (decide (n = L.length ∧ k = A.length ∧ k ≤ 1000)) (.ite (A.any noTold) (.ret (.ret, t2Out)) (.ret (.exit 0, t2Fin ⟨⟨L, A, q, r, rst⟩, x⟩))) .bad)
 | _ => none
theorem gTold2_ok (S : Stat) (ls : List (Nat × LoopFn)) : LoopOk Tryz.prog (withLoops (cTl (S.rd 0 2)) ls) (fnOf 8).ntmps (lpOf 8 0) gTold2 := by
 have hrun : ∀ (p : T2P) (l : List Todo) (i : Nat), runL (fun i a x => if noTold a = true then Step.out .ret t2Out else .go ()) (fun _ => (Ex.exit 0, t2Fin p)) l i () = if l.any noTold = true then (.ret, t2Out) else (.exit 0, t2Fin p) := fun p => runL_any fun i a => rfl
 refine loop_trim cTl_fam (nx := 2) (fuel := 60) (ts := [0, 1, 2, 3, 8, 9, 10]) (π := T2P) (α := Todo) (τ := Unit) (S.rd 0 2) (fun _ i => S.rd 0 2) (fun _ _ => rfl) (fun y => y.p.A) (fun p i _ => ⟨t2Sl p (.v (.int .i64 i)), tlHp p.p, 2⟩)
   (fun y i _ => y.p.A.length ≤ 1000) (fun p i a _ => if noTold a = true then .out .ret t2Out else .go ()) (fun p _ => (.exit 0, t2Fin p)) (fun _ _ _ => rfl) ?_ ?_ ?_
 · intro st o r ho hr
   split at ho
   · rename_i rst n q k r' x L A _
     injection ho with ho
     subst ho
     have hh := Out.ite_bad hr
     obtain ⟨rfl, rfl, hlt⟩ := of_decide_eq_true hh.1
     have hr2 := hh.2
     refine ⟨⟨⟨L, A, q, r', rst⟩, x⟩, (), hlt, ?_, ?_, fun E => ⟨⟨⟨_, rfl, rfl⟩, ⟨_, rfl, rfl⟩, ⟨_, rfl, rfl⟩, ⟨_, rfl, rfl⟩, ⟨_, rfl, rfl⟩, ⟨_, rfl, rfl⟩, trivial⟩, tlHp_re ⟨L, A, q, r', rst⟩ E⟩⟩
     · rw [hrun]
       simp only [Out.sel] at hr2
       split at hr2
       · rename_i hb; rw [if_pos hb]; exact (Option.some.inj hr2).symm
       · rename_i hb; rw [if_neg hb]; exact (Option.some.inj hr2).symm
     · simp only [Out.sel] at hr2
       split at hr2
       · obtain rfl := Option.some.inj hr2; exact Nat.le_refl 2
       · obtain rfl := Option.some.inj hr2; exact Nat.le_refl 2
   · cases ho
 · intro p i a x ha hinv
   have hi := (List.getElem?_eq_some_iff.1 ha).1
   have hx := ixT_true hi
   cases hb : noTold a with
   | true =>
     simp only [if_true]
     exact ⟨.ret, _, Out.way_sel (t2_no S p i) (by rw [hx, getT ha, hb]; rfl), rfl, by simp, fun E => ⟨⟨⟨_, rfl, rfl⟩, trivial⟩, trivial⟩⟩
   | false =>
     simp only [Bool.false_eq_true, if_false]
     refine ⟨.nrm, _, Out.way_sel (t2_go S p i) (by rw [hx, getT ha, hb]; rfl), rfl, hinv, fun E => ?_⟩
     rw [wrap_succ (n := 1001) (by omega) (by omega)]
     exact ⟨⟨⟨_, rfl, rfl⟩, ⟨_, rfl, rfl⟩, ⟨_, rfl, rfl⟩, ⟨_, rfl, rfl⟩, ⟨_, rfl, rfl⟩, ⟨_, rfl, rfl⟩, trivial⟩, tlHp_re p.p E⟩
 · intro p x hinv
   have hn : ¬ ((p.p.A.length : Nat) : Int) < p.p.A.length := by omega
   exact ⟨.exit 0, _, Out.way_sel (t2_end S p p.p.A.length) (by rw [decide_eq_false hn]), rfl, by simp, fun E => ⟨⟨⟨_, rfl, rfl⟩, ⟨_, rfl, rfl⟩, ⟨_, rfl, rfl⟩, ⟨_, rfl, rfl⟩, ⟨_, rfl, rfl⟩, trivial⟩, tlHp_re p.p E⟩⟩
structure DnP where
 L : List Conf
 q : Bool
 q4 : Bool
def dnF (p : DnP) : Heap := [(0, .rows (.conf p.L))]
def dnSl (p : DnP) (_ : Bool) (i : SV) : Slots := [(1, [], .slr 0 p.L.length 0 p.q), (9, [], .kb true), (12, [], .ptr 5 0), (18, [], i)]
def dnE (_ : DnP) (_ : Bool) : Slots := [(9, [], .kb true), (12, [], .ptr 5 0)]
def lowL : Nat → Nat → BS → BS
 | 0, _, s => s
 | n + 1, i, s => lowL n (i + 1) (enableF s i false).1
noncomputable def dnT (S : Stat) (p : DnP) (s : BS) (i : Nat) (ks : List Nat) : Out (Ex × St) := trimC [1, 9, 12, 18] ks (exec (cTl (S.rd 0 2)) (fnOf 8).ntmps 60 (lpOf 8 1) ⟨dnSl p true (.v (.int .i64 i)), brH (dnF p) 5 2 8 9 s p.q4, 11⟩)
theorem dn_go (S : Stat) (p : DnP) (s : BS) (i : Nat) : Out.way [true, true] (dnT S p s i [0, 5, 2, 11, 12]) = some ([decide ((i : Int) < p.L.length), bsT s.ps.length s (ixB s i) (enableF s i false).1.ps.length],
   (.nrm, ⟨dnSl p true (.v (.int .i64 (IntKind.i64.wrap (i + 1)))), [(0, .rows (.conf p.L)), (5, (enableF s i false).1.b.sv (.slr 2 s.ps.length 2 p.q4) (.slr 11 (enableF s i false).1.out.length 11 false) (.slr 12 (enableF s i false).1.fl.length 12 false)), (2, .rows (.port (enableF s i false).1.ps)), (11, .rows (.sent (enableF s i false).1.out)), (12, .rows (.int .i64 (enableF s i false).1.fl))], 0⟩)) := by kernel_rfl
theorem dn_end (S : Stat) (p : DnP) (s : BS) (i : Nat) : Out.way [false] (dnT S p s i [0, 5, 2, 8, 9]) = some ([decide ((i : Int) < p.L.length)], (.exit 2, ⟨dnSl p true (.v (.int .i64 i)), brH (dnF p) 5 2 8 9 s p.q4, 0⟩)) := by kernel_rfl
def gLowL : LoopFn := onTrimB 11 [1, 9, 12, 18] fun st => match st with
 | ⟨[(1, [], .slr 0 n 0 q), (9, [], .kb true), (12, [], .ptr 5 0), (18, [], .ki .i64 0)], [(10, _), (5, bx), (0, .rows (.conf L)), (1, _), (4, _), (3, _), (2, .rows (.port ps)), (7, _), (6, _), (9, .rows (.int .i64 fl)), (8, .rows (.sent out))], _⟩ =>
   (match unBri bx with
   | some (b, .slr 2 n4 2 q4, .slr 8 n8 8 false, .slr 9 n9 9 false) =>
       some (.ite (decide (n = L.length ∧ n4 = ps.length ∧ n8 = out.length ∧ n9 = fl.length) && decide (L.length ≤ 1000 ∧ ps.length = L.length)) (.ret (.exit 2, ⟨dnE ⟨L, q, q4⟩ true, brH (dnF ⟨L, q, q4⟩) 5 2 11 12 (lowL L.length 0 ⟨b, ps, out, fl⟩) q4, 13⟩)) .bad)
   | _ => none)
 | _ => none
theorem rd_ro (S : Stat) (i : Int) {m : Nat} (hm : 2 ≤ m) : ∀ k, m ≤ k → (S.rd i 2).ro k = false := by
 intro k hk
 show Nat.blt k 2 = false
 cases h : Nat.blt k 2 with
 | false => rfl
 | true => have := (by simpa using h : k < 2); omega
theorem fix_conf {fx : Nat} (h : 0 < fx) (L : List Conf) : FixH fx [(0, .rows (.conf L))] := by
 intro k x hm
 simp only [List.mem_cons, List.not_mem_nil, or_false, Prod.mk.injEq] at hm
 obtain ⟨rfl, rfl⟩ := hm
 exact ⟨h, fun _ _ _ _ => rfl, fun _ => trivial⟩
theorem gLowL_ok (S : Stat) (ls : List (Nat × LoopFn)) : LoopOk Tryz.prog (withLoops (cTl (S.rd 0 2)) ls) (fnOf 8).ntmps (lpOf 8 1) gLowL := by
 refine loop_bs (π := DnP) cTl_fam (fuel := 60) (S.rd 0 2) (kb := 5) (kp := 2) (n2 := 8) (n3 := 9) (m2 := 11) (m3 := 12) (fx := 8) (nx := 11) (nx2 := 13) (ny := 11) dnF (fun p => p.q4) dnSl dnE (.exit 2) (fun p s x i => x = true ∧ p.L.length ≤ 1000 ∧ s.ps.length = p.L.length ∧ i ≤ p.L.length) (fun p s x i => p.L.length - i)
   (fun p s x i => (lowL (p.L.length - i) i s, true)) (fun p => fix_conf (by decide) p.L) (fun _ _ _ => rfl) (fun _ _ => rfl) (by decide) (by decide) (by decide) (by decide : 2 ≤ _) (rd_ro S 0 (by decide)) ?_ ?_
 · intro st o r ho hr
   split at ho
   · rename_i n q y10 bx L y1 y4 y3 ps y7 y6 fl out _
     split at ho
     · rename_i b n4 q4 n8 n9 hb
       injection ho with ho
       subst ho
       obtain ⟨ht, hr2⟩ := Out.ite_bad hr
       simp only [Bool.and_eq_true, decide_eq_true_eq] at ht
       obtain ⟨⟨rfl, rfl, rfl, rfl⟩, h1, h2⟩ := ht
       obtain ⟨rfl, _, _⟩ := unBri_ok hb
       obtain rfl := Option.some.inj hr2
       refine ⟨⟨L, q, q4⟩, ⟨b, ps, out, fl⟩, true, .at_ 8, .at_ 9, ⟨rfl, h1, h2, Nat.zero_le _⟩, rfl, fun E => ⟨⟨_, rfl, rfl⟩, ⟨_, rfl, rfl⟩, ⟨_, rfl, rfl⟩, ⟨_, rfl, rfl⟩, trivial⟩, BrAt.g ⟨fun k y hm => ?_, rfl, rfl, ⟨by decide, rfl⟩, ⟨by decide, rfl⟩, by decide⟩ (fix_conf (by decide : 0 < 8) L) (by decide) (by decide)⟩
       simp only [dnF, List.mem_cons, List.not_mem_nil, or_false, Prod.mk.injEq] at hm
       obtain ⟨rfl, rfl⟩ := hm
       rfl
     · cases ho
   · cases ho
 · rintro p s x i ⟨rfl, h1, h2, hi⟩
   rcases Nat.lt_or_ge i p.L.length with hlt | hge
   · have hl := enable_len s i false
     have hix : ixB s i = true := by simp only [ixB, Bool.and_eq_true, decide_eq_true_eq]; omega
     have hsel := Out.way_sel (dn_go S p s i) (by rw [decide_eq_true (by omega), bsT_true rfl hix hl.1])
     refine ⟨[1, 9, 12, 18], [0, 5, 2, 11, 12], .nrm, _, _, hsel, .inl ⟨rfl, (enableF s i false).1, true, .at_ 11, .at_ 12, ⟨rfl, h1, hl.1.trans h2, hlt⟩, by show p.L.length - (i + 1) < p.L.length - i; omega, ?_, fun E => ?_, ?_⟩⟩
     · rw [show p.L.length - i = (p.L.length - (i + 1)) + 1 from by omega]
       rfl
     · rw [wrap_succ (n := 1001) (by omega) (by omega)]
       exact ⟨⟨_, rfl, rfl⟩, ⟨_, rfl, rfl⟩, ⟨_, rfl, rfl⟩, ⟨_, rfl, rfl⟩, trivial⟩
     · refine ⟨fun k y hm => ?_, ?_, rfl, ⟨by decide, rfl⟩, ⟨by decide, rfl⟩, by decide⟩
       · simp only [dnF, List.mem_cons, List.not_mem_nil, or_false, Prod.mk.injEq] at hm
         obtain ⟨rfl, rfl⟩ := hm
         rfl
       · show some _ = some _
         rw [hl.1]
         rfl
   · have hsel := Out.way_sel (dn_end S p s i) (by rw [decide_eq_false (by omega)])
     refine ⟨[1, 9, 12, 18], [0, 5, 2, 8, 9], .exit 2, _, _, hsel, .inr ⟨rfl, by simp, ?_, fun E => ⟨⟨_, rfl, rfl⟩, ⟨_, rfl, rfl⟩, trivial⟩, ⟨fun k y hm => ?_, rfl, rfl, ⟨by decide, rfl⟩, ⟨by decide, rfl⟩, by decide⟩⟩⟩
     · rw [show p.L.length - i = 0 from by omega]; rfl
     · simp only [dnF, List.mem_cons, List.not_mem_nil, or_false, Prod.mk.injEq] at hm
       obtain ⟨rfl, rfl⟩ := hm
       rfl
def d5Sl (_ : Bool) (_ : Bool) (i : SV) : Slots := [(9, [], .kb true), (12, [], .ptr 5 0), (19, [], i)]
def d5E (_ : Bool) (_ : Bool) : Slots := [(9, [], .kb true), (12, [], .ptr 5 0)]
def secL : Nat → BS → BS
 | 0, s => s
 | n + 1, s => secL n (runF (tickF s)).1
 termination_by n _ => n
theorem secL_zero (s : BS) : secL 0 s = s := by rw [secL]
theorem secL_succ (n : Nat) (s : BS) : secL (n + 1) s = secL n (runF (tickF s)).1 := by rw [secL]
noncomputable def d5T (S : Stat) (q4 : Bool) (s : BS) (i : Nat) (ks : List Nat) : Out (Ex × St) := trimC [9, 12, 19] ks (exec (cTl (S.rd 0 2)) (fnOf 8).ntmps 60 (lpOf 8 2) ⟨d5Sl q4 true (.v (.int .i64 i)), brH [] 5 2 13 14 s q4, 15⟩)
theorem d5_go (S : Stat) (q4 : Bool) (s : BS) (i : Nat) : Out.way [true, true, true] (d5T S q4 s i [5, 2, 17, 18]) = some ([decide ((i : Int) < 5), bsT s.ps.length s (decide (s.ps.length < 134217728)) (tickF s).ps.length, bsT s.ps.length (tickF s) (roomRun (tickF s)) (runF (tickF s)).1.ps.length],
   (.nrm, ⟨d5Sl q4 true (.v (.int .i64 (IntKind.i64.wrap (i + 1)))), [(5, (runF (tickF s)).1.b.sv (.slr 2 s.ps.length 2 q4) (.slr 17 (runF (tickF s)).1.out.length 17 false) (.slr 18 (runF (tickF s)).1.fl.length 18 false)), (2, .rows (.port (runF (tickF s)).1.ps)), (17, .rows (.sent (runF (tickF s)).1.out)), (18, .rows (.int .i64 (runF (tickF s)).1.fl))], 0⟩)) := by kernel_rfl
theorem d5_end (S : Stat) (q4 : Bool) (s : BS) (i : Nat) : Out.way [false] (d5T S q4 s i [5, 2, 13, 14]) = some ([decide ((i : Int) < 5)], (.exit 4, ⟨d5Sl q4 true (.v (.int .i64 i)), brH [] 5 2 13 14 s q4, 0⟩)) := by kernel_rfl
def g5L : LoopFn := onTrimB 15 [9, 12, 19] fun st => match st with
 | ⟨[(9, [], .kb true), (12, [], .ptr 5 0), (19, [], .ki .i64 0)], [(0, _), (5, bx), (2, .rows (.port ps)), (11, _), (12, _), (14, .rows (.int .i64 fl)), (13, _)], _⟩ =>
   (match unBri bx with
   | some (b, .slr 2 n4 2 q4, .v (.slice none 0 0), .slr 14 n9 14 false) =>
       some (.ite (decide (n4 = ps.length ∧ n9 = fl.length) && decide (ps.length ≤ 1000 ∧ fl.length ≤ 50000000)) (.ret (.exit 4, ⟨d5E q4 true, brH [] 5 2 15 16 (secL 5 ⟨b, ps, [], fl⟩) q4, 17⟩)) .bad)
   | _ => none)
 | _ => none
def capB (i n : Nat) : Prop := n + (5 - i) * 8000000 ≤ 100000000
theorem capB_start {n : Nat} (h : n ≤ 50000000) : capB 0 n := by unfold capB; omega
theorem capB_next {i n m : Nat} (h : capB i n) (hi : i < 5) (hm : m ≤ n + 8000000) : capB (i + 1) m := by unfold capB at *; omega
theorem capB_room {i n : Nat} (h : capB i n) (hi : i < 5) : n ≤ 92000000 := by unfold capB at h; omega
theorem fix_nil {fx : Nat} : FixH fx [] := fun k x hm => by cases hm
theorem g5L_ok (S : Stat) (ls : List (Nat × LoopFn)) : LoopOk Tryz.prog (withLoops (cTl (S.rd 0 2)) ls) (fnOf 8).ntmps (lpOf 8 2) g5L := by
 refine loop_bs (π := Bool) cTl_fam (fuel := 60) (S.rd 0 2) (kb := 5) (kp := 2) (n2 := 13) (n3 := 14) (m2 := 15) (m3 := 16) (fx := 13) (nx := 15) (nx2 := 17) (ny := 15) (fun _ => []) (fun q => q) d5Sl d5E (.exit 4) (fun p s x i => x = true ∧ s.ps.length ≤ 1000 ∧ capB i s.out.length ∧ capB i s.fl.length ∧ i ≤ 5) (fun p s x i => 5 - i)
   (fun p s x i => (secL (5 - i) s, true)) (fun _ => fix_nil) (fun _ _ _ => rfl) (fun _ _ => rfl) (by decide) (by decide) (by decide) (by decide : 2 ≤ _) (rd_ro S 0 (by decide)) ?_ ?_
 · intro st o r ho hr
   split at ho
   · rename_i y0 bx ps y11 y12 fl y13 _
     split at ho
     · rename_i b n4 q4 n9 hb
       injection ho with ho
       subst ho
       obtain ⟨ht, hr2⟩ := Out.ite_bad hr
       simp only [Bool.and_eq_true, decide_eq_true_eq] at ht
       obtain ⟨⟨rfl, rfl⟩, h1, h2⟩ := ht
       obtain ⟨rfl, _, _⟩ := unBri_ok hb
       obtain rfl := Option.some.inj hr2
       refine ⟨q4, ⟨b, ps, [], fl⟩, true, .nil, .at_ 14, ⟨rfl, h1, capB_start (Nat.zero_le _), capB_start h2, Nat.zero_le _⟩, rfl, fun E => ⟨⟨_, rfl, rfl⟩, ⟨_, rfl, rfl⟩, ⟨_, rfl, rfl⟩, trivial⟩, BrAt.g (fx := 13) ⟨fun k y hm => (by cases hm), rfl, rfl, rfl, ⟨by decide, rfl⟩, by decide⟩ fix_nil (by decide) (by decide)⟩
     · cases ho
   · cases ho
 · rintro p s x i ⟨rfl, h1, h2, h3, hi⟩
   rcases Nat.lt_or_ge i 5 with hlt | hge
   · have hl := tick_len s
     have hr := runF_len (tickF s) (by rw [hl.1]; exact h1)
     rw [hl.1, hl.2.1, hl.2.2] at hr
     have e2 := capB_room h2 hlt
     have e3 := capB_room h3 hlt
     have hroom : roomRun (tickF s) = true := decide_eq_true ⟨by rw [hl.1]; exact h1, by rw [hl.2.1]; omega, by rw [hl.2.2]; omega⟩
     have hsel := Out.way_sel (d5_go S p s i) (by rw [decide_eq_true (by omega), bsT_true rfl (decide_eq_true (by omega)) hl.1, bsT_true hl.1.symm hroom (by rw [hl.1]; exact hr.1)])
     refine ⟨[9, 12, 19], [5, 2, 17, 18], .nrm, _, _, hsel, .inl ⟨rfl, (runF (tickF s)).1, true, .at_ 17, .at_ 18, ⟨rfl, by rw [hr.1]; exact h1, capB_next h2 hlt hr.2.1, capB_next h3 hlt hr.2.2, hlt⟩, by show 5 - (i + 1) < 5 - i; omega, ?_, fun E => ?_, ?_⟩⟩
     · rw [show 5 - i = (5 - (i + 1)) + 1 from by omega, secL_succ]
     · rw [wrap_succ (n := 1001) (by omega) (by omega)]
       exact ⟨⟨_, rfl, rfl⟩, ⟨_, rfl, rfl⟩, ⟨_, rfl, rfl⟩, trivial⟩
     · refine ⟨fun k y hm => (by cases hm), ?_, rfl, ⟨by decide, rfl⟩, ⟨by decide, rfl⟩, by decide⟩
       show some _ = some _
       rw [hr.1]
       rfl
   · have hsel := Out.way_sel (d5_end S p s i) (by rw [decide_eq_false (by omega)])
     refine ⟨[9, 12, 19], [5, 2, 13, 14], .exit 4, _, _, hsel, .inr ⟨rfl, by simp, ?_, fun E => ⟨⟨_, rfl, rfl⟩, ⟨_, rfl, rfl⟩, trivial⟩, ⟨fun k y hm => (by cases hm), rfl, rfl, ⟨by decide, rfl⟩, ⟨by decide, rfl⟩, by decide⟩⟩⟩
     rw [show 5 - i = 0 from by omega, secL_zero]
noncomputable def dwW (S : Stat) (y : T2P) : Out SV := valF 2 (inline (withLoops (cTl (S.rd 0 2)) [(5, gTold2), (21, gLowL), (27, g5L)]) 60 (fnOf 8) [.v (.bool y.p.rst), .slr 0 y.p.L.length 0 y.p.q, .slr 1 y.p.A.length 1 y.p.r, .v (.int .u8 y.x)] (tlHp y.p) 2)
theorem dw_far (S : Stat) (y : T2P) : Out.way [true] (dwW S y) = some ([rsG y.p], .kb true) := by kernel_rfl
theorem dw_told (S : Stat) (y : T2P) : Out.way [false, true, true] (dwW S y) = some ([rsG y.p, rsL y.p, y.p.A.any noTold], .kb true) := by kernel_rfl
def dwK (y : T2P) : Int := (IntKind.i64.wrap y.x).tmod y.p.L.length
def dw1 (y : T2P) : BS := (enableF (rsS y.p) (dwK y) false).1
def dw2 (y : T2P) : BS := (runF (dw1 y)).1
def dw3 (y : T2P) : BS := (runF (lowL y.p.L.length 0 (dw2 y))).1
def dw4 (y : T2P) : BS := secL 5 { dw3 y with out := [] }
def ixK (n : Nat) (k : Int) : Bool := decide (0 ≤ k) && decide (k < n)
def dwP (y : T2P) : Port := (dw2 y).ps.getD (dwK y).toNat Port.dflt
def dwBad (y : T2P) : Bool := (!((enableF (rsS y.p) (dwK y) false).2 == (portAt (rsS y.p) (dwK y)).enabled)) || (dwP y).role != 0 || (dwP y).flags.learning || (dwP y).flags.forwarding || (dwP y).flags.learn
def dwLo (y : T2P) : BS := lowL y.p.L.length 0 (dw2 y)
theorem dw_end (S : Stat) (y : T2P) : Out.way [false, true, false, true, false, true, true, true, true, true, true, true, false, true, true, true] (dwW S y) = some ([rsG y.p, rsL y.p, y.p.A.any noTold, rsV y.p, !(liveF y.p.rst y.p.L y.p.A).2 || ((rsS y.p).ps.length : Int) != y.p.L.length,
   !((y.p.L.length : Int) == 0), ixK (rsS y.p).ps.length (dwK y), decide ((dwK y).toNat < (rsS y.p).ps.length), bsT (rsS y.p).ps.length (rsS y.p) (ixB (rsS y.p) (dwK y)) (dw1 y).ps.length, bsT (rsS y.p).ps.length (dw1 y) (roomRun (dw1 y)) (dw2 y).ps.length,
   ixK (rsS y.p).ps.length (dwK y), decide ((dwK y).toNat < (dw2 y).ps.length), dwBad y,
   decide (y.p.L.length = y.p.L.length ∧ (rsS y.p).ps.length = (dw2 y).ps.length ∧ (dw2 y).out.length = (dw2 y).out.length ∧ (dw2 y).fl.length = (dw2 y).fl.length) && decide (y.p.L.length ≤ 1000 ∧ (dw2 y).ps.length = y.p.L.length),
   bsT (dwLo y).ps.length (dwLo y) (roomRun (dwLo y)) (dw3 y).ps.length, decide ((dwLo y).ps.length = (dw3 y).ps.length ∧ (dw3 y).fl.length = (dw3 y).fl.length) && decide ((dw3 y).ps.length ≤ 1000 ∧ (dw3 y).fl.length ≤ 50000000)],
   .v (.bool (((dw4 y).b.rootPort == -1 && (dw4 y).b.root.root == 7) && ((dw4 y).out.length : Int) == 0))) := by kernel_rfl
noncomputable def dwLs : List (Nat × LoopFn) := [(5, gTold2), (21, gLowL), (27, g5L)]
theorem dwLs_ok (S : Stat) : ∀ i k g, dwLs[i]? = some (k, g) → LoopOk Tryz.prog (withLoops (cTl (S.rd 0 2)) dwLs) (fnOf 8).ntmps (lpOf 8 i) g := by
 intro i k g hg
 match i, hg with
 | 0, hg => obtain ⟨rfl, rfl⟩ := Prod.mk.inj (Option.some.inj hg); exact gTold2_ok S _
 | 1, hg => obtain ⟨rfl, rfl⟩ := Prod.mk.inj (Option.some.inj hg); exact gLowL_ok S _
 | 2, hg => obtain ⟨rfl, rfl⟩ := Prod.mk.inj (Option.some.inj hg); exact g5L_ok S _
end Go.Proofs.YtjemfkoamfnofaaGreat
