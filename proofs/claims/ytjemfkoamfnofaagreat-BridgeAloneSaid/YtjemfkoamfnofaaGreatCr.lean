import Derived.Test.YtjemfkoamfnofaaGreatCl
set_option linter.unusedVariables false
set_option maxRecDepth 100000
namespace Go.Proofs.YtjemfkoamfnofaaGreat
open Go Go.RowKit
theorem runN_len5 : ∀ (n : Nat) (s : BS) (c : Int),s.ps.length ≤ 5 → (runN n s c).1.ps.length = s.ps.length ∧ (runN n s c).1.out.length ≤ s.out.length + 40 * n ∧ (runN n s c).1.fl.length ≤ s.fl.length + 40 * n
 | 0,s,c,_ => ⟨rfl,Nat.le_refl _,Nat.le_refl _⟩
 | n + 1,s,c,h => by
   obtain ⟨h1,h2,h3⟩ := roundF_len s
   unfold runN
   split
   · dsimp only; omega
   · obtain ⟨g1,g2,g3⟩ := runN_len5 n (roundF s).1 (IntKind.i64.wrap (c + (roundF s).2)) (by omega)
     omega
theorem runF_len5 (s : BS) (h : s.ps.length ≤ 5) : (runF s).1.ps.length = s.ps.length ∧ (runF s).1.out.length ≤ s.out.length + 40000 ∧ (runF s).1.fl.length ≤ s.fl.length + 40000 := runN_len5 1000 s 0 h
structure AlP where
 L : List Conf
 U : List Bool
 q : Bool
 r : Bool
 q4 : Bool
def alF (p : AlP) : Heap := [(0,.rows (.conf p.L)),(1,.rows (.bool p.U))]
def alE (p : AlP) (x : Bool) : Slots := [(1,[],.slr 0 p.L.length 0 p.q),(2,[],.slr 1 p.U.length 1 p.r),(7,[],.kb true),(8,[],.ptr 5 0),(9,[],.v (.bool x))]
def alSl (p : AlP) (x : Bool) (i : SV) : Slots := alE p x ++ [(10,[],i)]
def setUL (U : List Bool) : Nat → Nat → BS → BS
 | 0,_,s => s
 | n + 1,i,s => setUL U n (i + 1) (enableF s i (U.getD i false)).1
noncomputable def alT (S : Stat) (p : AlP) (s : BS) (x : Bool) (i : Nat) (ks : List Nat) : Out (Ex × St) := trimC [1,2,7,8,9,10] ks (exec (cTl (S.rd 0 2)) (fnOf 5).ntmps 60 (lpOf 5 0) ⟨alSl p x (.v (.int .i64 i)),brH (alF p) 5 2 6 7 s p.q4,8⟩)
theorem al_go (S : Stat) (p : AlP) (s : BS) (x : Bool) (i : Nat) : Out.way [true,true,true,true] (alT S p s x i [0,1,5,2,8,9]) = some ([decide ((i : Int) < p.L.length) && x,decide (0 ≤ (i : Int)) && decide ((i : Int) < p.U.length),decide ((i : Int).toNat < p.U.length),bsT s.ps.length s (ixB s i) (enableF s i (p.U.getD (i : Int).toNat false)).1.ps.length],
   (.nrm,⟨alSl p x (.v (.int .i64 (IntKind.i64.wrap (i + 1)))),[(0,.rows (.conf p.L)),(1,.rows (.bool p.U)),(5,(enableF s i (p.U.getD (i : Int).toNat false)).1.b.sv (.slr 2 s.ps.length 2 p.q4) (.slr 8 (enableF s i (p.U.getD (i : Int).toNat false)).1.out.length 8 false) (.slr 9 (enableF s i (p.U.getD (i : Int).toNat false)).1.fl.length 9 false)),(2,.rows (.port (enableF s i (p.U.getD (i : Int).toNat false)).1.ps)),(8,.rows (.sent (enableF s i (p.U.getD (i : Int).toNat false)).1.out)),(9,.rows (.int .i64 (enableF s i (p.U.getD (i : Int).toNat false)).1.fl))],0⟩)) := by kernel_rfl
theorem al_end (S : Stat) (p : AlP) (s : BS) (x : Bool) (i : Nat) : Out.way [false] (alT S p s x i [0,1,5,2,6,7]) = some ([decide ((i : Int) < p.L.length) && x],(.exit 0,⟨alSl p x (.v (.int .i64 i)),brH (alF p) 5 2 6 7 s p.q4,0⟩)) := by kernel_rfl
def gAlL : LoopFn := onTrimB 6 [1,2,7,8,9,10] fun st => match st with
 | ⟨[(1,[],.slr 0 n 0 q),(2,[],.slr 1 m 1 r),(7,[],.kb true),(8,[],.ptr 5 0),(9,[],.v (.bool rest)),(10,[],.ki .i64 0)],[(5,bx),(0,.rows (.conf L)),(1,.rows (.bool U)),(4,.rows (.int .i64 fl)),(3,.rows (.sent out)),(2,.rows (.port ps))],_⟩ =>
   (match unBri bx with
   | some (b,.slr 2 n4 2 q4,.slr 3 n8 3 false,.slr 4 n9 4 false) =>
       some (.ite (decide (n = L.length ∧ m = U.length ∧ n4 = ps.length ∧ n8 = out.length ∧ n9 = fl.length) && decide (rest = true ∧ L.length ≤ 1000 ∧ L.length ≤ U.length ∧ ps.length = L.length)) (.ret (.exit 0,⟨alE ⟨L,U,q,r,q4⟩ true,brH (alF ⟨L,U,q,r,q4⟩) 5 2 6 7 (setUL U L.length 0 ⟨b,ps,out,fl⟩) q4,8⟩)) .bad)
   | _ => none)
 | _ => none
theorem rd_ro2 (S : Stat) (i : Int) {m : Nat} (hm : 2 ≤ m) : ∀ k,m ≤ k → (S.rd i 2).ro k = false := by
 intro k hk
 show Nat.blt k 2 = false
 cases h : Nat.blt k 2 with
 | false => rfl
 | true => have := (by simpa using h : k < 2); omega
theorem fix_al {fx : Nat} (h : 1 < fx) (p : AlP) : FixH fx (alF p) := by
 intro k x hm
 simp only [alF,List.mem_cons,List.not_mem_nil,or_false,Prod.mk.injEq] at hm
 rcases hm with ⟨rfl,rfl⟩ | ⟨rfl,rfl⟩
 · exact ⟨by omega,fun _ _ _ _ => rfl,fun _ => trivial⟩
 · exact ⟨h,fun _ _ _ _ => rfl,fun _ => trivial⟩
theorem al_mem {p : AlP} {H : Heap} (h0 : H.get 0 = some (.rows (.conf p.L))) (h1 : H.get 1 = some (.rows (.bool p.U))) : ∀ k y,(k,y) ∈ alF p → H.get k = some y := by
 intro k y hm
 simp only [alF,List.mem_cons,List.not_mem_nil,or_false,Prod.mk.injEq] at hm
 rcases hm with ⟨rfl,rfl⟩ | ⟨rfl,rfl⟩
 · exact h0
 · exact h1
theorem al_fr {p : AlP} {k a b : Nat} (ha : 5 < a ∨ a = 3 ∨ a = 4) (hb : 5 < b ∨ b = 3 ∨ b = 4) (h : k = 5 ∨ k = 2 ∨ ∃ x,(k,x) ∈ alF p) : k ≠ a ∧ k ≠ b := by
 have : k = 5 ∨ k = 2 ∨ k = 0 ∨ k = 1 := by
   rcases h with h | h | ⟨x,h⟩
   · exact .inl h
   · exact .inr (.inl h)
   · simp only [alF,List.mem_cons,List.not_mem_nil,or_false,Prod.mk.injEq] at h
     omega
 omega
theorem gAlL_ok (S : Stat) (ls : List (Nat × LoopFn)) : LoopOk Tryz.prog (withLoops (cTl (S.rd 0 2)) ls) (fnOf 5).ntmps (lpOf 5 0) gAlL := by
 refine loop_bs (π := AlP) cTl_fam (fuel := 60) (S.rd 0 2) (kb := 5) (kp := 2) (n2 := 6) (n3 := 7) (m2 := 6) (m3 := 7) (fx := 6) (nx := 6) (nx2 := 8) (ny := 8) (lo := 2) alF (fun p => p.q4) alSl alE (.exit 0) (fun p s x i => x = true ∧ p.L.length ≤ 1000 ∧ p.L.length ≤ p.U.length ∧ s.ps.length = p.L.length ∧ i ≤ p.L.length) (fun p s x i => p.L.length - i)
   (fun p s x i => (setUL p.U (p.L.length - i) i s,true)) (fun p => fix_al (by decide) p) (fun _ _ _ => rfl) (fun _ _ => rfl) (by decide) (by decide) (by decide) (by decide) (rd_ro2 S 0 (by decide)) ?_ ?_
 · intro st o r ho hr
   split at ho
   · rename_i n q m r' rest bx L U fl out ps _
     split at ho
     · rename_i b n4 q4 n8 n9 hb
       injection ho with ho
       subst ho
       obtain ⟨ht,hr2⟩ := Out.ite_bad hr
       simp only [Bool.and_eq_true,decide_eq_true_eq] at ht
       obtain ⟨⟨rfl,rfl,rfl,rfl,rfl⟩,rfl,h1,h2,h3⟩ := ht
       obtain ⟨rfl,_,_⟩ := unBri_ok hb
       obtain rfl := Option.some.inj hr2
       exact ⟨⟨L,U,q,r',q4⟩,⟨b,ps,out,fl⟩,true,.at_ 3,.at_ 4,⟨rfl,h1,h2,h3,Nat.zero_le _⟩,rfl,fun E => ⟨⟨_,rfl,rfl⟩,⟨_,rfl,rfl⟩,⟨_,rfl,rfl⟩,⟨_,rfl,rfl⟩,⟨_,rfl,rfl⟩,⟨_,rfl,rfl⟩,trivial⟩,⟨al_mem rfl rfl,rfl,rfl,⟨by decide,rfl⟩,⟨by decide,rfl⟩,by decide,fun k hk => al_fr (.inr (.inl rfl)) (.inr (.inr rfl)) hk⟩⟩
     · cases ho
   · cases ho
 · rintro p s x i ⟨rfl,h1,hU,h2,hi⟩
   rcases Nat.lt_or_ge i p.L.length with hlt | hge
   · have hl := enable_len s i (p.U.getD (i : Int).toNat false)
     have hix : ixB s i = true := by simp only [ixB,Bool.and_eq_true,decide_eq_true_eq]; omega
     have hsel := Out.way_sel (al_go S p s true i) (by rw [decide_eq_true (by omega),decide_eq_true (by omega),decide_eq_true (by omega),decide_eq_true (by omega),bsT_true rfl hix hl.1]; rfl)
     refine ⟨[1,2,7,8,9,10],[0,1,5,2,8,9],.nrm,_,_,hsel,.inl ⟨rfl,(enableF s i (p.U.getD i false)).1,true,.at_ 8,.at_ 9,⟨rfl,h1,hU,hl.1.trans h2,hlt⟩,by show p.L.length - (i + 1) < p.L.length - i; omega,?_,fun E => ?_,?_⟩⟩
     · rw [show p.L.length - i = (p.L.length - (i + 1)) + 1 from by omega]
       rfl
     · rw [wrap_succ (n := 1001) (by omega) (by omega)]
       exact ⟨⟨_,rfl,rfl⟩,⟨_,rfl,rfl⟩,⟨_,rfl,rfl⟩,⟨_,rfl,rfl⟩,⟨_,rfl,rfl⟩,⟨_,rfl,rfl⟩,trivial⟩
     · refine ⟨al_mem rfl rfl,?_,rfl,⟨by decide,rfl⟩,⟨by decide,rfl⟩,by decide⟩
       have hl2 : (enableF s i (p.U.getD i false)).1.ps.length = s.ps.length := hl.1
       show some _ = some _
       rw [hl2]
       rfl
   · have hsel := Out.way_sel (al_end S p s true i) (by rw [decide_eq_false (by omega)]; rfl)
     refine ⟨[1,2,7,8,9,10],[0,1,5,2,6,7],.exit 0,_,_,hsel,.inr ⟨rfl,by simp,?_,fun E => ⟨⟨_,rfl,rfl⟩,⟨_,rfl,rfl⟩,⟨_,rfl,rfl⟩,⟨_,rfl,rfl⟩,⟨_,rfl,rfl⟩,trivial⟩,⟨al_mem rfl rfl,rfl,rfl,⟨by decide,rfl⟩,⟨by decide,rfl⟩,by decide⟩⟩⟩
     rw [show p.L.length - i = 0 from by omega]; rfl
def rndF (s : BS) : BS := { tickF (runF s).1 with out := [] }
def runT : Nat → BS × Bool → BS × Bool
 | 0,y => y
 | n + 1,y => if y.2 = true then runT n (rndF y.1,(runF y.1).2.2) else y
 termination_by n _ => n
theorem runT_zero (y : BS × Bool) : runT 0 y = y := by rw [runT]
theorem runT_succ (n : Nat) (s : BS) : runT (n + 1) (s,true) = runT n (rndF s,(runF s).2.2) := by rw [runT]; rfl
theorem runT_off (n : Nat) (s : BS) : runT n (s,false) = (s,false) := by
 cases n with
 | zero => exact runT_zero _
 | succ n => rw [runT]; rfl
def alS2 (p : AlP) (x : Bool) (i : SV) : Slots := alE p x ++ [(11,[],i)]
noncomputable def amT (S : Stat) (p : AlP) (s : BS) (x : Bool) (i : Nat) (ks : List Nat) : Out (Ex × St) := trimC [1,2,7,8,9,11] ks (exec (cTl (S.rd 0 2)) (fnOf 5).ntmps 60 (lpOf 5 1) ⟨alS2 p x (.v (.int .i64 i)),brH (alF p) 5 2 6 7 s p.q4,8⟩)
theorem am_end (S : Stat) (p : AlP) (s : BS) (x : Bool) (i : Nat) : Out.way [false] (amT S p s x i [0,1,5,2,6,7]) = some ([decide ((i : Int) < 38) && x],(.exit 2,⟨alS2 p x (.v (.int .i64 i)),brH (alF p) 5 2 6 7 s p.q4,0⟩)) := by kernel_rfl
def amC (s : BS) (x : Bool) (i : Nat) : List Bool := [decide ((i : Int) < 38) && x,bsT s.ps.length s (roomRun s) (runF s).1.ps.length,bsT s.ps.length (runF s).1 (decide ((runF s).1.ps.length < 134217728)) (tickF (runF s).1).ps.length]
theorem am_go (S : Stat) (p : AlP) (s : BS) (x : Bool) (i : Nat) : Out.way [true,true,true] (amT S p s x i [0,1,5,2,11]) = some (amC s x i,
   (.nrm,⟨alS2 p (runF s).2.2 (.v (.int .i64 (IntKind.i64.wrap (i + 1)))),[(0,.rows (.conf p.L)),(1,.rows (.bool p.U)),(5,(rndF s).b.sv (.slr 2 s.ps.length 2 p.q4) nil3 (.slr 11 (rndF s).fl.length 11 false)),(2,.rows (.port (rndF s).ps)),(11,.rows (.int .i64 (rndF s).fl))],0⟩)) := by kernel_rfl
def capA (i n : Nat) : Prop := n + (38 - i) * 40000 ≤ 100000000
theorem capA_start {n : Nat} (h : n ≤ 50000000) : capA 0 n := by unfold capA; omega
theorem capA_next {i n m : Nat} (h : capA i n) (hi : i < 38) (hm : m ≤ n + 40000) : capA (i + 1) m := by unfold capA at *; omega
theorem capA_room {i n : Nat} (h : capA i n) : n ≤ 100000000 := by unfold capA at h; omega
def gAmL : LoopFn := onTrimB 8 [1,2,7,8,9,11] fun st => match st with
 | ⟨[(1,[],.slr 0 n 0 q),(2,[],.slr 1 m 1 r),(7,[],.kb true),(8,[],.ptr 5 0),(9,[],.v (.bool rest)),(11,[],.ki .i64 0)],[(0,.rows (.conf L)),(1,.rows (.bool U)),(5,bx),(2,.rows (.port ps)),(6,.rows (.sent out)),(7,.rows (.int .i64 fl))],_⟩ =>
   (match unBri bx with
   | some (b,.slr 2 n4 2 q4,.slr 6 n8 6 false,.slr 7 n9 7 false) =>
       some (.ite (decide (n = L.length ∧ m = U.length ∧ n4 = ps.length ∧ n8 = out.length ∧ n9 = fl.length) && decide (ps.length ≤ 5 ∧ out.length ≤ 50000000 ∧ fl.length ≤ 50000000)) (.ret (.exit 2,⟨alE ⟨L,U,q,r,q4⟩ (runT 38 (⟨b,ps,out,fl⟩,rest)).2,brH (alF ⟨L,U,q,r,q4⟩) 5 2 8 9 (runT 38 (⟨b,ps,out,fl⟩,rest)).1 q4,10⟩)) .bad)
   | _ => none)
 | _ => none
theorem gAmL_ok (S : Stat) (ls : List (Nat × LoopFn)) : LoopOk Tryz.prog (withLoops (cTl (S.rd 0 2)) ls) (fnOf 5).ntmps (lpOf 5 1) gAmL := by
 refine loop_bs (π := AlP) cTl_fam (fuel := 60) (S.rd 0 2) (kb := 5) (kp := 2) (n2 := 6) (n3 := 7) (m2 := 8) (m3 := 9) (fx := 6) (nx := 8) (nx2 := 10) (ny := 8) (lo := 2) alF (fun p => p.q4) alS2 alE (.exit 2) (fun p s x i => s.ps.length ≤ 5 ∧ s.out.length ≤ 50000000 ∧ capA i s.fl.length ∧ i ≤ 38) (fun p s x i => 38 - i)
   (fun p s x i => runT (38 - i) (s,x)) (fun p => fix_al (by decide) p) (fun _ _ _ => rfl) (fun _ _ => rfl) (by decide) (by decide) (by decide) (by decide) (rd_ro2 S 0 (by decide)) ?_ ?_
 · intro st o r ho hr
   split at ho
   · rename_i n q m r' rest L U bx ps out fl _
     split at ho
     · rename_i b n4 q4 n8 n9 hb
       injection ho with ho
       subst ho
       obtain ⟨ht,hr2⟩ := Out.ite_bad hr
       simp only [Bool.and_eq_true,decide_eq_true_eq] at ht
       obtain ⟨⟨rfl,rfl,rfl,rfl,rfl⟩,h1,h2,h3⟩ := ht
       obtain ⟨rfl,_,_⟩ := unBri_ok hb
       obtain rfl := Option.some.inj hr2
       exact ⟨⟨L,U,q,r',q4⟩,⟨b,ps,out,fl⟩,rest,.at_ 6,.at_ 7,⟨h1,h2,capA_start h3,Nat.zero_le _⟩,rfl,fun E => ⟨⟨_,rfl,rfl⟩,⟨_,rfl,rfl⟩,⟨_,rfl,rfl⟩,⟨_,rfl,rfl⟩,⟨_,rfl,rfl⟩,⟨_,rfl,rfl⟩,trivial⟩,⟨al_mem rfl rfl,rfl,rfl,⟨by decide,rfl⟩,⟨by decide,rfl⟩,by decide,fun k hk => al_fr (.inl (by decide)) (.inl (by decide)) hk⟩⟩
     · cases ho
   · cases ho
 · rintro p s x i ⟨h1,h2,h3,hi⟩
   cases hx : decide (i < 38) && x with
   | true =>
     simp only [Bool.and_eq_true,decide_eq_true_eq] at hx
     obtain ⟨hlt,rfl⟩ := hx
     have hr := runF_len5 s h1
     have hl := tick_len (runF s).1
     have hroom : roomRun s = true := decide_eq_true ⟨by omega,by omega,capA_room h3⟩
     have hsel := Out.way_sel (am_go S p s true i) (by unfold amC; rw [decide_eq_true (by omega),bsT_true rfl hroom hr.1,bsT_true hr.1.symm (decide_eq_true (by omega)) hl.1]; rfl)
     have e2 : (rndF s).ps.length = s.ps.length := hl.1.trans hr.1
     have e3 : (rndF s).fl = (runF s).1.fl := hl.2.2
     refine ⟨[1,2,7,8,9,11],[0,1,5,2,11],.nrm,_,_,hsel,.inl ⟨rfl,rndF s,(runF s).2.2,.nil,.at_ 11,⟨by omega,Nat.zero_le _,capA_next h3 hlt (by rw [e3]; exact hr.2.2),hlt⟩,by show 38 - (i + 1) < 38 - i; omega,?_,fun E => ?_,?_⟩⟩
     · rw [show 38 - i = (38 - (i + 1)) + 1 from by omega,runT_succ]
     · rw [wrap_succ (n := 1001) (by omega) (by omega)]
       exact ⟨⟨_,rfl,rfl⟩,⟨_,rfl,rfl⟩,⟨_,rfl,rfl⟩,⟨_,rfl,rfl⟩,⟨_,rfl,rfl⟩,⟨_,rfl,rfl⟩,trivial⟩
     · refine ⟨al_mem rfl rfl,?_,rfl,rfl,⟨by decide,rfl⟩,by decide⟩
       show some _ = some _
       rw [e2]
       rfl
   | false =>
     have hc : (decide ((i : Int) < 38) && x) = false := by
       rw [show decide ((i : Int) < 38) = decide (i < 38) from by rw [decide_eq_decide]; omega]; exact hx
     have hsel := Out.way_sel (am_end S p s x i) (by rw [hc])
     refine ⟨[1,2,7,8,9,11],[0,1,5,2,6,7],.exit 2,_,_,hsel,.inr ⟨rfl,by simp,?_,fun E => ⟨⟨_,rfl,rfl⟩,⟨_,rfl,rfl⟩,⟨_,rfl,rfl⟩,⟨_,rfl,rfl⟩,⟨_,rfl,rfl⟩,trivial⟩,⟨al_mem rfl rfl,rfl,rfl,⟨by decide,rfl⟩,⟨by decide,rfl⟩,by decide⟩⟩⟩
     cases x with
     | false => exact runT_off _ _
     | true =>
       have : ¬ i < 38 := by simpa using hx
       rw [show 38 - i = 0 from by omega,runT_zero]
structure AfP where
 b : Bri
 ps : List Port
 U : List Bool
 lo : Nat
 lf : Nat
 q4 : Bool
 q : Bool
 r : Bool
 n : Nat
def afHp (p : AfP) : Heap := [(1,.rows (.bool p.U)),(5,p.b.sv (.slr 2 p.ps.length 2 p.q4) (.slr 10 p.lo 10 false) (.slr 11 p.lf 11 false)),(2,.rows (.port p.ps))]
def afE (p : AfP) : Slots := [(1,[],.slr 0 p.n 0 p.q),(2,[],.slr 1 p.U.length 1 p.r),(7,[],.kb true),(8,[],.ptr 5 0)]
def afSl (p : AfP) (i : SV) : Slots := afE p ++ [(14,[],i)]
noncomputable def afT (S : Stat) (p : AfP) (i : Nat) : Out (Ex × St) := trimO [1,2,6,7,8,14] 12 (exec (cTl (S.rd 0 2)) (fnOf 5).ntmps 60 (lpOf 5 2) ⟨afSl p (.v (.int .i64 i)),afHp p,12⟩)
def afBad (w : Int) (u : Bool) (a : Port) : Bool := (a.role != w || a.flags.forwarding != u) || a.flags.learning != u
def afCs (p : AfP) (i : Nat) (w : Int) : List Bool := [decide ((i : Int) < p.n),decide (0 ≤ (i : Int)) && decide ((i : Int) < p.ps.length),decide ((i : Int).toNat < p.ps.length),decide (0 ≤ (i : Int)) && decide ((i : Int) < p.U.length),decide ((i : Int).toNat < p.U.length),p.U.getD (i : Int).toNat false,
 (decide (0 ≤ (i : Int)) && decide ((i : Int) < p.U.length)) && (decide ((i : Int).toNat < p.U.length) && ((decide (0 ≤ (i : Int)) && decide ((i : Int) < p.U.length)) && decide ((i : Int).toNat < p.U.length))),afBad w (p.U.getD (i : Int).toNat false) (p.ps.getD (i : Int).toNat Port.dflt)]
def afNx (p : AfP) (i : Nat) : Ex × St := (.nrm,⟨afSl p (.v (.int .i64 (IntKind.i64.wrap (i + 1)))),afHp p,12⟩)
theorem af_1 (S : Stat) (p : AfP) (i : Nat) : Out.way [true,true,true,true,true,true,true,false] (afT S p i) = some (afCs p i 4,afNx p i) := by kernel_rfl
theorem af_0 (S : Stat) (p : AfP) (i : Nat) : Out.way [true,true,true,true,true,false,true,false] (afT S p i) = some (afCs p i 0,afNx p i) := by kernel_rfl
theorem af_end (S : Stat) (p : AfP) (i : Nat) : Out.way [false] (afT S p i) = some ([decide ((i : Int) < p.n)],(.exit 4,⟨afSl p (.v (.int .i64 i)),afHp p,12⟩)) := by kernel_rfl
def afW (u : Bool) : Int := if u = true then 4 else 0
def gAfL : LoopFn := onTrim 12 [1,2,7,8,14] fun st => match st with
 | ⟨[(1,[],.slr 0 n 0 q),(2,[],.slr 1 m 1 r),(7,[],.kb true),(8,[],.ptr 5 0),(14,[],.ki .i64 0)],[(0,_),(1,.rows (.bool U)),(5,bx),(2,.rows (.port ps)),(8,_),(9,_),(11,_),(10,_)],_⟩ =>
   (match unBri bx with
   | some (b,.slr 2 n4 2 q4,.slr 10 lo 10 false,.slr 11 lf 11 false) => some (.ite (decide (n = ps.length ∧ m = U.length ∧ n4 = ps.length ∧ ps.length ≤ 1000 ∧ ps.length ≤ U.length) && decide (∀ i,i < ps.length → afBad (afW (U.getD i false)) (U.getD i false) (ps.getD i Port.dflt) = false)) (.ret (.exit 4,⟨afE ⟨b,ps,U,lo,lf,q4,q,r,n⟩,afHp ⟨b,ps,U,lo,lf,q4,q,r,n⟩,12⟩)) .bad)
   | _ => none)
 | _ => none
theorem runL_go (fin : Unit → Ex × St) : ∀ (l : List Port) (i : Nat) (x : Unit),runL (fun i (p : Port) (x : Unit) => Step.go ()) fin l i x = fin ()
 | [],i,x => rfl
 | p :: r,i,x => by rw [runL]; exact runL_go fin r (i + 1) _
theorem afHp_re {S S' : Stat} (p : AfP) (E : Env) : ReHeap (afHp p) S S' E (afHp p) := ⟨⟨_,rfl,rfl,trivial⟩,⟨_,rfl,rfl,trivial⟩,⟨_,rfl,rfl,trivial⟩,trivial⟩
theorem gAfL_ok (S : Stat) (ls : List (Nat × LoopFn)) : LoopOk Tryz.prog (withLoops (cTl (S.rd 0 2)) ls) (fnOf 5).ntmps (lpOf 5 2) gAfL := by
 refine loop_trim cTl_fam (nx := 12) (fuel := 60) (ts := [1,2,6,7,8,14]) (π := AfP) (α := Port) (τ := Unit) (S.rd 0 2) (fun _ i => S.rd 0 2) (fun _ _ => rfl) (fun p => p.ps) (fun p i x => ⟨afSl p (.v (.int .i64 i)),afHp p,12⟩)
   (fun p i x => p.n = p.ps.length ∧ p.ps.length ≤ 1000 ∧ p.ps.length ≤ p.U.length ∧ ∀ i,i < p.ps.length → afBad (afW (p.U.getD i false)) (p.U.getD i false) (p.ps.getD i Port.dflt) = false) (fun p i a x => .go ()) (fun p x => (.exit 4,⟨afE p,afHp p,12⟩)) (fun _ _ _ => rfl) ?_ ?_ ?_
 · intro st o r ho hr
   split at ho
   · rename_i n q m r' y0 U bx ps y8 y9 y11 y10 _
     split at ho
     · rename_i b n4 q4 lo lf hb
       injection ho with ho
       subst ho
       have hh := Out.ite_bad hr
       have ht := hh.1
       simp only [Bool.and_eq_true,decide_eq_true_eq] at ht
       obtain ⟨⟨rfl,rfl,rfl,hlt,hU⟩,hno⟩ := ht
       obtain rfl := Option.some.inj hh.2
       obtain ⟨rfl,_,_⟩ := unBri_ok hb
       exact ⟨⟨b,ps,U,lo,lf,q4,q,r',ps.length⟩,(),⟨rfl,hlt,hU,hno⟩,(runL_go (fun x => (Ex.exit 4,(⟨afE ⟨b,ps,U,lo,lf,q4,q,r',ps.length⟩,afHp ⟨b,ps,U,lo,lf,q4,q,r',ps.length⟩,12⟩ : St))) ps 0 ()).symm,Nat.le_refl 12,fun E => ⟨⟨⟨_,rfl,rfl⟩,⟨_,rfl,rfl⟩,⟨_,rfl,rfl⟩,⟨_,rfl,rfl⟩,⟨_,rfl,rfl⟩,trivial⟩,⟨⟨_,rfl,rfl,trivial⟩,⟨_,rfl,rfl,trivial⟩,⟨_,rfl,rfl,trivial⟩,trivial⟩⟩⟩
     · cases ho
   · cases ho
 · intro p i a x ha hinv
   obtain ⟨hn,hlt,hU,hno⟩ := hinv
   have hi := (List.getElem?_eq_some_iff.1 ha).1
   have hb := hno i hi
   have hsel : (afT S p i).sel = some (afNx p i) := by
     cases hu : p.U.getD i false with
     | true =>
       rw [hu] at hb
       have hb : afBad 4 true (p.ps.getD i Port.dflt) = false := hb
       exact Out.way_sel (af_1 S p i) (by unfold afCs; rw [decide_eq_true (by omega),decide_eq_true (by omega),decide_eq_true (by omega),decide_eq_true (by omega),decide_eq_true (by omega),decide_eq_true (by omega),show (i : Int).toNat = i from rfl,hu,hb]; rfl)
     | false =>
       rw [hu] at hb
       have hb : afBad 0 false (p.ps.getD i Port.dflt) = false := hb
       exact Out.way_sel (af_0 S p i) (by unfold afCs; rw [decide_eq_true (by omega),decide_eq_true (by omega),decide_eq_true (by omega),decide_eq_true (by omega),decide_eq_true (by omega),decide_eq_true (by omega),show (i : Int).toNat = i from rfl,hu,hb]; rfl)
   refine ⟨.nrm,_,hsel,rfl,⟨hn,hlt,hU,hno⟩,fun E => ?_⟩
   rw [wrap_succ (n := 1001) (by omega) (by omega)]
   exact ⟨⟨⟨_,rfl,rfl⟩,⟨_,rfl,rfl⟩,⟨_,rfl,rfl⟩,⟨_,rfl,rfl⟩,⟨_,rfl,rfl⟩,trivial⟩,afHp_re _ E⟩
 · intro p x hinv
   exact ⟨.exit 4,_,Out.way_sel (af_end S p p.ps.length) (by rw [decide_eq_false (by have := hinv.1; omega)]),rfl,by simp,fun E => ⟨⟨⟨_,rfl,rfl⟩,⟨_,rfl,rfl⟩,⟨_,rfl,rfl⟩,⟨_,rfl,rfl⟩,trivial⟩,afHp_re _ E⟩⟩
structure AwP where
 L : List Conf
 U : List Bool
 q : Bool
 r : Bool
 rst : Bool
noncomputable def awW (S : Stat) (y : AwP) : Out SV := valF 2 (inline (withLoops (cTl (S.rd 0 2)) [(6,gAlL),(10,gAmL),(19,gAfL)]) 60 (fnOf 5) [.v (.bool y.rst),.slr 0 y.L.length 0 y.q,.slr 1 y.U.length 1 y.r] [(0,.rows (.conf y.L)),(1,.rows (.bool y.U))] 2)
def aw0 (y : AwP) : BS := (liveF y.rst y.L []).1
def awS (y : AwP) : BS := setUL y.U y.L.length 0 (aw0 y)
def aw1 (y : AwP) : BS × Bool := runT 38 (awS y,true)
def aw2 (y : AwP) : BS := (runF (aw1 y).1).1
def awG (y : AwP) : Bool := (decide ((y.L.length : Int) > 5) || decide ((y.L.length : Int) < 1)) || decide ((y.U.length : Int) < y.L.length)
theorem aw_far (S : Stat) (y : AwP) : Out.way [true] (awW S y) = some ([awG y],.kb true) := by kernel_rfl
theorem aw_end (S : Stat) (y : AwP) : Out.way [false,true,true,true,true,false,true] (awW S y) = some ([awG y,decide (y.L.length = y.L.length) && lvOk y.rst y.L [],
   decide (y.L.length = y.L.length ∧ y.U.length = y.U.length ∧ (aw0 y).ps.length = (aw0 y).ps.length ∧ (aw0 y).out.length = (aw0 y).out.length ∧ (aw0 y).fl.length = (aw0 y).fl.length) && decide ((liveF y.rst y.L []).2 = true ∧ y.L.length ≤ 1000 ∧ y.L.length ≤ y.U.length ∧ (aw0 y).ps.length = y.L.length),
   decide (y.L.length = y.L.length ∧ y.U.length = y.U.length ∧ (awS y).ps.length = (awS y).ps.length ∧ (awS y).out.length = (awS y).out.length ∧ (awS y).fl.length = (awS y).fl.length) && decide ((awS y).ps.length ≤ 5 ∧ (awS y).out.length ≤ 50000000 ∧ (awS y).fl.length ≤ 50000000),
   bsT (aw1 y).1.ps.length (aw1 y).1 (roomRun (aw1 y).1) (aw2 y).ps.length,(!(aw1 y).2 || !(runF (aw1 y).1).2.2) || ((aw1 y).1.ps.length : Int) != y.L.length,
   decide (y.L.length = (aw2 y).ps.length ∧ y.U.length = y.U.length ∧ (aw1 y).1.ps.length = (aw2 y).ps.length ∧ (aw2 y).ps.length ≤ 1000 ∧ (aw2 y).ps.length ≤ y.U.length) && decide (∀ i,i < (aw2 y).ps.length → afBad (afW (y.U.getD i false)) (y.U.getD i false) ((aw2 y).ps.getD i Port.dflt) = false)],
   .v (.bool (decide ((aw2 y).b.root = ⟨7,0,7,0,0⟩) && (aw2 y).b.rootPort == -1))) := by kernel_rfl
noncomputable def awLs : List (Nat × LoopFn) := [(6,gAlL),(10,gAmL),(19,gAfL)]
theorem awLs_ok (S : Stat) : ∀ i k g,awLs[i]? = some (k,g) → LoopOk Tryz.prog (withLoops (cTl (S.rd 0 2)) awLs) (fnOf 5).ntmps (lpOf 5 i) g := by
 intro i k g hg
 match i,hg with
 | 0,hg => obtain ⟨rfl,rfl⟩ := Prod.mk.inj (Option.some.inj hg); exact gAlL_ok S _
 | 1,hg => obtain ⟨rfl,rfl⟩ := Prod.mk.inj (Option.some.inj hg); exact gAmL_ok S _
 | 2,hg => obtain ⟨rfl,rfl⟩ := Prod.mk.inj (Option.some.inj hg); exact gAfL_ok S _
end Go.Proofs.YtjemfkoamfnofaaGreat
