import Derived.Test.YtjemfkoamfnofaaGreatCa
set_option linter.unusedVariables false
set_option maxRecDepth 100000
namespace Go.Proofs.YtjemfkoamfnofaaGreat
section
open Go Go.RowKit
noncomputable def psNw (S : Stat) : List (Nat × ReadFn) := auto ps0 S 23 :: auto psE S 22 :: (24, specRead (spc gCRight) S 3) :: (21, specRead (spc gRight) S 3) :: []
theorem psNw_ok (S : Stat) : ReadsOk S [] (psNw S) := .auto ps0_ok <| .auto psE_ok <| .cons (specRead_ok (fun S' => spc_ok cright_ok S') 3) <| .cons (specRead_ok (fun S' => spc_ok right_ok S') 3) <| .nil S []
noncomputable def cNw (S : Stat) : Ctx := mkCtx S [] (psNw S) [] 20 5
theorem cNw_fam : Fam cNw := mk_fam psNw (fun _ => []) 20 5 psNw_ok (fun _ _ _ h => by cases h)
def nil3 : SV := .v (.slice none 0 0)
def zBri : Bri := ⟨0, false, ⟨0, 0, 0, 0⟩, 0, ⟨0, 0, 0, 0, 0⟩, 0, ⟨0, 0, 0, 0⟩⟩
def briB : SV → Option Bri
 | .agg [.v (.int .u64 id), .v (.bool rst), .rcd (.times t), .v (.int .i64 hold), .rcd (.vec root), .ki .i64 rp, .rcd (.times rt), .v (.slice none 0 0), .v (.slice none 0 0), .v (.slice none 0 0)] => some ⟨id, rst, t, hold, root, rp, rt⟩
 | _ => none
def briZ : SV → Option Bri
 | .agg [.ki .u64 id, .kb rst, .rcd (.times t), .ki .i64 hold, .rcd (.vec root), .ki .i64 rp, .rcd (.times rt), .v (.slice none 0 0), .v (.slice none 0 0), .v (.slice none 0 0)] => some ⟨id, rst, t, hold, root, rp, rt⟩
 | _ => none
theorem briB_ok {x : SV} {b : Bri} (h : briB x = some b) (S S' : Stat) (E : Env) : x.cells S E = (b.sv nil3 nil3 nil3).cells S' E ∧ x.den S E = (b.sv nil3 nil3 nil3).den S' E := by
 unfold briB at h
 split at h
 · injection h with h; subst h; exact ⟨rfl, rfl⟩
 · cases h
theorem briZ_ok {x : SV} {b : Bri} (h : briZ x = some b) (S S' : Stat) (E : Env) : x.cells S E = (b.sv nil3 nil3 nil3).cells S' E ∧ x.den S E = (b.sv nil3 nil3 nil3).den S' E := by
 unfold briZ at h
 split at h
 · injection h with h; subst h; exact ⟨rfl, rfl⟩
 · cases h
def newQ (c : Conf) (rst : Bool) (t : Times) (e : Int) : Port := { Port.dflt with id := c.id, cost := c.cost, shared := c.shared, admin := c.admin, auto := c.auto, clocks := ⟨3, t.max, t.hello, 3, 0, 0, t.delay, 0, 0⟩, flags := { Port.dflt.flags with reselect := true, sync := true, reRoot := true, flush := true, newInfo := true, sendRst := rst, operEdge := c.admin }, states := { Port.dflt.states with edge := e } }
def newP (c : Conf) (rst : Bool) (t : Times) : Port := if c.admin = true then newQ c rst t 0 else newQ c rst t 1
def rzs {α : Type} (L : List Conf) : Nat → Out α → Out α
 | 0, o => o
 | n + 1, o => .ite (rz L) (rzs L n o) .bad
theorem rzs_sel {α : Type} (L : List Conf) : ∀ (n : Nat) (o : Out α), (rzs L n o).sel = o.sel
 | 0, o => rfl
 | n + 1, o => by simp [rzs, Out.sel, rz_true, rzs_sel L n o]
def inL5 (L : List Conf) (i : Nat) : Bool := decide (0 ≤ (i : Int)) && decide ((i : Int) < L.length)
def inR5 (L : List Conf) (i : Nat) : Bool := decide ((i : Int).toNat < (Rows.conf L).len)
def roomP (ps : List Port) : Bool := decide (ps.length = (Rows.port ps).len ∧ (Rows.port ps).len ≤ 134217727)
def nwSt (L : List Conf) (R : List Port) (z b : Bri) (t : Times) (rst q : Bool) (k nx : Nat) (i : SV) : BSt := ⟨⟨[(1, [], .v (.bool rst)), (7, [], .ptr 1 0), (10, [], .ptr 2 0), (12, [], .ptr 3 0), (23, [], .slr 0 L.length 0 q), (24, [], .v (.int .i64 L.length)), (25, [], i)], [(0, .rows (.conf L)), (1, .rcd (.times t)), (2, z.sv nil3 nil3 nil3), (3, b.sv (tok k R.length) nil3 nil3)], nx⟩, k, .port R⟩
theorem nw_run (S : Stat) (L : List Conf) (i : Nat) (q : Bool) (z b : Bri) (ps : List Port) (rst : Bool) (t : Times) : trimB [1, 7, 10, 12, 23, 24, 25] 4 (execB (cNw (S.rd i 1)) (fnOf 11).ntmps 20 60 (lpOf 11 0) (nwSt L ps z b t rst q 4 5 (.v (.int .i64 i)))) =
   rzs L 1 (.ite (decide ((i : Int) < L.length)) (.ite (inL5 L i) (.ite (inR5 L i) (rzs L 3 (.ite (roomP ps) (rzs L 2
     (.ret (.nrm, nwSt L (ps ++ [newP (L.getD i Conf.dflt) rst t]) z b t rst q 7 4 (.v (.int .i64 (IntKind.i64.wrap (i + 1))))))) .bad)) .bad) .bad) (.ret (.exit 0, nwSt L ps z b t rst q 4 4 (.v (.int .i64 i))))) := by kernel_rfl
end
section
open Go Go.RowKit
structure NwP where
 L : List Conf
 q : Bool
 z : Bri
 b : Bri
 t : Times
 rst : Bool
def newPs (L : List Conf) (rst : Bool) (t : Times) : List Port := L.map fun c => newP c rst t
theorem goL_map {α β : Type} (f : α → β) : ∀ (l : List α) (i : Nat) (x : List β), goL (fun _ a (R : List β) => R ++ [f a]) l i x = x ++ l.map f
 | [], i, x => by simp [goL]
 | a :: r, i, x => by rw [goL, goL_map f r (i + 1)]; simp
def nwFin (p : NwP) (R : List Port) : BSt := ⟨⟨[(10, [], .ptr 2 0), (12, [], .ptr 3 0)], [(2, p.z.sv nil3 nil3 nil3), (3, p.b.sv (tok 4 R.length) nil3 nil3)], 5⟩, 4, .port R⟩
def gNwL : LoopFn := onTrimB 4 [1, 7, 10, 12, 23, 24, 25] fun st => match st with
 | ⟨[(1, [], .v (.bool rst)), (7, [], .ptr 1 0), (10, [], .ptr 2 0), (12, [], .ptr 3 0), (23, [], .slr 0 n 0 q), (24, [], .v (.int .i64 l)), (25, [], .ki .i64 0)], [(3, bx), (2, zx), (1, .rcd (.times t)), (0, .rows (.conf L))], _⟩ => (match briB bx, briZ zx with
   | some b, some z => some (.ite (decide (n = L.length ∧ n ≤ 1000 ∧ l = n)) (.ret (.exit 0, (nwFin ⟨L, q, z, b, t, rst⟩ (newPs L rst t)).adopt)) .bad)
   | _, _ => none)
 | _ => none
theorem new_cells {S S' : Stat} {E : Env} {b : Bri} {k : Nat} (hE : E.cp k = (0, true)) : (b.sv nil3 nil3 nil3).cells S E = (b.sv (tok k 0) nil3 nil3).cells S' E := by
 simp [Bri.sv, nil3, tok, SV.cells, SV.cellss, hE]
theorem bri_to {S S' : Stat} {E1 E2 : Env} {b : Bri} {k k' n : Nat} (ha : E2.ad k' = E1.ad k) (hc : E2.cp k' = E1.cp k) : (b.sv (tok k n) nil3 nil3).cells S E1 = (b.sv (tok k' n) nil3 nil3).cells S' E2 := by
 simp [Bri.sv, nil3, tok, SV.cells, SV.cellss, Env.place, ha, hc]
theorem inL5_true {L : List Conf} {i : Nat} (h : i < L.length) : inL5 L i = true := by simp only [inL5, Bool.and_eq_true, decide_eq_true_eq]; omega
theorem inR5_true {L : List Conf} {i : Nat} (h : i < L.length) : inR5 L i = true := by simp only [inR5, decide_eq_true_eq]; show (i : Int).toNat < L.length; omega
theorem roomP_true {ps : List Port} (h : ps.length ≤ 134217727) : roomP ps = true := decide_eq_true ⟨rfl, h⟩
theorem gNwL_ok (S : Stat) (ls : List (Nat × LoopFn)) : LoopOk Tryz.prog (withLoops (cNw (S.rd 0 1)) ls) (fnOf 11).ntmps (lpOf 11 0) gNwL := by
 refine loop_build cNw_fam (nx := 4) (fuel := 20) (e := 60) (ts := [1, 7, 10, 12, 23, 24, 25]) (π := NwP) (α := Conf) (τ := List Port) (S.rd 0 1) (fun _ i => S.rd i 1) (fun _ _ => rfl) (fun p => p.L) (fun p i R => nwSt p.L R p.z p.b p.t p.rst p.q 4 5 (.v (.int .i64 i)))
   (fun p i R => p.L.length ≤ 1000 ∧ R.length = i) (fun p _ a R => R ++ [newP a p.rst p.t]) (.exit 0) nwFin (fun _ _ _ => ⟨rfl, rfl⟩) (fun _ _ => ⟨rfl, rfl⟩) (fun _ _ => rfl) ?_ ?_ ?_
 · intro st o r ho hr
   split at ho
   · rename_i rst n q l bx zx t L _
     split at ho
     · rename_i b z hb hz
       injection ho with ho
       subst ho
       have hh := Out.ite_bad hr
       obtain ⟨rfl, hlt, rfl⟩ := of_decide_eq_true hh.1
       obtain rfl := Option.some.inj hh.2
       refine ⟨⟨L, q, z, b, t, rst⟩, [], ⟨hlt, rfl⟩, rfl, by rw [goL_map, List.nil_append]; rfl, fun E hE => ⟨?_, ?_⟩⟩
       · exact ⟨⟨_, rfl, rfl⟩, ⟨_, rfl, rfl⟩, ⟨_, rfl, rfl⟩, ⟨_, rfl, rfl⟩, ⟨_, rfl, rfl⟩, ⟨_, rfl, rfl⟩, ⟨_, rfl, rfl⟩, trivial⟩
       · refine ⟨⟨_, rfl, rfl, trivial, rfl⟩, ⟨_, rfl, rfl, trivial, rfl⟩, ⟨_, rfl, (briZ_ok hz _ _ _).1, trivial, rfl⟩, ⟨_, rfl, ?_, trivial, rfl⟩, trivial⟩
         rw [(briB_ok hb _ (S.rd 0 1) _).1]
         exact new_cells hE
     · cases ho
   · cases ho
 · intro p i a R he hinv
   obtain ⟨h1, h2⟩ := hinv
   have hi := (List.getElem?_eq_some_iff.1 he).1
   have e1 : p.L.getD i Conf.dflt = a := by simp [List.getD, he]
   have hii : (i : Int) < p.L.length := by omega
   have hsel := congrArg Out.sel (nw_run S p.L i p.q p.z p.b R p.rst p.t)
   simp only [Out.sel, rzs_sel, inL5_true hi, inR5_true hi, roomP_true (ps := R) (by omega), hii, decide_true, if_true, e1] at hsel
   refine ⟨_, hsel, ⟨h1, by simp [h2]⟩, rfl, fun E1 E2 hu ha hc => ?_⟩
   rw [wrap_succ (n := 1001) (by omega) (by omega)]
   have h0 := hu 0 (by omega)
   have h1 := hu 1 (by omega)
   have h2 := hu 2 (by omega)
   have h3 := hu 3 (by omega)
   exact ⟨⟨⟨_, rfl, rfl⟩, ⟨_, rfl, by simp [SV.den, Env.place, h1]⟩, ⟨_, rfl, by simp [SV.den, Env.place, h2]⟩, ⟨_, rfl, by simp [SV.den, Env.place, h3]⟩, ⟨_, rfl, by simp [SV.den, Env.place, h0]⟩, ⟨_, rfl, rfl⟩, ⟨_, rfl, rfl⟩, trivial⟩,
     ⟨⟨_, rfl, rfl, trivial, h0.1⟩, ⟨_, rfl, rfl, trivial, h1.1⟩, ⟨_, rfl, rfl, trivial, h2.1⟩, ⟨_, rfl, bri_to ha hc, trivial, h3.1⟩, trivial⟩⟩
 · intro p R hinv
   have hn : ¬ ((p.L.length : Nat) : Int) < p.L.length := by omega
   have hsel := congrArg Out.sel (nw_run S p.L p.L.length p.q p.z p.b R p.rst p.t)
   simp only [Out.sel, rzs_sel, hn, decide_false, if_true, if_false, Bool.false_eq_true] at hsel
   refine ⟨_, hsel, by simp, rfl, fun E1 E2 hu ha hc => ?_⟩
   have h2 := hu 2 (by omega)
   have h3 := hu 3 (by omega)
   exact ⟨⟨⟨_, rfl, by simp [SV.den, Env.place, h2]⟩, ⟨_, rfl, by simp [SV.den, Env.place, h3]⟩, trivial⟩, ⟨⟨_, rfl, rfl, trivial, h2.1⟩, ⟨_, rfl, bri_to ha hc, trivial, h3.1⟩, trivial⟩⟩
end
section
open Go Go.RowKit
def newB (id : Int) (rst : Bool) (t : Times) (hold : Int) : Bri := ⟨id, rst, t, hold, ownOf id, -1, t⟩
def newOf (R : Bri → List Port → Bool) (id : Int) (rst : Bool) (t : Times) (hold : Int) (L : List Conf) : Bri × List Port × Bool :=
 if R (newB id rst t hold) (newPs L rst t) = true then (newB id rst t hold, newPs L rst t, true) else (zBri, [], false)
def zV : SV := .agg [.ki .u64 0, .kb false, .rcd (.times ⟨0, 0, 0, 0⟩), .ki .i64 0, .rcd (.vec ⟨0, 0, 0, 0, 0⟩), .ki .i64 0, .rcd (.times ⟨0, 0, 0, 0⟩), nil3, nil3, nil3]
def lenP (ps : List Port) : Bool := decide (ps.length = ps.length ∧ ps.length < 9223372036854775808)
def newT (R : Bri → List Port → Bool) (c1 : Bool) (id : Int) (rst : Bool) (t : Times) (hold : Int) (L : List Conf) : Out (SV × Heap × Nat) :=
 .ite c1 (.ite (lenP (newPs L rst t)) (.ite (!(R (newB id rst t hold) (newPs L rst t))) (.ret (.tup [zV, .kb false], [(4, .rows (.port (newPs L rst t)))], 0))
   (.ret (.tup [(newB id rst t hold).sv (tok 4 (newPs L rst t).length) nil3 nil3, .kb true], [(4, .rows (.port (newPs L rst t)))], 0))) .bad) .bad
theorem new_run (S : Stat) (id : Int) (rst : Bool) (t : Times) (hold : Int) (L : List Conf) (q : Bool) : trimR [4] (inline (withLoops (cNw (S.rd 0 1)) [(3, gNwL)]) 60 (fnOf 11) [.v (.int .u64 id), .v (.bool rst), .rcd (.times t), .v (.int .i64 hold), .slr 0 L.length 0 q] [(0, .rows (.conf L))] 1) =
   newT cRightF (decide (L.length = L.length ∧ L.length ≤ 1000 ∧ (L.length : Int) = L.length)) id rst t hold L := by kernel_rfl
theorem newPs_length (L : List Conf) (rst : Bool) (t : Times) : (newPs L rst t).length = L.length := by simp [newPs]
theorem newT_sel {R : Bri → List Port → Bool} {c1 : Bool} {id : Int} {rst : Bool} {t : Times} {hold : Int} {L : List Conf} (h1 : c1 = true) (h : L.length ≤ 1000) : ∃ v, (newT R c1 id rst t hold L).sel = some (v, [(4, .rows (.port (newPs L rst t)))], 0) ∧
   ((R (newB id rst t hold) (newPs L rst t) = true ∧ v = .tup [(newB id rst t hold).sv (tok 4 (newPs L rst t).length) nil3 nil3, .kb true]) ∨ (R (newB id rst t hold) (newPs L rst t) = false ∧ v = .tup [zV, .kb false])) := by
 subst h1
 have h2 : lenP (newPs L rst t) = true := decide_eq_true ⟨rfl, by rw [newPs_length]; omega⟩
 unfold newT
 simp only [Out.sel, h2, if_true]
 cases R (newB id rst t hold) (newPs L rst t)
 · exact ⟨_, rfl, .inr ⟨rfl, rfl⟩⟩
 · exact ⟨_, rfl, .inl ⟨rfl, rfl⟩⟩
def newH (ps : List Port) (n : Nat) : Heap := [(n, .rows (.port ps)), (n + 1, .rows (.sent [])), (n + 2, .rows (.int .i64 []))]
def newV (x : Bri × List Port × Bool) (n : Nat) : SV := .tup [x.1.sv (.slr n x.2.1.length n false) (.slr (n + 1) 0 (n + 1) false) (.slr (n + 2) 0 (n + 2) false), .v (.bool x.2.2)]
def gNewA (R : Bri → List Port → Bool) : CanonFn := fun ro args H m => match args, H with
 | [.v (.int .u64 id), .v (.bool rst), .rcd (.times t), .v (.int .i64 hold), .slr 0 n 0 q], [(0, .rows (.conf L))] => bif Nat.beq m 1 then .ite (decide (n = L.length ∧ n ≤ 1000)) (.ret (newV (newOf R id rst t hold L) 1, (0, .rows (.conf L)) :: newH (newOf R id rst t hold L).2.1 1, 4)) .bad else .bad
 | _, _ => .bad
theorem gNewA_some {R : Bri → List Port → Bool} {ro : Nat → Bool} {args : List SV} {H : Heap} {m : Nat} {r : SV × Heap × Nat} (h : (gNewA R ro args H m).sel = some r) :
   ∃ id rst t hold L q, args = [.v (.int .u64 id), .v (.bool rst), .rcd (.times t), .v (.int .i64 hold), .slr 0 L.length 0 q] ∧ H = [(0, .rows (.conf L))] ∧ m = 1 ∧ L.length ≤ 1000 ∧ r = (newV (newOf R id rst t hold L) 1, (0, .rows (.conf L)) :: newH (newOf R id rst t hold L).2.1 1, 4) := by
 unfold gNewA at h
 split at h
 · rename_i id rst t hold n q L
   cases hm : Nat.beq m 1 with
   | false => rw [hm] at h; cases h
   | true =>
     rw [hm] at h
     simp only [cond_true] at h
     obtain ⟨ht, h2⟩ := Out.ite_bad h
     obtain ⟨rfl, hlt⟩ := of_decide_eq_true ht
     obtain rfl := Option.some.inj h2
     exact ⟨id, rst, t, hold, L, q, rfl, rfl, by simpa using hm, hlt, rfl⟩
 · cases h
def newE (E : Env) (k : Nat) (z : Bool) : Env := { ad := fun j => if j = 1 then E.ad k else E.ad j, cp := fun j => if j = 1 then (if z = true then (0, true) else E.cp k) else if 2 ≤ j then (0, true) else E.cp j }
theorem newE_upto (E : Env) (k : Nat) (z : Bool) : Env.upto 1 E (newE E k z) := by
 intro j hj
 have h1 : j ≠ 1 := by omega
 have h2 : ¬ 2 ≤ j := by omega
 simp [newE, h1, h2]
theorem newA_ok {R : Bri → List Port → Bool} {f : FuncId} {fn : Func} (hf : Tryz.prog.funcs[f]? = some fn) (hname : ((fnOf f).name == "runtime.NumGoroutine") = false)
   (hrun : ∀ (S : Stat) (id : Int) (rst : Bool) (t : Times) (hold : Int) (L : List Conf) (q : Bool), L.length ≤ 1000 → ∃ c c1, GoodCtx c (fnOf f) ∧ c.S = S.rd 0 1 ∧ c1 = true ∧
     trimR [4] (inline c 60 (fnOf f) [.v (.int .u64 id), .v (.bool rst), .rcd (.times t), .v (.int .i64 hold), .slr 0 L.length 0 q] [(0, .rows (.conf L))] 1) = newT R c1 id rst t hold L) : CanonOk f (gNewA R) := by
 refine canon_new hf hname fun S args H m r hr => ?_
 obtain ⟨id, rst, t, hold, L, q, rfl, rfl, rfl, hlt, rfl⟩ := gNewA_some hr
 obtain ⟨c, c1, hgood, hcS, h1, hrun⟩ := hrun S id rst t hold L q hlt
 obtain ⟨v, hv, hcase⟩ := newT_sel (R := R) (id := id) (rst := rst) (t := t) (hold := hold) h1 hlt
 rw [← hrun] at hv
 obtain ⟨H1, m1, hinl, hget⟩ := trimR_sel hv
 have k0 : ∀ k x, Heap.get [(0, SV.rows (.conf L))] k = some x → k = 0 ∧ x = .rows (.conf L) := by
   intro k x hk
   rw [Heap.get_cons] at hk
   split at hk
   · rename_i h; exact ⟨h, (Option.some.inj hk).symm⟩
   · cases hk
 have k1 : ∀ (ps : List Port) k x, Heap.get ((0, SV.rows (.conf L)) :: newH ps 1) k = some x → (k = 0 ∧ x = .rows (.conf L)) ∨ (k = 1 ∧ x = .rows (.port ps)) ∨ (k = 2 ∧ x = .rows (.sent [])) ∨ (k = 3 ∧ x = .rows (.int .i64 [])) := by
   intro ps k x hk
   unfold newH at hk
   simp only [Heap.get_cons] at hk
   split at hk
   · rename_i h; exact .inl ⟨h, (Option.some.inj hk).symm⟩
   · split at hk
     · rename_i h; exact .inr (.inl ⟨h, (Option.some.inj hk).symm⟩)
     · split at hk
       · rename_i h; exact .inr (.inr (.inl ⟨h, (Option.some.inj hk).symm⟩))
       · split at hk
         · rename_i h; exact .inr (.inr (.inr ⟨h, (Option.some.inj hk).symm⟩))
         · cases hk
 refine ⟨by show 1 ≤ 4; decide, fun k x hk => ?_, fun k x hk => ?_, fun E => ⟨c, 60, _, _, (v, H1, m1), hgood, fun k x hk => ?_, hinl, ?_, ?_, fun E' hu => ⟨newE E' 4 (!(newOf R id rst t hold L).2.2), fun k => if k = 1 then 4 else k, newE_upto _ _ _, ?_, fun k x hk hmk => ?_, fun k k' x x' hne hk hk' h1 h1' => ?_⟩⟩⟩
 · rcases k1 _ k x hk with ⟨rfl, rfl⟩ | ⟨rfl, rfl⟩ | ⟨rfl, rfl⟩ | ⟨rfl, rfl⟩
   · exact .inl rfl
   all_goals exact .inr (by decide)
 · obtain ⟨rfl, rfl⟩ := k0 k x hk
   exact ⟨by decide, rfl⟩
 · obtain ⟨rfl, rfl⟩ := k0 k x hk
   rw [hcS]; rfl
 · rw [hcS]
   exact dens_cons rfl (dens_cons rfl (dens_cons rfl (dens_cons rfl (dens_cons rfl (dens_nil _ _ _ _)))))
 · exact ⟨⟨_, rfl, rfl, trivial⟩, trivial⟩
 · rcases hcase with ⟨hR, rfl⟩ | ⟨hR, rfl⟩
   · have : newOf R id rst t hold L = (newB id rst t hold, newPs L rst t, true) := if_pos hR
     rw [this]
     simp [newV, newE, SV.den, SV.dens, Bri.sv, SV.cellss, SV.cells, nil3, tok, Env.place, SV.aggr]
   · have : newOf R id rst t hold L = (zBri, [], false) := if_neg (by rw [hR]; decide)
     rw [this]
     simp [newV, newE, SV.den, SV.dens, Bri.sv, SV.cellss, SV.cells, nil3, tok, Env.place, SV.aggr, zV, zBri]
 · rcases k1 _ k x hk with ⟨rfl, rfl⟩ | ⟨rfl, rfl⟩ | ⟨rfl, rfl⟩ | ⟨rfl, rfl⟩
   · exact absurd hmk (by decide)
   · refine ⟨trivial, ?_⟩
     rcases hcase with ⟨hR, rfl⟩ | ⟨hR, rfl⟩
     · have : newOf R id rst t hold L = (newB id rst t hold, newPs L rst t, true) := if_pos hR
       rw [this]
       exact .inr ⟨by rw [hcS]; rfl, _, hget 4 _ rfl, rfl, rfl, rfl⟩
     · have : newOf R id rst t hold L = (zBri, [], false) := if_neg (by rw [hR]; decide)
       rw [this]
       exact .inl rfl
   · exact ⟨trivial, .inl rfl⟩
   · exact ⟨trivial, .inl rfl⟩
 · dsimp only
   rcases k1 _ k x hk with ⟨rfl, rfl⟩ | ⟨rfl, rfl⟩ | ⟨rfl, rfl⟩ | ⟨rfl, rfl⟩ <;> rcases k1 _ k' x' hk' with ⟨rfl, rfl⟩ | ⟨rfl, rfl⟩ | ⟨rfl, rfl⟩ | ⟨rfl, rfl⟩ <;> first | omega | (simp)
theorem newA_nw : CanonOk 11 (gNewA cRightF) := newA_ok Tryz.func11 (by kernel_rfl) fun S id rst t hold L q hlt => ⟨_, _, good_loops cNw_fam (S.rd 0 1) [(3, gNwL)] (by kernel_rfl) rfl (fun i k g hg => by
   match i, hg with
   | 0, hg => obtain ⟨rfl, rfl⟩ := Prod.mk.inj (Option.some.inj hg); exact gNwL_ok S _), cNw_fam.S _, decide_eq_true ⟨rfl, hlt, rfl⟩, new_run S id rst t hold L q⟩
theorem canon_pre {f : FuncId} {g g' : CanonFn} (hg : CanonOk f g) (h : ∀ (S : Stat) args H m r', (g' S.ro args H m).sel = some r' → m ≤ r'.2.2 ∧ ∃ (S0 : Stat) (args0 : List SV) (H0 : Heap) (m0 : Nat) (r : SV × Heap × Nat), (g S0.ro args0 H0 m0).sel = some r ∧
   ∀ E, ∃ E0, SV.dens S E args = SV.dens S0 E0 args0 ∧ (∀ w, HS S E H w → HS S0 E0 H0 w) ∧ (∀ b j, MH S0 E0 H0 b j → MH S E H b j) ∧ ∀ E', Env.upto m0 E0 E' → ∃ (E'' : Env) (ρ : Nat → Nat), Env.upto m E E'' ∧ r.1.den S0 E' = r'.1.den S E'' ∧
     (∀ k x, r'.2.1.get k = some x → x.foOk S ∧ (x.size = 0 ∨ ∃ x', r.2.1.get (ρ k) = some x' ∧ x'.size = x.size ∧ x'.cells S0 E' = x.cells S E'' ∧ E'.ad (ρ k) = E''.ad k ∧ (S.ro k = false → S0.ro (ρ k) = false))) ∧
     (∀ k k' x x', k ≠ k' → r'.2.1.get k = some x → r'.2.1.get k' = some x' → 0 < x.size → 0 < x'.size → ρ k ≠ ρ k')) : CanonOk f g' := by
 intro S args H m v H' m' hr
 obtain ⟨hmm, S0, args0, H0, m0, r, hrg, hE⟩ := h S args H m _ hr
 dsimp only at hmm
 obtain ⟨hfn, hw⟩ := hg S0 args0 H0 m0 r.1 r.2.1 r.2.2 hrg
 refine ⟨hfn, fun E w hs => ?_⟩
 obtain ⟨E0, hargs, hHS, hMH, hfin⟩ := hE E
 rw [hargs]
 refine (hw E0 w (hHS w hs)).mono ?_
 rintro e w' ⟨E', hu, hle, rfl, hs', hfr, hown⟩
 obtain ⟨E'', ρ, hu2, hden, hget, hinj⟩ := hfin E' hu
 refine ⟨E'', hu2, hmm, by rw [hden], ⟨fun k x hk hp => ?_, fun k x hk hp hnt hr => ?_, fun k k' x x' hne hk hk' hp hp' hr => ?_, fun k x hk => (hget k x hk).1⟩, hfr.mono fun b j _ hm => hMH b j hm, fun k x hk hr => ?_⟩
 · rcases (hget k x hk).2 with h0 | ⟨x', h1, h2, h3, h4, _⟩
   · omega
   · rw [← h4, ← h3]; exact hs'.at_ _ x' h1 (by omega)
 · rcases (hget k x hk).2 with h0 | ⟨x', h1, h2, h3, h4, h5⟩
   · omega
   · rw [← h4]; exact hs'.wr _ x' h1 (by omega) (by rw [h3]; exact hnt) (h5 hr)
 · rcases (hget k x hk).2 with h0 | ⟨y, h1, h2, h3, h4, h5⟩
   · omega
   · rcases (hget k' x' hk').2 with h0 | ⟨y', g1, g2, g3, g4, g5⟩
     · omega
     · rw [← h4, ← g4, ← h2, ← g2]
       exact hs'.dis _ _ y y' (hinj k k' x x' hne hk hk' hp hp') h1 g1 (by omega) (by omega) (h5 hr)
 · rcases (hget k x hk).2 with h0 | ⟨y, h1, h2, h3, h4, h5⟩
   · exact .inr fun j hj => by omega
   · rw [← h4, ← h2]
     rcases hown _ y h1 (h5 hr) with h | h
     · exact .inl h
     · exact .inr fun j hj => hMH _ _ (h j hj)
def oneC : SV → Option Conf
 | .agg [.rcd (.conf c)] => some c
 | .rows (.conf [c]) => some c
 | .rcd (.conf c) => some c
 | _ => none
theorem oneC_ok {x : SV} {c : Conf} (h : oneC x = some c) (S S' : Stat) (E : Env) : x.cells S E = (SV.rows (.conf [c])).cells S' E := by
 unfold oneC at h
 split at h
 · injection h with h; subst h; simp [SV.cells, SV.cellss, Rows.cells, Rec.cells]
 · injection h with h; subst h; rfl
 · injection h with h; subst h; simp [SV.cells, Rows.cells, Rec.cells]
 · cases h
def gNew (R : Bri → List Port → Bool) : CanonFn := fun ro args H m => match args, H with
 | [.v (.int .u64 id), .v (.bool rst), .rcd (.times t), .v (.int .i64 hold), .v (.slice none 0 0)], [] => bif Nat.beq m 0 then .ret (newV (newOf R id rst t hold []) 0, newH (newOf R id rst t hold []).2.1 0, 3) else .bad
 | [.v (.int .u64 id), .v (.bool rst), .rcd (.times t), .v (.int .i64 hold), .slc 0 0 1 1], [(0, x)] => (match oneC x with
   | some c => bif Nat.beq m 1 then .ret (newV (newOf R id rst t hold [c]) 1, (0, x) :: newH (newOf R id rst t hold [c]).2.1 1, 4) else .bad
   | none => .bad)
 | _, _ => gNewA R ro args H m
theorem newH_get {ps : List Port} {n k : Nat} {x : SV} (hk : (newH ps n).get k = some x) : (k = n ∧ x = .rows (.port ps)) ∨ (k = n + 1 ∧ x = .rows (.sent [])) ∨ (k = n + 2 ∧ x = .rows (.int .i64 [])) := by
 unfold newH at hk
 simp only [Heap.get_cons] at hk
 split at hk
 · rename_i h; exact .inl ⟨h, (Option.some.inj hk).symm⟩
 · split at hk
   · rename_i h; exact .inr (.inl ⟨h, (Option.some.inj hk).symm⟩)
   · split at hk
     · rename_i h; exact .inr (.inr ⟨h, (Option.some.inj hk).symm⟩)
     · cases hk
theorem gnew_ok {R : Bri → List Port → Bool} {f : FuncId} (hA : CanonOk f (gNewA R)) : CanonOk f (gNew R) := by
 refine canon_pre hA fun S args H m r' hr => ?_
 unfold gNew at hr
 split at hr
 · rename_i id rst t hold
   cases hm : Nat.beq m 0 with
   | false => rw [hm] at hr; cases hr
   | true =>
     rw [hm] at hr
     obtain rfl := Option.some.inj hr
     have hm0 : m = 0 := by simpa using hm
     subst hm0
     refine ⟨Nat.zero_le _, { sl := S.sl, ix := S.ix, ro := fun k => match k with | 0 => false | k + 1 => S.ro k }, [.v (.int .u64 id), .v (.bool rst), .rcd (.times t), .v (.int .i64 hold), .slr 0 0 0 false], [(0, .rows (.conf []))], 1, _, rfl, fun E => ⟨{ ad := fun k => match k with | 0 => default | k + 1 => E.ad k, cp := fun k => match k with | 0 => (0, true) | k + 1 => E.cp k }, ?_, fun w hw => ?_, fun b j hh => ?_, fun E' hu => ⟨{ ad := fun k => E'.ad (k + 1), cp := fun k => E'.cp (k + 1) }, fun k => k + 1, fun k hk => absurd hk (by omega), ?_, fun k x hk => ?_, fun k k' x x' hne _ _ _ _ => by show k + 1 ≠ k' + 1; omega⟩⟩⟩
     · simp [SV.dens, SV.den]
     · refine ⟨fun k x hk hp => ?_, fun k x hk hp hnt hr => ?_, fun k k' x x' hne hk hk' hp hp' hr => ?_, fun k x hk => ?_⟩
       all_goals
         rw [Heap.get_cons] at hk
         split at hk
       all_goals first | (cases hk; done) | skip
       · obtain rfl := Option.some.inj hk; exact absurd hp (by show ¬ 0 < 0; decide)
       · obtain rfl := Option.some.inj hk; exact absurd hp (by show ¬ 0 < 0; decide)
       · obtain rfl := Option.some.inj hk; exact absurd hp (by show ¬ 0 < 0; decide)
       · obtain rfl := Option.some.inj hk; exact trivial
     · obtain ⟨k, x, hk, _, _, h1, h2⟩ := hh
       rw [Heap.get_cons] at hk
       split at hk
       · obtain rfl := Option.some.inj hk
         have : (SV.rows (.conf [])).size = 0 := rfl
         omega
       · cases hk
     · simp [newV, SV.den, SV.dens, Bri.sv, SV.cellss, SV.cells, Env.place, SV.aggr]
     · dsimp only at hk
       rcases newH_get hk with ⟨rfl, rfl⟩ | ⟨rfl, rfl⟩ | ⟨rfl, rfl⟩
       · exact ⟨trivial, .inr ⟨_, rfl, rfl, rfl, rfl, fun h => h⟩⟩
       · exact ⟨trivial, .inl rfl⟩
       · exact ⟨trivial, .inl rfl⟩
 · rename_i id rst t hold x
   split at hr
   · rename_i c hc
     cases hm : Nat.beq m 1 with
     | false => rw [hm] at hr; cases hr
     | true =>
       rw [hm] at hr
       obtain rfl := Option.some.inj hr
       have hm0 : m = 1 := by simpa using hm
       subst hm0
       have hcell := oneC_ok hc
       have hsz : (SV.rows (.conf [c])).size = x.size := (size_of_cells (hcell S S ⟨fun _ => default, fun _ => default⟩)).symm
       have k1 : ∀ (ps : List Port) (y : SV) k z, Heap.get ((0, y) :: newH ps 1) k = some z → (k = 0 ∧ z = y) ∨ (newH ps 1).get k = some z ∧ k ≠ 0 := by
         intro ps y k z hk
         rw [Heap.get_cons] at hk
         split at hk
         · rename_i h; exact .inl ⟨h, (Option.some.inj hk).symm⟩
         · rename_i h; exact .inr ⟨hk, h⟩
       have k0 : ∀ (y : SV) k z, Heap.get [(0, y)] k = some z → k = 0 ∧ z = y := by
         intro y k z hk
         rw [Heap.get_cons] at hk
         split at hk
         · rename_i h; exact ⟨h, (Option.some.inj hk).symm⟩
         · cases hk
       have hfo : ∀ S : Stat, x.foOk S := by
         intro S
         unfold oneC at hc
         split at hc
         · trivial
         · trivial
         · trivial
         · cases hc
       have hb : ∀ {E E' : Env}, x.cells S E = x.cells S E' := by
         intro E E'
         rw [hcell S S E, hcell S S E']; rfl
       refine ⟨by show 1 ≤ 4; decide, S, [.v (.int .u64 id), .v (.bool rst), .rcd (.times t), .v (.int .i64 hold), .slr 0 1 0 true], [(0, .rows (.conf [c]))], 1, (newV (newOf R id rst t hold [c]) 1, (0, .rows (.conf [c])) :: newH (newOf R id rst t hold [c]).2.1 1, 4), rfl, fun E => ⟨E, ?_, fun w hw => ?_, fun b j hh => ?_, fun E' hu => ⟨E', fun k => k, hu, rfl, fun k z hk => ?_, fun k k' x x' hne _ _ _ _ => hne⟩⟩⟩
       · simp only [SV.dens, SV.den, Env.place]
         cases (E.cp 0).2 <;> rfl
       · exact hw.re (H0 := [(0, .rows (.conf [c]))]) ⟨⟨_, rfl, hcell S S E, trivial⟩, trivial⟩ fun _ _ _ h => h
       · obtain ⟨k, z, hk, hr, h0, h1, h2⟩ := hh
         obtain ⟨rfl, rfl⟩ := k0 _ k z hk
         exact ⟨0, x, rfl, hr, h0, h1, by rw [← hsz]; exact h2⟩
       · dsimp only at hk
         rcases k1 _ _ k z hk with ⟨rfl, rfl⟩ | ⟨hk, hne⟩
         · exact ⟨hfo S, .inr ⟨_, rfl, hsz, (hcell S S E').symm, rfl, fun h => h⟩⟩
         · refine ⟨?_, .inr ⟨z, ?_, rfl, rfl, rfl, fun h => h⟩⟩
           · rcases newH_get hk with ⟨rfl, rfl⟩ | ⟨rfl, rfl⟩ | ⟨rfl, rfl⟩ <;> trivial
           · rw [Heap.get_cons, if_neg hne]; exact hk
   · cases hr
 · have ho := gNewA_some hr
   obtain ⟨id, rst, t, hold, L, q, rfl, rfl, rfl, hlt, rfl⟩ := ho
   refine ⟨by show 1 ≤ 4; decide, S, _, _, 1, _, hr, fun E => ⟨E, rfl, fun w hw => hw, fun b j hh => hh, fun E' hu => ⟨E', fun k => k, hu, rfl, fun k z hk => ?_, fun k k' x x' hne _ _ _ _ => hne⟩⟩⟩
   dsimp only at hk
   refine ⟨?_, .inr ⟨z, hk, rfl, rfl, rfl, fun h => h⟩⟩
   rw [Heap.get_cons] at hk
   split at hk
   · obtain rfl := Option.some.inj hk; trivial
   · rcases newH_get hk with ⟨rfl, rfl⟩ | ⟨rfl, rfl⟩ | ⟨rfl, rfl⟩ <;> trivial
theorem bnew_ok : CanonOk 11 (gNew cRightF) := gnew_ok newA_nw
end
section
open Go Go.RowKit
structure SameP where
 a : Bri
 b : Bri
 ps : List Port
 ps' : List Port
 os : List Sent
 os' : List Sent
 fs : List Int
 fs' : List Int
 q1 : Bool
 q2 : Bool
 q3 : Bool
 q4 : Bool
 q5 : Bool
 q6 : Bool
def lensOk (l : List (Nat × Nat)) : Prop := ∀ x ∈ l, x.1 = x.2
instance (l : List (Nat × Nat)) : Decidable (lensOk l) := by unfold lensOk; infer_instance
noncomputable def ssAw (S : Stat) : List (Nat × SpecFn) := (11, spc (gNew cRightF) S) :: (17, spc gRun S) :: (18, spc gEnable S) :: []
theorem ssAw_ok (S : Stat) : ∀ f g, (f, g) ∈ ssAw S → SpecOk S [] f g := specs_cons (spc_ok bnew_ok S) <| specs_cons (spc_ok run_ok S) <| specs_cons (spc_ok enable_ok S) specs_nil
noncomputable def cAw (S : Stat) : Ctx := mkCtx S [] [] (ssAw S) 60 5
theorem cAw_fam : Fam cAw := mk_fam (fun _ => []) ssAw 60 5 (fun _ _ _ h => by cases h) ssAw_ok
theorem aw_run (S : Stat) : (valF 0 (inline (withLoops (cAw (S.rd 0 0)) []) 60 (fnOf 10) [] [] 0)).sel = some (.v (.bool true)) := by kernel_rfl
def gAw : CanonFn := fun ro args H m => match args with
 | [] => .ret (.kb true, H, m)
 | _ => .bad
theorem aw_ok : CanonOk 10 gAw := by
 refine canon_rd cAw_fam Tryz.func10 (by kernel_rfl) [] (by kernel_rfl) rfl 0 (fun S i k g hg => by cases hg) ?_
 intro S args H m r hr
 unfold gAw at hr
 split at hr
 · obtain rfl := Option.some.inj hr
   exact ⟨rfl, rfl, fun E => ⟨S, 60, [], [], _, rfl, aw_run S, rfl, trivial, rfl⟩⟩
 · cases hr
end
end Go.Proofs.YtjemfkoamfnofaaGreat
