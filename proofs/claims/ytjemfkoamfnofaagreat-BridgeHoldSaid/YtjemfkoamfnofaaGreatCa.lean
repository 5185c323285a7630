import Derived.Test.YtjemfkoamfnofaaGreatBr
set_option linter.unusedVariables false
set_option maxRecDepth 100000
namespace Go.Proofs.YtjemfkoamfnofaaGreat
section
open Go Go.RowKit
theorem canon_new {f : FuncId} {fn : Func} (hf : Tryz.prog.funcs[f]? = some fn) (hname : ((fnOf f).name == "runtime.NumGoroutine") = false) {g : CanonFn}
   (h : ∀ (S : Stat) args H m r, (g S.ro args H m).sel = some r → m ≤ r.2.2 ∧ (∀ k x, r.2.1.get k = some x → H.get k = some x ∨ m ≤ k) ∧ (∀ k x, H.get k = some x → k < m ∧ x.bnd m = true) ∧ ∀ E, ∃ (c : Ctx) (fuel : Nat) (args0 : List SV) (H0 : Heap) (q : SV × Heap × Nat), GoodCtx c (fnOf f) ∧ (∀ k x, H0.get k = some x → c.S.ro k = true) ∧
     (inline c fuel (fnOf f) args0 H0 m).sel = some q ∧ SV.dens S E args = SV.dens c.S E args0 ∧ ReHeap H S c.S E H0 ∧ ∀ E', Env.upto m E E' → ∃ (E'' : Env) (ρ : Nat → Nat), Env.upto m E' E'' ∧ q.1.den c.S E' = r.1.den S E'' ∧
       (∀ k x, r.2.1.get k = some x → m ≤ k → x.foOk S ∧ (x.size = 0 ∨ c.S.ro (ρ k) = false ∧ ∃ x', q.2.1.get (ρ k) = some x' ∧ x'.size = x.size ∧ x'.cells c.S E' = x.cells S E'' ∧ E'.ad (ρ k) = E''.ad k)) ∧
       (∀ k k' x x', k ≠ k' → r.2.1.get k = some x → r.2.1.get k' = some x' → m ≤ k → m ≤ k' → ρ k ≠ ρ k')) : CanonOk f g := by
 intro S args H m v H' m' hr
 obtain ⟨hmm, hold, hbnd, hE⟩ := h S args H m _ hr
 dsimp only at hmm
 have hfn : FnIn Tryz.prog f := by
   have E0 : Env := ⟨fun _ => default, fun _ => default⟩
   obtain ⟨c, fuel, args0, H0, q, hgood, _, hq, _⟩ := hE E0
   exact (good_ok (fnOf_eq hf) hname hgood (v := q.1) (H' := q.2.1) (m' := q.2.2) hq).1
 refine ⟨hfn, fun E w hs => ?_⟩
 obtain ⟨c, fuel, args0, H0, q, hgood, hro, hq, hargs, hre, hfin⟩ := hE E
 have hw := (good_ok (fnOf_eq hf) hname hgood (v := q.1) (H' := q.2.1) (m' := q.2.2) hq).2
 have hMH : ∀ b j, ¬ MH c.S E H0 b j := by
   rintro b j ⟨k, z, hk, hr, _⟩
   rw [hro k z hk] at hr; cases hr
 rw [hargs]
 refine (hw E w (hs.re hre fun k x hk hh => by rw [hro k x hk] at hh; cases hh)).mono ?_
 rintro e w' ⟨E', hu, hle, rfl, hs', hfr, hown⟩
 obtain ⟨E'', ρ, hu2, hden, hget, hinj⟩ := hfin E' hu
 have hfr0 : Fr w w' (fun _ _ => False) := hfr.mono fun b j _ hh => hMH b j hh
 have huu : Env.upto m E E'' := hu.trans hu2 (Nat.le_refl _)
 have hnew : ∀ k x, H'.get k = some x → m ≤ k → 0 < x.size → w.heap.size ≤ (E''.ad k).block := by
   intro k x hk hmk hp
   rcases (hget k x hk hmk).2 with h0 | ⟨hr, x', h1, h2, h3, h4⟩
   · omega
   · rw [← h4]
     rcases hown _ x' h1 hr with h | h
     · exact h
     · exact absurd (h 0 (by omega)) (hMH _ _)
 have hlt : ∀ k x, H.get k = some x → 0 < x.size → (E''.ad k).block < w.heap.size := fun k x hk hp => by
   rw [(huu k (hbnd k x hk).1).1]
   exact (hs.at_ k x hk hp).lt
 refine ⟨E'', huu, hmm, by rw [hden], ⟨fun k x hk hp => ?_, fun k x hk hp hnt hr => ?_, fun k k' x x' hne hk hk' hp hp' hr => ?_, fun k x hk => ?_⟩, hfr0.mono fun b j _ hh => hh.elim, fun k x hk hr => ?_⟩
 · rcases Nat.lt_or_ge k m with hkm | hkm
   · have hH := (hold k x hk).resolve_right (by omega)
     rw [(huu k hkm).1, SV.cells_upto S huu x (hbnd k x hH).2]
     exact (hs.at_ k x hH hp).fr hfr0 (fun _ _ h => h)
   · rcases (hget k x hk hkm).2 with h0 | ⟨hr, x', h1, h2, h3, h4⟩
     · omega
     · rw [← h4, ← h3]; exact hs'.at_ _ x' h1 (by omega)
 · rcases Nat.lt_or_ge k m with hkm | hkm
   · have hH := (hold k x hk).resolve_right (by omega)
     rw [(huu k hkm).1]
     rw [SV.cells_upto S huu x (hbnd k x hH).2] at hnt
     exact (hs.wr k x hH hp hnt hr).fr hfr0
   · rcases (hget k x hk hkm).2 with h0 | ⟨hr', x', h1, h2, h3, h4⟩
     · omega
     · rw [← h4]; exact hs'.wr _ x' h1 (by omega) (by rw [h3]; exact hnt) hr'
 · have apart_lt : ∀ {a b : Addr} {n1 n2 : Nat}, a.block ≠ b.block → apart a n1 b n2 := fun {a b n1 n2} hh => .inl hh
   rcases Nat.lt_or_ge k m with hkm | hkm
   · have hH := (hold k x hk).resolve_right (by omega)
     rcases Nat.lt_or_ge k' m with hkm' | hkm'
     · have hH' := (hold k' x' hk').resolve_right (by omega)
       rw [(huu k hkm).1, (huu k' hkm').1]
       exact hs.dis k k' x x' hne hH hH' hp hp' hr
     · have a1 := hlt k x hH hp
       have a2 := hnew k' x' hk' hkm' hp'
       exact apart_lt (by omega)
   · rcases Nat.lt_or_ge k' m with hkm' | hkm'
     · have hH' := (hold k' x' hk').resolve_right (by omega)
       have a1 := hlt k' x' hH' hp'
       have a2 := hnew k x hk hkm hp
       exact apart_lt (by omega)
     · rcases (hget k x hk hkm).2 with h0 | ⟨hr', y, h1, h2, h3, h4⟩
       · omega
       · rcases (hget k' x' hk' hkm').2 with h0 | ⟨hr'', y', g1, g2, g3, g4⟩
         · omega
         · rw [← h4, ← g4, ← h2, ← g2]
           exact hs'.dis _ _ y y' (hinj k k' x x' hne hk hk' hkm hkm') h1 g1 (by omega) (by omega) hr'
 · rcases Nat.lt_or_ge k m with hkm | hkm
   · exact hs.fo k x ((hold k x hk).resolve_right (by omega))
   · exact (hget k x hk hkm).1
 · rcases Nat.lt_or_ge k m with hkm | hkm
   · have hH := (hold k x hk).resolve_right (by omega)
     refine .inr fun j hj => ⟨k, x, hH, hr, ?_, ?_, ?_⟩
     · rw [(huu k hkm).1]
     · rw [(huu k hkm).1]; omega
     · rw [(huu k hkm).1]; omega
   · rcases Nat.eq_zero_or_pos x.size with h0 | hp
     · exact .inr fun j hj => by omega
     · exact .inl (hnew k x hk hkm hp)
end
section
open Go Go.RowKit
noncomputable def cS0 (S : Stat) : Ctx := mkCtx S [] [] [] 20 5
theorem cS0_fam : Fam cS0 := mk_fam (fun _ => []) (fun _ => []) 20 5 (fun _ _ _ h => by cases h) (fun _ _ _ h => by cases h)
def suSt (L R : List Conf) (b : Nat) (q : Bool) (i : SV) : BSt := ⟨⟨[(0, [], .slr 0 L.length 0 q), (3, [], tok b R.length), (4, [], i)], [(0, .rows (.conf L))], 2⟩, b, .conf R⟩
def rz (L : List Conf) : Bool := (!true || (true && Nat.beq (SV.rows (.conf L)).size (SV.rows (.conf L)).size)) && true
theorem rz_true (L : List Conf) : rz L = true := by simp [rz]
def ix5 (L : List Conf) (i : Nat) : Bool := (decide (0 ≤ (i : Int)) && decide ((i : Int) < L.length)) && (decide ((i : Int).toNat < (Rows.conf L).len) && ((decide (0 ≤ (i : Int)) && decide ((i : Int) < L.length)) && (decide ((i : Int).toNat < (Rows.conf L).len) && ((decide (0 ≤ (i : Int)) && decide ((i : Int) < L.length)) && (decide ((i : Int).toNat < (Rows.conf L).len) && ((decide (0 ≤ (i : Int)) && decide ((i : Int) < L.length)) && (decide ((i : Int).toNat < (Rows.conf L).len) && ((decide (0 ≤ (i : Int)) && decide ((i : Int) < L.length)) && decide ((i : Int).toNat < (Rows.conf L).len)))))))))
theorem ix5_true {L : List Conf} {i : Nat} (h : i < L.length) : ix5 L i = true := by
 have h1 : (i : Int) < L.length := by omega
 have h2 : (i : Int).toNat < (Rows.conf L).len := by show (i : Int).toNat < L.length; omega
 simp only [ix5, h1, h2, decide_true, show decide (0 ≤ (i : Int)) = true from by simp, Bool.and_self]
def suS1 (L R : List Conf) (b : Nat) (q : Bool) (i : SV) (n : Nat) : BSt := ⟨⟨[(0, [], .slr 0 L.length 0 q), (3, [], tok b R.length), (4, [], i)], [(0, .rows (.conf L))], n⟩, b, .conf R⟩
theorem su_run (S : Stat) (L R : List Conf) (i : Nat) (q : Bool) : trimB [0, 3, 4] 1 (execB (cS0 (S.rd i 1)) (fnOf 12).ntmps 20 73 (lpOf 12 0) (suSt L R 1 q (.v (.int .i64 i)))) =
   .ite (rz L) (.ite (decide ((i : Int) < L.length)) (.ite (ix5 L i) (.ite (rz L) (.ite (rz L) (.ite (decide (R.length = (Rows.conf R).len ∧ (Rows.conf R).len ≤ 134217727)) (.ite (rz L) (.ite (rz L) (.ret (.nrm, suS1 L (R ++ [L.getD i Conf.dflt]) 3 q (.v (.int .i64 (IntKind.i64.wrap (i + 1)))) 1)) .bad) .bad) .bad) .bad) .bad) .bad) (.ret (.exit 0, suS1 L R 1 q (.v (.int .i64 i)) 1))) .bad := by kernel_rfl
theorem goL_copy {α : Type} : ∀ (l : List α) (i : Nat) (x : List α), goL (fun _ a (R : List α) => R ++ [a]) l i x = x ++ l
 | [], i, x => by simp [goL]
 | a :: r, i, x => by rw [goL, goL_copy r (i + 1)]; simp
structure SuP where
 L : List Conf
 q : Bool
def suFin (p : SuP) (R : List Conf) : BSt := ⟨⟨[(3, [], tok 1 R.length)], [(0, .rows (.conf p.L))], 2⟩, 1, .conf R⟩
def gSuL : LoopFn := onTrimB 1 [0, 3, 4] fun st => match st with
 | ⟨[(0, [], .slr 0 n 0 q), (3, [], .v (.slice none 0 0)), (4, [], .ki .i64 0)], [(0, .rows (.conf L))], _⟩ => some (.ite (decide (n = L.length ∧ n ≤ 1000)) (.ret (.exit 0, (suFin ⟨L, q⟩ L).adopt)) .bad)
 | _ => none
theorem gSuL_ok (S : Stat) (ls : List (Nat × LoopFn)) : LoopOk Tryz.prog (withLoops (cS0 (S.rd 0 1)) ls) (fnOf 12).ntmps (lpOf 12 0) gSuL := by
 refine loop_build cS0_fam (nx := 1) (fuel := 20) (e := 73) (ts := [0, 3, 4]) (π := SuP) (α := Conf) (τ := List Conf) (S.rd 0 1) (fun _ i => S.rd i 1) (fun _ _ => rfl) (fun p => p.L) (fun p i R => suSt p.L R 1 p.q (.v (.int .i64 i)))
   (fun p i R => p.L.length ≤ 1000 ∧ R.length = i) (fun p _ a R => R ++ [a]) (.exit 0) suFin (fun _ _ _ => ⟨rfl, rfl⟩) (fun _ _ => ⟨rfl, rfl⟩) (fun _ _ => rfl) ?_ ?_ ?_
 · intro st o r ho hr
   split at ho
   · rename_i n q L _
     injection ho with ho
     subst ho
     have hh := Out.ite_bad hr
     obtain ⟨rfl, hlt⟩ := of_decide_eq_true hh.1
     obtain rfl := Option.some.inj hh.2
     refine ⟨⟨L, q⟩, [], ⟨hlt, rfl⟩, rfl, by rw [goL_copy, List.nil_append], fun E hE => ⟨?_, ?_⟩⟩
     · exact ⟨⟨_, rfl, rfl⟩, ⟨_, rfl, by simp [tok, SV.den, hE]⟩, ⟨_, rfl, rfl⟩, trivial⟩
     · exact ⟨⟨_, rfl, rfl, trivial, rfl⟩, trivial⟩
   · cases ho
 · intro p i a R he hinv
   obtain ⟨h1, h2⟩ := hinv
   have hi := (List.getElem?_eq_some_iff.1 he).1
   have e1 : p.L.getD i Conf.dflt = a := by simp [List.getD, he]
   have hii : (i : Int) < p.L.length := by omega
   have hroom : decide (R.length = (Rows.conf R).len ∧ (Rows.conf R).len ≤ 134217727) = true := decide_eq_true ⟨rfl, by show R.length ≤ _; omega⟩
   have hsel := congrArg Out.sel (su_run S p.L R i p.q)
   simp only [Out.sel, rz_true, ix5_true hi, hii, hroom, decide_true, if_true, e1] at hsel
   refine ⟨_, hsel, ⟨h1, by simp [h2]⟩, rfl, fun E1 E2 hu ha hc => ?_⟩
   rw [wrap_succ (n := 1001) (by omega) (by omega)]
   have h0 := hu 0 (by omega)
   exact ⟨⟨⟨_, rfl, by simp [SV.den, Env.place, h0]⟩, ⟨_, rfl, by simp [tok, SV.den, Env.place, ha, hc, suS1]⟩, ⟨_, rfl, rfl⟩, trivial⟩, ⟨⟨_, rfl, rfl, trivial, h0.1⟩, trivial⟩⟩
 · intro p R hinv
   have hn : ¬ ((p.L.length : Nat) : Int) < p.L.length := by omega
   have hsel := congrArg Out.sel (su_run S p.L R p.L.length p.q)
   simp only [Out.sel, rz_true, hn, decide_false, if_true, if_false, Bool.false_eq_true] at hsel
   refine ⟨_, hsel, by simp, rfl, fun E1 E2 hu ha hc => ?_⟩
   have h0 := hu 0 (by omega)
   exact ⟨⟨⟨_, rfl, by simp [tok, SV.den, Env.place, ha, hc, suS1]⟩, trivial⟩, ⟨⟨_, rfl, rfl, trivial, h0.1⟩, trivial⟩⟩
def gSetups : CanonFn := fun ro args H m => match args, H with
 | [.slr 0 n 0 q], [(0, .rows (.conf L))] => bif Nat.beq m 1 then .ite (decide (n = L.length ∧ n ≤ 1000)) (.ret (.slr 1 n 1 false, [(0, .rows (.conf L)), (1, .rows (.conf L))], 2)) .bad else .bad
 | _, _ => .bad
theorem suw_run (S : Stat) (L : List Conf) (q : Bool) : trimR [1] (inline (withLoops (cS0 (S.rd 0 1)) [(3, gSuL)]) 20 (fnOf 12) [.slr 0 L.length 0 q] [(0, .rows (.conf L))] 1) =
   .ite (decide (L.length = L.length ∧ L.length ≤ 1000)) (.ret (tok 1 L.length, [(1, .rows (.conf L))], 0)) .bad := by kernel_rfl
theorem setups_ok : CanonOk 12 gSetups := by
 refine canon_new Tryz.func12 (by kernel_rfl) fun S args H m r hr => ?_
 unfold gSetups at hr
 split at hr
 · rename_i n q L
   cases hm : Nat.beq m 1 with
   | false => rw [hm] at hr; cases hr
   | true =>
     rw [hm] at hr
     simp only [cond_true] at hr
     obtain ⟨ht, h2⟩ := Out.ite_bad hr
     obtain ⟨rfl, hlt⟩ := of_decide_eq_true ht
     obtain rfl := Option.some.inj h2
     have hm1 : m = 1 := by simpa using hm
     subst hm1
     have hsel := congrArg Out.sel (suw_run S L q)
     simp only [Out.sel, hlt, and_self, decide_true, if_true] at hsel
     obtain ⟨H1, m1, hrun, hget⟩ := trimR_sel hsel
     have k0 : ∀ k x, Heap.get [(0, SV.rows (.conf L))] k = some x → k = 0 ∧ x = .rows (.conf L) := by
       intro k x hk
       rw [Heap.get_cons] at hk
       split at hk
       · rename_i h; exact ⟨h, (Option.some.inj hk).symm⟩
       · cases hk
     have k1 : ∀ k x, Heap.get [(0, SV.rows (.conf L)), (1, SV.rows (.conf L))] k = some x → (k = 0 ∨ k = 1) ∧ x = .rows (.conf L) := by
       intro k x hk
       rw [Heap.get_cons, Heap.get_cons] at hk
       split at hk
       · rename_i h; exact ⟨.inl h, (Option.some.inj hk).symm⟩
       · split at hk
         · rename_i h; exact ⟨.inr h, (Option.some.inj hk).symm⟩
         · cases hk
     refine ⟨Nat.le_succ 1, fun k x hk => ?_, fun k x hk => ?_, fun E => ⟨_, 20, [.slr 0 L.length 0 q], [(0, .rows (.conf L))], _, good_loops cS0_fam (S.rd 0 1) [(3, gSuL)] (by kernel_rfl) rfl (fun i k g hg => ?_), fun k x hk => ?_, hrun, ?_, ?_, fun E' hu => ⟨E', id, Env.upto.refl _ _, rfl, fun k x hk hmk => ?_, fun k k' x x' hne hk hk' h1 h1' => hne⟩⟩⟩
     · rcases k1 k x hk with ⟨rfl | rfl, rfl⟩
       · exact .inl rfl
       · exact .inr (Nat.le_refl 1)
     · obtain ⟨rfl, rfl⟩ := k0 k x hk
       exact ⟨by decide, rfl⟩
     · match i, hg with
       | 0, hg => obtain ⟨rfl, rfl⟩ := Prod.mk.inj (Option.some.inj hg); exact gSuL_ok S _
     · obtain ⟨rfl, rfl⟩ := k0 k x hk
       rfl
     · exact dens_cons rfl (dens_nil _ _ _ _)
     · exact ⟨⟨_, rfl, rfl, trivial⟩, trivial⟩
     · rcases k1 k x hk with ⟨rfl | rfl, rfl⟩
       · exact absurd hmk (by decide)
       · exact ⟨trivial, .inr ⟨rfl, _, hget 1 _ rfl, rfl, rfl, rfl⟩⟩
 · cases hr
end
section
open Go Go.RowKit
noncomputable def cW0 (S : Stat) : Ctx := mkCtx S [] [] [] 60 5
theorem cW0_fam : Fam cW0 := mk_fam (fun _ => []) (fun _ => []) 60 5 (fun _ _ _ h => by cases h) (fun _ _ _ h => by cases h)
def farI (x : Int) : Bool := decide (x < 0) || decide (x > 65535)
def farT (t : Times) : Bool := farI t.age || (farI t.max || (farI t.hello || farI t.delay))
def gFar : CanonFn := fun ro args H m => match args with
 | [.rcd (.times t)] => .ret (.v (.bool (farT t)), H, m)
 | _ => .bad
theorem clkFar_run (S : Stat) (t : Times) : valF 0 (inline (withLoops (cW0 (S.rd 0 0)) []) 60 (fnOf 33) [.rcd (.times t)] [] 0) =
   .ite (farI t.age) (.ret (.kb true)) (.ite (farI t.max) (.ret (.kb true)) (.ite (farI t.hello) (.ret (.kb true)) (.ite (farI t.delay) (.ret (.kb true)) (.ret (.kb false))))) := by kernel_rfl
theorem clkFar_ok : CanonOk 33 gFar := by
 refine canon_rd cW0_fam Tryz.func33 (by kernel_rfl) [] (by kernel_rfl) rfl 0 (fun S i k g hg => by cases hg) ?_
 intro S args H m r hr
 unfold gFar at hr
 split at hr
 · rename_i t
   obtain rfl := Option.some.inj hr
   refine ⟨rfl, rfl, fun E => ?_⟩
   have hs := congrArg Out.sel (clkFar_run S t)
   have key : ∃ v, (valF 0 (inline (withLoops (cW0 (S.rd 0 0)) []) 60 (fnOf 33) [.rcd (.times t)] [] 0)).sel = some v ∧ v.den (S.rd 0 0) E = (SV.v (.bool (farT t))).den S E := by
     rw [hs]
     unfold farT
     simp only [Out.sel]
     cases h1 : farI t.age
     · cases h2 : farI t.max
       · cases h3 : farI t.hello
         · cases h4 : farI t.delay
           · exact ⟨_, rfl, rfl⟩
           · exact ⟨_, rfl, rfl⟩
         · exact ⟨_, rfl, rfl⟩
       · exact ⟨_, rfl, rfl⟩
     · exact ⟨_, rfl, rfl⟩
   obtain ⟨v, hv, hd⟩ := key
   exact ⟨S, 60, [.rcd (.times t)], [], v, rfl, hv, dens_cons rfl (dens_nil _ _ _ _), trivial, hd⟩
 · cases hr
noncomputable def psCw (S : Stat) : List (Nat × ReadFn) := (33, specRead (spc gFar) S 3) :: []
theorem psCw_ok (S : Stat) : ReadsOk S [] (psCw S) := .cons (specRead_ok (fun S' => spc_ok clkFar_ok S') 3) <| .nil S []
noncomputable def cCw (S : Stat) : Ctx := mkCtx S [] (psCw S) [] 60 5
theorem cCw_fam : Fam cCw := mk_fam psCw (fun _ => []) 60 5 psCw_ok (fun _ _ _ h => by cases h)
def thouI (x : Int) : Bool := decide (x < 0) || decide (x > 1000)
def wrongL (p : Port) : List Bool := [thouI p.clocks.edgeDelay, thouI p.clocks.fd, thouI p.clocks.hello, thouI p.clocks.mdelay, thouI p.clocks.rb, thouI p.clocks.rcvdInfo, thouI p.clocks.rr, thouI p.clocks.tc, thouI p.clocks.txCount]
def wrongP (p : Port) : Bool := (wrongL p).any id || ((farT p.times || farT p.desTimes) || farT p.msg.times)
def gWrong : CanonFn := fun ro args H m => match args with
 | [.rcd (.port p)] => .ret (.v (.bool (wrongP p)), H, m)
 | _ => .bad
theorem wrong_run (S : Stat) (p : Port) : valF 0 (inline (withLoops (cCw (S.rd 0 0)) [(2, noLoop)]) 60 (fnOf 35) [.rcd (.port p)] [] 0) =
   chk (wrongL p) (.ret (.kb true)) (.ret (.v (.bool ((farT p.times || farT p.desTimes) || farT p.msg.times)))) := by kernel_rfl
theorem wrong_ok : CanonOk 35 gWrong := by
 refine canon_rd cCw_fam Tryz.func35 (by kernel_rfl) [(2, noLoop)] (by kernel_rfl) rfl 0 (fun S i k g hg => by
   match i, hg with
   | 0, hg => obtain ⟨rfl, rfl⟩ := Prod.mk.inj (Option.some.inj hg); exact noLoop_ok) ?_
 intro S args H m r hr
 unfold gWrong at hr
 split at hr
 · rename_i p
   obtain rfl := Option.some.inj hr
   refine ⟨rfl, rfl, fun E => ?_⟩
   have hs := congrArg Out.sel (wrong_run S p)
   have key : ∃ v, (valF 0 (inline (withLoops (cCw (S.rd 0 0)) [(2, noLoop)]) 60 (fnOf 35) [.rcd (.port p)] [] 0)).sel = some v ∧ v.den (S.rd 0 0) E = (SV.v (.bool (wrongP p))).den S E := by
     rw [hs, chk_sel]
     unfold wrongP
     cases h1 : (wrongL p).any id
     · exact ⟨_, rfl, rfl⟩
     · exact ⟨_, rfl, rfl⟩
   obtain ⟨v, hv, hd⟩ := key
   exact ⟨S, 60, [.rcd (.port p)], [], v, rfl, hv, dens_cons rfl (dens_nil _ _ _ _), trivial, hd⟩
 · cases hr
noncomputable def psWx (S : Stat) : List (Nat × ReadFn) := (35, specRead (spc gWrong) S 3) :: []
theorem psWx_ok (S : Stat) : ReadsOk S [] (psWx S) := .cons (specRead_ok (fun S' => spc_ok wrong_ok S') 3) <| .nil S []
noncomputable def cWx (S : Stat) : Ctx := mkCtx S [] (psWx S) [] 20 6
theorem cWx_fam : Fam cWx := mk_fam psWx (fun _ => []) 20 6 psWx_ok (fun _ _ _ h => by cases h)
theorem wx_ok : CanonOk 42 (gIx 35 wrongP) := ix_ok cWx_fam (fun S q i => by kernel_rfl) (fun S ps q => by kernel_rfl)
noncomputable def psC1 (S : Stat) : List (Nat × ReadFn) := (42, specRead (spc (gIx 35 wrongP)) S 3) :: []
theorem psC1_ok (S : Stat) : ReadsOk S [] (psC1 S) := .cons (specRead_ok (fun S' => spc_ok wx_ok S') 3) <| .nil S []
noncomputable def psC2 (S : Stat) : List (Nat × ReadFn) := auto psC1 S 34 :: (33, specRead (spc gFar) S 3) :: auto ps0 S 32 :: []
theorem psC2_ok (S : Stat) : ReadsOk S [] (psC2 S) := .auto psC1_ok <| .cons (specRead_ok (fun S' => spc_ok clkFar_ok S') 3) <| .auto ps0_ok <| .nil S []
noncomputable def cC2 (S : Stat) : Ctx := mkCtx S [] (psC2 S) [] 60 5
theorem cC2_fam : Fam cC2 := mk_fam psC2 (fun _ => []) 60 5 psC2_ok (fun _ _ _ h => by cases h)
def clI (lo hi x : Int) : Int := if hi < (if lo > x then lo else x) then hi else (if lo > x then lo else x)
def clampT (t : Times) : Times := ⟨clI 0 255 t.age, clI 6 40 t.max, clI 1 10 t.hello, clI 4 30 t.delay⟩
def tRight (t : Times) : Bool := (decide (t = clampT t) && decide (t.max ≤ IntKind.i64.wrap (2 * IntKind.i64.wrap (t.delay - 1)))) && decide (t.max ≥ IntKind.i64.wrap (2 * IntKind.i64.wrap (t.hello + 1)))
def crBad (b : Bri) (n : Nat) : Bool := (((decide ((n : Int) > 32) || decide (b.rootPort < -1)) || decide (b.rootPort ≥ n)) || decide (b.hold < 1)) || decide (b.hold > 10)
def crOk (b : Bri) (ps : List Port) : Bool := ((tRight b.times && b.times.age == 0) && !(farT b.rootT)) && !(decide (findI wrongP ps 0 ≥ 0))
def cRightF (b : Bri) (ps : List Port) : Bool := !(crBad b ps.length) && crOk b ps
def gCRight : CanonFn := fun ro args H m => match args, H.get 0 with
 | [bx], some (.rows (.port ps)) => (match unBri bx with
   | some (b, .slr 0 n 0 _, _, _) => .ite (decide (n = ps.length ∧ ps.length < 9223372036854775808)) (.ret (.v (.bool (cRightF b ps)), H, m)) .bad
   | _ => .bad)
 | _, _ => .bad
theorem cr_run (S : Stat) (b : Bri) (ps : List Port) (q : Bool) : valF 1 (inline (withLoops (cC2 (S.rd 0 1)) []) 60 (fnOf 24) [b.sv (.slr 0 ps.length 0 q) (.sl 0) (.sl 1)] [(0, .rows (.port ps))] 1) =
   .ite (crBad b ps.length) (.ret (.kb false)) (.ite (decide (ps.length = ps.length ∧ ps.length < 9223372036854775808)) (.ret (.v (.bool (crOk b ps)))) .bad) := by kernel_rfl
theorem cright_ok : CanonOk 24 gCRight := by
 refine canon_rd cC2_fam Tryz.func24 (by kernel_rfl) [] (by kernel_rfl) rfl 1 (fun S i k g hg => by cases hg) ?_
 intro S args H m r hr
 unfold gCRight at hr
 split at hr
 · rename_i bx ps hH
   split at hr
   · rename_i b n q o f hb
     obtain ⟨rfl, ho, hf⟩ := unBri_ok hb
     have hh := Out.ite_bad hr
     obtain ⟨rfl, hlt⟩ := of_decide_eq_true hh.1
     obtain rfl := Option.some.inj hh.2
     refine ⟨rfl, rfl, fun E => ?_⟩
     obtain ⟨l, hl⟩ := Bri.sv_named (S := S) (E := E) (b := b) (p := .slr 0 ps.length 0 q) ho hf
     have hs := congrArg Out.sel (cr_run (S.names l) b ps q)
     simp only [Out.sel, hlt, and_self, decide_true, if_true] at hs
     have key : ∃ v, (valF 1 (inline (withLoops (cC2 ((S.names l).rd 0 1)) []) 60 (fnOf 24) [b.sv (.slr 0 ps.length 0 q) (.sl 0) (.sl 1)] [(0, .rows (.port ps))] 1)).sel = some v ∧ v.den ((S.names l).rd 0 1) E = (SV.v (.bool (cRightF b ps))).den S E := by
       rw [hs]
       unfold cRightF
       cases crBad b ps.length
       · exact ⟨_, rfl, rfl⟩
       · exact ⟨_, rfl, rfl⟩
     obtain ⟨v, hv, hd⟩ := key
     exact ⟨S.names l, 60, [b.sv (.slr 0 ps.length 0 q) (.sl 0) (.sl 1)], [(0, .rows (.port ps))], v, rfl, hv, dens_cons (hl ((S.names l).rd 0 1) rfl rfl).1 (dens_nil _ _ _ _), ⟨⟨_, hH, rfl, trivial⟩, trivial⟩, hd⟩
   · cases hr
 · cases hr
end
end Go.Proofs.YtjemfkoamfnofaaGreat
