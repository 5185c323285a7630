/- The document's database: contracts of its functions. -/
import Derived.Test.YtfncoeoaniclmaaFdbQ
import Derived.Test.YtfncoeoaniclmaaBld
set_option linter.unusedVariables false
set_option maxRecDepth 100000
namespace Go.Proofs.Ytfncoeoaniclmaa
section
open Go Go.RowKit

noncomputable def psAt (S : Stat) : List (Nat × ReadFn) := [auto ps0 S 50, auto ps0 S 51]
theorem psAt_ok (S : Stat) : ReadsOk S [] (psAt S) := .auto ps0_ok <| .auto ps0_ok <| .nil S []
noncomputable def cAt (S : Stat) : Ctx := mkCtx S [] (psAt S) [] 20 3
theorem cAt_fam : Fam cAt := fam_of (ss := fun _ => []) psAt_ok (fun S => specs_nil)
/-- the document's database: how many, how long, all -/
def rfH (x y : Int) (n : Nat) (L : List Entry) : Heap := [(0, .agg [.v (.int .i64 x), .v (.int .i64 y), .slr 1 n 1 false]), (1, .rows (.entry L))]
structure RfP where
  x : Int
  y : Int
  n : Nat
  L : List Entry
  m : Int
def RfP.hp (p : RfP) : Heap := rfH p.x p.y p.n p.L
/-! ### at -/
def adrR (m : Int) : Int := m.tmod 281474976710656
def atI (a : Int) : List Entry → Nat → Int
  | [], _ => -1
  | e :: r, i => if e.mac = a then (i : Int) else atI a r (i + 1)
def atTs : List Nat := [0, 1, 5]
def atSt (p : RfP) (i : SV) : St := ⟨[(0, [], .ptr 0 0), (1, [], .v (.int .u64 p.m)), (5, [], i)], p.hp, 2⟩
noncomputable def atR (S : Stat) (p : RfP) (i : Nat) : Out (Ex × St) := trimO [0, 1, 4, 5] 2 (exec (cAt (S.rd i 2)) (fnOf 52).ntmps 20 (lpOf 52 0) (atSt p (.v (.int .i64 i))))
theorem at_hit (S : Stat) (p : RfP) (i : Nat) : Out.way [true, true, true] (atR S p i) = some ([decide ((i : Int) < p.n), (decide (0 ≤ (i : Int)) && decide ((i : Int) < p.n)) && decide (i < p.L.length), (p.L.getD i Entry.dflt).mac == adrR p.m], (.ret, ⟨(0, [], .ptr 0 0) :: (1, [], .v (.int .u64 p.m)) :: (4, [], .v (.int .i64 i)) :: [(5, [], .v (.int .i64 i))], p.hp, 2⟩)) := by kernel_rfl
theorem at_miss (S : Stat) (p : RfP) (i : Nat) : Out.way [true, true, false] (atR S p i) = some ([decide ((i : Int) < p.n), (decide (0 ≤ (i : Int)) && decide ((i : Int) < p.n)) && decide (i < p.L.length), (p.L.getD i Entry.dflt).mac == adrR p.m], (.nrm, atSt p (.v (.int .i64 (IntKind.i64.wrap (i + 1)))))) := by kernel_rfl
theorem at_over (S : Stat) (p : RfP) (i : Nat) : Out.way [false] (atR S p i) = some ([decide ((i : Int) < p.n)], (.exit 0, atSt p (.v (.int .i64 i)))) := by kernel_rfl
def atOut (i : Int) : St := ⟨[(4, [], .v (.int .i64 i))], [], 2⟩
def atFin (i : Int) : Ex × St := if i < 0 then (.exit 0, ⟨[], [], 2⟩) else (.ret, atOut i)
def gAtL : LoopFn := onTrim 2 atTs fun st => match st.slots, st.heap with
  | [(0, [], .ptr 0 0), (1, [], .v (.int .u64 m)), (5, [], .ki .i64 0)], [(0, .agg [.v (.int .i64 x), .v (.int .i64 y), .slr 1 n 1 false]), (1, .rows (.entry L))] =>
      some (.ite (decide (L.length = n ∧ n ≤ 67108864)) (.ite (decide (atI (adrR m) L 0 < 0)) (.ret (.exit 0, ⟨[], [], 2⟩)) (.ret (.ret, atOut (atI (adrR m) L 0)))) .bad)
  | _, _ => none
theorem atI_ge (a : Int) : ∀ (L : List Entry) (i : Nat), atI a L i < 0 ∨ (i : Int) ≤ atI a L i
  | [], i => .inl (by simp [atI])
  | e :: r, i => by
    unfold atI
    split
    · exact .inr (Int.le_refl _)
    · exact (atI_ge a r (i + 1)).imp id fun h => by omega
theorem runL_at (a : Int) : ∀ (L : List Entry) (i : Nat), runL (fun i (e : Entry) (_ : Unit) => if e.mac = a then Step.out .ret (atOut i) else .go ()) (fun _ => (.exit 0, ⟨[], [], 2⟩)) L i () = atFin (atI a L i)
  | [], i => by simp [runL, atI, atFin]
  | e :: r, i => by
    by_cases h : e.mac = a
    · have : ¬ (i : Int) < 0 := by omega
      simp [runL, atI, h, atFin, this]
    · rw [runL]
      simp only [if_neg h, atI]
      exact runL_at a r (i + 1)
theorem gAtL_ok (S : Stat) (ls : List (Nat × LoopFn)) : LoopOk Try.prog (withLoops (cAt (S.rd 0 2)) ls) (fnOf 52).ntmps (lpOf 52 0) gAtL := by
  refine loop_trim cAt_fam (nx := 2) (fuel := 20) (ts := [0, 1, 4, 5]) (π := RfP) (α := Entry) (τ := Unit) (S.rd 0 2) (fun _ i => S.rd i 2) (fun _ _ => rfl) (fun p => p.L) (fun p i _ => atSt p (.v (.int .i64 i)))
    (fun p i _ => p.L.length = p.n ∧ p.n ≤ 67108864) (fun p i e _ => if e.mac = adrR p.m then Step.out .ret (atOut i) else .go ()) (fun p _ => (.exit 0, ⟨[], [], 2⟩)) (fun _ _ _ => rfl) ?_ ?_ ?_
  · intro st o r ho hr
    split at ho
    · rename_i m x y n L hsl hhp
      injection ho with ho
      subst ho
      have hh := Out.ite_bad hr
      obtain ⟨rfl, hlt⟩ := of_decide_eq_true hh.1
      have hr2 : r = atFin (atI (adrR m) L 0) := by
        have h2 := hh.2
        unfold atFin
        by_cases h0 : atI (adrR m) L 0 < 0
        · simp only [h0, decide_true, Out.sel, if_true, Option.some.injEq] at h2 ⊢; exact h2.symm
        · simp only [h0, decide_false, Out.sel, Bool.false_eq_true, if_false, Option.some.injEq] at h2 ⊢; exact h2.symm
      refine ⟨⟨x, y, L.length, L, m⟩, (), ⟨rfl, hlt⟩, hr2.trans (runL_at (adrR m) L 0).symm, by rw [hr2]; unfold atFin; split <;> exact Nat.le_refl _, fun E => ⟨?_, ?_⟩⟩
      · rw [hsl]; exact ⟨⟨_, rfl, rfl⟩, ⟨_, rfl, rfl⟩, ⟨_, rfl, rfl⟩, trivial⟩
      · rw [hhp]; exact ⟨⟨_, rfl, by simp [SV.cells, SV.cellss], trivial⟩, ⟨_, rfl, rfl, trivial⟩, trivial⟩
    · cases ho
  · intro p i e _ he hinv
    obtain ⟨h1, h2⟩ := hinv
    have hi := (List.getElem?_eq_some_iff.1 he).1
    have e1 : p.L.getD i Entry.dflt = e := by simp [List.getD, he]
    have hii : (i : Int) < p.n := by omega
    by_cases h : e.mac = adrR p.m
    · refine ⟨.ret, _, Out.way_sel (at_hit S p i) (by rw [e1, decide_eq_true hii, decide_eq_true hi]; simp [h]), ?_⟩
      simp only [if_pos h]
      exact ⟨trivial, by simp, fun E => ⟨⟨⟨_, rfl, rfl⟩, trivial⟩, trivial⟩⟩
    · refine ⟨.nrm, _, Out.way_sel (at_miss S p i) (by rw [e1, decide_eq_true hii, decide_eq_true hi]; simp [h]), ?_⟩
      simp only [if_neg h]
      refine ⟨trivial, ⟨h1, h2⟩, fun E => ?_⟩
      rw [wrap_succ (n := 67108865) (by omega) (by omega)]
      exact ⟨⟨⟨_, rfl, rfl⟩, ⟨_, rfl, rfl⟩, ⟨_, rfl, rfl⟩, trivial⟩, ⟨⟨_, rfl, by simp [SV.cells, SV.cellss], trivial⟩, ⟨_, rfl, rfl, trivial⟩, trivial⟩⟩
  · intro p _ hinv
    obtain ⟨h1, h2⟩ := hinv
    have hn : ¬ ((p.L.length : Nat) : Int) < p.n := by omega
    exact ⟨.exit 0, _, Out.way_sel (at_over S p p.L.length) (by rw [decide_eq_false hn]), rfl, by simp, fun E => ⟨trivial, trivial⟩⟩
noncomputable def atLs : List (Nat × LoopFn) := [(2, gAtL)]
def gAt : CanonFn := fun ro args H m => match args, H with
  | [.ptr 0 0, .v (.int .u64 a)], [(0, .agg [.v (.int .i64 x), .v (.int .i64 y), .slr 1 n 1 false]), (1, .rows (.entry L))] => .ite (decide (L.length = n ∧ n ≤ 67108864)) (.ret (.v (.int .i64 (atI (adrR a) L 0)), H, m)) .bad
  | _, _ => .bad
theorem at_walk (S : Stat) (p : RfP) : valF 2 (inline (withLoops (cAt (S.rd 0 2)) atLs) 20 (fnOf 52) [.ptr 0 0, .v (.int .u64 p.m)] p.hp 2) =
    .ite (decide (p.L.length = p.n ∧ p.n ≤ 67108864)) (.ite (decide (atI (adrR p.m) p.L 0 < 0)) (.ret (.ki .i64 (-1))) (.ret (.v (.int .i64 (atI (adrR p.m) p.L 0))))) .bad := by kernel_rfl
theorem atI_neg (a : Int) : ∀ (L : List Entry) (i : Nat), atI a L i < 0 → atI a L i = -1
  | [], i, _ => rfl
  | e :: r, i, h => by
    unfold atI at h ⊢
    split
    · rename_i he; rw [if_pos he] at h; omega
    · rename_i he; rw [if_neg he] at h; exact atI_neg a r (i + 1) h
theorem at_ok : CanonOk 52 gAt := by
  refine canon_rd cAt_fam Try.func52 (by kernel_rfl) atLs (by kernel_rfl) (by kernel_rfl) 2 (fun S i k g hg => by
    match i, hg with
    | 0, hg => injection hg with hg; injection hg with h1 h2; subst h1 h2; exact gAtL_ok S _
    | i + 1, hg => cases hg) ?_
  intro S args H m r hr
  unfold gAt at hr
  split at hr <;> (try cases hr)
  rename_i a x y n L
  obtain ⟨hc, hr⟩ := Out.ite_bad hr
  simp only [Out.sel, Option.some.injEq] at hr
  subst hr
  refine ⟨rfl, rfl, fun E => ?_⟩
  by_cases h0 : atI (adrR a) L 0 < 0
  · refine ⟨S, 20, [.ptr 0 0, .v (.int .u64 a)], rfH x y n L, .ki .i64 (-1), rfl, by have := congrArg Out.sel (at_walk S ⟨x, y, n, L, a⟩); dsimp only at this; rw [hc, decide_eq_true h0] at this; exact this, by simp [SV.dens, SV.den], ⟨⟨_, rfl, by simp [SV.cells, SV.cellss], trivial⟩, ⟨_, rfl, by simp [SV.cells], trivial⟩, trivial⟩, ?_⟩
    simp [SV.den, atI_neg _ _ _ h0]
  · exact ⟨S, 20, [.ptr 0 0, .v (.int .u64 a)], rfH x y n L, .v (.int .i64 (atI (adrR a) L 0)), rfl, by have := congrArg Out.sel (at_walk S ⟨x, y, n, L, a⟩); dsimp only at this; rw [hc, decide_eq_false h0] at this; exact this, by simp [SV.dens, SV.den], ⟨⟨_, rfl, by simp [SV.cells, SV.cellss], trivial⟩, ⟨_, rfl, by simp [SV.cells], trivial⟩, trivial⟩, by simp [SV.den]⟩
/-! ### without -/
def wiTs : List Nat := [0, 1, 4, 5]
def woutE (k : Int) : List Entry → Nat → List Entry
  | [], _ => []
  | e :: r, i => if (i : Int) = k then woutE k r (i + 1) else e :: woutE k r (i + 1)
def wiSt (p : RfP) (R : List Entry) (i : SV) : BSt := ⟨⟨[(0, [], .ptr 0 0), (1, [], .v (.int .i64 p.m)), (4, [], tok 2 R.length), (5, [], i)], p.hp, 3⟩, 2, .entry R⟩
noncomputable def wiR (S : Stat) (p : RfP) (R : List Entry) (i : Nat) : Out (Ex × BSt) := trimB wiTs 2 (execB (cAt (S.wt i)) (fnOf 53).ntmps 20 91 (lpOf 53 0) (wiSt p R (.v (.int .i64 i))))
def wiS1 (p : RfP) (R : List Entry) (b : Nat) (i : SV) : BSt := ⟨⟨[(0, [], .ptr 0 0), (1, [], .v (.int .i64 p.m)), (4, [], tok b R.length), (5, [], i)], p.hp, 2⟩, b, .entry R⟩
theorem wi_take (S : Stat) (p : RfP) (R : List Entry) (i : Nat) : Out.way [true, true, true, true, true] (wiR S p R i) = some ([decide ((i : Int) < p.n), (i : Int) != p.m, decide (0 ≤ (i : Int)) && decide ((i : Int) < p.n), decide (i < p.L.length), decide (R.length = R.length ∧ R.length ≤ 134217727)],
  (.nrm, wiS1 p (R ++ [p.L.getD i Entry.dflt]) 4 (.v (.int .i64 (IntKind.i64.wrap (i + 1)))))) := by kernel_rfl
theorem wi_skip (S : Stat) (p : RfP) (R : List Entry) (i : Nat) : Out.way [true, false] (wiR S p R i) = some ([decide ((i : Int) < p.n), (i : Int) != p.m], (.nrm, wiS1 p R 2 (.v (.int .i64 (IntKind.i64.wrap (i + 1)))))) := by kernel_rfl
theorem wi_over (S : Stat) (p : RfP) (R : List Entry) (i : Nat) : Out.way [false] (wiR S p R i) = some ([decide ((i : Int) < p.n)], (.exit 0, wiS1 p R 2 (.v (.int .i64 i)))) := by kernel_rfl
def wiStp (k : Int) (i : Nat) (e : Entry) (R : List Entry) : List Entry := if (i : Int) = k then R else R ++ [e]
theorem goL_wi (k : Int) : ∀ (L : List Entry) (i : Nat) (R : List Entry), goL (wiStp k) L i R = R ++ woutE k L i
  | [], _, R => by simp [goL, woutE]
  | e :: r, i, R => by
    rw [goL, goL_wi k r]
    by_cases h : (i : Int) = k
    · rw [woutE, if_pos h, wiStp, if_pos h]
    · rw [woutE, if_neg h, wiStp, if_neg h, List.append_assoc, List.singleton_append]
def wiFin (p : RfP) (R : List Entry) : BSt := ⟨⟨[(0, [], .ptr 0 0), (4, [], tok 2 R.length)], p.hp, 3⟩, 2, .entry R⟩
noncomputable def gWiL : LoopFn := onTrimB 2 wiTs fun st => match st.slots, st.heap with
  | [(0, [], .ptr 0 0), (1, [], .v (.int .i64 k)), (4, [], .v (.slice none 0 0)), (5, [], .ki .i64 0)], [(0, .agg [.v (.int .i64 x), .v (.int .i64 y), .slr 1 n 1 false]), (1, .rows (.entry L))] =>
      some (.ite (decide (L.length = n ∧ n ≤ 67108864)) (.ret (.exit 0, (wiFin ⟨x, y, n, L, k⟩ (woutE k L 0)).adopt)) .bad)
  | _, _ => none
theorem tok_alias {S S' : Stat} {E1 E2 : Env} {b nx n : Nat} (ha : E2.ad nx = E1.ad b) (hc : E2.cp nx = E1.cp b) : (tok b n).den S E1 = (tok nx n).den S' E2 := by simp [tok, SV.den, Env.place, ha, hc]
theorem ptr_upto {S S' : Stat} {E1 E2 : Env} {nx k o : Nat} (hu : Env.upto nx E1 E2) (hk : k < nx) : (SV.ptr k o).den S E1 = (SV.ptr k o).den S' E2 := by simp [SV.den, hu.place hk]
theorem rf_upto {S S' : Stat} {E1 E2 : Env} {nx : Nat} (hu : Env.upto nx E1 E2) (hk : 2 ≤ nx) (x y : Int) (n : Nat) : (SV.agg [.v (.int .i64 x), .v (.int .i64 y), .slr 1 n 1 false]).cells S E1 = (SV.agg [.v (.int .i64 x), .v (.int .i64 y), .slr 1 n 1 false]).cells S' E2 := by
  have h1 := hu 1 (by omega)
  simp [SV.cells, SV.cellss, Env.place, h1.1, h1.2]
theorem gWiL_ok (S : Stat) (ls : List (Nat × LoopFn)) : LoopOk Try.prog (withLoops (cAt (S.wt 0)) ls) (fnOf 53).ntmps (lpOf 53 0) gWiL := by
  refine loop_build cAt_fam (nx := 2) (fuel := 20) (e := 91) (ts := wiTs) (π := RfP) (α := Entry) (τ := List Entry) (S.wt 0) (fun _ i => S.wt i) (fun _ _ => rfl) (fun p => p.L) (fun p i R => wiSt p R (.v (.int .i64 i)))
    (fun p i R => p.L.length = p.n ∧ p.n ≤ 67108864 ∧ R.length ≤ i) (fun p => wiStp p.m) (.exit 0) wiFin (fun _ _ _ => ⟨rfl, rfl⟩) (fun _ _ => ⟨rfl, rfl⟩) (fun _ _ => rfl) ?_ ?_ ?_
  · intro st o r ho hr
    split at ho
    · rename_i k x y n L hsl hhp
      injection ho with ho
      subst ho
      have hh := Out.ite_bad hr
      obtain ⟨rfl, hlt⟩ := of_decide_eq_true hh.1
      obtain rfl := Option.some.inj hh.2
      refine ⟨⟨x, y, L.length, L, k⟩, [], ⟨rfl, hlt, Nat.le_refl _⟩, rfl, by rw [goL_wi, List.nil_append], fun E hE => ⟨?_, ?_⟩⟩
      · rw [hsl]; exact ⟨⟨_, rfl, rfl⟩, ⟨_, rfl, rfl⟩, ⟨_, rfl, by simp [tok, SV.den, hE]⟩, ⟨_, rfl, rfl⟩, trivial⟩
      · rw [hhp]; exact ⟨⟨_, rfl, by simp [SV.cells, SV.cellss], trivial, rfl⟩, ⟨_, rfl, rfl, trivial, rfl⟩, trivial⟩
    · cases ho
  · intro p i e R he hinv
    obtain ⟨h1, h2, h3⟩ := hinv
    have hi := (List.getElem?_eq_some_iff.1 he).1
    have e1 : p.L.getD i Entry.dflt = e := by simp [List.getD, he]
    have hii : (i : Int) < p.n := by omega
    by_cases hk : (i : Int) = p.m
    · have hb : ((i : Int) != p.m) = false := by simp [hk]
      have hs : wiStp p.m i e R = R := if_pos hk
      rw [hs]
      refine ⟨_, Out.way_sel (wi_skip S p R i) (by rw [decide_eq_true hii, hb]), ⟨h1, h2, by omega⟩, rfl, fun E1 E2 hu ha hc => ?_⟩
      rw [wrap_succ (n := 67108865) (by omega) (by omega)]
      exact ⟨⟨⟨_, rfl, ptr_upto hu (by omega)⟩, ⟨_, rfl, rfl⟩, ⟨_, rfl, tok_alias ha hc⟩, ⟨_, rfl, rfl⟩, trivial⟩, ⟨⟨_, rfl, rf_upto hu (by omega) _ _ _, trivial, (hu 0 (by omega)).1⟩, ⟨_, rfl, rfl, trivial, (hu 1 (by omega)).1⟩, trivial⟩⟩
    · have hb : ((i : Int) != p.m) = true := by simp [hk]
      have hs : wiStp p.m i e R = R ++ [e] := if_neg hk
      rw [hs]
      have h4 : R.length ≤ 134217727 := by omega
      refine ⟨_, Out.way_sel (wi_take S p R i) (by rw [decide_eq_true hii, hb, decide_eq_true hi]; simp [h4]), ⟨h1, h2, by simp; omega⟩, by rw [e1]; rfl, fun E1 E2 hu ha hc => ?_⟩
      rw [wrap_succ (n := 67108865) (by omega) (by omega), e1]
      exact ⟨⟨⟨_, rfl, ptr_upto hu (by omega)⟩, ⟨_, rfl, rfl⟩, ⟨_, rfl, tok_alias ha hc⟩, ⟨_, rfl, rfl⟩, trivial⟩, ⟨⟨_, rfl, rf_upto hu (by omega) _ _ _, trivial, (hu 0 (by omega)).1⟩, ⟨_, rfl, rfl, trivial, (hu 1 (by omega)).1⟩, trivial⟩⟩
  · intro p R hinv
    obtain ⟨h1, h2, h3⟩ := hinv
    have hn : ¬ ((p.L.length : Nat) : Int) < p.n := by omega
    exact ⟨_, Out.way_sel (wi_over S p R p.L.length) (by rw [decide_eq_false hn]), by simp, rfl, fun E1 E2 hu ha hc => ⟨⟨⟨_, rfl, ptr_upto hu (by omega)⟩, ⟨_, rfl, tok_alias ha hc⟩, trivial⟩, ⟨⟨_, rfl, rf_upto hu (by omega) _ _ _, trivial, (hu 0 (by omega)).1⟩, ⟨_, rfl, rfl, trivial, (hu 1 (by omega)).1⟩, trivial⟩⟩⟩
noncomputable def wiLs : List (Nat × LoopFn) := [(2, gWiL)]
theorem wi_walk (S : Stat) (p : RfP) : trimF 3 (inline (withLoops (cAt (S.wt 0)) wiLs) 20 (fnOf 53) [.ptr 0 0, .v (.int .i64 p.m)] p.hp 2) =
    .ite (decide (p.L.length = p.n ∧ p.n ≤ 67108864)) (.ret (.tup [], [(2, .rows (.entry (woutE p.m p.L 0))), (0, .agg [.v (.int .i64 p.x), .v (.int .i64 p.y), .slr 2 (woutE p.m p.L 0).length 2 false]), (1, .rows (.entry p.L))], 3)) .bad := by kernel_rfl
def gWithout : CanonFn := fun ro args H m => match args, H with
  | [.ptr 0 0, .v (.int .i64 k)], [(0, .agg [.v (.int .i64 x), .v (.int .i64 y), .slr 1 n 1 false]), (1, .rows (.entry L))] => bif (ro 0 || ro 1) || !(Nat.beq m 2) then .bad else
      .ite (decide (L.length = n ∧ n ≤ 67108864)) (.ret (.tup [], [(2, .rows (.entry (woutE k L 0))), (0, .agg [.v (.int .i64 x), .v (.int .i64 y), .slr 2 (woutE k L 0).length 2 false]), (1, .rows (.entry L))], 3)) .bad
  | _, _ => .bad
theorem without_ok : CanonOk 53 gWithout := by
  refine canon_ex cAt_fam Try.func53 (by kernel_rfl) wiLs (by kernel_rfl) (by kernel_rfl) (fun S i k g hg => by
    match i, hg with
    | 0, hg => injection hg with hg; injection hg with h1 h2; subst h1 h2; exact gWiL_ok S _
    | i + 1, hg => cases hg) ?_
  intro S args H m r hr
  unfold gWithout at hr
  split at hr <;> (try cases hr)
  rename_i k x y n L
  cases hb : ((S.ro 0 || S.ro 1) || !(Nat.beq m 2)) with
  | true => rw [hb] at hr; cases hr
  | false =>
    rw [hb] at hr
    simp only [cond_false] at hr
    obtain ⟨hc, hr⟩ := Out.ite_bad hr
    simp only [Out.sel, Option.some.injEq] at hr
    subst hr
    simp only [Bool.or_eq_false_iff, Bool.not_eq_false'] at hb
    obtain ⟨⟨r0, r1⟩, hm⟩ := hb
    have := Nat.eq_of_beq_eq_true hm; subst this
    refine ⟨fun k z hk => ?_, rfl, rfl, rfl, rfl, by show 2 ≤ 3; omega, 20, _, by have := congrArg Out.sel (wi_walk S ⟨x, y, n, L, k⟩); dsimp only at this; rw [hc] at this; exact this, rfl, rfl, fun _ _ => rfl⟩
    match k, hk with
    | 0, _ => exact r0
    | 1, _ => exact r1
    | k + 2, hk => cases hk

open Go Go.RowKit

/-! ### Tick -/
def ticE (e : Entry) : Entry := ⟨e.mac, e.port, IntKind.i64.wrap (e.sec - 1)⟩
def ticTs : List Nat := [0, 2, 3]
def ticSt (p : RfP) (R : List Entry) (i : SV) : BSt := ⟨⟨[(0, [], .ptr 0 0), (2, [], tok 2 R.length), (3, [], i)], p.hp, 3⟩, 2, .entry R⟩
noncomputable def ticR (S : Stat) (p : RfP) (R : List Entry) (i : Nat) : Out (Ex × BSt) := trimB ticTs 2 (execB (cAt (S.wt i)) (fnOf 24).ntmps 20 91 (lpOf 24 0) (ticSt p R (.v (.int .i64 i))))
def ticS1 (p : RfP) (R : List Entry) (b : Nat) (i : SV) : BSt := ⟨⟨[(0, [], .ptr 0 0), (2, [], tok b R.length), (3, [], i)], p.hp, 2⟩, b, .entry R⟩
theorem tic_take (S : Stat) (p : RfP) (R : List Entry) (i : Nat) : Out.way [true, true, true, true, true] (ticR S p R i) = some ([decide ((i : Int) < p.n), decide (0 ≤ (i : Int)) && decide ((i : Int) < p.n), decide (i < p.L.length), decide ((ticE (p.L.getD i Entry.dflt)).sec > 0), decide (R.length = R.length ∧ R.length ≤ 134217727)],
  (.nrm, ticS1 p (R ++ [ticE (p.L.getD i Entry.dflt)]) 5 (.v (.int .i64 (IntKind.i64.wrap (i + 1)))))) := by kernel_rfl
theorem tic_skip (S : Stat) (p : RfP) (R : List Entry) (i : Nat) : Out.way [true, true, true, false] (ticR S p R i) = some ([decide ((i : Int) < p.n), decide (0 ≤ (i : Int)) && decide ((i : Int) < p.n), decide (i < p.L.length), decide ((ticE (p.L.getD i Entry.dflt)).sec > 0)], (.nrm, ticS1 p R 2 (.v (.int .i64 (IntKind.i64.wrap (i + 1)))))) := by kernel_rfl
theorem tic_over (S : Stat) (p : RfP) (R : List Entry) (i : Nat) : Out.way [false] (ticR S p R i) = some ([decide ((i : Int) < p.n)], (.exit 0, ticS1 p R 2 (.v (.int .i64 i)))) := by kernel_rfl
def liveE (f : Entry → Entry) (e : Entry) : Option Entry := if (f e).sec > 0 then some (f e) else none
def liveStp (f : Entry → Entry) (i : Nat) (e : Entry) (R : List Entry) : List Entry := if (f e).sec > 0 then R ++ [f e] else R
theorem goL_live (f : Entry → Entry) : ∀ (L : List Entry) (i : Nat) (R : List Entry), goL (liveStp f) L i R = R ++ L.filterMap (liveE f)
  | [], _, R => by simp [goL]
  | e :: r, i, R => by
    rw [goL, goL_live f r]
    by_cases h : (f e).sec > 0
    · simp [liveStp, liveE, h]
    · simp [liveStp, liveE, h]
def ticFin (p : RfP) (R : List Entry) : BSt := ⟨⟨[(0, [], .ptr 0 0), (2, [], tok 2 R.length)], p.hp, 3⟩, 2, .entry R⟩
def tickR (L : List Entry) : List Entry := L.filterMap (liveE ticE)
noncomputable def gTicL : LoopFn := onTrimB 2 ticTs fun st => match st.slots, st.heap with
  | [(0, [], .ptr 0 0), (2, [], .v (.slice none 0 0)), (3, [], .ki .i64 0)], [(0, .agg [.v (.int .i64 x), .v (.int .i64 y), .slr 1 n 1 false]), (1, .rows (.entry L))] =>
      some (.ite (decide (L.length = n ∧ n ≤ 67108864)) (.ret (.exit 0, (ticFin ⟨x, y, n, L, 0⟩ (tickR L)).adopt)) .bad)
  | _, _ => none
theorem gTicL_ok (S : Stat) (ls : List (Nat × LoopFn)) : LoopOk Try.prog (withLoops (cAt (S.wt 0)) ls) (fnOf 24).ntmps (lpOf 24 0) gTicL := by
  refine loop_build cAt_fam (nx := 2) (fuel := 20) (e := 91) (ts := ticTs) (π := RfP) (α := Entry) (τ := List Entry) (S.wt 0) (fun _ i => S.wt i) (fun _ _ => rfl) (fun p => p.L) (fun p i R => ticSt p R (.v (.int .i64 i)))
    (fun p i R => p.L.length = p.n ∧ p.n ≤ 67108864 ∧ R.length ≤ i) (fun p => liveStp ticE) (.exit 0) ticFin (fun _ _ _ => ⟨rfl, rfl⟩) (fun _ _ => ⟨rfl, rfl⟩) (fun _ _ => rfl) ?_ ?_ ?_
  · intro st o r ho hr
    split at ho
    · rename_i x y n L hsl hhp
      injection ho with ho
      subst ho
      have hh := Out.ite_bad hr
      obtain ⟨rfl, hlt⟩ := of_decide_eq_true hh.1
      obtain rfl := Option.some.inj hh.2
      refine ⟨⟨x, y, L.length, L, 0⟩, [], ⟨rfl, hlt, Nat.le_refl _⟩, rfl, by rw [goL_live, List.nil_append]; rfl, fun E hE => ⟨?_, ?_⟩⟩
      · rw [hsl]; exact ⟨⟨_, rfl, rfl⟩, ⟨_, rfl, by simp [tok, SV.den, hE]⟩, ⟨_, rfl, rfl⟩, trivial⟩
      · rw [hhp]; exact ⟨⟨_, rfl, by simp [SV.cells, SV.cellss], trivial, rfl⟩, ⟨_, rfl, rfl, trivial, rfl⟩, trivial⟩
    · cases ho
  · intro p i e R he hinv
    obtain ⟨h1, h2, h3⟩ := hinv
    have hi := (List.getElem?_eq_some_iff.1 he).1
    have e1 : p.L.getD i Entry.dflt = e := by simp [List.getD, he]
    have hii : (i : Int) < p.n := by omega
    have re : ∀ (R : List Entry) (b : Nat) (E1 E2 : Env), Env.upto 2 E1 E2 → E2.ad 2 = E1.ad b → E2.cp 2 = E1.cp b → ReD2 (S.wt i) E1 (ticS1 p R b (.v (.int .i64 (IntKind.i64.wrap (i + 1))))).st (S.wt (i + 1 : Nat)) E2 (ticSt p R (.v (.int .i64 ((i + 1 : Nat) : Int)))).st := by
      intro R b E1 E2 hu ha hc
      rw [wrap_succ (n := 67108865) (by omega) (by omega)]
      exact ⟨⟨⟨_, rfl, ptr_upto hu (by omega)⟩, ⟨_, rfl, tok_alias ha hc⟩, ⟨_, rfl, rfl⟩, trivial⟩, ⟨⟨_, rfl, rf_upto hu (by omega) _ _ _, trivial, (hu 0 (by omega)).1⟩, ⟨_, rfl, rfl, trivial, (hu 1 (by omega)).1⟩, trivial⟩⟩
    by_cases hk : (ticE e).sec > 0
    · have hs : liveStp ticE i e R = R ++ [ticE e] := if_pos hk
      rw [hs]
      have h4 : R.length ≤ 134217727 := by omega
      refine ⟨_, Out.way_sel (tic_take S p R i) (by rw [e1, decide_eq_true hii, decide_eq_true hk, decide_eq_true hi]; simp [h4]), ⟨h1, h2, by simp; omega⟩, by rw [e1]; rfl, fun E1 E2 hu ha hc => ?_⟩
      rw [e1]
      exact re _ 5 E1 E2 hu ha hc
    · have hs : liveStp ticE i e R = R := if_neg hk
      rw [hs]
      exact ⟨_, Out.way_sel (tic_skip S p R i) (by rw [e1, decide_eq_true hii, decide_eq_false hk, decide_eq_true hi]; simp), ⟨h1, h2, by omega⟩, rfl, fun E1 E2 hu ha hc => re _ 2 E1 E2 hu ha hc⟩
  · intro p R hinv
    obtain ⟨h1, h2, h3⟩ := hinv
    have hn : ¬ ((p.L.length : Nat) : Int) < p.n := by omega
    exact ⟨_, Out.way_sel (tic_over S p R p.L.length) (by rw [decide_eq_false hn]), by simp, rfl, fun E1 E2 hu ha hc => ⟨⟨⟨_, rfl, ptr_upto hu (by omega)⟩, ⟨_, rfl, tok_alias ha hc⟩, trivial⟩, ⟨⟨_, rfl, rf_upto hu (by omega) _ _ _, trivial, (hu 0 (by omega)).1⟩, ⟨_, rfl, rfl, trivial, (hu 1 (by omega)).1⟩, trivial⟩⟩⟩
noncomputable def ticLs : List (Nat × LoopFn) := [(2, gTicL)]
def rfN (x y : Int) (n : Nat) (L : List Entry) (L0 : List Entry) : Heap := [(2, .rows (.entry L)), (0, .agg [.v (.int .i64 x), .v (.int .i64 y), .slr 2 n 2 false]), (1, .rows (.entry L0))]
theorem tic_walk (S : Stat) (p : RfP) : trimF 3 (inline (withLoops (cAt (S.wt 0)) ticLs) 20 (fnOf 24) [.ptr 0 0] p.hp 2) =
    .ite (decide (p.L.length = p.n ∧ p.n ≤ 67108864)) (.ret (.tup [], rfN p.x p.y (tickR p.L).length (tickR p.L) p.L, 3)) .bad := by kernel_rfl
def gRTick : CanonFn := fun ro args H m => match args, H with
  | [.ptr 0 0], [(0, .agg [.v (.int .i64 x), .v (.int .i64 y), .slr 1 n 1 false]), (1, .rows (.entry L))] => bif (ro 0 || ro 1) || !(Nat.beq m 2) then .bad else
      .ite (decide (L.length = n ∧ n ≤ 67108864)) (.ret (.tup [], rfN x y (tickR L).length (tickR L) L, 3)) .bad
  | _, _ => .bad
theorem rtick_ok : CanonOk 24 gRTick := by
  refine canon_ex cAt_fam Try.func24 (by kernel_rfl) ticLs (by kernel_rfl) (by kernel_rfl) (fun S i k g hg => by
    match i, hg with
    | 0, hg => injection hg with hg; injection hg with h1 h2; subst h1 h2; exact gTicL_ok S _
    | i + 1, hg => cases hg) ?_
  intro S args H m r hr
  unfold gRTick at hr
  split at hr <;> (try cases hr)
  rename_i x y n L
  cases hb : ((S.ro 0 || S.ro 1) || !(Nat.beq m 2)) with
  | true => rw [hb] at hr; cases hr
  | false =>
    rw [hb] at hr
    simp only [cond_false] at hr
    obtain ⟨hc, hr⟩ := Out.ite_bad hr
    simp only [Out.sel, Option.some.injEq] at hr
    subst hr
    simp only [Bool.or_eq_false_iff, Bool.not_eq_false'] at hb
    obtain ⟨⟨r0, r1⟩, hm⟩ := hb
    have := Nat.eq_of_beq_eq_true hm; subst this
    refine ⟨fun k z hk => ?_, rfl, rfl, rfl, rfl, by show 2 ≤ 3; omega, 20, _, by have := congrArg Out.sel (tic_walk S ⟨x, y, n, L, 0⟩); dsimp only at this; rw [hc] at this; exact this, rfl, rfl, fun _ _ => rfl⟩
    match k, hk with
    | 0, _ => exact r0
    | 1, _ => exact r1
    | k + 2, hk => cases hk

/-! ### Short -/
structure ShP where
  f : RfP
  P : Int
  s : Int
def shE (P s : Int) (e : Entry) : Entry := if e.port = P then ⟨e.mac, e.port, if s < e.sec then s else e.sec⟩ else e
def shTs : List Nat := [0, 1, 2, 7, 8, 9]
def shSl (P s : Int) (N : SV) (t : SV) (i : SV) : Slots := [(0, [], .ptr 0 0), (1, [], .v (.int .i64 P)), (2, [], .v (.int .i64 s)), (7, [], N), (8, [], t), (9, [], i)]
def shSt (p : ShP) (N : Int) (R : List Entry) (i : SV) : BSt := ⟨⟨shSl p.P p.s (.v (.int .i64 N)) (tok 2 R.length) i, p.f.hp, 3⟩, 2, .entry R⟩
noncomputable def shR (S : Stat) (p : ShP) (N : Int) (R : List Entry) (i : Nat) : Out (Ex × BSt) := trimB shTs 2 (execB (cAt (S.wt i)) (fnOf 26).ntmps 20 91 (lpOf 26 0) (shSt p N R (.v (.int .i64 i))))
def shS1 (p : ShP) (N : Int) (R : List Entry) (b : Nat) (i : SV) : BSt := ⟨⟨shSl p.P p.s (.v (.int .i64 N)) (tok b R.length) i, p.f.hp, 2⟩, b, .entry R⟩
def shHead (p : ShP) (i : Nat) : List Bool := [decide ((i : Int) < p.f.n), decide (0 ≤ (i : Int)) && decide ((i : Int) < p.f.n), decide (i < p.f.L.length), (p.f.L.getD i Entry.dflt).port == p.P]
def shA (s : Int) (e : Entry) : Entry := ⟨e.mac, e.port, if s < e.sec then s else e.sec⟩
theorem sh_take1 (S : Stat) (p : ShP) (N : Int) (R : List Entry) (i : Nat) : Out.way [true, true, true, true, true, true] (shR S p N R i) = some (shHead p i ++ [decide ((shA p.s (p.f.L.getD i Entry.dflt)).sec > 0), decide (R.length = R.length ∧ R.length ≤ 134217727)],
  (.nrm, shS1 p (IntKind.i64.wrap (N + 1)) (R ++ [shA p.s (p.f.L.getD i Entry.dflt)]) 5 (.v (.int .i64 (IntKind.i64.wrap (i + 1)))))) := by kernel_rfl
theorem sh_skip1 (S : Stat) (p : ShP) (N : Int) (R : List Entry) (i : Nat) : Out.way [true, true, true, true, false] (shR S p N R i) = some (shHead p i ++ [decide ((shA p.s (p.f.L.getD i Entry.dflt)).sec > 0)],
  (.nrm, shS1 p (IntKind.i64.wrap (N + 1)) R 2 (.v (.int .i64 (IntKind.i64.wrap (i + 1)))))) := by kernel_rfl
theorem sh_take0 (S : Stat) (p : ShP) (N : Int) (R : List Entry) (i : Nat) : Out.way [true, true, true, false, true, true] (shR S p N R i) = some (shHead p i ++ [decide ((p.f.L.getD i Entry.dflt).sec > 0), decide (R.length = R.length ∧ R.length ≤ 134217727)],
  (.nrm, shS1 p N (R ++ [p.f.L.getD i Entry.dflt]) 5 (.v (.int .i64 (IntKind.i64.wrap (i + 1)))))) := by kernel_rfl
theorem sh_skip0 (S : Stat) (p : ShP) (N : Int) (R : List Entry) (i : Nat) : Out.way [true, true, true, false, false] (shR S p N R i) = some (shHead p i ++ [decide ((p.f.L.getD i Entry.dflt).sec > 0)],
  (.nrm, shS1 p N R 2 (.v (.int .i64 (IntKind.i64.wrap (i + 1)))))) := by kernel_rfl
theorem sh_over (S : Stat) (p : ShP) (N : Int) (R : List Entry) (i : Nat) : Out.way [false] (shR S p N R i) = some ([decide ((i : Int) < p.f.n)], (.exit 0, shS1 p N R 2 (.v (.int .i64 i)))) := by kernel_rfl
def shStp (P s : Int) (i : Nat) (e : Entry) (x : Nat × List Entry) : Nat × List Entry := (if e.port = P then x.1 + 1 else x.1, liveStp (shE P s) i e x.2)
def shCnt (P : Int) (L : List Entry) : Nat := (L.filter fun e => e.port == P).length
theorem goL_sh (P s : Int) : ∀ (L : List Entry) (i : Nat) (x : Nat × List Entry), goL (shStp P s) L i x = (x.1 + shCnt P L, x.2 ++ L.filterMap (liveE (shE P s)))
  | [], _, x => by simp [goL, shCnt]
  | e :: r, i, x => by
    rw [goL, goL_sh P s r]
    have h2 : (liveStp (shE P s) i e x.2) ++ r.filterMap (liveE (shE P s)) = x.2 ++ (e :: r).filterMap (liveE (shE P s)) := by
      by_cases h : (shE P s e).sec > 0
      · simp [liveStp, liveE, h]
      · simp [liveStp, liveE, h]
    simp only [shStp, h2]
    congr 1
    by_cases hp : e.port = P
    · simp [hp, shCnt]; omega
    · simp [hp, shCnt]
def shFin (p : ShP) (x : Nat × List Entry) : BSt := ⟨⟨[(0, [], .ptr 0 0), (7, [], .v (.int .i64 (x.1 : Nat))), (8, [], tok 2 x.2.length)], p.f.hp, 3⟩, 2, .entry x.2⟩
def shortR (P s : Int) (L : List Entry) : List Entry := L.filterMap (liveE (shE P s))
noncomputable def gShL : LoopFn := onTrimB 2 shTs fun st => match st.slots, st.heap with
  | [(0, [], .ptr 0 0), (1, [], .v (.int .i64 P)), (2, [], .v (.int .i64 s)), (7, [], .ki .i64 0), (8, [], .v (.slice none 0 0)), (9, [], .ki .i64 0)], [(0, .agg [.v (.int .i64 x), .v (.int .i64 y), .slr 1 n 1 false]), (1, .rows (.entry L))] =>
      some (.ite (decide (L.length = n ∧ n ≤ 67108864)) (.ret (.exit 0, (shFin ⟨⟨x, y, n, L, 0⟩, P, s⟩ (shCnt P L, shortR P s L)).adopt)) .bad)
  | _, _ => none
theorem gShL_ok (S : Stat) (ls : List (Nat × LoopFn)) : LoopOk Try.prog (withLoops (cAt (S.wt 0)) ls) (fnOf 26).ntmps (lpOf 26 0) gShL := by
  refine loop_build cAt_fam (nx := 2) (fuel := 20) (e := 91) (ts := shTs) (π := ShP) (α := Entry) (τ := Nat × List Entry) (S.wt 0) (fun _ i => S.wt i) (fun _ _ => rfl) (fun p => p.f.L) (fun p i x => shSt p (x.1 : Nat) x.2 (.v (.int .i64 i)))
    (fun p i x => p.f.L.length = p.f.n ∧ p.f.n ≤ 67108864 ∧ x.2.length ≤ i ∧ x.1 ≤ i) (fun p => shStp p.P p.s) (.exit 0) shFin (fun _ _ _ => ⟨rfl, rfl⟩) (fun _ _ => ⟨rfl, rfl⟩) (fun _ _ => rfl) ?_ ?_ ?_
  · intro st o r ho hr
    split at ho
    · rename_i P s x y n L hsl hhp
      injection ho with ho
      subst ho
      have hh := Out.ite_bad hr
      obtain ⟨rfl, hlt⟩ := of_decide_eq_true hh.1
      obtain rfl := Option.some.inj hh.2
      refine ⟨⟨⟨x, y, L.length, L, 0⟩, P, s⟩, (0, []), ⟨rfl, hlt, Nat.le_refl _, Nat.le_refl _⟩, rfl, by rw [goL_sh]; simp [shortR], fun E hE => ⟨?_, ?_⟩⟩
      · rw [hsl]; exact ⟨⟨_, rfl, rfl⟩, ⟨_, rfl, rfl⟩, ⟨_, rfl, rfl⟩, ⟨_, rfl, rfl⟩, ⟨_, rfl, by simp [tok, SV.den, hE]⟩, ⟨_, rfl, rfl⟩, trivial⟩
      · rw [hhp]; exact ⟨⟨_, rfl, by simp [SV.cells, SV.cellss], trivial, rfl⟩, ⟨_, rfl, rfl, trivial, rfl⟩, trivial⟩
    · cases ho
  · intro p i e x he hinv
    obtain ⟨N, R⟩ := x
    obtain ⟨h1, h2, h3, h3'⟩ := hinv
    dsimp only at h3 h3'
    have hi := (List.getElem?_eq_some_iff.1 he).1
    have e1 : p.f.L.getD i Entry.dflt = e := by simp [List.getD, he]
    have hii : (i : Int) < p.f.n := by omega
    have re : ∀ (N : Int) (N' : Nat) (R : List Entry) (b : Nat), N = (N' : Nat) → ∀ (E1 E2 : Env), Env.upto 2 E1 E2 → E2.ad 2 = E1.ad b → E2.cp 2 = E1.cp b → ReD2 (S.wt i) E1 (shS1 p N R b (.v (.int .i64 (IntKind.i64.wrap (i + 1))))).st (S.wt (i + 1 : Nat)) E2 (shSt p (N' : Nat) R (.v (.int .i64 ((i + 1 : Nat) : Int)))).st := by
      intro N N' R b hN E1 E2 hu ha hc
      rw [wrap_succ (n := 67108865) (by omega) (by omega), hN]
      exact ⟨⟨⟨_, rfl, ptr_upto hu (by omega)⟩, ⟨_, rfl, rfl⟩, ⟨_, rfl, rfl⟩, ⟨_, rfl, rfl⟩, ⟨_, rfl, tok_alias ha hc⟩, ⟨_, rfl, rfl⟩, trivial⟩, ⟨⟨_, rfl, rf_upto hu (by omega) _ _ _, trivial, (hu 0 (by omega)).1⟩, ⟨_, rfl, rfl, trivial, (hu 1 (by omega)).1⟩, trivial⟩⟩
    have h4 : R.length ≤ 134217727 := by omega
    have hw : IntKind.i64.wrap ((N : Int) + 1) = ((N + 1 : Nat) : Int) := wrap_succ (n := 67108865) (by omega) (by omega)
    by_cases hp : e.port = p.P
    · have hb : (e.port == p.P) = true := by simp [hp]
      have hE : shE p.P p.s e = shA p.s e := if_pos hp
      by_cases hk : (shA p.s e).sec > 0
      · have hs : shStp p.P p.s i e (N, R) = (N + 1, R ++ [shA p.s e]) := by simp only [shStp, if_pos hp, liveStp, hE, if_pos hk]
        rw [hs]
        refine ⟨_, Out.way_sel (sh_take1 S p N R i) (by rw [shHead, e1, decide_eq_true hii, decide_eq_true hk, decide_eq_true hi, hb]; simp [h4]), ⟨h1, h2, by simp; omega, by show N + 1 ≤ i + 1; omega⟩, by rw [e1]; rfl, fun E1 E2 hu ha hc => ?_⟩
        rw [e1]
        exact re _ _ _ 5 hw E1 E2 hu ha hc
      · have hs : shStp p.P p.s i e (N, R) = (N + 1, R) := by simp only [shStp, if_pos hp, liveStp, hE, if_neg hk]
        rw [hs]
        exact ⟨_, Out.way_sel (sh_skip1 S p N R i) (by rw [shHead, e1, decide_eq_true hii, decide_eq_false hk, decide_eq_true hi, hb]; simp), ⟨h1, h2, by show R.length ≤ i + 1; omega, by show N + 1 ≤ i + 1; omega⟩, rfl, fun E1 E2 hu ha hc => re _ _ _ 2 hw E1 E2 hu ha hc⟩
    · have hb : (e.port == p.P) = false := by simp [hp]
      have hE : shE p.P p.s e = e := if_neg hp
      by_cases hk : e.sec > 0
      · have hs : shStp p.P p.s i e (N, R) = (N, R ++ [e]) := by simp only [shStp, if_neg hp, liveStp, hE, if_pos hk]
        rw [hs]
        refine ⟨_, Out.way_sel (sh_take0 S p N R i) (by rw [shHead, e1, decide_eq_true hii, decide_eq_true hk, decide_eq_true hi, hb]; simp [h4]), ⟨h1, h2, by simp; omega, by show N ≤ i + 1; omega⟩, by rw [e1]; rfl, fun E1 E2 hu ha hc => ?_⟩
        rw [e1]
        exact re _ _ _ 5 rfl E1 E2 hu ha hc
      · have hs : shStp p.P p.s i e (N, R) = (N, R) := by simp only [shStp, if_neg hp, liveStp, hE, if_neg hk]
        rw [hs]
        exact ⟨_, Out.way_sel (sh_skip0 S p N R i) (by rw [shHead, e1, decide_eq_true hii, decide_eq_false hk, decide_eq_true hi, hb]; simp), ⟨h1, h2, by show R.length ≤ i + 1; omega, by show N ≤ i + 1; omega⟩, rfl, fun E1 E2 hu ha hc => re _ _ _ 2 rfl E1 E2 hu ha hc⟩
  · intro p x hinv
    obtain ⟨N, R⟩ := x
    obtain ⟨h1, h2, h3, h3'⟩ := hinv
    have hn : ¬ ((p.f.L.length : Nat) : Int) < p.f.n := by omega
    exact ⟨_, Out.way_sel (sh_over S p N R p.f.L.length) (by rw [decide_eq_false hn]), by simp, rfl, fun E1 E2 hu ha hc => ⟨⟨⟨_, rfl, ptr_upto hu (by omega)⟩, ⟨_, rfl, rfl⟩, ⟨_, rfl, tok_alias ha hc⟩, trivial⟩, ⟨⟨_, rfl, rf_upto hu (by omega) _ _ _, trivial, (hu 0 (by omega)).1⟩, ⟨_, rfl, rfl, trivial, (hu 1 (by omega)).1⟩, trivial⟩⟩⟩
noncomputable def shLs : List (Nat × LoopFn) := [(4, gShL)]
theorem sh_walk (S : Stat) (p : ShP) : trimF 3 (inline (withLoops (cAt (S.wt 0)) shLs) 20 (fnOf 26) [.ptr 0 0, .v (.int .i64 p.P), .v (.int .i64 p.s)] p.f.hp 2) =
    .ite (decide (p.f.L.length = p.f.n ∧ p.f.n ≤ 67108864)) (.ret (.v (.int .i64 (shCnt p.P p.f.L : Nat)), rfN p.f.x p.f.y (shortR p.P p.s p.f.L).length (shortR p.P p.s p.f.L) p.f.L, 3)) .bad := by kernel_rfl
def gRShort : CanonFn := fun ro args H m => match args, H with
  | [.ptr 0 0, .v (.int .i64 P), .v (.int .i64 s)], [(0, .agg [.v (.int .i64 x), .v (.int .i64 y), .slr 1 n 1 false]), (1, .rows (.entry L))] => bif (ro 0 || ro 1) || !(Nat.beq m 2) then .bad else
      .ite (decide (L.length = n ∧ n ≤ 67108864)) (.ret (.v (.int .i64 (shCnt P L : Nat)), rfN x y (shortR P s L).length (shortR P s L) L, 3)) .bad
  | _, _ => .bad
theorem rshort_ok : CanonOk 26 gRShort := by
  refine canon_ex cAt_fam Try.func26 (by kernel_rfl) shLs (by kernel_rfl) (by kernel_rfl) (fun S i k g hg => by
    match i, hg with
    | 0, hg => injection hg with hg; injection hg with h1 h2; subst h1 h2; exact gShL_ok S _
    | i + 1, hg => cases hg) ?_
  intro S args H m r hr
  unfold gRShort at hr
  split at hr <;> (try cases hr)
  rename_i P s x y n L
  cases hb : ((S.ro 0 || S.ro 1) || !(Nat.beq m 2)) with
  | true => rw [hb] at hr; cases hr
  | false =>
    rw [hb] at hr
    simp only [cond_false] at hr
    obtain ⟨hc, hr⟩ := Out.ite_bad hr
    simp only [Out.sel, Option.some.injEq] at hr
    subst hr
    simp only [Bool.or_eq_false_iff, Bool.not_eq_false'] at hb
    obtain ⟨⟨r0, r1⟩, hm⟩ := hb
    have := Nat.eq_of_beq_eq_true hm; subst this
    refine ⟨fun k z hk => ?_, rfl, rfl, rfl, rfl, by show 2 ≤ 3; omega, 20, _, by have := congrArg Out.sel (sh_walk S ⟨⟨x, y, n, L, 0⟩, P, s⟩); dsimp only at this; rw [hc] at this; exact this, rfl, rfl, fun _ _ => rfl⟩
    match k, hk with
    | 0, _ => exact r0
    | 1, _ => exact r1
    | k + 2, hk => cases hk
end

section
open Go Go.RowKit

noncomputable def psLn (S : Stat) : List (Nat × ReadFn) := (52, specRead (spc gAt) S 3) :: psAt S
theorem psLn_ok (S : Stat) : ReadsOk S [] (psLn S) := .cons (specRead_ok (fun S' => spc_ok at_ok S') 3) <| psAt_ok S
noncomputable def ssLn (S : Stat) : List (Nat × SpecFn) := [(53, spc gWithout S)]
theorem ssLn_ok (S : Stat) : ∀ f g, (f, g) ∈ ssLn S → SpecOk S [] f g := specs_cons (spc_ok without_ok S) specs_nil
noncomputable def cLn (S : Stat) : Ctx := mkCtx S [] (psLn S) (ssLn S) 20 3
theorem cLn_fam : Fam cLn := fam_of psLn_ok ssLn_ok
/-- the first pieces of a code, and the rest -/
def headC : Nat → Code → Code
  | 0, _ => .skip
  | k + 1, .seq x y => .seq x (headC k y)
  | _ + 1, _ => .refuse default
def tailC : Nat → Code → Code
  | 0, c => c
  | k + 1, .seq x y => tailC k y
  | _ + 1, _ => .skip
theorem cutC {P : Program} {c : Ctx} {n fuel : Nat} (hc : CtxFull P c) (hd : DrawOk P c n) {w0 : World} {M : Nat → Nat → Prop} {Q : Exit → Act → World → Prop} : ∀ (k : Nat) (code : Code) (st : St) (ex : Ex) (st1 : St) (a : Act) (w : World) (E : Env), LoopsOk P c n code → Sat c n w0 M E st a w →
    (exec c n fuel (headC k code) st).sel = some (ex, st1) → (ex = .nrm → ∀ E' a' w', Env.upto st.next E E' → st.next ≤ st1.next → Sat c n w0 M E' st1 a' w' → (tailC k code).wp P Q a' w') →
    (ex ≠ .nrm → ∀ E' a' w', Env.upto st.next E E' → st.next ≤ st1.next → Sat c n w0 M E' st1 a' w' → Q ex.out a' w') → code.wp P Q a w
  | 0, code, st, ex, st1, a, w, E, hl, sat, h, hK, hK2 => by
    have h' : (Out.ret (Ex.nrm, st)).sel = some (ex, st1) := h
    simp only [Out.sel, Option.some.injEq, Prod.mk.injEq] at h'
    obtain ⟨rfl, rfl⟩ := h'
    exact hK rfl E a w (Env.upto.refl _ _) (Nat.le_refl _) sat
  | k + 1, code, st, ex, st1, a, w, E, hl, sat, h, hK, hK2 => by
    cases code with
    | seq x y =>
      have h' : ((exec c n fuel x st).bind fun r => match r.1 with | .nrm => exec c n fuel (headC k y) r.2 | z => .ret (z, r.2)).sel = some (ex, st1) := h
      rw [Out.sel_bind] at h'
      cases h1 : (exec c n fuel x st).sel with
      | none => rw [h1] at h'; cases h'
      | some r =>
        obtain ⟨e1, st2⟩ := r
        rw [h1] at h'
        simp only [Option.bind_some] at h'
        refine wp_seq (exec_ok hc hd x (fun b hb => hl b (List.mem_append_left _ hb)) w0 M _ st st2 e1 a w E sat h1 ?_)
        intro E' a' w' hu hle sat'
        cases e1 with
        | nrm => exact cutC hc hd k y st2 ex st1 a' w' E' (fun b hb => hl b (List.mem_append_right _ hb)) sat' h' (fun he E'' a'' w'' hu2 hle2 sat2 => hK he E'' a'' w'' (hu.trans hu2 hle) (Nat.le_trans hle hle2) sat2) (fun he E'' a'' w'' hu2 hle2 sat2 => hK2 he E'' a'' w'' (hu.trans hu2 hle) (Nat.le_trans hle hle2) sat2)
        | exit i => simp only [Out.sel, Option.some.injEq, Prod.mk.injEq] at h'; obtain ⟨rfl, rfl⟩ := h'; exact hK2 (by simp) E' a' w' hu hle sat'
        | ret => simp only [Out.sel, Option.some.injEq, Prod.mk.injEq] at h'; obtain ⟨rfl, rfl⟩ := h'; exact hK2 (by simp) E' a' w' hu hle sat'
        | goto l => simp only [Out.sel, Option.some.injEq, Prod.mk.injEq] at h'; obtain ⟨rfl, rfl⟩ := h'; exact hK2 (by simp) E' a' w' hu hle sat'
    | _ => exact absurd h (by simp [headC, exec, Out.sel])

/-! ### who goes first -/
structure LnP where
  f : RfP
  P : Int
def mnTs : List Nat := [0, 1, 2, 8, 9]
def lnSl (p : LnP) (r : Slots) : Slots := (0, [], .ptr 0 0) :: (1, [], .v (.int .u64 p.f.m)) :: (2, [], .v (.int .i64 p.P)) :: r
def lmSt (p : LnP) (k i : SV) : St := ⟨lnSl p [(8, [], k), (9, [], i)], p.f.hp, 2⟩
noncomputable def lmR (S : Stat) (p : LnP) (k i : Nat) : Out (Ex × St) := trimO mnTs 2 (exec (cLn (S.wt i)) (fnOf 22).ntmps 20 (lpOf 22 0) (lmSt p (.v (.int .i64 k)) (.v (.int .i64 i))))
def inL (p : LnP) (i : Nat) : Bool := (decide (0 ≤ (i : Int)) && decide ((i : Int) < p.f.n))
theorem lm_less (S : Stat) (p : LnP) (k i : Nat) : Out.way [true, true, true] (lmR S p k i) = some ([decide ((i : Int) < p.f.n), inL p i && (decide (i < p.f.L.length) && (inL p k && decide (k < p.f.L.length))), decide ((p.f.L.getD i Entry.dflt).sec < (p.f.L.getD k Entry.dflt).sec)], (.nrm, lmSt p (.v (.int .i64 i)) (.v (.int .i64 (IntKind.i64.wrap (i + 1)))))) := by kernel_rfl
theorem lm_more (S : Stat) (p : LnP) (k i : Nat) : Out.way [true, true, false] (lmR S p k i) = some ([decide ((i : Int) < p.f.n), inL p i && (decide (i < p.f.L.length) && (inL p k && decide (k < p.f.L.length))), decide ((p.f.L.getD i Entry.dflt).sec < (p.f.L.getD k Entry.dflt).sec)], (.nrm, lmSt p (.v (.int .i64 k)) (.v (.int .i64 (IntKind.i64.wrap (i + 1)))))) := by kernel_rfl
theorem lm_over (S : Stat) (p : LnP) (k i : Nat) : Out.way [false] (lmR S p k i) = some ([decide ((i : Int) < p.f.n)], (.exit 0, lmSt p (.v (.int .i64 k)) (.v (.int .i64 i)))) := by kernel_rfl
def mnStp (L : List Entry) (i : Nat) (e : Entry) (k : Nat) : Nat := if e.sec < (L.getD k Entry.dflt).sec then i + 1 else k
def minI (L : List Entry) : Nat := goL (mnStp L) (L.drop 1) 0 0
theorem runL_goL {α τ : Type} {stp : Nat → α → τ → τ} {fin : τ → Ex × St} : ∀ (l : List α) (i : Nat) (x : τ), runL (fun i a x => Step.go (stp i a x)) fin l i x = fin (goL stp l i x)
  | [], _, _ => rfl
  | a :: r, i, x => by simp only [runL, goL]; exact runL_goL r (i + 1) _
theorem mn_go (L : List Entry) : ∀ (l : List Entry) (i k : Nat), L.drop (i + 1) = l → k < L.length → goL (mnStp L) l i k < L.length ∧ L.getD (goL (mnStp L) l i k) Entry.dflt = minG (L.getD k Entry.dflt) l
  | [], i, k, _, hk => ⟨hk, rfl⟩
  | e :: r, i, k, h, hk => by
    have hi : i + 1 < L.length := by
      have := congrArg List.length h
      simp at this
      omega
    have he : L.getD (i + 1) Entry.dflt = e := by
      have := congrArg List.head? h
      rw [List.head?_drop] at this
      simp [List.getD, this]
    have hr : L.drop (i + 1 + 1) = r := by
      rw [List.drop_eq_getElem_cons hi] at h
      injection h
    rw [goL]
    have hs : minG (L.getD k Entry.dflt) (e :: r) = minG (if e.sec < (L.getD k Entry.dflt).sec then e else L.getD k Entry.dflt) r := rfl
    rw [hs]
    unfold mnStp
    by_cases hlt : e.sec < (L.getD k Entry.dflt).sec
    · rw [if_pos hlt, if_pos hlt, ← he]
      exact mn_go L r (i + 1) (i + 1) hr hi
    · rw [if_neg hlt, if_neg hlt]
      exact mn_go L r (i + 1) k hr hk
theorem minI_ok {L : List Entry} (h : 1 ≤ L.length) : minI L < L.length ∧ L.getD (minI L) Entry.dflt = minE L := by
  obtain ⟨h1, h2⟩ := mn_go L (L.drop 1) 0 0 rfl h
  refine ⟨h1, h2.trans ?_⟩
  cases L with
  | nil => simp at h
  | cons e r => rfl
def lmFin (p : LnP) (k : Nat) : St := ⟨lnSl p [(8, [], .v (.int .i64 k))], p.f.hp, 2⟩
def gMnL : LoopFn := onTrim 2 mnTs fun st => match st.slots, st.heap with
  | [(0, [], .ptr 0 0), (1, [], .v (.int .u64 m)), (2, [], .v (.int .i64 P)), (8, [], .ki .i64 0), (9, [], .ki .i64 1)], [(0, .agg [.v (.int .i64 x), .v (.int .i64 y), .slr 1 n 1 false]), (1, .rows (.entry L))] =>
      some (.ite (decide (L.length = n ∧ 1 ≤ n ∧ n ≤ 67108864)) (.ret (.exit 0, lmFin ⟨⟨x, y, n, L, m⟩, P⟩ (minI L))) .bad)
  | _, _ => none
theorem gMnL_ok (S : Stat) (ls : List (Nat × LoopFn)) : LoopOk Try.prog (withLoops (cLn (S.wt 0)) ls) (fnOf 22).ntmps (lpOf 22 0) gMnL := by
  refine loop_trim cLn_fam (nx := 2) (fuel := 20) (ts := mnTs) (π := LnP) (α := Entry) (τ := Nat) (S.wt 0) (fun _ i => S.wt ((i + 1 : Nat) : Int)) (fun _ _ => rfl) (fun p => p.f.L.drop 1) (fun p i k => lmSt p (.v (.int .i64 k)) (.v (.int .i64 ((i + 1 : Nat) : Int))))
    (fun p i k => p.f.L.length = p.f.n ∧ 1 ≤ p.f.n ∧ p.f.n ≤ 67108864 ∧ k < p.f.L.length) (fun p i e k => .go (mnStp p.f.L i e k)) (fun p k => (.exit 0, lmFin p k)) (fun _ _ _ => rfl) ?_ ?_ ?_
  · intro st o r ho hr
    split at ho
    · rename_i m P x y n L hsl hhp
      injection ho with ho
      subst ho
      have hh := Out.ite_bad hr
      obtain ⟨rfl, h1, hlt⟩ := of_decide_eq_true hh.1
      obtain rfl := Option.some.inj hh.2
      refine ⟨⟨⟨x, y, L.length, L, m⟩, P⟩, 0, ⟨rfl, h1, hlt, h1⟩, (runL_goL (fin := fun k => (.exit 0, lmFin ⟨⟨x, y, L.length, L, m⟩, P⟩ k)) _ _ _).symm, Nat.le_refl _, fun E => ⟨?_, ?_⟩⟩
      · rw [hsl]; exact ⟨⟨_, rfl, rfl⟩, ⟨_, rfl, rfl⟩, ⟨_, rfl, rfl⟩, ⟨_, rfl, rfl⟩, ⟨_, rfl, rfl⟩, trivial⟩
      · rw [hhp]; exact ⟨⟨_, rfl, by simp [SV.cells, SV.cellss], trivial⟩, ⟨_, rfl, rfl, trivial⟩, trivial⟩
    · cases ho
  · intro p i e k he hinv
    obtain ⟨h1, h2, h3, h4⟩ := hinv
    have he' : p.f.L[i + 1]? = some e := by rw [List.getElem?_drop, Nat.add_comm] at he; exact he
    have hi := (List.getElem?_eq_some_iff.1 he').1
    have e1 : p.f.L.getD (i + 1) Entry.dflt = e := by simp [List.getD, he']
    have t1 : ((i + 1 : Nat) : Int) < p.f.n := by omega
    have t2 : ((k : Nat) : Int) < p.f.n := by omega
    have hin : (inL p (i + 1) && (decide (i + 1 < p.f.L.length) && (inL p k && decide (k < p.f.L.length)))) = true := by
      unfold inL
      rw [decide_eq_true t1, decide_eq_true t2, decide_eq_true hi, decide_eq_true h4]
      simp
      omega
    have re : ∀ k E, ReD (S.wt ((i + 1 : Nat) : Int)) (lmSt p (.v (.int .i64 (k : Nat))) (.v (.int .i64 (IntKind.i64.wrap (((i + 1 : Nat) : Int) + 1))))) (S.wt ((i + 1 + 1 : Nat) : Int)) (lmSt p (.v (.int .i64 (k : Nat))) (.v (.int .i64 ((i + 1 + 1 : Nat) : Int)))) E := by
      intro k E
      rw [wrap_succ (n := 67108865) (by omega) (by omega)]
      exact ⟨⟨⟨_, rfl, rfl⟩, ⟨_, rfl, rfl⟩, ⟨_, rfl, rfl⟩, ⟨_, rfl, rfl⟩, ⟨_, rfl, rfl⟩, trivial⟩, ⟨⟨_, rfl, by simp [SV.cells, SV.cellss], trivial⟩, ⟨_, rfl, rfl, trivial⟩, trivial⟩⟩
    by_cases hlt : e.sec < (p.f.L.getD k Entry.dflt).sec
    · have hs : mnStp p.f.L i e k = i + 1 := if_pos hlt
      rw [hs]
      exact ⟨.nrm, _, Out.way_sel (lm_less S p k (i + 1)) (by rw [hin, e1, decide_eq_true t1, decide_eq_true hlt]), rfl, ⟨h1, h2, h3, hi⟩, re _⟩
    · have hs : mnStp p.f.L i e k = k := if_neg hlt
      rw [hs]
      exact ⟨.nrm, _, Out.way_sel (lm_more S p k (i + 1)) (by rw [hin, e1, decide_eq_true t1, decide_eq_false hlt]), rfl, ⟨h1, h2, h3, h4⟩, re _⟩
  · intro p k hinv
    obtain ⟨h1, h2, h3, h4⟩ := hinv
    have hl : (p.f.L.drop 1).length + 1 = p.f.L.length := by rw [List.length_drop]; omega
    have hn : ¬ (((p.f.L.drop 1).length + 1 : Nat) : Int) < p.f.n := by omega
    exact ⟨.exit 0, _, Out.way_sel (lm_over S p k ((p.f.L.drop 1).length + 1)) (by rw [decide_eq_false hn]), rfl, by simp, fun E => ⟨⟨⟨_, rfl, rfl⟩, ⟨_, rfl, rfl⟩, ⟨_, rfl, rfl⟩, ⟨_, rfl, rfl⟩, trivial⟩, ⟨⟨_, rfl, by simp [SV.cells, SV.cellss], trivial⟩, ⟨_, rfl, rfl, trivial⟩, trivial⟩⟩⟩
/-- the walk up to the second loop -/
noncomputable def lnA (S : Stat) (p : LnP) (ts : List Nat) : Out (Ex × St) := trimO ts 3 (exec (withLoops (cLn (S.wt 0)) [(9, gMnL), (18, noLoop)]) (fnOf 22).ntmps 20 (headC 9 (codeOf 22)) ⟨argSlots [.ptr 0 0, .v (.int .u64 p.f.m), .v (.int .i64 p.P)] 0, p.f.hp, 2⟩)
def badR (m P : Int) : Bool := (adrR m == 0 || (IntKind.u64.wrap ((adrR m).tdiv 1099511627776)).tmod 2 == 1) || decide (P < 0)
def fullR (x : Int) (n : Nat) (L : List Entry) (m : Int) : Bool := decide (atI (adrR (adrR m)) L 0 < 0) && (n : Int) == x
structure L2P where
  x : Int
  y : Int
  a : Int
  P : Int
  n : Nat
  L0 : List Entry
  L1 : List Entry
def hpQ1 (p : L2P) : Heap := [(0, .agg [.v (.int .i64 p.x), .v (.int .i64 p.y), .slr 1 p.n 1 false]), (1, .rows (.entry p.L1))]
def hpQ2 (p : L2P) : Heap := [(0, .agg [.v (.int .i64 p.x), .v (.int .i64 p.y), .slr 2 p.n 2 false]), (1, .rows (.entry p.L0)), (2, .rows (.entry p.L1))]
def l2Sl (p : L2P) (r : Slots) : Slots := (0, [], .ptr 0 0) :: (1, [], .v (.int .u64 p.a)) :: (2, [], .v (.int .i64 p.P)) :: r
theorem ln_bad (S : Stat) (p : LnP) : Out.way [true] (lnA S p [6]) = some ([badR p.f.m p.P], (.ret, ⟨[(6, [], .kb false)], p.f.hp, 3⟩)) := by kernel_rfl
def lnS (p : L2P) (H : Heap) : St := ⟨l2Sl p [(10, [], .v (.slice none 0 0)), (11, [], .kb false)], H, 3⟩
def lnPp (p : LnP) (L1 : List Entry) (n : Nat) : L2P := ⟨p.f.x, p.f.y, adrR p.f.m, p.P, n, p.f.L, L1⟩
theorem ln_full (S : Stat) (p : LnP) : Out.way [false, true, true, true, true, true] (lnA S p [0, 1, 2, 10, 11]) = some ([badR p.f.m p.P, decide (p.f.L.length = p.f.n ∧ p.f.n ≤ 67108864), fullR p.f.x p.f.n p.f.L p.f.m, decide (p.f.L.length = p.f.n ∧ 1 ≤ p.f.n ∧ p.f.n ≤ 67108864), true, decide (p.f.L.length = p.f.n ∧ p.f.n ≤ 67108864)],
  (.nrm, lnS (lnPp p (woutE (minI p.f.L : Nat) p.f.L 0) (woutE (minI p.f.L : Nat) p.f.L 0).length) (hpQ2 (lnPp p (woutE (minI p.f.L : Nat) p.f.L 0) (woutE (minI p.f.L : Nat) p.f.L 0).length)))) := by kernel_rfl
theorem ln_has (S : Stat) (p : LnP) : Out.way [false, true, false, true, true] (lnA S p [0, 1, 2, 10, 11]) = some ([badR p.f.m p.P, decide (p.f.L.length = p.f.n ∧ p.f.n ≤ 67108864), fullR p.f.x p.f.n p.f.L p.f.m, decide (atI (adrR (adrR p.f.m)) p.f.L 0 ≥ 0), decide (p.f.L.length = p.f.n ∧ p.f.n ≤ 67108864)],
  (.nrm, lnS (lnPp p (woutE (atI (adrR (adrR p.f.m)) p.f.L 0) p.f.L 0) (woutE (atI (adrR (adrR p.f.m)) p.f.L 0) p.f.L 0).length) (hpQ2 (lnPp p (woutE (atI (adrR (adrR p.f.m)) p.f.L 0) p.f.L 0) (woutE (atI (adrR (adrR p.f.m)) p.f.L 0) p.f.L 0).length)))) := by kernel_rfl
theorem ln_lacks (S : Stat) (p : LnP) : Out.way [false, true, false, false] (lnA S p [0, 1, 2, 10, 11]) = some ([badR p.f.m p.P, decide (p.f.L.length = p.f.n ∧ p.f.n ≤ 67108864), fullR p.f.x p.f.n p.f.L p.f.m, decide (atI (adrR (adrR p.f.m)) p.f.L 0 ≥ 0)],
  (.nrm, lnS (lnPp p p.f.L p.f.n) (hpQ1 (lnPp p p.f.L p.f.n)))) := by kernel_rfl

/-! ### a new one takes its place -/
def newE (p : L2P) : Entry := ⟨p.a, p.P, p.y⟩
def kbS (b : Bool) : SV := match b with | true => .kb true | false => .kb false
def l2Ts : List Nat := [0, 1, 2, 10, 11, 12]
def l2In (p : L2P) (i : Nat) : Bool := decide (0 ≤ (i : Int)) && decide ((i : Int) < p.n)

def l1St (p : L2P) (R : List Entry) (put i : SV) : BSt := ⟨⟨l2Sl p [(10, [], tok 2 R.length), (11, [], put), (12, [], i)], hpQ1 p, 3⟩, 2, .entry R⟩
noncomputable def l1R (S : Stat) (p : L2P) (R : List Entry) (put : SV) (i : Nat) : Out (Ex × BSt) := trimB l2Ts 2 (execB (cLn (S.wt i)) (fnOf 22).ntmps 20 91 (lpOf 22 1) (l1St p R put (.v (.int .i64 i))))
def l1S1 (p : L2P) (R : List Entry) (b : Nat) (put i : SV) : BSt := ⟨⟨l2Sl p [(10, [], tok b R.length), (11, [], put), (12, [], i)], hpQ1 p, 2⟩, b, .entry R⟩
theorem l1_put (S : Stat) (p : L2P) (R : List Entry) (i : Nat) : Out.way [true, true, true, true, true, true, true, true] (l1R S p R (.kb false) i) = some ([decide ((i : Int) < p.n), l2In p i, decide (i < p.L1.length), decide ((p.L1.getD i Entry.dflt).mac > p.a), decide (R.length = R.length ∧ R.length ≤ 134217727), l2In p i, decide (i < p.L1.length), decide ((R ++ [newE p]).length = (R ++ [newE p]).length ∧ (R ++ [newE p]).length ≤ 134217727)],
  (.nrm, l1S1 p (R ++ [newE p] ++ [p.L1.getD i Entry.dflt]) 6 (.kb true) (.v (.int .i64 (IntKind.i64.wrap (i + 1)))))) := by kernel_rfl
theorem l1_not (S : Stat) (p : L2P) (R : List Entry) (i : Nat) : Out.way [true, true, true, false, true, true, true] (l1R S p R (.kb false) i) = some ([decide ((i : Int) < p.n), l2In p i, decide (i < p.L1.length), decide ((p.L1.getD i Entry.dflt).mac > p.a), l2In p i, decide (i < p.L1.length), decide (R.length = R.length ∧ R.length ≤ 134217727)],
  (.nrm, l1S1 p (R ++ [p.L1.getD i Entry.dflt]) 4 (.kb false) (.v (.int .i64 (IntKind.i64.wrap (i + 1)))))) := by kernel_rfl
theorem l1_on (S : Stat) (p : L2P) (R : List Entry) (i : Nat) : Out.way [true, true, true, true] (l1R S p R (.kb true) i) = some ([decide ((i : Int) < p.n), l2In p i, decide (i < p.L1.length), decide (R.length = R.length ∧ R.length ≤ 134217727)],
  (.nrm, l1S1 p (R ++ [p.L1.getD i Entry.dflt]) 4 (.kb true) (.v (.int .i64 (IntKind.i64.wrap (i + 1)))))) := by kernel_rfl
theorem l1_over0 (S : Stat) (p : L2P) (R : List Entry) (i : Nat) : Out.way [false] (l1R S p R (.kb false) i) = some ([decide ((i : Int) < p.n)], (.exit 2, l1S1 p R 2 (.kb false) (.v (.int .i64 i)))) := by kernel_rfl
theorem l1_over1 (S : Stat) (p : L2P) (R : List Entry) (i : Nat) : Out.way [false] (l1R S p R (.kb true) i) = some ([decide ((i : Int) < p.n)], (.exit 2, l1S1 p R 2 (.kb true) (.v (.int .i64 i)))) := by kernel_rfl
def l1Fin (p : L2P) (x : Bool × List Entry) : BSt := ⟨⟨l2Sl p [(10, [], tok 2 x.2.length), (11, [], kbS x.1)], hpQ1 p, 3⟩, 2, .entry x.2⟩
noncomputable def l1T (S : Stat) (p : L2P) (x : Bool × List Entry) : Out (Ex × BSt) := trimB [6] 2 (execB (cLn (S.wt 0)) (fnOf 22).ntmps 20 91 (tailC 10 (codeOf 22)) (l1Fin p x))
def l1H (p : L2P) (n b : Nat) : Heap := (0, .agg [.v (.int .i64 p.x), .v (.int .i64 p.y), .slr b n b false]) :: (hpQ1 p).tail
theorem l1_end1 (S : Stat) (p : L2P) (R : List Entry) : Out.way [] (l1T S p (true, R)) = some ([], (.ret, ⟨⟨[(6, [], .kb true)], l1H p R.length 2, 2⟩, 2, .entry R⟩)) := by kernel_rfl
theorem l1_end0 (S : Stat) (p : L2P) (R : List Entry) : Out.way [true] (l1T S p (false, R)) = some ([decide (R.length = R.length ∧ R.length ≤ 134217727)], (.ret, ⟨⟨[(6, [], .kb true)], l1H p (R ++ [newE p]).length 4, 2⟩, 4, .entry (R ++ [newE p])⟩)) := by kernel_rfl

def l2St (p : L2P) (R : List Entry) (put i : SV) : BSt := ⟨⟨l2Sl p [(10, [], tok 3 R.length), (11, [], put), (12, [], i)], hpQ2 p, 4⟩, 3, .entry R⟩
noncomputable def l2R (S : Stat) (p : L2P) (R : List Entry) (put : SV) (i : Nat) : Out (Ex × BSt) := trimB l2Ts 3 (execB (cLn (S.wt i)) (fnOf 22).ntmps 20 91 (lpOf 22 1) (l2St p R put (.v (.int .i64 i))))
def l2S1 (p : L2P) (R : List Entry) (b : Nat) (put i : SV) : BSt := ⟨⟨l2Sl p [(10, [], tok b R.length), (11, [], put), (12, [], i)], hpQ2 p, 3⟩, b, .entry R⟩
theorem l2_put (S : Stat) (p : L2P) (R : List Entry) (i : Nat) : Out.way [true, true, true, true, true, true, true, true] (l2R S p R (.kb false) i) = some ([decide ((i : Int) < p.n), l2In p i, decide (i < p.L1.length), decide ((p.L1.getD i Entry.dflt).mac > p.a), decide (R.length = R.length ∧ R.length ≤ 134217727), l2In p i, decide (i < p.L1.length), decide ((R ++ [newE p]).length = (R ++ [newE p]).length ∧ (R ++ [newE p]).length ≤ 134217727)],
  (.nrm, l2S1 p (R ++ [newE p] ++ [p.L1.getD i Entry.dflt]) 7 (.kb true) (.v (.int .i64 (IntKind.i64.wrap (i + 1)))))) := by kernel_rfl
theorem l2_not (S : Stat) (p : L2P) (R : List Entry) (i : Nat) : Out.way [true, true, true, false, true, true, true] (l2R S p R (.kb false) i) = some ([decide ((i : Int) < p.n), l2In p i, decide (i < p.L1.length), decide ((p.L1.getD i Entry.dflt).mac > p.a), l2In p i, decide (i < p.L1.length), decide (R.length = R.length ∧ R.length ≤ 134217727)],
  (.nrm, l2S1 p (R ++ [p.L1.getD i Entry.dflt]) 5 (.kb false) (.v (.int .i64 (IntKind.i64.wrap (i + 1)))))) := by kernel_rfl
theorem l2_on (S : Stat) (p : L2P) (R : List Entry) (i : Nat) : Out.way [true, true, true, true] (l2R S p R (.kb true) i) = some ([decide ((i : Int) < p.n), l2In p i, decide (i < p.L1.length), decide (R.length = R.length ∧ R.length ≤ 134217727)],
  (.nrm, l2S1 p (R ++ [p.L1.getD i Entry.dflt]) 5 (.kb true) (.v (.int .i64 (IntKind.i64.wrap (i + 1)))))) := by kernel_rfl
theorem l2_over0 (S : Stat) (p : L2P) (R : List Entry) (i : Nat) : Out.way [false] (l2R S p R (.kb false) i) = some ([decide ((i : Int) < p.n)], (.exit 2, l2S1 p R 3 (.kb false) (.v (.int .i64 i)))) := by kernel_rfl
theorem l2_over1 (S : Stat) (p : L2P) (R : List Entry) (i : Nat) : Out.way [false] (l2R S p R (.kb true) i) = some ([decide ((i : Int) < p.n)], (.exit 2, l2S1 p R 3 (.kb true) (.v (.int .i64 i)))) := by kernel_rfl
def l2Fin (p : L2P) (x : Bool × List Entry) : BSt := ⟨⟨l2Sl p [(10, [], tok 3 x.2.length), (11, [], kbS x.1)], hpQ2 p, 4⟩, 3, .entry x.2⟩
noncomputable def l2T (S : Stat) (p : L2P) (x : Bool × List Entry) : Out (Ex × BSt) := trimB [6] 3 (execB (cLn (S.wt 0)) (fnOf 22).ntmps 20 91 (tailC 10 (codeOf 22)) (l2Fin p x))
def l2H (p : L2P) (n b : Nat) : Heap := (0, .agg [.v (.int .i64 p.x), .v (.int .i64 p.y), .slr b n b false]) :: (hpQ2 p).tail
theorem l2_end1 (S : Stat) (p : L2P) (R : List Entry) : Out.way [] (l2T S p (true, R)) = some ([], (.ret, ⟨⟨[(6, [], .kb true)], l2H p R.length 3, 3⟩, 3, .entry R⟩)) := by kernel_rfl
theorem l2_end0 (S : Stat) (p : L2P) (R : List Entry) : Out.way [true] (l2T S p (false, R)) = some ([decide (R.length = R.length ∧ R.length ≤ 134217727)], (.ret, ⟨⟨[(6, [], .kb true)], l2H p (R ++ [newE p]).length 5, 3⟩, 5, .entry (R ++ [newE p])⟩)) := by kernel_rfl
end
end Go.Proofs.Ytfncoeoaniclmaa
