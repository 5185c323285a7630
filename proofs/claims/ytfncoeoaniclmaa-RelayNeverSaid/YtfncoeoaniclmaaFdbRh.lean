/- The document's database: the contract of Learn. -/
import Derived.Test.YtfncoeoaniclmaaFdbRf
set_option linter.unusedVariables false
set_option maxRecDepth 100000
namespace Go.Proofs.Ytfncoeoaniclmaa
open Go Go.RowKit

noncomputable def psLn (S : Stat) : List (Nat × ReadFn) := (52, specRead (spc gAt) S 3) :: psAt S
theorem psLn_ok (S : Stat) : ReadsOk S [] (psLn S) := .cons (specRead_ok (fun S' => spc_ok at_ok S') 3) <| psAt_ok S
noncomputable def ssLn (S : Stat) : List (Nat × SpecFn) := [(53, spc gWithout S)]
theorem ssLn_ok (S : Stat) : ∀ f g, (f, g) ∈ ssLn S → SpecOk S [] f g := specs_cons (spc_ok without_ok S) specs_nil
noncomputable def cLn (S : Stat) : Ctx := mkCtx S [] (psLn S) (ssLn S) 20 3
theorem cLn_fam : Fam cLn := fam_of psLn_ok ssLn_ok
/-- the first pieces of a code, and the rest -/
def headC : Nat → Code → Code
  | 0, _ => .skip
  | k + 1, .seq x y => .seq x (headC k y)
  | _ + 1, _ => .refuse default
def tailC : Nat → Code → Code
  | 0, c => c
  | k + 1, .seq x y => tailC k y
  | _ + 1, _ => .skip
theorem cutC {P : Program} {c : Ctx} {n fuel : Nat} (hc : CtxFull P c) (hd : DrawOk P c n) {w0 : World} {M : Nat → Nat → Prop} {Q : Exit → Act → World → Prop} : ∀ (k : Nat) (code : Code) (st : St) (ex : Ex) (st1 : St) (a : Act) (w : World) (E : Env), LoopsOk P c n code → Sat c n w0 M E st a w →
    (exec c n fuel (headC k code) st).sel = some (ex, st1) → (ex = .nrm → ∀ E' a' w', Env.upto st.next E E' → st.next ≤ st1.next → Sat c n w0 M E' st1 a' w' → (tailC k code).wp P Q a' w') →
    (ex ≠ .nrm → ∀ E' a' w', Env.upto st.next E E' → st.next ≤ st1.next → Sat c n w0 M E' st1 a' w' → Q ex.out a' w') → code.wp P Q a w
  | 0, code, st, ex, st1, a, w, E, hl, sat, h, hK, hK2 => by
    have h' : (Out.ret (Ex.nrm, st)).sel = some (ex, st1) := h
    simp only [Out.sel, Option.some.injEq, Prod.mk.injEq] at h'
    obtain ⟨rfl, rfl⟩ := h'
    exact hK rfl E a w (Env.upto.refl _ _) (Nat.le_refl _) sat
  | k + 1, code, st, ex, st1, a, w, E, hl, sat, h, hK, hK2 => by
    cases code with
    | seq x y =>
      have h' : ((exec c n fuel x st).bind fun r => match r.1 with | .nrm => exec c n fuel (headC k y) r.2 | z => .ret (z, r.2)).sel = some (ex, st1) := h
      rw [Out.sel_bind] at h'
      cases h1 : (exec c n fuel x st).sel with
      | none => rw [h1] at h'; cases h'
      | some r =>
        obtain ⟨e1, st2⟩ := r
        rw [h1] at h'
        simp only [Option.bind_some] at h'
        refine wp_seq (exec_ok hc hd x (fun b hb => hl b (List.mem_append_left _ hb)) w0 M _ st st2 e1 a w E sat h1 ?_)
        intro E' a' w' hu hle sat'
        cases e1 with
        | nrm => exact cutC hc hd k y st2 ex st1 a' w' E' (fun b hb => hl b (List.mem_append_right _ hb)) sat' h' (fun he E'' a'' w'' hu2 hle2 sat2 => hK he E'' a'' w'' (hu.trans hu2 hle) (Nat.le_trans hle hle2) sat2) (fun he E'' a'' w'' hu2 hle2 sat2 => hK2 he E'' a'' w'' (hu.trans hu2 hle) (Nat.le_trans hle hle2) sat2)
        | exit i => simp only [Out.sel, Option.some.injEq, Prod.mk.injEq] at h'; obtain ⟨rfl, rfl⟩ := h'; exact hK2 (by simp) E' a' w' hu hle sat'
        | ret => simp only [Out.sel, Option.some.injEq, Prod.mk.injEq] at h'; obtain ⟨rfl, rfl⟩ := h'; exact hK2 (by simp) E' a' w' hu hle sat'
        | goto l => simp only [Out.sel, Option.some.injEq, Prod.mk.injEq] at h'; obtain ⟨rfl, rfl⟩ := h'; exact hK2 (by simp) E' a' w' hu hle sat'
    | _ => exact absurd h (by simp [headC, exec, Out.sel])

/-! ### who goes first -/
structure LnP where
  f : RfP
  P : Int
def mnTs : List Nat := [0, 1, 2, 8, 9]
def lnSl (p : LnP) (r : Slots) : Slots := (0, [], .ptr 0 0) :: (1, [], .v (.int .u64 p.f.m)) :: (2, [], .v (.int .i64 p.P)) :: r
def lmSt (p : LnP) (k i : SV) : St := ⟨lnSl p [(8, [], k), (9, [], i)], p.f.hp, 2⟩
noncomputable def lmR (S : Stat) (p : LnP) (k i : Nat) : Out (Ex × St) := trimO mnTs 2 (exec (cLn (S.wt i)) (fnOf 22).ntmps 20 (lpOf 22 0) (lmSt p (.v (.int .i64 k)) (.v (.int .i64 i))))
def inL (p : LnP) (i : Nat) : Bool := (decide (0 ≤ (i : Int)) && decide ((i : Int) < p.f.n))
theorem lm_less (S : Stat) (p : LnP) (k i : Nat) : Out.way [true, true, true] (lmR S p k i) = some ([decide ((i : Int) < p.f.n), inL p i && (decide (i < p.f.L.length) && (inL p k && decide (k < p.f.L.length))), decide ((p.f.L.getD i Entry.dflt).sec < (p.f.L.getD k Entry.dflt).sec)], (.nrm, lmSt p (.v (.int .i64 i)) (.v (.int .i64 (IntKind.i64.wrap (i + 1)))))) := by kernel_rfl
theorem lm_more (S : Stat) (p : LnP) (k i : Nat) : Out.way [true, true, false] (lmR S p k i) = some ([decide ((i : Int) < p.f.n), inL p i && (decide (i < p.f.L.length) && (inL p k && decide (k < p.f.L.length))), decide ((p.f.L.getD i Entry.dflt).sec < (p.f.L.getD k Entry.dflt).sec)], (.nrm, lmSt p (.v (.int .i64 k)) (.v (.int .i64 (IntKind.i64.wrap (i + 1)))))) := by kernel_rfl
theorem lm_over (S : Stat) (p : LnP) (k i : Nat) : Out.way [false] (lmR S p k i) = some ([decide ((i : Int) < p.f.n)], (.exit 0, lmSt p (.v (.int .i64 k)) (.v (.int .i64 i)))) := by kernel_rfl
def mnStp (L : List Entry) (i : Nat) (e : Entry) (k : Nat) : Nat := if e.sec < (L.getD k Entry.dflt).sec then i + 1 else k
def minI (L : List Entry) : Nat := goL (mnStp L) (L.drop 1) 0 0
theorem runL_goL {α τ : Type} {stp : Nat → α → τ → τ} {fin : τ → Ex × St} : ∀ (l : List α) (i : Nat) (x : τ), runL (fun i a x => Step.go (stp i a x)) fin l i x = fin (goL stp l i x)
  | [], _, _ => rfl
  | a :: r, i, x => by simp only [runL, goL]; exact runL_goL r (i + 1) _
theorem mn_go (L : List Entry) : ∀ (l : List Entry) (i k : Nat), L.drop (i + 1) = l → k < L.length → goL (mnStp L) l i k < L.length ∧ L.getD (goL (mnStp L) l i k) Entry.dflt = minG (L.getD k Entry.dflt) l
  | [], i, k, _, hk => ⟨hk, rfl⟩
  | e :: r, i, k, h, hk => by
    have hi : i + 1 < L.length := by
      have := congrArg List.length h
      simp at this
      omega
    have he : L.getD (i + 1) Entry.dflt = e := by
      have := congrArg List.head? h
      rw [List.head?_drop] at this
      simp [List.getD, this]
    have hr : L.drop (i + 1 + 1) = r := by
      rw [List.drop_eq_getElem_cons hi] at h
      injection h
    rw [goL]
    have hs : minG (L.getD k Entry.dflt) (e :: r) = minG (if e.sec < (L.getD k Entry.dflt).sec then e else L.getD k Entry.dflt) r := rfl
    rw [hs]
    unfold mnStp
    by_cases hlt : e.sec < (L.getD k Entry.dflt).sec
    · rw [if_pos hlt, if_pos hlt, ← he]
      exact mn_go L r (i + 1) (i + 1) hr hi
    · rw [if_neg hlt, if_neg hlt]
      exact mn_go L r (i + 1) k hr hk
theorem minI_ok {L : List Entry} (h : 1 ≤ L.length) : minI L < L.length ∧ L.getD (minI L) Entry.dflt = minE L := by
  obtain ⟨h1, h2⟩ := mn_go L (L.drop 1) 0 0 rfl h
  refine ⟨h1, h2.trans ?_⟩
  cases L with
  | nil => simp at h
  | cons e r => rfl
def lmFin (p : LnP) (k : Nat) : St := ⟨lnSl p [(8, [], .v (.int .i64 k))], p.f.hp, 2⟩
def gMnL : LoopFn := onTrim 2 mnTs fun st => match st.slots, st.heap with
  | [(0, [], .ptr 0 0), (1, [], .v (.int .u64 m)), (2, [], .v (.int .i64 P)), (8, [], .ki .i64 0), (9, [], .ki .i64 1)], [(0, .agg [.v (.int .i64 x), .v (.int .i64 y), .slr 1 n 1 false]), (1, .rows (.entry L))] =>
      some (.ite (decide (L.length = n ∧ 1 ≤ n ∧ n ≤ 67108864)) (.ret (.exit 0, lmFin ⟨⟨x, y, n, L, m⟩, P⟩ (minI L))) .bad)
  | _, _ => none
theorem gMnL_ok (S : Stat) (ls : List (Nat × LoopFn)) : LoopOk Try.prog (withLoops (cLn (S.wt 0)) ls) (fnOf 22).ntmps (lpOf 22 0) gMnL := by
  refine loop_trim cLn_fam (nx := 2) (fuel := 20) (ts := mnTs) (π := LnP) (α := Entry) (τ := Nat) (S.wt 0) (fun _ i => S.wt ((i + 1 : Nat) : Int)) (fun _ _ => rfl) (fun p => p.f.L.drop 1) (fun p i k => lmSt p (.v (.int .i64 k)) (.v (.int .i64 ((i + 1 : Nat) : Int))))
    (fun p i k => p.f.L.length = p.f.n ∧ 1 ≤ p.f.n ∧ p.f.n ≤ 67108864 ∧ k < p.f.L.length) (fun p i e k => .go (mnStp p.f.L i e k)) (fun p k => (.exit 0, lmFin p k)) (fun _ _ _ => rfl) ?_ ?_ ?_
  · intro st o r ho hr
    split at ho
    · rename_i m P x y n L hsl hhp
      injection ho with ho
      subst ho
      have hh := Out.ite_bad hr
      obtain ⟨rfl, h1, hlt⟩ := of_decide_eq_true hh.1
      obtain rfl := Option.some.inj hh.2
      refine ⟨⟨⟨x, y, L.length, L, m⟩, P⟩, 0, ⟨rfl, h1, hlt, h1⟩, (runL_goL (fin := fun k => (.exit 0, lmFin ⟨⟨x, y, L.length, L, m⟩, P⟩ k)) _ _ _).symm, Nat.le_refl _, fun E => ⟨?_, ?_⟩⟩
      · rw [hsl]; exact ⟨⟨_, rfl, rfl⟩, ⟨_, rfl, rfl⟩, ⟨_, rfl, rfl⟩, ⟨_, rfl, rfl⟩, ⟨_, rfl, rfl⟩, trivial⟩
      · rw [hhp]; exact ⟨⟨_, rfl, by simp [SV.cells, SV.cellss], trivial⟩, ⟨_, rfl, rfl, trivial⟩, trivial⟩
    · cases ho
  · intro p i e k he hinv
    obtain ⟨h1, h2, h3, h4⟩ := hinv
    have he' : p.f.L[i + 1]? = some e := by rw [List.getElem?_drop, Nat.add_comm] at he; exact he
    have hi := (List.getElem?_eq_some_iff.1 he').1
    have e1 : p.f.L.getD (i + 1) Entry.dflt = e := by simp [List.getD, he']
    have t1 : ((i + 1 : Nat) : Int) < p.f.n := by omega
    have t2 : ((k : Nat) : Int) < p.f.n := by omega
    have hin : (inL p (i + 1) && (decide (i + 1 < p.f.L.length) && (inL p k && decide (k < p.f.L.length)))) = true := by
      unfold inL
      rw [decide_eq_true t1, decide_eq_true t2, decide_eq_true hi, decide_eq_true h4]
      simp
      omega
    have re : ∀ k E, ReD (S.wt ((i + 1 : Nat) : Int)) (lmSt p (.v (.int .i64 (k : Nat))) (.v (.int .i64 (IntKind.i64.wrap (((i + 1 : Nat) : Int) + 1))))) (S.wt ((i + 1 + 1 : Nat) : Int)) (lmSt p (.v (.int .i64 (k : Nat))) (.v (.int .i64 ((i + 1 + 1 : Nat) : Int)))) E := by
      intro k E
      rw [wrap_succ (n := 67108865) (by omega) (by omega)]
      exact ⟨⟨⟨_, rfl, rfl⟩, ⟨_, rfl, rfl⟩, ⟨_, rfl, rfl⟩, ⟨_, rfl, rfl⟩, ⟨_, rfl, rfl⟩, trivial⟩, ⟨⟨_, rfl, by simp [SV.cells, SV.cellss], trivial⟩, ⟨_, rfl, rfl, trivial⟩, trivial⟩⟩
    by_cases hlt : e.sec < (p.f.L.getD k Entry.dflt).sec
    · have hs : mnStp p.f.L i e k = i + 1 := if_pos hlt
      rw [hs]
      exact ⟨.nrm, _, Out.way_sel (lm_less S p k (i + 1)) (by rw [hin, e1, decide_eq_true t1, decide_eq_true hlt]), rfl, ⟨h1, h2, h3, hi⟩, re _⟩
    · have hs : mnStp p.f.L i e k = k := if_neg hlt
      rw [hs]
      exact ⟨.nrm, _, Out.way_sel (lm_more S p k (i + 1)) (by rw [hin, e1, decide_eq_true t1, decide_eq_false hlt]), rfl, ⟨h1, h2, h3, h4⟩, re _⟩
  · intro p k hinv
    obtain ⟨h1, h2, h3, h4⟩ := hinv
    have hl : (p.f.L.drop 1).length + 1 = p.f.L.length := by rw [List.length_drop]; omega
    have hn : ¬ (((p.f.L.drop 1).length + 1 : Nat) : Int) < p.f.n := by omega
    exact ⟨.exit 0, _, Out.way_sel (lm_over S p k ((p.f.L.drop 1).length + 1)) (by rw [decide_eq_false hn]), rfl, by simp, fun E => ⟨⟨⟨_, rfl, rfl⟩, ⟨_, rfl, rfl⟩, ⟨_, rfl, rfl⟩, ⟨_, rfl, rfl⟩, trivial⟩, ⟨⟨_, rfl, by simp [SV.cells, SV.cellss], trivial⟩, ⟨_, rfl, rfl, trivial⟩, trivial⟩⟩⟩
/-- the walk up to the second loop -/
noncomputable def lnA (S : Stat) (p : LnP) (ts : List Nat) : Out (Ex × St) := trimO ts 3 (exec (withLoops (cLn (S.wt 0)) [(9, gMnL), (18, noLoop)]) (fnOf 22).ntmps 20 (headC 9 (codeOf 22)) ⟨argSlots [.ptr 0 0, .v (.int .u64 p.f.m), .v (.int .i64 p.P)] 0, p.f.hp, 2⟩)
def badR (m P : Int) : Bool := (adrR m == 0 || (IntKind.u64.wrap ((adrR m).tdiv 1099511627776)).tmod 2 == 1) || decide (P < 0)
def fullR (x : Int) (n : Nat) (L : List Entry) (m : Int) : Bool := decide (atI (adrR (adrR m)) L 0 < 0) && (n : Int) == x
structure L2P where
  x : Int
  y : Int
  a : Int
  P : Int
  n : Nat
  L0 : List Entry
  L1 : List Entry
def hpQ1 (p : L2P) : Heap := [(0, .agg [.v (.int .i64 p.x), .v (.int .i64 p.y), .slr 1 p.n 1 false]), (1, .rows (.entry p.L1))]
def hpQ2 (p : L2P) : Heap := [(0, .agg [.v (.int .i64 p.x), .v (.int .i64 p.y), .slr 2 p.n 2 false]), (1, .rows (.entry p.L0)), (2, .rows (.entry p.L1))]
def l2Sl (p : L2P) (r : Slots) : Slots := (0, [], .ptr 0 0) :: (1, [], .v (.int .u64 p.a)) :: (2, [], .v (.int .i64 p.P)) :: r
theorem ln_bad (S : Stat) (p : LnP) : Out.way [true] (lnA S p [6]) = some ([badR p.f.m p.P], (.ret, ⟨[(6, [], .kb false)], p.f.hp, 3⟩)) := by kernel_rfl
def lnS (p : L2P) (H : Heap) : St := ⟨l2Sl p [(10, [], .v (.slice none 0 0)), (11, [], .kb false)], H, 3⟩
def lnPp (p : LnP) (L1 : List Entry) (n : Nat) : L2P := ⟨p.f.x, p.f.y, adrR p.f.m, p.P, n, p.f.L, L1⟩
theorem ln_full (S : Stat) (p : LnP) : Out.way [false, true, true, true, true, true] (lnA S p [0, 1, 2, 10, 11]) = some ([badR p.f.m p.P, decide (p.f.L.length = p.f.n ∧ p.f.n ≤ 67108864), fullR p.f.x p.f.n p.f.L p.f.m, decide (p.f.L.length = p.f.n ∧ 1 ≤ p.f.n ∧ p.f.n ≤ 67108864), true, decide (p.f.L.length = p.f.n ∧ p.f.n ≤ 67108864)],
  (.nrm, lnS (lnPp p (woutE (minI p.f.L : Nat) p.f.L 0) (woutE (minI p.f.L : Nat) p.f.L 0).length) (hpQ2 (lnPp p (woutE (minI p.f.L : Nat) p.f.L 0) (woutE (minI p.f.L : Nat) p.f.L 0).length)))) := by kernel_rfl
theorem ln_has (S : Stat) (p : LnP) : Out.way [false, true, false, true, true] (lnA S p [0, 1, 2, 10, 11]) = some ([badR p.f.m p.P, decide (p.f.L.length = p.f.n ∧ p.f.n ≤ 67108864), fullR p.f.x p.f.n p.f.L p.f.m, decide (atI (adrR (adrR p.f.m)) p.f.L 0 ≥ 0), decide (p.f.L.length = p.f.n ∧ p.f.n ≤ 67108864)],
  (.nrm, lnS (lnPp p (woutE (atI (adrR (adrR p.f.m)) p.f.L 0) p.f.L 0) (woutE (atI (adrR (adrR p.f.m)) p.f.L 0) p.f.L 0).length) (hpQ2 (lnPp p (woutE (atI (adrR (adrR p.f.m)) p.f.L 0) p.f.L 0) (woutE (atI (adrR (adrR p.f.m)) p.f.L 0) p.f.L 0).length)))) := by kernel_rfl
theorem ln_lacks (S : Stat) (p : LnP) : Out.way [false, true, false, false] (lnA S p [0, 1, 2, 10, 11]) = some ([badR p.f.m p.P, decide (p.f.L.length = p.f.n ∧ p.f.n ≤ 67108864), fullR p.f.x p.f.n p.f.L p.f.m, decide (atI (adrR (adrR p.f.m)) p.f.L 0 ≥ 0)],
  (.nrm, lnS (lnPp p p.f.L p.f.n) (hpQ1 (lnPp p p.f.L p.f.n)))) := by kernel_rfl

/-! ### a new one takes its place -/
def newE (p : L2P) : Entry := ⟨p.a, p.P, p.y⟩
def kbS (b : Bool) : SV := match b with | true => .kb true | false => .kb false
def l2Ts : List Nat := [0, 1, 2, 10, 11, 12]
def l2In (p : L2P) (i : Nat) : Bool := decide (0 ≤ (i : Int)) && decide ((i : Int) < p.n)

def l1St (p : L2P) (R : List Entry) (put i : SV) : BSt := ⟨⟨l2Sl p [(10, [], tok 2 R.length), (11, [], put), (12, [], i)], hpQ1 p, 3⟩, 2, .entry R⟩
noncomputable def l1R (S : Stat) (p : L2P) (R : List Entry) (put : SV) (i : Nat) : Out (Ex × BSt) := trimB l2Ts 2 (execB (cLn (S.wt i)) (fnOf 22).ntmps 20 91 (lpOf 22 1) (l1St p R put (.v (.int .i64 i))))
def l1S1 (p : L2P) (R : List Entry) (b : Nat) (put i : SV) : BSt := ⟨⟨l2Sl p [(10, [], tok b R.length), (11, [], put), (12, [], i)], hpQ1 p, 2⟩, b, .entry R⟩
theorem l1_put (S : Stat) (p : L2P) (R : List Entry) (i : Nat) : Out.way [true, true, true, true, true, true, true, true] (l1R S p R (.kb false) i) = some ([decide ((i : Int) < p.n), l2In p i, decide (i < p.L1.length), decide ((p.L1.getD i Entry.dflt).mac > p.a), decide (R.length = R.length ∧ R.length ≤ 134217727), l2In p i, decide (i < p.L1.length), decide ((R ++ [newE p]).length = (R ++ [newE p]).length ∧ (R ++ [newE p]).length ≤ 134217727)],
  (.nrm, l1S1 p (R ++ [newE p] ++ [p.L1.getD i Entry.dflt]) 6 (.kb true) (.v (.int .i64 (IntKind.i64.wrap (i + 1)))))) := by kernel_rfl
theorem l1_not (S : Stat) (p : L2P) (R : List Entry) (i : Nat) : Out.way [true, true, true, false, true, true, true] (l1R S p R (.kb false) i) = some ([decide ((i : Int) < p.n), l2In p i, decide (i < p.L1.length), decide ((p.L1.getD i Entry.dflt).mac > p.a), l2In p i, decide (i < p.L1.length), decide (R.length = R.length ∧ R.length ≤ 134217727)],
  (.nrm, l1S1 p (R ++ [p.L1.getD i Entry.dflt]) 4 (.kb false) (.v (.int .i64 (IntKind.i64.wrap (i + 1)))))) := by kernel_rfl
theorem l1_on (S : Stat) (p : L2P) (R : List Entry) (i : Nat) : Out.way [true, true, true, true] (l1R S p R (.kb true) i) = some ([decide ((i : Int) < p.n), l2In p i, decide (i < p.L1.length), decide (R.length = R.length ∧ R.length ≤ 134217727)],
  (.nrm, l1S1 p (R ++ [p.L1.getD i Entry.dflt]) 4 (.kb true) (.v (.int .i64 (IntKind.i64.wrap (i + 1)))))) := by kernel_rfl
theorem l1_over0 (S : Stat) (p : L2P) (R : List Entry) (i : Nat) : Out.way [false] (l1R S p R (.kb false) i) = some ([decide ((i : Int) < p.n)], (.exit 2, l1S1 p R 2 (.kb false) (.v (.int .i64 i)))) := by kernel_rfl
theorem l1_over1 (S : Stat) (p : L2P) (R : List Entry) (i : Nat) : Out.way [false] (l1R S p R (.kb true) i) = some ([decide ((i : Int) < p.n)], (.exit 2, l1S1 p R 2 (.kb true) (.v (.int .i64 i)))) := by kernel_rfl
def l1Fin (p : L2P) (x : Bool × List Entry) : BSt := ⟨⟨l2Sl p [(10, [], tok 2 x.2.length), (11, [], kbS x.1)], hpQ1 p, 3⟩, 2, .entry x.2⟩
noncomputable def l1T (S : Stat) (p : L2P) (x : Bool × List Entry) : Out (Ex × BSt) := trimB [6] 2 (execB (cLn (S.wt 0)) (fnOf 22).ntmps 20 91 (tailC 10 (codeOf 22)) (l1Fin p x))
def l1H (p : L2P) (n b : Nat) : Heap := (0, .agg [.v (.int .i64 p.x), .v (.int .i64 p.y), .slr b n b false]) :: (hpQ1 p).tail
theorem l1_end1 (S : Stat) (p : L2P) (R : List Entry) : Out.way [] (l1T S p (true, R)) = some ([], (.ret, ⟨⟨[(6, [], .kb true)], l1H p R.length 2, 2⟩, 2, .entry R⟩)) := by kernel_rfl
theorem l1_end0 (S : Stat) (p : L2P) (R : List Entry) : Out.way [true] (l1T S p (false, R)) = some ([decide (R.length = R.length ∧ R.length ≤ 134217727)], (.ret, ⟨⟨[(6, [], .kb true)], l1H p (R ++ [newE p]).length 4, 2⟩, 4, .entry (R ++ [newE p])⟩)) := by kernel_rfl

def l2St (p : L2P) (R : List Entry) (put i : SV) : BSt := ⟨⟨l2Sl p [(10, [], tok 3 R.length), (11, [], put), (12, [], i)], hpQ2 p, 4⟩, 3, .entry R⟩
noncomputable def l2R (S : Stat) (p : L2P) (R : List Entry) (put : SV) (i : Nat) : Out (Ex × BSt) := trimB l2Ts 3 (execB (cLn (S.wt i)) (fnOf 22).ntmps 20 91 (lpOf 22 1) (l2St p R put (.v (.int .i64 i))))
def l2S1 (p : L2P) (R : List Entry) (b : Nat) (put i : SV) : BSt := ⟨⟨l2Sl p [(10, [], tok b R.length), (11, [], put), (12, [], i)], hpQ2 p, 3⟩, b, .entry R⟩
theorem l2_put (S : Stat) (p : L2P) (R : List Entry) (i : Nat) : Out.way [true, true, true, true, true, true, true, true] (l2R S p R (.kb false) i) = some ([decide ((i : Int) < p.n), l2In p i, decide (i < p.L1.length), decide ((p.L1.getD i Entry.dflt).mac > p.a), decide (R.length = R.length ∧ R.length ≤ 134217727), l2In p i, decide (i < p.L1.length), decide ((R ++ [newE p]).length = (R ++ [newE p]).length ∧ (R ++ [newE p]).length ≤ 134217727)],
  (.nrm, l2S1 p (R ++ [newE p] ++ [p.L1.getD i Entry.dflt]) 7 (.kb true) (.v (.int .i64 (IntKind.i64.wrap (i + 1)))))) := by kernel_rfl
theorem l2_not (S : Stat) (p : L2P) (R : List Entry) (i : Nat) : Out.way [true, true, true, false, true, true, true] (l2R S p R (.kb false) i) = some ([decide ((i : Int) < p.n), l2In p i, decide (i < p.L1.length), decide ((p.L1.getD i Entry.dflt).mac > p.a), l2In p i, decide (i < p.L1.length), decide (R.length = R.length ∧ R.length ≤ 134217727)],
  (.nrm, l2S1 p (R ++ [p.L1.getD i Entry.dflt]) 5 (.kb false) (.v (.int .i64 (IntKind.i64.wrap (i + 1)))))) := by kernel_rfl
theorem l2_on (S : Stat) (p : L2P) (R : List Entry) (i : Nat) : Out.way [true, true, true, true] (l2R S p R (.kb true) i) = some ([decide ((i : Int) < p.n), l2In p i, decide (i < p.L1.length), decide (R.length = R.length ∧ R.length ≤ 134217727)],
  (.nrm, l2S1 p (R ++ [p.L1.getD i Entry.dflt]) 5 (.kb true) (.v (.int .i64 (IntKind.i64.wrap (i + 1)))))) := by kernel_rfl
theorem l2_over0 (S : Stat) (p : L2P) (R : List Entry) (i : Nat) : Out.way [false] (l2R S p R (.kb false) i) = some ([decide ((i : Int) < p.n)], (.exit 2, l2S1 p R 3 (.kb false) (.v (.int .i64 i)))) := by kernel_rfl
theorem l2_over1 (S : Stat) (p : L2P) (R : List Entry) (i : Nat) : Out.way [false] (l2R S p R (.kb true) i) = some ([decide ((i : Int) < p.n)], (.exit 2, l2S1 p R 3 (.kb true) (.v (.int .i64 i)))) := by kernel_rfl
def l2Fin (p : L2P) (x : Bool × List Entry) : BSt := ⟨⟨l2Sl p [(10, [], tok 3 x.2.length), (11, [], kbS x.1)], hpQ2 p, 4⟩, 3, .entry x.2⟩
noncomputable def l2T (S : Stat) (p : L2P) (x : Bool × List Entry) : Out (Ex × BSt) := trimB [6] 3 (execB (cLn (S.wt 0)) (fnOf 22).ntmps 20 91 (tailC 10 (codeOf 22)) (l2Fin p x))
def l2H (p : L2P) (n b : Nat) : Heap := (0, .agg [.v (.int .i64 p.x), .v (.int .i64 p.y), .slr b n b false]) :: (hpQ2 p).tail
theorem l2_end1 (S : Stat) (p : L2P) (R : List Entry) : Out.way [] (l2T S p (true, R)) = some ([], (.ret, ⟨⟨[(6, [], .kb true)], l2H p R.length 3, 3⟩, 3, .entry R⟩)) := by kernel_rfl
theorem l2_end0 (S : Stat) (p : L2P) (R : List Entry) : Out.way [true] (l2T S p (false, R)) = some ([decide (R.length = R.length ∧ R.length ≤ 134217727)], (.ret, ⟨⟨[(6, [], .kb true)], l2H p (R ++ [newE p]).length 5, 3⟩, 5, .entry (R ++ [newE p])⟩)) := by kernel_rfl
end Go.Proofs.Ytfncoeoaniclmaa
