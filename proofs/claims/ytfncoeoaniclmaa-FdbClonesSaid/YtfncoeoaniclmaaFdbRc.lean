/- fordlaw07.FdbClones: its walk, and why it holds. -/
import Derived.Test.YtfncoeoaniclmaaFdbX
import Derived.Test.YtfncoeoaniclmaaFdbR
set_option linter.unusedVariables false
set_option maxRecDepth 100000
namespace Go.Proofs.Ytfncoeoaniclmaa
open Go Go.RowKit

noncomputable def ssX (S : Stat) : List (Nat × SpecFn) := (28, spc gClone S) :: ssW S
theorem ssX_ok (S : Stat) : ∀ f g, (f, g) ∈ ssX S → SpecOk S [] f g := specs_cons (spc_ok clone_ok S) (ssW_ok S)
noncomputable def cX (S : Stat) : Ctx := mkCtx S [] (psV S) (ssX S) 20 4
theorem cX_fam : Fam cX := fam_of psV_ok ssX_ok
structure PcP where
  q : Int
  m : Int
  n : Nat
  L : List Int
def pcTs : List Nat := [0, 1, 2, 7, 8, 9]
def pcSt (p : PcP) (s : Nat × PL) (k : SV) : St := ⟨[(0, [], .slr 0 p.n 0 false), (1, [], .v (.int .u64 p.m)), (2, [], .v (.int .u8 p.q)), (7, [], .kb true), (8, [], .ptr 2 0), (9, [], k)], [(2, .agg [.v (.int .i64 20), .v (.int .i64 100), .mp 1]), (1, .tab (.place .u64 s.1 s.2)), (0, .rows (.int .u64 p.L))], 3⟩
theorem pc_round (S : Stat) (p : PcP) (c : Nat) (l : PL) (i : Nat) : Out.way [true, true, true, true] (trimO pcTs 3 (exec (cX (S.rd i 1)) (fnOf 9).ntmps 20 (lpOf 9 0) (pcSt p (c, l) (.v (.int .i64 i))))) =
    some ([decide ((i : Int) < p.n), decide (0 ≤ (i : Int)) && decide ((i : Int) < p.n), decide (i < p.L.length), decide (1 ≤ l.length ∧ l.length ≤ 67108864) || (badF (p.L.getD i 0) ((i : Int).tmod 3) || !(fullF 20 l (p.L.getD i 0)))],
      (.nrm, pcSt p (learnC 20 100 c l (p.L.getD i 0) ((i : Int).tmod 3), learnL 20 100 c l (p.L.getD i 0) ((i : Int).tmod 3)) (.v (.int .i64 (IntKind.i64.wrap (i + 1)))))) := by kernel_rfl
theorem pc_over (S : Stat) (p : PcP) (s : Nat × PL) (i : Nat) : Out.way [false] (trimO pcTs 3 (exec (cX (S.rd i 1)) (fnOf 9).ntmps 20 (lpOf 9 0) (pcSt p s (.v (.int .i64 i))))) =
    some ([decide ((i : Int) < p.n)], (.exit 0, pcSt p s (.v (.int .i64 i)))) := by kernel_rfl
def pcFin (m q : Int) (s : Nat × PL) : St := ⟨[(1, [], .v (.int .u64 m)), (2, [], .v (.int .u8 q)), (7, [], .kb true), (8, [], .ptr 2 0)], [(2, .agg [.v (.int .i64 20), .v (.int .i64 100), .mp 1]), (1, .tab (.place .u64 s.1 s.2))], 3⟩
noncomputable def gPc : LoopFn := onTrim 3 pcTs fun st => match st.slots, st.heap with
  | [(0, [], .slr 0 n 0 false), (1, [], .v (.int .u64 m)), (2, [], .v (.int .u8 q)), (7, [], .kb true), (8, [], .ptr 2 0), (9, [], .ki .i64 0)], [(2, .agg [.ki .i64 20, .ki .i64 100, .mp 1]), (1, .tab (.place .u64 c [])), (0, .rows (.int .u64 L))] =>
      some (.ite (decide (L.length = n ∧ n ≤ 60)) (.ret (.exit 0, pcFin m q (learnsF 20 100 L 0 (c, [])))) .bad)
  | _, _ => none
theorem gPc_ok (S : Stat) (ls : List (Nat × LoopFn)) : LoopOk Try.prog (withLoops (cX (S.rd 0 1)) ls) (fnOf 9).ntmps (lpOf 9 0) gPc := by
  refine loop_trim cX_fam (nx := 3) (fuel := 20) (ts := pcTs) (π := PcP) (α := Int) (τ := Nat × PL) (S.rd 0 1) (fun _ i => S.rd i 1) (fun _ _ => rfl) (fun p => p.L) (fun p i s => pcSt p s (.v (.int .i64 i)))
    (fun p i s => p.L.length = p.n ∧ p.n ≤ 60 ∧ TabOk 20 100 s.2) (fun p i m s => .go (learnC 20 100 s.1 s.2 m ((i : Int).tmod 3), learnL 20 100 s.1 s.2 m ((i : Int).tmod 3))) (fun p s => (.exit 0, pcFin p.m p.q s)) (fun _ _ _ => rfl) ?_ ?_ ?_
  · intro st o r ho hr
    split at ho
    · rename_i n m q c L hsl hhp
      injection ho with ho
      subst ho
      have hh := Out.ite_bad hr
      obtain ⟨rfl, h2⟩ := of_decide_eq_true hh.1
      obtain rfl := Option.some.inj hh.2
      refine ⟨⟨q, m, L.length, L⟩, (c, []), ⟨rfl, h2, .nil (by omega)⟩, (runL_learns (fin := fun s => (.exit 0, pcFin m q s)) 20 100 L 0 (c, [])).symm, Nat.le_refl _, fun E => ⟨?_, ?_⟩⟩
      · rw [hsl]
        exact ⟨⟨_, rfl, rfl⟩, ⟨_, rfl, rfl⟩, ⟨_, rfl, rfl⟩, ⟨_, rfl, rfl⟩, ⟨_, rfl, rfl⟩, ⟨_, rfl, rfl⟩, trivial⟩
      · rw [hhp]
        exact ⟨⟨_, rfl, by simp [SV.cells, SV.cellss], trivial⟩, ⟨_, rfl, by simp [SV.cells], trivial⟩, ⟨_, rfl, rfl, trivial⟩, trivial⟩
    · cases ho
  · intro p i m s hm hinv
    obtain ⟨h1, h2, h3⟩ := hinv
    have hi := (List.getElem?_eq_some_iff.1 hm).1
    have e1 : p.L.getD i 0 = m := by simp [List.getD, hm]
    have hii : (i : Int) < p.n := by omega
    refine ⟨.nrm, pcSt p (learnC 20 100 s.1 s.2 m ((i : Int).tmod 3), learnL 20 100 s.1 s.2 m ((i : Int).tmod 3)) (.v (.int .i64 (IntKind.i64.wrap (i + 1)))), ?_, rfl, ⟨h1, h2, h3.learn (by omega) (by omega) _ _ _⟩, fun E => ?_⟩
    · have := pc_round S p s.1 s.2 i
      rw [e1] at this
      exact Out.way_sel this (by rw [learn_go h3 (by omega)]; simp [hii, hi])
    · rw [wrap_succ (n := 61) (by omega) (by omega)]
      exact ⟨⟨⟨_, rfl, rfl⟩, ⟨_, rfl, rfl⟩, ⟨_, rfl, rfl⟩, ⟨_, rfl, rfl⟩, ⟨_, rfl, rfl⟩, ⟨_, rfl, rfl⟩, trivial⟩, ⟨⟨_, rfl, by simp [SV.cells, SV.cellss], trivial⟩, ⟨_, rfl, rfl, trivial⟩, ⟨_, rfl, rfl, trivial⟩, trivial⟩⟩
  · intro p s hinv
    obtain ⟨h1, h2, h3⟩ := hinv
    have hn : ¬ ((p.L.length : Nat) : Int) < p.n := by omega
    exact ⟨.exit 0, pcSt p s (.v (.int .i64 p.L.length)), Out.way_sel (pc_over S p s p.L.length) (by simp [hn]), rfl, by simp, fun E => ⟨⟨⟨_, rfl, rfl⟩, ⟨_, rfl, rfl⟩, ⟨_, rfl, rfl⟩, ⟨_, rfl, rfl⟩, trivial⟩, ⟨⟨_, rfl, by simp [SV.cells, SV.cellss], trivial⟩, ⟨_, rfl, rfl, trivial⟩, trivial⟩⟩⟩


/-! ### all are as they were -/
structure QcP where
  na : Nat
  nb : Nat
  A : List Entry
  B : List Entry
  b : Bool
def qcTs : List Nat := [7, 10, 12, 13, 14]
def qcSt (p : QcP) (j : SV) : St := ⟨[(7, [], .kb true), (10, [], .slr 3 p.na 3 false), (12, [], .v (.bool p.b)), (13, [], .slr 7 p.nb 7 false), (14, [], j)], [(3, .rows (.entry p.A)), (7, .rows (.entry p.B))], 8⟩
theorem qc_round (S : Stat) (p : QcP) (i : Nat) : Out.way [true, true, false] (trimO qcTs 8 (exec (cX (S.rd i 1)) (fnOf 9).ntmps 20 (lpOf 9 1) (qcSt p (.v (.int .i64 i))))) =
    some ([decide ((i : Int) < p.na), (decide (0 ≤ (i : Int)) && decide ((i : Int) < p.nb)) && (decide (i < p.B.length) && ((decide (0 ≤ (i : Int)) && decide ((i : Int) < p.na)) && decide (i < p.A.length))),
      !(decide (p.B.getD i Entry.dflt = p.A.getD i Entry.dflt))], (.nrm, qcSt p (.v (.int .i64 (IntKind.i64.wrap (i + 1)))))) := by kernel_rfl
theorem qc_over (S : Stat) (p : QcP) (i : Nat) : Out.way [false] (trimO qcTs 8 (exec (cX (S.rd i 1)) (fnOf 9).ntmps 20 (lpOf 9 1) (qcSt p (.v (.int .i64 i))))) =
    some ([decide ((i : Int) < p.na)], (.exit 2, qcSt p (.v (.int .i64 i)))) := by kernel_rfl
def qcFin (b : Bool) : St := ⟨[(7, [], .kb true), (12, [], .v (.bool b))], [], 8⟩
noncomputable def gQc : LoopFn := onTrim 8 qcTs fun st => match st.slots, st.heap.get 3, st.heap.get 7 with
  | [(7, [], .kb true), (10, [], .slr 3 na 3 false), (12, [], .v (.bool b)), (13, [], .slr 7 nb 7 false), (14, [], .ki .i64 0)], some (.rows (.entry A)), some (.rows (.entry B)) =>
      some (.ite (decide (A.length = na ∧ B.length = nb ∧ na ≤ 67108864) && decide (B = A)) (.ret (.exit 2, qcFin b)) .bad)
  | _, _, _ => none
theorem gQc_ok (S : Stat) (ls : List (Nat × LoopFn)) : LoopOk Try.prog (withLoops (cX (S.rd 0 1)) ls) (fnOf 9).ntmps (lpOf 9 1) gQc := by
  refine loop_trim cX_fam (nx := 8) (fuel := 20) (ts := qcTs) (π := QcP) (α := Entry) (τ := Unit) (S.rd 0 1) (fun _ i => S.rd i 1) (fun _ _ => rfl) (fun p => p.A) (fun p i _ => qcSt p (.v (.int .i64 i)))
    (fun p i _ => p.A.length = p.na ∧ p.B.length = p.nb ∧ p.na ≤ 67108864 ∧ p.B = p.A) (fun p i _ _ => .go ()) (fun p _ => (.exit 2, qcFin p.b)) (fun _ _ _ => rfl) ?_ ?_ ?_
  · intro st o r ho hr
    split at ho
    · rename_i na b nb A B hsl h3 h4
      injection ho with ho
      subst ho
      have hh := Out.ite_bad hr
      obtain ⟨hh1, hh2⟩ := Bool.and_eq_true_iff.1 hh.1
      obtain ⟨rfl, rfl, hlt⟩ := of_decide_eq_true hh1
      have hB := of_decide_eq_true hh2
      obtain rfl := Option.some.inj hh.2
      refine ⟨⟨A.length, B.length, A, B, b⟩, (), ⟨rfl, rfl, hlt, hB⟩, ?_, Nat.le_refl _, fun E => ⟨?_, ?_⟩⟩
      · have runL_goA : ∀ (fin : Ex × St) (l : List Entry) (i : Nat), runL (fun i (p : Entry) (x : Unit) => Step.go ()) (fun _ => fin) l i () = fin := by
          intro fin l
          induction l with
          | nil => intro i; rfl
          | cons p r ih => intro i; rw [runL]; exact ih (i + 1)
        exact (runL_goA _ _ 0).symm
      · rw [hsl]
        exact ⟨⟨_, rfl, rfl⟩, ⟨_, rfl, rfl⟩, ⟨_, rfl, rfl⟩, ⟨_, rfl, rfl⟩, ⟨_, rfl, rfl⟩, trivial⟩
      · exact ⟨⟨_, h3, rfl, trivial⟩, ⟨_, h4, rfl, trivial⟩, trivial⟩
    · cases ho
  · intro p i e s he hinv
    obtain ⟨h1, h2, h3, h4⟩ := hinv
    have hi := (List.getElem?_eq_some_iff.1 he).1
    have hii : (i : Int) < p.na := by omega
    have hib : (i : Int) < p.nb := by rw [← h2, h4]; omega
    have hb : i < p.B.length := by rw [h4]; exact hi
    refine ⟨.nrm, qcSt p (.v (.int .i64 (IntKind.i64.wrap (i + 1)))), ?_, rfl, ⟨h1, h2, h3, h4⟩, fun E => ?_⟩
    · refine Out.way_sel (qc_round S p i) ?_
      rw [decide_eq_true hii, decide_eq_true hi, decide_eq_true hib, decide_eq_true hb, h4]
      simp
    · rw [wrap_succ (n := 67108865) (by omega) (by omega)]
      exact ⟨⟨⟨_, rfl, rfl⟩, ⟨_, rfl, rfl⟩, ⟨_, rfl, rfl⟩, ⟨_, rfl, rfl⟩, ⟨_, rfl, rfl⟩, trivial⟩, ⟨⟨_, rfl, rfl, trivial⟩, ⟨_, rfl, rfl, trivial⟩, trivial⟩⟩
  · intro p s hinv
    obtain ⟨h1, h2, h3, h4⟩ := hinv
    have hn : ¬ ((p.A.length : Nat) : Int) < p.na := by omega
    exact ⟨.exit 2, qcSt p (.v (.int .i64 p.A.length)), Out.way_sel (qc_over S p p.A.length) (by rw [decide_eq_false hn]), rfl, by simp, fun E => ⟨⟨⟨_, rfl, rfl⟩, ⟨_, rfl, rfl⟩, trivial⟩, trivial⟩⟩
noncomputable def clonesLs : List (Nat × LoopFn) := [(8, gPc), (23, gQc)]
theorem clonesLs_ok (S : Stat) : ∀ i k g, clonesLs[i]? = some (k, g) → LoopOk Try.prog (withLoops (cX (S.rd 0 1)) clonesLs) (fnOf 9).ntmps (lpOf 9 i) g := by
  intro i k g h
  match i, h with
  | 0, h => injection h with h; injection h with h1 h2; subst h1 h2; exact gPc_ok S _
  | 1, h => injection h with h; injection h with h1 h2; subst h1 h2; exact gQc_ok S _
  | i + 2, h => cases h
noncomputable def clonesO (S : Stat) (L : List Int) (m q : Int) : Out SV := valF 1 (inline (withLoops (cX (S.rd 0 1)) clonesLs) 20 (fnOf 9) [.slr 0 L.length 0 false, .v (.int .u64 m), .v (.int .u8 q)] [(0, .rows (.int .u64 L))] 1)
def clL (L : List Int) : PL := (learnsF 20 100 L 0 (0, [])).2
def clC (L : List Int) : Nat := (learnsF 20 100 L 0 (0, [])).1
theorem clones_many (S : Stat) (L : List Int) (m q : Int) : Out.way [true] (clonesO S L m q) = some ([decide ((L.length : Int) > 60)], .kb true) := by kernel_rfl
theorem clones_few (S : Stat) (L : List Int) (m q : Int) : Out.way [false, true, true, true, true, true, true, false, true] (clonesO S L m q) = some ([decide ((L.length : Int) > 60), decide (L.length = L.length ∧ L.length ≤ 60), decide ((clL L).length ≤ 67108864), decide ((clL L).length ≤ 67108864),
    decide (1 ≤ (clL L).length ∧ (clL L).length ≤ 67108864) || (badF m (IntKind.i64.wrap q) || !(fullF 20 (clL L) m)), decide ((learnL 20 100 (clC L) (clL L) m (IntKind.i64.wrap q)).length ≤ 67108864), decide ((clL L).length ≤ 67108864), ((clL L).length : Int) != ((clL L).length : Int),
    decide ((allE (clL L)).length = (clL L).length ∧ (allE (clL L)).length = (clL L).length ∧ (clL L).length ≤ 67108864) && decide (allE (clL L) = allE (clL L))],
  .v (.bool (((clL L).length : Int) == ((clL L).length : Int)))) := by kernel_rfl
theorem clones_true (S : Stat) (L : List Int) (m q : Int) : ∃ v, (clonesO S L m q).sel = some v ∧ ∀ S E, v.den S E = .bool true := by
  by_cases hn : (L.length : Int) > 60
  · exact ⟨_, Out.way_sel (clones_many S L m q) (by rw [decide_eq_true hn]), fun _ _ => rfl⟩
  · have hok : TabOk 20 100 (clL L) := learnsF_ok (by omega) (by omega) L 0 (0, []) (.nil (by omega))
    have hlen := hok.len
    have hlen2 := (hok.learn (by omega) (by omega) (clC L) m (IntKind.i64.wrap q)).len
    have h60 : L.length ≤ 60 := by omega
    have h1 : (clL L).length ≤ 67108864 := by omega
    have h2 : (learnL 20 100 (clC L) (clL L) m (IntKind.i64.wrap q)).length ≤ 67108864 := by omega
    refine ⟨_, Out.way_sel (clones_few S L m q) ?_, fun S E => ?_⟩
    · rw [decide_eq_false hn, decide_eq_true h1, decide_eq_true h2, learn_go hok (by omega)]
      simp [allE_len, h1, h60]
    · simp [SV.den]
end Go.Proofs.Ytfncoeoaniclmaa
