/- fordlaw07.FdbPorts: its walk, and why it holds. -/
import Derived.Test.YtfncoeoaniclmaaFdbW
import Derived.Test.YtfncoeoaniclmaaFdbQ
set_option linter.unusedVariables false
set_option maxRecDepth 100000
namespace Go.Proofs.Ytfncoeoaniclmaa
open Go Go.RowKit

/-- what is known behind some that were learned, by turns behind three ports -/
def learnsF (x y : Int) : List Int → Nat → Nat × PL → Nat × PL
  | [], _, s => s
  | m :: r, i, s => learnsF x y r (i + 1) (learnC x y s.1 s.2 m ((i : Int).tmod 3), learnL x y s.1 s.2 m ((i : Int).tmod 3))
theorem learnsF_ok {x y : Int} (hx : 1 ≤ x) (hy : 1 ≤ y) : ∀ (L : List Int) (i : Nat) (s : Nat × PL), TabOk x y s.2 → TabOk x y (learnsF x y L i s).2
  | [], _, s, h => h
  | m :: r, i, s, h => learnsF_ok hx hy r (i + 1) _ (h.learn hx hy _ _ _)

structure PoP where
  q : Int
  n : Nat
  L : List Int
def poTs : List Nat := [0, 1, 5, 6, 7]
def poSt (p : PoP) (s : Nat × PL) (k : SV) : St := ⟨[(0, [], .slr 0 p.n 0 false), (1, [], .v (.int .u8 p.q)), (5, [], .kb true), (6, [], .ptr 2 0), (7, [], k)], [(2, .agg [.v (.int .i64 100), .v (.int .i64 100), .mp 1]), (1, .tab (.place .u64 s.1 s.2)), (0, .rows (.int .u64 p.L))], 3⟩
theorem po_round (S : Stat) (p : PoP) (c : Nat) (l : PL) (i : Nat) : Out.way [true, true, true, true] (trimO poTs 3 (exec (cV (S.rd i 1)) (fnOf 8).ntmps 20 (lpOf 8 0) (poSt p (c, l) (.v (.int .i64 i))))) =
    some ([decide ((i : Int) < p.n), decide (0 ≤ (i : Int)) && decide ((i : Int) < p.n), decide (i < p.L.length), decide (1 ≤ l.length ∧ l.length ≤ 67108864) || (badF (p.L.getD i 0) ((i : Int).tmod 3) || !(fullF 100 l (p.L.getD i 0)))],
      (.nrm, poSt p (learnC 100 100 c l (p.L.getD i 0) ((i : Int).tmod 3), learnL 100 100 c l (p.L.getD i 0) ((i : Int).tmod 3)) (.v (.int .i64 (IntKind.i64.wrap (i + 1)))))) := by kernel_rfl
theorem po_over (S : Stat) (p : PoP) (s : Nat × PL) (i : Nat) : Out.way [false] (trimO poTs 3 (exec (cV (S.rd i 1)) (fnOf 8).ntmps 20 (lpOf 8 0) (poSt p s (.v (.int .i64 i))))) =
    some ([decide ((i : Int) < p.n)], (.exit 0, poSt p s (.v (.int .i64 i)))) := by kernel_rfl
def poFin (q : Int) (s : Nat × PL) : St := ⟨[(1, [], .v (.int .u8 q)), (5, [], .kb true), (6, [], .ptr 2 0)], [(2, .agg [.v (.int .i64 100), .v (.int .i64 100), .mp 1]), (1, .tab (.place .u64 s.1 s.2))], 3⟩
noncomputable def gPo : LoopFn := onTrim 3 poTs fun st => match st.slots, st.heap with
  | [(0, [], .slr 0 n 0 false), (1, [], .v (.int .u8 q)), (5, [], .kb true), (6, [], .ptr 2 0), (7, [], .ki .i64 0)], [(2, .agg [.ki .i64 100, .ki .i64 100, .mp 1]), (1, .tab (.place .u64 c [])), (0, .rows (.int .u64 L))] =>
      some (.ite (decide (L.length = n ∧ n ≤ 60)) (.ret (.exit 0, poFin q (learnsF 100 100 L 0 (c, [])))) .bad)
  | _, _ => none
theorem runL_learns {fin : Nat × PL → Ex × St} (x y : Int) : ∀ (L : List Int) (i : Nat) (s : Nat × PL), runL (fun i m (s : Nat × PL) => Step.go (learnC x y s.1 s.2 m ((i : Int).tmod 3), learnL x y s.1 s.2 m ((i : Int).tmod 3))) fin L i s = fin (learnsF x y L i s)
  | [], _, _ => rfl
  | m :: r, i, s => by rw [runL]; exact runL_learns x y r (i + 1) _
theorem gPo_ok (S : Stat) (ls : List (Nat × LoopFn)) : LoopOk Try.prog (withLoops (cV (S.rd 0 1)) ls) (fnOf 8).ntmps (lpOf 8 0) gPo := by
  refine loop_trim cV_fam (nx := 3) (fuel := 20) (ts := poTs) (π := PoP) (α := Int) (τ := Nat × PL) (S.rd 0 1) (fun _ i => S.rd i 1) (fun _ _ => rfl) (fun p => p.L) (fun p i s => poSt p s (.v (.int .i64 i)))
    (fun p i s => p.L.length = p.n ∧ p.n ≤ 60 ∧ TabOk 100 100 s.2) (fun p i m s => .go (learnC 100 100 s.1 s.2 m ((i : Int).tmod 3), learnL 100 100 s.1 s.2 m ((i : Int).tmod 3))) (fun p s => (.exit 0, poFin p.q s)) (fun _ _ _ => rfl) ?_ ?_ ?_
  · intro st o r ho hr
    split at ho
    · rename_i n q c L hsl hhp
      injection ho with ho
      subst ho
      have hh := Out.ite_bad hr
      obtain ⟨rfl, h2⟩ := of_decide_eq_true hh.1
      obtain rfl := Option.some.inj hh.2
      refine ⟨⟨q, L.length, L⟩, (c, []), ⟨rfl, h2, .nil (by omega)⟩, (runL_learns (fin := fun s => (.exit 0, poFin q s)) 100 100 L 0 (c, [])).symm, Nat.le_refl _, fun E => ⟨?_, ?_⟩⟩
      · rw [hsl]
        exact ⟨⟨_, rfl, rfl⟩, ⟨_, rfl, rfl⟩, ⟨_, rfl, rfl⟩, ⟨_, rfl, rfl⟩, ⟨_, rfl, rfl⟩, trivial⟩
      · rw [hhp]
        exact ⟨⟨_, rfl, by simp [SV.cells, SV.cellss], trivial⟩, ⟨_, rfl, by simp [SV.cells], trivial⟩, ⟨_, rfl, rfl, trivial⟩, trivial⟩
    · cases ho
  · intro p i m s hm hinv
    obtain ⟨h1, h2, h3⟩ := hinv
    have hi := (List.getElem?_eq_some_iff.1 hm).1
    have e1 : p.L.getD i 0 = m := by simp [List.getD, hm]
    have hii : (i : Int) < p.n := by omega
    refine ⟨.nrm, poSt p (learnC 100 100 s.1 s.2 m ((i : Int).tmod 3), learnL 100 100 s.1 s.2 m ((i : Int).tmod 3)) (.v (.int .i64 (IntKind.i64.wrap (i + 1)))), ?_, rfl, ⟨h1, h2, h3.learn (by omega) (by omega) _ _ _⟩, fun E => ?_⟩
    · have := po_round S p s.1 s.2 i
      rw [e1] at this
      exact Out.way_sel this (by rw [learn_go h3 (by omega)]; simp [hii, hi])
    · rw [wrap_succ (n := 61) (by omega) (by omega)]
      exact ⟨⟨⟨_, rfl, rfl⟩, ⟨_, rfl, rfl⟩, ⟨_, rfl, rfl⟩, ⟨_, rfl, rfl⟩, ⟨_, rfl, rfl⟩, trivial⟩, ⟨⟨_, rfl, by simp [SV.cells, SV.cellss], trivial⟩, ⟨_, rfl, rfl, trivial⟩, ⟨_, rfl, rfl, trivial⟩, trivial⟩⟩
  · intro p s hinv
    obtain ⟨h1, h2, h3⟩ := hinv
    have hn : ¬ ((p.L.length : Nat) : Int) < p.n := by omega
    exact ⟨.exit 0, poSt p s (.v (.int .i64 p.L.length)), Out.way_sel (po_over S p s p.L.length) (by simp [hn]), rfl, by simp, fun E => ⟨⟨⟨_, rfl, rfl⟩, ⟨_, rfl, rfl⟩, ⟨_, rfl, rfl⟩, trivial⟩, ⟨⟨_, rfl, by simp [SV.cells, SV.cellss], trivial⟩, ⟨_, rfl, rfl, trivial⟩, trivial⟩⟩⟩

/-! ### those that are left, held against those that were there -/
structure QoP where
  q : Int
  na : Nat
  nb : Nat
  A : List Entry
  B : List Entry
  x9 : Int
def qoTs : List Nat := [1, 5, 8, 9, 10, 11, 12]
def qoSt (p : QoP) (k : SV) (j : SV) : St := ⟨[(1, [], .v (.int .u8 p.q)), (5, [], .kb true), (8, [], .slr 3 p.na 3 false), (9, [], .v (.int .i64 p.x9)), (10, [], .slr 4 p.nb 4 false), (11, [], k), (12, [], j)], [(3, .rows (.entry p.A)), (4, .rows (.entry p.B))], 5⟩
def isP (q : Int) (e : Entry) : Bool := e.port == IntKind.i64.wrap (q.tmod 3)
theorem qo_skip (S : Stat) (p : QoP) (k : Int) (i : Nat) : Out.way [true, true, true, true] (trimO qoTs 5 (exec (cV (S.rd i 1)) (fnOf 8).ntmps 20 (lpOf 8 1) (qoSt p (.v (.int .i64 k)) (.v (.int .i64 i))))) =
    some ([decide ((i : Int) < p.na), decide (0 ≤ (i : Int)) && decide ((i : Int) < p.na), decide (i < p.A.length), isP p.q (p.A.getD i Entry.dflt)], (.nrm, qoSt p (.v (.int .i64 k)) (.v (.int .i64 (IntKind.i64.wrap (i + 1)))))) := by kernel_rfl
theorem qo_take (S : Stat) (p : QoP) (k : Nat) (i : Nat) : Out.way [true, true, true, false, false, true, false] (trimO qoTs 5 (exec (cV (S.rd i 1)) (fnOf 8).ntmps 20 (lpOf 8 1) (qoSt p (.v (.int .i64 k)) (.v (.int .i64 i))))) =
    some ([decide ((i : Int) < p.na), decide (0 ≤ (i : Int)) && decide ((i : Int) < p.na), decide (i < p.A.length), isP p.q (p.A.getD i Entry.dflt), decide ((k : Int) ≥ p.nb), (decide (0 ≤ (k : Int)) && decide ((k : Int) < p.nb)) && (decide (k < p.B.length) && ((decide (0 ≤ (i : Int)) && decide ((i : Int) < p.na)) && decide (i < p.A.length))),
      !(decide (p.B.getD k Entry.dflt = p.A.getD i Entry.dflt))], (.nrm, qoSt p (.v (.int .i64 (IntKind.i64.wrap (k + 1)))) (.v (.int .i64 (IntKind.i64.wrap (i + 1)))))) := by kernel_rfl
theorem qo_over (S : Stat) (p : QoP) (k : Int) (i : Nat) : Out.way [false] (trimO qoTs 5 (exec (cV (S.rd i 1)) (fnOf 8).ntmps 20 (lpOf 8 1) (qoSt p (.v (.int .i64 k)) (.v (.int .i64 i))))) =
    some ([decide ((i : Int) < p.na)], (.exit 2, qoSt p (.v (.int .i64 k)) (.v (.int .i64 i)))) := by kernel_rfl
def qoFin (p : QoP) : St := ⟨[(5, [], .kb true), (8, [], .slr 3 p.na 3 false), (9, [], .v (.int .i64 p.x9)), (10, [], .slr 4 p.nb 4 false), (11, [], .v (.int .i64 p.nb))], [], 5⟩
noncomputable def gQo : LoopFn := onTrim 5 qoTs fun st => match st.slots, st.heap.get 3, st.heap.get 4 with
  | [(1, [], .v (.int .u8 q)), (5, [], .kb true), (8, [], .slr 3 na 3 false), (9, [], .v (.int .i64 x9)), (10, [], .slr 4 nb 4 false), (11, [], .ki .i64 0), (12, [], .ki .i64 0)], some (.rows (.entry A)), some (.rows (.entry B)) =>
      some (.ite (decide (A.length = na ∧ B.length = nb ∧ na ≤ 67108864) && decide (B = A.filter fun e => !(isP q e))) (.ret (.exit 2, qoFin ⟨q, na, nb, A, B, x9⟩)) .bad)
  | _, _, _ => none
/-- how many of the first i are left -/
def leftN (q : Int) (A : List Entry) (i : Nat) : Nat := ((A.take i).filter fun e => !(isP q e)).length
theorem leftN_le (q : Int) (A : List Entry) (i : Nat) : leftN q A i ≤ (A.filter fun e => !(isP q e)).length := by
  unfold leftN
  exact ((List.take_sublist i A).filter _).length_le
theorem leftN_skip {q : Int} {A : List Entry} {i : Nat} {e : Entry} (h : A[i]? = some e) (hp : isP q e = true) : leftN q A (i + 1) = leftN q A i := by
  unfold leftN
  rw [List.take_add_one, h, List.filter_append]
  simp [hp]
theorem leftN_take {q : Int} {A : List Entry} {i : Nat} {e : Entry} (h : A[i]? = some e) (hp : isP q e = false) : leftN q A (i + 1) = leftN q A i + 1 ∧ (A.filter fun e => !(isP q e))[leftN q A i]? = some e := by
  unfold leftN
  refine ⟨by rw [List.take_add_one, h, List.filter_append]; simp [hp], ?_⟩
  have hlt := (List.getElem?_eq_some_iff.1 h).1
  have hs : A.filter (fun e => !(isP q e)) = ((A.take i).filter fun e => !(isP q e)) ++ ((A.drop i).filter fun e => !(isP q e)) := by rw [← List.filter_append, List.take_append_drop]
  rw [hs, List.getElem?_append_right (Nat.le_refl _), Nat.sub_self]
  have : A.drop i = e :: A.drop (i + 1) := by
    rw [List.drop_eq_getElem_cons hlt]
    have := (List.getElem?_eq_some_iff.1 h).2
    rw [this]
  rw [this]
  simp [List.filter_cons, hp]
theorem gQo_ok (S : Stat) (ls : List (Nat × LoopFn)) : LoopOk Try.prog (withLoops (cV (S.rd 0 1)) ls) (fnOf 8).ntmps (lpOf 8 1) gQo := by
  refine loop_trim cV_fam (nx := 5) (fuel := 20) (ts := qoTs) (π := QoP) (α := Entry) (τ := Unit) (S.rd 0 1) (fun _ i => S.rd i 1) (fun _ _ => rfl) (fun p => p.A) (fun p i _ => qoSt p (.v (.int .i64 (leftN p.q p.A i : Nat))) (.v (.int .i64 i)))
    (fun p i _ => p.A.length = p.na ∧ p.B.length = p.nb ∧ p.na ≤ 67108864 ∧ p.B = p.A.filter fun e => !(isP p.q e)) (fun p i _ _ => .go ()) (fun p _ => (.exit 2, qoFin p)) (fun _ _ _ => rfl) ?_ ?_ ?_
  · intro st o r ho hr
    split at ho
    · rename_i q na x9 nb A B hsl h3 h4
      injection ho with ho
      subst ho
      have hh := Out.ite_bad hr
      obtain ⟨hh1, hh2⟩ := Bool.and_eq_true_iff.1 hh.1
      obtain ⟨rfl, rfl, hlt⟩ := of_decide_eq_true hh1
      have hB := of_decide_eq_true hh2
      obtain rfl := Option.some.inj hh.2
      refine ⟨⟨q, A.length, B.length, A, B, x9⟩, (), ⟨rfl, rfl, hlt, hB⟩, ?_, Nat.le_refl _, fun E => ⟨?_, ?_⟩⟩
      · have runL_goA : ∀ (fin : Ex × St) (l : List Entry) (i : Nat), runL (fun i (p : Entry) (x : Unit) => Step.go ()) (fun _ => fin) l i () = fin := by
          intro fin l
          induction l with
          | nil => intro i; rfl
          | cons p r ih => intro i; rw [runL]; exact ih (i + 1)
        exact (runL_goA _ _ 0).symm
      · rw [hsl]
        exact ⟨⟨_, rfl, rfl⟩, ⟨_, rfl, rfl⟩, ⟨_, rfl, rfl⟩, ⟨_, rfl, rfl⟩, ⟨_, rfl, rfl⟩, ⟨_, rfl, rfl⟩, ⟨_, rfl, rfl⟩, trivial⟩
      · exact ⟨⟨_, h3, rfl, trivial⟩, ⟨_, h4, rfl, trivial⟩, trivial⟩
    · cases ho
  · intro p i e s he hinv
    obtain ⟨h1, h2, h3, h4⟩ := hinv
    have hi := (List.getElem?_eq_some_iff.1 he).1
    have e1 : p.A.getD i Entry.dflt = e := by simp [List.getD, he]
    have hii : (i : Int) < p.na := by omega
    cases hp : isP p.q e with
    | true =>
      refine ⟨.nrm, qoSt p (.v (.int .i64 (leftN p.q p.A i : Nat))) (.v (.int .i64 (IntKind.i64.wrap (i + 1)))), ?_, rfl, ⟨h1, h2, h3, h4⟩, fun E => ?_⟩
      · have := qo_skip S p (leftN p.q p.A i : Nat) i
        rw [e1, hp] at this
        exact Out.way_sel this (by simp [hii, hi])
      · rw [wrap_succ (n := 67108865) (by omega) (by omega), leftN_skip he hp]
        exact ⟨⟨⟨_, rfl, rfl⟩, ⟨_, rfl, rfl⟩, ⟨_, rfl, rfl⟩, ⟨_, rfl, rfl⟩, ⟨_, rfl, rfl⟩, ⟨_, rfl, rfl⟩, ⟨_, rfl, rfl⟩, trivial⟩, ⟨⟨_, rfl, rfl, trivial⟩, ⟨_, rfl, rfl, trivial⟩, trivial⟩⟩
    | false =>
      obtain ⟨t1, t2⟩ := leftN_take he hp
      rw [← h4] at t2
      have hk := (List.getElem?_eq_some_iff.1 t2).1
      have e2 : p.B.getD (leftN p.q p.A i) Entry.dflt = e := by simp [List.getD, t2]
      have hkk : ((leftN p.q p.A i : Nat) : Int) < p.nb := by omega
      have hge : ¬ ((leftN p.q p.A i : Nat) : Int) ≥ p.nb := by omega
      have hbl : p.B.length ≤ 67108864 := by
        rw [h4]
        exact Nat.le_trans (List.length_filter_le _ _) (by omega)
      refine ⟨.nrm, qoSt p (.v (.int .i64 (IntKind.i64.wrap ((leftN p.q p.A i : Nat) + 1)))) (.v (.int .i64 (IntKind.i64.wrap (i + 1)))), ?_, rfl, ⟨h1, h2, h3, h4⟩, fun E => ?_⟩
      · have := qo_take S p (leftN p.q p.A i) i
        rw [e1, e2, hp] at this
        refine Out.way_sel this ?_
        rw [decide_eq_true hii, decide_eq_true hi, decide_eq_true hkk, decide_eq_true hk, decide_eq_false hge]
        simp
      · rw [wrap_succ (n := 67108865) (by omega) (by omega), wrap_succ (n := 67108865) (by omega) (by omega), t1]
        exact ⟨⟨⟨_, rfl, rfl⟩, ⟨_, rfl, rfl⟩, ⟨_, rfl, rfl⟩, ⟨_, rfl, rfl⟩, ⟨_, rfl, rfl⟩, ⟨_, rfl, rfl⟩, ⟨_, rfl, rfl⟩, trivial⟩, ⟨⟨_, rfl, rfl, trivial⟩, ⟨_, rfl, rfl, trivial⟩, trivial⟩⟩
  · intro p s hinv
    obtain ⟨h1, h2, h3, h4⟩ := hinv
    have hn : ¬ ((p.A.length : Nat) : Int) < p.na := by omega
    have hleft : leftN p.q p.A p.A.length = p.nb := by
      unfold leftN
      rw [List.take_length, ← h4, h2]
    refine ⟨.exit 2, qoSt p (.v (.int .i64 (leftN p.q p.A p.A.length : Nat))) (.v (.int .i64 p.A.length)), Out.way_sel (qo_over S p _ p.A.length) (by simp [hn]), rfl, by simp, fun E => ?_⟩
    rw [hleft]
    exact ⟨⟨⟨_, rfl, rfl⟩, ⟨_, rfl, rfl⟩, ⟨_, rfl, rfl⟩, ⟨_, rfl, rfl⟩, ⟨_, rfl, rfl⟩, trivial⟩, trivial⟩
noncomputable def portsLs : List (Nat × LoopFn) := [(8, gPo), (16, gQo)]
theorem portsLs_ok (S : Stat) : ∀ i k g, portsLs[i]? = some (k, g) → LoopOk Try.prog (withLoops (cV (S.rd 0 1)) portsLs) (fnOf 8).ntmps (lpOf 8 i) g := by
  intro i k g h
  match i, h with
  | 0, h => injection h with h; injection h with h1 h2; subst h1 h2; exact gPo_ok S _
  | 1, h => injection h with h; injection h with h1 h2; subst h1 h2; exact gQo_ok S _
  | i + 2, h => cases h
noncomputable def portsO (S : Stat) (L : List Int) (q : Int) : Out SV := valF 1 (inline (withLoops (cV (S.rd 0 1)) portsLs) 20 (fnOf 8) [.slr 0 L.length 0 false, .v (.int .u8 q)] [(0, .rows (.int .u64 L))] 1)
def ptQ (q : Int) : Int := IntKind.i64.wrap (q.tmod 3)
def ptL (L : List Int) : PL := (learnsF 100 100 L 0 (0, [])).2
theorem ports_many (S : Stat) (L : List Int) (q : Int) : Out.way [true] (portsO S L q) = some ([decide ((L.length : Int) > 60)], .kb true) := by kernel_rfl
theorem ports_few (S : Stat) (L : List Int) (q : Int) : Out.way [false, true, true, true, true, true] (portsO S L q) = some ([decide ((L.length : Int) > 60), decide (L.length = L.length ∧ L.length ≤ 60), decide ((ptL L).length ≤ 67108864), decide ((ptL L).length ≤ 67108864), decide ((shortL (ptQ q) 0 (ptL L)).length ≤ 67108864),
    decide ((allE (ptL L)).length = (ptL L).length ∧ (allE (shortL (ptQ q) 0 (ptL L))).length = (shortL (ptQ q) 0 (ptL L)).length ∧ (ptL L).length ≤ 67108864) && decide (allE (shortL (ptQ q) 0 (ptL L)) = (allE (ptL L)).filter fun e => !(isP q e))],
  .v (.bool (((shortL (ptQ q) 0 (ptL L)).length : Int) == ((shortL (ptQ q) 0 (ptL L)).length : Int) && (cntP (ptQ q) (ptL L) : Int) == IntKind.i64.wrap (((ptL L).length : Int) - ((shortL (ptQ q) 0 (ptL L)).length : Int))))) := by kernel_rfl
theorem ports_true (S : Stat) (L : List Int) (q : Int) : ∃ v, (portsO S L q).sel = some v ∧ ∀ S E, v.den S E = .bool true := by
  by_cases hn : (L.length : Int) > 60
  · exact ⟨_, Out.way_sel (ports_many S L q) (by simp [hn]), fun _ _ => rfl⟩
  · have hok : TabOk 100 100 (ptL L) := learnsF_ok (by omega) (by omega) L 0 (0, []) (.nil (by omega))
    have hlen := hok.len
    have hcnt := cnt_flush hok (ptQ q)
    have hall := allE_flush hok (ptQ q)
    have h60 : L.length ≤ 60 := by omega
    have h1 : (ptL L).length ≤ 67108864 := by omega
    have h2 : (shortL (ptQ q) 0 (ptL L)).length ≤ 67108864 := by omega
    refine ⟨_, Out.way_sel (ports_few S L q) ?_, fun S E => ?_⟩
    · rw [decide_eq_false hn, decide_eq_true h1, decide_eq_true h2, show (allE (shortL (ptQ q) 0 (ptL L)) = (allE (ptL L)).filter fun e => !(isP q e)) from hall]
      simp [allE_len, h1, h60, ← hall]
      exact congrArg List.length hall ▸ allE_len _
    · have hw : IntKind.i64.wrap (((ptL L).length : Int) - ((shortL (ptQ q) 0 (ptL L)).length : Int)) = (cntP (ptQ q) (ptL L) : Int) := by
        rw [IntKind.wrap_i64]
        omega
      rw [hw]
      simp [SV.den]
end Go.Proofs.Ytfncoeoaniclmaa
