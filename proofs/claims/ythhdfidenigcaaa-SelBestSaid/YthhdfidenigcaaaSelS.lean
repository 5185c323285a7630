/- fordlaw14.SelBest: its walk. -/
import Derived.Test.YthhdfidenigcaaaSelO
set_option linter.unusedVariables false
set_option maxRecDepth 100000
namespace Go.Proofs.Ythhdfidenigcaaa
open Go Go.RowKit

/-! the first loop: nobody offers less -/
structure BstP where
  q : InP
  v : Vec
def unIn (st : St) : Option (InP × Nat × Nat × Nat) := match st.heap.get 3, st.heap.get 0, st.heap.get 1, st.heap.get 2 with
  | some bo, some (.rows (.port ps)), some (.rows (.sent os)), some (.rows (.int .i64 fs)) => (match unBri bo with
    | some (b, .slr 0 n 0 false, .slr 1 no 1 false, .slr 2 nf 2 false) => some (⟨b, ps, os, fs⟩, n, no, nf)
    | _ => none)
  | _, _, _, _ => none
theorem unIn_ok {st : St} {q : InP} {n no nf : Nat} (h : unIn st = some (q, n, no, nf)) :
    st.heap.get 3 = some (q.b.sv (.slr 0 n 0 false) (.slr 1 no 1 false) (.slr 2 nf 2 false)) ∧ st.heap.get 0 = some (.rows (.port q.ps)) ∧ st.heap.get 1 = some (.rows (.sent q.os)) ∧ st.heap.get 2 = some (.rows (.int .i64 q.fs)) := by
  unfold unIn at h
  split at h
  · rename_i bo ps os fs h1 h2 h3 h4
    split at h
    · rename_i hx
      obtain ⟨rfl, _, _⟩ := unBri_ok hx
      injection h with h
      simp only [Prod.mk.injEq] at h
      obtain ⟨rfl, rfl, rfl, rfl⟩ := h
      exact ⟨h1, h2, h3, h4⟩
    · cases h
  · cases h
def bstSt (z : BstP) (i : SV) : St := ⟨[(1, [], .ptr 3 0), (3, [], .kb true), (5, [], .ptr 5 0), (7, [], i)], [(5, .rcd (.vec z.v)), (3, z.q.arg), (0, .rows (.port z.q.ps)), (1, .rows (.sent z.q.os)), (2, .rows (.int .i64 z.q.fs))], 6⟩
def bstTs : List Nat := [1, 3, 5, 7]
def shl16 (n : Int) : Int := IntKind.u64.wrap (n * 2 ^ min (Int.toNat 16) IntKind.u64.bits)
def bstBad (b : Bri) (v : Vec) (p : Port) : Bool := p.is_ == 3 && shl16 p.vec.bridge != shl16 b.id && decide (refCmpV v (thrV p.vec p.cost p.id) > 0)
theorem bst_round (S : Stat) (z : BstP) (i : Nat) : Out.way [true, true, true, false] (trimO bstTs 6 (exec (cL (S.rd i 3)) (fnOf 9).ntmps 20 (lpOf 9 0) (bstSt z (.v (.int .i64 i))))) =
    some ([decide ((i : Int) < z.q.ps.length), decide (0 ≤ (i : Int)) && decide ((i : Int) < z.q.ps.length), decide (i < z.q.ps.length), bstBad z.q.b z.v (z.q.ps.getD i Port.dflt)], (.nrm, bstSt z (.v (.int .i64 (IntKind.i64.wrap (i + 1)))))) := by kernel_rfl
theorem bst_over (S : Stat) (z : BstP) (i : Nat) : Out.way [false] (trimO bstTs 6 (exec (cL (S.rd i 3)) (fnOf 9).ntmps 20 (lpOf 9 0) (bstSt z (.v (.int .i64 i))))) =
    some ([decide ((i : Int) < z.q.ps.length)], (.exit 0, bstSt z (.v (.int .i64 i)))) := by kernel_rfl
def bstFin (q : InP) : St := ⟨[(1, [], .ptr 3 0), (3, [], .kb true)], [(3, q.arg), (0, .rows (.port q.ps)), (1, .rows (.sent q.os)), (2, .rows (.int .i64 q.fs))], 6⟩
noncomputable def gBst1 : LoopFn := onTrim 6 bstTs fun st => match st.slots with
  | [(1, [], .ptr 3 0), (3, [], .kb true), (5, [], .ptr 5 0), (7, [], .ki .i64 0)] => (match unIn st, st.heap.get 5 with
    | some (q, n, no, nf), some (.rcd (.vec v)) => some (.ite (decide (n = q.ps.length ∧ no = q.os.length ∧ nf = q.fs.length ∧ q.ps.length < 9223372036854775808) && q.ps.all fun p => !(bstBad q.b v p)) (.ret (.exit 0, bstFin q)) .bad)
    | _, _ => none)
  | _ => none
theorem gBst1_ok (S : Stat) (ls : List (Nat × LoopFn)) : LoopOk Try.prog (withLoops (cL (S.rd 0 3)) ls) (fnOf 9).ntmps (lpOf 9 0) gBst1 := by
  refine loop_trim cL_fam (nx := 6) (fuel := 20) (ts := bstTs) (π := BstP) (τ := Unit) (S.rd 0 3) (fun _ i => S.rd i 3) (fun _ _ => rfl) (fun z => z.q.ps) (fun z i x => bstSt z (.v (.int .i64 i))) (fun z i x => (z.q.ps.all fun p => !(bstBad z.q.b z.v p)) = true ∧ z.q.ps.length < 9223372036854775808)
    (fun q i p x => .go ()) (fun z x => (.exit 0, bstFin z.q)) (fun _ _ _ => rfl) ?_ ?_ ?_
  · intro st o r ho hr
    split at ho
    · rename_i hsl
      split at ho
      · rename_i q n no nf v hu h5
        injection ho with ho
        subst ho
        obtain ⟨u1, u2, u3, u4⟩ := unIn_ok hu
        have hh := Out.ite_bad hr
        obtain ⟨hh1, hall⟩ := Bool.and_eq_true_iff.1 hh.1
        obtain ⟨rfl, rfl, rfl, hlt⟩ := of_decide_eq_true hh1
        obtain rfl := Option.some.inj hh.2
        refine ⟨⟨q, v⟩, (), ⟨hall, hlt⟩, (runL_goA _ _ 0).symm, Nat.le_refl _, fun E => ⟨?_, ?_⟩⟩
        · rw [hsl]
          exact ⟨⟨_, rfl, rfl⟩, ⟨_, rfl, rfl⟩, ⟨_, rfl, rfl⟩, ⟨_, rfl, rfl⟩, trivial⟩
        · exact ⟨⟨_, h5, rfl, trivial⟩, ⟨_, u1, rfl, trivial⟩, ⟨_, u2, rfl, trivial⟩, ⟨_, u3, rfl, trivial⟩, ⟨_, u4, rfl, trivial⟩, trivial⟩
      · cases ho
    · cases ho
  · intro z i p x hp hinv
    obtain ⟨hall, hlt⟩ := hinv
    have hi := (List.getElem?_eq_some_iff.1 hp).1
    have e1 : z.q.ps.getD i Port.dflt = p := by simp [List.getD, hp]
    have hgood := List.all_eq_true.1 hall p (List.mem_of_getElem? hp)
    have hii : (i : Int) < z.q.ps.length := by omega
    refine ⟨.nrm, bstSt z (.v (.int .i64 (IntKind.i64.wrap (i + 1)))), ?_, rfl, ⟨hall, hlt⟩, fun E => ?_⟩
    · have := bst_round S z i
      rw [e1, show bstBad z.q.b z.v p = false from by simpa using hgood] at this
      exact Out.way_sel this (by simp [hii, hi])
    · rw [wrap_succ hi hlt]
      exact ⟨⟨⟨_, rfl, rfl⟩, ⟨_, rfl, rfl⟩, ⟨_, rfl, rfl⟩, ⟨_, rfl, rfl⟩, trivial⟩, ⟨⟨_, rfl, rfl, trivial⟩, ⟨_, rfl, rfl, trivial⟩, ⟨_, rfl, rfl, trivial⟩, ⟨_, rfl, rfl, trivial⟩, ⟨_, rfl, rfl, trivial⟩, trivial⟩⟩
  · intro z x hinv
    exact ⟨.exit 0, bstSt z (.v (.int .i64 z.q.ps.length)), Out.way_sel (bst_over S z z.q.ps.length) (by simp), rfl, by simp, fun E => ⟨⟨⟨_, rfl, rfl⟩, ⟨_, rfl, rfl⟩, trivial⟩, ⟨⟨_, rfl, rfl, trivial⟩, ⟨_, rfl, rfl, trivial⟩, ⟨_, rfl, rfl, trivial⟩, ⟨_, rfl, rfl, trivial⟩, trivial⟩⟩⟩

/-! the second loop: states that may be -/
def clmSt (q : OffP) (x r : List Port) (i : SV) : St := ⟨[(3, [], .kb true), (9, [], .ptr 14 0), (10, [], i)], [(14, q.new), (9, focV x r)], 15⟩
def clmTs : List Nat := [3, 9, 10]
def clI (n : Int) : Int := if (if n < 3 then n else 3) > 0 then if n < 3 then n else 3 else 0
def clP (p : Port) : Port := { p with is_ := clI p.is_ }
def clmNx (q : OffP) (x r : List Port) (i : Int) (p' : Port) : St := ⟨[(3, [], .kb true), (9, [], .ptr 14 0), (10, [], .v (.int .i64 (IntKind.i64.wrap (i + 1))))], [(14, q.new), (9, .foc 0 (.port x) (.rcd (.port p')) (.port r))], 15⟩
theorem clm_round (S : Stat) (q : OffP) (i : Int) (x r : List Port) (p : Port) : Out.way [true, true] (trimO clmTs 15 (exec (cL (S.rd i 3)) (fnOf 9).ntmps 20 (lpOf 9 1) (clmSt q x (p :: r) (.ix 0)))) =
    some ([decide (i < q.ps.length), (decide (0 ≤ i) && decide (i < q.ps.length)) && (decide (0 ≤ i) && decide (i < q.ps.length))], (.nrm, clmNx q x r i (clP p))) := by kernel_rfl
theorem clm_over (S : Stat) (q : OffP) (i : Int) (x : List Port) : (trimO clmTs 15 (exec (cL (S.rd i 3)) (fnOf 9).ntmps 20 (lpOf 9 1) (clmSt q x [] (.ix 0)))).els = some (decide (i < q.ps.length), .ret (.exit 2, clmSt q x [] (.ix 0))) := by kernel_rfl
def clmFin (q : OffP) (x : List Port) : St := ⟨[(3, [], .kb true), (9, [], .ptr 14 0)], [(14, q.new), (9, .rows (.port x))], 15⟩
noncomputable def gBst2 : LoopFn := onTrim 15 clmTs fun st => match st.slots with
  | [(3, [], .kb true), (9, [], .ptr 14 0), (10, [], .ki .i64 0)] => (match unOff st with
    | some (x, n, no, nf, ps) => some (.ite (decide (n = ps.length ∧ ps.length < 9223372036854775808)) (.ret (.exit 2, clmFin ⟨x, no, nf, ps, 0⟩ (ps.map clP))) .bad)
    | none => none)
  | _ => none
theorem gBst2_ok (S : Stat) (ls : List (Nat × LoopFn)) : LoopOk Try.prog (withLoops (cL (S.rd 0 3)) ls) (fnOf 9).ntmps (lpOf 9 1) gBst2 := by
  refine loop_trim cL_fam (nx := 15) (fuel := 20) (ts := clmTs) (π := OffP) (τ := List Port) (S.rd 0 3) (fun _ i => S.rd i 3) (fun _ _ => rfl) (fun q => q.ps) (fun q i x => clmSt q x (q.ps.drop i) (.ix 0)) (fun q i x => x.length = i ∧ q.ps.length < 9223372036854775808)
    (fun q i p x => .go (x ++ [clP p])) (fun q x => (.exit 2, clmFin q x)) (fun _ _ _ => rfl) ?_ ?_ ?_
  · intro st o r ho hr
    split at ho
    · rename_i hsl
      split at ho
      · rename_i x n no nf ps hu
        injection ho with ho
        subst ho
        obtain ⟨u1, u2⟩ := unOff_ok hu
        have hh := Out.ite_bad hr
        obtain ⟨rfl, hlt⟩ := of_decide_eq_true hh.1
        obtain rfl := Option.some.inj hh.2
        refine ⟨⟨x, no, nf, ps, 0⟩, [], ⟨rfl, hlt⟩, (runL_mapP clP (fun y => (Ex.exit 2, clmFin ⟨x, no, nf, ps, 0⟩ y)) ps 0 []).symm, Nat.le_refl _, fun E => ⟨?_, ?_⟩⟩
        · rw [hsl]
          exact ⟨⟨_, rfl, rfl⟩, ⟨_, rfl, rfl⟩, ⟨_, rfl, rfl⟩, trivial⟩
        · refine ⟨⟨_, u2, rfl, trivial⟩, ⟨_, u1, ?_, focV_fo rfl⟩, trivial⟩
          rw [focV_cells]; rfl
      · cases ho
    · cases ho
  · intro q i p x hp hinv
    obtain ⟨hx, hlt⟩ := hinv
    have hi := (List.getElem?_eq_some_iff.1 hp).1
    have hd : q.ps.drop i = p :: q.ps.drop (i + 1) := by rw [List.drop_eq_getElem_cons hi]; congr 1; exact Option.some.inj ((List.getElem?_eq_getElem hi).symm.trans hp)
    rw [hd]
    have hii : (i : Int) < q.ps.length := by omega
    refine ⟨.nrm, clmNx q x (q.ps.drop (i + 1)) i (clP p), Out.way_sel (clm_round S q i x _ p) (by simp [hii]; try omega), rfl, ⟨by simp [hx], hlt⟩, fun E => ?_⟩
    unfold clmNx
    rw [wrap_succ hi hlt]
    refine ⟨⟨⟨_, rfl, rfl⟩, ⟨_, rfl, rfl⟩, ⟨_, rfl, rfl⟩, trivial⟩, ⟨⟨_, rfl, rfl, trivial⟩, ⟨_, rfl, ?_, focV_fo (by show ((i + 1 : Nat) : Int).toNat = _; simp [hx])⟩, trivial⟩⟩
    rw [focV_cells]
    simp only [SV.cells, Rows.cells, Rec.cells, List.flatMap_append, List.flatMap_cons, List.flatMap_nil, List.append_nil, List.append_assoc]
  · intro q x hinv
    obtain ⟨hx, hlt⟩ := hinv
    dsimp only
    rw [List.drop_length]
    refine ⟨.exit 2, clmSt q x [] (.ix 0), ?_, rfl, by simp, fun E => ⟨⟨⟨_, rfl, rfl⟩, ⟨_, rfl, rfl⟩, trivial⟩, ⟨⟨_, rfl, rfl, trivial⟩, ⟨_, rfl, rfl, trivial⟩, trivial⟩⟩⟩
    rw [Out.els_sel (clm_over S q q.ps.length x) (by simp)]
    rfl

/-! the third loop: how many are to be the root's -/
def cntSt (q : OffP) (r : Int) (i : SV) : St := ⟨[(3, [], .kb true), (9, [], .ptr 14 0), (11, [], .v (.int .i64 r)), (12, [], i)], [(14, q.new), (9, .rows (.port q.ps))], 15⟩
def cntTs : List Nat := [3, 9, 11, 12]
theorem cnt_yes (S : Stat) (q : OffP) (r : Int) (i : Nat) : Out.way [true, true, true, true, false] (trimO cntTs 15 (exec (cL (S.rd i 3)) (fnOf 9).ntmps 20 (lpOf 9 2) (cntSt q r (.v (.int .i64 i))))) =
    some ([decide ((i : Int) < q.ps.length), decide (0 ≤ (i : Int)) && decide ((i : Int) < q.ps.length), decide (i < q.ps.length), (q.ps.getD i Port.dflt).selected == 3, (i : Int) != q.x.rootPort], (.nrm, cntSt q (IntKind.i64.wrap (r + 1)) (.v (.int .i64 (IntKind.i64.wrap (i + 1)))))) := by kernel_rfl
theorem cnt_no (S : Stat) (q : OffP) (r : Int) (i : Nat) : Out.way [true, true, true, false] (trimO cntTs 15 (exec (cL (S.rd i 3)) (fnOf 9).ntmps 20 (lpOf 9 2) (cntSt q r (.v (.int .i64 i))))) =
    some ([decide ((i : Int) < q.ps.length), decide (0 ≤ (i : Int)) && decide ((i : Int) < q.ps.length), decide (i < q.ps.length), (q.ps.getD i Port.dflt).selected == 3], (.nrm, cntSt q r (.v (.int .i64 (IntKind.i64.wrap (i + 1)))))) := by kernel_rfl
theorem cnt_over (S : Stat) (q : OffP) (r : Int) (i : Nat) : Out.way [false] (trimO cntTs 15 (exec (cL (S.rd i 3)) (fnOf 9).ntmps 20 (lpOf 9 2) (cntSt q r (.v (.int .i64 i))))) =
    some ([decide ((i : Int) < q.ps.length)], (.exit 4, cntSt q r (.v (.int .i64 i)))) := by kernel_rfl
def cntOk (rp : Int) : List Port → Nat → Bool
  | [], _ => true
  | p :: r, i => (!(p.selected == 3) || (i : Int) == rp) && cntOk rp r (i + 1)
def cntS (x : Int) (p : Port) : Int := if p.selected == 3 then IntKind.i64.wrap (x + 1) else x
def cntFin (q : OffP) (r : Int) : St := ⟨[(3, [], .kb true), (9, [], .ptr 14 0), (11, [], .v (.int .i64 r))], [(14, q.new)], 15⟩
noncomputable def gBst3 : LoopFn := onTrim 15 cntTs fun st => match st.slots with
  | [(3, [], .kb true), (9, [], .ptr 14 0), (11, [], .ki .i64 0), (12, [], .ki .i64 0)] => (match unOff st with
    | some (x, n, no, nf, ps) => some (.ite (decide (n = ps.length ∧ ps.length < 9223372036854775808) && cntOk x.rootPort ps 0) (.ret (.exit 4, cntFin ⟨x, no, nf, ps, 0⟩ (ps.foldl cntS 0))) .bad)
    | none => none)
  | _ => none
theorem runL_fold (f : Int → Port → Int) (fin : Int → Ex × St) : ∀ (l : List Port) (i : Nat) (x : Int), runL (fun i p x => Step.go (f x p)) fin l i x = fin (l.foldl f x)
  | [], i, x => rfl
  | p :: r, i, x => by rw [runL]; dsimp only; rw [runL_fold f fin r (i + 1)]; rfl
theorem gBst3_ok (S : Stat) (ls : List (Nat × LoopFn)) : LoopOk Try.prog (withLoops (cL (S.rd 0 3)) ls) (fnOf 9).ntmps (lpOf 9 2) gBst3 := by
  refine loop_trim cL_fam (nx := 15) (fuel := 20) (ts := cntTs) (π := OffP) (τ := Int) (S.rd 0 3) (fun _ i => S.rd i 3) (fun _ _ => rfl) (fun q => q.ps) (fun q i x => cntSt q x (.v (.int .i64 i))) (fun q i x => cntOk q.x.rootPort (q.ps.drop i) i = true ∧ q.ps.length < 9223372036854775808)
    (fun q i p x => .go (cntS x p)) (fun q x => (.exit 4, cntFin q x)) (fun _ _ _ => rfl) ?_ ?_ ?_
  · intro st o r ho hr
    split at ho
    · rename_i hsl
      split at ho
      · rename_i x n no nf ps hu
        injection ho with ho
        subst ho
        obtain ⟨u1, u2⟩ := unOff_ok hu
        have hh := Out.ite_bad hr
        obtain ⟨hh1, hok⟩ := Bool.and_eq_true_iff.1 hh.1
        obtain ⟨rfl, hlt⟩ := of_decide_eq_true hh1
        obtain rfl := Option.some.inj hh.2
        refine ⟨⟨x, no, nf, ps, 0⟩, 0, ⟨hok, hlt⟩, (runL_fold cntS (fun y => (Ex.exit 4, cntFin ⟨x, no, nf, ps, 0⟩ y)) ps 0 0).symm, Nat.le_refl _, fun E => ⟨?_, ?_⟩⟩
        · rw [hsl]
          exact ⟨⟨_, rfl, rfl⟩, ⟨_, rfl, rfl⟩, ⟨_, rfl, rfl⟩, ⟨_, rfl, rfl⟩, trivial⟩
        · exact ⟨⟨_, u2, rfl, trivial⟩, ⟨_, u1, rfl, trivial⟩, trivial⟩
      · cases ho
    · cases ho
  · intro q i p x hp hinv
    obtain ⟨hok, hlt⟩ := hinv
    have hi := (List.getElem?_eq_some_iff.1 hp).1
    have hd : q.ps.drop i = p :: q.ps.drop (i + 1) := by rw [List.drop_eq_getElem_cons hi]; congr 1; exact Option.some.inj ((List.getElem?_eq_getElem hi).symm.trans hp)
    rw [hd, cntOk, Bool.and_eq_true] at hok
    have e1 : q.ps.getD i Port.dflt = p := by simp [List.getD, hp]
    have hii : (i : Int) < q.ps.length := by omega
    refine ⟨.nrm, cntSt q (cntS x p) (.v (.int .i64 (IntKind.i64.wrap (i + 1)))), ?_, rfl, ⟨hok.2, hlt⟩, fun E => ?_⟩
    · unfold cntS
      cases hs : p.selected == 3 with
      | true =>
        have := cnt_yes S q x i
        rw [e1, hs, show ((i : Int) != q.x.rootPort) = false from by have h1 := hok.1; rw [hs] at h1; simpa using h1] at this
        exact Out.way_sel this (by simp [hii, hi])
      | false =>
        have := cnt_no S q x i
        rw [e1, hs] at this
        exact Out.way_sel this (by simp [hii, hi])
    · rw [wrap_succ hi hlt]
      exact ⟨⟨⟨_, rfl, rfl⟩, ⟨_, rfl, rfl⟩, ⟨_, rfl, rfl⟩, ⟨_, rfl, rfl⟩, trivial⟩, ⟨⟨_, rfl, rfl, trivial⟩, ⟨_, rfl, rfl, trivial⟩, trivial⟩⟩
  · intro q x hinv
    exact ⟨.exit 4, cntSt q x (.v (.int .i64 q.ps.length)), Out.way_sel (cnt_over S q x q.ps.length) (by simp), rfl, by simp, fun E => ⟨⟨⟨_, rfl, rfl⟩, ⟨_, rfl, rfl⟩, ⟨_, rfl, rfl⟩, trivial⟩, ⟨⟨_, rfl, rfl, trivial⟩, trivial⟩⟩⟩
noncomputable def bstO (S : Stat) (q : InP) : Out SV := valF 3 (inline (withLoops (cL (S.rd 0 3)) [(9, gBst1), (17, gBst2), (23, gBst3)]) 20 (fnOf 9) [q.arg] q.heap 3)
def bsC (q : InP) : List Port := (tmA q).map clP
def bsB (q : InP) : Bri := stepB q.b (bsC q)
def bsP (q : InP) : List Port := mapI (stepP (bsB q)) (bsC q) 0
def bsR (q : InP) : Int := (bsP q).foldl cntS 0
def bsHead (q : InP) : Bool := decide (refCmpV (rootF q.b.id q.ps).1 (ownOf q.b.id) > 0) || decide ((rootF q.b.id q.ps).2 < -1) || decide ((rootF q.b.id q.ps).2 ≥ q.ps.length)
def bsOne (q : InP) : Bool := decide (q.ps.length = q.ps.length ∧ q.os.length = q.os.length ∧ q.fs.length = q.fs.length ∧ q.ps.length < 9223372036854775808) && q.ps.all fun p => !(bstBad q.b (rootF q.b.id q.ps).1 p)
theorem bst_no (S : Stat) (q : InP) : Out.way [true, true] (bstO S q) = some ([q.len, !(fewF q)], .kb true) := by kernel_rfl
theorem bst_yes (S : Stat) (q : InP) : Out.way [true, false, true, false, true, true, true, true, true, true, true, true, true, true] (bstO S q) =
    some ([q.len, !(fewF q), q.len, bsHead q, bsOne q] ++ q.big ++ [decide (0 ≤ (0 : Int)) && decide ((0 : Int) < q.ps.length), decide (0 < q.ps.length), decide (q.ps.length = (tmA q).length ∧ (tmA q).length < 9223372036854775808), decide ((tmA q).length = (bsC q).length ∧ (bsC q).length < 9223372036854775808), (bsC q).any askP,
      decide ((bsC q).length = (bsP q).length ∧ (bsP q).length < 9223372036854775808) && cntOk (bsB q).rootPort (bsP q) 0], .v (.bool ((bsR q == 1) == decide ((bsB q).rootPort ≥ 0) && decide (bsR q ≤ 1)))) := by kernel_rfl

/-! the plain law -/
theorem leV_refl (a : Vec) : leV a a := (cmpV_le a a).1 (by rw [(cmpV_zero a a).2 rfl]; decide)
theorem rootStep_le (id : Int) (i : Nat) (p : Port) (x : Vec × Int) : leV (rootStep id i p x).1 x.1 := by
  unfold rootStep
  split
  · exact leV_refl _
  · split
    · rename_i h
      have h := of_decide_eq_true h
      have h' : cmpV (thrV p.vec p.cost p.id) x.1 ≤ 0 := by omega
      exact (cmpV_le _ _).1 h'
    · exact leV_refl _
theorem rootL_le (id : Int) : ∀ (l : List Port) (i : Nat) (x : Vec × Int), leV (rootL id l i x).1 x.1
  | [], _, _ => leV_refl _
  | p :: l, i, x => by rw [rootL]; exact leV_trans (rootL_le id l (i + 1) _) (rootStep_le id i p x)
theorem rootL_min (id : Int) : ∀ (l : List Port) (i : Nat) (x : Vec × Int) (p : Port), p ∈ l → p.is_ = 3 → ownV id p.vec = false → leV (rootL id l i x).1 (thrV p.vec p.cost p.id)
  | [], _, _, _, h, _, _ => by cases h
  | p' :: l, i, x, p, h, h3, ho => by
    rw [rootL]
    rcases List.mem_cons.1 h with rfl | h
    · refine leV_trans (rootL_le id l (i + 1) _) ?_
      unfold rootStep
      rw [h3, ho, if_neg (by decide)]
      split
      · exact leV_refl _
      · rename_i hc
        have hc : ¬ cmpV (thrV p.vec p.cost p.id) x.1 < 0 := fun hlt => hc (decide_eq_true hlt)
        exact (cmpV_ge _ _).1 (by omega)
    · exact rootL_min id l (i + 1) _ p h h3 ho
theorem shl16_own {id : Int} {v : Vec} (hid : 0 ≤ id ∧ id < 18446744073709551616) (hv : v.Wf) (h : (shl16 v.bridge != shl16 id) = true) : ownV id v = false := by
  have hb := hv.bridge
  unfold shl16 at h
  simp only [IntKind.wrap, IntKind.signed, IntKind.bits, show min (Int.toNat 16) 64 = 16 from rfl] at h
  unfold ownV
  rw [addrI_eq hid, addrI_eq hb, beq_eq_false_iff_ne]
  intro he
  rw [bne_iff_ne] at h
  apply h
  simp
  omega
theorem rootL_is (id : Int) : ∀ (l : List Port) (i : Nat) (x : Vec × Int), (rootL id l i x).2 = x.2 ∨ ∃ j p, l[j]? = some p ∧ p.is_ = 3 ∧ (rootL id l i x).2 = ((i + j : Nat) : Int)
  | [], _, _ => .inl rfl
  | p :: l, i, x => by
    rw [rootL]
    rcases rootL_is id l (i + 1) (rootStep id i p x) with h | ⟨j, p', h1, h2, h3⟩
    · rw [h]
      unfold rootStep
      split
      · exact .inl rfl
      · rename_i hb
        split
        · refine .inr ⟨0, p, rfl, ?_, by simp⟩
          by_cases h3 : p.is_ = 3
          · exact h3
          · exact absurd (by simp [h3]) hb
        · exact .inl rfl
    · exact .inr ⟨j + 1, p', by simpa using h1, h2, by rw [h3]; congr 1; omega⟩
theorem clI_four (n : Int) : clI n = 0 ∨ clI n = 1 ∨ clI n = 2 ∨ clI n = 3 := by unfold clI; repeat' split <;> omega
theorem sel_three {b : Bri} {i : Nat} {p : Port} (h : p.is_ = 0 ∨ p.is_ = 1 ∨ p.is_ = 2 ∨ p.is_ = 3) : ((stepP b i p).selected == 3) = (p.is_ == 3 && (i : Int) == b.rootPort) := by
  have e : (baseP b p).is_ = p.is_ := rfl
  unfold stepP roleF
  rw [e]
  rcases h with h | h | h | h <;> rw [h]
  · simp
  · simp [setSel]
  · simp [setSel]
  · cases hi : ((i : Int) == b.rootPort) with
    | true => simp [setSel]
    | false =>
      cases betterP (baseP b p) <;> cases ownV b.id (baseP b p).vec <;> simp [setSel]
theorem cntOk_step (b : Bri) : ∀ (l : List Port) (i : Nat), (∀ p ∈ l, p.is_ = 0 ∨ p.is_ = 1 ∨ p.is_ = 2 ∨ p.is_ = 3) → cntOk b.rootPort (mapI (stepP b) l i) i = true
  | [], _, _ => rfl
  | p :: l, i, h => by
    rw [mapI, cntOk, sel_three (h p List.mem_cons_self), cntOk_step b l (i + 1) (fun p hp => h p (List.mem_cons_of_mem _ hp))]
    cases p.is_ == 3 <;> cases ((i : Int) == b.rootPort) <;> rfl
theorem cnt_none (b : Bri) : ∀ (l : List Port) (i : Nat) (x : Int), (∀ p ∈ l, p.is_ = 0 ∨ p.is_ = 1 ∨ p.is_ = 2 ∨ p.is_ = 3) → b.rootPort < i → (mapI (stepP b) l i).foldl cntS x = x
  | [], _, _, _, _ => rfl
  | p :: l, i, x, h, hr => by
    have h0 : ((i : Int) == b.rootPort) = false := by rw [beq_eq_false_iff_ne]; omega
    rw [mapI, List.foldl_cons]
    have : cntS x (stepP b i p) = x := by unfold cntS; rw [sel_three (h p List.mem_cons_self), h0]; simp
    rw [this]
    exact cnt_none b l (i + 1) x (fun p hp => h p (List.mem_cons_of_mem _ hp)) (by omega)
theorem cnt_one (b : Bri) : ∀ (l : List Port) (i j : Nat) (p : Port) (x : Int), (∀ p ∈ l, p.is_ = 0 ∨ p.is_ = 1 ∨ p.is_ = 2 ∨ p.is_ = 3) → l[j]? = some p → p.is_ = 3 → b.rootPort = ((i + j : Nat) : Int) → (mapI (stepP b) l i).foldl cntS x = IntKind.i64.wrap (x + 1)
  | [], _, _, _, _, _, h, _, _ => by simp at h
  | p' :: l, i, 0, p, x, h, hp, h3, hr => by
    simp only [List.getElem?_cons_zero, Option.some.injEq] at hp
    subst hp
    have h0 : ((i : Int) == b.rootPort) = true := by rw [beq_iff_eq, hr]; simp
    rw [mapI, List.foldl_cons]
    have : cntS x (stepP b i p') = IntKind.i64.wrap (x + 1) := by unfold cntS; rw [sel_three (h p' List.mem_cons_self), h0, h3]; simp
    rw [this]
    exact cnt_none b l (i + 1) _ (fun p hp => h p (List.mem_cons_of_mem _ hp)) (by rw [hr]; omega)
  | p' :: l, i, j + 1, p, x, h, hp, h3, hr => by
    have h0 : ((i : Int) == b.rootPort) = false := by rw [beq_eq_false_iff_ne, hr]; omega
    rw [mapI, List.foldl_cons]
    have : cntS x (stepP b i p') = x := by unfold cntS; rw [sel_three (h p' List.mem_cons_self), h0]; simp
    rw [this]
    exact cnt_one b l (i + 1) j p x (fun p hp => h p (List.mem_cons_of_mem _ hp)) (by simpa using hp) h3 (by rw [hr]; congr 1; omega)
theorem bst_true (S : Stat) (q : InP) (hl : q.ps.length < 9223372036854775808) (h : q.Wf) : ∃ v, (bstO S q).sel = some v ∧ ∀ S E, v.den S E = .bool true := by
  cases hf : fewF q with
  | false => exact ⟨_, Out.way_sel (bst_no S q) (by simp [InP.len, hl, hf]), fun _ _ => rfl⟩
  | true =>
    obtain ⟨h1, h2, h3, h4, _⟩ := fewF_lens hf
    have b1 : q.ps.length ≤ 134217728 := by omega
    have b2 : q.os.length ≤ 134217728 := by omega
    have b3 : q.fs.length ≤ 134217728 := by omega
    have n0 : (0 : Int) < q.ps.length := by omega
    have n1 : 0 < q.ps.length := by omega
    have la : (tmA q).length = q.ps.length := by unfold tmA; rw [List.length_set]
    have lc : (bsC q).length = q.ps.length := by unfold bsC; rw [List.length_map, la]
    have lp : (bsP q).length = q.ps.length := by unfold bsP; rw [mapI_length, lc]
    have ha : (bsC q).any askP = true := by
      unfold bsC tmA
      cases hp : q.ps with
      | nil => rw [hp] at h2; simp at h2
      | cons p r => rfl
    have four : ∀ p ∈ bsC q, p.is_ = 0 ∨ p.is_ = 1 ∨ p.is_ = 2 ∨ p.is_ = 3 := by
      intro p hp
      obtain ⟨p', _, rfl⟩ := List.mem_map.1 hp
      exact clI_four _
    have hok : cntOk (bsB q).rootPort (bsP q) 0 = true := cntOk_step _ _ _ four
    obtain ⟨r1, r2⟩ := rootF_bnd q.b.id q.ps
    have hhead : bsHead q = false := by
      have hle := (cmpV_le _ _).2 (rootL_le q.b.id q.ps 0 (ownOf q.b.id, -1))
      have e1 : decide (refCmpV (rootF q.b.id q.ps).1 (ownOf q.b.id) > 0) = false := by
        rw [refCmpV_eq]
        refine decide_eq_false ?_
        have : cmpV (rootF q.b.id q.ps).1 (ownOf q.b.id) ≤ 0 := hle
        omega
      unfold bsHead
      rw [e1, decide_eq_false (p := (rootF q.b.id q.ps).2 < -1) (by omega), decide_eq_false (p := (rootF q.b.id q.ps).2 ≥ q.ps.length) (by omega)]
      rfl
    have hone : bsOne q = true := by
      unfold bsOne
      rw [Bool.and_eq_true]
      refine ⟨decide_eq_true ⟨rfl, rfl, rfl, hl⟩, List.all_eq_true.2 fun p hp => ?_⟩
      rw [Bool.not_eq_true']
      cases hb : bstBad q.b (rootF q.b.id q.ps).1 p with
      | false => rfl
      | true =>
        unfold bstBad at hb
        simp only [Bool.and_eq_true, decide_eq_true_eq] at hb
        obtain ⟨⟨c1, c2⟩, c3⟩ := hb
        have hm := (cmpV_le _ _).2 (rootL_min q.b.id q.ps 0 (ownOf q.b.id, -1) p hp (by simpa using c1) (shl16_own h.id (h.ps p hp).vec c2))
        rw [refCmpV_eq] at c3
        have hm : cmpV (rootF q.b.id q.ps).1 (thrV p.vec p.cost p.id) ≤ 0 := hm
        omega
    have e := bst_yes S q
    rw [hhead, hone, ha, hok] at e
    refine ⟨_, Out.way_sel e (by simp [InP.len, InP.big, Rows.len, hl, hf, la, lc, lp, b1, b2, b3, n0, n1]), fun S E => ?_⟩
    have hR : bsR q = if (bsB q).rootPort ≥ 0 then 1 else 0 := by
      have hp : (bsB q).rootPort = (rootL q.b.id (bsC q) 0 (ownOf q.b.id, -1)).2 := rfl
      unfold bsR bsP
      rcases rootL_is q.b.id (bsC q) 0 (ownOf q.b.id, -1) with hm | ⟨j, p, g1, g2, g3⟩
      · rw [← hp] at hm
        have hm : (bsB q).rootPort = -1 := hm
        rw [if_neg (by omega)]
        exact cnt_none _ _ _ _ four (by rw [hm]; omega)
      · rw [← hp] at g3
        rw [if_pos (by omega)]
        exact cnt_one _ _ 0 j p 0 four g1 g2 g3
    simp only [SV.den]
    rw [hR]
    by_cases hp : (bsB q).rootPort ≥ 0
    · rw [if_pos hp, decide_eq_true hp]; rfl
    · rw [if_neg hp, decide_eq_false hp]; rfl
end Go.Proofs.Ythhdfidenigcaaa
