/- fordlaw13.InfoOthers. -/
import Derived.Test.YthhdfidenigcaaaInfoW
set_option linter.unusedVariables false
set_option maxRecDepth 100000
namespace Go.Proofs.Ythhdfidenigcaaa
open Go Go.RowKit

structure OthP where
  x : Bri
  q : InP
  k : Int
  ps' : List Port
  os' : List Sent
  fs' : List Int
  n : Nat
  no : Nat
  nf : Nat
  n0 : Nat
  no0 : Nat
  nf0 : Nat
def OthP.new (q : OthP) : SV := q.x.sv (.slr 9 q.n 9 false) (.slr 11 q.no 11 false) (.slr 13 q.nf 13 false)
def OthP.old (q : OthP) : SV := q.q.b.sv (.slr 0 q.n0 0 false) (.slr 1 q.no0 1 false) (.slr 2 q.nf0 2 false)
def OthP.heap (q : OthP) : Heap := [(14, q.new), (3, q.old), (9, .rows (.port q.ps')), (11, .rows (.sent q.os')), (13, .rows (.int .i64 q.fs')), (0, .rows (.port q.q.ps)), (1, .rows (.sent q.q.os)), (2, .rows (.int .i64 q.q.fs))]
def othTs : List Nat := [2, 4, 5, 7, 8, 9]
def othSt (q : OthP) (i : SV) : St := ⟨[(2, [], .ptr 3 0), (4, [], .kb false), (5, [], .kb true), (7, [], .v (.int .i64 q.k)), (8, [], .ptr 14 0), (9, [], i)], q.heap, 15⟩
theorem oth_round (S : Stat) (q : OthP) (i : Nat) : Out.way [true, true, false] (trimO othTs 15 (exec (cV (S.rd 0 3)) (fnOf 18).ntmps 20 (lpOf 18 0) (othSt q (.v (.int .i64 i))))) =
    some ([decide ((i : Int) < q.n), (decide (0 ≤ (i : Int)) && decide ((i : Int) < q.n)) && (decide (i < q.ps'.length) && ((decide (0 ≤ (i : Int)) && decide ((i : Int) < q.n0)) && decide (i < q.q.ps.length))),
      (i : Int) != q.k && !(decide (q.ps'.getD i Port.dflt = q.q.ps.getD i Port.dflt))], (.nrm, othSt q (.v (.int .i64 (IntKind.i64.wrap (i + 1)))))) := by kernel_rfl
theorem oth_over (S : Stat) (q : OthP) (i : Nat) : Out.way [false] (trimO othTs 15 (exec (cV (S.rd 0 3)) (fnOf 18).ntmps 20 (lpOf 18 0) (othSt q (.v (.int .i64 i))))) =
    some ([decide ((i : Int) < q.n)], (.exit 0, othSt q (.v (.int .i64 i)))) := by kernel_rfl
def othFin (q : OthP) : St := ⟨[(2, [], .ptr 3 0), (4, [], .kb false), (5, [], .kb true), (7, [], .v (.int .i64 q.k)), (8, [], .ptr 14 0)], q.heap, 15⟩
def othGood (k : Int) (a b : List Port) : Bool := (List.range a.length).all fun j => ((j : Int) == k) || decide (a.getD j Port.dflt = b.getD j Port.dflt)
def othTest (q : OthP) : Bool := decide (q.n = q.ps'.length ∧ q.n0 = q.q.ps.length ∧ q.ps'.length = q.q.ps.length ∧ q.ps'.length < 9223372036854775808) && othGood q.k q.ps' q.q.ps
def unOth (st : St) : Option (Bri × InP × List Port × List Sent × List Int × (Nat × Nat × Nat × Nat × Nat × Nat)) :=
  match st.heap.get 14, st.heap.get 3, st.heap.get 9, st.heap.get 11, st.heap.get 13, st.heap.get 0, st.heap.get 1, st.heap.get 2 with
  | some bx, some b3, some (.rows (.port ps')), some (.rows (.sent os')), some (.rows (.int .i64 fs')), some (.rows (.port ps)), some (.rows (.sent os)), some (.rows (.int .i64 fs)) => (match unBri bx, unBri b3 with
    | some (x, .slr 9 n 9 false, .slr 11 no 11 false, .slr 13 nf 13 false), some (b, .slr 0 n0 0 false, .slr 1 no0 1 false, .slr 2 nf0 2 false) => some (x, ⟨b, ps, os, fs⟩, ps', os', fs', (n, no, nf, n0, no0, nf0))
    | _, _ => none)
  | _, _, _, _, _, _, _, _ => none
theorem unOth_ok {st : St} {x : Bri} {q : InP} {ps' : List Port} {os' : List Sent} {fs' : List Int} {n no nf n0 no0 nf0 : Nat} (h : unOth st = some (x, q, ps', os', fs', (n, no, nf, n0, no0, nf0))) (k : Int) (S S' : Stat) (E : Env) (h1 : S.sl = S'.sl) (h2 : S.ix = S'.ix) :
    ReHeap st.heap S S' E (OthP.heap ⟨x, q, k, ps', os', fs', n, no, nf, n0, no0, nf0⟩) := by
  unfold unOth at h
  split at h
  · rename_i bx b3 ps'' os'' fs'' ps os fs g14 g3 g9 g11 g13 g0 g1 g2
    split at h
    · rename_i hx hb
      obtain ⟨rfl, _, _⟩ := unBri_ok hx
      obtain ⟨rfl, _, _⟩ := unBri_ok hb
      injection h with h
      simp only [Prod.mk.injEq] at h
      obtain ⟨rfl, rfl, rfl, rfl, rfl, rfl, rfl, rfl, rfl, rfl, rfl⟩ := h
      exact ⟨⟨_, g14, SV.cells_stat h1 h2 E _, trivial⟩, ⟨_, g3, SV.cells_stat h1 h2 E _, trivial⟩, ⟨_, g9, rfl, trivial⟩, ⟨_, g11, rfl, trivial⟩, ⟨_, g13, rfl, trivial⟩, ⟨_, g0, rfl, trivial⟩, ⟨_, g1, rfl, trivial⟩, ⟨_, g2, rfl, trivial⟩, trivial⟩
    · cases h
  · cases h
noncomputable def gOth : LoopFn := onTrim 15 othTs fun st => match st.slots with
  | [(2, [], .ptr 3 0), (4, [], .kb false), (5, [], .kb true), (7, [], .v (.int .i64 k)), (8, [], .ptr 14 0), (9, [], .ki .i64 0)] => (match unOth st with
    | some (x, q, ps', os', fs', (n, no, nf, n0, no0, nf0)) => some (.ite (othTest ⟨x, q, k, ps', os', fs', n, no, nf, n0, no0, nf0⟩) (.ret (.exit 0, othFin ⟨x, q, k, ps', os', fs', n, no, nf, n0, no0, nf0⟩)) .bad)
    | none => none)
  | _ => none
theorem runL_goB {α : Type} (fin : Ex × St) : ∀ (l : List α) (i : Nat), runL (fun i (p : α) (x : Unit) => Step.go ()) (fun _ => fin) l i () = fin
  | [], i => rfl
  | p :: r, i => by rw [runL]; exact runL_goB fin r (i + 1)
theorem OthP.reH (q : OthP) (S S' : Stat) (E : Env) (h1 : S.sl = S'.sl) (h2 : S.ix = S'.ix) : ReHeap q.heap S S' E q.heap :=
  ⟨⟨_, rfl, SV.cells_stat h1 h2 E _, trivial⟩, ⟨_, rfl, SV.cells_stat h1 h2 E _, trivial⟩, ⟨_, rfl, rfl, trivial⟩, ⟨_, rfl, rfl, trivial⟩, ⟨_, rfl, rfl, trivial⟩, ⟨_, rfl, rfl, trivial⟩, ⟨_, rfl, rfl, trivial⟩, ⟨_, rfl, rfl, trivial⟩, trivial⟩
theorem oth_slots (q : OthP) (i : Int) (S S' : Stat) (E : Env) : ReSlots (othSt q (.v (.int .i64 i))).slots S S' E (othSt q (.v (.int .i64 i))).slots :=
  ⟨⟨_, rfl, rfl⟩, ⟨_, rfl, rfl⟩, ⟨_, rfl, rfl⟩, ⟨_, rfl, rfl⟩, ⟨_, rfl, rfl⟩, ⟨_, rfl, rfl⟩, trivial⟩
theorem oth_fin (q : OthP) (i : Int) (S S' : Stat) (E : Env) : ReSlots (othSt q (.v (.int .i64 i))).slots S S' E (othFin q).slots :=
  ⟨⟨_, rfl, rfl⟩, ⟨_, rfl, rfl⟩, ⟨_, rfl, rfl⟩, ⟨_, rfl, rfl⟩, ⟨_, rfl, rfl⟩, trivial⟩
theorem gOth_ok (S : Stat) (ls : List (Nat × LoopFn)) : LoopOk Try.prog (withLoops (cV (S.rd 0 3)) ls) (fnOf 18).ntmps (lpOf 18 0) gOth := by
  refine loop_trim cV_fam (nx := 15) (fuel := 20) (ts := othTs) (π := OthP) (τ := Unit) (S.rd 0 3) (fun _ i => S.rd 0 3) (fun _ _ => rfl) (fun q => q.ps') (fun q i x => othSt q (.v (.int .i64 i))) (fun q i x => othTest q = true)
    (fun q i p x => .go ()) (fun q x => (.exit 0, othFin q)) (fun _ _ _ => rfl) ?_ ?_ ?_
  · intro st o r ho hr
    split at ho
    · rename_i k hsl
      split at ho
      · rename_i x q ps' os' fs' n no nf n0 no0 nf0 hu
        injection ho with ho
        subst ho
        have hh := Out.ite_bad hr
        obtain rfl := Option.some.inj hh.2
        refine ⟨⟨x, q, k, ps', os', fs', n, no, nf, n0, no0, nf0⟩, (), hh.1, (runL_goB _ _ 0).symm, Nat.le_refl _, fun E => ⟨?_, unOth_ok hu k _ _ E rfl rfl⟩⟩
        rw [hsl]
        exact ⟨⟨_, rfl, rfl⟩, ⟨_, rfl, rfl⟩, ⟨_, rfl, rfl⟩, ⟨_, rfl, rfl⟩, ⟨_, rfl, rfl⟩, ⟨_, rfl, rfl⟩, trivial⟩
      · cases ho
    · cases ho
  · intro q i p x hp hinv
    have hinv0 := hinv
    unfold othTest at hinv
    simp only [Bool.and_eq_true, decide_eq_true_eq] at hinv
    obtain ⟨⟨e1, e2, e3, e4⟩, hg⟩ := hinv
    have hi := (List.getElem?_eq_some_iff.1 hp).1
    have hgi := List.all_eq_true.1 hg i (List.mem_range.2 hi)
    refine ⟨.nrm, othSt q (.v (.int .i64 (IntKind.i64.wrap (i + 1)))), ?_, rfl, hinv0, fun E => ?_⟩
    · refine Out.way_sel (oth_round S q i) ?_
      have hc : ((i : Int) != q.k && !(decide (q.ps'.getD i Port.dflt = q.q.ps.getD i Port.dflt))) = false := by
        cases h1 : ((i : Int) == q.k) with
        | true => simp [bne, h1]
        | false => rw [h1, Bool.false_or] at hgi; rw [hgi]; simp
      rw [hc]
      simp [e1, e2, ← e3, hi]
    · rw [wrap_succ hi e4]
      exact ⟨oth_slots q _ _ _ E, q.reH _ _ E rfl rfl⟩
  · intro q x hinv
    unfold othTest at hinv
    simp only [Bool.and_eq_true, decide_eq_true_eq] at hinv
    obtain ⟨⟨e1, e2, e3, e4⟩, hg⟩ := hinv
    exact ⟨.exit 0, othSt q (.v (.int .i64 q.ps'.length)), Out.way_sel (oth_over S q q.ps'.length) (by simp [e1]), rfl, by simp, fun E => ⟨oth_fin q _ _ _ E, q.reH _ _ E rfl rfl⟩⟩
noncomputable def iotO (S : Stat) (q : InP) (k : Int) : Out SV := valF 3 (inline (withLoops (cV (S.rd 0 3)) [(9, gOth)]) 20 (fnOf 18) [q.arg, .v (.int .u8 k)] q.heap 3)
def othP (q : InP) (k : Int) : OthP := ⟨q.b, q, iK q k, stepL q k q.ps, q.os, q.fs, q.ps.length, q.os.length, q.fs.length, q.ps.length, q.os.length, q.fs.length⟩
def InP.bigs (q : InP) : Bool := decide (q.ps.length = (Rows.port q.ps).len ∧ q.ps.length ≤ 134217728) && (decide (q.os.length = (Rows.sent q.os).len ∧ q.os.length ≤ 134217728) && decide (q.fs.length = (Rows.int IntKind.i64 q.fs).len ∧ q.fs.length ≤ 134217728))
theorem iot_no (S : Stat) (q : InP) (k : Int) : Out.way [true, true] (iotO S q k) = some ([q.len, !(fewF q)], .kb true) := by kernel_rfl
theorem iot_yes (S : Stat) (q : InP) (k : Int) : Out.way [true, false, true, true, true, true, true, true, true] (iotO S q k) =
    some (iHead q ++ q.big ++ [rngL q k q.ps, othTest (othP q k), (q.bigs && true) && stepTest q q.ps q.ps],
      .v (.bool (sameF ⟨q.b, q.b, q.ps, q.ps, q.os, q.os, q.fs, q.fs, false, false, false, false, false, false⟩))) := by kernel_rfl
theorem iot_true (S : Stat) (q : InP) (k : Int) (hl : q.ps.length < 9223372036854775808) (h : q.Wf) (hk : (Lit.int .u8 k).wf = true) : ∃ v, (iotO S q k).sel = some v ∧ ∀ S E, v.den S E = .bool true := by
  cases hf : fewF q with
  | false => exact ⟨_, Out.way_sel (iot_no S q k) (by simp [InP.len, hl, hf]), fun _ _ => rfl⟩
  | true =>
    have r := ready hl hk hf
    obtain ⟨h1, h2, h3, h4, h5⟩ := fewF_lens hf
    have b1 : q.ps.length ≤ 134217728 := by omega
    have b2 : q.os.length ≤ 134217728 := by omega
    have b3 : q.fs.length ≤ 134217728 := by omega
    have d1 : q.os.length < 9223372036854775808 := by omega
    have d2 : q.fs.length < 9223372036854775808 := by omega
    have hgood : othGood (iK q k) (stepL q k q.ps) q.ps = true := by
      unfold othGood
      rw [List.all_eq_true]
      intro j hj
      by_cases he : (j : Int) = iK q k
      · simp [he]
      · have hne : iN q k ≠ j := by
          intro hh
          have := r.lo
          unfold iN at hh
          omega
        have : (stepL q k q.ps).getD j Port.dflt = q.ps.getD j Port.dflt := by
          unfold stepL upd
          rw [List.getD_eq_getElem?_getD, List.getElem?_set_ne hne, List.getD_eq_getElem?_getD]
        rw [this]
        simp
    have ht : othTest (othP q k) = true := by
      unfold othTest othP
      simp only [Bool.and_eq_true, decide_eq_true_eq]
      exact ⟨⟨(stepL_len q k _).symm, trivial, stepL_len q k _, by rw [stepL_len]; exact hl⟩, hgood⟩
    refine ⟨_, Out.way_sel (iot_yes S q k) ?_, fun S E => ?_⟩
    · rw [r.head, ht]
      simp [(r.ll _ rfl).1, InP.bigs, stepTest, Rows.len, hl, b1, b2, b3, d1, d2]
    · simp only [SV.den]
      rw [sameF_self]
end Go.Proofs.Ythhdfidenigcaaa
