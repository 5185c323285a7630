/- fordref08.Same: are two bridges one? -/
import Derived.Test.YthhdfidenigcaaaClk
set_option linter.unusedVariables false
set_option maxRecDepth 100000
namespace Go.Proofs.Ythhdfidenigcaaa
open Go Go.RowKit

noncomputable def cSame (S : Stat) : Ctx := mkCtx S [] (psE S) [] 20 6
theorem cSame_fam : Fam cSame := mk_fam psE (fun _ => []) 20 6 psE_ok (fun _ _ _ h => by cases h)
structure SameP where
  a : Bri
  b : Bri
  ps : List Port
  ps' : List Port
  os : List Sent
  os' : List Sent
  fs : List Int
  fs' : List Int
  q1 : Bool
  q2 : Bool
  q3 : Bool
  q4 : Bool
  q5 : Bool
  q6 : Bool
def SameP.heap (q : SameP) : Heap := [(7, q.b.sv (.slr 3 q.ps'.length 3 q.q4) (.slr 4 q.os'.length 4 q.q5) (.slr 5 q.fs'.length 5 q.q6)), (6, q.a.sv (.slr 0 q.ps.length 0 q.q1) (.slr 1 q.os.length 1 q.q2) (.slr 2 q.fs.length 2 q.q3)), (0, .rows (.port q.ps)), (1, .rows (.sent q.os)), (2, .rows (.int .i64 q.fs)), (3, .rows (.port q.ps')), (4, .rows (.sent q.os')), (5, .rows (.int .i64 q.fs'))]
def SameP.st (q : SameP) (t : Nat) (i : SV) : St := ⟨[(2, [], .ptr 6 0), (3, [], .ptr 7 0), (t, [], i)], q.heap, 8⟩
def SameP.no (q : SameP) (t : Nat) (i : SV) : St := ⟨[(2, [], .ptr 6 0), (3, [], .ptr 7 0), (4, [], .kb false), (t, [], i)], q.heap, 8⟩
def SameP.fin (q : SameP) : St := ⟨[(2, [], .ptr 6 0), (3, [], .ptr 7 0)], q.heap, 8⟩
def sameNo : St := ⟨[(4, [], .kb false)], [], 8⟩
/-- does a pair differ? -/
def neqP (x : Port × Port) : Bool := !(decide (x.1 = x.2))
def neqS (x : Sent × Sent) : Bool := !(decide (x.1 = x.2))
def neqI (x : Int × Int) : Bool := x.1 != x.2
/-- a state of a walk, taken apart -/
def unSame : Heap → Option SameP
  | [(7, bx), (6, ax), (0, .rows (.port ps)), (1, .rows (.sent os)), (2, .rows (.int .i64 fs)), (3, .rows (.port ps')), (4, .rows (.sent os')), (5, .rows (.int .i64 fs'))] =>
    (match unBri ax, unBri bx with
    | some (a, .slr 0 n1 0 q1, .slr 1 n2 1 q2, .slr 2 n3 2 q3), some (b, .slr 3 n4 3 q4, .slr 4 n5 4 q5, .slr 5 n6 5 q6) =>
      some ⟨a, b, ps, ps', os, os', fs, fs', q1, q2, q3, q4, q5, q6⟩
    | _, _ => none)
  | _ => none
def sameLens : Heap → List (Nat × Nat)
  | [(7, bx), (6, ax), (0, .rows (.port ps)), (1, .rows (.sent os)), (2, .rows (.int .i64 fs)), (3, .rows (.port ps')), (4, .rows (.sent os')), (5, .rows (.int .i64 fs'))] =>
    (match unBri ax, unBri bx with
    | some (a, .slr 0 n1 0 q1, .slr 1 n2 1 q2, .slr 2 n3 2 q3), some (b, .slr 3 n4 3 q4, .slr 4 n5 4 q5, .slr 5 n6 5 q6) => [(n1, ps.length), (n2, os.length), (n3, fs.length), (n4, ps'.length), (n5, os'.length), (n6, fs'.length)]
    | _, _ => [])
  | _ => []
def lensOk (l : List (Nat × Nat)) : Prop := ∀ x ∈ l, x.1 = x.2
instance (l : List (Nat × Nat)) : Decidable (lensOk l) := by unfold lensOk; infer_instance
theorem unSame_ok {H : Heap} {q : SameP} (h : unSame H = some q) (hl : lensOk (sameLens H)) : H = q.heap := by
  unfold unSame at h
  split at h
  · split at h
    · rename_i ha hb
      injection h with h
      subst h
      unfold sameLens at hl
      simp only [ha, hb] at hl
      obtain ⟨rfl, _, _⟩ := unBri_ok ha
      obtain ⟨rfl, _, _⟩ := unBri_ok hb
      have e1 := hl _ (List.mem_cons_self)
      have e2 := hl _ (List.mem_cons_of_mem _ (List.mem_cons_self))
      have e3 := hl _ (List.mem_cons_of_mem _ (List.mem_cons_of_mem _ (List.mem_cons_self)))
      have e4 := hl _ (List.mem_cons_of_mem _ (List.mem_cons_of_mem _ (List.mem_cons_of_mem _ (List.mem_cons_self))))
      have e5 := hl _ (List.mem_cons_of_mem _ (List.mem_cons_of_mem _ (List.mem_cons_of_mem _ (List.mem_cons_of_mem _ (List.mem_cons_self)))))
      have e6 := hl _ (List.mem_cons_of_mem _ (List.mem_cons_of_mem _ (List.mem_cons_of_mem _ (List.mem_cons_of_mem _ (List.mem_cons_of_mem _ (List.mem_cons_self))))))
      dsimp only at e1 e2 e3 e4 e5 e6
      subst e1 e2 e3 e4 e5 e6
      rfl
    · cases h
  · cases h
theorem SameP.reH (q : SameP) (S S' : Stat) (h : S.sl = S'.sl) (h2 : S.ix = S'.ix) (E : Env) : ReHeap q.heap S S' E q.heap :=
  ⟨⟨_, rfl, SV.cells_stat h h2 E _, trivial⟩, ⟨_, rfl, SV.cells_stat h h2 E _, trivial⟩, ⟨_, rfl, rfl, trivial⟩, ⟨_, rfl, rfl, trivial⟩, ⟨_, rfl, rfl, trivial⟩, ⟨_, rfl, rfl, trivial⟩, ⟨_, rfl, rfl, trivial⟩, ⟨_, rfl, rfl, trivial⟩, trivial⟩

theorem same_round0 (S : Stat) (q : SameP) (i : Nat) : trimO [2, 3, 4, 5] 8 (exec (cSame (S.rd 0 6)) (fnOf 38).ntmps 20 (lpOf 38 0) (q.st 5 (.v (.int .i64 i)))) =
    .ite (decide ((i : Int) < (q.ps.length : Int))) (.ite ((decide (0 ≤ (i : Int)) && decide ((i : Int) < (q.ps.length : Int))) && (decide (i < q.ps.length) && ((decide (0 ≤ (i : Int)) && decide ((i : Int) < (q.ps'.length : Int))) && decide (i < q.ps'.length))))
      (.ite (neqP (q.ps.getD i Port.dflt, q.ps'.getD i Port.dflt)) (.ret (.ret, q.no 5 (.v (.int .i64 i)))) (.ret (.nrm, q.st 5 (.v (.int .i64 (IntKind.i64.wrap (i + 1))))))) .bad)
      (.ret (.exit 0, q.st 5 (.v (.int .i64 i)))) := by kernel_rfl
noncomputable def gSame0 : LoopFn := onTrim 8 [2, 3, 5] fun st => match st.slots with
  | [(2, [], .ptr 6 0), (3, [], .ptr 7 0), (5, [], .ki .i64 0)] => (match unSame st.heap with
    | some q => some (.ite (decide (lensOk (sameLens st.heap) ∧ q.ps.length = q.ps'.length ∧ q.ps.length < 9223372036854775808)) (.ite ((q.ps.zip q.ps').any neqP) (.ret (.ret, sameNo)) (.ret (.exit 0, q.fin))) .bad)
    | none => none)
  | _ => none
theorem gSame0_ok (S : Stat) (ls : List (Nat × LoopFn)) : LoopOk Try.prog (withLoops (cSame (S.rd 0 6)) ls) (fnOf 38).ntmps (lpOf 38 0) gSame0 := by
  have hrun : ∀ (q : SameP) (l : List (Port × Port)) (i : Nat), runL (fun i x _ => if neqP x = true then Step.out .ret sameNo else .go ()) (fun _ => (Ex.exit 0, q.fin)) l i () = if l.any neqP = true then (.ret, sameNo) else (.exit 0, q.fin) := fun q => runL_any fun i a => rfl
  refine loop_trim cSame_fam (nx := 8) (fuel := 20) (ts := [2, 3, 4, 5]) (π := SameP) (τ := Unit) (S.rd 0 6) (fun _ i => S.rd 0 6) (fun _ _ => rfl) (fun q => q.ps.zip q.ps') (fun q i x => q.st 5 (.v (.int .i64 i))) (fun q i x => q.ps.length = q.ps'.length ∧ q.ps.length < 9223372036854775808)
    (fun q i x _ => if neqP x = true then .out .ret sameNo else .go ()) (fun q x => (.exit 0, q.fin)) (fun _ _ _ => rfl) ?_ ?_ ?_
  · rintro ⟨sl, hp, nx⟩ o r ho hr
    dsimp only at ho
    split at ho
    · split at ho
      · rename_i q hq
        injection ho with ho
        subst ho
        have hh := Out.ite_bad hr
        obtain ⟨h1, h2, h3⟩ := of_decide_eq_true hh.1
        obtain rfl := unSame_ok hq h1
        have h4 := hh.2
        refine ⟨q, (), ⟨h2, h3⟩, ?_, ?_, fun E => ⟨⟨⟨_, rfl, rfl⟩, ⟨_, rfl, rfl⟩, ⟨_, rfl, rfl⟩, trivial⟩, q.reH _ _ rfl rfl E⟩⟩
        · rw [hrun]
          simp only [Out.sel] at h4
          split at h4 <;> simp_all
        · simp only [Out.sel] at h4
          split at h4 <;> cases h4 <;> exact Nat.le_refl _
      · cases ho
    · cases ho
  · intro q i x u hp hinv
    have hi := (List.getElem?_eq_some_iff.1 hp).1
    obtain ⟨h1, h2⟩ := hinv
    rw [List.length_zip] at hi
    have hi1 : i < q.ps.length := by omega
    have hi2 : i < q.ps'.length := by omega
    rw [List.getElem?_zip_eq_some] at hp
    have hg : (q.ps.getD i Port.dflt, q.ps'.getD i Port.dflt) = x := by simp [List.getD, hp.1, hp.2]
    rw [same_round0, hg]
    cases hb : neqP x with
    | true =>
      refine ⟨_, q.no 5 (.v (.int .i64 i)), ?_, rfl, by simp, fun E => ⟨⟨⟨_, rfl, rfl⟩, trivial⟩, trivial⟩⟩
      simp [Out.sel, hi1, hi2]
    | false =>
      refine ⟨_, q.st 5 (.v (.int .i64 (IntKind.i64.wrap (i + 1)))), ?_, rfl, ⟨h1, h2⟩, fun E => ?_⟩
      · simp [Out.sel, hi1, hi2]
      · rw [wrap_succ hi1 h2]
        exact ⟨⟨⟨_, rfl, rfl⟩, ⟨_, rfl, rfl⟩, ⟨_, rfl, rfl⟩, trivial⟩, q.reH _ _ rfl rfl E⟩
  · intro q x hinv
    have hl : (q.ps.zip q.ps').length = q.ps.length := by rw [List.length_zip]; omega
    rw [same_round0, hl]
    exact ⟨.exit 0, q.st 5 (.v (.int .i64 q.ps.length)), by simp [Out.sel], rfl, by simp, fun E => ⟨⟨⟨_, rfl, rfl⟩, ⟨_, rfl, rfl⟩, trivial⟩, q.reH _ _ rfl rfl E⟩⟩

theorem same_round1 (S : Stat) (q : SameP) (i : Nat) : trimO [2, 3, 4, 6] 8 (exec (cSame (S.rd 0 6)) (fnOf 38).ntmps 20 (lpOf 38 1) (q.st 6 (.v (.int .i64 i)))) =
    .ite (decide ((i : Int) < (q.os.length : Int))) (.ite ((decide (0 ≤ (i : Int)) && decide ((i : Int) < (q.os.length : Int))) && (decide (i < q.os.length) && ((decide (0 ≤ (i : Int)) && decide ((i : Int) < (q.os'.length : Int))) && decide (i < q.os'.length))))
      (.ite (neqS (q.os.getD i Sent.dflt, q.os'.getD i Sent.dflt)) (.ret (.ret, q.no 6 (.v (.int .i64 i)))) (.ret (.nrm, q.st 6 (.v (.int .i64 (IntKind.i64.wrap (i + 1))))))) .bad)
      (.ret (.exit 2, q.st 6 (.v (.int .i64 i)))) := by kernel_rfl
noncomputable def gSame1 : LoopFn := onTrim 8 [2, 3, 6] fun st => match st.slots with
  | [(2, [], .ptr 6 0), (3, [], .ptr 7 0), (6, [], .ki .i64 0)] => (match unSame st.heap with
    | some q => some (.ite (decide (lensOk (sameLens st.heap) ∧ q.os.length = q.os'.length ∧ q.os.length < 9223372036854775808)) (.ite ((q.os.zip q.os').any neqS) (.ret (.ret, sameNo)) (.ret (.exit 2, q.fin))) .bad)
    | none => none)
  | _ => none
theorem gSame1_ok (S : Stat) (ls : List (Nat × LoopFn)) : LoopOk Try.prog (withLoops (cSame (S.rd 0 6)) ls) (fnOf 38).ntmps (lpOf 38 1) gSame1 := by
  have hrun : ∀ (q : SameP) (l : List (Sent × Sent)) (i : Nat), runL (fun i x _ => if neqS x = true then Step.out .ret sameNo else .go ()) (fun _ => (Ex.exit 2, q.fin)) l i () = if l.any neqS = true then (.ret, sameNo) else (.exit 2, q.fin) := fun q => runL_any fun i a => rfl
  refine loop_trim cSame_fam (nx := 8) (fuel := 20) (ts := [2, 3, 4, 6]) (π := SameP) (τ := Unit) (S.rd 0 6) (fun _ i => S.rd 0 6) (fun _ _ => rfl) (fun q => q.os.zip q.os') (fun q i x => q.st 6 (.v (.int .i64 i))) (fun q i x => q.os.length = q.os'.length ∧ q.os.length < 9223372036854775808)
    (fun q i x _ => if neqS x = true then .out .ret sameNo else .go ()) (fun q x => (.exit 2, q.fin)) (fun _ _ _ => rfl) ?_ ?_ ?_
  · rintro ⟨sl, hp, nx⟩ o r ho hr
    dsimp only at ho
    split at ho
    · split at ho
      · rename_i q hq
        injection ho with ho
        subst ho
        have hh := Out.ite_bad hr
        obtain ⟨h1, h2, h3⟩ := of_decide_eq_true hh.1
        obtain rfl := unSame_ok hq h1
        have h4 := hh.2
        refine ⟨q, (), ⟨h2, h3⟩, ?_, ?_, fun E => ⟨⟨⟨_, rfl, rfl⟩, ⟨_, rfl, rfl⟩, ⟨_, rfl, rfl⟩, trivial⟩, q.reH _ _ rfl rfl E⟩⟩
        · rw [hrun]
          simp only [Out.sel] at h4
          split at h4 <;> simp_all
        · simp only [Out.sel] at h4
          split at h4 <;> cases h4 <;> exact Nat.le_refl _
      · cases ho
    · cases ho
  · intro q i x u hp hinv
    have hi := (List.getElem?_eq_some_iff.1 hp).1
    obtain ⟨h1, h2⟩ := hinv
    rw [List.length_zip] at hi
    have hi1 : i < q.os.length := by omega
    have hi2 : i < q.os'.length := by omega
    rw [List.getElem?_zip_eq_some] at hp
    have hg : (q.os.getD i Sent.dflt, q.os'.getD i Sent.dflt) = x := by simp [List.getD, hp.1, hp.2]
    rw [same_round1, hg]
    cases hb : neqS x with
    | true =>
      refine ⟨_, q.no 6 (.v (.int .i64 i)), ?_, rfl, by simp, fun E => ⟨⟨⟨_, rfl, rfl⟩, trivial⟩, trivial⟩⟩
      simp [Out.sel, hi1, hi2]
    | false =>
      refine ⟨_, q.st 6 (.v (.int .i64 (IntKind.i64.wrap (i + 1)))), ?_, rfl, ⟨h1, h2⟩, fun E => ?_⟩
      · simp [Out.sel, hi1, hi2]
      · rw [wrap_succ hi1 h2]
        exact ⟨⟨⟨_, rfl, rfl⟩, ⟨_, rfl, rfl⟩, ⟨_, rfl, rfl⟩, trivial⟩, q.reH _ _ rfl rfl E⟩
  · intro q x hinv
    have hl : (q.os.zip q.os').length = q.os.length := by rw [List.length_zip]; omega
    rw [same_round1, hl]
    exact ⟨.exit 2, q.st 6 (.v (.int .i64 q.os.length)), by simp [Out.sel], rfl, by simp, fun E => ⟨⟨⟨_, rfl, rfl⟩, ⟨_, rfl, rfl⟩, trivial⟩, q.reH _ _ rfl rfl E⟩⟩

theorem same_round2 (S : Stat) (q : SameP) (i : Nat) : trimO [2, 3, 4, 7] 8 (exec (cSame (S.rd 0 6)) (fnOf 38).ntmps 20 (lpOf 38 2) (q.st 7 (.v (.int .i64 i)))) =
    .ite (decide ((i : Int) < (q.fs.length : Int))) (.ite ((decide (0 ≤ (i : Int)) && decide ((i : Int) < (q.fs.length : Int))) && (decide (i < q.fs.length) && ((decide (0 ≤ (i : Int)) && decide ((i : Int) < (q.fs'.length : Int))) && decide (i < q.fs'.length))))
      (.ite (neqI (q.fs.getD i 0, q.fs'.getD i 0)) (.ret (.ret, q.no 7 (.v (.int .i64 i)))) (.ret (.nrm, q.st 7 (.v (.int .i64 (IntKind.i64.wrap (i + 1))))))) .bad)
      (.ret (.exit 4, q.st 7 (.v (.int .i64 i)))) := by kernel_rfl
noncomputable def gSame2 : LoopFn := onTrim 8 [2, 3, 7] fun st => match st.slots with
  | [(2, [], .ptr 6 0), (3, [], .ptr 7 0), (7, [], .ki .i64 0)] => (match unSame st.heap with
    | some q => some (.ite (decide (lensOk (sameLens st.heap) ∧ q.fs.length = q.fs'.length ∧ q.fs.length < 9223372036854775808)) (.ite ((q.fs.zip q.fs').any neqI) (.ret (.ret, sameNo)) (.ret (.exit 4, q.fin))) .bad)
    | none => none)
  | _ => none
theorem gSame2_ok (S : Stat) (ls : List (Nat × LoopFn)) : LoopOk Try.prog (withLoops (cSame (S.rd 0 6)) ls) (fnOf 38).ntmps (lpOf 38 2) gSame2 := by
  have hrun : ∀ (q : SameP) (l : List (Int × Int)) (i : Nat), runL (fun i x _ => if neqI x = true then Step.out .ret sameNo else .go ()) (fun _ => (Ex.exit 4, q.fin)) l i () = if l.any neqI = true then (.ret, sameNo) else (.exit 4, q.fin) := fun q => runL_any fun i a => rfl
  refine loop_trim cSame_fam (nx := 8) (fuel := 20) (ts := [2, 3, 4, 7]) (π := SameP) (τ := Unit) (S.rd 0 6) (fun _ i => S.rd 0 6) (fun _ _ => rfl) (fun q => q.fs.zip q.fs') (fun q i x => q.st 7 (.v (.int .i64 i))) (fun q i x => q.fs.length = q.fs'.length ∧ q.fs.length < 9223372036854775808)
    (fun q i x _ => if neqI x = true then .out .ret sameNo else .go ()) (fun q x => (.exit 4, q.fin)) (fun _ _ _ => rfl) ?_ ?_ ?_
  · rintro ⟨sl, hp, nx⟩ o r ho hr
    dsimp only at ho
    split at ho
    · split at ho
      · rename_i q hq
        injection ho with ho
        subst ho
        have hh := Out.ite_bad hr
        obtain ⟨h1, h2, h3⟩ := of_decide_eq_true hh.1
        obtain rfl := unSame_ok hq h1
        have h4 := hh.2
        refine ⟨q, (), ⟨h2, h3⟩, ?_, ?_, fun E => ⟨⟨⟨_, rfl, rfl⟩, ⟨_, rfl, rfl⟩, ⟨_, rfl, rfl⟩, trivial⟩, q.reH _ _ rfl rfl E⟩⟩
        · rw [hrun]
          simp only [Out.sel] at h4
          split at h4 <;> simp_all
        · simp only [Out.sel] at h4
          split at h4 <;> cases h4 <;> exact Nat.le_refl _
      · cases ho
    · cases ho
  · intro q i x u hp hinv
    have hi := (List.getElem?_eq_some_iff.1 hp).1
    obtain ⟨h1, h2⟩ := hinv
    rw [List.length_zip] at hi
    have hi1 : i < q.fs.length := by omega
    have hi2 : i < q.fs'.length := by omega
    rw [List.getElem?_zip_eq_some] at hp
    have hg : (q.fs.getD i 0, q.fs'.getD i 0) = x := by simp [List.getD, hp.1, hp.2]
    rw [same_round2, hg]
    cases hb : neqI x with
    | true =>
      refine ⟨_, q.no 7 (.v (.int .i64 i)), ?_, rfl, by simp, fun E => ⟨⟨⟨_, rfl, rfl⟩, trivial⟩, trivial⟩⟩
      simp [Out.sel, hi1, hi2]
    | false =>
      refine ⟨_, q.st 7 (.v (.int .i64 (IntKind.i64.wrap (i + 1)))), ?_, rfl, ⟨h1, h2⟩, fun E => ?_⟩
      · simp [Out.sel, hi1, hi2]
      · rw [wrap_succ hi1 h2]
        exact ⟨⟨⟨_, rfl, rfl⟩, ⟨_, rfl, rfl⟩, ⟨_, rfl, rfl⟩, trivial⟩, q.reH _ _ rfl rfl E⟩
  · intro q x hinv
    have hl : (q.fs.zip q.fs').length = q.fs.length := by rw [List.length_zip]; omega
    rw [same_round2, hl]
    exact ⟨.exit 4, q.st 7 (.v (.int .i64 q.fs.length)), by simp [Out.sel], rfl, by simp, fun E => ⟨⟨⟨_, rfl, rfl⟩, ⟨_, rfl, rfl⟩, trivial⟩, q.reH _ _ rfl rfl E⟩⟩

/-- do the heads differ? -/
def headNe (a b : Bri) : Bool := a.id != b.id || !(a.rst == b.rst) || !(decide (a.times = b.times)) || a.hold != b.hold || !(decide (a.root = b.root)) || a.rootPort != b.rootPort || !(decide (a.rootT = b.rootT))
def lenNe (q : SameP) : Bool := ((q.ps.length : Int) != q.ps'.length || (q.os.length : Int) != q.os'.length) || (q.fs.length : Int) != q.fs'.length
def sameF (q : SameP) : Bool := !(headNe q.a q.b) && !(lenNe q) && !((q.ps.zip q.ps').any neqP) && !((q.os.zip q.os').any neqS) && !((q.fs.zip q.fs').any neqI)
def SameP.args (q : SameP) : List SV := [q.a.sv (.slr 0 q.ps.length 0 q.q1) (.slr 1 q.os.length 1 q.q2) (.slr 2 q.fs.length 2 q.q3), q.b.sv (.slr 3 q.ps'.length 3 q.q4) (.slr 4 q.os'.length 4 q.q5) (.slr 5 q.fs'.length 5 q.q6)]
def SameP.heap0 (q : SameP) : Heap := [(0, .rows (.port q.ps)), (1, .rows (.sent q.os)), (2, .rows (.int .i64 q.fs)), (3, .rows (.port q.ps')), (4, .rows (.sent q.os')), (5, .rows (.int .i64 q.fs'))]
theorem same_run (S : Stat) (q : SameP) : valF 6 (inline (withLoops (cSame (S.rd 0 6)) [(6, gSame0), (11, gSame1), (16, gSame2)]) 20 (fnOf 38) q.args q.heap0 6) =
    .ite (headNe q.a q.b) (.ret (.kb false)) (.ite (lenNe q) (.ret (.kb false))
      (.ite (decide (lensOk (sameLens q.heap) ∧ q.ps.length = q.ps'.length ∧ q.ps.length < 9223372036854775808)) (.ite ((q.ps.zip q.ps').any neqP) (.ret (.kb false))
      (.ite (decide (lensOk (sameLens q.heap) ∧ q.os.length = q.os'.length ∧ q.os.length < 9223372036854775808)) (.ite ((q.os.zip q.os').any neqS) (.ret (.kb false))
      (.ite (decide (lensOk (sameLens q.heap) ∧ q.fs.length = q.fs'.length ∧ q.fs.length < 9223372036854775808)) (.ite ((q.fs.zip q.fs').any neqI) (.ret (.kb false)) (.ret (.kb true))) .bad)) .bad)) .bad)) := by kernel_rfl
theorem sameLens_heap (q : SameP) : lensOk (sameLens q.heap) := by
  intro x hx
  simp only [SameP.heap, sameLens, Bri.sv, unBri, isSl, Bool.and_self, cond_true, List.mem_cons, List.not_mem_nil, or_false] at hx
  rcases hx with rfl | rfl | rfl | rfl | rfl | rfl <;> rfl
def gSame : CanonFn := fun ro args H m => match args, H.get 0, H.get 1, H.get 2, H.get 3, H.get 4, H.get 5 with
  | [ax, bx], some (.rows (.port ps)), some (.rows (.sent os)), some (.rows (.int .i64 fs)), some (.rows (.port ps')), some (.rows (.sent os')), some (.rows (.int .i64 fs')) =>
    (match unBri ax, unBri bx with
    | some (a, .slr 0 n1 0 q1, .slr 1 n2 1 q2, .slr 2 n3 2 q3), some (b, .slr 3 n4 3 q4, .slr 4 n5 4 q5, .slr 5 n6 5 q6) =>
      .ite (decide (n1 = ps.length ∧ n2 = os.length ∧ n3 = fs.length ∧ n4 = ps'.length ∧ n5 = os'.length ∧ n6 = fs'.length ∧ ps.length < 9223372036854775808 ∧ os.length < 9223372036854775808 ∧ fs.length < 9223372036854775808))
        (.ret (.v (.bool (sameF ⟨a, b, ps, ps', os, os', fs, fs', q1, q2, q3, q4, q5, q6⟩)), H, m)) .bad
    | _, _ => .bad)
  | _, _, _, _, _, _, _ => .bad
theorem same_ok : CanonOk 38 gSame := by
  refine canon_rd cSame_fam Try.func38 (by kernel_rfl) [(6, gSame0), (11, gSame1), (16, gSame2)] (by kernel_rfl) rfl 6 (fun S i k g hg => ?_) ?_
  · match i, hg with
    | 0, hg => obtain ⟨rfl, rfl⟩ := Prod.mk.inj (Option.some.inj hg); exact gSame0_ok _ _
    | 1, hg => obtain ⟨rfl, rfl⟩ := Prod.mk.inj (Option.some.inj hg); exact gSame1_ok _ _
    | 2, hg => obtain ⟨rfl, rfl⟩ := Prod.mk.inj (Option.some.inj hg); exact gSame2_ok _ _
  intro S args H m r hr
  unfold gSame at hr
  split at hr
  · rename_i ax bx ps os fs ps' os' fs' h0 h1 h2 h3 h4 h5
    split at hr
    · rename_i a n1 q1 n2 q2 n3 q3 b n4 q4 n5 q5 n6 q6 ha hb
      obtain ⟨rfl, _, _⟩ := unBri_ok ha
      obtain ⟨rfl, _, _⟩ := unBri_ok hb
      have hh := Out.ite_bad hr
      obtain ⟨rfl, rfl, rfl, rfl, rfl, rfl, b1, b2, b3⟩ := of_decide_eq_true hh.1
      obtain rfl := Option.some.inj hh.2
      refine ⟨rfl, rfl, fun E => ?_⟩
      obtain ⟨q, hq⟩ : ∃ q : SameP, q = ⟨a, b, ps, ps', os, os', fs, fs', q1, q2, q3, q4, q5, q6⟩ := ⟨_, rfl⟩
      have hs := congrArg Out.sel (same_run S q)
      refine ⟨S, 20, q.args, q.heap0, .kb (sameF q), rfl, ?_, ?_, ?_, by rw [hq]; rfl⟩
      · rw [hs]
        have c1 : lensOk (sameLens q.heap) := sameLens_heap q
        have c2 : q.ps.length < 9223372036854775808 := by rw [hq]; exact b1
        have c3 : q.os.length < 9223372036854775808 := by rw [hq]; exact b2
        have c4 : q.fs.length < 9223372036854775808 := by rw [hq]; exact b3
        simp only [Out.sel]
        unfold sameF
        cases hn : headNe q.a q.b with
        | true => rfl
        | false =>
          cases hl : lenNe q with
          | true => rfl
          | false =>
            simp only [lenNe, Bool.or_eq_false_iff, bne_eq_false_iff_eq] at hl
            have d1 : q.ps.length = q.ps'.length := by omega
            have d2 : q.os.length = q.os'.length := by omega
            have d3 : q.fs.length = q.fs'.length := by omega
            simp only [c1, c2, c3, c4, d1, d2, d3, true_and, and_self, decide_true, if_true]
            simp only [d1.symm, d2.symm, d3.symm, c2, c3, c4, decide_true, if_true]
            cases (q.ps.zip q.ps').any neqP <;> cases (q.os.zip q.os').any neqS <;> cases (q.fs.zip q.fs').any neqI <;> rfl
      · subst hq
        exact dens_cons (SV.den_stat rfl rfl E _) (dens_cons (SV.den_stat rfl rfl E _) (dens_nil _ _ _ _))
      · subst hq
        exact ⟨⟨_, h0, rfl, trivial⟩, ⟨_, h1, rfl, trivial⟩, ⟨_, h2, rfl, trivial⟩, ⟨_, h3, rfl, trivial⟩, ⟨_, h4, rfl, trivial⟩, ⟨_, h5, rfl, trivial⟩, trivial⟩
    · cases hr
  · cases hr
end Go.Proofs.Ythhdfidenigcaaa
