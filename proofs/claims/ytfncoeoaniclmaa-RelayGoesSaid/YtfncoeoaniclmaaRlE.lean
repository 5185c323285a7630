/- fordref01.Ints: two lists that are one. -/
import Derived.Test.YtfncoeoaniclmaaFor
import Derived.Test.YtfncoeoaniclmaaRd
import Derived.Test.YtfncoeoaniclmaaBrg
set_option linter.unusedVariables false
set_option maxRecDepth 100000
namespace Go.Proofs.Ytfncoeoaniclmaa
section
section
open Go Go.RowKit

noncomputable def cEq (S : Stat) : Ctx := mkCtx S [] [] [] 20 2
theorem cEq_fam : Fam cEq := mk_fam (fun _ => []) (fun _ => []) 20 2 (fun S f g h => by cases h) (fun S f g h => by cases h)
structure EqP where
  A : List Int
  B : List Int
  q : Bool
  r : Bool
def EqP.hp (p : EqP) : Heap := [(0, .rows (.int .i64 p.A)), (1, .rows (.int .i64 p.B))]
def EqP.st (p : EqP) (i : SV) : St := ⟨[(0, [], .slr 0 p.A.length 0 p.q), (1, [], .slr 1 p.B.length 1 p.r), (5, [], i)], p.hp, 2⟩
noncomputable def eqR (S : Stat) (p : EqP) (i : SV) : Out (Ex × St) := trimO [0, 1, 5] 2 (exec (cEq (S.rd 0 2)) (fnOf 34).ntmps 20 (lpOf 34 0) (p.st i))
def inE (n : Nat) (i : Nat) : Bool := decide (0 ≤ (i : Int)) && decide ((i : Int) < n)
theorem eq_go (S : Stat) (p : EqP) (i : Nat) : Out.way [true, true, false] (eqR S p (.v (.int .i64 i))) = some ([decide ((i : Int) < p.A.length), inE p.A.length i && (decide (i < p.A.length) && (inE p.B.length i && decide (i < p.B.length))), p.A.getD i 0 != p.B.getD i 0],
  (.nrm, p.st (.v (.int .i64 (IntKind.i64.wrap (i + 1)))))) := by kernel_rfl
theorem eq_over (S : Stat) (p : EqP) (i : Nat) : Out.way [false] (eqR S p (.v (.int .i64 i))) = some ([decide ((i : Int) < p.A.length)], (.exit 0, p.st (.v (.int .i64 i)))) := by kernel_rfl
def eqFin : St := ⟨[], [], 2⟩
noncomputable def gEqL : LoopFn := onTrim 2 [0, 1, 5] fun st => match st with
  | ⟨[(0, [], .slr 0 n 0 q), (1, [], .slr 1 m 1 r), (5, [], .ki .i64 0)], [(0, .rows (.int .i64 A)), (1, .rows (.int .i64 B))], _⟩ => some (.ite (decide (n = A.length ∧ m = B.length ∧ A = B ∧ n ≤ 67108864)) (.ret (.exit 0, eqFin)) .bad)
  | _ => none
theorem runL_eqU {α : Type} (fin : Ex × St) : ∀ (l : List α) (i : Nat), runL (fun i (p : α) (x : Unit) => Step.go ()) (fun _ => fin) l i () = fin
  | [], i => rfl
  | p :: r, i => by rw [runL]; exact runL_eqU fin r (i + 1)
theorem gEqL_ok (S : Stat) (ls : List (Nat × LoopFn)) : LoopOk Try.prog (withLoops (cEq (S.rd 0 2)) ls) (fnOf 34).ntmps (lpOf 34 0) gEqL := by
  refine loop_trim cEq_fam (nx := 2) (fuel := 20) (ts := [0, 1, 5]) (π := EqP) (α := Int) (τ := Unit) (S.rd 0 2) (fun _ i => S.rd 0 2) (fun _ _ => rfl) (fun p => p.A) (fun p i _ => p.st (.v (.int .i64 i)))
    (fun p i _ => p.A = p.B ∧ p.A.length ≤ 67108864) (fun p i _ _ => .go ()) (fun p _ => (.exit 0, eqFin)) (fun _ _ _ => rfl) ?_ ?_ ?_
  · intro st o r ho hr
    split at ho
    · injection ho with ho
      subst ho
      have hh := Out.ite_bad hr
      obtain ⟨rfl, rfl, h1, h2⟩ := of_decide_eq_true hh.1
      obtain rfl := Option.some.inj hh.2
      exact ⟨⟨_, _, _, _⟩, (), ⟨h1, h2⟩, (runL_eqU _ _ 0).symm, Nat.le_refl _, fun E => ⟨⟨⟨_, rfl, rfl⟩, ⟨_, rfl, rfl⟩, ⟨_, rfl, rfl⟩, trivial⟩, ⟨_, rfl, rfl, trivial⟩, ⟨_, rfl, rfl, trivial⟩, trivial⟩⟩
    · cases ho
  · intro p i a x ha hinv
    obtain ⟨h1, h2⟩ := hinv
    have hi := (List.getElem?_eq_some_iff.1 ha).1
    have hi' : (i : Int) < p.A.length := by omega
    refine ⟨.nrm, p.st (.v (.int .i64 (IntKind.i64.wrap (i + 1)))), Out.way_sel (eq_go S p i) ?_, rfl, ⟨h1, h2⟩, fun E => ?_⟩
    · have e : inE p.A.length i = true := by unfold inE; rw [decide_eq_true hi']; simp
      rw [← h1, e, decide_eq_true hi', decide_eq_true hi]
      simp
    · rw [wrap_succ (n := 67108865) (by omega) (by omega)]
      exact ⟨⟨⟨_, rfl, rfl⟩, ⟨_, rfl, rfl⟩, ⟨_, rfl, rfl⟩, trivial⟩, ⟨_, rfl, rfl, trivial⟩, ⟨_, rfl, rfl, trivial⟩, trivial⟩
  · intro p x hinv
    have hn : ¬ ((p.A.length : Nat) : Int) < p.A.length := by omega
    exact ⟨.exit 0, p.st (.v (.int .i64 p.A.length)), Out.way_sel (eq_over S p p.A.length) (by rw [decide_eq_false hn]), rfl, by simp, fun E => ⟨trivial, trivial⟩⟩
noncomputable def eqLs : List (Nat × LoopFn) := [(4, gEqL)]
theorem eqLs_ok (S : Stat) : ∀ i k g, eqLs[i]? = some (k, g) → LoopOk Try.prog (withLoops (cEq (S.rd 0 2)) eqLs) (fnOf 34).ntmps (lpOf 34 i) g := by
  intro i k g h
  match i, h with
  | 0, h => injection h with h; injection h with h1 h2; subst h1 h2; exact gEqL_ok S _
  | i + 1, h => cases h
/-- lists that are one: that they are is demanded -/
def gInts : CanonFn := fun ro args H m => match args, H with
  | [.slr 0 n 0 q, .slr 1 k 1 r], [(0, .rows (.int .i64 A)), (1, .rows (.int .i64 B))] => .ite (decide (n = A.length ∧ k = B.length ∧ A = B ∧ n ≤ 67108864)) (.ret (.kb true, H, m)) .bad
  | _, _ => .bad
theorem ints_walk (S : Stat) (p : EqP) : Out.way [false, true] (valF 2 (inline (withLoops (cEq (S.rd 0 2)) eqLs) 20 (fnOf 34) [.slr 0 p.A.length 0 p.q, .slr 1 p.B.length 1 p.r] p.hp 2)) =
  some ([(p.A.length : Int) != (p.B.length : Int), decide (p.A.length = p.A.length ∧ p.B.length = p.B.length ∧ p.A = p.B ∧ p.A.length ≤ 67108864)], .kb true) := by kernel_rfl
theorem ints_ok : CanonOk 34 gInts := by
  refine canon_rd cEq_fam Try.func34 (by kernel_rfl) eqLs (by kernel_rfl) rfl 2 (fun S i k g hg => eqLs_ok S i k g hg) ?_
  intro S args H m r hr
  unfold gInts at hr
  split at hr
  · rename_i n q k q' A B
    have hh := Out.ite_bad hr
    obtain ⟨rfl, rfl, h1, h2⟩ := of_decide_eq_true hh.1
    obtain rfl := Option.some.inj hh.2
    refine ⟨rfl, rfl, fun E => ?_⟩
    refine ⟨S, 20, [.slr 0 A.length 0 q, .slr 1 B.length 1 q'], EqP.hp ⟨A, B, q, q'⟩, .kb true, rfl, Out.way_sel (ints_walk S ⟨A, B, q, q'⟩) ?_, dens_cons (SV.den_stat rfl rfl E _) (dens_cons (SV.den_stat rfl rfl E _) (dens_nil _ _ _ _)), ⟨⟨_, rfl, rfl, trivial⟩, ⟨_, rfl, rfl, trivial⟩, trivial⟩, rfl⟩
    subst h1
    have := decide_eq_true h2
    simp [this]
  · cases hr
end

section
open Go Go.RowKit

noncomputable def cSame (S : Stat) : Ctx := mkCtx S [] (ps0 S) [] 20 6
theorem cSame_fam : Fam cSame := mk_fam ps0 (fun _ => []) 20 6 ps0_ok (fun _ _ _ h => by cases h)
structure SameP where
  a : Bri
  b : Bri
  ps : List Port
  ps' : List Port
  os : List Sent
  os' : List Sent
  fs : List Int
  fs' : List Int
  q1 : Bool
  q2 : Bool
  q3 : Bool
  q4 : Bool
  q5 : Bool
  q6 : Bool
def SameP.heap (q : SameP) : Heap := [(7, q.b.sv (.slr 3 q.ps'.length 3 q.q4) (.slr 4 q.os'.length 4 q.q5) (.slr 5 q.fs'.length 5 q.q6)), (6, q.a.sv (.slr 0 q.ps.length 0 q.q1) (.slr 1 q.os.length 1 q.q2) (.slr 2 q.fs.length 2 q.q3)), (0, .rows (.port q.ps)), (1, .rows (.sent q.os)), (2, .rows (.int .i64 q.fs)), (3, .rows (.port q.ps')), (4, .rows (.sent q.os')), (5, .rows (.int .i64 q.fs'))]
def SameP.st (q : SameP) (t : Nat) (i : SV) : St := ⟨[(2, [], .ptr 6 0), (3, [], .ptr 7 0), (t, [], i)], q.heap, 8⟩
def SameP.no (q : SameP) (t : Nat) (i : SV) : St := ⟨[(2, [], .ptr 6 0), (3, [], .ptr 7 0), (4, [], .kb false), (t, [], i)], q.heap, 8⟩
def SameP.fin (q : SameP) : St := ⟨[(2, [], .ptr 6 0), (3, [], .ptr 7 0)], q.heap, 8⟩
def sameNo : St := ⟨[(4, [], .kb false)], [], 8⟩
/-- does a pair differ? -/
def neqP (x : Port × Port) : Bool := !(decide (x.1 = x.2))
def neqS (x : Sent × Sent) : Bool := !(decide (x.1 = x.2))
def neqI (x : Int × Int) : Bool := x.1 != x.2
/-- a state of a walk, taken apart -/
def unSame : Heap → Option SameP
  | [(7, bx), (6, ax), (0, .rows (.port ps)), (1, .rows (.sent os)), (2, .rows (.int .i64 fs)), (3, .rows (.port ps')), (4, .rows (.sent os')), (5, .rows (.int .i64 fs'))] =>
    (match unBri ax, unBri bx with
    | some (a, .slr 0 n1 0 q1, .slr 1 n2 1 q2, .slr 2 n3 2 q3), some (b, .slr 3 n4 3 q4, .slr 4 n5 4 q5, .slr 5 n6 5 q6) =>
      some ⟨a, b, ps, ps', os, os', fs, fs', q1, q2, q3, q4, q5, q6⟩
    | _, _ => none)
  | _ => none
def sameLens : Heap → List (Nat × Nat)
  | [(7, bx), (6, ax), (0, .rows (.port ps)), (1, .rows (.sent os)), (2, .rows (.int .i64 fs)), (3, .rows (.port ps')), (4, .rows (.sent os')), (5, .rows (.int .i64 fs'))] =>
    (match unBri ax, unBri bx with
    | some (a, .slr 0 n1 0 q1, .slr 1 n2 1 q2, .slr 2 n3 2 q3), some (b, .slr 3 n4 3 q4, .slr 4 n5 4 q5, .slr 5 n6 5 q6) => [(n1, ps.length), (n2, os.length), (n3, fs.length), (n4, ps'.length), (n5, os'.length), (n6, fs'.length)]
    | _, _ => [])
  | _ => []
def lensOk (l : List (Nat × Nat)) : Prop := ∀ x ∈ l, x.1 = x.2
instance (l : List (Nat × Nat)) : Decidable (lensOk l) := by unfold lensOk; infer_instance
theorem unSame_ok {H : Heap} {q : SameP} (h : unSame H = some q) (hl : lensOk (sameLens H)) : H = q.heap := by
  unfold unSame at h
  split at h
  · split at h
    · rename_i ha hb
      injection h with h
      subst h
      unfold sameLens at hl
      simp only [ha, hb] at hl
      obtain ⟨rfl, _, _⟩ := unBri_ok ha
      obtain ⟨rfl, _, _⟩ := unBri_ok hb
      have e1 := hl _ (List.mem_cons_self)
      have e2 := hl _ (List.mem_cons_of_mem _ (List.mem_cons_self))
      have e3 := hl _ (List.mem_cons_of_mem _ (List.mem_cons_of_mem _ (List.mem_cons_self)))
      have e4 := hl _ (List.mem_cons_of_mem _ (List.mem_cons_of_mem _ (List.mem_cons_of_mem _ (List.mem_cons_self))))
      have e5 := hl _ (List.mem_cons_of_mem _ (List.mem_cons_of_mem _ (List.mem_cons_of_mem _ (List.mem_cons_of_mem _ (List.mem_cons_self)))))
      have e6 := hl _ (List.mem_cons_of_mem _ (List.mem_cons_of_mem _ (List.mem_cons_of_mem _ (List.mem_cons_of_mem _ (List.mem_cons_of_mem _ (List.mem_cons_self))))))
      dsimp only at e1 e2 e3 e4 e5 e6
      subst e1 e2 e3 e4 e5 e6
      rfl
    · cases h
  · cases h
theorem SameP.reH (q : SameP) (S S' : Stat) (h : S.sl = S'.sl) (h2 : S.ix = S'.ix) (E : Env) : ReHeap q.heap S S' E q.heap :=
  ⟨⟨_, rfl, SV.cells_stat h h2 E _, trivial⟩, ⟨_, rfl, SV.cells_stat h h2 E _, trivial⟩, ⟨_, rfl, rfl, trivial⟩, ⟨_, rfl, rfl, trivial⟩, ⟨_, rfl, rfl, trivial⟩, ⟨_, rfl, rfl, trivial⟩, ⟨_, rfl, rfl, trivial⟩, ⟨_, rfl, rfl, trivial⟩, trivial⟩

theorem same_round0 (S : Stat) (q : SameP) (i : Nat) : trimO [2, 3, 4, 5] 8 (exec (cSame (S.rd 0 6)) (fnOf 36).ntmps 20 (lpOf 36 0) (q.st 5 (.v (.int .i64 i)))) =
    .ite (decide ((i : Int) < (q.ps.length : Int))) (.ite ((decide (0 ≤ (i : Int)) && decide ((i : Int) < (q.ps.length : Int))) && (decide (i < q.ps.length) && ((decide (0 ≤ (i : Int)) && decide ((i : Int) < (q.ps'.length : Int))) && decide (i < q.ps'.length))))
      (.ite (neqP (q.ps.getD i Port.dflt, q.ps'.getD i Port.dflt)) (.ret (.ret, q.no 5 (.v (.int .i64 i)))) (.ret (.nrm, q.st 5 (.v (.int .i64 (IntKind.i64.wrap (i + 1))))))) .bad)
      (.ret (.exit 0, q.st 5 (.v (.int .i64 i)))) := by kernel_rfl
noncomputable def gSame0 : LoopFn := onTrim 8 [2, 3, 5] fun st => match st.slots with
  | [(2, [], .ptr 6 0), (3, [], .ptr 7 0), (5, [], .ki .i64 0)] => (match unSame st.heap with
    | some q => some (.ite (decide (lensOk (sameLens st.heap) ∧ q.ps.length = q.ps'.length ∧ q.ps.length < 9223372036854775808)) (.ite ((q.ps.zip q.ps').any neqP) (.ret (.ret, sameNo)) (.ret (.exit 0, q.fin))) .bad)
    | none => none)
  | _ => none
theorem gSame0_ok (S : Stat) (ls : List (Nat × LoopFn)) : LoopOk Try.prog (withLoops (cSame (S.rd 0 6)) ls) (fnOf 36).ntmps (lpOf 36 0) gSame0 := by
  have hrun : ∀ (q : SameP) (l : List (Port × Port)) (i : Nat), runL (fun i x _ => if neqP x = true then Step.out .ret sameNo else .go ()) (fun _ => (Ex.exit 0, q.fin)) l i () = if l.any neqP = true then (.ret, sameNo) else (.exit 0, q.fin) := fun q => runL_any fun i a => rfl
  refine loop_trim cSame_fam (nx := 8) (fuel := 20) (ts := [2, 3, 4, 5]) (π := SameP) (τ := Unit) (S.rd 0 6) (fun _ i => S.rd 0 6) (fun _ _ => rfl) (fun q => q.ps.zip q.ps') (fun q i x => q.st 5 (.v (.int .i64 i))) (fun q i x => q.ps.length = q.ps'.length ∧ q.ps.length < 9223372036854775808)
    (fun q i x _ => if neqP x = true then .out .ret sameNo else .go ()) (fun q x => (.exit 0, q.fin)) (fun _ _ _ => rfl) ?_ ?_ ?_
  · rintro ⟨sl, hp, nx⟩ o r ho hr
    dsimp only at ho
    split at ho
    · split at ho
      · rename_i q hq
        injection ho with ho
        subst ho
        have hh := Out.ite_bad hr
        obtain ⟨h1, h2, h3⟩ := of_decide_eq_true hh.1
        obtain rfl := unSame_ok hq h1
        have h4 := hh.2
        refine ⟨q, (), ⟨h2, h3⟩, ?_, ?_, fun E => ⟨⟨⟨_, rfl, rfl⟩, ⟨_, rfl, rfl⟩, ⟨_, rfl, rfl⟩, trivial⟩, q.reH _ _ rfl rfl E⟩⟩
        · rw [hrun]
          simp only [Out.sel] at h4
          split at h4 <;> simp_all
        · simp only [Out.sel] at h4
          split at h4 <;> cases h4 <;> exact Nat.le_refl _
      · cases ho
    · cases ho
  · intro q i x u hp hinv
    have hi := (List.getElem?_eq_some_iff.1 hp).1
    obtain ⟨h1, h2⟩ := hinv
    rw [List.length_zip] at hi
    have hi1 : i < q.ps.length := by omega
    have hi2 : i < q.ps'.length := by omega
    rw [List.getElem?_zip_eq_some] at hp
    have hg : (q.ps.getD i Port.dflt, q.ps'.getD i Port.dflt) = x := by simp [List.getD, hp.1, hp.2]
    rw [same_round0, hg]
    cases hb : neqP x with
    | true =>
      refine ⟨_, q.no 5 (.v (.int .i64 i)), ?_, rfl, by simp, fun E => ⟨⟨⟨_, rfl, rfl⟩, trivial⟩, trivial⟩⟩
      simp [Out.sel, hi1, hi2]
    | false =>
      refine ⟨_, q.st 5 (.v (.int .i64 (IntKind.i64.wrap (i + 1)))), ?_, rfl, ⟨h1, h2⟩, fun E => ?_⟩
      · simp [Out.sel, hi1, hi2]
      · rw [wrap_succ hi1 h2]
        exact ⟨⟨⟨_, rfl, rfl⟩, ⟨_, rfl, rfl⟩, ⟨_, rfl, rfl⟩, trivial⟩, q.reH _ _ rfl rfl E⟩
  · intro q x hinv
    have hl : (q.ps.zip q.ps').length = q.ps.length := by rw [List.length_zip]; omega
    rw [same_round0, hl]
    exact ⟨.exit 0, q.st 5 (.v (.int .i64 q.ps.length)), by simp [Out.sel], rfl, by simp, fun E => ⟨⟨⟨_, rfl, rfl⟩, ⟨_, rfl, rfl⟩, trivial⟩, q.reH _ _ rfl rfl E⟩⟩

theorem same_round1 (S : Stat) (q : SameP) (i : Nat) : trimO [2, 3, 4, 6] 8 (exec (cSame (S.rd 0 6)) (fnOf 36).ntmps 20 (lpOf 36 1) (q.st 6 (.v (.int .i64 i)))) =
    .ite (decide ((i : Int) < (q.os.length : Int))) (.ite ((decide (0 ≤ (i : Int)) && decide ((i : Int) < (q.os.length : Int))) && (decide (i < q.os.length) && ((decide (0 ≤ (i : Int)) && decide ((i : Int) < (q.os'.length : Int))) && decide (i < q.os'.length))))
      (.ite (neqS (q.os.getD i Sent.dflt, q.os'.getD i Sent.dflt)) (.ret (.ret, q.no 6 (.v (.int .i64 i)))) (.ret (.nrm, q.st 6 (.v (.int .i64 (IntKind.i64.wrap (i + 1))))))) .bad)
      (.ret (.exit 2, q.st 6 (.v (.int .i64 i)))) := by kernel_rfl
noncomputable def gSame1 : LoopFn := onTrim 8 [2, 3, 6] fun st => match st.slots with
  | [(2, [], .ptr 6 0), (3, [], .ptr 7 0), (6, [], .ki .i64 0)] => (match unSame st.heap with
    | some q => some (.ite (decide (lensOk (sameLens st.heap) ∧ q.os.length = q.os'.length ∧ q.os.length < 9223372036854775808)) (.ite ((q.os.zip q.os').any neqS) (.ret (.ret, sameNo)) (.ret (.exit 2, q.fin))) .bad)
    | none => none)
  | _ => none
theorem gSame1_ok (S : Stat) (ls : List (Nat × LoopFn)) : LoopOk Try.prog (withLoops (cSame (S.rd 0 6)) ls) (fnOf 36).ntmps (lpOf 36 1) gSame1 := by
  have hrun : ∀ (q : SameP) (l : List (Sent × Sent)) (i : Nat), runL (fun i x _ => if neqS x = true then Step.out .ret sameNo else .go ()) (fun _ => (Ex.exit 2, q.fin)) l i () = if l.any neqS = true then (.ret, sameNo) else (.exit 2, q.fin) := fun q => runL_any fun i a => rfl
  refine loop_trim cSame_fam (nx := 8) (fuel := 20) (ts := [2, 3, 4, 6]) (π := SameP) (τ := Unit) (S.rd 0 6) (fun _ i => S.rd 0 6) (fun _ _ => rfl) (fun q => q.os.zip q.os') (fun q i x => q.st 6 (.v (.int .i64 i))) (fun q i x => q.os.length = q.os'.length ∧ q.os.length < 9223372036854775808)
    (fun q i x _ => if neqS x = true then .out .ret sameNo else .go ()) (fun q x => (.exit 2, q.fin)) (fun _ _ _ => rfl) ?_ ?_ ?_
  · rintro ⟨sl, hp, nx⟩ o r ho hr
    dsimp only at ho
    split at ho
    · split at ho
      · rename_i q hq
        injection ho with ho
        subst ho
        have hh := Out.ite_bad hr
        obtain ⟨h1, h2, h3⟩ := of_decide_eq_true hh.1
        obtain rfl := unSame_ok hq h1
        have h4 := hh.2
        refine ⟨q, (), ⟨h2, h3⟩, ?_, ?_, fun E => ⟨⟨⟨_, rfl, rfl⟩, ⟨_, rfl, rfl⟩, ⟨_, rfl, rfl⟩, trivial⟩, q.reH _ _ rfl rfl E⟩⟩
        · rw [hrun]
          simp only [Out.sel] at h4
          split at h4 <;> simp_all
        · simp only [Out.sel] at h4
          split at h4 <;> cases h4 <;> exact Nat.le_refl _
      · cases ho
    · cases ho
  · intro q i x u hp hinv
    have hi := (List.getElem?_eq_some_iff.1 hp).1
    obtain ⟨h1, h2⟩ := hinv
    rw [List.length_zip] at hi
    have hi1 : i < q.os.length := by omega
    have hi2 : i < q.os'.length := by omega
    rw [List.getElem?_zip_eq_some] at hp
    have hg : (q.os.getD i Sent.dflt, q.os'.getD i Sent.dflt) = x := by simp [List.getD, hp.1, hp.2]
    rw [same_round1, hg]
    cases hb : neqS x with
    | true =>
      refine ⟨_, q.no 6 (.v (.int .i64 i)), ?_, rfl, by simp, fun E => ⟨⟨⟨_, rfl, rfl⟩, trivial⟩, trivial⟩⟩
      simp [Out.sel, hi1, hi2]
    | false =>
      refine ⟨_, q.st 6 (.v (.int .i64 (IntKind.i64.wrap (i + 1)))), ?_, rfl, ⟨h1, h2⟩, fun E => ?_⟩
      · simp [Out.sel, hi1, hi2]
      · rw [wrap_succ hi1 h2]
        exact ⟨⟨⟨_, rfl, rfl⟩, ⟨_, rfl, rfl⟩, ⟨_, rfl, rfl⟩, trivial⟩, q.reH _ _ rfl rfl E⟩
  · intro q x hinv
    have hl : (q.os.zip q.os').length = q.os.length := by rw [List.length_zip]; omega
    rw [same_round1, hl]
    exact ⟨.exit 2, q.st 6 (.v (.int .i64 q.os.length)), by simp [Out.sel], rfl, by simp, fun E => ⟨⟨⟨_, rfl, rfl⟩, ⟨_, rfl, rfl⟩, trivial⟩, q.reH _ _ rfl rfl E⟩⟩

theorem same_round2 (S : Stat) (q : SameP) (i : Nat) : trimO [2, 3, 4, 7] 8 (exec (cSame (S.rd 0 6)) (fnOf 36).ntmps 20 (lpOf 36 2) (q.st 7 (.v (.int .i64 i)))) =
    .ite (decide ((i : Int) < (q.fs.length : Int))) (.ite ((decide (0 ≤ (i : Int)) && decide ((i : Int) < (q.fs.length : Int))) && (decide (i < q.fs.length) && ((decide (0 ≤ (i : Int)) && decide ((i : Int) < (q.fs'.length : Int))) && decide (i < q.fs'.length))))
      (.ite (neqI (q.fs.getD i 0, q.fs'.getD i 0)) (.ret (.ret, q.no 7 (.v (.int .i64 i)))) (.ret (.nrm, q.st 7 (.v (.int .i64 (IntKind.i64.wrap (i + 1))))))) .bad)
      (.ret (.exit 4, q.st 7 (.v (.int .i64 i)))) := by kernel_rfl
noncomputable def gSame2 : LoopFn := onTrim 8 [2, 3, 7] fun st => match st.slots with
  | [(2, [], .ptr 6 0), (3, [], .ptr 7 0), (7, [], .ki .i64 0)] => (match unSame st.heap with
    | some q => some (.ite (decide (lensOk (sameLens st.heap) ∧ q.fs.length = q.fs'.length ∧ q.fs.length < 9223372036854775808)) (.ite ((q.fs.zip q.fs').any neqI) (.ret (.ret, sameNo)) (.ret (.exit 4, q.fin))) .bad)
    | none => none)
  | _ => none
theorem gSame2_ok (S : Stat) (ls : List (Nat × LoopFn)) : LoopOk Try.prog (withLoops (cSame (S.rd 0 6)) ls) (fnOf 36).ntmps (lpOf 36 2) gSame2 := by
  have hrun : ∀ (q : SameP) (l : List (Int × Int)) (i : Nat), runL (fun i x _ => if neqI x = true then Step.out .ret sameNo else .go ()) (fun _ => (Ex.exit 4, q.fin)) l i () = if l.any neqI = true then (.ret, sameNo) else (.exit 4, q.fin) := fun q => runL_any fun i a => rfl
  refine loop_trim cSame_fam (nx := 8) (fuel := 20) (ts := [2, 3, 4, 7]) (π := SameP) (τ := Unit) (S.rd 0 6) (fun _ i => S.rd 0 6) (fun _ _ => rfl) (fun q => q.fs.zip q.fs') (fun q i x => q.st 7 (.v (.int .i64 i))) (fun q i x => q.fs.length = q.fs'.length ∧ q.fs.length < 9223372036854775808)
    (fun q i x _ => if neqI x = true then .out .ret sameNo else .go ()) (fun q x => (.exit 4, q.fin)) (fun _ _ _ => rfl) ?_ ?_ ?_
  · rintro ⟨sl, hp, nx⟩ o r ho hr
    dsimp only at ho
    split at ho
    · split at ho
      · rename_i q hq
        injection ho with ho
        subst ho
        have hh := Out.ite_bad hr
        obtain ⟨h1, h2, h3⟩ := of_decide_eq_true hh.1
        obtain rfl := unSame_ok hq h1
        have h4 := hh.2
        refine ⟨q, (), ⟨h2, h3⟩, ?_, ?_, fun E => ⟨⟨⟨_, rfl, rfl⟩, ⟨_, rfl, rfl⟩, ⟨_, rfl, rfl⟩, trivial⟩, q.reH _ _ rfl rfl E⟩⟩
        · rw [hrun]
          simp only [Out.sel] at h4
          split at h4 <;> simp_all
        · simp only [Out.sel] at h4
          split at h4 <;> cases h4 <;> exact Nat.le_refl _
      · cases ho
    · cases ho
  · intro q i x u hp hinv
    have hi := (List.getElem?_eq_some_iff.1 hp).1
    obtain ⟨h1, h2⟩ := hinv
    rw [List.length_zip] at hi
    have hi1 : i < q.fs.length := by omega
    have hi2 : i < q.fs'.length := by omega
    rw [List.getElem?_zip_eq_some] at hp
    have hg : (q.fs.getD i 0, q.fs'.getD i 0) = x := by simp [List.getD, hp.1, hp.2]
    rw [same_round2, hg]
    cases hb : neqI x with
    | true =>
      refine ⟨_, q.no 7 (.v (.int .i64 i)), ?_, rfl, by simp, fun E => ⟨⟨⟨_, rfl, rfl⟩, trivial⟩, trivial⟩⟩
      simp [Out.sel, hi1, hi2]
    | false =>
      refine ⟨_, q.st 7 (.v (.int .i64 (IntKind.i64.wrap (i + 1)))), ?_, rfl, ⟨h1, h2⟩, fun E => ?_⟩
      · simp [Out.sel, hi1, hi2]
      · rw [wrap_succ hi1 h2]
        exact ⟨⟨⟨_, rfl, rfl⟩, ⟨_, rfl, rfl⟩, ⟨_, rfl, rfl⟩, trivial⟩, q.reH _ _ rfl rfl E⟩
  · intro q x hinv
    have hl : (q.fs.zip q.fs').length = q.fs.length := by rw [List.length_zip]; omega
    rw [same_round2, hl]
    exact ⟨.exit 4, q.st 7 (.v (.int .i64 q.fs.length)), by simp [Out.sel], rfl, by simp, fun E => ⟨⟨⟨_, rfl, rfl⟩, ⟨_, rfl, rfl⟩, trivial⟩, q.reH _ _ rfl rfl E⟩⟩

/-- do the heads differ? -/
def headNe (a b : Bri) : Bool := a.id != b.id || !(a.rst == b.rst) || !(decide (a.times = b.times)) || a.hold != b.hold || !(decide (a.root = b.root)) || a.rootPort != b.rootPort || !(decide (a.rootT = b.rootT))
def lenNe (q : SameP) : Bool := ((q.ps.length : Int) != q.ps'.length || (q.os.length : Int) != q.os'.length) || (q.fs.length : Int) != q.fs'.length
def sameF (q : SameP) : Bool := !(headNe q.a q.b) && !(lenNe q) && !((q.ps.zip q.ps').any neqP) && !((q.os.zip q.os').any neqS) && !((q.fs.zip q.fs').any neqI)
def SameP.args (q : SameP) : List SV := [q.a.sv (.slr 0 q.ps.length 0 q.q1) (.slr 1 q.os.length 1 q.q2) (.slr 2 q.fs.length 2 q.q3), q.b.sv (.slr 3 q.ps'.length 3 q.q4) (.slr 4 q.os'.length 4 q.q5) (.slr 5 q.fs'.length 5 q.q6)]
def SameP.heap0 (q : SameP) : Heap := [(0, .rows (.port q.ps)), (1, .rows (.sent q.os)), (2, .rows (.int .i64 q.fs)), (3, .rows (.port q.ps')), (4, .rows (.sent q.os')), (5, .rows (.int .i64 q.fs'))]
theorem same_run (S : Stat) (q : SameP) : valF 6 (inline (withLoops (cSame (S.rd 0 6)) [(6, gSame0), (11, gSame1), (16, gSame2)]) 20 (fnOf 36) q.args q.heap0 6) =
    .ite (headNe q.a q.b) (.ret (.kb false)) (.ite (lenNe q) (.ret (.kb false))
      (.ite (decide (lensOk (sameLens q.heap) ∧ q.ps.length = q.ps'.length ∧ q.ps.length < 9223372036854775808)) (.ite ((q.ps.zip q.ps').any neqP) (.ret (.kb false))
      (.ite (decide (lensOk (sameLens q.heap) ∧ q.os.length = q.os'.length ∧ q.os.length < 9223372036854775808)) (.ite ((q.os.zip q.os').any neqS) (.ret (.kb false))
      (.ite (decide (lensOk (sameLens q.heap) ∧ q.fs.length = q.fs'.length ∧ q.fs.length < 9223372036854775808)) (.ite ((q.fs.zip q.fs').any neqI) (.ret (.kb false)) (.ret (.kb true))) .bad)) .bad)) .bad)) := by kernel_rfl
theorem sameLens_heap (q : SameP) : lensOk (sameLens q.heap) := by
  intro x hx
  simp only [SameP.heap, sameLens, Bri.sv, unBri, isSl, Bool.and_self, cond_true, List.mem_cons, List.not_mem_nil, or_false] at hx
  rcases hx with rfl | rfl | rfl | rfl | rfl | rfl <;> rfl
def gSameB : CanonFn := fun ro args H m => match args, H.get 0, H.get 1, H.get 2, H.get 3, H.get 4, H.get 5 with
  | [ax, bx], some (.rows (.port ps)), some (.rows (.sent os)), some (.rows (.int .i64 fs)), some (.rows (.port ps')), some (.rows (.sent os')), some (.rows (.int .i64 fs')) =>
    (match unBri ax, unBri bx with
    | some (a, .slr 0 n1 0 q1, .slr 1 n2 1 q2, .slr 2 n3 2 q3), some (b, .slr 3 n4 3 q4, .slr 4 n5 4 q5, .slr 5 n6 5 q6) =>
      .ite (decide (n1 = ps.length ∧ n2 = os.length ∧ n3 = fs.length ∧ n4 = ps'.length ∧ n5 = os'.length ∧ n6 = fs'.length ∧ ps.length < 9223372036854775808 ∧ os.length < 9223372036854775808 ∧ fs.length < 9223372036854775808))
        (.ret (.v (.bool (sameF ⟨a, b, ps, ps', os, os', fs, fs', q1, q2, q3, q4, q5, q6⟩)), H, m)) .bad
    | _, _ => .bad)
  | _, _, _, _, _, _, _ => .bad
theorem sameB_ok : CanonOk 36 gSameB := by
  refine canon_rd cSame_fam Try.func36 (by kernel_rfl) [(6, gSame0), (11, gSame1), (16, gSame2)] (by kernel_rfl) rfl 6 (fun S i k g hg => ?_) ?_
  · match i, hg with
    | 0, hg => obtain ⟨rfl, rfl⟩ := Prod.mk.inj (Option.some.inj hg); exact gSame0_ok _ _
    | 1, hg => obtain ⟨rfl, rfl⟩ := Prod.mk.inj (Option.some.inj hg); exact gSame1_ok _ _
    | 2, hg => obtain ⟨rfl, rfl⟩ := Prod.mk.inj (Option.some.inj hg); exact gSame2_ok _ _
  intro S args H m r hr
  unfold gSameB at hr
  split at hr
  · rename_i ax bx ps os fs ps' os' fs' h0 h1 h2 h3 h4 h5
    split at hr
    · rename_i a n1 q1 n2 q2 n3 q3 b n4 q4 n5 q5 n6 q6 ha hb
      obtain ⟨rfl, _, _⟩ := unBri_ok ha
      obtain ⟨rfl, _, _⟩ := unBri_ok hb
      have hh := Out.ite_bad hr
      obtain ⟨rfl, rfl, rfl, rfl, rfl, rfl, b1, b2, b3⟩ := of_decide_eq_true hh.1
      obtain rfl := Option.some.inj hh.2
      refine ⟨rfl, rfl, fun E => ?_⟩
      obtain ⟨q, hq⟩ : ∃ q : SameP, q = ⟨a, b, ps, ps', os, os', fs, fs', q1, q2, q3, q4, q5, q6⟩ := ⟨_, rfl⟩
      have hs := congrArg Out.sel (same_run S q)
      refine ⟨S, 20, q.args, q.heap0, .kb (sameF q), rfl, ?_, ?_, ?_, by rw [hq]; rfl⟩
      · rw [hs]
        have c1 : lensOk (sameLens q.heap) := sameLens_heap q
        have c2 : q.ps.length < 9223372036854775808 := by rw [hq]; exact b1
        have c3 : q.os.length < 9223372036854775808 := by rw [hq]; exact b2
        have c4 : q.fs.length < 9223372036854775808 := by rw [hq]; exact b3
        simp only [Out.sel]
        unfold sameF
        cases hn : headNe q.a q.b with
        | true => rfl
        | false =>
          cases hl : lenNe q with
          | true => rfl
          | false =>
            simp only [lenNe, Bool.or_eq_false_iff, bne_eq_false_iff_eq] at hl
            have d1 : q.ps.length = q.ps'.length := by omega
            have d2 : q.os.length = q.os'.length := by omega
            have d3 : q.fs.length = q.fs'.length := by omega
            simp only [c1, c2, c3, c4, d1, d2, d3, true_and, and_self, decide_true, if_true]
            simp only [d1.symm, d2.symm, d3.symm, c2, c3, c4, decide_true, if_true]
            cases (q.ps.zip q.ps').any neqP <;> cases (q.os.zip q.os').any neqS <;> cases (q.fs.zip q.fs').any neqI <;> rfl
      · subst hq
        exact dens_cons (SV.den_stat rfl rfl E _) (dens_cons (SV.den_stat rfl rfl E _) (dens_nil _ _ _ _))
      · subst hq
        exact ⟨⟨_, h0, rfl, trivial⟩, ⟨_, h1, rfl, trivial⟩, ⟨_, h2, rfl, trivial⟩, ⟨_, h3, rfl, trivial⟩, ⟨_, h4, rfl, trivial⟩, ⟨_, h5, rfl, trivial⟩, trivial⟩
    · cases hr
  · cases hr
end
section
open Go Go.RowKit
/-- a context with slots that are demanded -/
def sureC (c : Ctx) (l : List (Nat × Bool)) : Ctx := { c with sure := l }
theorem sureC_full {P : Program} {c : Ctx} (h : CtxFull P c) (l : List (Nat × Bool)) : CtxFull P (sureC c l) :=
  { small := h.small, mixed := h.mixed, tys := h.tys, eqb := h.eqb, flds := h.flds, read := h.read, spec := h.spec }
theorem sure_fam {mk : Stat → Ctx} (h : Fam mk) (l : List (Nat × Bool)) : Fam fun S => sureC (mk S) l :=
  { S := h.S, win := h.win, loop := h.loop, full := fun S => sureC_full (h.full S) l }
end
end

section
open Go Go.RowKit

theorem HS.via {S S' : Stat} {E E' : Env} {H H' : Heap} {w : World} (ρ : Nat → Nat) (h : HS S E H w)
    (hk : ∀ k x, H'.get k = some x → x.foOk S' ∧ (x.size = 0 ∨ ∃ x', H.get (ρ k) = some x' ∧ x'.size = x.size ∧ x'.cells S E = x.cells S' E' ∧ E.ad (ρ k) = E'.ad k ∧ (S'.ro k = false → S.ro (ρ k) = false)))
    (inj : ∀ k k' x x', k ≠ k' → H'.get k = some x → H'.get k' = some x' → 0 < x.size → 0 < x'.size → ρ k ≠ ρ k') : HS S' E' H' w := by
  refine ⟨fun k x hx hp => ?_, fun k x hx hp hnt hr => ?_, fun k k' x x' hne hx hx' hp hp' hr => ?_, fun k x hx => (hk k x hx).1⟩
  · rcases (hk k x hx).2 with h0 | ⟨x', h1, h2, h3, h4, h5⟩
    · omega
    · rw [← h4, ← h3]; exact h.at_ _ x' h1 (by omega)
  · rcases (hk k x hx).2 with h0 | ⟨x', h1, h2, h3, h4, h5⟩
    · omega
    · rw [← h4]; exact h.wr _ x' h1 (by omega) (by rw [h3]; exact hnt) (h5 hr)
  · rcases (hk k x hx).2 with h0 | ⟨y, h1, h2, h3, h4, h5⟩
    · omega
    · rcases (hk k' x' hx').2 with h0 | ⟨y', g1, g2, g3, g4, g5⟩
      · omega
      · rw [← h4, ← g4, ← h2, ← g2]
        exact h.dis _ _ y y' (inj k k' x x' hne hx hx' hp hp') h1 g1 (by omega) (by omega) (h5 hr)
structure SnP where
  a : Bri
  b : Bri
  ps : List Port
  ps' : List Port
  os : List Sent
  os' : List Sent
  q1 : Bool
  q2 : Bool
  q4 : Bool
  q5 : Bool
def SnP.big (q : SnP) : SameP := ⟨q.a, q.b, q.ps, q.ps', q.os, q.os', [], [], q.q1, q.q2, false, q.q4, q.q5, false⟩
def SnP.args (q : SnP) : List SV := [q.a.sv (.slr 0 q.ps.length 0 q.q1) (.slr 1 q.os.length 1 q.q2) (.v (.slice none 0 0)), q.b.sv (.slr 2 q.ps'.length 2 q.q4) (.slr 3 q.os'.length 3 q.q5) (.v (.slice none 0 0))]
def SnP.heap (q : SnP) : Heap := [(0, .rows (.port q.ps)), (1, .rows (.sent q.os)), (2, .rows (.port q.ps')), (3, .rows (.sent q.os'))]
def snOf (args : List SV) (H : Heap) : Option (SnP × Bool) := match args, H with
  | [ax, bx], [(0, .rows (.port ps)), (1, .rows (.sent os)), (2, .rows (.port ps')), (3, .rows (.sent os'))] => (match unBri ax, unBri bx with
    | some (a, .slr 0 n1 0 q1, .slr 1 n2 1 q2, .v (.slice none 0 0)), some (b, .slr 2 n4 2 q4, .slr 3 n5 3 q5, .v (.slice none 0 0)) => some (⟨a, b, ps, ps', os, os', q1, q2, q4, q5⟩, decide (n1 = ps.length ∧ n2 = os.length ∧ n4 = ps'.length ∧ n5 = os'.length ∧ ps.length < 9223372036854775808 ∧ os.length < 9223372036854775808))
    | _, _ => none)
  | _, _ => none
theorem snOf_ok {args : List SV} {H : Heap} {q : SnP} (h : snOf args H = some (q, true)) : args = q.args ∧ H = q.heap ∧ q.ps.length < 9223372036854775808 ∧ q.os.length < 9223372036854775808 := by
  unfold snOf at h
  split at h
  · split at h
    · rename_i ha hb
      obtain ⟨rfl, _, _⟩ := unBri_ok ha
      obtain ⟨rfl, _, _⟩ := unBri_ok hb
      simp only [Option.some.injEq, Prod.mk.injEq, decide_eq_true_eq] at h
      obtain ⟨rfl, rfl, rfl, rfl, rfl, h1, h2⟩ := h
      exact ⟨rfl, rfl, h1, h2⟩
    · cases h
  · cases h
def snE (E : Env) : Env := ⟨fun k => match k with | 0 => E.ad 0 | 1 => E.ad 1 | 3 => E.ad 2 | 4 => E.ad 3 | _ => E.ad 0, fun k => match k with | 0 => E.cp 0 | 1 => E.cp 1 | 3 => E.cp 2 | 4 => E.cp 3 | _ => (0, true)⟩
def snS (S : Stat) : Stat := ⟨S.sl, S.ix, fun k => match k with | 0 => S.ro 0 | 1 => S.ro 1 | 3 => S.ro 2 | 4 => S.ro 3 | _ => true⟩
def snR (k : Nat) : Nat := match k with | 3 => 2 | 4 => 3 | k => k
def snB (k : Nat) : Nat := match k with | 2 => 3 | 3 => 4 | k => k
def gSameN : CanonFn := fun ro args H m => match snOf args H with
  | some (q, ok) => .ite ok (.ret (.v (.bool (sameF q.big)), H, m)) .bad
  | none => .bad
theorem sn_get {q : SnP} {k : Nat} {x : SV} (h : Heap.get q.big.heap0 k = some x) : x.size = 0 ∨ ((k = 0 ∨ k = 1 ∨ k = 3 ∨ k = 4) ∧ Heap.get q.heap (snR k) = some x) := by
  unfold SameP.heap0 SnP.big at h
  simp only [Heap.get_cons] at h
  repeat' split at h
  · rename_i h0; injection h with h; subst h; subst h0; exact .inr ⟨by omega, rfl⟩
  · rename_i h0; injection h with h; subst h; subst h0; exact .inr ⟨by omega, rfl⟩
  · rename_i h0; injection h with h; subst h; exact .inl rfl
  · rename_i h0; injection h with h; subst h; subst h0; exact .inr ⟨by omega, rfl⟩
  · rename_i h0; injection h with h; subst h; subst h0; exact .inr ⟨by omega, rfl⟩
  · rename_i h0; injection h with h; subst h; exact .inl rfl
  · cases h
theorem sn_rows {q : SnP} {k : Nat} {x : SV} (h : Heap.get q.heap k = some x) : k < 4 ∧ (∃ R, x = .rows R) ∧ Heap.get q.big.heap0 (snB k) = some x := by
  unfold SnP.heap at h
  simp only [Heap.get_cons] at h
  repeat' split at h
  · rename_i h0; injection h with h; subst h; subst h0; exact ⟨by omega, ⟨_, rfl⟩, rfl⟩
  · rename_i h0; injection h with h; subst h; subst h0; exact ⟨by omega, ⟨_, rfl⟩, rfl⟩
  · rename_i h0; injection h with h; subst h; subst h0; exact ⟨by omega, ⟨_, rfl⟩, rfl⟩
  · rename_i h0; injection h with h; subst h; subst h0; exact ⟨by omega, ⟨_, rfl⟩, rfl⟩
  · cases h
theorem sameN_ok : CanonOk 36 gSameN := by
  intro S args H m v H' m' hr
  unfold gSameN at hr
  split at hr
  · rename_i q ok hq
    have hh := Out.ite_bad hr
    have hok := hh.1
    subst hok
    obtain ⟨rfl, rfl, hl1, hl2⟩ := snOf_ok hq
    have hr2 := hh.2
    simp only [Out.sel, Option.some.injEq, Prod.mk.injEq] at hr2
    obtain ⟨rfl, rfl, rfl⟩ := hr2
    have hb := sameB_ok (snS S) q.big.args q.big.heap0 6 (.v (.bool (sameF q.big))) q.big.heap0 6 (by
      have : gSameB (snS S).ro q.big.args q.big.heap0 6 = .ite (decide (q.big.ps.length = q.big.ps.length ∧ q.big.os.length = q.big.os.length ∧ q.big.fs.length = q.big.fs.length ∧ q.big.ps'.length = q.big.ps'.length ∧ q.big.os'.length = q.big.os'.length ∧ q.big.fs'.length = q.big.fs'.length ∧ q.big.ps.length < 9223372036854775808 ∧ q.big.os.length < 9223372036854775808 ∧ q.big.fs.length < 9223372036854775808))
        (.ret (.v (.bool (sameF q.big)), q.big.heap0, 6)) .bad := rfl
      rw [this]
      have h1 : q.big.ps.length < 9223372036854775808 := hl1
      have h2 : q.big.os.length < 9223372036854775808 := hl2
      have h3 : q.big.fs.length < 9223372036854775808 := by show 0 < 9223372036854775808; decide
      simp [Out.sel, h1, h2, h3])
    refine ⟨hb.1, fun E w hs => ?_⟩
    have hs2 : HS (snS S) (snE E) q.big.heap0 w := by
      refine hs.via snR (fun k x hx => ?_) (fun k k' x x' hne hx hx' hp hp' => ?_)
      · rcases sn_get hx with h0 | ⟨hk, h1⟩
        · obtain ⟨R, rfl⟩ : ∃ R, x = .rows R := by
            unfold SameP.heap0 SnP.big at hx
            simp only [Heap.get_cons] at hx
            repeat' split at hx
            all_goals first | (injection hx with hx; subst hx; exact ⟨_, rfl⟩) | cases hx
          exact ⟨trivial, .inl h0⟩
        · obtain ⟨_, ⟨R, rfl⟩, _⟩ := sn_rows h1
          refine ⟨trivial, .inr ⟨_, h1, rfl, rfl, ?_, ?_⟩⟩
          · rcases hk with rfl | rfl | rfl | rfl <;> rfl
          · rcases hk with rfl | rfl | rfl | rfl <;> exact fun h => h
      · rcases sn_get hx with h0 | ⟨hk, _⟩
        · omega
        · rcases sn_get hx' with h0 | ⟨hk', _⟩
          · omega
          · rcases hk with rfl | rfl | rfl | rfl <;> rcases hk' with rfl | rfl | rfl | rfl <;> first | exact absurd rfl hne | (show _ ≠ _; decide)
    have hd : SV.dens S E q.args = SV.dens (snS S) (snE E) q.big.args := by
      simp [SV.dens, SnP.args, SameP.args, SnP.big, Bri.sv, SV.den, SV.den_agg, SV.cells, SV.cellss, snE, snS, Env.place]
    rw [hd]
    refine (hb.2 (snE E) w hs2).mono ?_
    rintro e w' ⟨E', hu, hle, rfl, hs', hfr, hown⟩
    refine ⟨E, fun k _ => ⟨rfl, rfl⟩, Nat.le_refl _, rfl, ?_, hfr.mono fun b j _ h => ?_, fun k x hx hro => ?_⟩
    · refine hs'.via snB (fun k x hx => ?_) (fun k k' x x' hne hx hx' hp hp' => ?_)
      · obtain ⟨hk, ⟨R, rfl⟩, h1⟩ := sn_rows hx
        have hk2 : snB k < 6 := by
          match k, hk with
          | 0, _ => decide
          | 1, _ => decide
          | 2, _ => decide
          | 3, _ => decide
          | k + 4, hk => omega
        refine ⟨trivial, .inr ⟨_, h1, rfl, rfl, ?_, ?_⟩⟩
        · rw [(hu _ hk2).1]
          match k, hk with
          | 0, _ => rfl
          | 1, _ => rfl
          | 2, _ => rfl
          | 3, _ => rfl
          | k + 4, hk => omega
        · match k, hk with
          | 0, _ => exact fun h => h
          | 1, _ => exact fun h => h
          | 2, _ => exact fun h => h
          | 3, _ => exact fun h => h
          | k + 4, hk => omega
      · obtain ⟨hk, _, _⟩ := sn_rows hx
        obtain ⟨hk', _, _⟩ := sn_rows hx'
        match k, hk, k', hk' with
        | 0, _, 0, _ | 1, _, 1, _ | 2, _, 2, _ | 3, _, 3, _ => exact absurd rfl hne
        | 0, _, 1, _ | 0, _, 2, _ | 0, _, 3, _ | 1, _, 0, _ | 1, _, 2, _ | 1, _, 3, _ | 2, _, 0, _ | 2, _, 1, _ | 2, _, 3, _ | 3, _, 0, _ | 3, _, 1, _ | 3, _, 2, _ => show _ ≠ _; decide
        | k + 4, hk, _, _ => omega
        | _, _, k + 4, hk => omega
    · obtain ⟨k, x, hx, hro, hb, h1, h2⟩ := h
      rcases sn_get hx with h0 | ⟨hk, h3⟩
      · omega
      · refine ⟨snR k, x, h3, ?_, ?_, ?_, ?_⟩
        · rcases hk with rfl | rfl | rfl | rfl <;> exact hro
        · rcases hk with rfl | rfl | rfl | rfl <;> exact hb
        · rcases hk with rfl | rfl | rfl | rfl <;> exact h1
        · rcases hk with rfl | rfl | rfl | rfl <;> exact h2
    · exact .inr fun j hj => ⟨k, x, hx, hro, rfl, by omega, by omega⟩
  · cases hr
/-- both at once -/
def gSameX : CanonFn := fun ro args H m => match snOf args H with
  | some _ => gSameN ro args H m
  | none => gSameB ro args H m
theorem sameX_ok : CanonOk 36 gSameX := by
  intro S args H m v H' m' hr
  unfold gSameX at hr
  split at hr
  · exact sameN_ok S args H m v H' m' hr
  · exact sameB_ok S args H m v H' m' hr
end
end Go.Proofs.Ytfncoeoaniclmaa
