/- fordlaw14.SelAlone: its walk. -/
import Derived.Test.YthhdfidenigcaaaSelQ
set_option linter.unusedVariables false
set_option maxRecDepth 100000
namespace Go.Proofs.Ythhdfidenigcaaa
open Go Go.RowKit

/-- a bridge, its clone -/
structure TwoP where
  b : Bri
  n : Nat
  no : Nat
  nf : Nat
  x : Bri
  ps : List Port
def TwoP.old (q : TwoP) : SV := q.b.sv (.slr 0 q.n 0 false) (.slr 1 q.no 1 false) (.slr 2 q.nf 2 false)
def TwoP.new (q : TwoP) : SV := q.x.sv (.slr 8 q.ps.length 8 false) (.slr 10 q.no 10 false) (.slr 12 q.nf 12 false)
def unTwo (st : St) : Option (Bri × Nat × Nat × Nat × Bri × Nat × Nat × Nat × List Port) := match st.heap.get 13, st.heap.get 8, st.heap.get 3 with
  | some bx, some (.rows (.port ps)), some bo => (match unBri bx, unBri bo with
    | some (x, .slr 8 n' 8 false, .slr 10 no' 10 false, .slr 12 nf' 12 false), some (b, .slr 0 n 0 false, .slr 1 no 1 false, .slr 2 nf 2 false) => some (b, n, no, nf, x, n', no', nf', ps)
    | _, _ => none)
  | _, _, _ => none
theorem unTwo_ok {st : St} {b x : Bri} {n no nf n' no' nf' : Nat} {ps : List Port} (h : unTwo st = some (b, n, no, nf, x, n', no', nf', ps)) :
    st.heap.get 8 = some (.rows (.port ps)) ∧ st.heap.get 13 = some (x.sv (.slr 8 n' 8 false) (.slr 10 no' 10 false) (.slr 12 nf' 12 false)) ∧ st.heap.get 3 = some (b.sv (.slr 0 n 0 false) (.slr 1 no 1 false) (.slr 2 nf 2 false)) := by
  unfold unTwo at h
  split at h
  · rename_i bx ps' bo h1 h2 h3
    split at h
    · rename_i hx hb
      obtain ⟨rfl, _, _⟩ := unBri_ok hx
      obtain ⟨rfl, _, _⟩ := unBri_ok hb
      injection h with h
      simp only [Prod.mk.injEq] at h
      obtain ⟨rfl, rfl, rfl, rfl, rfl, rfl, rfl, rfl, rfl⟩ := h
      exact ⟨h2, h1, h3⟩
    · cases h
  · cases h
def twoTest (n : Nat) (no nf n' no' nf' : Nat) (ps : List Port) : Bool := decide (n = ps.length ∧ n' = ps.length ∧ no' = no ∧ nf' = nf ∧ ps.length < 9223372036854775808)
def aloneSt (q : TwoP) (x r : List Port) (i : SV) : St := ⟨[(1, [], .ptr 3 0), (3, [], .kb true), (5, [], .ptr 13 0), (6, [], i)], [(13, q.new), (8, focV x r), (3, q.old)], 14⟩
def aloneTs : List Nat := [1, 3, 5, 6]
def lowI (n : Int) : Int := if (if n < 2 then n else 2) > 0 then if n < 2 then n else 2 else 0
def lowP (p : Port) : Port := { p with is_ := lowI p.is_, flags := { p.flags with reselect := true } }
def aloneNx (q : TwoP) (x r : List Port) (i : Int) (p' : Port) : St := ⟨[(1, [], .ptr 3 0), (3, [], .kb true), (5, [], .ptr 13 0), (6, [], .v (.int .i64 (IntKind.i64.wrap (i + 1))))], [(13, q.new), (8, .foc 0 (.port x) (.rcd (.port p')) (.port r)), (3, q.old)], 14⟩
theorem alone_round (S : Stat) (q : TwoP) (i : Int) (x r : List Port) (p : Port) : Out.way [true, true, true] (trimO aloneTs 14 (exec (cL (S.rd i 3)) (fnOf 10).ntmps 20 (lpOf 10 0) (aloneSt q x (p :: r) (.ix 0)))) =
    some ([decide (i < q.ps.length), (decide (0 ≤ i) && decide (i < q.ps.length)) && (decide (0 ≤ i) && decide (i < q.ps.length)), decide (0 ≤ i) && decide (i < q.ps.length)], (.nrm, aloneNx q x r i (lowP p))) := by kernel_rfl
theorem alone_over (S : Stat) (q : TwoP) (i : Int) (x : List Port) : (trimO aloneTs 14 (exec (cL (S.rd i 3)) (fnOf 10).ntmps 20 (lpOf 10 0) (aloneSt q x [] (.ix 0)))).els = some (decide (i < q.ps.length), .ret (.exit 0, aloneSt q x [] (.ix 0))) := by kernel_rfl
def aloneFin (q : TwoP) (x : List Port) : St := ⟨[(1, [], .ptr 3 0), (3, [], .kb true), (5, [], .ptr 13 0)], [(13, q.new), (8, .rows (.port x)), (3, q.old)], 14⟩
noncomputable def gAlone1 : LoopFn := onTrim 14 aloneTs fun st => match st.slots with
  | [(1, [], .ptr 3 0), (3, [], .kb true), (5, [], .ptr 13 0), (6, [], .ki .i64 0)] => (match unTwo st with
    | some (b, n, no, nf, x, n', no', nf', ps) => some (.ite (twoTest n no nf n' no' nf' ps) (.ret (.exit 0, aloneFin ⟨b, n, no, nf, x, ps⟩ (ps.map lowP))) .bad)
    | none => none)
  | _ => none
theorem runL_mapP (f : Port → Port) (fin : List Port → Ex × St) : ∀ (l : List Port) (i : Nat) (x : List Port), runL (fun i p x => Step.go (x ++ [f p])) fin l i x = fin (x ++ l.map f)
  | [], i, x => by simp [runL]
  | p :: r, i, x => by rw [runL]; dsimp only; rw [runL_mapP f fin r (i + 1)]; simp
theorem gAlone1_ok (S : Stat) (ls : List (Nat × LoopFn)) : LoopOk Try.prog (withLoops (cL (S.rd 0 3)) ls) (fnOf 10).ntmps (lpOf 10 0) gAlone1 := by
  refine loop_trim cL_fam (nx := 14) (fuel := 20) (ts := aloneTs) (π := TwoP) (τ := List Port) (S.rd 0 3) (fun _ i => S.rd i 3) (fun _ _ => rfl) (fun q => q.ps) (fun q i x => aloneSt q x (q.ps.drop i) (.ix 0)) (fun q i x => x.length = i ∧ q.ps.length < 9223372036854775808)
    (fun q i p x => .go (x ++ [lowP p])) (fun q x => (.exit 0, aloneFin q x)) (fun _ _ _ => rfl) ?_ ?_ ?_
  · intro st o r ho hr
    split at ho
    · rename_i hsl
      split at ho
      · rename_i b n no nf x n' no' nf' ps hu
        injection ho with ho
        subst ho
        obtain ⟨u1, u2, u3⟩ := unTwo_ok hu
        have hh := Out.ite_bad hr
        obtain ⟨rfl, rfl, rfl, rfl, hlt⟩ := of_decide_eq_true hh.1
        obtain rfl := Option.some.inj hh.2
        refine ⟨⟨b, ps.length, no', nf', x, ps⟩, [], ⟨rfl, hlt⟩, (runL_mapP lowP (fun y => (Ex.exit 0, aloneFin ⟨b, ps.length, no', nf', x, ps⟩ y)) ps 0 []).symm, Nat.le_refl _, fun E => ⟨?_, ?_⟩⟩
        · rw [hsl]
          exact ⟨⟨_, rfl, rfl⟩, ⟨_, rfl, rfl⟩, ⟨_, rfl, rfl⟩, ⟨_, rfl, rfl⟩, trivial⟩
        · refine ⟨⟨_, u2, rfl, trivial⟩, ⟨_, u1, ?_, focV_fo rfl⟩, ⟨_, u3, rfl, trivial⟩, trivial⟩
          rw [focV_cells]; rfl
      · cases ho
    · cases ho
  · intro q i p x hp hinv
    obtain ⟨hx, hlt⟩ := hinv
    have hi := (List.getElem?_eq_some_iff.1 hp).1
    have hd : q.ps.drop i = p :: q.ps.drop (i + 1) := by rw [List.drop_eq_getElem_cons hi]; congr 1; exact Option.some.inj ((List.getElem?_eq_getElem hi).symm.trans hp)
    rw [hd]
    have hii : (i : Int) < q.ps.length := by omega
    refine ⟨.nrm, aloneNx q x (q.ps.drop (i + 1)) i (lowP p), Out.way_sel (alone_round S q i x _ p) (by simp [hii]; try omega), rfl, ⟨by simp [hx], hlt⟩, fun E => ?_⟩
    unfold aloneNx
    rw [wrap_succ hi hlt]
    refine ⟨⟨⟨_, rfl, rfl⟩, ⟨_, rfl, rfl⟩, ⟨_, rfl, rfl⟩, ⟨_, rfl, rfl⟩, trivial⟩, ⟨⟨_, rfl, rfl, trivial⟩, ⟨_, rfl, ?_, focV_fo (by show ((i + 1 : Nat) : Int).toNat = _; simp [hx])⟩, ⟨_, rfl, rfl, trivial⟩, trivial⟩⟩
    rw [focV_cells]
    simp only [SV.cells, Rows.cells, Rec.cells, List.flatMap_append, List.flatMap_cons, List.flatMap_nil, List.append_nil, List.append_assoc]
  · intro q x hinv
    obtain ⟨hx, hlt⟩ := hinv
    dsimp only
    rw [List.drop_length]
    refine ⟨.exit 0, aloneSt q x [] (.ix 0), ?_, rfl, by simp, fun E => ⟨⟨⟨_, rfl, rfl⟩, ⟨_, rfl, rfl⟩, ⟨_, rfl, rfl⟩, trivial⟩, ⟨⟨_, rfl, rfl, trivial⟩, ⟨_, rfl, rfl, trivial⟩, ⟨_, rfl, rfl, trivial⟩, trivial⟩⟩⟩
    rw [Out.els_sel (alone_over S q q.ps.length x) (by simp)]
    rfl

/-! the second loop: what comes out -/
def alone2St (q : TwoP) (i : SV) : St := ⟨[(1, [], .ptr 3 0), (3, [], .kb true), (5, [], .ptr 13 0), (7, [], .kb true), (8, [], i)], [(13, q.new), (8, .rows (.port q.ps)), (3, q.old)], 14⟩
def alone2Ts : List Nat := [1, 3, 5, 7, 8]
def aloneBad (b : Bri) (p : Port) (r : Int) : Bool := p.selected != r || !(decide (p.designated = ⟨b.id, 0, b.id, p.id, 0⟩)) || !(decide (p.desTimes = b.times))
theorem alone2_low (S : Stat) (q : TwoP) (i : Nat) :
    Out.way [true, true, true, true, false] (trimO alone2Ts 14 (exec (cL (S.rd i 3)) (fnOf 10).ntmps 20 (lpOf 10 1) (alone2St q (.v (.int .i64 i))))) =
    some ([decide ((i : Int) < q.ps.length), decide (0 ≤ (i : Int)) && decide ((i : Int) < q.ps.length), decide (i < q.ps.length), (q.ps.getD i Port.dflt).is_ == 0, aloneBad q.b (q.ps.getD i Port.dflt) 0], (.nrm, alone2St q (.v (.int .i64 (IntKind.i64.wrap (i + 1)))))) := by kernel_rfl
theorem alone2_high (S : Stat) (q : TwoP) (i : Nat) :
    Out.way [true, true, true, false, false] (trimO alone2Ts 14 (exec (cL (S.rd i 3)) (fnOf 10).ntmps 20 (lpOf 10 1) (alone2St q (.v (.int .i64 i))))) =
    some ([decide ((i : Int) < q.ps.length), decide (0 ≤ (i : Int)) && decide ((i : Int) < q.ps.length), decide (i < q.ps.length), (q.ps.getD i Port.dflt).is_ == 0, aloneBad q.b (q.ps.getD i Port.dflt) 4], (.nrm, alone2St q (.v (.int .i64 (IntKind.i64.wrap (i + 1)))))) := by kernel_rfl
theorem alone2_over (S : Stat) (q : TwoP) (i : Nat) : Out.way [false] (trimO alone2Ts 14 (exec (cL (S.rd i 3)) (fnOf 10).ntmps 20 (lpOf 10 1) (alone2St q (.v (.int .i64 i))))) =
    some ([decide ((i : Int) < q.ps.length)], (.exit 2, alone2St q (.v (.int .i64 i)))) := by kernel_rfl
def aloneGood (b : Bri) (p : Port) : Bool := !(aloneBad b p (if p.is_ == 0 then 0 else 4))
def alone2Fin (q : TwoP) : St := ⟨[(3, [], .kb true), (5, [], .ptr 13 0), (7, [], .kb true), (1, [], .ptr 3 0)], [(13, q.new), (3, q.old)], 14⟩
noncomputable def gAlone2 : LoopFn := onTrim 14 alone2Ts fun st => match st.slots with
  | [(1, [], .ptr 3 0), (3, [], .kb true), (5, [], .ptr 13 0), (7, [], .v (.bool true)), (8, [], .ki .i64 0)] => (match unTwo st with
    | some (b, n, no, nf, x, n', no', nf', ps) => some (.ite (twoTest n no nf n' no' nf' ps && ps.all (aloneGood b)) (.ret (.exit 2, alone2Fin ⟨b, n, no, nf, x, ps⟩)) .bad)
    | none => none)
  | _ => none
theorem runL_go (fin : Ex × St) : ∀ (l : List Port) (i : Nat), runL (fun i (p : Port) (x : Unit) => Step.go ()) (fun _ => fin) l i () = fin
  | [], i => rfl
  | p :: r, i => by rw [runL]; exact runL_go fin r (i + 1)
theorem gAlone2_ok (S : Stat) (ls : List (Nat × LoopFn)) : LoopOk Try.prog (withLoops (cL (S.rd 0 3)) ls) (fnOf 10).ntmps (lpOf 10 1) gAlone2 := by
  refine loop_trim cL_fam (nx := 14) (fuel := 20) (ts := alone2Ts) (π := TwoP) (τ := Unit) (S.rd 0 3) (fun _ i => S.rd i 3) (fun _ _ => rfl) (fun q => q.ps) (fun q i x => alone2St q (.v (.int .i64 i))) (fun q i x => q.ps.all (aloneGood q.b) = true ∧ q.ps.length < 9223372036854775808)
    (fun q i p x => .go ()) (fun q x => (.exit 2, alone2Fin q)) (fun _ _ _ => rfl) ?_ ?_ ?_
  · intro st o r ho hr
    split at ho
    · rename_i hsl
      split at ho
      · rename_i b n no nf x n' no' nf' ps hu
        injection ho with ho
        subst ho
        obtain ⟨u1, u2, u3⟩ := unTwo_ok hu
        have hh := Out.ite_bad hr
        obtain ⟨hh1, hall⟩ := Bool.and_eq_true_iff.1 hh.1
        obtain ⟨rfl, rfl, rfl, rfl, hlt⟩ := of_decide_eq_true hh1
        obtain rfl := Option.some.inj hh.2
        refine ⟨⟨b, ps.length, no', nf', x, ps⟩, (), ⟨hall, hlt⟩, (runL_go _ ps 0).symm, Nat.le_refl _, fun E => ⟨?_, ?_⟩⟩
        · rw [hsl]
          exact ⟨⟨_, rfl, rfl⟩, ⟨_, rfl, rfl⟩, ⟨_, rfl, rfl⟩, ⟨_, rfl, rfl⟩, ⟨_, rfl, rfl⟩, trivial⟩
        · exact ⟨⟨_, u2, rfl, trivial⟩, ⟨_, u1, rfl, trivial⟩, ⟨_, u3, rfl, trivial⟩, trivial⟩
      · cases ho
    · cases ho
  · intro q i p x hp hinv
    obtain ⟨hall, hlt⟩ := hinv
    have hi := (List.getElem?_eq_some_iff.1 hp).1
    have hg : q.ps.getD i Port.dflt = p := by simp [List.getD, hp]
    have hgood := List.all_eq_true.1 hall p (List.mem_of_getElem? hp)
    have hii : (i : Int) < q.ps.length := by omega
    refine ⟨.nrm, alone2St q (.v (.int .i64 (IntKind.i64.wrap (i + 1)))), ?_, rfl, ⟨hall, hlt⟩, fun E => ?_⟩
    · unfold aloneGood at hgood
      cases h0 : p.is_ == 0 with
      | true =>
        rw [h0] at hgood
        have := alone2_low S q i
        rw [hg] at this
        exact Out.way_sel this (by simp [hii, hi, h0]; simpa using hgood)
      | false =>
        rw [h0] at hgood
        have := alone2_high S q i
        rw [hg] at this
        exact Out.way_sel this (by simp [hii, hi, h0]; simpa using hgood)
    · rw [wrap_succ hi hlt]
      exact ⟨⟨⟨_, rfl, rfl⟩, ⟨_, rfl, rfl⟩, ⟨_, rfl, rfl⟩, ⟨_, rfl, rfl⟩, ⟨_, rfl, rfl⟩, trivial⟩, ⟨⟨_, rfl, rfl, trivial⟩, ⟨_, rfl, rfl, trivial⟩, ⟨_, rfl, rfl, trivial⟩, trivial⟩⟩
  · intro q x hinv
    exact ⟨.exit 2, alone2St q (.v (.int .i64 q.ps.length)), Out.way_sel (alone2_over S q q.ps.length) (by simp), rfl, by simp, fun E => ⟨⟨⟨_, rfl, rfl⟩, ⟨_, rfl, rfl⟩, ⟨_, rfl, rfl⟩, ⟨_, rfl, rfl⟩, trivial⟩, ⟨⟨_, rfl, rfl, trivial⟩, ⟨_, rfl, rfl, trivial⟩, trivial⟩⟩⟩

noncomputable def aloneO (S : Stat) (q : InP) : Out SV := valF 3 (inline (withLoops (cL (S.rd 0 3)) [(7, gAlone1), (13, gAlone2)]) 20 (fnOf 10) [q.arg] q.heap 3)
def alB (q : InP) : Bri := stepB q.b (q.ps.map lowP)
def alP (q : InP) : List Port := mapI (stepP (alB q)) (q.ps.map lowP) 0
theorem alone_no (S : Stat) (q : InP) : Out.way [true, true] (aloneO S q) = some ([q.len, !(fewF q)], .kb true) := by kernel_rfl
theorem alone_yes (S : Stat) (q : InP) : Out.way [true, false, true, true, true, true, true, true, true] (aloneO S q) =
  some ([q.len, !(fewF q)] ++ q.big ++ [twoTest q.ps.length q.os.length q.fs.length q.ps.length q.os.length q.fs.length q.ps, decide (q.ps.length = (q.ps.map lowP).length ∧ (q.ps.map lowP).length < 9223372036854775808), (q.ps.map lowP).any askP,
    twoTest q.ps.length q.os.length q.fs.length (q.ps.map lowP).length q.os.length q.fs.length (alP q) && (alP q).all (aloneGood q.b)], .v (.bool ((alB q).rootPort == -1 && decide ((alB q).root = ownOf q.b.id)))) := by kernel_rfl

/-! the plain law -/
theorem lowI_three (n : Int) : lowI n = 0 ∨ lowI n = 1 ∨ lowI n = 2 := by unfold lowI; repeat' split <;> omega
theorem rootL_none {id : Int} : ∀ (l : List Port) (i : Nat) (x : Vec × Int), (∀ p ∈ l, p.is_ ≠ 3) → rootL id l i x = x
  | [], _, _, _ => rfl
  | p :: r, i, x, h => by
    have h0 := h p List.mem_cons_self
    rw [rootL, show rootStep id i p x = x from by unfold rootStep; simp [h0]]
    exact rootL_none r (i + 1) x (fun p hp => h p (List.mem_cons_of_mem _ hp))
theorem mapI_all {f : Nat → Port → Port} {g : Port → Bool} : ∀ (l : List Port) (i : Nat), (∀ p ∈ l, ∀ i, g (f i p) = true) → (mapI f l i).all g = true
  | [], _, _ => rfl
  | p :: r, i, h => by
    rw [mapI, List.all_cons, h p List.mem_cons_self i, mapI_all r (i + 1) (fun p hp => h p (List.mem_cons_of_mem _ hp))]
    rfl
theorem alB_eq (q : InP) : alB q = { q.b with root := ownOf q.b.id, rootPort := -1, rootT := q.b.times } := by
  have h : rootF q.b.id (q.ps.map lowP) = (ownOf q.b.id, -1) := by
    refine rootL_none _ 0 _ fun p hp => ?_
    obtain ⟨p', _, rfl⟩ := List.mem_map.1 hp
    show lowI p'.is_ ≠ 3
    rcases lowI_three p'.is_ with h | h | h <;> omega
  unfold alB stepB
  rw [h]
  simp
theorem aloneGood_low (q : InP) (p : Port) (i : Nat) : aloneGood q.b (stepP (alB q) i (lowP p)) = true := by
  rw [alB_eq]
  have e : (baseP { q.b with root := ownOf q.b.id, rootPort := -1, rootT := q.b.times } (lowP p)).is_ = lowI p.is_ := rfl
  unfold stepP roleF
  rw [e]
  rcases lowI_three p.is_ with h | h | h <;> rw [h] <;> simp [aloneGood, aloneBad, baseP, lowP, setSel, ownOf, h]
theorem alone_true (S : Stat) (q : InP) (hl : q.ps.length < 9223372036854775808) (h : q.Wf) : ∃ v, (aloneO S q).sel = some v ∧ ∀ S E, v.den S E = .bool true := by
  cases hf : fewF q with
  | false => exact ⟨_, Out.way_sel (alone_no S q) (by simp [InP.len, hl, hf]), fun _ _ => rfl⟩
  | true =>
    obtain ⟨h1, h2, h3, h4, _⟩ := fewF_lens hf
    have b1 : q.ps.length ≤ 134217728 := by omega
    have b2 : q.os.length ≤ 134217728 := by omega
    have b3 : q.fs.length ≤ 134217728 := by omega
    have ha : (q.ps.map lowP).any askP = true := by
      obtain ⟨p, r, e⟩ : ∃ p r, q.ps = p :: r := by cases hp : q.ps with | nil => rw [hp] at h2; simp at h2 | cons p r => exact ⟨p, r, rfl⟩
      rw [e]; rfl
    have hg : (alP q).all (aloneGood q.b) = true := by
      refine mapI_all _ 0 fun p hp i => ?_
      obtain ⟨p', _, rfl⟩ := List.mem_map.1 hp
      exact aloneGood_low q p' i
    have hlen : (alP q).length = q.ps.length := by unfold alP; rw [mapI_length, List.length_map]
    refine ⟨_, Out.way_sel (alone_yes S q) (by rw [ha, hg]; simp [InP.len, InP.big, twoTest, Rows.len, hl, hf, hlen, b1, b2, b3]), fun S E => ?_⟩
    simp [SV.den, alB_eq]
end Go.Proofs.Ythhdfidenigcaaa
