/- fordlaw14.SelOffers: its walk. -/
import Derived.Test.YthhdfidenigcaaaSelT
set_option linter.unusedVariables false
set_option maxRecDepth 100000
namespace Go.Proofs.Ythhdfidenigcaaa
open Go Go.RowKit

structure OffP where
  x : Bri
  no : Nat
  nf : Nat
  ps : List Port
  k : Int
def OffP.new (q : OffP) : SV := q.x.sv (.slr 9 q.ps.length 9 false) (.slr 11 q.no 11 false) (.slr 13 q.nf 13 false)
def unOff (st : St) : Option (Bri × Nat × Nat × Nat × List Port) := match st.heap.get 14, st.heap.get 9 with
  | some bx, some (.rows (.port ps)) => (match unBri bx with
    | some (x, .slr 9 n 9 false, .slr 11 no 11 false, .slr 13 nf 13 false) => some (x, n, no, nf, ps)
    | _ => none)
  | _, _ => none
theorem unOff_ok {st : St} {x : Bri} {n no nf : Nat} {ps : List Port} (h : unOff st = some (x, n, no, nf, ps)) :
    st.heap.get 9 = some (.rows (.port ps)) ∧ st.heap.get 14 = some (x.sv (.slr 9 n 9 false) (.slr 11 no 11 false) (.slr 13 nf 13 false)) := by
  unfold unOff at h
  split at h
  · rename_i bx ps' h1 h2
    split at h
    · rename_i hx
      obtain ⟨rfl, _, _⟩ := unBri_ok hx
      injection h with h
      simp only [Prod.mk.injEq] at h
      obtain ⟨rfl, rfl, rfl, rfl, rfl⟩ := h
      exact ⟨h2, h1⟩
    · cases h
  · cases h
def offSt (q : OffP) (x r : List Port) (i : SV) : St := ⟨[(5, [], .kb true), (7, [], .v (.int .i64 q.k)), (8, [], .ptr 14 0), (9, [], i)], [(14, q.new), (9, focV x r)], 15⟩
def offTs : List Nat := [5, 7, 8, 9]
def hiP (p : Port) : Port := { p with vec := { p.vec with root := if p.vec.root > 1 then p.vec.root else 1 }, flags := { p.flags with reselect := true } }
def offNx (q : OffP) (x r : List Port) (i : Int) (p' : Port) : St := ⟨[(5, [], .kb true), (7, [], .v (.int .i64 q.k)), (8, [], .ptr 14 0), (9, [], .v (.int .i64 (IntKind.i64.wrap (i + 1))))], [(14, q.new), (9, .foc 0 (.port x) (.rcd (.port p')) (.port r))], 15⟩
theorem off_round (S : Stat) (q : OffP) (i : Int) (x r : List Port) (p : Port) : Out.way [true, true, true] (trimO offTs 15 (exec (cL (S.rd i 3)) (fnOf 11).ntmps 20 (lpOf 11 0) (offSt q x (p :: r) (.ix 0)))) =
    some ([decide (i < q.ps.length), (decide (0 ≤ i) && decide (i < q.ps.length)) && (decide (0 ≤ i) && decide (i < q.ps.length)), decide (0 ≤ i) && decide (i < q.ps.length)], (.nrm, offNx q x r i (hiP p))) := by kernel_rfl
theorem off_over (S : Stat) (q : OffP) (i : Int) (x : List Port) : (trimO offTs 15 (exec (cL (S.rd i 3)) (fnOf 11).ntmps 20 (lpOf 11 0) (offSt q x [] (.ix 0)))).els = some (decide (i < q.ps.length), .ret (.exit 0, offSt q x [] (.ix 0))) := by kernel_rfl
def offFin (q : OffP) (x : List Port) : St := ⟨[(5, [], .kb true), (7, [], .v (.int .i64 q.k)), (8, [], .ptr 14 0)], [(14, q.new), (9, .rows (.port x))], 15⟩
noncomputable def gOff : LoopFn := onTrim 15 offTs fun st => match st.slots with
  | [(5, [], .kb true), (7, [], .v (.int .i64 k)), (8, [], .ptr 14 0), (9, [], .ki .i64 0)] => (match unOff st with
    | some (x, n, no, nf, ps) => some (.ite (decide (n = ps.length ∧ ps.length < 9223372036854775808)) (.ret (.exit 0, offFin ⟨x, no, nf, ps, k⟩ (ps.map hiP))) .bad)
    | none => none)
  | _ => none
theorem gOff_ok (S : Stat) (ls : List (Nat × LoopFn)) : LoopOk Try.prog (withLoops (cL (S.rd 0 3)) ls) (fnOf 11).ntmps (lpOf 11 0) gOff := by
  refine loop_trim cL_fam (nx := 15) (fuel := 20) (ts := offTs) (π := OffP) (τ := List Port) (S.rd 0 3) (fun _ i => S.rd i 3) (fun _ _ => rfl) (fun q => q.ps) (fun q i x => offSt q x (q.ps.drop i) (.ix 0)) (fun q i x => x.length = i ∧ q.ps.length < 9223372036854775808)
    (fun q i p x => .go (x ++ [hiP p])) (fun q x => (.exit 0, offFin q x)) (fun _ _ _ => rfl) ?_ ?_ ?_
  · intro st o r ho hr
    split at ho
    · rename_i k hsl
      split at ho
      · rename_i x n no nf ps hu
        injection ho with ho
        subst ho
        obtain ⟨u1, u2⟩ := unOff_ok hu
        have hh := Out.ite_bad hr
        obtain ⟨rfl, hlt⟩ := of_decide_eq_true hh.1
        obtain rfl := Option.some.inj hh.2
        refine ⟨⟨x, no, nf, ps, k⟩, [], ⟨rfl, hlt⟩, (runL_mapP hiP (fun y => (Ex.exit 0, offFin ⟨x, no, nf, ps, k⟩ y)) ps 0 []).symm, Nat.le_refl _, fun E => ⟨?_, ?_⟩⟩
        · rw [hsl]
          exact ⟨⟨_, rfl, rfl⟩, ⟨_, rfl, rfl⟩, ⟨_, rfl, rfl⟩, ⟨_, rfl, rfl⟩, trivial⟩
        · refine ⟨⟨_, u2, rfl, trivial⟩, ⟨_, u1, ?_, focV_fo rfl⟩, trivial⟩
          rw [focV_cells]; rfl
      · cases ho
    · cases ho
  · intro q i p x hp hinv
    obtain ⟨hx, hlt⟩ := hinv
    have hi := (List.getElem?_eq_some_iff.1 hp).1
    have hd : q.ps.drop i = p :: q.ps.drop (i + 1) := by rw [List.drop_eq_getElem_cons hi]; congr 1; exact Option.some.inj ((List.getElem?_eq_getElem hi).symm.trans hp)
    rw [hd]
    have hii : (i : Int) < q.ps.length := by omega
    refine ⟨.nrm, offNx q x (q.ps.drop (i + 1)) i (hiP p), Out.way_sel (off_round S q i x _ p) (by simp [hii]; try omega), rfl, ⟨by simp [hx], hlt⟩, fun E => ?_⟩
    unfold offNx
    rw [wrap_succ hi hlt]
    refine ⟨⟨⟨_, rfl, rfl⟩, ⟨_, rfl, rfl⟩, ⟨_, rfl, rfl⟩, ⟨_, rfl, rfl⟩, trivial⟩, ⟨⟨_, rfl, rfl, trivial⟩, ⟨_, rfl, ?_, focV_fo (by show ((i + 1 : Nat) : Int).toNat = _; simp [hx])⟩, trivial⟩⟩
    rw [focV_cells]
    simp only [SV.cells, Rows.cells, Rec.cells, List.flatMap_append, List.flatMap_cons, List.flatMap_nil, List.append_nil, List.append_assoc]
  · intro q x hinv
    obtain ⟨hx, hlt⟩ := hinv
    dsimp only
    rw [List.drop_length]
    refine ⟨.exit 0, offSt q x [] (.ix 0), ?_, rfl, by simp, fun E => ⟨⟨⟨_, rfl, rfl⟩, ⟨_, rfl, rfl⟩, ⟨_, rfl, rfl⟩, trivial⟩, ⟨⟨_, rfl, rfl, trivial⟩, ⟨_, rfl, rfl, trivial⟩, trivial⟩⟩⟩
    rw [Out.els_sel (off_over S q q.ps.length x) (by simp)]
    rfl
noncomputable def offO (S : Stat) (q : InP) (k : Int) : Out SV := valF 3 (inline (withLoops (cL (S.rd 0 3)) [(10, gOff)]) 20 (fnOf 11) [q.arg, .v (.int .u8 k)] q.heap 3)
def ofK (q : InP) (k : Int) : Int := (IntKind.i64.wrap k).tmod q.ps.length
def ofA (q : InP) : List Port := q.ps.map hiP
def ofB (q : InP) (k : Int) : List Port := (ofA q).set (ofK q k).toNat { (ofA q).getD (ofK q k).toNat Port.dflt with is_ := 3 }
def ofC (q : InP) (k : Int) : List Port := (ofB q k).set (ofK q k).toNat { (ofB q k).getD (ofK q k).toNat Port.dflt with vec := ⟨0, 0, 0, 0, 0⟩ }
def ofD (q : InP) (k : Int) : List Port := (ofC q k).set (ofK q k).toNat { (ofC q k).getD (ofK q k).toNat Port.dflt with cost := 0 }
def fB (q : InP) (k : Int) : Bri := stepB q.b (ofD q k)
def fP (q : InP) (k : Int) : List Port := mapI (stepP (fB q k)) (ofD q k) 0
def offShl (q : InP) : Bool := IntKind.u64.wrap (q.b.id * 2 ^ min (Int.toNat 16) IntKind.u64.bits) == 0
def offMid (q : InP) (k : Int) : List Bool := [q.len, decide (0 ≤ ofK q k) && decide (ofK q k < q.ps.length), decide ((ofK q k).toNat < (ofA q).length), decide ((ofK q k).toNat < (ofB q k).length), decide ((ofK q k).toNat < (ofC q k).length), decide (q.ps.length = (ofD q k).length ∧ (ofD q k).length < 9223372036854775808), (ofD q k).any askP,
  decide (0 ≤ ofK q k) && decide (ofK q k < (ofD q k).length), decide ((ofK q k).toNat < (fP q k).length), decide (0 ≤ ofK q k) && decide (ofK q k < (ofD q k).length), decide ((ofK q k).toNat < (fP q k).length)]
def offHead (q : InP) : List Bool := [q.len, !(fewF q), !((q.ps.length : Int) == 0)] ++ q.big
theorem off_no (S : Stat) (q : InP) (k : Int) : Out.way [true, true] (offO S q k) = some ([q.len, !(fewF q)], .kb true) := by kernel_rfl
theorem off_zero (S : Stat) (q : InP) (k : Int) : Out.way [true, false, true, true, true, true, true] (offO S q k) = some (offHead q ++ [offShl q], .kb true) := by kernel_rfl
theorem off_yes (S : Stat) (q : InP) (k : Int) : Out.way [true, false, true, true, true, true, false, true, true, true, true, true, true, true, true, true, true, true] (offO S q k) = some (offHead q ++ [offShl q] ++ offMid q k,
    .v (.bool ((fB q k).rootPort == ofK q k && ((fP q k).getD (ofK q k).toNat Port.dflt).selected == 3 && (fB q k).root.root == 0 && (fB q k).root.cost == 0 && !((fP q k).getD (ofK q k).toNat Port.dflt).flags.updtInfo))) := by kernel_rfl

/-! the plain law -/
theorem cmpV_root {a b : Vec} (h : a.root < b.root) : cmpV a b < 0 := by
  have : fourI a b = -1 := by unfold fourI cmpI; rw [if_pos (by omega), if_pos h]
  unfold cmpV
  rw [this]
  simp
theorem cmpV_root' {a b : Vec} (h : b.root < a.root) : ¬ cmpV a b < 0 := by
  have : fourI a b = 1 := by unfold fourI cmpI; rw [if_pos (by omega), if_neg (by omega), if_pos h]
  unfold cmpV
  rw [this]
  simp
theorem rootL_app (id : Int) : ∀ (l r : List Port) (i : Nat) (x : Vec × Int), rootL id (l ++ r) i x = rootL id r (i + l.length) (rootL id l i x)
  | [], r, i, x => rfl
  | p :: l, r, i, x => by
    rw [List.cons_append, rootL, rootL, rootL_app id l r (i + 1), List.length_cons]
    congr 1
    omega
theorem rootL_keep (id : Int) : ∀ (l : List Port) (i : Nat) (x : Vec × Int), x.1.root = 0 → (∀ p ∈ l, 1 ≤ p.vec.root) → rootL id l i x = x
  | [], _, _, _, _ => rfl
  | p :: l, i, x, hx, h => by
    have h0 := h p List.mem_cons_self
    have hs : rootStep id i p x = x := by
      have := cmpV_root' (a := thrV p.vec p.cost p.id) (b := x.1) (by rw [hx]; show (0 : Int) < p.vec.root; omega)
      unfold rootStep
      split
      · rfl
      · rw [if_neg (by simpa using this)]
    rw [rootL, hs]
    exact rootL_keep id l (i + 1) x hx (fun p hp => h p (List.mem_cons_of_mem _ hp))
theorem rootL_pos (id : Int) : ∀ (l : List Port) (i : Nat) (x : Vec × Int), 1 ≤ x.1.root → (∀ p ∈ l, 1 ≤ p.vec.root) → 1 ≤ (rootL id l i x).1.root
  | [], _, _, hx, _ => hx
  | p :: l, i, x, hx, h => by
    have h0 := h p List.mem_cons_self
    rw [rootL]
    refine rootL_pos id l (i + 1) _ ?_ (fun p hp => h p (List.mem_cons_of_mem _ hp))
    unfold rootStep
    split
    · exact hx
    · split
      · exact h0
      · exact hx
theorem rootF_at {id : Int} {l : List Port} {k : Nat} {d : Port} (hk : k < l.length) (hid : 1 ≤ id) (ha : addrI 0 ≠ addrI id) (h3 : d.is_ = 3) (hv : d.vec = ⟨0, 0, 0, 0, 0⟩) (hc : d.cost = 0) (hl : ∀ p ∈ l, 1 ≤ p.vec.root) : rootF id (l.set k d) = ((⟨0, 0, 0, 0, d.id⟩ : Vec), (k : Int)) := by
  have hz : thrV d.vec d.cost d.id = ⟨0, 0, 0, 0, d.id⟩ := by
    unfold thrV
    rw [hv, hc, thrCost_eq (by decide) (by decide)]
    rfl
  unfold rootF
  rw [List.set_eq_take_append_cons_drop, if_pos hk, rootL_app, rootL]
  have hy := rootL_pos id (l.take k) 0 (ownOf id, -1) hid (fun p hp => hl p (List.mem_of_mem_take hp))
  have hlen : 0 + (l.take k).length = k := by rw [List.length_take]; omega
  rw [hlen]
  have hs : rootStep id k d (rootL id (l.take k) 0 (ownOf id, -1)) = ((⟨0, 0, 0, 0, d.id⟩ : Vec), (k : Int)) := by
    have c := cmpV_root (a := ⟨0, 0, 0, 0, d.id⟩) (b := (rootL id (l.take k) 0 (ownOf id, -1)).1) (by show (0 : Int) < _; omega)
    unfold rootStep
    rw [hz, h3, hv, if_neg (by unfold ownV; simpa using ha), if_pos (by simpa using c)]
  rw [hs]
  exact rootL_keep id _ _ _ rfl (fun p hp => hl p (List.mem_of_mem_drop hp))
theorem mapI_getD (f : Nat → Port → Port) : ∀ (l : List Port) (i j : Nat), j < l.length → (mapI f l i).getD j Port.dflt = f (i + j) (l.getD j Port.dflt)
  | [], _, _, h => by simp at h
  | p :: l, i, 0, _ => rfl
  | p :: l, i, j + 1, h => by
    rw [mapI, List.getD_cons_succ, List.getD_cons_succ, mapI_getD f l (i + 1) j (by simpa using h)]
    congr 1
    omega
theorem getD_set {l : List Port} {k : Nat} {a : Port} (h : k < l.length) : (l.set k a).getD k Port.dflt = a := by
  simp [List.getD, h]
theorem ofD_eq (q : InP) (k : Int) (h : (ofK q k).toNat < q.ps.length) : ∃ d : Port, ofD q k = (ofA q).set (ofK q k).toNat d ∧ d.is_ = 3 ∧ d.vec = ⟨0, 0, 0, 0, 0⟩ ∧ d.cost = 0 ∧ d.flags.reselect = true := by
  have hA : (ofK q k).toNat < (ofA q).length := by unfold ofA; rw [List.length_map]; exact h
  have hr : ((ofA q).getD (ofK q k).toNat Port.dflt).flags.reselect = true := by
    unfold ofA at hA ⊢
    obtain ⟨p, hp⟩ : ∃ p, (q.ps.map hiP)[(ofK q k).toNat]? = some p := ⟨_, List.getElem?_eq_getElem hA⟩
    have : (q.ps.map hiP).getD (ofK q k).toNat Port.dflt = p := by simp [List.getD, hp]
    rw [this]
    obtain ⟨p', _, rfl⟩ := List.mem_map.1 (List.mem_of_getElem? hp)
    rfl
  unfold ofD ofC ofB
  rw [getD_set hA, getD_set (by rw [List.length_set]; exact hA), List.set_set, List.set_set]
  exact ⟨_, rfl, rfl, rfl, rfl, hr⟩
theorem off_true (S : Stat) (q : InP) (k : Int) (hl : q.ps.length < 9223372036854775808) (h : q.Wf) (wk : (Lit.int .u8 k).wf = true) : ∃ v, (offO S q k).sel = some v ∧ ∀ S E, v.den S E = .bool true := by
  cases hf : fewF q with
  | false => exact ⟨_, Out.way_sel (off_no S q k) (by simp [InP.len, hl, hf]), fun _ _ => rfl⟩
  | true =>
    obtain ⟨h1, h2, h3, h4, _⟩ := fewF_lens hf
    have b1 : q.ps.length ≤ 134217728 := by omega
    have b2 : q.os.length ≤ 134217728 := by omega
    have b3 : q.fs.length ≤ 134217728 := by omega
    have n0 : ¬ q.ps.length = 0 := by omega
    have n0' : ¬ (q.ps.length : Int) = 0 := by omega
    have head : offHead q = [true, false, true, true, true, true] := by
      have hb : (!((q.ps.length : Int) == 0)) = true := by rw [Bool.not_eq_true', beq_eq_false_iff_ne]; exact n0'
      unfold offHead
      rw [hb]
      simp [InP.len, InP.big, Rows.len, hl, hf, b1, b2, b3]
    cases hs : offShl q with
    | true =>
      have e := off_zero S q k
      rw [head, hs] at e
      exact ⟨_, Out.way_sel e rfl, fun _ _ => rfl⟩
    | false =>
      have kb : 0 ≤ k ∧ k < 256 := by
        simp [Lit.wf, IntKind.min, IntKind.max, IntKind.signed, IntKind.bits] at wk
        omega
      have hw : IntKind.i64.wrap k = k := by
        simp [IntKind.wrap, IntKind.signed, IntKind.bits]
        omega
      have hK : ofK q k = k % q.ps.length := by unfold ofK; rw [hw, Int.tmod_eq_emod_of_nonneg kb.1]
      have k0 : 0 ≤ ofK q k := by rw [hK]; exact Int.emod_nonneg _ (by omega)
      have k1 : ofK q k < q.ps.length := by rw [hK]; exact Int.emod_lt_of_pos _ (by omega)
      have kn : (ofK q k).toNat < q.ps.length := by omega
      have kk : ((ofK q k).toNat : Int) = ofK q k := by omega
      obtain ⟨d, hD, d1, d2, d3, d4⟩ := ofD_eq q k kn
      have la : (ofA q).length = q.ps.length := by unfold ofA; rw [List.length_map]
      have lb : (ofB q k).length = q.ps.length := by unfold ofB; rw [List.length_set, la]
      have lc : (ofC q k).length = q.ps.length := by unfold ofC; rw [List.length_set, lb]
      have ld : (ofD q k).length = q.ps.length := by unfold ofD; rw [List.length_set, lc]
      have lp : (fP q k).length = q.ps.length := by unfold fP; rw [mapI_length, ld]
      have hdK : (ofD q k).getD (ofK q k).toNat Port.dflt = d := by rw [hD]; exact getD_set (by rw [la]; exact kn)
      have ha : (ofD q k).any askP = true := by
        refine List.any_eq_true.2 ⟨d, ?_, d4⟩
        rw [hD]
        exact List.mem_set (by rw [la]; exact kn) _
      have hid : 1 ≤ q.b.id ∧ addrI 0 ≠ addrI q.b.id := by
        have hb := h.id
        have : ¬ q.b.id % 281474976710656 = 0 := by
          intro hz
          have : offShl q = true := by
            unfold offShl
            simp only [IntKind.wrap, IntKind.signed, IntKind.bits]
            simp only [show min (Int.toNat 16) 64 = 16 from rfl]
            simp
            omega
          rw [this] at hs
          cases hs
        refine ⟨by omega, ?_⟩
        rw [addrI_eq hb, addrI_eq (by decide)]
        omega
      have hpos : ∀ p ∈ ofA q, 1 ≤ p.vec.root := by
        intro p hp
        obtain ⟨p', _, rfl⟩ := List.mem_map.1 hp
        show 1 ≤ (if p'.vec.root > 1 then p'.vec.root else 1)
        split <;> omega
      have hR := rootF_at (id := q.b.id) (l := ofA q) (k := (ofK q k).toNat) (d := d) (by rw [la]; exact kn) hid.1 hid.2 d1 d2 d3 hpos
      rw [← hD, kk] at hR
      have r1 : (fB q k).rootPort = ofK q k := congrArg Prod.snd hR
      have r2 : (fB q k).root = ⟨0, 0, 0, 0, d.id⟩ := congrArg Prod.fst hR
      have hP : (fP q k).getD (ofK q k).toNat Port.dflt = setSel (baseP (fB q k) d) 3 false := by
        unfold fP
        rw [mapI_getD _ _ _ _ (by rw [ld]; exact kn), hdK, Nat.zero_add]
        unfold stepP roleF
        have e1 : (baseP (fB q k) d).is_ = 3 := d1
        rw [e1, r1, kk]
        simp
      have mid : offMid q k = [true, true, true, true, true, true, true, true, true, true, true] := by
        unfold offMid
        rw [la, lb, lc, ld, lp, ha]
        simp [InP.len, hl, k0, k1, kn]
      have e := off_yes S q k
      rw [head, hs, mid] at e
      refine ⟨_, Out.way_sel e rfl, fun S E => ?_⟩
      rw [r1, r2, hP]
      simp [SV.den, setSel]
end Go.Proofs.Ythhdfidenigcaaa
