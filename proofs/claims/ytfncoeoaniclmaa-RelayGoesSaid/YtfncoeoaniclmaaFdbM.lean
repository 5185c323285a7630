/- slices.MinFunc at fdb's entries: who lives shortest. -/
import Derived.Test.YtfncoeoaniclmaaFdbE
import Derived.Test.YtfncoeoaniclmaaRd
set_option linter.unusedVariables false
set_option maxRecDepth 100000
namespace Go.Proofs.Ytfncoeoaniclmaa
open Go Go.RowKit

def minG (m : Entry) (L : List Entry) : Entry := L.foldl (fun m x => if x.sec < m.sec then x else m) m
def minE : List Entry → Entry
  | [] => Entry.dflt
  | x :: r => minG x r
/-- is cmp.Compare(a, b) < 0? -/
def cmpL (a b : Int) : Bool := decide ((if (a != a) = true then (if (b != b) = true then 0 else -1) else if (b != b) = true then 1 else if decide (a < b) = true then -1 else if decide (a > b) = true then 1 else (0 : Int)) < 0)
theorem cmpL_eq (a b : Int) : cmpL a b = decide (a < b) := by
  have h1 : (a != a) = false := by simp
  have h2 : (b != b) = false := by simp
  unfold cmpL
  rw [h1, h2]
  simp only [Bool.false_eq_true, if_false, decide_eq_true_eq]
  by_cases h : a < b
  · simp [h]
  · by_cases h' : a > b <;> simp [h, h']
theorem runL_fold {α τ : Type} {f : τ → α → τ} {fin : τ → Ex × St} : ∀ (l : List α) (i : Nat) (x : τ), runL (fun _ a x => Step.go (f x a)) fin l i x = fin (l.foldl f x)
  | [], _, _ => rfl
  | a :: r, i, x => by simp only [runL, List.foldl_cons]; exact runL_fold r (i + 1) (f x a)

noncomputable def psMn (S : Stat) : List (Nat × ReadFn) := [auto (fun S => [auto ps0 S 64]) S 63]
theorem psMn_ok (S : Stat) : ReadsOk S [] (psMn S) := .auto (fun S => .auto ps0_ok (.nil S [])) (.nil S [])
noncomputable def cMn (S : Stat) : Ctx := mkCtx S [] (psMn S) [] 20 2
theorem cMn_fam : Fam cMn := fam_of (ss := fun _ => []) psMn_ok (fun S => specs_nil)
structure MinP where
  L : List Entry
  n : Nat
  q : Bool
  z : Entry
def mnSt (p : MinP) (m : Entry) (i : SV) : St := ⟨[(0, [], .slr 0 p.n 0 p.q), (1, [], .fn (.func 63) [] []), (4, [], .ptr 1 0), (5, [], .ptr 2 0), (6, [], i)], [(2, .rcd (.entry m)), (1, .rcd (.entry p.z)), (0, .rows (.entry p.L))], 3⟩
def mnFin (p : MinP) (m : Entry) : St := ⟨[(4, [], .ptr 1 0), (5, [], .ptr 2 0)], [(2, .rcd (.entry m)), (1, .rcd (.entry p.z)), (0, .rows (.entry p.L))], 3⟩
def mnIn (p : MinP) (i : Int) : Bool := decide (0 ≤ i) && decide (i < p.n)
theorem mn_round (S : Stat) (p : MinP) (x : Entry) (i : Int) : trimO [0, 1, 4, 5, 6] 3 (exec (cMn (S.wt 0)) 33 20 (lpOf 62 0) (mnSt p x (.v (.int .i64 i)))) =
    .ite (decide (i < p.n)) (.ite (mnIn p i && decide (i.toNat < p.L.length)) (.ite (cmpL (p.L.getD i.toNat Entry.dflt).sec x.sec)
      (.ite (mnIn p i) (.ite (decide (i.toNat < p.L.length)) (.ret (.nrm, mnSt p (p.L.getD i.toNat Entry.dflt) (.v (.int .i64 (IntKind.i64.wrap (i + 1)))))) .bad) .bad)
      (.ret (.nrm, mnSt p x (.v (.int .i64 (IntKind.i64.wrap (i + 1))))))) .bad) (.ret (.exit 0, mnSt p x (.v (.int .i64 i)))) := by kernel_rfl
noncomputable def gMn0 : LoopFn := onTrim 3 [0, 1, 4, 5, 6] fun st => match st.slots, st.heap with
  | [(0, [], .slr 0 n 0 q), (1, [], .fn (.func 63) [] []), (4, [], .ptr 1 0), (5, [], .ptr 2 0), (6, [], .ki .i64 1)], [(2, .rcd (.entry m)), (1, .rcd (.entry z)), (0, .rows (.entry L))] =>
    some (.ite (decide (n = L.length ∧ 1 ≤ L.length ∧ L.length ≤ 67108864)) (.ret (.exit 0, mnFin ⟨L, n, q, z⟩ (minG m (L.drop 1)))) .bad)
  | _, _ => none
theorem mn_re (S : Stat) (p : MinP) (m : Entry) (E : Env) : ReHeap [(2, .rcd (.entry m)), (1, .rcd (.entry p.z)), (0, .rows (.entry p.L))] S S E [(2, .rcd (.entry m)), (1, .rcd (.entry p.z)), (0, .rows (.entry p.L))] := ⟨⟨_, rfl, rfl, trivial⟩, ⟨_, rfl, rfl, trivial⟩, ⟨_, rfl, rfl, trivial⟩, trivial⟩
theorem gMn0_ok (S : Stat) (ls : List (Nat × LoopFn)) : LoopOk Try.prog (withLoops (cMn (S.wt 0)) ls) (fnOf 62).ntmps (lpOf 62 0) gMn0 := by
  rw [show (fnOf 62).ntmps = 33 from by kernel_rfl]
  refine loop_trim cMn_fam (nx := 3) (fuel := 20) (ts := [0, 1, 4, 5, 6]) (π := MinP) (τ := Entry) (S.wt 0) (fun _ i => S.wt 0) (fun _ _ => rfl) (fun p => p.L.drop 1) (fun p i x => mnSt p x (.v (.int .i64 ((i + 1 : Nat) : Int)))) (fun p i x => p.n = p.L.length ∧ 1 ≤ p.L.length ∧ p.L.length ≤ 67108864)
    (fun p i a x => .go (if a.sec < x.sec then a else x)) (fun p x => (.exit 0, mnFin p x)) (fun _ _ _ => rfl) ?_ ?_ ?_
  · rintro ⟨sl, hp, nx⟩ o r ho hr
    dsimp only at ho
    split at ho
    · rename_i n q m z L
      injection ho with ho
      subst ho
      have hh := Out.ite_bad hr
      obtain ⟨h1, h2, h3⟩ := of_decide_eq_true hh.1
      have h4 := hh.2
      simp only [Out.sel, Option.some.injEq] at h4
      subst h4
      refine ⟨⟨L, n, q, z⟩, m, ⟨h1, h2, h3⟩, (runL_fold (f := fun (x : Entry) (a : Entry) => if a.sec < x.sec then a else x) (fin := fun x => (Ex.exit 0, mnFin ⟨L, n, q, z⟩ x)) (L.drop 1) 0 m).symm, Nat.le_refl _, fun E => ⟨⟨⟨_, rfl, rfl⟩, ⟨_, rfl, rfl⟩, ⟨_, rfl, rfl⟩, ⟨_, rfl, rfl⟩, ⟨_, rfl, rfl⟩, trivial⟩, mn_re _ ⟨L, n, q, z⟩ m E⟩⟩
    · cases ho
  · intro p i a x hp hinv
    obtain ⟨h1, h2, h3⟩ := hinv
    rw [List.getElem?_drop] at hp
    have hi := (List.getElem?_eq_some_iff.1 hp).1
    have hg : p.L.getD (((i + 1 : Nat) : Int)).toNat Entry.dflt = a := by
      rw [Int.toNat_natCast, List.getD_eq_getElem?_getD, show i + 1 = 1 + i from by omega, hp]
      rfl
    have hin : mnIn p ((i + 1 : Nat) : Int) = true := by
      unfold mnIn
      simp only [Bool.and_eq_true, decide_eq_true_eq]
      omega
    have hlt : decide ((((i + 1 : Nat) : Int)).toNat < p.L.length) = true := by
      rw [Int.toNat_natCast, decide_eq_true_eq]; omega
    have hlt' : decide (((i + 1 : Nat) : Int) < p.n) = true := by rw [decide_eq_true_eq]; omega
    rw [mn_round, hg, cmpL_eq, hin, hlt, hlt', wrap_succ (n := 67108865) (by omega) (by omega)]
    by_cases hs : a.sec < x.sec
    · refine ⟨.nrm, _, by simp only [Out.sel, hs, decide_true, Bool.and_self, if_true]; rfl, rfl, ⟨h1, h2, h3⟩, fun E => ?_⟩
      rw [if_pos hs]
      exact ⟨⟨⟨_, rfl, rfl⟩, ⟨_, rfl, rfl⟩, ⟨_, rfl, rfl⟩, ⟨_, rfl, rfl⟩, ⟨_, rfl, rfl⟩, trivial⟩, mn_re _ p a E⟩
    · refine ⟨.nrm, _, by simp only [Out.sel, hs, decide_false, Bool.and_self, if_true, Bool.false_eq_true, if_false]; rfl, rfl, ⟨h1, h2, h3⟩, fun E => ?_⟩
      rw [if_neg hs]
      exact ⟨⟨⟨_, rfl, rfl⟩, ⟨_, rfl, rfl⟩, ⟨_, rfl, rfl⟩, ⟨_, rfl, rfl⟩, ⟨_, rfl, rfl⟩, trivial⟩, mn_re _ p x E⟩
  · intro p x hinv
    obtain ⟨h1, h2, h3⟩ := hinv
    have hl : (p.L.drop 1).length + 1 = p.L.length := by rw [List.length_drop]; omega
    have hno : decide ((((p.L.drop 1).length + 1 : Nat) : Int) < p.n) = false := by rw [decide_eq_false_iff_not]; omega
    rw [mn_round, hno]
    exact ⟨.exit 0, _, by simp only [Out.sel, Bool.false_eq_true, if_false]; rfl, rfl, by simp, fun E => ⟨⟨⟨_, rfl, rfl⟩, ⟨_, rfl, rfl⟩, trivial⟩, mn_re _ p x E⟩⟩
def gMin : CanonFn := fun ro args H m => match args, H with
  | [.slr 0 n 0 q, .fn (.func 63) [] []], [(0, .rows (.entry L))] => bif ro 0 || !(Nat.beq m 1) then .bad else .ite (decide (n = L.length ∧ 1 ≤ L.length ∧ L.length ≤ 67108864)) (.ret (.rcd (.entry (minE L)), H, 1)) .bad
  | _, _ => .bad
theorem mn_walk (S : Stat) (L : List Entry) (n : Nat) (q : Bool) : trimF 1 (inline (withLoops (cMn (S.wt 0)) [(5, gMn0)]) 20 (fnOf 62) [.slr 0 n 0 q, .fn (.func 63) [] []] [(0, .rows (.entry L))] 1) =
    .ite (decide ((n : Int) < 1)) .bad (.ite (decide ((0 : Int) ≤ 0) && decide ((0 : Int) < n)) (.ite (decide ((0 : Int).toNat < L.length)) (.ite (decide (n = L.length ∧ 1 ≤ L.length ∧ L.length ≤ 67108864)) (.ret (.rcd (.entry (minG (L.getD 0 Entry.dflt) (L.drop 1))), [(0, .rows (.entry L))], 1)) .bad) .bad) .bad) := by kernel_rfl
theorem min_ok : CanonOk 62 gMin := by
  refine canon_ex cMn_fam Try.func62 (by kernel_rfl) [(5, gMn0)] (by kernel_rfl) (by kernel_rfl) (fun S i k g hg => ?_) ?_
  · match i, hg with
    | 0, hg => injection hg with hg; injection hg with h1 h2; subst h1 h2; exact gMn0_ok S _
    | i + 1, hg => simp at hg
  · intro S args H m r hr
    unfold gMin at hr
    split at hr <;> (try cases hr)
    rename_i n q L
    cases hb : (S.ro 0 || !(Nat.beq m 1)) with
    | true => rw [hb] at hr; cases hr
    | false =>
      rw [hb] at hr
      simp only [cond_false] at hr
      obtain ⟨hc, hr⟩ := Out.ite_bad hr
      simp only [Out.sel, Option.some.injEq] at hr
      subst hr
      simp only [Bool.or_eq_false_iff, Bool.not_eq_false'] at hb
      have := Nat.eq_of_beq_eq_true hb.2; subst this
      obtain ⟨rfl, h2, h3⟩ := of_decide_eq_true hc
      refine ⟨fun k x hk => ?_, rfl, rfl, rfl, rfl, Nat.le_refl _, 20, _, ?_, rfl, rfl, fun _ _ => rfl⟩
      · match k, hk with
        | 0, _ => exact hb.1
        | k + 1, hk => cases hk
      · rw [mn_walk]
        have e1 : decide ((L.length : Int) < 1) = false := by rw [decide_eq_false_iff_not]; omega
        have e2 : (decide ((0 : Int) ≤ 0) && decide ((0 : Int) < (L.length : Int))) = true := by simp; omega
        have e3 : decide ((0 : Int).toNat < L.length) = true := by rw [decide_eq_true_eq]; simp; omega
        have e4 : minG (L.getD 0 Entry.dflt) (L.drop 1) = minE L := by cases L with | nil => simp at h2 | cons x r => rfl
        rw [e1, e2, e3, hc, e4]
        simp [Out.sel]

open Go Go.RowKit

noncomputable def ssO (S : Stat) : List (Nat × SpecFn) := [(17, spc gAll S), (62, spc gMin S)]
theorem ssO_ok (S : Stat) : ∀ f g, (f, g) ∈ ssO S → SpecOk S [] f g := specs_cons (spc_ok all_ok S) <| specs_cons (spc_ok min_ok S) specs_nil
noncomputable def cO (S : Stat) : Ctx := mkCtx S [] (ps0 S) (ssO S) 20 2
theorem cO_fam : Fam cO := fam_of ps0_ok ssO_ok
def gOld : CanonFn := fun ro args H m => match args, H with
  | [.ptr 0 0], [(0, .agg [.v (.int .i64 x), .v (.int .i64 y), .mp 1]), (1, .tab (.place .u64 c l))] => .ite (decide (l.length ≤ 67108864) && decide (l.length = (allE l).length ∧ 1 ≤ (allE l).length ∧ (allE l).length ≤ 67108864)) (.ret (.v (.int .u64 (minE (allE l)).mac), H, m)) .bad
  | _, _ => .bad
theorem old_walk (S : Stat) (x y : Int) (c : Nat) (l : PL) : valF 2 (inline (withLoops (cO (S.rd 0 2)) []) 20 (fnOf 46) [.ptr 0 0] (fdbH x y c l) 2) =
    .ite (decide (l.length ≤ 67108864)) (.ite (decide (l.length = (allE l).length ∧ 1 ≤ (allE l).length ∧ (allE l).length ≤ 67108864)) (.ret (.v (.int .u64 (minE (allE l)).mac))) .bad) .bad := by kernel_rfl
theorem old_ok : CanonOk 46 gOld := by
  refine canon_rd cO_fam Try.func46 (by kernel_rfl) [] (by kernel_rfl) rfl 2 (fun S i k g hg => by simp at hg) ?_
  intro S args H m r hr
  unfold gOld at hr
  split at hr <;> (try cases hr)
  rename_i x y c l
  obtain ⟨hc, hr⟩ := Out.ite_bad hr
  simp only [Out.sel, Option.some.injEq] at hr
  subst hr
  simp only [Bool.and_eq_true] at hc
  refine ⟨rfl, rfl, fun E => ⟨S, 20, [.ptr 0 0], fdbH x y c l, _, rfl, by rw [old_walk, hc.1, hc.2]; rfl, by simp [SV.dens, SV.den], ⟨⟨_, rfl, by simp [SV.cells, SV.cellss], trivial⟩, ⟨_, rfl, by simp [SV.cells], trivial⟩, trivial⟩, rfl⟩⟩

noncomputable def psD (S : Stat) : List (Nat × ReadFn) := [auto ps0 S 44, auto ps0 S 45, (46, specRead (spc gOld) S 3)]
theorem psD_ok (S : Stat) : ReadsOk S [] (psD S) := .auto ps0_ok <| .auto ps0_ok <| .cons (specRead_ok (fun S' => spc_ok old_ok S') 3) <| .nil S []
noncomputable def ssD (S : Stat) : List (Nat × SpecFn) := [(17, spc gAll S), (47, spc gEach S)]
theorem ssD_ok (S : Stat) : ∀ f g, (f, g) ∈ ssD S → SpecOk S [] f g := specs_cons (spc_ok all_ok S) <| specs_cons (spc_ok each_ok S) specs_nil
noncomputable def cD (S : Stat) : Ctx := mkCtx S [] (psD S) (ssD S) 20 3
theorem cD_fam : Fam cD := fam_of psD_ok ssD_ok

open Go Go.RowKit

/-- a number's address; is one of many? -/
def addrF (m : Int) : Int := IntKind.u64.wrap ↑(BitVec.ofInt IntKind.u64.bits m &&& BitVec.ofInt IntKind.u64.bits 281474976710655).toNat
def manyF (a : Int) : Bool := IntKind.u64.wrap ↑(BitVec.ofInt IntKind.u64.bits (a.fdiv (2 ^ min (Int.toNat 40) IntKind.u64.bits)) &&& BitVec.ofInt IntKind.u64.bits 1).toNat == 1
def badF (m p : Int) : Bool := addrF m == 0 || manyF (addrF m) || decide (p < 0)
def fullF (x : Int) (l : PL) (m : Int) : Bool := !(hasK l (addrF m)) && ((l.length : Int) == x)
def oldGo (l : PL) : Bool := decide (l.length ≤ 67108864) && decide (l.length = (allE l).length ∧ 1 ≤ (allE l).length ∧ (allE l).length ≤ 67108864)
/-- what is known behind Learn: the clock, the entries -/
def learnC (x y : Int) (c : Nat) (l : PL) (m p : Int) : Nat := if badF m p = true then c else if fullF x l m = true then tickK (delK l (minE (allE l)).mac) (addrF m) c else tickK l (addrF m) c
def learnL (x y : Int) (c : Nat) (l : PL) (m p : Int) : PL := if badF m p = true then l else if fullF x l m = true then putK (delK l (minE (allE l)).mac) (addrF m) c ⟨p, y⟩ else putK l (addrF m) c ⟨p, y⟩
theorem learn_walk (S : Stat) (x y : Int) (c : Nat) (l : PL) (m p : Int) : trimF 2 (inline (withLoops (cD (S.wt 0)) []) 20 (fnOf 18) [.ptr 0 0, .v (.int .u64 m), .v (.int .i64 p)] (fdbH x y c l) 2) =
    .ite (badF m p) (.ret (.kb false, fdbH x y c l, 2)) (.ite (fullF x l m) (.ite (oldGo l) (.ret (.kb true, fdbH x y (tickK (delK l (minE (allE l)).mac) (addrF m) c) (putK (delK l (minE (allE l)).mac) (addrF m) c ⟨p, y⟩), 2)) .bad)
      (.ret (.kb true, fdbH x y (tickK l (addrF m) c) (putK l (addrF m) c ⟨p, y⟩), 2))) := by kernel_rfl
def ro2 (ro : Nat → Bool) : Bool := ro 0 || ro 1
theorem ro2_ok {ro : Nat → Bool} (h : ro2 ro = false) {x y : Int} {c : Nat} {l : PL} : ∀ k z, Heap.get (fdbH x y c l) k = some z → ro k = false := by
  intro k z hk
  simp only [ro2, Bool.or_eq_false_iff] at h
  match k, hk with
  | 0, _ => exact h.1
  | 1, _ => exact h.2
  | k + 2, hk => cases hk
def gLearn : CanonFn := fun ro args H m => match args, H with
  | [.ptr 0 0, .v (.int .u64 a), .v (.int .i64 p)], [(0, .agg [.v (.int .i64 x), .v (.int .i64 y), .mp 1]), (1, .tab (.place .u64 c l))] => bif ro2 ro || !(Nat.beq m 2) then .bad else
      .ite (decide (1 ≤ l.length ∧ l.length ≤ 67108864) || (badF a p || !(fullF x l a))) (.ret (.v (.bool !(badF a p)), fdbH x y (learnC x y c l a p) (learnL x y c l a p), 2)) .bad
  | _, _ => .bad
theorem ro2_of {ro : Nat → Bool} {m : Nat} (h : (ro2 ro || !(Nat.beq m 2)) = false) : ro2 ro = false ∧ m = 2 := by
  simp only [Bool.or_eq_false_iff, Bool.not_eq_false'] at h
  exact ⟨h.1, Nat.eq_of_beq_eq_true h.2⟩
theorem learn_ok : CanonOk 18 gLearn := by
  refine canon_ex cD_fam Try.func18 (by kernel_rfl) [] (by kernel_rfl) rfl (fun S i k g hg => by simp at hg) ?_
  intro S args H m r hr
  unfold gLearn at hr
  split at hr <;> (try cases hr)
  rename_i a p x y c l
  cases hb : (ro2 S.ro || !(Nat.beq m 2)) with
  | true => rw [hb] at hr; cases hr
  | false =>
    rw [hb] at hr
    simp only [cond_false] at hr
    obtain ⟨hc, hr⟩ := Out.ite_bad hr
    simp only [Out.sel, Option.some.injEq] at hr
    subst hr
    obtain ⟨h1, rfl⟩ := ro2_of hb
    have hw := learn_walk S x y c l a p
    cases hbad : badF a p with
    | true =>
      refine ⟨ro2_ok h1, rfl, rfl, rfl, rfl, Nat.le_refl _, 20, (.kb false, fdbH x y c l, 2), ?_, ?_, rfl, fun _ _ => rfl⟩
      · rw [show ([(0, .agg [.v (.int .i64 x), .v (.int .i64 y), .mp 1]), (1, .tab (.place .u64 c l))] : Heap) = fdbH x y c l from rfl, hw, hbad]; rfl
      · simp [learnC, learnL, hbad]
    | false =>
      cases hfull : fullF x l a with
      | true =>
        have hgo : oldGo l = true := by
          rw [hbad, hfull] at hc
          simp only [Bool.not_true, Bool.or_false, decide_eq_true_eq] at hc
          simp [oldGo, allE_len, hc.1, hc.2]
        refine ⟨ro2_ok h1, rfl, rfl, rfl, rfl, Nat.le_refl _, 20, (.kb true, fdbH x y (learnC x y c l a p) (learnL x y c l a p), 2), ?_, rfl, rfl, fun _ _ => rfl⟩
        · rw [show ([(0, .agg [.v (.int .i64 x), .v (.int .i64 y), .mp 1]), (1, .tab (.place .u64 c l))] : Heap) = fdbH x y c l from rfl, hw, hbad, hfull, hgo]
          simp [Out.sel, learnC, learnL, hbad, hfull]
      | false =>
        refine ⟨ro2_ok h1, rfl, rfl, rfl, rfl, Nat.le_refl _, 20, (.kb true, fdbH x y (learnC x y c l a p) (learnL x y c l a p), 2), ?_, rfl, rfl, fun _ _ => rfl⟩
        · rw [show ([(0, .agg [.v (.int .i64 x), .v (.int .i64 y), .mp 1]), (1, .tab (.place .u64 c l))] : Heap) = fdbH x y c l from rfl, hw, hbad, hfull]
          simp [Out.sel, learnC, learnL, hbad, hfull]

def portF (l : PL) (m : Int) : Int := if hasK l (addrF m) = true then (getK l (addrF m) ⟨0, 0⟩).port else -1
def gFind : CanonFn := fun ro args H m => match args, H with
  | [.ptr 0 0, .v (.int .u64 a)], [(0, .agg [.v (.int .i64 x), .v (.int .i64 y), .mp 1]), (1, .tab (.place .u64 c l))] => .ret (.tup [.v (.int .i64 (portF l a)), .v (.bool (hasK l (addrF a)))], H, m)
  | _, _ => .bad
theorem find_walk (S : Stat) (x y : Int) (c : Nat) (l : PL) (a : Int) : valF 2 (inline (withLoops (cD (S.rd 0 2)) []) 20 (fnOf 20) [.ptr 0 0, .v (.int .u64 a)] (fdbH x y c l) 2) =
    .ite (!(hasK l (addrF a))) (.ret (.tup [.ki .i64 (-1), .kb false])) (.ret (.tup [.v (.int .i64 (getK l (addrF a) ⟨0, 0⟩).port), .kb true])) := by kernel_rfl
theorem find_ok : CanonOk 20 gFind := by
  refine canon_rd cD_fam Try.func20 (by kernel_rfl) [] (by kernel_rfl) rfl 2 (fun S i k g hg => by simp at hg) ?_
  intro S args H m r hr
  unfold gFind at hr
  split at hr <;> (try cases hr)
  rename_i a x y c l
  refine ⟨rfl, rfl, fun E => ?_⟩
  cases hh : hasK l (addrF a) with
  | true => exact ⟨S, 20, [.ptr 0 0, .v (.int .u64 a)], fdbH x y c l, .tup [.v (.int .i64 (getK l (addrF a) ⟨0, 0⟩).port), .kb true], rfl, by rw [find_walk, hh]; rfl, by simp [SV.dens, SV.den], ⟨⟨_, rfl, by simp [SV.cells, SV.cellss], trivial⟩, ⟨_, rfl, by simp [SV.cells], trivial⟩, trivial⟩, by simp [SV.den, SV.dens, portF, hh]⟩
  | false => exact ⟨S, 20, [.ptr 0 0, .v (.int .u64 a)], fdbH x y c l, .tup [.ki .i64 (-1), .kb false], rfl, by rw [find_walk, hh]; rfl, by simp [SV.dens, SV.den], ⟨⟨_, rfl, by simp [SV.cells, SV.cellss], trivial⟩, ⟨_, rfl, by simp [SV.cells], trivial⟩, trivial⟩, by simp [SV.den, SV.dens, portF, hh]⟩

def gTick : CanonFn := fun ro args H m => match args, H with
  | [.ptr 0 0], [(0, .agg [.v (.int .i64 x), .v (.int .i64 y), .mp 1]), (1, .tab (.place .u64 c l))] => bif ro2 ro || !(Nat.beq m 2) then .bad else .ret (.tup [], fdbH x y c (tickL l), 2)
  | _, _ => .bad
theorem tick_walk (S : Stat) (x y : Int) (c : Nat) (l : PL) : trimF 2 (inline (withLoops (cD (S.wt 0)) []) 20 (fnOf 19) [.ptr 0 0] (fdbH x y c l) 2) = .ret (.tup [], fdbH x y c (tickL l), 2) := by kernel_rfl
theorem tick_ok : CanonOk 19 gTick := by
  refine canon_ex cD_fam Try.func19 (by kernel_rfl) [] (by kernel_rfl) rfl (fun S i k g hg => by simp at hg) ?_
  intro S args H m r hr
  unfold gTick at hr
  split at hr <;> (try cases hr)
  rename_i x y c l
  cases hb : (ro2 S.ro || !(Nat.beq m 2)) with
  | true => rw [hb] at hr; cases hr
  | false =>
    rw [hb] at hr
    simp only [cond_false, Out.sel, Option.some.injEq] at hr
    subst hr
    obtain ⟨h1, rfl⟩ := ro2_of hb
    exact ⟨ro2_ok h1, rfl, rfl, rfl, rfl, Nat.le_refl _, 20, _, by rw [show ([(0, .agg [.v (.int .i64 x), .v (.int .i64 y), .mp 1]), (1, .tab (.place .u64 c l))] : Heap) = fdbH x y c l from rfl, tick_walk]; rfl, rfl, rfl, fun _ _ => rfl⟩

def gShort : CanonFn := fun ro args H m => match args, H with
  | [.ptr 0 0, .v (.int .i64 p), .v (.int .i64 s)], [(0, .agg [.v (.int .i64 x), .v (.int .i64 y), .mp 1]), (1, .tab (.place .u64 c l))] => bif ro2 ro || !(Nat.beq m 2) then .bad else
    .ite (decide (l.length ≤ 67108864)) (.ret (.v (.int .i64 (cntP p l)), fdbH x y c (shortL p s l), 2)) .bad
  | _, _ => .bad
theorem short_walk (S : Stat) (x y : Int) (c : Nat) (l : PL) (p s : Int) : trimF 2 (inline (withLoops (cD (S.wt 0)) []) 20 (fnOf 21) [.ptr 0 0, .v (.int .i64 p), .v (.int .i64 s)] (fdbH x y c l) 2) =
    .ite (decide ((0 : Int) = 0) && decide (l.length ≤ 67108864)) (.ret (.v (.int .i64 (cntP p l)), fdbH x y c (shortL p s l), 2)) .bad := by kernel_rfl
theorem short_ok : CanonOk 21 gShort := by
  refine canon_ex cD_fam Try.func21 (by kernel_rfl) [] (by kernel_rfl) rfl (fun S i k g hg => by simp at hg) ?_
  intro S args H m r hr
  unfold gShort at hr
  split at hr <;> (try cases hr)
  rename_i p s x y c l
  cases hb : (ro2 S.ro || !(Nat.beq m 2)) with
  | true => rw [hb] at hr; cases hr
  | false =>
    rw [hb] at hr
    simp only [cond_false] at hr
    obtain ⟨hc, hr⟩ := Out.ite_bad hr
    simp only [Out.sel, Option.some.injEq] at hr
    subst hr
    obtain ⟨h1, rfl⟩ := ro2_of hb
    exact ⟨ro2_ok h1, rfl, rfl, rfl, rfl, Nat.le_refl _, 20, _, by rw [show ([(0, .agg [.v (.int .i64 x), .v (.int .i64 y), .mp 1]), (1, .tab (.place .u64 c l))] : Heap) = fdbH x y c l from rfl, short_walk, hc]; rfl, rfl, rfl, fun _ _ => rfl⟩
def gFlush : CanonFn := fun ro args H m => match args, H with
  | [.ptr 0 0, .v (.int .i64 p)], [(0, .agg [.v (.int .i64 x), .v (.int .i64 y), .mp 1]), (1, .tab (.place .u64 c l))] => bif ro2 ro || !(Nat.beq m 2) then .bad else
    .ite (decide (l.length ≤ 67108864)) (.ret (.v (.int .i64 (cntP p l)), fdbH x y c (shortL p 0 l), 2)) .bad
  | _, _ => .bad
theorem flush_walk (S : Stat) (x y : Int) (c : Nat) (l : PL) (p : Int) : trimF 2 (inline (withLoops (cD (S.wt 0)) []) 20 (fnOf 25) [.ptr 0 0, .v (.int .i64 p)] (fdbH x y c l) 2) =
    .ite (decide ((0 : Int) = 0) && decide (l.length ≤ 67108864)) (.ret (.v (.int .i64 (cntP p l)), fdbH x y c (shortL p 0 l), 2)) .bad := by kernel_rfl
theorem flush_ok : CanonOk 25 gFlush := by
  refine canon_ex cD_fam Try.func25 (by kernel_rfl) [] (by kernel_rfl) rfl (fun S i k g hg => by simp at hg) ?_
  intro S args H m r hr
  unfold gFlush at hr
  split at hr <;> (try cases hr)
  rename_i p x y c l
  cases hb : (ro2 S.ro || !(Nat.beq m 2)) with
  | true => rw [hb] at hr; cases hr
  | false =>
    rw [hb] at hr
    simp only [cond_false] at hr
    obtain ⟨hc, hr⟩ := Out.ite_bad hr
    simp only [Out.sel, Option.some.injEq] at hr
    subst hr
    obtain ⟨h1, rfl⟩ := ro2_of hb
    exact ⟨ro2_ok h1, rfl, rfl, rfl, rfl, Nat.le_refl _, 20, _, by rw [show ([(0, .agg [.v (.int .i64 x), .v (.int .i64 y), .mp 1]), (1, .tab (.place .u64 c l))] : Heap) = fdbH x y c l from rfl, flush_walk, hc]; rfl, rfl, rfl, fun _ _ => rfl⟩

/-! ### the contexts of the laws -/
noncomputable def psW (S : Stat) : List (Nat × ReadFn) := [(20, specRead (spc gFind) S 3)]
theorem psW_ok (S : Stat) : ReadsOk S [] (psW S) := .cons (specRead_ok (fun S' => spc_ok find_ok S') 3) <| .nil S []
noncomputable def ssW (S : Stat) : List (Nat × SpecFn) := [(17, spc gAll S), (18, spc gLearn S), (19, spc gTick S), (21, spc gShort S), (25, spc gFlush S)]
theorem ssW_ok (S : Stat) : ∀ f g, (f, g) ∈ ssW S → SpecOk S [] f g := specs_cons (spc_ok all_ok S) <| specs_cons (spc_ok learn_ok S) <| specs_cons (spc_ok tick_ok S) <| specs_cons (spc_ok short_ok S) <| specs_cons (spc_ok flush_ok S) specs_nil
noncomputable def cW (S : Stat) : Ctx := mkCtx S [] (psW S) (ssW S) 20 4
theorem cW_fam : Fam cW := fam_of psW_ok ssW_ok
end Go.Proofs.Ytfncoeoaniclmaa
