/- fdb: contracts of Learn, Find, Tick, Short and Flush. -/
import Derived.Test.YtfncoeoaniclmaaFdbC
set_option linter.unusedVariables false
set_option maxRecDepth 100000
namespace Go.Proofs.Ytfncoeoaniclmaa
open Go Go.RowKit

/-- a number's address; is one of many? -/
def addrF (m : Int) : Int := IntKind.u64.wrap ↑(BitVec.ofInt IntKind.u64.bits m &&& BitVec.ofInt IntKind.u64.bits 281474976710655).toNat
def manyF (a : Int) : Bool := IntKind.u64.wrap ↑(BitVec.ofInt IntKind.u64.bits (a.fdiv (2 ^ min (Int.toNat 40) IntKind.u64.bits)) &&& BitVec.ofInt IntKind.u64.bits 1).toNat == 1
def badF (m p : Int) : Bool := addrF m == 0 || manyF (addrF m) || decide (p < 0)
def fullF (x : Int) (l : PL) (m : Int) : Bool := !(hasK l (addrF m)) && ((l.length : Int) == x)
def oldGo (l : PL) : Bool := decide (l.length ≤ 67108864) && decide (l.length = (allE l).length ∧ 1 ≤ (allE l).length ∧ (allE l).length ≤ 67108864)
/-- what is known behind Learn: the clock, the entries -/
def learnC (x y : Int) (c : Nat) (l : PL) (m p : Int) : Nat := if badF m p = true then c else if fullF x l m = true then tickK (delK l (minE (allE l)).mac) (addrF m) c else tickK l (addrF m) c
def learnL (x y : Int) (c : Nat) (l : PL) (m p : Int) : PL := if badF m p = true then l else if fullF x l m = true then putK (delK l (minE (allE l)).mac) (addrF m) c ⟨p, y⟩ else putK l (addrF m) c ⟨p, y⟩
theorem learn_walk (S : Stat) (x y : Int) (c : Nat) (l : PL) (m p : Int) : trimF 2 (inline (withLoops (cD (S.wt 0)) []) 20 (fnOf 18) [.ptr 0 0, .v (.int .u64 m), .v (.int .i64 p)] (fdbH x y c l) 2) =
    .ite (badF m p) (.ret (.kb false, fdbH x y c l, 2)) (.ite (fullF x l m) (.ite (oldGo l) (.ret (.kb true, fdbH x y (tickK (delK l (minE (allE l)).mac) (addrF m) c) (putK (delK l (minE (allE l)).mac) (addrF m) c ⟨p, y⟩), 2)) .bad)
      (.ret (.kb true, fdbH x y (tickK l (addrF m) c) (putK l (addrF m) c ⟨p, y⟩), 2))) := by kernel_rfl
def ro2 (ro : Nat → Bool) : Bool := ro 0 || ro 1
theorem ro2_ok {ro : Nat → Bool} (h : ro2 ro = false) {x y : Int} {c : Nat} {l : PL} : ∀ k z, Heap.get (fdbH x y c l) k = some z → ro k = false := by
  intro k z hk
  simp only [ro2, Bool.or_eq_false_iff] at h
  match k, hk with
  | 0, _ => exact h.1
  | 1, _ => exact h.2
  | k + 2, hk => cases hk
def gLearn : CanonFn := fun ro args H m => match args, H with
  | [.ptr 0 0, .v (.int .u64 a), .v (.int .i64 p)], [(0, .agg [.v (.int .i64 x), .v (.int .i64 y), .mp 1]), (1, .tab (.place .u64 c l))] => bif ro2 ro || !(Nat.beq m 2) then .bad else
      .ite (decide (1 ≤ l.length ∧ l.length ≤ 67108864) || (badF a p || !(fullF x l a))) (.ret (.v (.bool !(badF a p)), fdbH x y (learnC x y c l a p) (learnL x y c l a p), 2)) .bad
  | _, _ => .bad
theorem ro2_of {ro : Nat → Bool} {m : Nat} (h : (ro2 ro || !(Nat.beq m 2)) = false) : ro2 ro = false ∧ m = 2 := by
  simp only [Bool.or_eq_false_iff, Bool.not_eq_false'] at h
  exact ⟨h.1, Nat.eq_of_beq_eq_true h.2⟩
theorem learn_ok : CanonOk 18 gLearn := by
  refine canon_ex cD_fam Try.func18 (by kernel_rfl) [] (by kernel_rfl) rfl (fun S i k g hg => by simp at hg) ?_
  intro S args H m r hr
  unfold gLearn at hr
  split at hr <;> (try cases hr)
  rename_i a p x y c l
  cases hb : (ro2 S.ro || !(Nat.beq m 2)) with
  | true => rw [hb] at hr; cases hr
  | false =>
    rw [hb] at hr
    simp only [cond_false] at hr
    obtain ⟨hc, hr⟩ := Out.ite_bad hr
    simp only [Out.sel, Option.some.injEq] at hr
    subst hr
    obtain ⟨h1, rfl⟩ := ro2_of hb
    have hw := learn_walk S x y c l a p
    cases hbad : badF a p with
    | true =>
      refine ⟨ro2_ok h1, rfl, rfl, rfl, rfl, Nat.le_refl _, 20, (.kb false, fdbH x y c l, 2), ?_, ?_, rfl, fun _ _ => rfl⟩
      · rw [show ([(0, .agg [.v (.int .i64 x), .v (.int .i64 y), .mp 1]), (1, .tab (.place .u64 c l))] : Heap) = fdbH x y c l from rfl, hw, hbad]; rfl
      · simp [learnC, learnL, hbad]
    | false =>
      cases hfull : fullF x l a with
      | true =>
        have hgo : oldGo l = true := by
          rw [hbad, hfull] at hc
          simp only [Bool.not_true, Bool.or_false, decide_eq_true_eq] at hc
          simp [oldGo, allE_len, hc.1, hc.2]
        refine ⟨ro2_ok h1, rfl, rfl, rfl, rfl, Nat.le_refl _, 20, (.kb true, fdbH x y (learnC x y c l a p) (learnL x y c l a p), 2), ?_, rfl, rfl, fun _ _ => rfl⟩
        · rw [show ([(0, .agg [.v (.int .i64 x), .v (.int .i64 y), .mp 1]), (1, .tab (.place .u64 c l))] : Heap) = fdbH x y c l from rfl, hw, hbad, hfull, hgo]
          simp [Out.sel, learnC, learnL, hbad, hfull]
      | false =>
        refine ⟨ro2_ok h1, rfl, rfl, rfl, rfl, Nat.le_refl _, 20, (.kb true, fdbH x y (learnC x y c l a p) (learnL x y c l a p), 2), ?_, rfl, rfl, fun _ _ => rfl⟩
        · rw [show ([(0, .agg [.v (.int .i64 x), .v (.int .i64 y), .mp 1]), (1, .tab (.place .u64 c l))] : Heap) = fdbH x y c l from rfl, hw, hbad, hfull]
          simp [Out.sel, learnC, learnL, hbad, hfull]

def portF (l : PL) (m : Int) : Int := if hasK l (addrF m) = true then (getK l (addrF m) ⟨0, 0⟩).port else -1
def gFind : CanonFn := fun ro args H m => match args, H with
  | [.ptr 0 0, .v (.int .u64 a)], [(0, .agg [.v (.int .i64 x), .v (.int .i64 y), .mp 1]), (1, .tab (.place .u64 c l))] => .ret (.tup [.v (.int .i64 (portF l a)), .v (.bool (hasK l (addrF a)))], H, m)
  | _, _ => .bad
theorem find_walk (S : Stat) (x y : Int) (c : Nat) (l : PL) (a : Int) : valF 2 (inline (withLoops (cD (S.rd 0 2)) []) 20 (fnOf 20) [.ptr 0 0, .v (.int .u64 a)] (fdbH x y c l) 2) =
    .ite (!(hasK l (addrF a))) (.ret (.tup [.ki .i64 (-1), .kb false])) (.ret (.tup [.v (.int .i64 (getK l (addrF a) ⟨0, 0⟩).port), .kb true])) := by kernel_rfl
theorem find_ok : CanonOk 20 gFind := by
  refine canon_rd cD_fam Try.func20 (by kernel_rfl) [] (by kernel_rfl) rfl 2 (fun S i k g hg => by simp at hg) ?_
  intro S args H m r hr
  unfold gFind at hr
  split at hr <;> (try cases hr)
  rename_i a x y c l
  refine ⟨rfl, rfl, fun E => ?_⟩
  cases hh : hasK l (addrF a) with
  | true => exact ⟨S, 20, [.ptr 0 0, .v (.int .u64 a)], fdbH x y c l, .tup [.v (.int .i64 (getK l (addrF a) ⟨0, 0⟩).port), .kb true], rfl, by rw [find_walk, hh]; rfl, by simp [SV.dens, SV.den], ⟨⟨_, rfl, by simp [SV.cells, SV.cellss], trivial⟩, ⟨_, rfl, by simp [SV.cells], trivial⟩, trivial⟩, by simp [SV.den, SV.dens, portF, hh]⟩
  | false => exact ⟨S, 20, [.ptr 0 0, .v (.int .u64 a)], fdbH x y c l, .tup [.ki .i64 (-1), .kb false], rfl, by rw [find_walk, hh]; rfl, by simp [SV.dens, SV.den], ⟨⟨_, rfl, by simp [SV.cells, SV.cellss], trivial⟩, ⟨_, rfl, by simp [SV.cells], trivial⟩, trivial⟩, by simp [SV.den, SV.dens, portF, hh]⟩

def gTick : CanonFn := fun ro args H m => match args, H with
  | [.ptr 0 0], [(0, .agg [.v (.int .i64 x), .v (.int .i64 y), .mp 1]), (1, .tab (.place .u64 c l))] => bif ro2 ro || !(Nat.beq m 2) then .bad else .ret (.tup [], fdbH x y c (tickL l), 2)
  | _, _ => .bad
theorem tick_walk (S : Stat) (x y : Int) (c : Nat) (l : PL) : trimF 2 (inline (withLoops (cD (S.wt 0)) []) 20 (fnOf 19) [.ptr 0 0] (fdbH x y c l) 2) = .ret (.tup [], fdbH x y c (tickL l), 2) := by kernel_rfl
theorem tick_ok : CanonOk 19 gTick := by
  refine canon_ex cD_fam Try.func19 (by kernel_rfl) [] (by kernel_rfl) rfl (fun S i k g hg => by simp at hg) ?_
  intro S args H m r hr
  unfold gTick at hr
  split at hr <;> (try cases hr)
  rename_i x y c l
  cases hb : (ro2 S.ro || !(Nat.beq m 2)) with
  | true => rw [hb] at hr; cases hr
  | false =>
    rw [hb] at hr
    simp only [cond_false, Out.sel, Option.some.injEq] at hr
    subst hr
    obtain ⟨h1, rfl⟩ := ro2_of hb
    exact ⟨ro2_ok h1, rfl, rfl, rfl, rfl, Nat.le_refl _, 20, _, by rw [show ([(0, .agg [.v (.int .i64 x), .v (.int .i64 y), .mp 1]), (1, .tab (.place .u64 c l))] : Heap) = fdbH x y c l from rfl, tick_walk]; rfl, rfl, rfl, fun _ _ => rfl⟩

def gShort : CanonFn := fun ro args H m => match args, H with
  | [.ptr 0 0, .v (.int .i64 p), .v (.int .i64 s)], [(0, .agg [.v (.int .i64 x), .v (.int .i64 y), .mp 1]), (1, .tab (.place .u64 c l))] => bif ro2 ro || !(Nat.beq m 2) then .bad else
    .ite (decide (l.length ≤ 67108864)) (.ret (.v (.int .i64 (cntP p l)), fdbH x y c (shortL p s l), 2)) .bad
  | _, _ => .bad
theorem short_walk (S : Stat) (x y : Int) (c : Nat) (l : PL) (p s : Int) : trimF 2 (inline (withLoops (cD (S.wt 0)) []) 20 (fnOf 21) [.ptr 0 0, .v (.int .i64 p), .v (.int .i64 s)] (fdbH x y c l) 2) =
    .ite (decide ((0 : Int) = 0) && decide (l.length ≤ 67108864)) (.ret (.v (.int .i64 (cntP p l)), fdbH x y c (shortL p s l), 2)) .bad := by kernel_rfl
theorem short_ok : CanonOk 21 gShort := by
  refine canon_ex cD_fam Try.func21 (by kernel_rfl) [] (by kernel_rfl) rfl (fun S i k g hg => by simp at hg) ?_
  intro S args H m r hr
  unfold gShort at hr
  split at hr <;> (try cases hr)
  rename_i p s x y c l
  cases hb : (ro2 S.ro || !(Nat.beq m 2)) with
  | true => rw [hb] at hr; cases hr
  | false =>
    rw [hb] at hr
    simp only [cond_false] at hr
    obtain ⟨hc, hr⟩ := Out.ite_bad hr
    simp only [Out.sel, Option.some.injEq] at hr
    subst hr
    obtain ⟨h1, rfl⟩ := ro2_of hb
    exact ⟨ro2_ok h1, rfl, rfl, rfl, rfl, Nat.le_refl _, 20, _, by rw [show ([(0, .agg [.v (.int .i64 x), .v (.int .i64 y), .mp 1]), (1, .tab (.place .u64 c l))] : Heap) = fdbH x y c l from rfl, short_walk, hc]; rfl, rfl, rfl, fun _ _ => rfl⟩
def gFlush : CanonFn := fun ro args H m => match args, H with
  | [.ptr 0 0, .v (.int .i64 p)], [(0, .agg [.v (.int .i64 x), .v (.int .i64 y), .mp 1]), (1, .tab (.place .u64 c l))] => bif ro2 ro || !(Nat.beq m 2) then .bad else
    .ite (decide (l.length ≤ 67108864)) (.ret (.v (.int .i64 (cntP p l)), fdbH x y c (shortL p 0 l), 2)) .bad
  | _, _ => .bad
theorem flush_walk (S : Stat) (x y : Int) (c : Nat) (l : PL) (p : Int) : trimF 2 (inline (withLoops (cD (S.wt 0)) []) 20 (fnOf 25) [.ptr 0 0, .v (.int .i64 p)] (fdbH x y c l) 2) =
    .ite (decide ((0 : Int) = 0) && decide (l.length ≤ 67108864)) (.ret (.v (.int .i64 (cntP p l)), fdbH x y c (shortL p 0 l), 2)) .bad := by kernel_rfl
theorem flush_ok : CanonOk 25 gFlush := by
  refine canon_ex cD_fam Try.func25 (by kernel_rfl) [] (by kernel_rfl) rfl (fun S i k g hg => by simp at hg) ?_
  intro S args H m r hr
  unfold gFlush at hr
  split at hr <;> (try cases hr)
  rename_i p x y c l
  cases hb : (ro2 S.ro || !(Nat.beq m 2)) with
  | true => rw [hb] at hr; cases hr
  | false =>
    rw [hb] at hr
    simp only [cond_false] at hr
    obtain ⟨hc, hr⟩ := Out.ite_bad hr
    simp only [Out.sel, Option.some.injEq] at hr
    subst hr
    obtain ⟨h1, rfl⟩ := ro2_of hb
    exact ⟨ro2_ok h1, rfl, rfl, rfl, rfl, Nat.le_refl _, 20, _, by rw [show ([(0, .agg [.v (.int .i64 x), .v (.int .i64 y), .mp 1]), (1, .tab (.place .u64 c l))] : Heap) = fdbH x y c l from rfl, flush_walk, hc]; rfl, rfl, rfl, fun _ _ => rfl⟩

/-! ### the contexts of the laws -/
noncomputable def psW (S : Stat) : List (Nat × ReadFn) := [(20, specRead (spc gFind) S 3)]
theorem psW_ok (S : Stat) : ReadsOk S [] (psW S) := .cons (specRead_ok (fun S' => spc_ok find_ok S') 3) <| .nil S []
noncomputable def ssW (S : Stat) : List (Nat × SpecFn) := [(17, spc gAll S), (18, spc gLearn S), (19, spc gTick S), (21, spc gShort S), (25, spc gFlush S)]
theorem ssW_ok (S : Stat) : ∀ f g, (f, g) ∈ ssW S → SpecOk S [] f g := specs_cons (spc_ok all_ok S) <| specs_cons (spc_ok learn_ok S) <| specs_cons (spc_ok tick_ok S) <| specs_cons (spc_ok short_ok S) <| specs_cons (spc_ok flush_ok S) specs_nil
noncomputable def cW (S : Stat) : Ctx := mkCtx S [] (psW S) (ssW S) 20 4
theorem cW_fam : Fam cW := fam_of psW_ok ssW_ok
end Go.Proofs.Ytfncoeoaniclmaa
