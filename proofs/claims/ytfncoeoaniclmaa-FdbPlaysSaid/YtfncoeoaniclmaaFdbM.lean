/- slices.MinFunc at fdb's entries: who lives shortest. -/
import Derived.Test.YtfncoeoaniclmaaFdbF
import Derived.Test.YtfncoeoaniclmaaRd
set_option linter.unusedVariables false
set_option maxRecDepth 100000
namespace Go.Proofs.Ytfncoeoaniclmaa
open Go Go.RowKit

def minG (m : Entry) (L : List Entry) : Entry := L.foldl (fun m x => if x.sec < m.sec then x else m) m
def minE : List Entry → Entry
  | [] => Entry.dflt
  | x :: r => minG x r
/-- is cmp.Compare(a, b) < 0? -/
def cmpL (a b : Int) : Bool := decide ((if (a != a) = true then (if (b != b) = true then 0 else -1) else if (b != b) = true then 1 else if decide (a < b) = true then -1 else if decide (a > b) = true then 1 else (0 : Int)) < 0)
theorem cmpL_eq (a b : Int) : cmpL a b = decide (a < b) := by
  have h1 : (a != a) = false := by simp
  have h2 : (b != b) = false := by simp
  unfold cmpL
  rw [h1, h2]
  simp only [Bool.false_eq_true, if_false, decide_eq_true_eq]
  by_cases h : a < b
  · simp [h]
  · by_cases h' : a > b <;> simp [h, h']
theorem runL_fold {α τ : Type} {f : τ → α → τ} {fin : τ → Ex × St} : ∀ (l : List α) (i : Nat) (x : τ), runL (fun _ a x => Step.go (f x a)) fin l i x = fin (l.foldl f x)
  | [], _, _ => rfl
  | a :: r, i, x => by simp only [runL, List.foldl_cons]; exact runL_fold r (i + 1) (f x a)

noncomputable def psMn (S : Stat) : List (Nat × ReadFn) := [auto (fun S => [auto ps0 S 64]) S 63]
theorem psMn_ok (S : Stat) : ReadsOk S [] (psMn S) := .auto (fun S => .auto ps0_ok (.nil S [])) (.nil S [])
noncomputable def cMn (S : Stat) : Ctx := mkCtx S [] (psMn S) [] 20 2
theorem cMn_fam : Fam cMn := fam_of (ss := fun _ => []) psMn_ok (fun S => specs_nil)
structure MinP where
  L : List Entry
  n : Nat
  q : Bool
  z : Entry
def mnSt (p : MinP) (m : Entry) (i : SV) : St := ⟨[(0, [], .slr 0 p.n 0 p.q), (1, [], .fn (.func 63) [] []), (4, [], .ptr 1 0), (5, [], .ptr 2 0), (6, [], i)], [(2, .rcd (.entry m)), (1, .rcd (.entry p.z)), (0, .rows (.entry p.L))], 3⟩
def mnFin (p : MinP) (m : Entry) : St := ⟨[(4, [], .ptr 1 0), (5, [], .ptr 2 0)], [(2, .rcd (.entry m)), (1, .rcd (.entry p.z)), (0, .rows (.entry p.L))], 3⟩
def mnIn (p : MinP) (i : Int) : Bool := decide (0 ≤ i) && decide (i < p.n)
theorem mn_round (S : Stat) (p : MinP) (x : Entry) (i : Int) : trimO [0, 1, 4, 5, 6] 3 (exec (cMn (S.wt 0)) 33 20 (lpOf 62 0) (mnSt p x (.v (.int .i64 i)))) =
    .ite (decide (i < p.n)) (.ite (mnIn p i && decide (i.toNat < p.L.length)) (.ite (cmpL (p.L.getD i.toNat Entry.dflt).sec x.sec)
      (.ite (mnIn p i) (.ite (decide (i.toNat < p.L.length)) (.ret (.nrm, mnSt p (p.L.getD i.toNat Entry.dflt) (.v (.int .i64 (IntKind.i64.wrap (i + 1)))))) .bad) .bad)
      (.ret (.nrm, mnSt p x (.v (.int .i64 (IntKind.i64.wrap (i + 1))))))) .bad) (.ret (.exit 0, mnSt p x (.v (.int .i64 i)))) := by kernel_rfl
noncomputable def gMn0 : LoopFn := onTrim 3 [0, 1, 4, 5, 6] fun st => match st.slots, st.heap with
  | [(0, [], .slr 0 n 0 q), (1, [], .fn (.func 63) [] []), (4, [], .ptr 1 0), (5, [], .ptr 2 0), (6, [], .ki .i64 1)], [(2, .rcd (.entry m)), (1, .rcd (.entry z)), (0, .rows (.entry L))] =>
    some (.ite (decide (n = L.length ∧ 1 ≤ L.length ∧ L.length ≤ 67108864)) (.ret (.exit 0, mnFin ⟨L, n, q, z⟩ (minG m (L.drop 1)))) .bad)
  | _, _ => none
theorem mn_re (S : Stat) (p : MinP) (m : Entry) (E : Env) : ReHeap [(2, .rcd (.entry m)), (1, .rcd (.entry p.z)), (0, .rows (.entry p.L))] S S E [(2, .rcd (.entry m)), (1, .rcd (.entry p.z)), (0, .rows (.entry p.L))] := ⟨⟨_, rfl, rfl, trivial⟩, ⟨_, rfl, rfl, trivial⟩, ⟨_, rfl, rfl, trivial⟩, trivial⟩
theorem gMn0_ok (S : Stat) (ls : List (Nat × LoopFn)) : LoopOk Try.prog (withLoops (cMn (S.wt 0)) ls) (fnOf 62).ntmps (lpOf 62 0) gMn0 := by
  rw [show (fnOf 62).ntmps = 33 from by kernel_rfl]
  refine loop_trim cMn_fam (nx := 3) (fuel := 20) (ts := [0, 1, 4, 5, 6]) (π := MinP) (τ := Entry) (S.wt 0) (fun _ i => S.wt 0) (fun _ _ => rfl) (fun p => p.L.drop 1) (fun p i x => mnSt p x (.v (.int .i64 ((i + 1 : Nat) : Int)))) (fun p i x => p.n = p.L.length ∧ 1 ≤ p.L.length ∧ p.L.length ≤ 67108864)
    (fun p i a x => .go (if a.sec < x.sec then a else x)) (fun p x => (.exit 0, mnFin p x)) (fun _ _ _ => rfl) ?_ ?_ ?_
  · rintro ⟨sl, hp, nx⟩ o r ho hr
    dsimp only at ho
    split at ho
    · rename_i n q m z L
      injection ho with ho
      subst ho
      have hh := Out.ite_bad hr
      obtain ⟨h1, h2, h3⟩ := of_decide_eq_true hh.1
      have h4 := hh.2
      simp only [Out.sel, Option.some.injEq] at h4
      subst h4
      refine ⟨⟨L, n, q, z⟩, m, ⟨h1, h2, h3⟩, (runL_fold (f := fun (x : Entry) (a : Entry) => if a.sec < x.sec then a else x) (fin := fun x => (Ex.exit 0, mnFin ⟨L, n, q, z⟩ x)) (L.drop 1) 0 m).symm, Nat.le_refl _, fun E => ⟨⟨⟨_, rfl, rfl⟩, ⟨_, rfl, rfl⟩, ⟨_, rfl, rfl⟩, ⟨_, rfl, rfl⟩, ⟨_, rfl, rfl⟩, trivial⟩, mn_re _ ⟨L, n, q, z⟩ m E⟩⟩
    · cases ho
  · intro p i a x hp hinv
    obtain ⟨h1, h2, h3⟩ := hinv
    rw [List.getElem?_drop] at hp
    have hi := (List.getElem?_eq_some_iff.1 hp).1
    have hg : p.L.getD (((i + 1 : Nat) : Int)).toNat Entry.dflt = a := by
      rw [Int.toNat_natCast, List.getD_eq_getElem?_getD, show i + 1 = 1 + i from by omega, hp]
      rfl
    have hin : mnIn p ((i + 1 : Nat) : Int) = true := by
      unfold mnIn
      simp only [Bool.and_eq_true, decide_eq_true_eq]
      omega
    have hlt : decide ((((i + 1 : Nat) : Int)).toNat < p.L.length) = true := by
      rw [Int.toNat_natCast, decide_eq_true_eq]; omega
    have hlt' : decide (((i + 1 : Nat) : Int) < p.n) = true := by rw [decide_eq_true_eq]; omega
    rw [mn_round, hg, cmpL_eq, hin, hlt, hlt', wrap_succ (n := 67108865) (by omega) (by omega)]
    by_cases hs : a.sec < x.sec
    · refine ⟨.nrm, _, by simp only [Out.sel, hs, decide_true, Bool.and_self, if_true]; rfl, rfl, ⟨h1, h2, h3⟩, fun E => ?_⟩
      rw [if_pos hs]
      exact ⟨⟨⟨_, rfl, rfl⟩, ⟨_, rfl, rfl⟩, ⟨_, rfl, rfl⟩, ⟨_, rfl, rfl⟩, ⟨_, rfl, rfl⟩, trivial⟩, mn_re _ p a E⟩
    · refine ⟨.nrm, _, by simp only [Out.sel, hs, decide_false, Bool.and_self, if_true, Bool.false_eq_true, if_false]; rfl, rfl, ⟨h1, h2, h3⟩, fun E => ?_⟩
      rw [if_neg hs]
      exact ⟨⟨⟨_, rfl, rfl⟩, ⟨_, rfl, rfl⟩, ⟨_, rfl, rfl⟩, ⟨_, rfl, rfl⟩, ⟨_, rfl, rfl⟩, trivial⟩, mn_re _ p x E⟩
  · intro p x hinv
    obtain ⟨h1, h2, h3⟩ := hinv
    have hl : (p.L.drop 1).length + 1 = p.L.length := by rw [List.length_drop]; omega
    have hno : decide ((((p.L.drop 1).length + 1 : Nat) : Int) < p.n) = false := by rw [decide_eq_false_iff_not]; omega
    rw [mn_round, hno]
    exact ⟨.exit 0, _, by simp only [Out.sel, Bool.false_eq_true, if_false]; rfl, rfl, by simp, fun E => ⟨⟨⟨_, rfl, rfl⟩, ⟨_, rfl, rfl⟩, trivial⟩, mn_re _ p x E⟩⟩
def gMin : CanonFn := fun ro args H m => match args, H with
  | [.slr 0 n 0 q, .fn (.func 63) [] []], [(0, .rows (.entry L))] => bif ro 0 || !(Nat.beq m 1) then .bad else .ite (decide (n = L.length ∧ 1 ≤ L.length ∧ L.length ≤ 67108864)) (.ret (.rcd (.entry (minE L)), H, 1)) .bad
  | _, _ => .bad
theorem mn_walk (S : Stat) (L : List Entry) (n : Nat) (q : Bool) : trimF 1 (inline (withLoops (cMn (S.wt 0)) [(5, gMn0)]) 20 (fnOf 62) [.slr 0 n 0 q, .fn (.func 63) [] []] [(0, .rows (.entry L))] 1) =
    .ite (decide ((n : Int) < 1)) .bad (.ite (decide ((0 : Int) ≤ 0) && decide ((0 : Int) < n)) (.ite (decide ((0 : Int).toNat < L.length)) (.ite (decide (n = L.length ∧ 1 ≤ L.length ∧ L.length ≤ 67108864)) (.ret (.rcd (.entry (minG (L.getD 0 Entry.dflt) (L.drop 1))), [(0, .rows (.entry L))], 1)) .bad) .bad) .bad) := by kernel_rfl
theorem min_ok : CanonOk 62 gMin := by
  refine canon_ex cMn_fam Try.func62 (by kernel_rfl) [(5, gMn0)] (by kernel_rfl) (by kernel_rfl) (fun S i k g hg => ?_) ?_
  · match i, hg with
    | 0, hg => injection hg with hg; injection hg with h1 h2; subst h1 h2; exact gMn0_ok S _
    | i + 1, hg => simp at hg
  · intro S args H m r hr
    unfold gMin at hr
    split at hr <;> (try cases hr)
    rename_i n q L
    cases hb : (S.ro 0 || !(Nat.beq m 1)) with
    | true => rw [hb] at hr; cases hr
    | false =>
      rw [hb] at hr
      simp only [cond_false] at hr
      obtain ⟨hc, hr⟩ := Out.ite_bad hr
      simp only [Out.sel, Option.some.injEq] at hr
      subst hr
      simp only [Bool.or_eq_false_iff, Bool.not_eq_false'] at hb
      have := Nat.eq_of_beq_eq_true hb.2; subst this
      obtain ⟨rfl, h2, h3⟩ := of_decide_eq_true hc
      refine ⟨fun k x hk => ?_, rfl, rfl, rfl, rfl, Nat.le_refl _, 20, _, ?_, rfl, rfl, fun _ _ => rfl⟩
      · match k, hk with
        | 0, _ => exact hb.1
        | k + 1, hk => cases hk
      · rw [mn_walk]
        have e1 : decide ((L.length : Int) < 1) = false := by rw [decide_eq_false_iff_not]; omega
        have e2 : (decide ((0 : Int) ≤ 0) && decide ((0 : Int) < (L.length : Int))) = true := by simp; omega
        have e3 : decide ((0 : Int).toNat < L.length) = true := by rw [decide_eq_true_eq]; simp; omega
        have e4 : minG (L.getD 0 Entry.dflt) (L.drop 1) = minE L := by cases L with | nil => simp at h2 | cons x r => rfl
        rw [e1, e2, e3, hc, e4]
        simp [Out.sel]
end Go.Proofs.Ytfncoeoaniclmaa
