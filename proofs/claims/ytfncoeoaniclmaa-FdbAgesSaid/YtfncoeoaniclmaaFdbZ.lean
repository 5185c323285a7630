/- fordlaw07.FdbAges: its walk, and why it holds. -/
import Derived.Test.YtfncoeoaniclmaaFdbW
set_option linter.unusedVariables false
set_option maxRecDepth 100000
namespace Go.Proofs.Ytfncoeoaniclmaa
open Go Go.RowKit

/-- one entry, that lives for some seconds -/
def oneT (A p s : Int) : PL := if s ≤ 0 then [] else [(A, 0, ⟨p, s⟩)]
theorem tickL_one {A p s : Int} (h : -4000000 < s ∧ s < 4000000) : tickL (oneT A p s) = oneT A p (s - 1) := by
  unfold oneT
  by_cases h0 : s ≤ 0
  · rw [if_pos h0, if_pos (by omega)]; rfl
  · rw [if_neg h0]
    have hw : IntKind.i64.wrap (s - 1) = s - 1 := by rw [IntKind.wrap_i64]; omega
    by_cases h1 : s - 1 ≤ 0
    · rw [if_pos h1]; simp [tickL, updE, tickP, hw, h1]
    · rw [if_neg h1]; simp [tickL, updE, tickP, hw, h1]
theorem hasK_one {A p s : Int} : hasK (oneT A p s) A = decide (0 < s) := by
  unfold oneT
  by_cases h0 : s ≤ 0
  · rw [if_pos h0]
    have : ¬ 0 < s := by omega
    simp [hasK, this]
  · rw [if_neg h0]
    have : 0 < s := by omega
    simp [hasK, this]
theorem shortL_one {A p s d : Int} (h : 0 < s) : shortL p d (oneT A p s) = oneT A p (if d < s then d else s) := by
  unfold oneT
  rw [if_neg (by omega)]
  by_cases h1 : d < s
  · rw [if_pos h1]
    by_cases h2 : d ≤ 0
    · simp [shortL, updE, shortP, h1, h2]
    · simp [shortL, updE, shortP, h1, h2]
  · rw [if_neg h1, if_neg (by omega)]
    have h3 : ¬ s ≤ 0 := by omega
    simp [shortL, updE, shortP, h1, h3]
theorem runL_goA {α : Type} (fin : Ex × St) : ∀ (l : List α) (i : Nat), runL (fun i (p : α) (x : Unit) => Step.go ()) (fun _ => fin) l i () = fin
  | [], i => rfl
  | p :: r, i => by rw [runL]; exact runL_goA fin r (i + 1)
def portH : PL → Int
  | (_, _, x) :: _ => x.port
  | [] => 0
structure AgP where
  m : Int
  s : Int
  a : Nat
  b : Bool
  n : Int
  p : Int
  cf : Nat
  cg : Nat
def agH (q : AgP) (lf lg : PL) : Heap := [(3, .agg [.v (.int .i64 4), .v (.int .i64 q.a), .mp 2]), (2, .tab (.place .u64 q.cg lg)), (1, .agg [.v (.int .i64 4), .v (.int .i64 q.a), .mp 0]), (0, .tab (.place .u64 q.cf lf))]
def agTs : List Nat := [1, 3, 9, 10, 11, 12, 14, 15, 16]
def agSt (q : AgP) (lf lg : PL) (k : SV) : St := ⟨[(1, [], .v (.int .u64 q.m)), (3, [], .v (.int .u8 q.s)), (9, [], .kb true), (10, [], .v (.int .i64 q.a)), (11, [], .ptr 1 0), (12, [], .ptr 3 0), (14, [], .v (.bool q.b)), (15, [], .v (.int .i64 q.n)), (16, [], k)], agH q lf lg, 4⟩
def mnI (s a : Int) : Int := if IntKind.i64.wrap s < a then IntKind.i64.wrap s else a
def agBad (m s a k : Int) (lf lg : PL) : Bool := !(hasK lf (addrF m)) || !(hasK lg (addrF m)) == decide (IntKind.i64.wrap (k - 1) < mnI s a)
theorem ag_round (S : Stat) (q : AgP) (lf lg : PL) (k : Int) : trimO agTs 4 (exec (cV (S.rd 0 0)) (fnOf 6).ntmps 20 (lpOf 6 0) (agSt q lf lg (.v (.int .i64 k)))) =
    .ite (decide (k ≤ q.a)) (.ite (agBad q.m q.s q.a k lf lg) (.ret (.ret, ⟨(1, [], .v (.int .u64 q.m)) :: (agSt q lf lg (.v (.int .i64 k))).slots.tail, agH q lf lg, 4⟩)) (.ret (.nrm, agSt q (tickL lf) (tickL lg) (.v (.int .i64 (IntKind.i64.wrap (k + 1)))))))
      (.ret (.exit 0, agSt q lf lg (.v (.int .i64 k)))) := by kernel_rfl
def agFin (q : AgP) : St := ⟨[(1, [], .v (.int .u64 q.m)), (9, [], .kb true), (11, [], .ptr 1 0), (14, [], .v (.bool q.b)), (15, [], .v (.int .i64 q.n))], [(1, .agg [.v (.int .i64 4), .v (.int .i64 q.a), .mp 0]), (0, .tab (.place .u64 q.cf []))], 4⟩
def agT (m s a : Int) (lf lg : PL) : Bool := decide (1 ≤ a ∧ a ≤ 64) && decide (0 ≤ s ∧ s < 256) && decide (lf = oneT (addrF m) (portH lf) a) && decide (lg = oneT (addrF m) (portH lf) (mnI s a))
noncomputable def gAg : LoopFn := onTrim 4 agTs fun st => match st.slots, st.heap with
  | [(1, [], .v (.int .u64 m)), (3, [], .v (.int .u8 s)), (9, [], .kb true), (10, [], .v (.int .i64 a)), (11, [], .ptr 1 0), (12, [], .ptr 3 0), (14, [], .v (.bool b)), (15, [], .v (.int .i64 n)), (16, [], .ki .i64 1)],
    [(3, .agg [.v (.int .i64 4), .v (.int .i64 a3), .mp 2]), (2, .tab (.place .u64 cg lg)), (1, .agg [.v (.int .i64 4), .v (.int .i64 a1), .mp 0]), (0, .tab (.place .u64 cf lf))] =>
      some (.ite (agT m s a lf lg && decide (a3 = a) && decide (a1 = a)) (.ret (.exit 0, agFin ⟨m, s, a.toNat, b, n, portH lf, cf, cg⟩)) .bad)
  | _, _ => none
theorem mnI_le (s a : Int) : mnI s a ≤ a := by
  unfold mnI
  split <;> omega
theorem mnI_ge {s a : Int} (hs : 0 ≤ s ∧ s < 256) (ha : 1 ≤ a ∧ a ≤ 64) : 0 ≤ mnI s a := by
  unfold mnI
  rw [IntKind.wrap_i64]
  split <;> omega
theorem gAg_ok (S : Stat) (ls : List (Nat × LoopFn)) : LoopOk Try.prog (withLoops (cV (S.rd 0 0)) ls) (fnOf 6).ntmps (lpOf 6 0) gAg := by
  refine loop_trim cV_fam (nx := 4) (fuel := 20) (ts := agTs) (π := AgP) (α := Nat) (τ := Unit) (S.rd 0 0) (fun _ _ => S.rd 0 0) (fun _ _ => rfl) (fun q => List.range q.a) (fun q i x => agSt q (oneT (addrF q.m) q.p (q.a - i)) (oneT (addrF q.m) q.p (mnI q.s q.a - i)) (.v (.int .i64 ((i + 1 : Nat) : Int))))
    (fun q i x => 1 ≤ q.a ∧ q.a ≤ 64 ∧ i ≤ q.a ∧ 0 ≤ mnI q.s q.a) (fun q i _ x => .go ()) (fun q x => (.exit 0, agFin q)) (fun _ _ _ => rfl) ?_ ?_ ?_
  · intro st o r ho hr
    split at ho
    · rename_i m s a b n a3 cg lg a1 cf lf hsl hhp
      injection ho with ho
      subst ho
      obtain ⟨hh, hr⟩ := Out.ite_bad hr
      simp only [agT, Bool.and_eq_true, decide_eq_true_eq] at hh
      obtain ⟨⟨⟨⟨⟨h1, h2⟩, h3⟩, h4⟩, rfl⟩, rfl⟩ := hh
      obtain rfl := Option.some.inj hr
      have ha : ((a1.toNat : Nat) : Int) = a1 := by omega
      refine ⟨⟨m, s, a1.toNat, b, n, portH lf, cf, cg⟩, (), ⟨by dsimp only; omega, by dsimp only; omega, by dsimp only; omega, by dsimp only; rw [ha]; exact mnI_ge h2 h1⟩, (runL_goA _ _ 0).symm, Nat.le_refl _, fun E => ⟨?_, ?_⟩⟩
      · rw [hsl]
        exact ⟨⟨_, rfl, rfl⟩, ⟨_, rfl, rfl⟩, ⟨_, rfl, rfl⟩, ⟨_, rfl, by simp [SV.den, ha]⟩, ⟨_, rfl, rfl⟩, ⟨_, rfl, rfl⟩, ⟨_, rfl, rfl⟩, ⟨_, rfl, rfl⟩, ⟨_, rfl, rfl⟩, trivial⟩
      · rw [hhp]
        refine ⟨⟨_, rfl, by simp [SV.cells, SV.cellss, ha], trivial⟩, ⟨_, rfl, ?_, trivial⟩, ⟨_, rfl, by simp [SV.cells, SV.cellss, ha], trivial⟩, ⟨_, rfl, ?_, trivial⟩, trivial⟩
        · dsimp only
          rw [ha, Int.natCast_zero, Int.sub_zero, ← h4]
        · dsimp only
          rw [ha, Int.natCast_zero, Int.sub_zero, ← h3]
    · cases ho
  · intro q i z x hp hinv
    obtain ⟨h1, h2, h3, h4⟩ := hinv
    have hi : i < q.a := by have := (List.getElem?_eq_some_iff.1 hp).1; simpa using this
    have hle := mnI_le q.s q.a
    have hk : IntKind.i64.wrap (((i + 1 : Nat) : Int) - 1) = i := by rw [IntKind.wrap_i64]; omega
    have hbad : agBad q.m q.s q.a ((i + 1 : Nat) : Int) (oneT (addrF q.m) q.p (q.a - i)) (oneT (addrF q.m) q.p (mnI q.s q.a - i)) = false := by
      unfold agBad
      rw [hasK_one, hasK_one, hk]
      have e1 : (0 : Int) < (q.a : Int) - i := by omega
      by_cases e2 : (i : Int) < mnI q.s q.a
      · have e3 : (0 : Int) < mnI q.s q.a - i := by omega
        simp [e1, e2, e3, hi]
      · have e3 : ¬ (0 : Int) < mnI q.s q.a - i := by omega
        simp [e1, e2, e3, hi]
    have ht : (((i + 1 : Nat) : Int) ≤ (q.a : Int)) := by omega
    refine ⟨.nrm, agSt q (tickL (oneT (addrF q.m) q.p (q.a - i))) (tickL (oneT (addrF q.m) q.p (mnI q.s q.a - i))) (.v (.int .i64 (IntKind.i64.wrap (((i + 1 : Nat) : Int) + 1)))), ?_, rfl, ⟨h1, h2, by omega, h4⟩, fun E => ?_⟩
    · rw [ag_round, hbad, decide_eq_true ht]; rfl
    · rw [wrap_succ (i := i + 1) (n := q.a + 1) (by omega) (by omega), tickL_one (by omega), tickL_one (by omega), show (q.a : Int) - i - 1 = q.a - ((i + 1 : Nat) : Int) from by omega, show mnI q.s q.a - i - 1 = mnI q.s q.a - ((i + 1 : Nat) : Int) from by omega]
      exact ⟨⟨⟨_, rfl, rfl⟩, ⟨_, rfl, rfl⟩, ⟨_, rfl, rfl⟩, ⟨_, rfl, rfl⟩, ⟨_, rfl, rfl⟩, ⟨_, rfl, rfl⟩, ⟨_, rfl, rfl⟩, ⟨_, rfl, rfl⟩, ⟨_, rfl, rfl⟩, trivial⟩, ⟨⟨_, rfl, by simp [SV.cells, SV.cellss], trivial⟩, ⟨_, rfl, rfl, trivial⟩, ⟨_, rfl, by simp [SV.cells, SV.cellss], trivial⟩, ⟨_, rfl, rfl, trivial⟩, trivial⟩⟩
  · intro q x hinv
    obtain ⟨h1, h2, h3, h4⟩ := hinv
    dsimp only
    rw [List.length_range]
    have ht : ¬ (((q.a + 1 : Nat) : Int) ≤ (q.a : Int)) := by omega
    refine ⟨.exit 0, _, by rw [ag_round, decide_eq_false ht]; rfl, rfl, by simp, fun E => ⟨⟨⟨_, rfl, rfl⟩, ⟨_, rfl, rfl⟩, ⟨_, rfl, rfl⟩, ⟨_, rfl, rfl⟩, ⟨_, rfl, rfl⟩, trivial⟩, ⟨⟨_, rfl, by simp [SV.cells, SV.cellss], trivial⟩, ⟨_, rfl, ?_, trivial⟩, trivial⟩⟩⟩
    rw [show oneT (addrF q.m) q.p ((q.a : Int) - q.a) = [] from by simp [oneT]]

noncomputable def agesLs : List (Nat × LoopFn) := [(13, gAg)]
theorem agesLs_ok (S : Stat) : ∀ i k g, agesLs[i]? = some (k, g) → LoopOk Try.prog (withLoops (cV (S.rd 0 0)) agesLs) (fnOf 6).ntmps (lpOf 6 i) g := by
  intro i k g h
  match i, h with
  | 0, h => injection h with h; injection h with h1 h2; subst h1 h2; exact gAg_ok S _
  | i + 1, h => cases h
noncomputable def agesO (S : Stat) (x m q s : Int) : Out SV := valF 0 (inline (withLoops (cV (S.rd 0 0)) agesLs) 20 (fnOf 6) [.v (.int .u8 x), .v (.int .u64 m), .v (.int .u8 q), .v (.int .u8 s)] [] 0)
def agA (x : Int) : Int := IntKind.i64.wrap (1 + IntKind.i64.wrap (x.tmod 64))
def agOut (x : Int) : Bool := decide (agA x < 1) || decide (agA x > 1000000)
def agLf (x m q : Int) : PL := learnL 4 (agA x) 0 [] m (IntKind.i64.wrap q)
def agOk (m q : Int) : Bool := decide (1 ≤ ([] : PL).length ∧ ([] : PL).length ≤ 67108864) || (badF m (IntKind.i64.wrap q) || !(fullF 4 [] m))
theorem ages_bad (S : Stat) (x m q s : Int) : Out.way [false, false, true, true, true, true, true] (agesO S x m q s) = some ([agOut x, agOut x, agOk m q, agOk m q, !(!(badF m (IntKind.i64.wrap q))), (!(!(badF m (IntKind.i64.wrap q)))) == true, decide ((agLf x m q).length ≤ 67108864)],
  .v (.bool (((agLf x m q).length : Int) == 0))) := by kernel_rfl
theorem ages_good (S : Stat) (x m q s : Int) : Out.way [false, false, true, true, false, true, true] (agesO S x m q s) = some ([agOut x, agOut x, agOk m q, agOk m q, !(!(badF m (IntKind.i64.wrap q))), decide ((agLf x m q).length ≤ 67108864),
  agT m s (agA x) (agLf x m q) (shortL (IntKind.i64.wrap q) (IntKind.i64.wrap s) (agLf x m q)) && decide (agA x = agA x) && decide (agA x = agA x)],
  .v (.bool ((!(badF m (IntKind.i64.wrap q)) && ((cntP (IntKind.i64.wrap q) (agLf x m q) : Nat) : Int) == 1) && !(hasK ([] : PL) (addrF m))))) := by kernel_rfl
theorem ages_true (S : Stat) (x m q s : Int) (hx : 0 ≤ x ∧ x < 256) (hq : 0 ≤ q ∧ q < 256) (hs : 0 ≤ s ∧ s < 256) : ∃ v, (agesO S x m q s).sel = some v ∧ ∀ S E, v.den S E = .bool true := by
  have ha : 1 ≤ agA x ∧ agA x ≤ 64 := by
    unfold agA
    rw [Int.tmod_eq_emod_of_nonneg hx.1, IntKind.wrap_i64, IntKind.wrap_i64]
    omega
  have hout : agOut x = false := by
    unfold agOut
    simp only [Bool.or_eq_false_iff, decide_eq_false_iff_not]
    omega
  have hfull : fullF 4 [] m = false := by simp [fullF]
  have hok : agOk m q = true := by unfold agOk; rw [hfull]; simp
  cases hb : badF m (IntKind.i64.wrap q) with
  | true =>
    have hl : agLf x m q = [] := by simp [agLf, learnL, hb]
    refine ⟨_, Out.way_sel (ages_bad S x m q s) (by rw [hl, hout, hok, hb]; rfl), fun S E => ?_⟩
    rw [hl]; rfl
  | false =>
    have hl : agLf x m q = oneT (addrF m) (IntKind.i64.wrap q) (agA x) := by
      unfold oneT
      rw [if_neg (by omega)]
      simp [agLf, learnL, hb, hfull, putK]
    have hp : portH (agLf x m q) = IntKind.i64.wrap q := by
      rw [hl]; unfold oneT; rw [if_neg (by omega)]; rfl
    have ht : agT m s (agA x) (agLf x m q) (shortL (IntKind.i64.wrap q) (IntKind.i64.wrap s) (agLf x m q)) = true := by
      unfold agT
      rw [hp, hl, shortL_one (by omega)]
      simp [ha, hs, mnI]
    have hlen : (agLf x m q).length = 1 := by rw [hl]; unfold oneT; rw [if_neg (by omega)]; rfl
    have hc : cntP (IntKind.i64.wrap q) (agLf x m q) = 1 := by
      rw [hl]; unfold oneT; rw [if_neg (by omega)]; simp [cntP]
    refine ⟨_, Out.way_sel (ages_good S x m q s) (by rw [hout, hok, hb, ht, hlen]; simp), fun S E => ?_⟩
    rw [hc, hb]; rfl
end Go.Proofs.Ytfncoeoaniclmaa
