/- slices.Index, slices.Contains over ints. -/
import Derived.Test.YtfncoeoaniclmaaFor
import Derived.Test.YtfncoeoaniclmaaRd
set_option linter.unusedVariables false
set_option maxRecDepth 100000
namespace Go.Proofs.Ytfncoeoaniclmaa
open Go Go.RowKit

noncomputable def cIx (S : Stat) : Ctx := mkCtx S [] [] [] 20 2
theorem cIx_fam : Fam cIx := mk_fam (fun _ => []) (fun _ => []) 20 2 (fun S f g h => by cases h) (fun S f g h => by cases h)
def idxI (x : Int) : List Int → Nat → Int
  | [], _ => -1
  | e :: r, i => if x = e then (i : Int) else idxI x r (i + 1)
structure IxP where
  n : Nat
  q : Bool
  L : List Int
  x : Int
def ixTs : List Nat := [0, 1, 7, 8]
def ixSt (p : IxP) (i : SV) : St := ⟨[(0, [], .slr 0 p.n 0 p.q), (1, [], .v (.int .i64 p.x)), (7, [], .v (.int .i64 p.n)), (8, [], i)], [(0, .rows (.int .i64 p.L))], 1⟩
noncomputable def ixR (S : Stat) (p : IxP) (i : Nat) : Out (Ex × St) := trimO [0, 1, 4, 7, 8] 1 (exec (cIx (S.rd i 1)) (fnOf 69).ntmps 20 (lpOf 69 0) (ixSt p (.v (.int .i64 i))))
def ixT (p : IxP) (i : Nat) : List Bool := [decide ((i : Int) < p.n), decide (0 ≤ (i : Int)) && decide ((i : Int) < p.n), decide (i < p.L.length), p.x == p.L.getD i 0]
theorem ix_hit (S : Stat) (p : IxP) (i : Nat) : Out.way [true, true, true, true] (ixR S p i) = some (ixT p i, (.ret, ⟨[(0, [], .slr 0 p.n 0 p.q), (1, [], .v (.int .i64 p.x)), (4, [], .v (.int .i64 i)), (7, [], .v (.int .i64 p.n)), (8, [], .v (.int .i64 i))], [(0, .rows (.int .i64 p.L))], 1⟩)) := by kernel_rfl
theorem ix_miss (S : Stat) (p : IxP) (i : Nat) : Out.way [true, true, true, false] (ixR S p i) = some (ixT p i, (.nrm, ixSt p (.v (.int .i64 (IntKind.i64.wrap (i + 1)))))) := by kernel_rfl
theorem ix_over (S : Stat) (p : IxP) (i : Nat) : Out.way [false] (ixR S p i) = some ([decide ((i : Int) < p.n)], (.exit 0, ixSt p (.v (.int .i64 i)))) := by kernel_rfl
def ixOut (i : Int) : St := ⟨[(4, [], .v (.int .i64 i))], [], 1⟩
def ixFin (i : Int) : Ex × St := if i < 0 then (.exit 0, ⟨[], [], 1⟩) else (.ret, ixOut i)
def gIxL : LoopFn := onTrim 1 ixTs fun st => match st.slots, st.heap with
  | [(0, [], .slr 0 n 0 q), (1, [], .v (.int .i64 x)), (7, [], .v (.int .i64 m)), (8, [], .ki .i64 0)], [(0, .rows (.int .i64 L))] =>
      some (.ite (decide (L.length = n ∧ n ≤ 67108864) && decide (m = (n : Int))) (.ite (decide (idxI x L 0 < 0)) (.ret (.exit 0, ⟨[], [], 1⟩)) (.ret (.ret, ixOut (idxI x L 0)))) .bad)
  | _, _ => none
theorem runL_ix (x : Int) : ∀ (L : List Int) (i : Nat), runL (fun i (e : Int) (_ : Unit) => if x = e then Step.out .ret (ixOut i) else .go ()) (fun _ => (.exit 0, ⟨[], [], 1⟩)) L i () = ixFin (idxI x L i)
  | [], i => by simp [runL, idxI, ixFin]
  | e :: r, i => by
    by_cases h : x = e
    · have : ¬ (i : Int) < 0 := by omega
      simp [runL, idxI, h, ixFin, this]
    · rw [runL]
      simp only [if_neg h, idxI]
      exact runL_ix x r (i + 1)
theorem gIxL_ok (S : Stat) (ls : List (Nat × LoopFn)) : LoopOk Try.prog (withLoops (cIx (S.rd 0 1)) ls) (fnOf 69).ntmps (lpOf 69 0) gIxL := by
  refine loop_trim cIx_fam (nx := 1) (fuel := 20) (ts := [0, 1, 4, 7, 8]) (π := IxP) (α := Int) (τ := Unit) (S.rd 0 1) (fun _ i => S.rd i 1) (fun _ _ => rfl) (fun p => p.L) (fun p i _ => ixSt p (.v (.int .i64 i)))
    (fun p i _ => p.L.length = p.n ∧ p.n ≤ 67108864) (fun p i e _ => if p.x = e then Step.out .ret (ixOut i) else .go ()) (fun p _ => (.exit 0, ⟨[], [], 1⟩)) (fun _ _ _ => rfl) ?_ ?_ ?_
  · intro st o r ho hr
    split at ho
    · rename_i n q x m L hsl hhp
      injection ho with ho
      subst ho
      have hh := Out.ite_bad hr
      obtain ⟨h1, h2⟩ := Bool.and_eq_true_iff.1 hh.1
      obtain ⟨rfl, hlt⟩ := of_decide_eq_true h1
      have hm := of_decide_eq_true h2
      subst hm
      have hr2 : r = ixFin (idxI x L 0) := by
        have h2 := hh.2
        unfold ixFin
        by_cases h0 : idxI x L 0 < 0
        · simp only [h0, decide_true, Out.sel, if_true, Option.some.injEq] at h2 ⊢; exact h2.symm
        · simp only [h0, decide_false, Out.sel, Bool.false_eq_true, if_false, Option.some.injEq] at h2 ⊢; exact h2.symm
      refine ⟨⟨L.length, q, L, x⟩, (), ⟨rfl, hlt⟩, hr2.trans (runL_ix x L 0).symm, by rw [hr2]; unfold ixFin; split <;> exact Nat.le_refl _, fun E => ⟨?_, ?_⟩⟩
      · rw [hsl]; exact ⟨⟨_, rfl, rfl⟩, ⟨_, rfl, rfl⟩, ⟨_, rfl, rfl⟩, ⟨_, rfl, rfl⟩, trivial⟩
      · rw [hhp]; exact ⟨⟨_, rfl, rfl, trivial⟩, trivial⟩
    · cases ho
  · intro p i e _ he hinv
    obtain ⟨h1, h2⟩ := hinv
    have hi := (List.getElem?_eq_some_iff.1 he).1
    have e1 : p.L.getD i 0 = e := by simp [List.getD, he]
    have hii : (i : Int) < p.n := by omega
    by_cases h : p.x = e
    · refine ⟨.ret, _, Out.way_sel (ix_hit S p i) (by unfold ixT; rw [e1, decide_eq_true hii, decide_eq_true hi]; simp [h]), ?_⟩
      simp only [if_pos h]
      exact ⟨trivial, by simp, fun E => ⟨⟨⟨_, rfl, rfl⟩, trivial⟩, trivial⟩⟩
    · refine ⟨.nrm, _, Out.way_sel (ix_miss S p i) (by unfold ixT; rw [e1, decide_eq_true hii, decide_eq_true hi]; simp [h]), ?_⟩
      simp only [if_neg h]
      refine ⟨trivial, ⟨h1, h2⟩, fun E => ?_⟩
      rw [wrap_succ (n := 67108865) (by omega) (by omega)]
      exact ⟨⟨⟨_, rfl, rfl⟩, ⟨_, rfl, rfl⟩, ⟨_, rfl, rfl⟩, ⟨_, rfl, rfl⟩, trivial⟩, ⟨⟨_, rfl, rfl, trivial⟩, trivial⟩⟩
  · intro p _ hinv
    obtain ⟨h1, h2⟩ := hinv
    have hn : ¬ ((p.L.length : Nat) : Int) < p.n := by omega
    exact ⟨.exit 0, _, Out.way_sel (ix_over S p p.L.length) (by rw [decide_eq_false hn]), rfl, by simp, fun E => ⟨trivial, trivial⟩⟩
noncomputable def ixLs : List (Nat × LoopFn) := [(2, gIxL)]
def gIx : CanonFn := fun ro args H m => match args, H with
  | [.slr 0 n 0 q, .v (.int .i64 x)], [(0, .rows (.int .i64 L))] => .ite (decide (L.length = n ∧ n ≤ 67108864)) (.ret (.v (.int .i64 (idxI x L 0)), H, m)) .bad
  | _, _ => .bad
theorem ix_walk (S : Stat) (p : IxP) : valF 1 (inline (withLoops (cIx (S.rd 0 1)) ixLs) 20 (fnOf 69) [.slr 0 p.n 0 p.q, .v (.int .i64 p.x)] [(0, .rows (.int .i64 p.L))] 1) =
    .ite (decide (p.L.length = p.n ∧ p.n ≤ 67108864) && decide ((p.n : Int) = (p.n : Int))) (.ite (decide (idxI p.x p.L 0 < 0)) (.ret (.ki .i64 (-1))) (.ret (.v (.int .i64 (idxI p.x p.L 0))))) .bad := by kernel_rfl
theorem idxI_neg (x : Int) : ∀ (L : List Int) (i : Nat), idxI x L i < 0 → idxI x L i = -1
  | [], i, _ => rfl
  | e :: r, i, h => by
    unfold idxI at h ⊢
    split
    · rename_i he; rw [if_pos he] at h; omega
    · rename_i he; rw [if_neg he] at h; exact idxI_neg x r (i + 1) h
theorem index_ok : CanonOk 69 gIx := by
  refine canon_rd cIx_fam Try.func69 (by kernel_rfl) ixLs (by kernel_rfl) (by kernel_rfl) 1 (fun S i k g hg => by
    match i, hg with
    | 0, hg => injection hg with hg; injection hg with h1 h2; subst h1 h2; exact gIxL_ok S _
    | i + 1, hg => cases hg) ?_
  intro S args H m r hr
  unfold gIx at hr
  split at hr <;> (try cases hr)
  rename_i n q x L
  obtain ⟨hc, hr⟩ := Out.ite_bad hr
  simp only [Out.sel, Option.some.injEq] at hr
  subst hr
  have hc2 : (decide (L.length = n ∧ n ≤ 67108864) && decide ((n : Int) = (n : Int))) = true := by rw [hc]; simp
  refine ⟨rfl, rfl, fun E => ?_⟩
  by_cases h0 : idxI x L 0 < 0
  · refine ⟨S, 20, [.slr 0 n 0 q, .v (.int .i64 x)], [(0, .rows (.int .i64 L))], .ki .i64 (-1), rfl, by have := congrArg Out.sel (ix_walk S ⟨n, q, L, x⟩); dsimp only at this; rw [hc2, decide_eq_true h0] at this; exact this, by simp [SV.dens, SV.den], ⟨⟨_, rfl, rfl, trivial⟩, trivial⟩, ?_⟩
    simp [SV.den, idxI_neg _ _ _ h0]
  · exact ⟨S, 20, [.slr 0 n 0 q, .v (.int .i64 x)], [(0, .rows (.int .i64 L))], .v (.int .i64 (idxI x L 0)), rfl, by have := congrArg Out.sel (ix_walk S ⟨n, q, L, x⟩); dsimp only at this; rw [hc2, decide_eq_false h0] at this; exact this, by simp [SV.dens, SV.den], ⟨⟨_, rfl, rfl, trivial⟩, trivial⟩, by simp [SV.den]⟩
theorem idxI_mem (x : Int) : ∀ (L : List Int) (i : Nat), decide (idxI x L i ≥ 0) = L.contains x
  | [], i => by simp [idxI]
  | e :: r, i => by
    unfold idxI
    by_cases h : x = e
    · rw [if_pos h]; simp [h]
    · rw [if_neg h, idxI_mem x r (i + 1)]
      have : (x == e) = false := by simp [h]
      simp [List.contains_cons, this, h]
end Go.Proofs.Ytfncoeoaniclmaa
