/- fordlaw19.RelayNever: its walk, and why it holds. -/
import Derived.Test.YtfncoeoaniclmaaRlL
import Derived.Test.YtfncoeoaniclmaaOpenG
set_option linter.unusedVariables false
set_option maxRecDepth 100000
namespace Go.Proofs.Ytfncoeoaniclmaa
open Go Go.RowKit

noncomputable def psFw (S : Stat) : List (Nat × ReadFn) := (55, specRead (spc gRight) S 3) :: []
theorem psFw_ok (S : Stat) : ReadsOk S [] (psFw S) := .cons (specRead_ok (fun S' => spc_ok right_ok S') 3) <| .nil S []
noncomputable def psNv (S : Stat) : List (Nat × ReadFn) := auto psFw S 30 :: psRl S
theorem psNv_ok (S : Stat) : ReadsOk S [] (psNv S) := .auto psFw_ok <| psRl_ok S
noncomputable def cNv (S : Stat) : Ctx := mkCtx S [] (psNv S) (ssA S) 20 4
theorem cNv_fam : Fam cNv := fam_of psNv_ok ssA_ok
/-- a bridge that may be, of as many ports as are looked at -/
def fewF (q : InP) : Bool := ((((rightF q.b q.ps && decide ((q.ps.length : Int) ≥ 1)) && decide ((q.ps.length : Int) ≤ 8)) && decide ((q.os.length : Int) ≤ 20)) && decide ((q.fs.length : Int) ≤ 20))
structure NvP where
  q : InP
  n : Nat
  c : Nat
  l : PL
  L : List Frame
def NvP.hp (p : NvP) (r : Heap) : Heap := (6, .agg [.v (.int .i64 20), .v (.int .i64 300), .mp 5]) :: (5, .tab (.place .u64 p.c p.l)) :: (4, p.q.arg) :: p.q.heap ((3, .rows (.frame p.L)) :: r)
def nvSl (p : NvP) (i : SV) (r : Slots) : Slots := (1, [], .slr 3 p.n 3 false) :: (2, [], .ptr 4 0) :: (5, [], .kb true) :: (7, [], .ptr 6 0) :: (8, [], i) :: r
def nvTs : List Nat := [1, 2, 5, 7, 8]
def nvSt (p : NvP) (i : SV) : St := ⟨nvSl p i [], p.hp [], 7⟩
/-! ### all that comes out is as it may be -/
structure NiP where
  p : NvP
  i : Int
  f : Frame
  na : Nat
  A : List Int
def niTs : List Nat := [1, 2, 5, 7, 8, 9, 10, 12]
def niSt (q : NiP) (j : SV) (nx : Nat) : St := ⟨nvSl q.p (.v (.int .i64 q.i)) [(9, [], .ptr 7 0), (10, [], .slr 8 q.na 8 false), (12, [], j)], q.p.hp [(7, .rcd (.frame q.f)), (8, .rows (.int .i64 q.A))], nx⟩
noncomputable def niR (S : Stat) (q : NiP) (j : SV) (nx : Nat) : Out (Ex × St) := trimO niTs nx (exec (cNv S) (fnOf 10).ntmps 20 (lpOf 10 1) (niSt q j nx))
def inN (n : Nat) (i : Int) : Bool := decide (0 ≤ i) && decide (i < n)
def niX (q : NiP) (j : Nat) : Int := q.A.getD j 0
def niBad (q : NiP) (j : Nat) : Bool := (decide (niX q j < 0) || decide (niX q j ≥ q.p.q.ps.length)) || (niX q j == q.f.in_)
def niUp (q : NiP) (j k : Nat) : Bool := decide (niX q j ≤ niX q k)
def niOk (q : NiP) (j : Nat) : Bool := inN q.na j && decide (j < q.A.length)
def niPt (q : NiP) (j : Nat) : Bool := inN q.p.q.ps.length (niX q j) && decide ((niX q j).toNat < q.p.q.ps.length)
def niSh (q : NiP) (j : Nat) : Bool := !((q.p.q.ps.getD (niX q j).toNat Port.dflt).enabled) || !((q.p.q.ps.getD (niX q j).toNat Port.dflt).flags.forwarding)
theorem ni_first (S : Stat) (k : Int) (q : NiP) : Out.way [true, true, false, true, false] (niR (S.rd k 4) q (.ki .i64 0) 10) = some ([decide ((0 : Int) < q.na), inN q.na 0 && (decide (0 < q.A.length) && (inN q.na 0 && (decide (0 < q.A.length) && (inN q.na 0 && decide (0 < q.A.length))))), niBad q 0 || false,
  inN q.na 0 && (decide (0 < q.A.length) && (inN q.p.q.ps.length (niX q 0) && (decide ((niX q 0).toNat < q.p.q.ps.length) && (inN q.na 0 && (decide (0 < q.A.length) && (inN q.p.q.ps.length (niX q 0) && decide ((niX q 0).toNat < q.p.q.ps.length))))))), niSh q 0],
  (.nrm, niSt q (.ki .i64 1) 10)) := by kernel_rfl
theorem ni_next (S : Stat) (k : Int) (q : NiP) (j : Nat) : Out.way [true, true, false, true, false] (niR (S.rd k 4) q (.v (.int .i64 ((j + 1 : Nat) : Int))) 10) = some ([decide (((j + 1 : Nat) : Int) < q.na), inN q.na ((j + 1 : Nat) : Int) && (decide (j + 1 < q.A.length) && (inN q.na ((j + 1 : Nat) : Int) && (decide (j + 1 < q.A.length) && (inN q.na ((j + 1 : Nat) : Int) && (decide (j + 1 < q.A.length) && (inN q.na ((j + 1 : Nat) : Int) && (decide (j + 1 < q.A.length) && (inN q.na (IntKind.i64.wrap (((j + 1 : Nat) : Int) - 1)) && decide ((IntKind.i64.wrap (((j + 1 : Nat) : Int) - 1)).toNat < q.A.length))))))))),
  niBad q (j + 1) || (decide (((j + 1 : Nat) : Int) > 0) && niUp q (j + 1) (IntKind.i64.wrap (((j + 1 : Nat) : Int) - 1)).toNat),
  inN q.na ((j + 1 : Nat) : Int) && (decide (j + 1 < q.A.length) && (inN q.p.q.ps.length (niX q (j + 1)) && (decide ((niX q (j + 1)).toNat < q.p.q.ps.length) && (inN q.na ((j + 1 : Nat) : Int) && (decide (j + 1 < q.A.length) && (inN q.p.q.ps.length (niX q (j + 1)) && decide ((niX q (j + 1)).toNat < q.p.q.ps.length))))))), niSh q (j + 1)],
  (.nrm, niSt q (.v (.int .i64 (IntKind.i64.wrap (((j + 1 : Nat) : Int) + 1)))) 10)) := by kernel_rfl
theorem ni_over0 (S : Stat) (k : Int) (q : NiP) : Out.way [false] (niR (S.rd k 4) q (.ki .i64 0) 10) = some ([decide ((0 : Int) < q.na)], (.exit 2, niSt q (.ki .i64 0) 10)) := by kernel_rfl
theorem ni_over (S : Stat) (k : Int) (q : NiP) (j : Nat) : Out.way [false] (niR (S.rd k 4) q (.v (.int .i64 ((j + 1 : Nat) : Int))) 10) = some ([decide (((j + 1 : Nat) : Int) < q.na)], (.exit 2, niSt q (.v (.int .i64 ((j + 1 : Nat) : Int))) 10)) := by kernel_rfl
theorem ni_none (S : Stat) (k : Int) (q : NiP) : Out.way [false] (niR (S.rd k 4) q (.ki .i64 0) 9) = some ([decide ((0 : Int) < q.na)], (.exit 2, niSt q (.ki .i64 0) 9)) := by kernel_rfl
def niFin (q : NiP) (nx : Nat) : St := ⟨nvSl q.p (.v (.int .i64 q.i)) [], q.p.hp [], nx⟩
/-- all are as they may be -/
def niGood (q : NiP) : Bool := (List.range q.A.length).all fun j => (!(niBad q j) && (Nat.beq j 0 || !(niUp q j (j - 1)))) && !(niSh q j)
def niOf (st : St) : Option (NiP × Bool) := match st.slots, st.heap with
  | [(1, [], .slr 3 n 3 false), (2, [], .ptr 4 0), (5, [], .kb true), (7, [], .ptr 6 0), (8, [], .v (.int .i64 i)), (9, [], .ptr 7 0), (10, [], .slr 8 na 8 false), (12, [], .ki .i64 0)], h => (match h.get 0, h.get 1, h.get 2, h.get 3, h.get 4, h.get 5, h.get 6, h.get 7, h.get 8 with
    | some (.rows (.port ps)), some (.rows (.sent os)), some (.rows (.int .i64 fs)), some (.rows (.frame L)), some bx, some (.tab (.place .u64 c l)), some (.agg [.v (.int .i64 X), .v (.int .i64 Y), .mp 5]), some (.rcd (.frame f)), some (.rows (.int .i64 A)) => (match unBri bx with
      | some (b, .slr 0 n0 0 false, .slr 1 n1 1 false, .slr 2 n2 2 false) => some (⟨⟨⟨b, ps, os, fs⟩, n, c, l, L⟩, i, f, na, A⟩, decide (n0 = ps.length ∧ n1 = os.length ∧ n2 = fs.length ∧ A.length = na ∧ na ≤ 67108864 ∧ X = 20 ∧ Y = 300))
      | _ => none)
    | _, _, _, _, _, _, _, _, _ => none)
  | _, _ => none
theorem niOf_ok {st : St} {q : NiP} (h : niOf st = some (q, true)) (nx : Nat) (S : Stat) (E : Env) : (q.A.length = q.na ∧ q.na ≤ 67108864) ∧ ReD S st S (niSt q (.ki .i64 0) nx) E := by
  unfold niOf at h
  split at h
  · rename_i n i na hsl
    split at h
    · rename_i ps os fs L bx c l X Y f A h0 h1 h2 h3 h4 h5 h6 h7 h8
      split at h
      · rename_i b n0 n1 n2 hb
        obtain ⟨rfl, _, _⟩ := unBri_ok hb
        simp only [Option.some.injEq, Prod.mk.injEq, decide_eq_true_eq] at h
        obtain ⟨rfl, rfl, rfl, rfl, g1, g2, rfl, rfl⟩ := h
        refine ⟨⟨g1, g2⟩, ?_, ?_⟩
        · rw [hsl]
          exact ⟨⟨_, rfl, rfl⟩, ⟨_, rfl, rfl⟩, ⟨_, rfl, rfl⟩, ⟨_, rfl, rfl⟩, ⟨_, rfl, rfl⟩, ⟨_, rfl, rfl⟩, ⟨_, rfl, rfl⟩, ⟨_, rfl, rfl⟩, trivial⟩
        · exact ⟨⟨_, h6, rfl, trivial⟩, ⟨_, h5, rfl, trivial⟩, ⟨_, h4, rfl, trivial⟩, ⟨_, h0, rfl, trivial⟩, ⟨_, h1, rfl, trivial⟩, ⟨_, h2, rfl, trivial⟩, ⟨_, h3, rfl, trivial⟩, ⟨_, h7, rfl, trivial⟩, ⟨_, h8, rfl, trivial⟩, trivial⟩
      · cases h
    · cases h
  · cases h
noncomputable def gNi0 : LoopFn := onTrim 10 niTs fun st => match niOf st with
  | some (q, ok) => some (.ite (ok && niGood q) (.ret (.exit 2, niFin q 10)) .bad)
  | none => none
noncomputable def gNi1 : LoopFn := onTrim 9 niTs fun st => match niOf st with
  | some (q, ok) => some (.ite (ok && Nat.beq q.A.length 0) (.ret (.exit 2, niFin q 9)) .bad)
  | none => none
theorem ni_re (S : Stat) (q : NiP) (v : SV) (nx : Nat) (E : Env) : ReD S (niSt q v nx) S (niSt q v nx) E :=
  ⟨⟨⟨_, rfl, rfl⟩, ⟨_, rfl, rfl⟩, ⟨_, rfl, rfl⟩, ⟨_, rfl, rfl⟩, ⟨_, rfl, rfl⟩, ⟨_, rfl, rfl⟩, ⟨_, rfl, rfl⟩, ⟨_, rfl, rfl⟩, trivial⟩, ⟨_, rfl, rfl, trivial⟩, ⟨_, rfl, rfl, trivial⟩, ⟨_, rfl, rfl, trivial⟩, ⟨_, rfl, rfl, trivial⟩, ⟨_, rfl, rfl, trivial⟩, ⟨_, rfl, rfl, trivial⟩, ⟨_, rfl, rfl, trivial⟩, ⟨_, rfl, rfl, trivial⟩, ⟨_, rfl, rfl, trivial⟩, trivial⟩
theorem ni_fin (S : Stat) (q : NiP) (v : SV) (nx : Nat) (E : Env) : ReD S (niSt q v nx) S (niFin q nx) E :=
  ⟨⟨⟨_, rfl, rfl⟩, ⟨_, rfl, rfl⟩, ⟨_, rfl, rfl⟩, ⟨_, rfl, rfl⟩, ⟨_, rfl, rfl⟩, trivial⟩, ⟨_, rfl, rfl, trivial⟩, ⟨_, rfl, rfl, trivial⟩, ⟨_, rfl, rfl, trivial⟩, ⟨_, rfl, rfl, trivial⟩, ⟨_, rfl, rfl, trivial⟩, ⟨_, rfl, rfl, trivial⟩, ⟨_, rfl, rfl, trivial⟩, trivial⟩
theorem gNi0_ok (S : Stat) (ls : List (Nat × LoopFn)) : LoopOk Try.prog (withLoops (cNv (S.rd 0 4)) ls) (fnOf 10).ntmps (lpOf 10 1) gNi0 := by
  refine loop_trim cNv_fam (nx := 10) (fuel := 20) (ts := niTs) (π := NiP) (α := Int) (τ := Unit) (S.rd 0 4) (fun _ i => S.rd 0 4) (fun _ _ => rfl) (fun q => q.A) (fun q j _ => niSt q (biJ j) 10)
    (fun q j _ => q.A.length = q.na ∧ q.na ≤ 67108864 ∧ niGood q = true) (fun q j _ _ => .go ()) (fun q _ => (.exit 2, niFin q 10)) (fun _ _ _ => rfl) ?_ ?_ ?_
  · intro st o r ho hr
    split at ho
    · rename_i q ok hq
      injection ho with ho
      subst ho
      have hh := Out.ite_bad hr
      obtain ⟨hh1, hh2⟩ := Bool.and_eq_true_iff.1 hh.1
      obtain rfl := Option.some.inj hh.2
      subst hh1
      obtain ⟨g, _⟩ := niOf_ok hq 10 S E0
      exact ⟨q, (), ⟨g.1, g.2, hh2⟩, (runL_goU _ _ 0).symm, Nat.le_refl _, fun E => (niOf_ok hq 10 _ E).2⟩
    · cases ho
  · intro q j e s he hinv
    obtain ⟨h1, h2, h3⟩ := hinv
    have hj := (List.getElem?_eq_some_iff.1 he).1
    have hg := List.all_eq_true.1 h3 j (List.mem_range.2 hj)
    simp only [Bool.and_eq_true, Bool.not_eq_true', Bool.or_eq_true] at hg
    obtain ⟨⟨hb, hu⟩, hsh⟩ := hg
    have hpt : inN q.p.q.ps.length (niX q j) = true ∧ (niX q j).toNat < q.p.q.ps.length := by
      unfold niBad at hb
      simp only [Bool.or_eq_false_iff, decide_eq_false_iff_not] at hb
      unfold inN
      simp only [Bool.and_eq_true, decide_eq_true_eq]
      omega
    cases j with
    | zero =>
      refine ⟨.nrm, niSt q (.ki .i64 1) 10, ?_, rfl, ⟨h1, h2, h3⟩, fun E => ⟨⟨⟨_, rfl, rfl⟩, ⟨_, rfl, rfl⟩, ⟨_, rfl, rfl⟩, ⟨_, rfl, rfl⟩, ⟨_, rfl, rfl⟩, ⟨_, rfl, rfl⟩, ⟨_, rfl, rfl⟩, ⟨_, rfl, rfl⟩, trivial⟩, (ni_re _ q (.ki .i64 1) 10 E).2⟩⟩
      have hna : (0 : Int) < q.na := by omega
      have hi : inN q.na 0 = true := by unfold inN; rw [decide_eq_true hna]; rfl
      refine Out.way_sel (ni_first S 0 q) ?_
      rw [hb, hsh, hpt.1, decide_eq_true hpt.2, hi, decide_eq_true hna, decide_eq_true hj]
      simp
    | succ j =>
      refine ⟨.nrm, niSt q (.v (.int .i64 (IntKind.i64.wrap (((j + 1 : Nat) : Int) + 1)))) 10, ?_, rfl, ⟨h1, h2, h3⟩, fun E => ?_⟩
      · have hna : ((j + 1 : Nat) : Int) < q.na := by omega
        have hw : IntKind.i64.wrap (((j + 1 : Nat) : Int) - 1) = (j : Int) := by rw [IntKind.wrap_i64]; omega
        have hup : niUp q (j + 1) j = false := by
          rcases hu with h | h
          · simp at h
          · simpa using h
        have hi1 : inN q.na ((j + 1 : Nat) : Int) = true := by unfold inN; rw [decide_eq_true hna]; simp; omega
        have hi2 : inN q.na (j : Int) = true := by
          have : (j : Int) < q.na := by omega
          unfold inN; rw [decide_eq_true this]; simp
        have hj2 : j < q.A.length := by omega
        refine Out.way_sel (ni_next S 0 q j) ?_
        rw [hw, Int.toNat_natCast, hb, hsh, hpt.1, decide_eq_true hpt.2, hup, hi1, hi2, decide_eq_true hj, decide_eq_true hna, decide_eq_true hj2]
        simp
      · rw [wrap_succ (n := 67108865) (by omega) (by omega)]
        exact ni_re _ q (.v (.int .i64 ((j + 1 + 1 : Nat) : Int))) 10 E
  · intro q s hinv
    obtain ⟨h1, h2, h3⟩ := hinv
    cases hn : q.A.length with
    | zero =>
      have hna : ¬ (0 : Int) < q.na := by omega
      exact ⟨.exit 2, niSt q (.ki .i64 0) 10, Out.way_sel (ni_over0 S 0 q) (by rw [decide_eq_false hna]), rfl, by simp, fun E => ni_fin _ q _ 10 E⟩
    | succ j =>
      have hna : ¬ ((j + 1 : Nat) : Int) < q.na := by omega
      exact ⟨.exit 2, niSt q (.v (.int .i64 ((j + 1 : Nat) : Int))) 10, Out.way_sel (ni_over S 0 q j) (by rw [decide_eq_false hna]), rfl, by simp, fun E => ni_fin _ q _ 10 E⟩
theorem gNi1_ok (S : Stat) (ls : List (Nat × LoopFn)) : LoopOk Try.prog (withLoops (cNv (S.rd 0 4)) ls) (fnOf 10).ntmps (lpOf 10 1) gNi1 := by
  refine loop_trim cNv_fam (nx := 9) (fuel := 20) (ts := niTs) (π := NiP) (α := Unit) (τ := Unit) (S.rd 0 4) (fun _ i => S.rd 0 4) (fun _ _ => rfl) (fun q => []) (fun q j _ => niSt q (.ki .i64 0) 9)
    (fun q j _ => q.A.length = q.na ∧ q.A.length = 0) (fun q j _ _ => .go ()) (fun q _ => (.exit 2, niFin q 9)) (fun _ _ _ => rfl) ?_ ?_ ?_
  · intro st o r ho hr
    split at ho
    · rename_i q ok hq
      injection ho with ho
      subst ho
      have hh := Out.ite_bad hr
      obtain ⟨hh1, hh2⟩ := Bool.and_eq_true_iff.1 hh.1
      obtain rfl := Option.some.inj hh.2
      subst hh1
      obtain ⟨g, _⟩ := niOf_ok hq 9 S E0
      exact ⟨q, (), ⟨g.1, Nat.eq_of_beq_eq_true hh2⟩, (runL_goU _ _ 0).symm, Nat.le_refl _, fun E => (niOf_ok hq 9 _ E).2⟩
    · cases ho
  · intro q j e s he hinv
    simp at he
  · intro q s hinv
    have hna : ¬ (0 : Int) < q.na := by have := hinv.1; have := hinv.2; omega
    exact ⟨.exit 2, niSt q (.ki .i64 0) 9, Out.way_sel (ni_none S 0 q) (by rw [decide_eq_false hna]), rfl, by simp, fun E => ni_fin _ q _ 9 E⟩
def orL (f g : LoopFn) : LoopFn := fun st => match f st with | some o => some o | none => g st
theorem orL_ok {P : Program} {c : Ctx} {n : Nat} {b : Code} {f g : LoopFn} (hf : LoopOk P c n b f) (hg : LoopOk P c n b g) : LoopOk P c n b (orL f g) := by
  intro st o h
  unfold orL at h
  split at h
  · rename_i o' ho
    injection h with h; subst h
    exact hf st _ ho
  · exact hg st o h
noncomputable def gNi : LoopFn := orL gNi0 gNi1
theorem gNi_ok (S : Stat) (ls : List (Nat × LoopFn)) : LoopOk Try.prog (withLoops (cNv (S.rd 0 4)) ls) (fnOf 10).ntmps (lpOf 10 1) gNi := orL_ok (gNi0_ok S ls) (gNi1_ok S ls)
/-! ### frame by frame -/
def NvP.with (p : NvP) (s : Nat × PL) : NvP := ⟨p.q, p.n, s.1, s.2, p.L⟩
def nvT (p : NvP) (f : Frame) : OtP := ⟨p.q.b, false, p.q.ps.length, p.q.ps, 20, 300, p.c, p.l, f.in_, f.src, f.dst⟩
def nvN (p : NvP) (f : Frame) : NvP := p.with ((nvT p f).C, (nvT p f).L)
noncomputable def nvR (S : Stat) (p : NvP) (i : Nat) : Out (Ex × St) := trimO nvTs 7 (exec (withLoops (cNv (S.rd 0 4)) [(20, gNi)]) (fnOf 10).ntmps 20 (lpOf 10 0) (nvSt p (.v (.int .i64 i))))
def nvQ (p : NvP) (i : Nat) (f : Frame) : NiP := ⟨nvN p f, i, f, (nvT p f).to.length, (nvT p f).to⟩
def nvZ (q : NiP) : Bool := decide (q.p.q.ps.length = q.p.q.ps.length ∧ q.p.q.os.length = q.p.q.os.length ∧ q.p.q.fs.length = q.p.q.fs.length ∧ q.A.length = q.A.length ∧ q.A.length ≤ 67108864 ∧ (20 : Int) = 20 ∧ (300 : Int) = 300)
def nvT0 (p : NvP) (i : Nat) (f : Frame) : List Bool := [decide ((i : Int) < p.n), inN p.n i, decide (i < p.L.length), (nvT p f).ok, decide (((nvT p f).to.length : Int) > 0) && (decide (f.in_ < 0) || decide (f.in_ ≥ p.q.ps.length)), decide (((nvT p f).to.length : Int) > 0)]
theorem nv_some (S : Stat) (p : NvP) (i : Nat) (f : Frame) (hf : p.L.getD i Frame.dflt = f) : Out.way [true, true, true, true, false, true, true, true, false, true] (nvR S p i) = some (nvT0 p i f ++ [inN p.q.ps.length f.in_, decide (f.in_.toNat < p.q.ps.length),
    !((p.q.ps.getD f.in_.toNat Port.dflt).enabled) || !((p.q.ps.getD f.in_.toNat Port.dflt).flags.forwarding), nvZ (nvQ p i f) && niGood (nvQ p i f)], (.nrm, nvSt (nvN p f) (.v (.int .i64 (IntKind.i64.wrap (i + 1)))))) := by subst hf; kernel_rfl
theorem nv_none (S : Stat) (p : NvP) (i : Nat) (f : Frame) (hf : p.L.getD i Frame.dflt = f) : Out.way [true, true, true, true, false, false, true] (nvR S p i) = some (nvT0 p i f ++ [nvZ (nvQ p i f) && Nat.beq (nvQ p i f).A.length 0], (.nrm, nvSt (nvN p f) (.v (.int .i64 (IntKind.i64.wrap (i + 1)))))) := by subst hf; kernel_rfl
theorem nv_over (S : Stat) (p : NvP) (i : Nat) : Out.way [false] (nvR S p i) = some ([decide ((i : Int) < p.n)], (.exit 0, nvSt p (.v (.int .i64 i)))) := by kernel_rfl
/-! ### why -/
theorem oth_ge {c : Int} {L : List Port} {i : Nat} {x : Int} (h : x ∈ oth c i L) : (i : Int) ≤ x := by
  obtain ⟨j, _, rfl, _⟩ := oth_mem.1 h
  omega
theorem oth_up {c : Int} : ∀ (L : List Port) (i : Nat), (oth c i L).Pairwise (· < ·)
  | [], i => by simp [oth]
  | p :: r, i => by
    rw [oth]
    split
    · refine List.pairwise_cons.2 ⟨fun x hx => ?_, oth_up r (i + 1)⟩
      have := oth_ge hx
      omega
    · exact oth_up r (i + 1)
/-- where a frame goes: to ports that are open, in order -/
theorem to_good (p : OtP) : p.to = [] ∨ (p.dead = false ∧ openP p.pt = true ∧ (∀ x ∈ p.to, 0 ≤ x ∧ x < p.ps.length ∧ x ≠ p.i ∧ openP (p.ps.getD x.toNat Port.dflt) = true) ∧ p.to.Pairwise (· < ·)) := by
  have key : ∀ x ∈ oth p.i 0 p.ps, 0 ≤ x ∧ x < p.ps.length ∧ x ≠ p.i ∧ openP (p.ps.getD x.toNat Port.dflt) = true := by
    intro x hx
    obtain ⟨j, hj, rfl, h1, h2⟩ := oth_mem.1 hx
    refine ⟨by omega, by omega, h1, ?_⟩
    rw [show ((0 + j : Nat) : Int).toNat = j from by omega]
    exact h2
  cases hd : p.dead with
  | true => exact .inl (by unfold OtP.to; rw [hd]; rfl)
  | false =>
    cases ho : openP p.pt with
    | false => exact .inl (by unfold OtP.to; rw [hd, ho]; rfl)
    | true =>
      have e : p.to = if otAll p p.L = true then oth p.i 0 p.ps else if otHas p p.L (oth p.i 0 p.ps) = true then [portF p.L p.d] else [] := by
        unfold OtP.to; rw [hd, ho]; simp
      rw [e]
      split
      · exact .inr ⟨rfl, rfl, key, oth_up _ _⟩
      · split
        · rename_i h
          unfold otHas at h
          rw [idxI_mem] at h
          refine .inr ⟨rfl, rfl, fun x hx => ?_, by simp⟩
          rw [List.mem_singleton.1 hx]
          exact key _ (List.contains_iff_mem.1 h)
        · exact .inl rfl
theorem to_len (p : OtP) : p.to.length ≤ p.ps.length := by
  have ho : ∀ (L : List Port) (i : Nat), (oth p.i i L).length ≤ L.length := by
    intro L
    induction L with
    | nil => intro i; simp [oth]
    | cons x r ih =>
      intro i
      rw [oth]
      split
      · simpa using ih (i + 1)
      · exact Nat.le_succ_of_le (ih (i + 1))
  unfold OtP.to
  split
  · exact Nat.zero_le _
  · split
    · exact Nat.zero_le _
    · split
      · exact ho _ _
      · split
        · rename_i h
          unfold otHas at h
          rw [idxI_mem] at h
          have h1 := List.contains_iff_mem.1 h
          have h2 := ho p.ps 0
          have : 0 < (oth p.i 0 p.ps).length := List.length_pos_of_mem h1
          simp only [List.length_singleton]
          omega
        · exact Nat.zero_le _
theorem ni_good {p : NvP} {i : Nat} {f : Frame} : niGood (nvQ p i f) = true := by
  unfold niGood
  rw [List.all_eq_true]
  intro j hj
  have hj : j < (nvT p f).to.length := List.mem_range.1 hj
  rcases to_good (nvT p f) with h | ⟨_, _, h1, h2⟩
  · rw [h] at hj; cases hj
  · have hx : niX (nvQ p i f) j = (nvT p f).to[j] := by
      show (nvT p f).to.getD j 0 = _
      simp [List.getD, List.getElem?_eq_getElem hj]
    obtain ⟨a1, a2, a3, a4⟩ := h1 _ (List.getElem_mem hj)
    have hb : niBad (nvQ p i f) j = false := by
      unfold niBad
      rw [hx]
      simp only [Bool.or_eq_false_iff, decide_eq_false_iff_not, beq_eq_false_iff_ne]
      exact ⟨⟨by omega, by show ¬ (nvT p f).to[j] ≥ ((nvT p f).ps.length : Int); omega⟩, a3⟩
    have hsh : niSh (nvQ p i f) j = false := by
      unfold niSh
      rw [hx]
      unfold openP at a4
      simp only [Bool.and_eq_true] at a4
      have e1 : (((nvQ p i f).p.q.ps.getD ((nvT p f).to[j]).toNat Port.dflt).enabled) = true := a4.1
      have e2 : (((nvQ p i f).p.q.ps.getD ((nvT p f).to[j]).toNat Port.dflt).flags.forwarding) = true := a4.2
      rw [e1, e2]; rfl
    have hup : (Nat.beq j 0 || !(niUp (nvQ p i f) j (j - 1))) = true := by
      cases j with
      | zero => rfl
      | succ j =>
        have hj' : j < (nvT p f).to.length := by omega
        have hx' : niX (nvQ p i f) j = (nvT p f).to[j] := by
          show (nvT p f).to.getD j 0 = _
          simp [List.getD, List.getElem?_eq_getElem hj']
        have hlt := List.pairwise_iff_getElem.1 h2 j (j + 1) hj' hj (by omega)
        have : niUp (nvQ p i f) (j + 1) j = false := by
          unfold niUp
          rw [hx, hx']
          simp only [decide_eq_false_iff_not]
          omega
        show (Nat.beq (j + 1) 0 || !(niUp (nvQ p i f) (j + 1) j)) = true
        rw [this]; simp
    rw [hb, hsh, hup]; rfl
/-- what is learned -/
theorem tab_L {p : OtP} (h : TabOk p.x p.y p.l) (hx : 1 ≤ p.x) (hy : 1 ≤ p.y) : TabOk p.x p.y p.L := by
  unfold OtP.L
  split
  · exact h
  · split
    · exact h.learn hx hy _ _ _
    · exact h
theorem ok_of {p : OtP} (h : TabOk p.x p.y p.l) (hx : 1 ≤ p.x ∧ p.x ≤ 67108864) (hn : p.ps.length = p.n ∧ p.n ≤ 67108864) : p.ok = true := by
  unfold OtP.ok OtP.go
  rw [learn_go h hx, decide_eq_true hn]
  simp
def nvFin : St := ⟨[(5, [], .kb true)], [], 7⟩
def nvOf (st : St) : Option (NvP × Bool) := match st.slots, st.heap with
  | [(1, [], .slr 3 n 3 false), (2, [], .ptr 4 0), (5, [], .kb true), (7, [], .ptr 6 0), (8, [], .ki .i64 0)], h => (match h.get 0, h.get 1, h.get 2, h.get 3, h.get 4, h.get 5, h.get 6 with
    | some (.rows (.port ps)), some (.rows (.sent os)), some (.rows (.int .i64 fs)), some (.rows (.frame L)), some bx, some (.tab (.place .u64 c [])), some (.agg [.ki .i64 X, .ki .i64 Y, .mp 5]) => (match unBri bx with
      | some (b, .slr 0 n0 0 false, .slr 1 n1 1 false, .slr 2 n2 2 false) => some (⟨⟨b, ps, os, fs⟩, n, c, [], L⟩, decide (n0 = ps.length ∧ n1 = os.length ∧ n2 = fs.length ∧ X = 20 ∧ Y = 300))
      | _ => none)
    | _, _, _, _, _, _, _ => none)
  | _, _ => none
theorem nv_re (S : Stat) (p : NvP) (v : SV) (E : Env) : ReD S (nvSt p v) S (nvSt p v) E :=
  ⟨⟨⟨_, rfl, rfl⟩, ⟨_, rfl, rfl⟩, ⟨_, rfl, rfl⟩, ⟨_, rfl, rfl⟩, ⟨_, rfl, rfl⟩, trivial⟩, ⟨_, rfl, rfl, trivial⟩, ⟨_, rfl, rfl, trivial⟩, ⟨_, rfl, rfl, trivial⟩, ⟨_, rfl, rfl, trivial⟩, ⟨_, rfl, rfl, trivial⟩, ⟨_, rfl, rfl, trivial⟩, ⟨_, rfl, rfl, trivial⟩, trivial⟩
theorem nvOf_ok {st : St} {p : NvP} (h : nvOf st = some (p, true)) (S : Stat) (E : Env) : p.l = [] ∧ ReD S st S (nvSt (p.with (p.c, p.l)) (.v (.int .i64 0))) E := by
  unfold nvOf at h
  split at h
  · rename_i n hsl
    split at h
    · rename_i ps os fs L bx c X Y h0 h1 h2 h3 h4 h5 h6
      split at h
      · rename_i b n0 n1 n2 hb
        obtain ⟨rfl, _, _⟩ := unBri_ok hb
        simp only [Option.some.injEq, Prod.mk.injEq, decide_eq_true_eq] at h
        obtain ⟨rfl, rfl, rfl, rfl, rfl, rfl⟩ := h
        refine ⟨rfl, ?_, ?_⟩
        · rw [hsl]
          exact ⟨⟨_, rfl, rfl⟩, ⟨_, rfl, rfl⟩, ⟨_, rfl, rfl⟩, ⟨_, rfl, rfl⟩, ⟨_, rfl, rfl⟩, trivial⟩
        · exact ⟨⟨_, h6, rfl, trivial⟩, ⟨_, h5, rfl, trivial⟩, ⟨_, h4, rfl, trivial⟩, ⟨_, h0, rfl, trivial⟩, ⟨_, h1, rfl, trivial⟩, ⟨_, h2, rfl, trivial⟩, ⟨_, h3, rfl, trivial⟩, trivial⟩
      · cases h
    · cases h
  · cases h
noncomputable def gNv : LoopFn := onTrim 7 nvTs fun st => match nvOf st with
  | some (p, ok) => some (.ite (ok && decide (p.L.length = p.n ∧ p.n ≤ 40 ∧ p.q.ps.length ≤ 8)) (.ret (.exit 0, nvFin)) .bad)
  | none => none
theorem runL_goT {α τ : Type} {f : Nat → α → τ → τ} {fin : τ → Ex × St} {r : Ex × St} (hf : ∀ s, fin s = r) : ∀ (L : List α) (i : Nat) (s : τ), runL (fun i a s => Step.go (f i a s)) fin L i s = r
  | [], _, s => hf s
  | m :: t, i, s => by rw [runL]; exact runL_goT hf t (i + 1) _
theorem gNv_ok (S : Stat) (ls : List (Nat × LoopFn)) : LoopOk Try.prog (withLoops (cNv (S.rd 0 4)) ls) (fnOf 10).ntmps (lpOf 10 0) gNv := by
  refine loop_trimL cNv_fam (ls' := [(20, gNi)]) (nx := 7) (fuel := 20) (ts := nvTs) (π := NvP) (α := Frame) (τ := Nat × PL) (S.rd 0 4) (fun _ i => S.rd 0 4) (fun _ _ => rfl) ?_ (fun p => p.L) (fun p i s => nvSt (p.with s) (.v (.int .i64 i)))
    (fun p i s => p.L.length = p.n ∧ p.n ≤ 40 ∧ p.q.ps.length ≤ 8 ∧ TabOk 20 300 s.2) (fun p i f s => .go ((nvT (p.with s) f).C, (nvT (p.with s) f).L)) (fun p s => (.exit 0, nvFin)) (fun _ _ _ => rfl) ?_ ?_ ?_
  · intro p i
    refine LoopsOk.of fun j hj => ?_
    have hlen : (loopsOf (lpOf 10 0)).length = 1 := by kernel_rfl
    have : j = 0 := by omega
    subst this
    rw [show loopAt (lpOf 10 0) 0 = lpOf 10 1 from by kernel_rfl]
    exact gNi_ok S _
  · intro st o r ho hr
    split at ho
    · rename_i p ok hp
      injection ho with ho
      subst ho
      have hh := Out.ite_bad hr
      obtain ⟨hh1, hh2⟩ := Bool.and_eq_true_iff.1 hh.1
      subst hh1
      obtain ⟨g1, g2, g3⟩ := of_decide_eq_true hh2
      obtain rfl := Option.some.inj hh.2
      refine ⟨p, (p.c, p.l), ⟨g1, g2, g3, ?_⟩, (runL_goT (f := fun i f s => ((nvT (p.with s) f).C, (nvT (p.with s) f).L)) (fun _ => rfl) _ _ _).symm, Nat.le_refl _, fun E => (nvOf_ok hp _ E).2⟩
      rw [show ((p.c, p.l) : Nat × PL).2 = p.l from rfl, (nvOf_ok hp S E0).1]
      exact .nil (by decide)
    · cases ho
  · intro p i a s ha hinv
    obtain ⟨h1, h2, h3, h4⟩ := hinv
    have hi := (List.getElem?_eq_some_iff.1 ha).1
    have e1 : (p.with s).L.getD i Frame.dflt = a := by show p.L.getD i Frame.dflt = a; simp [List.getD, ha]
    have hii : (i : Int) < (p.with s).n := by show (i : Int) < p.n; omega
    have hi' : i < (p.with s).L.length := hi
    have hin : inN (p.with s).n i = true := by unfold inN; rw [decide_eq_true hii]; simp
    have h4' : TabOk (nvT (p.with s) a).x (nvT (p.with s) a).y (nvT (p.with s) a).l := h4
    have hps : (p.with s).q.ps.length ≤ 8 := h3
    have hok : (nvT (p.with s) a).ok = true := ok_of h4' ⟨by show (1 : Int) ≤ 20; decide, by show (20 : Int) ≤ 67108864; decide⟩ ⟨rfl, by show (p.with s).q.ps.length ≤ 67108864; omega⟩
    have hz : nvZ (nvQ (p.with s) i a) = true := by
      have := to_len (nvT (p.with s) a)
      have h8 : (nvT (p.with s) a).ps.length ≤ 8 := h3
      exact decide_eq_true ⟨rfl, rfl, rfl, rfl, by show (nvT (p.with s) a).to.length ≤ 67108864; omega, rfl, rfl⟩
    refine ⟨.nrm, nvSt (nvN (p.with s) a) (.v (.int .i64 (IntKind.i64.wrap (i + 1)))), ?_, rfl, ⟨h1, h2, h3, ?_⟩, fun E => ?_⟩
    · rcases to_good (nvT (p.with s) a) with he | ⟨g1, g2, g3, g4⟩
      · refine Out.way_sel (nv_none S (p.with s) i a e1) ?_
        unfold nvT0
        rw [hok, hz, hin, decide_eq_true hii, decide_eq_true hi', show (nvQ (p.with s) i a).A = (nvT (p.with s) a).to from rfl, he]
        simp
      · cases hto : (nvT (p.with s) a).to with
        | nil =>
          refine Out.way_sel (nv_none S (p.with s) i a e1) ?_
          unfold nvT0
          rw [hok, hz, hin, decide_eq_true hii, decide_eq_true hi', show (nvQ (p.with s) i a).A = (nvT (p.with s) a).to from rfl, hto]
          simp
        | cons x r =>
          have hpos : decide (((nvT (p.with s) a).to.length : Int) > 0) = true := by rw [hto]; simp
          have hdead := g1
          unfold OtP.dead OtP.out at hdead
          simp only [Bool.or_eq_false_iff, decide_eq_false_iff_not] at hdead
          have ha0 : ¬ a.in_ < 0 := hdead.1.1
          have ha1 : ¬ a.in_ ≥ ((p.with s).q.ps.length : Int) := hdead.1.2
          have hpt : ((p.with s).q.ps.getD a.in_.toNat Port.dflt).enabled = true ∧ ((p.with s).q.ps.getD a.in_.toNat Port.dflt).flags.forwarding = true := by
            have : openP ((p.with s).q.ps.getD a.in_.toNat Port.dflt) = true := g2
            unfold openP at this
            simpa using this
          have hin2 : inN (p.with s).q.ps.length a.in_ = true := by unfold inN; simp; omega
          have hto2 : a.in_.toNat < (p.with s).q.ps.length := by omega
          refine Out.way_sel (nv_some S (p.with s) i a e1) ?_
          unfold nvT0
          rw [hok, hz, hin, hpos, hin2, decide_eq_true hii, decide_eq_true hi', decide_eq_true hto2, hpt.1, hpt.2, ni_good, decide_eq_false ha0, decide_eq_false ha1]
          rfl
    · exact tab_L h4' (by show (1 : Int) ≤ 20; decide) (by show (1 : Int) ≤ 300; decide)
    · rw [wrap_succ (n := 41) (by omega) (by omega)]
      exact nv_re _ (nvN (p.with s) a) _ E
  · intro p s hinv
    obtain ⟨h1, h2, h3, h4⟩ := hinv
    have hn : ¬ ((p.L.length : Nat) : Int) < (p.with s).n := by show ¬ ((p.L.length : Nat) : Int) < p.n; omega
    exact ⟨.exit 0, nvSt (p.with s) (.v (.int .i64 p.L.length)), Out.way_sel (nv_over S (p.with s) p.L.length) (by rw [decide_eq_false hn]), rfl, by simp, fun E => ⟨⟨⟨_, rfl, rfl⟩, trivial⟩, trivial⟩⟩
noncomputable def neverLs : List (Nat × LoopFn) := [(9, gNv), (20, gNi)]
theorem neverLs_ok (S : Stat) : ∀ i k g, neverLs[i]? = some (k, g) → LoopOk Try.prog (withLoops (cNv (S.rd 0 4)) neverLs) (fnOf 10).ntmps (lpOf 10 i) g := by
  intro i k g h
  match i, h with
  | 0, h => injection h with h; injection h with h1 h2; subst h1 h2; exact gNv_ok S _
  | 1, h => injection h with h; injection h with h1 h2; subst h1 h2; exact gNi_ok S _
  | i + 2, h => cases h
noncomputable def neverO (S : Stat) (q : InP) (L : List Frame) : Out SV := valF 4 (inline (withLoops (cNv (S.rd 0 4)) neverLs) 20 (fnOf 10) [q.arg, .slr 3 L.length 3 false] (q.heap [(3, .rows (.frame L))]) 4)
def rightOk (q : InP) : Bool := decide (q.ps.length = q.ps.length ∧ q.ps.length < 9223372036854775808)
theorem never_many (S : Stat) (q : InP) (L : List Frame) : Out.way [true, true] (neverO S q L) = some ([rightOk q, !(fewF q) || decide ((L.length : Int) > 40)], .kb true) := by kernel_rfl
theorem never_few (S : Stat) (q : InP) (L : List Frame) : Out.way [true, false, true] (neverO S q L) = some ([rightOk q, !(fewF q) || decide ((L.length : Int) > 40), decide (q.ps.length = q.ps.length ∧ q.os.length = q.os.length ∧ q.fs.length = q.fs.length ∧ (20 : Int) = 20 ∧ (300 : Int) = 300) && decide (L.length = L.length ∧ L.length ≤ 40 ∧ q.ps.length ≤ 8)], .kb true) := by kernel_rfl
theorem never_true (S : Stat) (q : InP) (L : List Frame) (hm : q.ps.length ≤ maxLen) : ∃ v, (neverO S q L).sel = some v ∧ ∀ S E, v.den S E = .bool true := by
  have hmax : maxLen < 9223372036854775808 := of_decide_eq_true (by kernel_rfl)
  have hr : rightOk q = true := decide_eq_true ⟨rfl, by omega⟩
  cases hf : !(fewF q) || decide ((L.length : Int) > 40) with
  | true => exact ⟨_, Out.way_sel (never_many S q L) (by rw [hr, hf]), fun _ _ => rfl⟩
  | false =>
    have hf' := hf
    simp only [Bool.or_eq_false_iff, decide_eq_false_iff_not, Bool.not_eq_false'] at hf'
    have h8 : q.ps.length ≤ 8 := by
      have := hf'.1
      unfold fewF at this
      simp only [Bool.and_eq_true, decide_eq_true_eq] at this
      have := this.1.1.2
      omega
    exact ⟨_, Out.way_sel (never_few S q L) (by rw [hr, hf]; simp; omega), fun _ _ => rfl⟩
end Go.Proofs.Ytfncoeoaniclmaa
