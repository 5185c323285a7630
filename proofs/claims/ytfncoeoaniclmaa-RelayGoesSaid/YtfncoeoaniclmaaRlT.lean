/- fordref19.Out: where a frame goes, by the document. -/
import Derived.Test.YtfncoeoaniclmaaRlO
import Derived.Test.YtfncoeoaniclmaaFdbRi
set_option linter.unusedVariables false
set_option maxRecDepth 100000
namespace Go.Proofs.Ytfncoeoaniclmaa
section
open Go Go.RowKit

noncomputable def psRs (S : Stat) : List (Nat × ReadFn) := auto psAt S 39 :: (23, specRead (spc gRFind) S 3) :: psAt S
theorem psRs_ok (S : Stat) : ReadsOk S [] (psRs S) := .auto psAt_ok <| .cons (specRead_ok (fun S' => spc_ok rfind_ok S') 3) <| psAt_ok S
noncomputable def ssRo (g : CanonFn) (S : Stat) : List (Nat × SpecFn) := (22, spc g S) :: []
theorem ssRo_ok {g : CanonFn} (hg : CanonOk 22 g) (S : Stat) : ∀ f h, (f, h) ∈ ssRo g S → SpecOk S [] f h := specs_cons (spc_ok hg S) specs_nil
noncomputable def cRoG (S : Stat) : Ctx := mkCtx S [] (psRs S) (ssRo gRLearnG S) 20 3
noncomputable def cRoB (S : Stat) : Ctx := mkCtx S [] (psRs S) (ssRo gRLearnB S) 20 3
theorem cRoG_fam : Fam cRoG := fam_of psRs_ok (ssRo_ok rlearnG_ok)
theorem cRoB_fam : Fam cRoB := fam_of psRs_ok (ssRo_ok rlearnB_ok)
structure RoP where
  b : Bri
  q : Bool
  n : Nat
  ps : List Port
  x : Int
  y : Int
  k : Nat
  A : List Entry
  i : Int
  s : Int
  d : Int
def RoP.pt (p : RoP) : Port := p.ps.getD p.i.toNat Port.dflt
def RoP.bx (p : RoP) : SV := p.b.sv (.slr 0 p.n 0 p.q) (.sl 0) (.sl 1)
structure RoL where
  p : RoP
  to : Int
  kn : Bool
  many : Bool
/-- what lies there when nothing was learned -/
def RoL.hpB (q : RoL) : Heap := [(3, q.p.bx), (1, .agg [.v (.int .i64 q.p.x), .v (.int .i64 q.p.y), .slr 2 q.p.k 2 false]), (2, .rows (.entry q.p.A)), (0, .rows (.port q.p.ps))]
/-- and when something was -/
def RoL.hpG (q : RoL) (A : List Entry) : Heap := [(3, q.p.bx), (1, .agg [.v (.int .i64 q.p.x), .v (.int .i64 q.p.y), .slr 5 A.length 5 false]), (5, .rows (.entry A)), (2, .rows (.entry q.p.A)), (0, .rows (.port q.p.ps))]
def roTs : List Nat := [2, 5, 13, 14, 15, 16, 17]
def roSl (q : RoL) (t : SV) (i : SV) : Slots := [(2, [], .v (.int .i64 q.p.i)), (5, [], .ptr 3 0), (13, [], .v (.int .i64 q.to)), (14, [], .v (.bool q.kn)), (15, [], .v (.bool q.many)), (16, [], t), (17, [], i)]
def inW (n : Nat) (i : Int) : Bool := decide (0 ≤ i) && decide (i < n)
def roPt (q : RoL) (i : Nat) : Port := q.p.ps.getD i Port.dflt
def roNo (q : RoL) (i : Nat) : Bool := (((i : Int) == q.p.i) || !((roPt q i).enabled)) || !((roPt q i).flags.forwarding)
def roYes (q : RoL) (i : Nat) : Bool := (!(q.kn) || q.many) || (q.to == (i : Int))
def roT (q : RoL) (i : Nat) : List Bool := [decide ((i : Int) < q.p.n), inW q.p.n i, decide (i < q.p.ps.length), inW q.p.n i, decide (i < q.p.ps.length), roNo q i]
/-- what a round appends -/
def roStp (q : RoL) (i : Nat) (_ : Port) (R : List Int) : List Int := if roNo q i = true then R else if roYes q i = true then R ++ [(i : Int)] else R
def roStB (q : RoL) (R : List Int) (i : SV) : BSt := ⟨⟨roSl q (tok 5 R.length) i, q.hpB, 6⟩, 5, .int .i64 R⟩
noncomputable def roRB (S : Stat) (q : RoL) (R : List Int) (i : Nat) : Out (Ex × BSt) := trimB roTs 5 (execB (cRoB S) (fnOf 40).ntmps 20 3 (lpOf 40 0) (roStB q R (.v (.int .i64 i))))
def roS1B (q : RoL) (R : List Int) (b : Nat) (i : SV) : BSt := ⟨⟨roSl q (tok b R.length) i, q.hpB, 5⟩, b, .int .i64 R⟩
theorem ro_skipB (S : Stat) (k : Int) (q : RoL) (R : List Int) (i : Nat) : Out.way [true, true, true, true, true, true] (roRB (S.wt k) q R i) = some (roT q i, (.nrm, roS1B q R 5 (.v (.int .i64 (IntKind.i64.wrap (i + 1)))))) := by kernel_rfl
theorem ro_noB (S : Stat) (k : Int) (q : RoL) (R : List Int) (i : Nat) : Out.way [true, true, true, true, true, false, false] (roRB (S.wt k) q R i) = some (roT q i ++ [roYes q i], (.nrm, roS1B q R 5 (.v (.int .i64 (IntKind.i64.wrap (i + 1)))))) := by kernel_rfl
theorem ro_takeB (S : Stat) (k : Int) (q : RoL) (R : List Int) (i : Nat) : Out.way [true, true, true, true, true, false, true, true] (roRB (S.wt k) q R i) = some (roT q i ++ [roYes q i, decide (R.length = R.length ∧ R.length ≤ 134217727)], (.nrm, roS1B q (R ++ [(i : Int)]) 7 (.v (.int .i64 (IntKind.i64.wrap (i + 1)))))) := by kernel_rfl
theorem ro_overB (S : Stat) (k : Int) (q : RoL) (R : List Int) (i : Nat) : Out.way [false] (roRB (S.wt k) q R i) = some ([decide ((i : Int) < q.p.n)], (.exit 0, roS1B q R 5 (.v (.int .i64 i)))) := by kernel_rfl
def roStG (q : RoL) (A : List Entry) (R : List Int) (i : SV) : BSt := ⟨⟨roSl q (tok 6 R.length) i, q.hpG A, 7⟩, 6, .int .i64 R⟩
noncomputable def roRG (S : Stat) (q : RoL) (A : List Entry) (R : List Int) (i : Nat) : Out (Ex × BSt) := trimB roTs 6 (execB (cRoG S) (fnOf 40).ntmps 20 3 (lpOf 40 0) (roStG q A R (.v (.int .i64 i))))
def roS1G (q : RoL) (A : List Entry) (R : List Int) (b : Nat) (i : SV) : BSt := ⟨⟨roSl q (tok b R.length) i, q.hpG A, 6⟩, b, .int .i64 R⟩
theorem ro_skipG (S : Stat) (k : Int) (q : RoL) (A : List Entry) (R : List Int) (i : Nat) : Out.way [true, true, true, true, true, true] (roRG (S.wt k) q A R i) = some (roT q i, (.nrm, roS1G q A R 6 (.v (.int .i64 (IntKind.i64.wrap (i + 1)))))) := by kernel_rfl
theorem ro_noG (S : Stat) (k : Int) (q : RoL) (A : List Entry) (R : List Int) (i : Nat) : Out.way [true, true, true, true, true, false, false] (roRG (S.wt k) q A R i) = some (roT q i ++ [roYes q i], (.nrm, roS1G q A R 6 (.v (.int .i64 (IntKind.i64.wrap (i + 1)))))) := by kernel_rfl
theorem ro_takeG (S : Stat) (k : Int) (q : RoL) (A : List Entry) (R : List Int) (i : Nat) : Out.way [true, true, true, true, true, false, true, true] (roRG (S.wt k) q A R i) = some (roT q i ++ [roYes q i, decide (R.length = R.length ∧ R.length ≤ 134217727)], (.nrm, roS1G q A (R ++ [(i : Int)]) 8 (.v (.int .i64 (IntKind.i64.wrap (i + 1)))))) := by kernel_rfl
theorem ro_overG (S : Stat) (k : Int) (q : RoL) (A : List Entry) (R : List Int) (i : Nat) : Out.way [false] (roRG (S.wt k) q A R i) = some ([decide ((i : Int) < q.p.n)], (.exit 0, roS1G q A R 6 (.v (.int .i64 i)))) := by kernel_rfl
def roFinB (q : RoL) (R : List Int) : BSt := ⟨⟨[(16, [], tok 5 R.length)], [(1, .agg [.v (.int .i64 q.p.x), .v (.int .i64 q.p.y), .slr 2 q.p.k 2 false]), (2, .rows (.entry q.p.A)), (0, .rows (.port q.p.ps))], 6⟩, 5, .int .i64 R⟩
noncomputable def gRoB : LoopFn := onTrimB 5 roTs fun st => match st.slots, st.heap with
  | [(2, [], .v (.int .i64 i)), (5, [], .ptr 3 0), (13, [], .v (.int .i64 to)), (14, [], .v (.bool kn)), (15, [], .v (.bool many)), (16, [], .v (.slice none 0 0)), (17, [], .ki .i64 0)], h => (match h.get 0, h.get 1, h.get 2, h.get 3 with
    | some (.rows (.port ps)), some (.agg [.v (.int .i64 x), .v (.int .i64 y), .slr 2 k 2 false]), some (.rows (.entry A)), some bx => (match unBri bx with
      | some (b, .slr 0 n 0 qq, .sl 0, .sl 1) => let q := (⟨⟨b, qq, n, ps, x, y, k, A, i, 0, 0⟩, to, kn, many⟩ : RoL)
        some (.ite (decide (ps.length = n ∧ n ≤ 67108864)) (.ret (.exit 0, (roFinB q (goL (roStp q) ps 0 [])).adopt)) .bad)
      | _ => none)
    | _, _, _, _ => none)
  | _, _ => none
theorem gRoB_ok (S : Stat) (ls : List (Nat × LoopFn)) : LoopOk Try.prog (withLoops (cRoB (S.wt 0)) ls) (fnOf 40).ntmps (lpOf 40 0) gRoB := by
  refine loop_build cRoB_fam (nx := 5) (fuel := 20) (e := 3) (ts := roTs) (π := RoL) (α := Port) (τ := List Int) (S.wt 0) (fun _ i => S.wt i) (fun _ _ => rfl) (fun q => q.p.ps) (fun q i R => roStB q R (.v (.int .i64 i)))
    (fun q i R => q.p.ps.length = q.p.n ∧ q.p.n ≤ 67108864 ∧ R.length ≤ i) (fun q => roStp q) (.exit 0) roFinB (fun _ _ _ => ⟨rfl, rfl⟩) (fun _ _ => ⟨rfl, rfl⟩) (fun _ _ => rfl) ?_ ?_ ?_
  · intro st o r ho hr
    split at ho
    · rename_i i to kn many hsl
      split at ho
      · rename_i ps x y k A bx h0 h1 h2 h3
        split at ho
        · rename_i b n qq hb
          obtain ⟨rfl, _, _⟩ := unBri_ok hb
          injection ho with ho
          subst ho
          have hh := Out.ite_bad hr
          obtain ⟨rfl, hlt⟩ := of_decide_eq_true hh.1
          obtain rfl := Option.some.inj hh.2
          refine ⟨_, [], ⟨rfl, hlt, Nat.le_refl _⟩, rfl, rfl, fun E hE => ⟨?_, ?_⟩⟩
          · rw [hsl]
            exact ⟨⟨_, rfl, rfl⟩, ⟨_, rfl, rfl⟩, ⟨_, rfl, rfl⟩, ⟨_, rfl, rfl⟩, ⟨_, rfl, rfl⟩, ⟨_, rfl, by simp [tok, SV.den, hE]⟩, ⟨_, rfl, rfl⟩, trivial⟩
          · exact ⟨⟨_, h3, rfl, trivial, rfl⟩, ⟨_, h1, rfl, trivial, rfl⟩, ⟨_, h2, rfl, trivial, rfl⟩, ⟨_, h0, rfl, trivial, rfl⟩, trivial⟩
        · cases ho
      · cases ho
    · cases ho
  · intro q i e R he hinv
    obtain ⟨h1, h2, h3⟩ := hinv
    have hi := (List.getElem?_eq_some_iff.1 he).1
    have hii : (i : Int) < q.p.n := by omega
    have hT : roT q i = [true, true, true, true, true, roNo q i] := by
      have hin : inW q.p.n i = true := by unfold inW; rw [decide_eq_true hii]; simp
      unfold roT
      rw [hin, decide_eq_true hii, decide_eq_true hi]
    have re : ∀ (R : List Int) (b : Nat) (E1 E2 : Env), Env.upto 5 E1 E2 → E2.ad 5 = E1.ad b → E2.cp 5 = E1.cp b → ReD2 (S.wt i) E1 (roS1B q R b (.v (.int .i64 (IntKind.i64.wrap (i + 1))))).st (S.wt (i + 1 : Nat)) E2 (roStB q R (.v (.int .i64 ((i + 1 : Nat) : Int)))).st := by
      intro R b E1 E2 hu ha hc
      rw [wrap_succ (n := 67108865) (by omega) (by omega)]
      have u0 := hu 0 (by omega)
      have u1 := hu 1 (by omega)
      have u2 := hu 2 (by omega)
      have u3 := hu 3 (by omega)
      have u5 : True := trivial
      refine ⟨⟨⟨_, rfl, rfl⟩, ⟨_, rfl, ptr_upto hu (by omega)⟩, ⟨_, rfl, rfl⟩, ⟨_, rfl, rfl⟩, ⟨_, rfl, rfl⟩, ⟨_, rfl, tok_alias ha hc⟩, ⟨_, rfl, rfl⟩, trivial⟩, ⟨⟨_, rfl, ?_, trivial, u3.1⟩, ⟨_, rfl, ?_, trivial, u1.1⟩, ⟨_, rfl, rfl, trivial, u2.1⟩, ⟨_, rfl, rfl, trivial, u0.1⟩, trivial⟩⟩
      · simp [RoP.bx, Bri.sv, SV.cells, SV.cellss, u0, Env.place, Stat.wt]
      · simp [SV.cells, SV.cellss, u2, u5, Env.place]
    cases hno : roNo q i with
    | true =>
      have hs : roStp q i e R = R := by unfold roStp; rw [hno]; rfl
      rw [hs]
      exact ⟨_, Out.way_sel (ro_skipB S i q R i) (by rw [hT, hno]), ⟨h1, h2, by omega⟩, rfl, fun E1 E2 hu ha hc => re R 5 E1 E2 hu ha hc⟩
    | false =>
      cases hy : roYes q i with
      | false =>
        have hs : roStp q i e R = R := by unfold roStp; rw [hno, hy]; rfl
        rw [hs]
        exact ⟨_, Out.way_sel (ro_noB S i q R i) (by rw [hT, hno, hy]; rfl), ⟨h1, h2, by omega⟩, rfl, fun E1 E2 hu ha hc => re R 5 E1 E2 hu ha hc⟩
      | true =>
        have hs : roStp q i e R = R ++ [(i : Int)] := by unfold roStp; rw [hno, hy]; rfl
        have h4 : decide (R.length = R.length ∧ R.length ≤ 134217727) = true := decide_eq_true ⟨rfl, by omega⟩
        rw [hs]
        exact ⟨_, Out.way_sel (ro_takeB S i q R i) (by rw [hT, hno, hy, h4]; rfl), ⟨h1, h2, by simp; omega⟩, rfl, fun E1 E2 hu ha hc => re _ 7 E1 E2 hu ha hc⟩
  · intro q R hinv
    obtain ⟨h1, h2, h3⟩ := hinv
    have hn : ¬ ((q.p.ps.length : Nat) : Int) < q.p.n := by omega
    refine ⟨_, Out.way_sel (ro_overB S (q.p.ps.length : Nat) q R q.p.ps.length) (by rw [decide_eq_false hn]), by simp, rfl, fun E1 E2 hu ha hc => ?_⟩
    have u0 := hu 0 (by omega)
    have u1 := hu 1 (by omega)
    have u2 := hu 2 (by omega)
    have u5 : True := trivial
    refine ⟨⟨⟨_, rfl, tok_alias ha hc⟩, trivial⟩, ⟨⟨_, rfl, ?_, trivial, u1.1⟩, ⟨_, rfl, rfl, trivial, u2.1⟩, ⟨_, rfl, rfl, trivial, u0.1⟩, trivial⟩⟩
    simp [SV.cells, SV.cellss, u2, u5, Env.place]
noncomputable def roBLs : List (Nat × LoopFn) := [(15, gRoB)]
theorem roBLs_ok (S : Stat) : ∀ i k g, roBLs[i]? = some (k, g) → LoopOk Try.prog (withLoops (cRoB (S.wt 0)) roBLs) (fnOf 40).ntmps (lpOf 40 i) g := by
  intro i k g h
  match i, h with
  | 0, h => injection h with h; injection h with h1 h2; subst h1 h2; exact gRoB_ok S _
  | i + 1, h => cases h
def roFinG (q : RoL × List Entry) (R : List Int) : BSt := ⟨⟨[(16, [], tok 6 R.length)], [(1, .agg [.v (.int .i64 q.1.p.x), .v (.int .i64 q.1.p.y), .slr 5 q.2.length 5 false]), (5, .rows (.entry q.2)), (2, .rows (.entry q.1.p.A)), (0, .rows (.port q.1.p.ps))], 7⟩, 6, .int .i64 R⟩
noncomputable def gRoG : LoopFn := onTrimB 6 roTs fun st => match st.slots, st.heap with
  | [(2, [], .v (.int .i64 i)), (5, [], .ptr 3 0), (13, [], .v (.int .i64 to)), (14, [], .v (.bool kn)), (15, [], .v (.bool many)), (16, [], .v (.slice none 0 0)), (17, [], .ki .i64 0)], h => (match h.get 0, h.get 1, h.get 2, h.get 3, h.get 5 with
    | some (.rows (.port ps)), some (.agg [.v (.int .i64 x), .v (.int .i64 y), .slr 5 k' 5 false]), some (.rows (.entry A)), some bx, some (.rows (.entry A')) => (match unBri bx with
      | some (b, .slr 0 n 0 qq, .sl 0, .sl 1) => let q := ((⟨⟨b, qq, n, ps, x, y, 0, A, i, 0, 0⟩, to, kn, many⟩, A') : RoL × List Entry)
        some (.ite (decide (ps.length = n ∧ n ≤ 67108864 ∧ k' = A'.length)) (.ret (.exit 0, (roFinG q (goL (roStp q.1) ps 0 [])).adopt)) .bad)
      | _ => none)
    | _, _, _, _, _ => none)
  | _, _ => none
theorem gRoG_ok (S : Stat) (ls : List (Nat × LoopFn)) : LoopOk Try.prog (withLoops (cRoG (S.wt 0)) ls) (fnOf 40).ntmps (lpOf 40 0) gRoG := by
  refine loop_build cRoG_fam (nx := 6) (fuel := 20) (e := 3) (ts := roTs) (π := RoL × List Entry) (α := Port) (τ := List Int) (S.wt 0) (fun _ i => S.wt i) (fun _ _ => rfl) (fun q => q.1.p.ps) (fun q i R => roStG q.1 q.2 R (.v (.int .i64 i)))
    (fun q i R => q.1.p.ps.length = q.1.p.n ∧ q.1.p.n ≤ 67108864 ∧ R.length ≤ i) (fun q => roStp q.1) (.exit 0) roFinG (fun _ _ _ => ⟨rfl, rfl⟩) (fun _ _ => ⟨rfl, rfl⟩) (fun _ _ => rfl) ?_ ?_ ?_
  · intro st o r ho hr
    split at ho
    · rename_i i to kn many hsl
      split at ho
      · rename_i ps x y k' A bx A' h0 h1 h2 h3 h5
        split at ho
        · rename_i b n qq hb
          obtain ⟨rfl, _, _⟩ := unBri_ok hb
          injection ho with ho
          subst ho
          have hh := Out.ite_bad hr
          obtain ⟨rfl, hlt, rfl⟩ := of_decide_eq_true hh.1
          obtain rfl := Option.some.inj hh.2
          refine ⟨_, [], ⟨rfl, hlt, Nat.le_refl _⟩, rfl, rfl, fun E hE => ⟨?_, ?_⟩⟩
          · rw [hsl]
            exact ⟨⟨_, rfl, rfl⟩, ⟨_, rfl, rfl⟩, ⟨_, rfl, rfl⟩, ⟨_, rfl, rfl⟩, ⟨_, rfl, rfl⟩, ⟨_, rfl, by simp [tok, SV.den, hE]⟩, ⟨_, rfl, rfl⟩, trivial⟩
          · exact ⟨⟨_, h3, rfl, trivial, rfl⟩, ⟨_, h1, rfl, trivial, rfl⟩, ⟨_, h5, rfl, trivial, rfl⟩, ⟨_, h2, rfl, trivial, rfl⟩, ⟨_, h0, rfl, trivial, rfl⟩, trivial⟩
        · cases ho
      · cases ho
    · cases ho
  · intro q i e R he hinv
    obtain ⟨h1, h2, h3⟩ := hinv
    have hi := (List.getElem?_eq_some_iff.1 he).1
    have hii : (i : Int) < q.1.p.n := by omega
    have hT : roT q.1 i = [true, true, true, true, true, roNo q.1 i] := by
      have hin : inW q.1.p.n i = true := by unfold inW; rw [decide_eq_true hii]; simp
      unfold roT
      rw [hin, decide_eq_true hii, decide_eq_true hi]
    have re : ∀ (R : List Int) (b : Nat) (E1 E2 : Env), Env.upto 6 E1 E2 → E2.ad 6 = E1.ad b → E2.cp 6 = E1.cp b → ReD2 (S.wt i) E1 (roS1G q.1 q.2 R b (.v (.int .i64 (IntKind.i64.wrap (i + 1))))).st (S.wt (i + 1 : Nat)) E2 (roStG q.1 q.2 R (.v (.int .i64 ((i + 1 : Nat) : Int)))).st := by
      intro R b E1 E2 hu ha hc
      rw [wrap_succ (n := 67108865) (by omega) (by omega)]
      have u0 := hu 0 (by omega)
      have u1 := hu 1 (by omega)
      have u2 := hu 2 (by omega)
      have u3 := hu 3 (by omega)
      have u5 := hu 5 (by omega)
      refine ⟨⟨⟨_, rfl, rfl⟩, ⟨_, rfl, ptr_upto hu (by omega)⟩, ⟨_, rfl, rfl⟩, ⟨_, rfl, rfl⟩, ⟨_, rfl, rfl⟩, ⟨_, rfl, tok_alias ha hc⟩, ⟨_, rfl, rfl⟩, trivial⟩, ⟨⟨_, rfl, ?_, trivial, u3.1⟩, ⟨_, rfl, ?_, trivial, u1.1⟩, ⟨_, rfl, rfl, trivial, u5.1⟩, ⟨_, rfl, rfl, trivial, u2.1⟩, ⟨_, rfl, rfl, trivial, u0.1⟩, trivial⟩⟩
      · simp [RoP.bx, Bri.sv, SV.cells, SV.cellss, u0, Env.place, Stat.wt]
      · simp [SV.cells, SV.cellss, u2, u5, Env.place]
    cases hno : roNo q.1 i with
    | true =>
      have hs : roStp q.1 i e R = R := by unfold roStp; rw [hno]; rfl
      rw [hs]
      exact ⟨_, Out.way_sel (ro_skipG S i q.1 q.2 R i) (by rw [hT, hno]), ⟨h1, h2, by omega⟩, rfl, fun E1 E2 hu ha hc => re R 6 E1 E2 hu ha hc⟩
    | false =>
      cases hy : roYes q.1 i with
      | false =>
        have hs : roStp q.1 i e R = R := by unfold roStp; rw [hno, hy]; rfl
        rw [hs]
        exact ⟨_, Out.way_sel (ro_noG S i q.1 q.2 R i) (by rw [hT, hno, hy]; rfl), ⟨h1, h2, by omega⟩, rfl, fun E1 E2 hu ha hc => re R 6 E1 E2 hu ha hc⟩
      | true =>
        have hs : roStp q.1 i e R = R ++ [(i : Int)] := by unfold roStp; rw [hno, hy]; rfl
        have h4 : decide (R.length = R.length ∧ R.length ≤ 134217727) = true := decide_eq_true ⟨rfl, by omega⟩
        rw [hs]
        exact ⟨_, Out.way_sel (ro_takeG S i q.1 q.2 R i) (by rw [hT, hno, hy, h4]; rfl), ⟨h1, h2, by simp; omega⟩, rfl, fun E1 E2 hu ha hc => re _ 8 E1 E2 hu ha hc⟩
  · intro q R hinv
    obtain ⟨h1, h2, h3⟩ := hinv
    have hn : ¬ ((q.1.p.ps.length : Nat) : Int) < q.1.p.n := by omega
    refine ⟨_, Out.way_sel (ro_overG S (q.1.p.ps.length : Nat) q.1 q.2 R q.1.p.ps.length) (by rw [decide_eq_false hn]), by simp, rfl, fun E1 E2 hu ha hc => ?_⟩
    have u0 := hu 0 (by omega)
    have u1 := hu 1 (by omega)
    have u2 := hu 2 (by omega)
    have u5 := hu 5 (by omega)
    refine ⟨⟨⟨_, rfl, tok_alias ha hc⟩, trivial⟩, ⟨⟨_, rfl, ?_, trivial, u1.1⟩, ⟨_, rfl, rfl, trivial, u5.1⟩, ⟨_, rfl, rfl, trivial, u2.1⟩, ⟨_, rfl, rfl, trivial, u0.1⟩, trivial⟩⟩
    simp [SV.cells, SV.cellss, u2, u5, Env.place]
noncomputable def roGLs : List (Nat × LoopFn) := [(15, gRoG)]
theorem roGLs_ok (S : Stat) : ∀ i k g, roGLs[i]? = some (k, g) → LoopOk Try.prog (withLoops (cRoG (S.wt 0)) roGLs) (fnOf 40).ntmps (lpOf 40 i) g := by
  intro i k g h
  match i, h with
  | 0, h => injection h with h; injection h with h1 h2; subst h1 h2; exact gRoG_ok S _
  | i + 1, h => cases h
noncomputable def roO (S : Stat) (c : Stat → Ctx) (p : RoP) (ls : List (Nat × LoopFn)) : Out (SV × Heap × Nat) := inline (withLoops (c (S.wt 0)) ls) 20 (fnOf 40) [p.bx, .ptr 1 0, .v (.int .i64 p.i), .v (.int .u64 p.s), .v (.int .u64 p.d)] [(0, .rows (.port p.ps)), (1, .agg [.v (.int .i64 p.x), .v (.int .i64 p.y), .slr 2 p.k 2 false]), (2, .rows (.entry p.A))] 3
/-! ### the ways -/
def RoP.out (p : RoP) : Bool := decide (p.i < 0) || decide (p.i ≥ p.n)
def resR (d : Int) : Bool := decide (adrR d ≥ 1652522221568) && decide (adrR d ≤ 1652522221583)
def grpR (d : Int) : Bool := (IntKind.u64.wrap (d.tdiv 1099511627776)).tmod 2 == 1
def RoP.no (p : RoP) : Bool := !(p.pt.enabled) || resR p.d
def RoP.L (p : RoP) (A : List Entry) : RoL := ⟨p, rPort A (atI (adrR p.d) A 0), !(decide (atI (adrR p.d) A 0 < 0)), grpR p.d⟩
def RoP.hd (p : RoP) : List Bool := [p.out, inW p.n p.i, decide (p.i.toNat < p.ps.length), p.no]
def RoP.fd (p : RoP) : Bool := decide (p.A.length = p.k ∧ p.k ≤ 67108864)
def RoP.lp (p : RoP) : Bool := decide (p.ps.length = p.n ∧ p.n ≤ 67108864)
def RoP.hp0 (p : RoP) : Heap := [(0, .rows (.port p.ps)), (1, .agg [.v (.int .i64 p.x), .v (.int .i64 p.y), .slr 2 p.k 2 false]), (2, .rows (.entry p.A))]
def RoP.hp1 (p : RoP) : Heap := [(1, .agg [.v (.int .i64 p.x), .v (.int .i64 p.y), .slr 2 p.k 2 false]), (2, .rows (.entry p.A)), (0, .rows (.port p.ps))]
/-- where it goes, when it goes -/
def RoP.F (p : RoP) (A : List Entry) : List Int := goL (roStp (p.L A)) p.ps 0 []
theorem ro_1 (S : Stat) (p : RoP) : Out.way [true] (trimF 3 (roO S cRoB p roBLs)) = some ([p.out], (.v (.slice none 0 0), RoP.hp0 p, 3)) := by kernel_rfl
theorem ro_2 (S : Stat) (p : RoP) : Out.way [false, true, true, true] (trimF 3 (roO S cRoB p roBLs)) = some (p.hd, (.v (.slice none 0 0), RoP.hp0 p, 3)) := by kernel_rfl
theorem ro_3 (S : Stat) (p : RoP) : Out.way [false, true, true, false, true, true, true] (trimF 3 (roO S cRoB p roBLs)) = some (p.hd ++ [p.pt.flags.learning, badR p.s p.i, !(p.pt.flags.forwarding)], (.v (.slice none 0 0), RoP.hp0 p, 3)) := by kernel_rfl
theorem ro_4 (S : Stat) (p : RoP) : Out.way [false, true, true, false, true, true, false, true, true] (trimF 6 (roO S cRoB p roBLs)) = some (p.hd ++ [p.pt.flags.learning, badR p.s p.i, !(p.pt.flags.forwarding), p.fd, p.lp], (.slr 5 (p.F p.A).length 5 false, (5, .rows (.int .i64 (p.F p.A))) :: p.hp1, 6)) := by kernel_rfl
theorem ro_5 (S : Stat) (p : RoP) : Out.way [false, true, true, false, false, true] (trimF 3 (roO S cRoB p roBLs)) = some (p.hd ++ [p.pt.flags.learning, !(p.pt.flags.forwarding)], (.v (.slice none 0 0), RoP.hp0 p, 3)) := by kernel_rfl
theorem ro_6 (S : Stat) (p : RoP) : Out.way [false, true, true, false, false, false, true, true] (trimF 6 (roO S cRoB p roBLs)) = some (p.hd ++ [p.pt.flags.learning, !(p.pt.flags.forwarding), p.fd, p.lp], (.slr 5 (p.F p.A).length 5 false, (5, .rows (.int .i64 (p.F p.A))) :: p.hp1, 6)) := by kernel_rfl
/-- learned, and what lies there then -/
def RoP.A' (p : RoP) : List Entry := learnR p.x p.y p.A p.s p.i
def RoP.lt (p : RoP) : Bool := !(badR p.s p.i) && (p.fd && (!(fullR p.x p.A.length p.A p.s) || decide (1 ≤ p.A.length)))
def RoP.hp2 (p : RoP) : Heap := [(1, .agg [.v (.int .i64 p.x), .v (.int .i64 p.y), .slr 5 p.A'.length 5 false]), (5, .rows (.entry p.A')), (2, .rows (.entry p.A)), (0, .rows (.port p.ps))]
def RoP.hp3 (p : RoP) : Heap := (5, .rows (.entry p.A')) :: (0, .rows (.port p.ps)) :: (1, .agg [.v (.int .i64 p.x), .v (.int .i64 p.y), .slr 5 p.A'.length 5 false]) :: (2, .rows (.entry p.A)) :: []
def RoP.ld (p : RoP) : Bool := decide (p.ps.length = p.n ∧ p.n ≤ 67108864 ∧ p.A'.length = p.A'.length)
theorem ro_7 (S : Stat) (p : RoP) : Out.way [false, true, true, false, true, true, true] (trimF 6 (roO S cRoG p roGLs)) = some (p.hd ++ [p.pt.flags.learning, p.lt, !(p.pt.flags.forwarding)], (.v (.slice none 0 0), (4, .rcd (.port p.pt)) :: (3, p.bx) :: (0, .rows (.port p.ps)) :: (1, .agg [.v (.int .i64 p.x), .v (.int .i64 p.y), .slr 5 p.A'.length 5 false]) :: (2, .rows (.entry p.A)) :: (5, .rows (.entry p.A')) :: [], 6)) := by kernel_rfl
theorem ro_8 (S : Stat) (p : RoP) : Out.way [false, true, true, false, true, true, false, true, true] (trimF 7 (roO S cRoG p roGLs)) = some (p.hd ++ [p.pt.flags.learning, p.lt, !(p.pt.flags.forwarding), decide (p.A'.length = p.A'.length ∧ p.A'.length ≤ 67108864), p.ld], (.slr 6 (p.F p.A').length 6 false, (6, .rows (.int .i64 (p.F p.A'))) :: p.hp2, 7)) := by kernel_rfl
end

section
open Go Go.RowKit

/-- a result told with other numbers -/
structure FinOk (S : Stat) (r0 r : SV × Heap × Nat) (m : Nat) (E' E'' : Env) (ρ : Nat → Nat) : Prop where
  up : Env.upto m E' E''
  den : r0.1.den (S.wt 0) E' = r.1.den S E''
  get : ∀ k x, r.2.1.get k = some x → x.foOk S ∧ (x.size = 0 ∨ ∃ x', r0.2.1.get (ρ k) = some x' ∧ x'.size = x.size ∧ x'.cells (S.wt 0) E' = x.cells S E'' ∧ E'.ad (ρ k) = E''.ad k)
  inj : ∀ k k' x x', k ≠ k' → r.2.1.get k = some x → r.2.1.get k' = some x' → 0 < x.size → 0 < x'.size → ρ k ≠ ρ k'
theorem canon_fin {mk : Stat → Ctx} (hm : Fam mk) {f : FuncId} {fn : Func} (hf : Try.prog.funcs[f]? = some fn) (hname : ((fnOf f).name == "runtime.NumGoroutine") = false) {g : CanonFn} (l : List (Nat × LoopFn)) (hids : (loopsOf (codeOf f)).map firstId = l.map (·.1)) (hd : distinct (l.map (·.1)) = true)
    (hl : ∀ (S : Stat) i k g, l[i]? = some (k, g) → LoopOk Try.prog (withLoops (mk (S.wt 0)) l) (fnOf f).ntmps (lpOf f i) g)
    (h : ∀ (S : Stat) args H m r, (g S.ro args H m).sel = some r → (∀ k x, H.get k = some x → S.ro k = false) ∧ (∀ E, SV.dens S E args = SV.dens (S.wt 0) E args) ∧ flatH H = true ∧ m ≤ r.2.2 ∧
      ∃ fuel n r0, (trimF n (inline (withLoops (mk (S.wt 0)) l) fuel (fnOf f) args H m)).sel = some r0 ∧ ∀ E', ∃ E'' ρ, FinOk S r0 r m E' E'' ρ) : CanonOk f g := by
  intro S args H m v H' m' hr
  obtain ⟨hro, hfa, hfH, hmm, fuel, n, r0, hq, hfin⟩ := h S args H m _ hr
  dsimp only at hmm
  obtain ⟨q, hq1, hq2, hq3⟩ := trimF_sel hq
  subst hq3
  have hgood := good_ok (fnOf_eq hf) hname (good_loops hm (S.wt 0) l hids hd (fun i k g hg => hl S i k g hg)) (v := q.1) (H' := q.2.1) (m' := q.2.2) hq1
  have hS : (withLoops (mk (S.wt 0)) l).S = S.wt 0 := hm.S _
  rw [hS] at hgood
  refine ⟨hgood.1, fun E w hs => ?_⟩
  have hMH : ∀ b j, MH (S.wt 0) E H b j → MH S E H b j := by
    rintro b j ⟨k, z, hk, _, h'⟩
    exact ⟨k, z, hk, hro k z hk, h'⟩
  rw [hfa E]
  refine (hgood.2 E w (hs.stat hfH fun k x hk _ => hro k x hk)).mono ?_
  rintro e w' ⟨E', hu, hle, rfl, hs', hfr, hown⟩
  obtain ⟨E'', ρ, F⟩ := hfin E'
  refine ⟨E'', hu.trans F.up (Nat.le_refl _), hmm, by rw [← F.den], ⟨fun k x hk hp => ?_, fun k x hk hp hnt hr => ?_, fun k k' x x' hne hk hk' hp hp' hr => ?_, fun k x hk => (F.get k x hk).1⟩, hfr.mono fun b j _ h => hMH b j h, fun k x hk hr => ?_⟩
  · rcases (F.get k x hk).2 with h0 | ⟨x', h1, h2, h3, h4⟩
    · omega
    · rw [← h4, ← h3]; exact hs'.at_ _ x' (keepH_get h1) (by omega)
  · rcases (F.get k x hk).2 with h0 | ⟨x', h1, h2, h3, h4⟩
    · omega
    · rw [← h4]; exact hs'.wr _ x' (keepH_get h1) (by omega) (by rw [h3]; exact hnt) rfl
  · rcases (F.get k x hk).2 with h0 | ⟨y, h1, h2, h3, h4⟩
    · omega
    · rcases (F.get k' x' hk').2 with h0 | ⟨y', g1, g2, g3, g4⟩
      · omega
      · rw [← h4, ← g4, ← h2, ← g2]
        exact hs'.dis _ _ y y' (F.inj k k' x x' hne hk hk' hp hp') (keepH_get h1) (keepH_get g1) (by omega) (by omega) rfl
  · rcases (F.get k x hk).2 with h0 | ⟨x', h1, h2, h3, h4⟩
    · exact .inr fun j hj => by omega
    · rcases hown _ x' (keepH_get h1) rfl with h | h
      · rw [h4] at h; exact .inl h
      · rw [h4] at h; exact .inr fun j hj => hMH _ _ (h j (by omega))
/-- a bridge's lists that aren't looked at are forgotten -/
noncomputable def fgt (g : CanonFn) (S : Stat) : SpecFn := fun args H nx => match args with
  | bx :: r => (match unBri bx with
    | some (b, p, o, f) => bif (p.flat && SV.flats r) && flatH H then ((lift g S.ro 3 (b.sv p (.sl 0) (.sl 1) :: r) H nx).bind fun q => bif q.1.flat && flatH q.2.1 then .ret q else .bad) else .bad
    | none => .bad)
  | [] => .bad
theorem fgt_ok {f : FuncId} {g : CanonFn} (h : CanonOk f g) (S : Stat) : SpecOk S [] f (fgt g S) := by
  intro args H nx v H' nx' hs
  unfold fgt at hs
  split at hs
  · rename_i bx r
    split at hs
    · rename_i b p o fl hb
      obtain ⟨rfl, ho, hf⟩ := unBri_ok hb
      cases hc : ((p.flat && SV.flats r) && flatH H) with
      | false => rw [hc] at hs; cases hs
      | true =>
        rw [hc] at hs
        simp only [cond_true] at hs
        rw [Out.sel_bind] at hs
        cases hq : (lift g S.ro 3 (b.sv p (.sl 0) (.sl 1) :: r) H nx).sel with
        | none => rw [hq] at hs; cases hs
        | some q =>
          rw [hq] at hs
          simp only [Option.bind_some] at hs
          cases hfl : (q.1.flat && flatH q.2.1) with
          | false => rw [hfl] at hs; cases hs
          | true =>
            rw [hfl] at hs
            simp only [cond_true, Out.sel, Option.some.injEq] at hs
            subst hs
            simp only [Bool.and_eq_true] at hc hfl
            obtain ⟨⟨hpf, hrf⟩, hHf⟩ := hc
            refine ⟨(lift_ok h S 3 _ _ _ _ _ _ hq).1, fun E w hH hw hwb hbn => ?_⟩
            obtain ⟨l, hl⟩ := Bri.sv_named (S := S) (E := E) (b := b) (p := p) ho hf
            have h2 := (lift_ok h (S.names l) 3 _ _ _ _ _ _ hq).2 E w (hH.stat hHf fun _ _ _ hr => hr) (fun _ _ _ _ hm => by cases hm) (fun _ _ _ _ hm => by cases hm) hbn
            have e1 : SV.dens S E (b.sv p o fl :: r) = SV.dens (S.names l) E (b.sv p (.sl 0) (.sl 1) :: r) := by
              simp only [SV.dens]
              rw [(hl (S.names l) rfl (SV.flat_cells _ _ _ p hpf)).1, SV.flats_dens S (S.names l) E r hrf]
            rw [e1]
            refine h2.mono ?_
            rintro e w' ⟨E', hu, hle, rfl, hs', hfr, hown⟩
            exact ⟨E', hu, hle, by rw [SV.flat_den S (S.names l) E' _ hfl.1], hs'.stat hfl.2 fun _ _ _ hr => hr, hfr, hown⟩
    · cases hs
  · cases hs
/-! ### fordref19.Out -/
def RoP.dead (p : RoP) : Bool := p.out || p.no
/-- where a frame goes -/
def roF (p : RoP) (A : List Entry) : List Int := if p.dead = true then [] else if p.pt.flags.forwarding = false then [] else p.F A
def RoP.okB (p : RoP) : Bool := (p.lp && p.fd) && (p.dead || (!p.pt.flags.learning || badR p.s p.i))
def RoP.okG (p : RoP) : Bool := (p.lp && p.fd) && ((!p.dead && p.pt.flags.learning) && (p.lt && decide (p.A'.length ≤ 67108864)))
def RoP.rB (p : RoP) : SV × Heap × Nat := (.slr 3 (roF p p.A).length 3 false, (3, .rows (.int .i64 (roF p p.A))) :: p.hp0, 4)
def RoP.rG (p : RoP) : SV × Heap × Nat := (.slr 4 (roF p p.A').length 4 false, (4, .rows (.int .i64 (roF p p.A'))) :: (3, .rows (.entry p.A')) :: (0, .rows (.port p.ps)) :: (1, .agg [.v (.int .i64 p.x), .v (.int .i64 p.y), .slr 3 p.A'.length 3 false]) :: (2, .rows (.entry p.A)) :: [], 5)
def roOf (args : List SV) (H : Heap) : Option RoP := match args, H with
  | [bx, .ptr 1 0, .v (.int .i64 i), .v (.int .u64 s), .v (.int .u64 d)], [(0, .rows (.port ps)), (1, .agg [.v (.int .i64 x), .v (.int .i64 y), .slr 2 k 2 false]), (2, .rows (.entry A))] => (match unBri bx with
    | some (b, .slr 0 n 0 q, .sl 0, .sl 1) => some ⟨b, q, n, ps, x, y, k, A, i, s, d⟩
    | _ => none)
  | _, _ => none
theorem roOf_ok {args : List SV} {H : Heap} {p : RoP} (h : roOf args H = some p) : args = [p.bx, .ptr 1 0, .v (.int .i64 p.i), .v (.int .u64 p.s), .v (.int .u64 p.d)] ∧ H = p.hp0 := by
  unfold roOf at h
  split at h
  · split at h
    · rename_i hb
      obtain ⟨rfl, _, _⟩ := unBri_ok hb
      injection h with h
      subst h
      exact ⟨rfl, rfl⟩
    · cases h
  · cases h
def gROutB : CanonFn := fun ro args H m => match roOf args H with
  | some p => bif ((ro 0 || ro 1) || ro 2) || !(Nat.beq m 3) then .bad else .ite p.okB (.ret p.rB) .bad
  | none => .bad
def gROutG : CanonFn := fun ro args H m => match roOf args H with
  | some p => bif ((ro 0 || ro 1) || ro 2) || !(Nat.beq m 3) then .bad else .ite p.okG (.ret p.rG) .bad
  | none => .bad
def nilE (E : Env) (j : Nat) (a : Nat) : Env := ⟨fun k => if k = j then E.ad a else E.ad k, fun k => if k = j then (0, true) else E.cp k⟩
def mvE (E : Env) (j a : Nat) : Env := ⟨fun k => if k = j then E.ad a else E.ad k, fun k => if k = j then E.cp a else E.cp k⟩
theorem fin_nilB (S : Stat) (p : RoP) (E : Env) (h : roF p p.A = []) : FinOk S (.v (.slice none 0 0), p.hp0, 3) p.rB 3 E (nilE E 3 3) id := by
  unfold RoP.rB
  rw [h]
  refine ⟨fun k hk => ?_, by simp [SV.den, nilE], fun k x hk => ?_, fun k k' x x' hne hk hk' hp hp' => hne⟩
  · have : k ≠ 3 := by omega
    simp [nilE, this]
  · unfold RoP.hp0 at hk ⊢
    simp only [Heap.get_cons] at hk
    repeat' split at hk
    · injection hk with hk; subst hk; exact ⟨trivial, .inl rfl⟩
    · rename_i h0; injection hk with hk; subst hk; subst h0; exact ⟨trivial, .inr ⟨_, rfl, rfl, rfl, by simp [nilE]⟩⟩
    · rename_i h0; injection hk with hk; subst hk; subst h0; exact ⟨trivial, .inr ⟨_, rfl, rfl, by simp [SV.cells, SV.cellss, nilE, Env.place], by simp [nilE]⟩⟩
    · rename_i h0; injection hk with hk; subst hk; subst h0; exact ⟨trivial, .inr ⟨_, rfl, rfl, rfl, by simp [nilE]⟩⟩
    · cases hk
def roB (k : Nat) : Nat := if k = 3 then 5 else k
theorem fin_lstB (S : Stat) (p : RoP) (E : Env) (h : roF p p.A = p.F p.A) : FinOk S (.slr 5 (p.F p.A).length 5 false, (5, .rows (.int .i64 (p.F p.A))) :: p.hp1, 6) p.rB 3 E (mvE E 3 5) roB := by
  unfold RoP.rB
  rw [h]
  refine ⟨fun k hk => ?_, by simp [SV.den, mvE, Env.place], fun k x hk => ?_, fun k k' x x' hne hk hk' hp hp' => ?_⟩
  · have : k ≠ 3 := by omega
    simp [mvE, this]
  · unfold RoP.hp0 at hk
    simp only [Heap.get_cons] at hk
    repeat' split at hk
    · rename_i h0; injection hk with hk; subst hk; subst h0; exact ⟨trivial, .inr ⟨_, rfl, rfl, rfl, by simp [mvE, roB]⟩⟩
    · rename_i h0; injection hk with hk; subst hk; subst h0; exact ⟨trivial, .inr ⟨_, rfl, rfl, rfl, by simp [mvE, roB]⟩⟩
    · rename_i h0; injection hk with hk; subst hk; subst h0; exact ⟨trivial, .inr ⟨_, rfl, rfl, by simp [SV.cells, SV.cellss, mvE, Env.place], by simp [mvE, roB]⟩⟩
    · rename_i h0; injection hk with hk; subst hk; subst h0; exact ⟨trivial, .inr ⟨_, rfl, rfl, rfl, by simp [mvE, roB]⟩⟩
    · cases hk
  · have key : ∀ k x, Heap.get ((3, .rows (.int .i64 (p.F p.A))) :: p.hp0) k = some x → k < 4 := by
      intro k x hk
      unfold RoP.hp0 at hk
      simp only [Heap.get_cons] at hk
      repeat' split at hk
      all_goals first | omega | cases hk
    have := key k x hk
    have := key k' x' hk'
    unfold roB
    split <;> split <;> omega
theorem routB_ok : CanonOk 40 gROutB := by
  refine canon_fin cRoB_fam Try.func40 (by kernel_rfl) roBLs (by kernel_rfl) (by kernel_rfl) roBLs_ok ?_
  intro S args H m r hr
  unfold gROutB at hr
  split at hr
  · rename_i p hp
    obtain ⟨rfl, rfl⟩ := roOf_ok hp
    cases hb : (((S.ro 0 || S.ro 1) || S.ro 2) || !(Nat.beq m 3)) with
    | true => rw [hb] at hr; cases hr
    | false =>
      rw [hb] at hr
      simp only [cond_false] at hr
      obtain ⟨hc, hr⟩ := Out.ite_bad hr
      simp only [Out.sel, Option.some.injEq] at hr
      subst hr
      simp only [Bool.or_eq_false_iff, Bool.not_eq_false'] at hb
      obtain ⟨⟨⟨r0, r1⟩, r2⟩, hm⟩ := hb
      have := Nat.eq_of_beq_eq_true hm; subst this
      refine ⟨fun k z hk => ?_, fun E => by simp [SV.dens, RoP.bx, Bri.sv, SV.den, SV.cells, SV.cellss, Stat.wt, SV.den_agg], rfl, by show 3 ≤ 4; omega, 20, ?_⟩
      · unfold RoP.hp0 at hk
        simp only [Heap.get_cons] at hk
        repeat' split at hk
        all_goals first | (subst_vars; assumption) | cases hk
      · unfold RoP.okB at hc
        simp only [Bool.and_eq_true] at hc
        obtain ⟨⟨hlp, hfd⟩, hcase⟩ := hc
        cases ho : p.out with
        | true =>
          have hF : roF p p.A = [] := by unfold roF RoP.dead; rw [ho]; rfl
          exact ⟨3, _, Out.way_sel (ro_1 S p) (by rw [ho]), fun E => ⟨_, _, fin_nilB S p E hF⟩⟩
        | false =>
          have hlp' := of_decide_eq_true hlp
          have hin : inW p.n p.i = true ∧ decide (p.i.toNat < p.ps.length) = true := by
            unfold RoP.out at ho
            simp only [Bool.or_eq_false_iff, decide_eq_false_iff_not] at ho
            unfold inW
            simp only [Bool.and_eq_true, decide_eq_true_eq]
            omega
          cases hno : p.no with
          | true =>
            have hF : roF p p.A = [] := by unfold roF RoP.dead; rw [ho, hno]; rfl
            exact ⟨3, _, Out.way_sel (ro_2 S p) (by unfold RoP.hd; rw [ho, hin.1, hin.2, hno]), fun E => ⟨_, _, fin_nilB S p E hF⟩⟩
          | false =>
            have hhd : p.hd = [false, true, true, false] := by unfold RoP.hd; rw [ho, hin.1, hin.2, hno]
            have hdead : p.dead = false := by unfold RoP.dead; rw [ho, hno]; rfl
            rw [hdead] at hcase
            cases hfw : p.pt.flags.forwarding with
            | false =>
              have hF : roF p p.A = [] := by unfold roF; rw [hdead, hfw]; rfl
              cases hl : p.pt.flags.learning with
              | false => exact ⟨3, _, Out.way_sel (ro_5 S p) (by rw [hhd, hl, hfw]; rfl), fun E => ⟨_, _, fin_nilB S p E hF⟩⟩
              | true =>
                rw [hl] at hcase
                have hbad : badR p.s p.i = true := by simpa using hcase
                exact ⟨3, _, Out.way_sel (ro_3 S p) (by rw [hhd, hl, hfw, hbad]; rfl), fun E => ⟨_, _, fin_nilB S p E hF⟩⟩
            | true =>
              have hF : roF p p.A = p.F p.A := by unfold roF; rw [hdead, hfw]; rfl
              cases hl : p.pt.flags.learning with
              | false => exact ⟨6, _, Out.way_sel (ro_6 S p) (by rw [hhd, hl, hfw, hfd, hlp]; rfl), fun E => ⟨_, _, fin_lstB S p E hF⟩⟩
              | true =>
                rw [hl] at hcase
                have hbad : badR p.s p.i = true := by simpa using hcase
                exact ⟨6, _, Out.way_sel (ro_4 S p) (by rw [hhd, hl, hfw, hbad, hfd, hlp]; rfl), fun E => ⟨_, _, fin_lstB S p E hF⟩⟩
  · cases hr
def nilG (E : Env) : Env := ⟨fun k => if k = 3 then E.ad 5 else E.ad k, fun k => if k = 4 then (0, true) else if k = 3 then E.cp 5 else E.cp k⟩
def mvG (E : Env) : Env := ⟨fun k => if k = 4 then E.ad 6 else if k = 3 then E.ad 5 else E.ad k, fun k => if k = 4 then E.cp 6 else if k = 3 then E.cp 5 else E.cp k⟩
def roG (k : Nat) : Nat := if k = 4 then 6 else if k = 3 then 5 else k
theorem fin_nilG (S : Stat) (p : RoP) (E : Env) (h : roF p p.A' = []) : FinOk S (.v (.slice none 0 0), (4, .rcd (.port p.pt)) :: (3, p.bx) :: (0, .rows (.port p.ps)) :: (1, .agg [.v (.int .i64 p.x), .v (.int .i64 p.y), .slr 5 p.A'.length 5 false]) :: (2, .rows (.entry p.A)) :: (5, .rows (.entry p.A')) :: [], 6) p.rG 3 E (nilG E) roG := by
  unfold RoP.rG
  rw [h]
  refine ⟨fun k hk => ?_, by simp [SV.den, nilG], fun k x hk => ?_, fun k k' x x' hne hk hk' hp hp' => ?_⟩
  · have h3 : k ≠ 3 := by omega
    have h4 : k ≠ 4 := by omega
    simp [nilG, h3, h4]
  · simp only [Heap.get_cons] at hk
    repeat' split at hk
    · injection hk with hk; subst hk; exact ⟨trivial, .inl rfl⟩
    · rename_i h0; injection hk with hk; subst hk; subst h0; exact ⟨trivial, .inr ⟨_, rfl, rfl, rfl, by simp [nilG, roG]⟩⟩
    · rename_i h0; injection hk with hk; subst hk; subst h0; exact ⟨trivial, .inr ⟨_, rfl, rfl, rfl, by simp [nilG, roG]⟩⟩
    · rename_i h0; injection hk with hk; subst hk; subst h0; exact ⟨trivial, .inr ⟨_, rfl, rfl, by simp [SV.cells, SV.cellss, nilG, Env.place], by simp [nilG, roG]⟩⟩
    · rename_i h0; injection hk with hk; subst hk; subst h0; exact ⟨trivial, .inr ⟨_, rfl, rfl, rfl, by simp [nilG, roG]⟩⟩
    · cases hk
  · have key : ∀ k x, Heap.get ((4, .rows (.int .i64 [])) :: (3, .rows (.entry p.A')) :: (0, .rows (.port p.ps)) :: (1, .agg [.v (.int .i64 p.x), .v (.int .i64 p.y), .slr 3 p.A'.length 3 false]) :: (2, .rows (.entry p.A)) :: []) k = some x → k < 5 := by
      intro k x hk
      simp only [Heap.get_cons] at hk
      repeat' split at hk
      all_goals first | omega | cases hk
    have := key k x hk
    have := key k' x' hk'
    unfold roG
    repeat' split
    all_goals omega
theorem fin_lstG (S : Stat) (p : RoP) (E : Env) (h : roF p p.A' = p.F p.A') : FinOk S (.slr 6 (p.F p.A').length 6 false, (6, .rows (.int .i64 (p.F p.A'))) :: p.hp2, 7) p.rG 3 E (mvG E) roG := by
  unfold RoP.rG
  rw [h]
  refine ⟨fun k hk => ?_, by simp [SV.den, mvG, Env.place], fun k x hk => ?_, fun k k' x x' hne hk hk' hp hp' => ?_⟩
  · have h3 : k ≠ 3 := by omega
    have h4 : k ≠ 4 := by omega
    simp [mvG, h3, h4]
  · simp only [Heap.get_cons] at hk
    repeat' split at hk
    · rename_i h0; injection hk with hk; subst hk; subst h0; exact ⟨trivial, .inr ⟨_, rfl, rfl, rfl, by simp [mvG, roG]⟩⟩
    · rename_i h0; injection hk with hk; subst hk; subst h0; exact ⟨trivial, .inr ⟨_, rfl, rfl, rfl, by simp [mvG, roG]⟩⟩
    · rename_i h0; injection hk with hk; subst hk; subst h0; exact ⟨trivial, .inr ⟨_, rfl, rfl, rfl, by simp [mvG, roG]⟩⟩
    · rename_i h0; injection hk with hk; subst hk; subst h0; exact ⟨trivial, .inr ⟨_, rfl, rfl, by simp [SV.cells, SV.cellss, mvG, Env.place], by simp [mvG, roG]⟩⟩
    · rename_i h0; injection hk with hk; subst hk; subst h0; exact ⟨trivial, .inr ⟨_, rfl, rfl, rfl, by simp [mvG, roG]⟩⟩
    · cases hk
  · have key : ∀ k x, Heap.get ((4, .rows (.int .i64 (p.F p.A'))) :: (3, .rows (.entry p.A')) :: (0, .rows (.port p.ps)) :: (1, .agg [.v (.int .i64 p.x), .v (.int .i64 p.y), .slr 3 p.A'.length 3 false]) :: (2, .rows (.entry p.A)) :: []) k = some x → k < 5 := by
      intro k x hk
      simp only [Heap.get_cons] at hk
      repeat' split at hk
      all_goals first | omega | cases hk
    have := key k x hk
    have := key k' x' hk'
    unfold roG
    repeat' split
    all_goals omega
theorem routG_ok : CanonOk 40 gROutG := by
  refine canon_fin cRoG_fam Try.func40 (by kernel_rfl) roGLs (by kernel_rfl) (by kernel_rfl) roGLs_ok ?_
  intro S args H m r hr
  unfold gROutG at hr
  split at hr
  · rename_i p hp
    obtain ⟨rfl, rfl⟩ := roOf_ok hp
    cases hb : (((S.ro 0 || S.ro 1) || S.ro 2) || !(Nat.beq m 3)) with
    | true => rw [hb] at hr; cases hr
    | false =>
      rw [hb] at hr
      simp only [cond_false] at hr
      obtain ⟨hc, hr⟩ := Out.ite_bad hr
      simp only [Out.sel, Option.some.injEq] at hr
      subst hr
      simp only [Bool.or_eq_false_iff, Bool.not_eq_false'] at hb
      obtain ⟨⟨⟨r0, r1⟩, r2⟩, hm⟩ := hb
      have := Nat.eq_of_beq_eq_true hm; subst this
      refine ⟨fun k z hk => ?_, fun E => by simp [SV.dens, RoP.bx, Bri.sv, SV.den, SV.cells, SV.cellss, Stat.wt, SV.den_agg], rfl, by show 3 ≤ 5; omega, 20, ?_⟩
      · unfold RoP.hp0 at hk
        simp only [Heap.get_cons] at hk
        repeat' split at hk
        all_goals first | (subst_vars; assumption) | cases hk
      · unfold RoP.okG at hc
        simp only [Bool.and_eq_true, Bool.not_eq_true'] at hc
        obtain ⟨⟨hlp, hfd⟩, ⟨hdead, hl⟩, hlt, hla⟩ := hc
        have hd2 := hdead
        unfold RoP.dead at hd2
        simp only [Bool.or_eq_false_iff] at hd2
        obtain ⟨ho, hno⟩ := hd2
        have hlp' := of_decide_eq_true hlp
        have hla' := of_decide_eq_true hla
        have hin : inW p.n p.i = true ∧ decide (p.i.toNat < p.ps.length) = true := by
          have ho' := ho
          unfold RoP.out at ho'
          simp only [Bool.or_eq_false_iff, decide_eq_false_iff_not] at ho'
          unfold inW
          simp only [Bool.and_eq_true, decide_eq_true_eq]
          omega
        have hhd : p.hd = [false, true, true, false] := by unfold RoP.hd; rw [ho, hin.1, hin.2, hno]
        have hA : decide (p.A'.length = p.A'.length ∧ p.A'.length ≤ 67108864) = true := decide_eq_true ⟨rfl, hla'⟩
        have hld : p.ld = true := decide_eq_true ⟨hlp'.1, hlp'.2, rfl⟩
        cases hfw : p.pt.flags.forwarding with
        | false =>
          have hF : roF p p.A' = [] := by unfold roF; rw [hdead, hfw]; rfl
          exact ⟨6, _, Out.way_sel (ro_7 S p) (by rw [hhd, hl, hfw, hlt]; rfl), fun E => ⟨_, _, fin_nilG S p E hF⟩⟩
        | true =>
          have hF : roF p p.A' = p.F p.A' := by unfold roF; rw [hdead, hfw]; rfl
          exact ⟨7, _, Out.way_sel (ro_8 S p) (by rw [hhd, hl, hfw, hlt, hA, hld]; rfl), fun E => ⟨_, _, fin_lstG S p E hF⟩⟩
  · cases hr
end
end Go.Proofs.Ytfncoeoaniclmaa
