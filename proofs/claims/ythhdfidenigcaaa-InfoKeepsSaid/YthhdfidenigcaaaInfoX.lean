/- fordlaw13.InfoKeeps and InfoAges. -/
import Derived.Test.YthhdfidenigcaaaInfoW
set_option linter.unusedVariables false
set_option maxRecDepth 100000
namespace Go.Proofs.Ythhdfidenigcaaa
open Go Go.RowKit

/-! ### InfoKeeps -/
noncomputable def ikpO (S : Stat) (q : InP) (k : Int) : Out SV := valF 3 (inline (withLoops (cV (S.rd 0 3)) []) 20 (fnOf 19) [q.arg, .v (.int .u8 k)] q.heap 3)
def enP (p : Port) : Port := { p with enabled := true }
def curP (p : Port) : Port := { p with states := { p.states with info := 2 } }
def recP (p : Port) : Port := { p with is_ := 3 }
def noUpP (p : Port) : Port := { p with flags := { p.flags with updtInfo := false } }
def gotP (p : Port) : Port := { p with flags := { p.flags with rcvdMsg := true } }
def ownMsgP (p : Port) : Port := { p with msg := ⟨0, false, false, false, false, false, false, 0, p.vec, p.times⟩ }
def k1 (q : InP) (k : Int) : List Port := upd q.ps (iN q k) enP
def k2 (q : InP) (k : Int) : List Port := upd (k1 q k) (iN q k) curP
def k3 (q : InP) (k : Int) : List Port := upd (k2 q k) (iN q k) recP
def k4 (q : InP) (k : Int) : List Port := upd (k3 q k) (iN q k) noUpP
def k5 (q : InP) (k : Int) : List Port := upd (k4 q k) (iN q k) gotP
def k6 (q : InP) (k : Int) : List Port := upd (k5 q k) (iN q k) ownMsgP
def kpSays (q : InP) (k : Int) : Bool :=
  let w := (k6 q k).getD (iN q k) Port.dflt
  let p := (stepL q k (k6 q k)).getD (iN q k) Port.dflt
  didL q k (k6 q k) && classI w == 1 && decide (p.vec = w.vec) && decide (p.times = w.times) && p.is_ == w.is_ && p.clocks.rcvdInfo == waitsR w.times && p.flags.selected == w.flags.selected && p.flags.reselect == w.flags.reselect && !p.flags.rcvdMsg
theorem ikp_no (S : Stat) (q : InP) (k : Int) : Out.way [true, true] (ikpO S q k) = some ([q.len, !(fewF q)], .kb true) := by kernel_rfl
theorem ikp_yes (S : Stat) (q : InP) (k : Int) : Out.way [true, false, true, true, true, true, true, true, true, true, true, true, true, true, true, true, true] (ikpO S q k) =
    some (iHead q ++ q.big ++ [rng0 q k, inL q k q.ps, inL q k (k1 q k), inL q k (k2 q k), inL q k (k3 q k), inL q k (k4 q k), inL q k (k5 q k) && (inL q k (k5 q k) && inL q k (k5 q k)), inL q k (k6 q k), rngL q k (k6 q k), rng0 q k, inL q k (stepL q k (k6 q k))],
      .v (.bool (kpSays q k))) := by kernel_rfl

theorem kp_len (q : InP) (k : Int) : (k1 q k).length = q.ps.length ∧ (k2 q k).length = q.ps.length ∧ (k3 q k).length = q.ps.length ∧ (k4 q k).length = q.ps.length ∧ (k5 q k).length = q.ps.length ∧ (k6 q k).length = q.ps.length := by
  simp [k1, k2, k3, k4, k5, k6, upd_len]
theorem kp_get {q : InP} {k : Int} (hn : iN q k < q.ps.length) : (k6 q k).getD (iN q k) Port.dflt = ownMsgP (gotP (noUpP (recP (curP (enP (q.ps.getD (iN q k) Port.dflt)))))) := by
  obtain ⟨l1, l2, l3, l4, l5, l6⟩ := kp_len q k
  unfold k6
  rw [upd_get (by omega)]
  unfold k5
  rw [upd_get (by omega)]
  unfold k4
  rw [upd_get (by omega)]
  unfold k3
  rw [upd_get (by omega)]
  unfold k2
  rw [upd_get (by omega)]
  unfold k1
  rw [upd_get hn]
theorem fourI_self (v : Vec) : fourI v v = 0 := by unfold fourI cmpI; simp
/-- a port that hears, with nothing else in hand -/
theorem infoF_hear {b : Bri} {p : Port} (h1 : p.enabled = true) (h2 : p.states.info = 2) (h3 : p.flags.updtInfo = false) (h4 : p.flags.rcvdMsg = true) : infoF b p = (heardP (hearP b.rst p), true) := by
  unfold infoF toldP
  simp [h1, h2, h3, h4]
theorem kp_says {q : InP} {k : Int} (hn : iN q k < q.ps.length) (hf : fewT (q.ps.getD (iN q k) Port.dflt).times = true) : kpSays q k = true := by
  have hg := kp_get hn
  have hl := (kp_len q k).2.2.2.2.2
  unfold kpSays didL stepL
  rw [upd_get (by omega), hg]
  generalize q.ps.getD (iN q k) Port.dflt = p at hf
  have e1 : infoF q.b (ownMsgP (gotP (noUpP (recP (curP (enP p)))))) = _ := infoF_hear rfl rfl rfl rfl
  have e2 : classI (ownMsgP (gotP (noUpP (recP (curP (enP p)))))) = 1 := by
    unfold classI
    rw [if_pos]
    show (true && fourI p.vec p.vec == 0 && decide (p.times = p.times)) = true
    rw [fourI_self]
    simp
  dsimp only
  rw [e1]
  unfold hearP
  rw [e2, show waitsR (ownMsgP (gotP (noUpP (recP (curP (enP p)))))).times = waitsI p.times from waits_eq hf]
  simp [repeatedP, heardP, agreementP, changesP, proposalP, ownMsgP, gotP, noUpP, recP, curP, enP]
theorem ikp_true (S : Stat) (q : InP) (k : Int) (hl : q.ps.length < 9223372036854775808) (h : q.Wf) (hk : (Lit.int .u8 k).wf = true) : ∃ v, (ikpO S q k).sel = some v ∧ ∀ S E, v.den S E = .bool true := by
  cases hf : fewF q with
  | false => exact ⟨_, Out.way_sel (ikp_no S q k) (by simp [InP.len, hl, hf]), fun _ _ => rfl⟩
  | true =>
    have r := ready hl hk hf
    obtain ⟨l1, l2, l3, l4, l5, l6⟩ := kp_len q k
    refine ⟨_, Out.way_sel (ikp_yes S q k) ?_, fun S E => ?_⟩
    · rw [r.head]
      simp [r.l0, (r.ll _ rfl).2, (r.ll _ l1).2, (r.ll _ l2).2, (r.ll _ l3).2, (r.ll _ l4).2, (r.ll _ l5).2, (r.ll _ l6).2, (r.ll _ l6).1, (r.ll _ ((stepL_len q k _).trans l6)).2]
    · simp only [SV.den]
      rw [kp_says r.n (few_port r.ok r.mem).times]

/-! ### InfoAges -/
noncomputable def iagO (S : Stat) (q : InP) (k : Int) : Out SV := valF 3 (inline (withLoops (cV (S.rd 0 3)) []) 20 (fnOf 16) [q.arg, .v (.int .u8 k)] q.heap 3)
def overP (p : Port) : Port := { p with clocks := { p.clocks with rcvdInfo := 0 } }
def noMsgP (p : Port) : Port := { p with flags := { p.flags with rcvdMsg := false } }
def selP (p : Port) : Port := { p with flags := { p.flags with selected := true } }
def upP (p : Port) : Port := { p with flags := { p.flags with updtInfo := true } }
def a4 (q : InP) (k : Int) : List Port := upd (k3 q k) (iN q k) overP
def a5 (q : InP) (k : Int) : List Port := upd (a4 q k) (iN q k) noMsgP
def a6 (q : InP) (k : Int) : List Port := upd (a5 q k) (iN q k) noUpP
def a7 (q : InP) (k : Int) : List Port := stepL q k (a6 q k)
def a8 (q : InP) (k : Int) : List Port := upd (a7 q k) (iN q k) selP
def a9 (q : InP) (k : Int) : List Port := upd (a8 q k) (iN q k) upP
def agBad (q : InP) (k : Int) : Bool :=
  let p := (a7 q k).getD (iN q k) Port.dflt
  !(didL q k (a6 q k)) || p.is_ != 1 || !p.flags.reselect || p.flags.selected || p.states.info != 1 || !(decide (p.vec = (q.ps.getD (iN q k) Port.dflt).vec))
def agSays (q : InP) (k : Int) : Bool :=
  let p := (stepL q k (a9 q k)).getD (iN q k) Port.dflt
  didL q k (a9 q k) && p.is_ == 2 && decide (p.vec = p.designated) && decide (p.times = p.desTimes) && p.flags.newInfo && !p.flags.updtInfo && !p.flags.agreed
theorem iag_no (S : Stat) (q : InP) (k : Int) : Out.way [true, true] (iagO S q k) = some ([q.len, !(fewF q)], .kb true) := by kernel_rfl
theorem iag_yes (S : Stat) (q : InP) (k : Int) : Out.way [true, false, true, true, true, true, true, true, true, true, true, true, true, true, true, true, true, false, true, true, true, true, true, true, true] (iagO S q k) =
    some (iHead q ++ q.big ++ [rng0 q k, inL q k q.ps, inL q k (k1 q k), inL q k (k2 q k), inL q k (k3 q k), inL q k (a4 q k), inL q k (a5 q k), rngL q k (a6 q k), rng0 q k, inL q k (a7 q k), rng0 q k && inL q k q.ps, agBad q k,
      rng0 q k, inL q k (a7 q k), rng0 q k, inL q k (a8 q k), rngL q k (a9 q k), rng0 q k, inL q k (stepL q k (a9 q k))],
      .v (.bool (agSays q k))) := by kernel_rfl
theorem ag_len (q : InP) (k : Int) : (a4 q k).length = q.ps.length ∧ (a5 q k).length = q.ps.length ∧ (a6 q k).length = q.ps.length ∧ (a7 q k).length = q.ps.length ∧ (a8 q k).length = q.ps.length ∧ (a9 q k).length = q.ps.length := by
  simp [a4, a5, a6, a7, a8, a9, k1, k2, k3, stepL, upd_len]
theorem ag_get6 {q : InP} {k : Int} (hn : iN q k < q.ps.length) : (a6 q k).getD (iN q k) Port.dflt = noUpP (noMsgP (overP (recP (curP (enP (q.ps.getD (iN q k) Port.dflt)))))) := by
  obtain ⟨l1, l2, l3, _⟩ := kp_len q k
  obtain ⟨l4, l5, l6, _⟩ := ag_len q k
  unfold a6
  rw [upd_get (by omega)]
  unfold a5
  rw [upd_get (by omega)]
  unfold a4
  rw [upd_get (by omega)]
  unfold k3
  rw [upd_get (by omega)]
  unfold k2
  rw [upd_get (by omega)]
  unfold k1
  rw [upd_get hn]
theorem ag_age (b : Bri) (p : Port) : infoF b (noUpP (noMsgP (overP (recP (curP (enP p)))))) = (ageP (noUpP (noMsgP (overP (recP (curP (enP p)))))), true) := by
  unfold infoF toldP
  simp [noUpP, noMsgP, overP, recP, curP, enP]
theorem ag_get7 {q : InP} {k : Int} (hn : iN q k < q.ps.length) : (a7 q k).getD (iN q k) Port.dflt = ageP (noUpP (noMsgP (overP (recP (curP (enP (q.ps.getD (iN q k) Port.dflt))))))) := by
  obtain ⟨l4, l5, l6, _⟩ := ag_len q k
  unfold a7 stepL
  rw [upd_get (by omega), ag_get6 hn, ag_age]
theorem ag_bad {q : InP} {k : Int} (hn : iN q k < q.ps.length) : agBad q k = false := by
  unfold agBad didL
  rw [ag_get7 hn, ag_get6 hn, ag_age]
  simp [ageP, againP, noUpP, noMsgP, overP, recP, curP, enP]
theorem ag_says {q : InP} {k : Int} (hn : iN q k < q.ps.length) : agSays q k = true := by
  obtain ⟨l4, l5, l6, l7, l8, l9⟩ := ag_len q k
  have g9 : (a9 q k).getD (iN q k) Port.dflt = upP (selP (ageP (noUpP (noMsgP (overP (recP (curP (enP (q.ps.getD (iN q k) Port.dflt))))))))) := by
    unfold a9
    rw [upd_get (by omega)]
    unfold a8
    rw [upd_get (by omega), ag_get7 hn]
  unfold agSays didL stepL
  rw [upd_get (by omega), g9]
  generalize q.ps.getD (iN q k) Port.dflt = p
  have e1 : infoF q.b (upP (selP (ageP (noUpP (noMsgP (overP (recP (curP (enP p))))))))) = (updateP (upP (selP (ageP (noUpP (noMsgP (overP (recP (curP (enP p)))))))) ), true) := by
    unfold infoF toldP
    simp [upP, selP, ageP, againP, noUpP, noMsgP, overP, recP, curP, enP]
  dsimp only
  rw [e1]
  simp [updateP, updAgreed, upP, selP, ageP, againP, noUpP, noMsgP, overP, recP, curP, enP]
theorem iag_true (S : Stat) (q : InP) (k : Int) (hl : q.ps.length < 9223372036854775808) (h : q.Wf) (hk : (Lit.int .u8 k).wf = true) : ∃ v, (iagO S q k).sel = some v ∧ ∀ S E, v.den S E = .bool true := by
  cases hf : fewF q with
  | false => exact ⟨_, Out.way_sel (iag_no S q k) (by simp [InP.len, hl, hf]), fun _ _ => rfl⟩
  | true =>
    have r := ready hl hk hf
    obtain ⟨l1, l2, l3, _⟩ := kp_len q k
    obtain ⟨l4, l5, l6, l7, l8, l9⟩ := ag_len q k
    refine ⟨_, Out.way_sel (iag_yes S q k) ?_, fun S E => ?_⟩
    · rw [r.head, ag_bad r.n]
      simp [r.l0, (r.ll _ rfl).2, (r.ll _ l1).2, (r.ll _ l2).2, (r.ll _ l3).2, (r.ll _ l4).2, (r.ll _ l5).2, (r.ll _ l6).1, (r.ll _ l7).2, (r.ll _ l8).2, (r.ll _ l9).1, (r.ll _ ((stepL_len q k _).trans l9)).2]
    · simp only [SV.den]
      rw [ag_says r.n]
end Go.Proofs.Ythhdfidenigcaaa
