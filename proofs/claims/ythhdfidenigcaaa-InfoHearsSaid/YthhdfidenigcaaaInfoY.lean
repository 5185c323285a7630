/- fordlaw13.InfoHears. -/
import Derived.Test.YthhdfidenigcaaaInfoX
set_option linter.unusedVariables false
set_option maxRecDepth 100000
namespace Go.Proofs.Ythhdfidenigcaaa
open Go Go.RowKit

noncomputable def iheO (S : Stat) (q : InP) (k : Int) (m : Msg) : Out SV := valF 3 (inline (withLoops (cV (S.rd 0 3)) []) 20 (fnOf 15) [q.arg, .v (.int .u8 k), .rcd (.msg m)] q.heap 3)
def inMsgP (m : Msg) (p : Port) : Port := { p with msg := m }
def cfgP (p : Port) : Port := { p with msg := { p.msg with kind := 0 } }
def maxP (p : Port) : Port := { p with clocks := { p.clocks with rcvdInfo := if p.clocks.rcvdInfo > 1 then p.clocks.rcvdInfo else 1 } }
def h3 (q : InP) (k : Int) : List Port := upd (k2 q k) (iN q k) noUpP
def h4 (q : InP) (k : Int) : List Port := upd (h3 q k) (iN q k) gotP
def h5 (q : InP) (k : Int) (m : Msg) : List Port := upd (h4 q k) (iN q k) (inMsgP m)
def h6 (q : InP) (k : Int) (m : Msg) : List Port := upd (h5 q k m) (iN q k) cfgP
def h7 (q : InP) (k : Int) (m : Msg) : List Port := upd (h6 q k m) (iN q k) maxP
def heLess (q : InP) (k : Int) (m : Msg) (l : List Port) : Bool :=
  let p := (stepL q k l).getD (iN q k) Port.dflt
  didL q k l && decide (p.vec = m.vec) && decide (p.times = m.times) && p.is_ == 3 && p.clocks.rcvdInfo == waitsR m.times && p.flags.reselect && !p.flags.selected && !p.flags.rcvdMsg
def heSup (q : InP) (k : Int) (m : Msg) (l : List Port) : Bool :=
  let p := (stepL q k l).getD (iN q k) Port.dflt
  didL q k l && !p.flags.rcvdMsg && p.clocks.rcvdInfo == waitsR m.times
def heNot (q : InP) (k : Int) (m : Msg) (l : List Port) : Bool :=
  let w := l.getD (iN q k) Port.dflt
  let p := (stepL q k l).getD (iN q k) Port.dflt
  didL q k l && !p.flags.rcvdMsg && decide (p.vec = w.vec) && decide (p.times = w.times) && p.is_ == w.is_ && decide (p.clocks = w.clocks) && p.flags.selected == w.flags.selected
def heHead (q : InP) (k : Int) (m : Msg) : List Bool := [q.len, !(fewF q) || !(fewT m.times), !((q.ps.length : Int) == 0)] ++ q.big ++
  [rng0 q k, inL q k q.ps, inL q k (k1 q k), inL q k (k2 q k), inL q k (h3 q k), inL q k (h4 q k), inL q k (h5 q k m), inL q k (h6 q k m), ((h6 q k m).getD (iN q k) Port.dflt).is_ == 3]
def heTail (q : InP) (k : Int) (m : Msg) (l : List Port) : List Bool := [inL q k l, rngL q k l, rng0 q k, inL q k (stepL q k l), lessV m.vec (l.getD (iN q k) Port.dflt).vec]
theorem ihe_no (S : Stat) (q : InP) (k : Int) (m : Msg) : Out.way [true, true] (iheO S q k m) = some ([q.len, !(fewF q) || !(fewT m.times)], .kb true) := by kernel_rfl
theorem ihe_1 (S : Stat) (q : InP) (k : Int) (m : Msg) : Out.way [true, false, true, true, true, true, true, true, true, true, true, true, true, true, true, true, true, true, true, true, true, true] (iheO S q k m) =
    some (heHead q k m ++ [inL q k (h6 q k m), inL q k (h6 q k m)] ++ heTail q k m (h7 q k m), .v (.bool (heLess q k m (h7 q k m)))) := by kernel_rfl
theorem ihe_2 (S : Stat) (q : InP) (k : Int) (m : Msg) : Out.way [true, false, true, true, true, true, true, true, true, true, true, true, true, true, true, true, true, true, true, true, true, false, true] (iheO S q k m) =
    some (heHead q k m ++ [inL q k (h6 q k m), inL q k (h6 q k m)] ++ heTail q k m (h7 q k m) ++ [refSupV m.vec ((h7 q k m).getD (iN q k) Port.dflt).vec], .v (.bool (heSup q k m (h7 q k m)))) := by kernel_rfl
theorem ihe_3 (S : Stat) (q : InP) (k : Int) (m : Msg) : Out.way [true, false, true, true, true, true, true, true, true, true, true, true, true, true, true, true, true, true, true, true, true, false, false] (iheO S q k m) =
    some (heHead q k m ++ [inL q k (h6 q k m), inL q k (h6 q k m)] ++ heTail q k m (h7 q k m) ++ [refSupV m.vec ((h7 q k m).getD (iN q k) Port.dflt).vec], .v (.bool (heNot q k m (h7 q k m)))) := by kernel_rfl
theorem ihe_4 (S : Stat) (q : InP) (k : Int) (m : Msg) : Out.way [true, false, true, true, true, true, true, true, true, true, true, true, true, true, false, true, true, true, true, true] (iheO S q k m) =
    some (heHead q k m ++ heTail q k m (h6 q k m), .v (.bool (heLess q k m (h6 q k m)))) := by kernel_rfl
theorem ihe_5 (S : Stat) (q : InP) (k : Int) (m : Msg) : Out.way [true, false, true, true, true, true, true, true, true, true, true, true, true, true, false, true, true, true, true, false, true] (iheO S q k m) =
    some (heHead q k m ++ heTail q k m (h6 q k m) ++ [refSupV m.vec ((h6 q k m).getD (iN q k) Port.dflt).vec], .v (.bool (heSup q k m (h6 q k m)))) := by kernel_rfl
theorem ihe_6 (S : Stat) (q : InP) (k : Int) (m : Msg) : Out.way [true, false, true, true, true, true, true, true, true, true, true, true, true, true, false, true, true, true, true, false, false] (iheO S q k m) =
    some (heHead q k m ++ heTail q k m (h6 q k m) ++ [refSupV m.vec ((h6 q k m).getD (iN q k) Port.dflt).vec], .v (.bool (heNot q k m (h6 q k m)))) := by kernel_rfl
/-- a port that is about to hear of m -/
structure Hears (m : Msg) (w : Port) : Prop where
  en : w.enabled = true
  st : w.states.info = 2
  up : w.flags.updtInfo = false
  got : w.flags.rcvdMsg = true
  kind : w.msg.kind = 0
  vec : w.msg.vec = m.vec
  times : w.msg.times = m.times
theorem Hears.class {m : Msg} {w : Port} (h : Hears m w) : classI w = if (fourI m.vec w.vec == 0 && decide (m.times = w.times)) = true then 1 else if supV m.vec w.vec = true then 0 else 2 := by
  have ht : tellsM w.msg = true := by unfold tellsM; rw [h.kind]; rfl
  unfold classI
  rw [ht, h.vec, h.times]
  simp
theorem sup_of_zero {a b : Vec} (h : fourI a b = 0) : supV a b = true := by
  obtain ⟨_, _, h3, h4⟩ := (fourI_zero a b).1 h
  unfold supV
  rw [h3, h4]
  simp
theorem Hears.step {q : InP} {k : Int} {m : Msg} {l : List Port} (hn : iN q k < l.length) (h : Hears m (l.getD (iN q k) Port.dflt)) :
    didL q k l = true ∧ (stepL q k l).getD (iN q k) Port.dflt = heardP (hearP q.b.rst (l.getD (iN q k) Port.dflt)) := by
  have e := infoF_hear (b := q.b) h.en h.st h.up h.got
  unfold didL stepL
  rw [upd_get hn, e]
  exact ⟨rfl, rfl⟩
theorem he_less {q : InP} {k : Int} {m : Msg} {l : List Port} (hn : iN q k < l.length) (h : Hears m (l.getD (iN q k) Port.dflt)) (ht : fewT m.times = true) (hl : lessV m.vec (l.getD (iN q k) Port.dflt).vec = true) : heLess q k m l = true := by
  obtain ⟨e1, e2⟩ := h.step hn
  unfold heLess
  rw [e1, e2]
  generalize l.getD (iN q k) Port.dflt = w at h hl
  have hc : classI w = 0 := by
    rw [h.class]
    rw [lessV_iff] at hl
    have hlt : fourI m.vec w.vec < 0 := by simpa using hl
    have h0 : (fourI m.vec w.vec == 0) = false := by
      cases hb : (fourI m.vec w.vec == 0) with
      | false => rfl
      | true => have := beq_iff_eq.1 hb; omega
    rw [h0]
    simp [supV, hlt]
  unfold hearP
  rw [hc, waits_eq ht]
  simp [superiorP, againP, supC, supB, supA, agreementP, changesP, proposalP, heardP, h.vec, h.times]
theorem he_sup {q : InP} {k : Int} {m : Msg} {l : List Port} (hn : iN q k < l.length) (h : Hears m (l.getD (iN q k) Port.dflt)) (ht : fewT m.times = true) (hs : supV m.vec (l.getD (iN q k) Port.dflt).vec = true) : heSup q k m l = true := by
  obtain ⟨e1, e2⟩ := h.step hn
  unfold heSup
  rw [e1, e2]
  generalize l.getD (iN q k) Port.dflt = w at h hs
  have hc : classI w = 0 ∨ classI w = 1 := by
    rw [h.class, hs]
    split <;> simp
  unfold hearP
  rcases hc with hc | hc <;> rw [hc, waits_eq ht]
  · simp [superiorP, againP, supC, supB, supA, agreementP, changesP, proposalP, heardP, h.times]
  · simp [repeatedP, agreementP, changesP, proposalP, heardP, h.times]
theorem he_not {q : InP} {k : Int} {m : Msg} {l : List Port} (hn : iN q k < l.length) (h : Hears m (l.getD (iN q k) Port.dflt)) (hs : supV m.vec (l.getD (iN q k) Port.dflt).vec = false) : heNot q k m l = true := by
  obtain ⟨e1, e2⟩ := h.step hn
  unfold heNot
  rw [e1, e2]
  generalize l.getD (iN q k) Port.dflt = w at h hs
  have h0 : (fourI m.vec w.vec == 0) = false := by
    cases hb : (fourI m.vec w.vec == 0) with
    | false => rfl
    | true => rw [sup_of_zero (beq_iff_eq.1 hb)] at hs; cases hs
  have hc : classI w = 2 := by
    rw [h.class, hs, h0]
    simp
  unfold hearP
  rw [hc, h.kind]
  simp [heardP]
theorem he_len (q : InP) (k : Int) (m : Msg) : (h3 q k).length = q.ps.length ∧ (h4 q k).length = q.ps.length ∧ (h5 q k m).length = q.ps.length ∧ (h6 q k m).length = q.ps.length ∧ (h7 q k m).length = q.ps.length := by
  simp [k1, k2, h3, h4, h5, h6, h7, upd_len]
theorem he_get6 {q : InP} {k : Int} (m : Msg) (hn : iN q k < q.ps.length) : (h6 q k m).getD (iN q k) Port.dflt = cfgP (inMsgP m (gotP (noUpP (curP (enP (q.ps.getD (iN q k) Port.dflt)))))) := by
  obtain ⟨l1, l2, _⟩ := kp_len q k
  obtain ⟨l3, l4, l5, l6, l7⟩ := he_len q k m
  unfold h6
  rw [upd_get (by omega)]
  unfold h5
  rw [upd_get (by omega)]
  unfold h4
  rw [upd_get (by omega)]
  unfold h3
  rw [upd_get (by omega)]
  unfold k2
  rw [upd_get (by omega)]
  unfold k1
  rw [upd_get hn]
theorem he_get7 {q : InP} {k : Int} (m : Msg) (hn : iN q k < q.ps.length) : (h7 q k m).getD (iN q k) Port.dflt = maxP (cfgP (inMsgP m (gotP (noUpP (curP (enP (q.ps.getD (iN q k) Port.dflt))))))) := by
  obtain ⟨l3, l4, l5, l6, l7⟩ := he_len q k m
  unfold h7
  rw [upd_get (by omega), he_get6 m hn]
theorem ihe_true (S : Stat) (q : InP) (k : Int) (m : Msg) (hl : q.ps.length < 9223372036854775808) (h : q.Wf) (hk : (Lit.int .u8 k).wf = true) (hm : m.vec.Wf) : ∃ v, (iheO S q k m).sel = some v ∧ ∀ S E, v.den S E = .bool true := by
  cases hft : (!(fewF q) || !(fewT m.times)) with
  | true => exact ⟨_, Out.way_sel (ihe_no S q k m) (by rw [hft]; simp [InP.len, hl]), fun _ _ => rfl⟩
  | false =>
    have hf : fewF q = true := by cases hx : fewF q <;> simp_all
    have ht : fewT m.times = true := by cases hx : fewT m.times <;> simp_all
    have r := ready hl hk hf
    obtain ⟨l1, l2, _⟩ := kp_len q k
    obtain ⟨l3, l4, l5, l6, l7⟩ := he_len q k m
    have g6 := he_get6 m r.n
    have g7 := he_get7 m r.n
    have w6 : Hears m ((h6 q k m).getD (iN q k) Port.dflt) := by rw [g6]; exact ⟨rfl, rfl, rfl, rfl, rfl, rfl, rfl⟩
    have w7 : Hears m ((h7 q k m).getD (iN q k) Port.dflt) := by rw [g7]; exact ⟨rfl, rfl, rfl, rfl, rfl, rfl, rfl⟩
    have v6 : ((h6 q k m).getD (iN q k) Port.dflt).vec.Wf := by rw [g6]; exact (h.ps _ r.mem).vec
    have v7 : ((h7 q k m).getD (iN q k) Port.dflt).vec.Wf := by rw [g7]; exact (h.ps _ r.mem).vec
    have hn6 : iN q k < (h6 q k m).length := by rw [l6]; exact r.n
    have hn7 : iN q k < (h7 q k m).length := by rw [l7]; exact r.n
    have r0 := r.head
    simp only [iHead, List.cons_append, List.nil_append, List.cons.injEq] at r0
    obtain ⟨r1, r2, r3, r4⟩ := r0
    have hhead : ∀ b : Bool, (((h6 q k m).getD (iN q k) Port.dflt).is_ == 3) = b → heHead q k m = [true, false, true, true, true, true, true, true, true, true, true, true, true, true, b] := by
      intro b hb
      unfold heHead
      rw [hb, hft, r1, r3, r4]
      simp [r.l0, (r.ll _ rfl).2, (r.ll _ l1).2, (r.ll _ l2).2, (r.ll _ l3).2, (r.ll _ l4).2, (r.ll _ l5).2, (r.ll _ l6).2]
    have htail : ∀ l c, l.length = q.ps.length → lessV m.vec (l.getD (iN q k) Port.dflt).vec = c → heTail q k m l = [true, true, true, true, c] := by
      intro l c hl hc
      unfold heTail
      rw [hc]
      simp [r.l0, (r.ll _ hl).1, (r.ll _ hl).2, (r.ll _ ((stepL_len q k l).trans hl)).2]
    cases h3 : ((h6 q k m).getD (iN q k) Port.dflt).is_ == 3 with
    | true =>
      cases hc : lessV m.vec ((h7 q k m).getD (iN q k) Port.dflt).vec with
      | true =>
        refine ⟨_, Out.way_sel (ihe_1 S q k m) (by rw [hhead _ h3, htail _ _ l7 hc, (r.ll _ l6).2]; rfl), fun S E => ?_⟩
        simp only [SV.den]; rw [he_less hn7 w7 ht hc]
      | false =>
        cases hs : refSupV m.vec ((h7 q k m).getD (iN q k) Port.dflt).vec with
        | true =>
          refine ⟨_, Out.way_sel (ihe_2 S q k m) (by rw [hhead _ h3, htail _ _ l7 hc, (r.ll _ l6).2, hs]; rfl), fun S E => ?_⟩
          rw [refSupV_eq hm v7] at hs
          simp only [SV.den]; rw [he_sup hn7 w7 ht hs]
        | false =>
          refine ⟨_, Out.way_sel (ihe_3 S q k m) (by rw [hhead _ h3, htail _ _ l7 hc, (r.ll _ l6).2, hs]; rfl), fun S E => ?_⟩
          rw [refSupV_eq hm v7] at hs
          simp only [SV.den]; rw [he_not hn7 w7 hs]
    | false =>
      cases hc : lessV m.vec ((h6 q k m).getD (iN q k) Port.dflt).vec with
      | true =>
        refine ⟨_, Out.way_sel (ihe_4 S q k m) (by rw [hhead _ h3, htail _ _ l6 hc]; rfl), fun S E => ?_⟩
        simp only [SV.den]; rw [he_less hn6 w6 ht hc]
      | false =>
        cases hs : refSupV m.vec ((h6 q k m).getD (iN q k) Port.dflt).vec with
        | true =>
          refine ⟨_, Out.way_sel (ihe_5 S q k m) (by rw [hhead _ h3, htail _ _ l6 hc, hs]; rfl), fun S E => ?_⟩
          rw [refSupV_eq hm v6] at hs
          simp only [SV.den]; rw [he_sup hn6 w6 ht hs]
        | false =>
          refine ⟨_, Out.way_sel (ihe_6 S q k m) (by rw [hhead _ h3, htail _ _ l6 hc, hs]; rfl), fun S E => ?_⟩
          rw [refSupV_eq hm v6] at hs
          simp only [SV.den]; rw [he_not hn6 w6 hs]
end Go.Proofs.Ythhdfidenigcaaa
