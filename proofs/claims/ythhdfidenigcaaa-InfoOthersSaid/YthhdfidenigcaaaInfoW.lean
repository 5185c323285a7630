/- fordlaw13.InfoDown, InfoAges, InfoKeeps, InfoHears: their walks. -/
import Derived.Test.YthhdfidenigcaaaInfoV
set_option linter.unusedVariables false
set_option maxRecDepth 100000
namespace Go.Proofs.Ythhdfidenigcaaa
open Go Go.RowKit

def iN (q : InP) (k : Int) : Nat := (iK q k).toNat
/-- the ports with one turned -/
def upd (l : List Port) (n : Nat) (f : Port → Port) : List Port := l.set n (f (l.getD n Port.dflt))
def rngL (q : InP) (k : Int) (l : List Port) : Bool := decide (q.ps.length = l.length) && (decide (0 ≤ iK q k) && decide (iK q k < q.ps.length))
def rng0 (q : InP) (k : Int) : Bool := decide (0 ≤ iK q k) && decide (iK q k < q.ps.length)
def inL (q : InP) (k : Int) (l : List Port) : Bool := decide (iN q k < l.length)
def stepL (q : InP) (k : Int) (l : List Port) : List Port := upd l (iN q k) fun p => (infoF q.b p).1
def didL (q : InP) (k : Int) (l : List Port) : Bool := (infoF q.b (l.getD (iN q k) Port.dflt)).2
/-! ### InfoDown -/
noncomputable def idnO (S : Stat) (q : InP) (k : Int) : Out SV := valF 3 (inline (withLoops (cV (S.rd 0 3)) []) 20 (fnOf 17) [q.arg, .v (.int .u8 k)] q.heap 3)
def dnA (q : InP) (k : Int) : List Port := upd q.ps (iN q k) fun p => { p with enabled := false }
def dnB (q : InP) (k : Int) : List Port := upd (dnA q k) (iN q k) fun p => { p with is_ := 2 }
def dnSays (q : InP) (k : Int) (l : List Port) : Bool :=
  let p := (stepL q k l).getD (iN q k) Port.dflt
  didL q k l && !(didL q k (stepL q k l)) && p.is_ == 0 && p.states.info == 0 && p.clocks.rcvdInfo == 0 && !p.flags.rcvdMsg && !p.flags.proposed && !p.flags.proposing && !p.flags.agree && !p.flags.agreed && p.flags.reselect && !p.flags.selected
def dnTail (q : InP) (k : Int) (l : List Port) : List Bool := [rngL q k l, rng0 q k, inL q k (stepL q k l), rngL q k (stepL q k l)]
theorem idn_no (S : Stat) (q : InP) (k : Int) : Out.way [true, true] (idnO S q k) = some ([q.len, !(fewF q)], .kb true) := by kernel_rfl
theorem idn_yes (S : Stat) (q : InP) (k : Int) : Out.way [true, false, true, true, true, true, true, true, true, true, true, true, true, true, true] (idnO S q k) =
    some (iHead q ++ q.big ++ [rng0 q k, inL q k q.ps, inL q k (dnA q k), ((dnA q k).getD (iN q k) Port.dflt).is_ == 0, inL q k (dnA q k)] ++ dnTail q k (dnB q k), .v (.bool (dnSays q k (dnB q k)))) := by kernel_rfl
theorem idn_not (S : Stat) (q : InP) (k : Int) : Out.way [true, false, true, true, true, true, true, true, true, false, true, true, true, true] (idnO S q k) =
    some (iHead q ++ q.big ++ [rng0 q k, inL q k q.ps, inL q k (dnA q k), ((dnA q k).getD (iN q k) Port.dflt).is_ == 0] ++ dnTail q k (dnA q k), .v (.bool (dnSays q k (dnA q k)))) := by kernel_rfl

theorem upd_len (l : List Port) (n : Nat) (f : Port → Port) : (upd l n f).length = l.length := by simp [upd]
theorem upd_get {l : List Port} {n : Nat} (h : n < l.length) (f : Port → Port) : (upd l n f).getD n Port.dflt = f (l.getD n Port.dflt) := by
  unfold upd
  rw [List.getD_eq_getElem?_getD, List.getElem?_set_self h]
  rfl
theorem stepL_len (q : InP) (k : Int) (l : List Port) : (stepL q k l).length = l.length := upd_len _ _ _
/-- what is known behind a law's first tests -/
structure Ready (q : InP) (k : Int) : Prop where
  few : fewF q = true
  ok : rightF q.b q.ps = true
  head : iHead q ++ q.big = [true, false, true, true, true, true]
  lo : 0 ≤ iK q k
  hi : iK q k < q.ps.length
  n : iN q k < q.ps.length
  l0 : rng0 q k = true
  ll : ∀ l, l.length = q.ps.length → rngL q k l = true ∧ inL q k l = true
  mem : q.ps.getD (iN q k) Port.dflt ∈ q.ps
theorem ready {q : InP} {k : Int} (hl : q.ps.length < 9223372036854775808) (hk : (Lit.int .u8 k).wf = true) (hf : fewF q = true) : Ready q k := by
  obtain ⟨h1, h2, h3, h4, h5⟩ := fewF_lens hf
  obtain ⟨k1, k2⟩ := iK_ok (wf_u8 hk) h2
  have hm := iP_mem (k := k) (wf_u8 hk) h2
  have b1 : q.ps.length ≤ 134217728 := by omega
  have b2 : q.os.length ≤ 134217728 := by omega
  have b3 : q.fs.length ≤ 134217728 := by omega
  have n0 : ((q.ps.length : Int) == 0) = false := by
    cases hb : ((q.ps.length : Int) == 0) with
    | false => rfl
    | true => have := beq_iff_eq.1 hb; omega
  have hn : iN q k < q.ps.length := by unfold iN; omega
  exact ⟨hf, h5, by simp [iHead, InP.len, InP.big, Rows.len, hl, hf, n0, b1, b2, b3], k1, k2, hn, by simp [rng0, k1, k2], fun l hl' => ⟨by simp [rngL, hl', k1, k2], by simp [inL, hl', hn]⟩, hm⟩
theorem down_says (q : InP) (k : Int) (l : List Port) (hl : iN q k < l.length) (he : (l.getD (iN q k) Port.dflt).enabled = false) (hi : (l.getD (iN q k) Port.dflt).is_ ≠ 0) : dnSays q k l = true := by
  have h1 : infoF q.b (l.getD (iN q k) Port.dflt) = (disableP (l.getD (iN q k) Port.dflt), true) := by
    unfold infoF
    rw [if_pos (by rw [he]; simpa using hi)]
  have h2 : (stepL q k l).getD (iN q k) Port.dflt = disableP (l.getD (iN q k) Port.dflt) := by
    unfold stepL
    rw [upd_get hl, h1]
  unfold dnSays didL
  rw [h1, h2]
  generalize l.getD (iN q k) Port.dflt = p at he
  have h3 : infoF q.b (disableP p) = (disableP p, false) := by
    unfold infoF disableP againP
    simp [he]
  rw [h3]
  simp [disableP, againP]
theorem idn_true (S : Stat) (q : InP) (k : Int) (hl : q.ps.length < 9223372036854775808) (h : q.Wf) (hk : (Lit.int .u8 k).wf = true) : ∃ v, (idnO S q k).sel = some v ∧ ∀ S E, v.den S E = .bool true := by
  cases hf : fewF q with
  | false => exact ⟨_, Out.way_sel (idn_no S q k) (by simp [InP.len, hl, hf]), fun _ _ => rfl⟩
  | true =>
    have r := ready hl hk hf
    have lA : (dnA q k).length = q.ps.length := upd_len _ _ _
    have lB : (dnB q k).length = q.ps.length := (upd_len _ _ _).trans lA
    have gA : (dnA q k).getD (iN q k) Port.dflt = { q.ps.getD (iN q k) Port.dflt with enabled := false } := upd_get r.n _
    have gB : (dnB q k).getD (iN q k) Port.dflt = { (dnA q k).getD (iN q k) Port.dflt with is_ := 2 } := upd_get (by rw [lA]; exact r.n) _
    cases h0 : ((dnA q k).getD (iN q k) Port.dflt).is_ == 0 with
    | true =>
      refine ⟨_, Out.way_sel (idn_yes S q k) ?_, fun S E => ?_⟩
      · rw [r.head, h0]
        simp [dnTail, r.l0, (r.ll _ rfl).2, (r.ll _ lA).2, (r.ll _ lB).1, (r.ll _ ((stepL_len q k _).trans lB)).1, (r.ll _ ((stepL_len q k _).trans lB)).2]
      · simp only [SV.den]
        rw [down_says q k _ (by rw [lB]; exact r.n) (by rw [gB, gA]) (by rw [gB]; exact (show (2 : Int) ≠ 0 by decide))]
    | false =>
      refine ⟨_, Out.way_sel (idn_not S q k) ?_, fun S E => ?_⟩
      · rw [r.head, h0]
        simp [dnTail, r.l0, (r.ll _ rfl).2, (r.ll _ lA).1, (r.ll _ lA).2, (r.ll _ ((stepL_len q k _).trans lA)).1, (r.ll _ ((stepL_len q k _).trans lA)).2]
      · simp only [SV.den]
        rw [down_says q k _ (by rw [lA]; exact r.n) (by rw [gA]) (by simpa using h0)]
end Go.Proofs.Ythhdfidenigcaaa
